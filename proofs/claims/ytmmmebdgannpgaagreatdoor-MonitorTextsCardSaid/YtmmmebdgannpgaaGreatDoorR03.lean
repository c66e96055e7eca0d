/- Part 3 of the proof: laws on memory and what functions of the program return. No conditions but those that each theorem names. -/
import Derived.Test.YtmmmebdgannpgaaGreatDoorR02
set_option linter.unusedVariables false
set_option linter.unusedSimpArgs false
/- The reference's clock: Date. -/
namespace Go.Proofs.YtmmmebdgannpgaaGreatDoor
open Go Go.RowKit

theorem rdate_out (m : Int) (hm : inM m = false) (w : World) : Calls Tryz.prog 86 #[.int .i64 m] w (DateIs m w) := by
  go_enter Tryz.func86, Tryz.ntmps86
  go_wp2_with fail
  refine (rin_any m _).mono ?_
  rintro e w1 ⟨rfl, rfl⟩
  rw [hm]
  go_wp2_with fail
  exact bodyPost_ret (v := .tuple #[.agg (civ 0 0 0 0 0).toArray, .int .i64 1]) (by simp [results, Tryz.results86, go_sem, civ]) rfl ⟨(Below.refl _ _).alloc (Nat.le_refl _) _, .inl ⟨hm, rfl⟩⟩

set_option maxHeartbeats 8000000 in
set_option maxRecDepth 100000 in
theorem rdate_in (M : Nat) (hM : M ≤ 52595999) (w : World) : Calls Tryz.prog 86 #[.int .i64 M] w (DateIs M w) := by
  have HI := Lib.hid (inM_of hM)
  go_enter Tryz.func86, Tryz.ntmps86
  go_wp2_with fail
  refine (rin_any M _).mono ?_
  rintro e w1 ⟨rfl, rfl⟩
  rw [HI.out]
  go_wp2_with fail
  have H0 : Hid (DtS w (w.heap.size + 1) w.heap.size (civ 2000 1 0 0 0) ((w.alloc (.cells #[.int .i64 0, .int .i64 0, .int .i64 0, .int .i64 0, .int .i64 0] 133)).alloc (.cells #[.int .i64 2000, .int .i64 1, .int .i64 0, .int .i64 0, .int .i64 0] 133))) :=
    ⟨RowAt.new _ (civ 2000 1 0 0 0) (by simp [civ]) _ (by simp), (RowAt.new w (civ 0 0 0 0 0) (by simp [civ]) _ rfl).alloc _, ((Below.refl _ _).alloc (Nat.le_refl _) _).alloc (by simp) _, by omega, Nat.le_refl _, by omega⟩
  generalize ((w.alloc (.cells #[.int .i64 0, .int .i64 0, .int .i64 0, .int .i64 0, .int .i64 0] 133)).alloc (.cells #[.int .i64 2000, .int .i64 1, .int .i64 0, .int .i64 0, .int .i64 0] 133)) = wx at H0 ⊢
  generalize hr : w.heap.size = r at *
  generalize r + 1 = c at *
  clear hr
  go_loopw [22] (fun _ wr => ∃ k : Nat, 2000 ≤ k ∧ k ≤ 2099 ∧ fstY k ≤ M ∧ Hid (DtS w c r (civ k 1 0 0 0) wr)) (fun _ wr => (3000 - intOf ((wr.cell? ⟨c, 0, none⟩).getD undef)).toNat)
  case atStart => exact ⟨2000, by omega, by omega, by rw [fst_2000]; omega, H0⟩
  case round =>
    clear H0
    obtain ⟨k, k0, k1, kM, HS⟩ := hrel
    have c0 : wr.cell? ⟨c, 0, none⟩ = some (.int .i64 k) := HS.out.x.at 0 rfl
    have f0 : wr.frozen? ⟨c, 0, none⟩ = false := HS.out.x.2.2 0 (by simp [civ])
    by_cases hlt : k < 2099 ∧ fstY (k + 1) ≤ M
    · obtain ⟨hk, hlt⟩ := hlt
      have F1 : Hid (∀ w, Calls Tryz.prog 106 #[.int .i64 ((k : Int) + 1), .int .i64 1] w fun e w' => e = .returned (.int .i64 (fstY (k + 1) : Nat)) ∧ w = w') := fun w => by
        have := before_any (k + 1) 1 (by omega) (by omega) (by omega) (by omega) (Or.inl rfl) w
        simpa [cumM] using this
      have HL := Lib.hid hlt
      have c1 : (wr.setCell ⟨c, 0, none⟩ (.int .i64 ((k : Int) + 1))).cell? ⟨c, 0, none⟩ = some (.int .i64 ((k : Int) + 1)) := World.cell?_setCell_same _ _ _ c0
      have hfM : (fstY (k + 1) : Int) ≤ (M : Int) := by omega
      have hki : (k : Int) < 2099 := by omega
      go_wp2_with fail
      refine (F1.out _).mono ?_
      rintro e w1 ⟨rfl, rfl⟩
      go_wp2_with fail
      go_roundw
      case rel => exact ⟨k + 1, by omega, by omega, HL.out, HS.out.set 0 (by simp [civ]) _⟩
      case measure => simp [intOf, c0, c1]; omega
    · have HN : Hid (M < fstY k + 1440 * lenY k) := by
        unfold Hid
        rw [← fstY_succ k0]
        have := fst_2100
        rcases Nat.lt_or_ge k 2099 with h | h
        · omega
        · obtain rfl : k = 2099 := by omega
          omega
      have HX : Hid (∀ w, k < 2099 → Calls Tryz.prog 106 #[.int .i64 ((k : Int) + 1), .int .i64 1] w fun e w' => e = .returned (.int .i64 (fstY (k + 1) : Nat)) ∧ w = w') := fun w _ => by
        have := before_any (k + 1) 1 (by omega) (by omega) (by omega) (by omega) (Or.inl rfl) w
        simpa [cumM] using this
      rcases Nat.lt_or_ge k 2099 with hk | hk
      case' inl =>
        have hki : (k : Int) < 2099 := by omega
        have hfM : ¬ ((fstY (k + 1) : Nat) : Int) ≤ (M : Int) := fun h => hlt ⟨hk, by omega⟩
        have HX1 := Lib.hid (fun w => HX.out w hk)
        clear HX hlt hk
        generalize fstY (k + 1) = f1 at *
        go_wp2_with fail
        refine (HX1.out _).mono ?_
        rintro e w1 ⟨rfl, rfl⟩
        clear HX1
        go_wp2_with fail
        clear hfM
        generalize decide (f1 ≤ M) = bb at *
        clear hki
      case' inr =>
        have hki : ¬ (k : Int) < 2099 := by omega
        clear HX hlt hk
        go_wp2_with fail
        clear hki
      all_goals
        clear c0 f0
        go_loopw [39] (fun _ wr => ∃ j : Nat, 1 ≤ j ∧ j ≤ 12 ∧ Hid (fstY k + 1440 * cumM k (j - 1) ≤ M) ∧ Hid (DtS w c r (civ k j 0 0 0) wr)) (fun _ wr => (3000 - intOf ((wr.cell? ⟨c, 1, none⟩).getD undef)).toNat)
        case atStart => exact ⟨1, by omega, by omega, by unfold Hid; simpa [cumM] using kM, HS⟩
        case round =>
          clear HS kM
          obtain ⟨j, j0, j1, HM, HS⟩ := hrel
          have c0 : wr.cell? ⟨c, 0, none⟩ = some (.int .i64 k) := HS.out.x.at 0 rfl
          have c1 : wr.cell? ⟨c, 1, none⟩ = some (.int .i64 j) := HS.out.x.at 1 rfl
          have f1 : wr.frozen? ⟨c, 1, none⟩ = false := HS.out.x.2.2 1 (by simp [civ])
          have HC : Hid (cumM k j = cumM k (j - 1) + lenM k j) := by
            obtain ⟨i, rfl⟩ := Nat.exists_eq_add_of_le' j0
            rfl
          have B1 : Hid (j < 12 → ∀ w, Calls Tryz.prog 106 #[.int .i64 k, .int .i64 ((j : Int) + 1)] w fun e w' => e = .returned (.int .i64 (fstY k + 1440 * cumM k j : Nat)) ∧ w = w') := fun h w => before_any k (j + 1) k0 (by omega) (by omega) (by omega) (Or.inr k1) w
          have B0 : Hid (∀ w, Calls Tryz.prog 106 #[.int .i64 k, .int .i64 (j : Int)] w fun e w' => e = .returned (.int .i64 (fstY k + 1440 * cumM k (j - 1) : Nat)) ∧ w = w') := fun w => before_any k j k0 (by omega) j0 j1 (Or.inr k1) w
          by_cases hlt : j < 12 ∧ fstY k + 1440 * cumM k j ≤ M
          · obtain ⟨hj, hlt⟩ := hlt
            have HB := Lib.hid (B1.out hj)
            have HL := Lib.hid hlt
            have hji : (j : Int) < 12 := by omega
            have c2 : (wr.setCell ⟨c, 1, none⟩ (.int .i64 ((j : Int) + 1))).cell? ⟨c, 1, none⟩ = some (.int .i64 ((j : Int) + 1)) := World.cell?_setCell_same _ _ _ c1
            have hlti : ((fstY k + 1440 * cumM k j : Nat) : Int) ≤ (M : Int) := by omega
            clear hlt B0 B1 HC HM HN
            have HL2 : Hid (fstY k + 1440 * cumM k (j + 1 - 1) ≤ M) := HL.out
            obtain ⟨z, hz⟩ : ∃ z, z = fstY k + 1440 * cumM k j := ⟨_, rfl⟩
            rw [← hz] at HB hlti
            clear HL hz
            go_wp2_with fail
            refine (HB.out _).mono ?_
            rintro e w1 ⟨rfl, rfl⟩
            go_wp2_with fail
            go_roundw
            case rel => first | exact ⟨j + 1, by omega, by omega, HL2, HS.out.set 1 (by simp [civ]) _⟩ | ((repeat apply Exists.intro); exact ⟨⟨j + 1, by omega, by omega, HL2, HS.out.set 1 (by simp [civ]) _⟩, rfl⟩)
            case measure => simp [intOf, c1, c2]; omega
          · obtain ⟨z0, hz0⟩ : ∃ z0, z0 = fstY k + 1440 * cumM k (j - 1) := ⟨_, rfl⟩
            obtain ⟨R, hR⟩ : ∃ R, R = M - z0 := ⟨_, rfl⟩
            have HN2 : Hid (R < 1440 * lenM k j ∧ M = z0 + R) := by
              have h1 := HM.out
              have h2 := HN.out
              have h3 := HC.out
              refine ⟨?_, by omega⟩
              rcases Nat.lt_or_ge j 12 with h | h
              · omega
              · obtain rfl : j = 12 := by omega
                have h4 := cumM_all k
                omega
            have hM0 : z0 ≤ M := by rw [hz0]; exact HM.out
            have hRl : (R : Int) ≤ 100000000 := by omega
            have hRs : (M : Int) - (z0 : Int) = (R : Int) := by omega
            have HE : Hid (DateOf M k j (1 + R / 1440) (R / 60 % 24) (R % 60)) := by
              have h1 := HN2.out
              refine ⟨k0, k1, j0, j1, by omega, by have := h1.1; omega, by omega, by omega, ?_⟩
              rw [h1.2, hz0, show 1 + R / 1440 - 1 = R / 1440 by omega]
              omega
            rw [← hz0] at B0
            have c2 : wr.cell? ⟨c, 2, none⟩ = some (.int .i64 0) := HS.out.x.at 2 rfl
            have c3 : wr.cell? ⟨c, 3, none⟩ = some (.int .i64 0) := HS.out.x.at 3 rfl
            have c4 : wr.cell? ⟨c, 4, none⟩ = some (.int .i64 0) := HS.out.x.at 4 rfl
            have g2 : wr.frozen? ⟨c, 2, none⟩ = false := HS.out.x.2.2 2 (by simp [civ])
            have g3 : wr.frozen? ⟨c, 3, none⟩ = false := HS.out.x.2.2 3 (by simp [civ])
            have g4 : wr.frozen? ⟨c, 4, none⟩ = false := HS.out.x.2.2 4 (by simp [civ])
            have HB1 : Hid (j < 12 → ∃ z : Nat, M < z ∧ ∀ w, Calls Tryz.prog 106 #[.int .i64 k, .int .i64 ((j : Int) + 1)] w fun e w' => e = .returned (.int .i64 (z : Nat)) ∧ w = w') := fun h => ⟨_, by have := hlt; omega, B1.out h⟩
            have HS4 : Hid (DtS w c r [.int .i64 k, .int .i64 j, .int .i64 (1 + (R : Int) / 1440), .int .i64 ((R : Int) / 60 % 24), .int .i64 ((R : Int) % 60)] (((wr.setCell ⟨c, 2, none⟩ (.int .i64 (1 + (R : Int) / 1440))).setCell ⟨c, 3, none⟩ (.int .i64 ((R : Int) / 60 % 24))).setCell ⟨c, 4, none⟩ (.int .i64 ((R : Int) % 60)))) :=
              ((HS.out.set 2 (by simp [civ]) _).set 3 (by simp [civ]) _).set 4 (by simp [civ]) _
            clear hlt B1 HM HN HC hz0 hR HS HN2
            rcases Nat.lt_or_ge j 12 with hj | hj
            case' inl =>
              obtain ⟨z, hzM, hz⟩ := HB1.out hj
              have HZ := Lib.hid hz
              have hji : (j : Int) < 12 := by omega
              have hzi : ¬ (z : Int) ≤ (M : Int) := by omega
              clear hz HB1 hj
              go_wp2_with fail
              refine (HZ.out _).mono ?_
              rintro e w1 ⟨rfl, rfl⟩
              clear HZ
            case' inr =>
              have hji : ¬ (j : Int) < 12 := by omega
              clear HB1 hj
            all_goals
              go_wp2_with fail
              refine (B0.out _).mono ?_
              rintro e w1 ⟨rfl, rfl⟩
              go_wp2_with (first
                | ((first | with_reducible refine gate_st ?_ | with_reducible refine gate_stw ?_)
                   refine row_store rfl _ _ rfl r rfl (civ 0 0 0 0 0) [.int .i64 k, .int .i64 j, .int .i64 (1 + (R : Int) / 1440), .int .i64 ((R : Int) / 60 % 24), .int .i64 ((R : Int) % 60)] rfl HS4.out.y rfl rowT_civ (List.all_eq_true.1 rfl) ?_
                   intro wz HRow Hap)
                | fail)
              refine ret_row2 rfl _ _ (.int .i64 0) HRow rowT_civ rfl rfl rfl ⟨HS4.out.b.trans (Hap.below HS4.out.hr), .inr ⟨M, k, j, 1 + R / 1440, R / 60 % 24, R % 60, rfl, HE.out, rfl⟩⟩
theorem rdate_any (m : Int) (w : World) : Calls Tryz.prog 86 #[.int .i64 m] w (DateIs m w) := by
  cases h : inM m with
  | false => exact rdate_out m h w
  | true =>
    obtain ⟨M, rfl, hM⟩ := inM_nat h
    exact rdate_in M hM w
end Go.Proofs.YtmmmebdgannpgaaGreatDoor
/- The sum of two strings, as an operation. -/
namespace Go.Proofs.YtmmmebdgannpgaaGreatDoor
open Go Go.RowKit

theorem sadd (l m : List UInt8) (h : l.length + m.length ≤ 1000000) (w : World) : (Op.stringOp .add ⟨l.toArray⟩ ⟨m.toArray⟩).run Tryz.prog w = .ok (.string ⟨(l ++ m).toArray⟩) w := by
  have e : (⟨l.toArray⟩ ++ ⟨m.toArray⟩ : ByteArray) = ⟨(l ++ m).toArray⟩ := by apply ByteArray.ext; simp [ByteArray.data_append]
  rw [← e]
  exact run_string_add_sum _ _ _ (by simp [ByteArray.size]; omega)
theorem add_run {o : Oper} {a : Act} {w : World} (x y : Operand) (ho : o.op = .binOp .add 9 x y 9) (l m : List UInt8) (hx : a.eval x = .string ⟨l.toArray⟩) (hy : a.eval y = .string ⟨m.toArray⟩) (h : l.length + m.length ≤ 1000000) :
    (execOp a.eval o).run Tryz.prog w = .ok (.value (.string ⟨(l ++ m).toArray⟩)) w := by
  unfold execOp
  simp only [ho, hx, hy]
  have := sadd l m h w
  simp [go_sem, this]
end Go.Proofs.YtmmmebdgannpgaaGreatDoor
/- The text of a minute: Format of the reference; the words of both monitors for a time. -/
namespace Go.Proofs.YtmmmebdgannpgaaGreatDoor
open Go Go.RowKit

theorem padA_len : ∀ (k : Nat) (s : List UInt8) (n : Nat), (padA s k n).length = s.length + k
  | 0, _, _ => rfl
  | k + 1, s, n => by rw [padA, padA_len k, List.length_cons]; omega
theorem dtext_sum (y m d h mi : Nat) : padA [] 4 y ++ [45] ++ padA [] 2 m ++ [45] ++ padA [] 2 d ++ [32] ++ padA [] 2 h ++ [58] ++ padA [] 2 mi = dtext y m d h mi := rfl
/-- The variable of the date. -/
def CivAt (w : World) (c : Nat) (ds : List Value) (w' : World) : Prop := RowAt w' c ds ∧ Below w.heap.size w w'
theorem CivAt.new {w wr w' : World} {c : Nat} {ds : List Value} (h : CivAt w c ds wr) (hb : Below wr.heap.size wr w') : CivAt w c ds w' := ⟨h.1.below hb, below_then h.2 hb⟩
set_option maxHeartbeats 8000000 in
set_option maxRecDepth 100000 in
theorem rformat_any (minute : Int) (w : World) : Calls Tryz.prog 72 #[.int .i64 minute] w (FmtIs minute w) := by
  go_enter Tryz.func72, Tryz.ntmps72
  go_wp2_with fail
  refine (rdate_any minute w).mono ?_
  rintro e w1 ⟨hb, ⟨hi, rfl⟩ | ⟨M, y, m, d, h, mi, rfl, hd, rfl⟩⟩
  · have HB := Lib.hid hb
    have HI := Lib.hid hi
    clear hb hi
    simp only [civ]
    go_wp2_with fail
    exact bodyPost_ret (v := .tuple #[.string ⟨#[]⟩, .int .i64 1]) (by simp [results, Tryz.results72, go_sem]) rfl ⟨HB.out.alloc HB.out.size _, .inl ⟨HI.out, rfl⟩⟩
  · have HB := Lib.hid hb
    have HD := Lib.hid hd
    clear hb hd
    have HS : Hid (CivAt w w1.heap.size (civ y m d h mi) (w1.alloc (.cells #[.int .i64 y, .int .i64 m, .int .i64 d, .int .i64 h, .int .i64 mi] 133))) :=
      ⟨RowAt.new w1 (civ y m d h mi) (by simp [civ]) _ rfl, below_then HB.out ((Below.refl _ _).alloc (Nat.le_refl _) _)⟩
    simp only [civ]
    go_wp2_with fail
    generalize hc : w1.heap.size = c at *
    generalize w1.alloc _ = w2 at HS ⊢
    clear hc
    have HS1 : Hid (CivAt w c (civ y m d h mi) w2.drew) := HS.out.new ((Below.refl _ _).drew)
    refine wp_region_seqL (by kernel_rfl) (fun w' => CivAt w c (civ y m d h mi) w') 21 [(0, 0), (1, 1), (4, 0), (5, 1), (9, 0), (10, 1), (14, 0), (15, 1), (19, 0), (20, 1), (2, 2), (3, 0), (6, 2), (7, 0), (8, 0), (11, 2), (12, 0), (13, 0), (16, 2), (17, 0), (18, 0), (21, 2), (22, 0), (23, 0), (24, 0)] (by kernel_rfl) (HS1.out) ?_
    refine sl_q (d := some 14) rfl rfl rfl (.pointer (some ⟨c, 0, none⟩)) (fun w => by go_simp) ?_
    simp only [Act.put, List.setIfInBounds_toArray, List.set_cons_zero, List.set_cons_succ]
    refine sl_s (d := some 15) rfl rfl rfl (.int .i64 y) (fun w hw => by have h := hw.1.at 0 rfl; simp [execOp, Act.eval, go_sem, h]) ?_
    simp only [Act.put, List.setIfInBounds_toArray, List.set_cons_zero, List.set_cons_succ]
    refine sl_q (d := some 18) rfl rfl rfl (.pointer (some ⟨c, 1, none⟩)) (fun w => by go_simp) ?_
    simp only [Act.put, List.setIfInBounds_toArray, List.set_cons_zero, List.set_cons_succ]
    refine sl_s (d := some 19) rfl rfl rfl (.int .i64 m) (fun w hw => by have h := hw.1.at 1 rfl; simp [execOp, Act.eval, go_sem, h]) ?_
    simp only [Act.put, List.setIfInBounds_toArray, List.set_cons_zero, List.set_cons_succ]
    refine sl_q (d := some 23) rfl rfl rfl (.pointer (some ⟨c, 2, none⟩)) (fun w => by go_simp) ?_
    simp only [Act.put, List.setIfInBounds_toArray, List.set_cons_zero, List.set_cons_succ]
    refine sl_s (d := some 24) rfl rfl rfl (.int .i64 d) (fun w hw => by have h := hw.1.at 2 rfl; simp [execOp, Act.eval, go_sem, h]) ?_
    simp only [Act.put, List.setIfInBounds_toArray, List.set_cons_zero, List.set_cons_succ]
    refine sl_q (d := some 28) rfl rfl rfl (.pointer (some ⟨c, 3, none⟩)) (fun w => by go_simp) ?_
    simp only [Act.put, List.setIfInBounds_toArray, List.set_cons_zero, List.set_cons_succ]
    refine sl_s (d := some 29) rfl rfl rfl (.int .i64 h) (fun w hw => by have h := hw.1.at 3 rfl; simp [execOp, Act.eval, go_sem, h]) ?_
    simp only [Act.put, List.setIfInBounds_toArray, List.set_cons_zero, List.set_cons_succ]
    refine sl_q (d := some 33) rfl rfl rfl (.pointer (some ⟨c, 4, none⟩)) (fun w => by go_simp) ?_
    simp only [Act.put, List.setIfInBounds_toArray, List.set_cons_zero, List.set_cons_succ]
    refine sl_s (d := some 34) rfl rfl rfl (.int .i64 mi) (fun w hw => by have h := hw.1.at 4 rfl; simp [execOp, Act.eval, go_sem, h]) ?_
    simp only [Act.put, List.setIfInBounds_toArray, List.set_cons_zero, List.set_cons_succ]
    refine sl_call (d := some 16) rfl rfl rfl ⟨_, Tryz.func87, by kernel_rfl, by kernel_rfl⟩ _ _ _ rfl rfl [.int .i64 y, .int .i64 4] rfl (rdig_any y 4 (by omega) HD.out.small.1 w2.drew) ?_
    rintro e w3 ⟨rfl, hb⟩
    have HS2 := Lib.hid (HS1.out.new hb)
    refine ⟨_, rfl, fun _ => HS2.out, ?_⟩
    clear hb HS1
    simp only [Act.put, List.setIfInBounds_toArray, List.set_cons_zero, List.set_cons_succ]
    refine sl_q (d := some 17) rfl rfl rfl (.string ⟨(padA [] 4 y ++ [45]).toArray⟩) (fun w => add_run _ _ rfl (padA [] 4 y) ([45]) rfl rfl (by simp [padA_len])) ?_
    simp only [Act.put, List.setIfInBounds_toArray, List.set_cons_zero, List.set_cons_succ]
    refine sl_call (d := some 20) rfl rfl rfl ⟨_, Tryz.func87, by kernel_rfl, by kernel_rfl⟩ _ _ _ rfl rfl [.int .i64 m, .int .i64 2] rfl (rdig_any m 2 (by omega) HD.out.small.2.1 w3) ?_
    rintro e w4 ⟨rfl, hb⟩
    have HS3 := Lib.hid (HS2.out.new hb)
    refine ⟨_, rfl, fun _ => HS3.out, ?_⟩
    clear hb HS2
    simp only [Act.put, List.setIfInBounds_toArray, List.set_cons_zero, List.set_cons_succ]
    refine sl_q (d := some 21) rfl rfl rfl (.string ⟨(padA [] 4 y ++ [45] ++ padA [] 2 m).toArray⟩) (fun w => add_run _ _ rfl (padA [] 4 y ++ [45]) (padA [] 2 m) rfl rfl (by simp [padA_len])) ?_
    simp only [Act.put, List.setIfInBounds_toArray, List.set_cons_zero, List.set_cons_succ]
    refine sl_q (d := some 22) rfl rfl rfl (.string ⟨(padA [] 4 y ++ [45] ++ padA [] 2 m ++ [45]).toArray⟩) (fun w => add_run _ _ rfl (padA [] 4 y ++ [45] ++ padA [] 2 m) ([45]) rfl rfl (by simp [padA_len])) ?_
    simp only [Act.put, List.setIfInBounds_toArray, List.set_cons_zero, List.set_cons_succ]
    refine sl_call (d := some 25) rfl rfl rfl ⟨_, Tryz.func87, by kernel_rfl, by kernel_rfl⟩ _ _ _ rfl rfl [.int .i64 d, .int .i64 2] rfl (rdig_any d 2 (by omega) HD.out.small.2.2.1 w4) ?_
    rintro e w5 ⟨rfl, hb⟩
    have HS4 := Lib.hid (HS3.out.new hb)
    refine ⟨_, rfl, fun _ => HS4.out, ?_⟩
    clear hb HS3
    simp only [Act.put, List.setIfInBounds_toArray, List.set_cons_zero, List.set_cons_succ]
    refine sl_q (d := some 26) rfl rfl rfl (.string ⟨(padA [] 4 y ++ [45] ++ padA [] 2 m ++ [45] ++ padA [] 2 d).toArray⟩) (fun w => add_run _ _ rfl (padA [] 4 y ++ [45] ++ padA [] 2 m ++ [45]) (padA [] 2 d) rfl rfl (by simp [padA_len])) ?_
    simp only [Act.put, List.setIfInBounds_toArray, List.set_cons_zero, List.set_cons_succ]
    refine sl_q (d := some 27) rfl rfl rfl (.string ⟨(padA [] 4 y ++ [45] ++ padA [] 2 m ++ [45] ++ padA [] 2 d ++ [32]).toArray⟩) (fun w => add_run _ _ rfl (padA [] 4 y ++ [45] ++ padA [] 2 m ++ [45] ++ padA [] 2 d) ([32]) rfl rfl (by simp [padA_len])) ?_
    simp only [Act.put, List.setIfInBounds_toArray, List.set_cons_zero, List.set_cons_succ]
    refine sl_call (d := some 30) rfl rfl rfl ⟨_, Tryz.func87, by kernel_rfl, by kernel_rfl⟩ _ _ _ rfl rfl [.int .i64 h, .int .i64 2] rfl (rdig_any h 2 (by omega) HD.out.small.2.2.2.1 w5) ?_
    rintro e w6 ⟨rfl, hb⟩
    have HS5 := Lib.hid (HS4.out.new hb)
    refine ⟨_, rfl, fun _ => HS5.out, ?_⟩
    clear hb HS4
    simp only [Act.put, List.setIfInBounds_toArray, List.set_cons_zero, List.set_cons_succ]
    refine sl_q (d := some 31) rfl rfl rfl (.string ⟨(padA [] 4 y ++ [45] ++ padA [] 2 m ++ [45] ++ padA [] 2 d ++ [32] ++ padA [] 2 h).toArray⟩) (fun w => add_run _ _ rfl (padA [] 4 y ++ [45] ++ padA [] 2 m ++ [45] ++ padA [] 2 d ++ [32]) (padA [] 2 h) rfl rfl (by simp [padA_len])) ?_
    simp only [Act.put, List.setIfInBounds_toArray, List.set_cons_zero, List.set_cons_succ]
    refine sl_q (d := some 32) rfl rfl rfl (.string ⟨(padA [] 4 y ++ [45] ++ padA [] 2 m ++ [45] ++ padA [] 2 d ++ [32] ++ padA [] 2 h ++ [58]).toArray⟩) (fun w => add_run _ _ rfl (padA [] 4 y ++ [45] ++ padA [] 2 m ++ [45] ++ padA [] 2 d ++ [32] ++ padA [] 2 h) ([58]) rfl rfl (by simp [padA_len])) ?_
    simp only [Act.put, List.setIfInBounds_toArray, List.set_cons_zero, List.set_cons_succ]
    refine sl_call (d := some 35) rfl rfl rfl ⟨_, Tryz.func87, by kernel_rfl, by kernel_rfl⟩ _ _ _ rfl rfl [.int .i64 mi, .int .i64 2] rfl (rdig_any mi 2 (by omega) HD.out.small.2.2.2.2 w6) ?_
    rintro e w7 ⟨rfl, hb⟩
    have HSz := Lib.hid HS5.out
    refine ⟨_, rfl, (fun h => by cases h), ?_⟩
    simp only [Act.put, List.setIfInBounds_toArray, List.set_cons_zero, List.set_cons_succ]
    refine sl_q (d := some 36) rfl rfl rfl (.string ⟨(padA [] 4 y ++ [45] ++ padA [] 2 m ++ [45] ++ padA [] 2 d ++ [32] ++ padA [] 2 h ++ [58] ++ padA [] 2 mi).toArray⟩) (fun w => add_run _ _ rfl (padA [] 4 y ++ [45] ++ padA [] 2 m ++ [45] ++ padA [] 2 d ++ [32] ++ padA [] 2 h ++ [58]) (padA [] 2 mi) rfl rfl (by simp [padA_len])) ?_
    simp only [Act.put, List.setIfInBounds_toArray, List.set_cons_zero, List.set_cons_succ]
    refine sl_q (d := some 2) rfl rfl rfl (.string ⟨(padA [] 4 y ++ [45] ++ padA [] 2 m ++ [45] ++ padA [] 2 d ++ [32] ++ padA [] 2 h ++ [58] ++ padA [] 2 mi).toArray⟩) (fun w => rfl) ?_
    simp only [Act.put, List.setIfInBounds_toArray, List.set_cons_zero, List.set_cons_succ]
    refine sl_q (d := some 3) rfl rfl rfl (.int .i64 0) (fun w => rfl) ?_
    simp only [Act.put, List.setIfInBounds_toArray, List.set_cons_zero, List.set_cons_succ]
    refine sl_end ?_
    have HF : Hid (FmtIs M w (.returned (.tuple #[.string ⟨(padA [] 4 y ++ [45] ++ padA [] 2 m ++ [45] ++ padA [] 2 d ++ [32] ++ padA [] 2 h ++ [58] ++ padA [] 2 mi).toArray⟩, .int .i64 0])) w7) := ⟨below_then HSz.out.2 hb, .inr ⟨M, y, m, d, h, mi, rfl, HD.out, by rw [dtext_sum]⟩⟩
    generalize (⟨(padA [] 4 y ++ [45] ++ padA [] 2 m ++ [45] ++ padA [] 2 d ++ [32] ++ padA [] 2 h ++ [58] ++ padA [] 2 mi).toArray⟩ : ByteArray) = res at *
    go_wp2_with fail
    exact bodyPost_ret (v := .tuple #[.string res, .int .i64 0]) (by simp [results, Tryz.results72, go_sem]) rfl HF.out

/-- The word for a time. -/
def MomIs (minute : Int) (s : List UInt8) : Prop := (inM minute = false ∧ s = [63]) ∨ ∃ M y m d h mi : Nat, minute = M ∧ DateOf M y m d h mi ∧ s = dtext y m d h mi
theorem MomIs.unique {minute : Int} {s t : List UInt8} (h : MomIs minute s) (k : MomIs minute t) : s = t := by
  rcases h with ⟨h1, rfl⟩ | ⟨M, y, m, d, hh, mi, rfl, hd, rfl⟩
  · rcases k with ⟨_, rfl⟩ | ⟨M, y, m, d, hh, mi, rfl, hd, rfl⟩
    · rfl
    · exfalso
      have h2 := hd.within
      have h3 := fstY_mono (show y + 1 ≤ 2099 + 1 by have := hd.y1; omega)
      rw [fst_2100] at h3
      rw [inM_of (by omega)] at h1
      cases h1
  · rcases k with ⟨h1, rfl⟩ | ⟨M', y', m', d', hh', mi', e, hd', rfl⟩
    · exfalso
      have h2 := hd.within
      have h3 := fstY_mono (show y + 1 ≤ 2099 + 1 by have := hd.y1; omega)
      rw [fst_2100] at h3
      rw [inM_of (by omega)] at h1
      cases h1
    · obtain rfl : M = M' := by omega
      obtain ⟨rfl, rfl, rfl, rfl, rfl⟩ := hd.unique hd'
      rfl
/-- The one text. -/
noncomputable def momT (minute : Int) : List UInt8 := Classical.epsilon (MomIs minute)
theorem momT_eq {minute : Int} {s : List UInt8} (h : MomIs minute s) : s = momT minute := h.unique (Classical.epsilon_spec ⟨s, h⟩)
theorem dtext_len (y m d h mi : Nat) : (dtext y m d h mi).length = 16 := rfl
theorem MomIs.len {minute : Int} {s : List UInt8} (h : MomIs minute s) : 1 ≤ s.length ∧ s.length ≤ 16 := by
  rcases h with ⟨_, rfl⟩ | ⟨M, y, m, d, hh, mi, rfl, hd, rfl⟩
  · simp
  · rw [dtext_len]; omega
def MomOk (minute : Int) (w : World) (e : Ending) (w' : World) : Prop := e = .returned (.string ⟨(momT minute).toArray⟩) ∧ 1 ≤ (momT minute).length ∧ (momT minute).length ≤ 16 ∧ Below w.heap.size w w'
theorem time_any (minute : Int) (w : World) : Calls Tryz.prog 35 #[.int .i64 minute] w (MomOk minute w) := by
  go_enter Tryz.func35, Tryz.ntmps35
  go_wp2_with fail
  refine (format_any minute w).mono ?_
  rintro e w1 ⟨hb, h⟩
  have HB := Lib.hid hb
  clear hb
  rcases h with ⟨hi, rfl⟩ | ⟨M, y, m, d, h, mi, rfl, hd, rfl⟩
  · have HM : Hid (MomIs minute [63]) := .inl ⟨hi, rfl⟩
    clear hi
    go_wp2_with fail
    go_ret
    exact ⟨by rw [← momT_eq HM.out]; rfl, by rw [← momT_eq HM.out]; exact HM.out.len.1, by rw [← momT_eq HM.out]; exact HM.out.len.2, HB.out⟩
  · have HM : Hid (MomIs M (dtext y m d h mi)) := .inr ⟨M, y, m, d, h, mi, rfl, hd, rfl⟩
    clear hd
    generalize dtext y m d h mi = s at *
    go_wp2_with fail
    go_ret
    exact ⟨by rw [← momT_eq HM.out]; rfl, by rw [← momT_eq HM.out]; exact HM.out.len.1, by rw [← momT_eq HM.out]; exact HM.out.len.2, HB.out⟩
theorem moment_any (minute : Int) (w : World) : Calls Tryz.prog 39 #[.int .i64 minute] w (MomOk minute w) := by
  go_enter Tryz.func39, Tryz.ntmps39
  go_wp2_with fail
  refine (rformat_any minute w).mono ?_
  rintro e w1 ⟨hb, h⟩
  have HB := Lib.hid hb
  clear hb
  rcases h with ⟨hi, rfl⟩ | ⟨M, y, m, d, h, mi, rfl, hd, rfl⟩
  · have HM : Hid (MomIs minute [63]) := .inl ⟨hi, rfl⟩
    clear hi
    go_wp2_with fail
    go_ret
    exact ⟨by rw [← momT_eq HM.out]; rfl, by rw [← momT_eq HM.out]; exact HM.out.len.1, by rw [← momT_eq HM.out]; exact HM.out.len.2, HB.out⟩
  · have HM : Hid (MomIs M (dtext y m d h mi)) := .inr ⟨M, y, m, d, h, mi, rfl, hd, rfl⟩
    clear hd
    generalize dtext y m d h mi = s at *
    go_wp2_with fail
    go_ret
    exact ⟨by rw [← momT_eq HM.out]; rfl, by rw [← momT_eq HM.out]; exact HM.out.len.1, by rw [← momT_eq HM.out]; exact HM.out.len.2, HB.out⟩
end Go.Proofs.YtmmmebdgannpgaaGreatDoor
/- The monitor's small words: kinds, letters, fractions; and the reference's. -/
namespace Go.Proofs.YtmmmebdgannpgaaGreatDoor
open Go Go.RowKit

/-- A string by its bytes. -/
def strV (l : List UInt8) : Value := .string ⟨l.toArray⟩
/-- The word of a kind. -/
def kindT (n : Int) : List UInt8 := if n = 1 then [108, 97, 110, 100] else if n = 2 then [115, 104, 105, 112] else if n = 3 then [98, 117, 111, 121] else [63]
theorem kindT_len (n : Int) : 1 ≤ (kindT n).length ∧ (kindT n).length ≤ 4 := by
  by_cases h1 : n = 1
  · simp [kindT, h1]
  by_cases h2 : n = 2
  · simp [kindT, h2]
  by_cases h3 : n = 3
  · simp [kindT, h3]
  · simp [kindT, h1, h2, h3]
set_option maxRecDepth 100000 in
theorem kind_any (n : Int) (w : World) : Calls Tryz.prog 34 #[.int .i64 n] w fun e w' => e = .returned (strV (kindT n)) ∧ Below w.heap.size w w' := by
  by_cases h1 : n = 1
  · subst h1
    go_enter Tryz.func34, Tryz.ntmps34
    go_wp2_with fail
    go_ret
    exact ⟨rfl, (Below.refl _ _).alloc (Nat.le_refl _) _⟩
  by_cases h2 : n = 2
  · subst h2
    go_enter Tryz.func34, Tryz.ntmps34
    go_wp2_with fail
    go_ret
    exact ⟨rfl, (Below.refl _ _).alloc (Nat.le_refl _) _⟩
  by_cases h3 : n = 3
  · subst h3
    go_enter Tryz.func34, Tryz.ntmps34
    go_wp2_with fail
    go_ret
    exact ⟨rfl, (Below.refl _ _).alloc (Nat.le_refl _) _⟩
  have HK : Hid (kindT n = [63]) := by unfold Hid kindT; rw [if_neg h1, if_neg h2, if_neg h3]
  rcases (show n < 1 ∨ (¬ n < 1 ∧ n > 3) by omega) with h | ⟨h, h'⟩
  · clear h1 h2 h3
    go_enter Tryz.func34, Tryz.ntmps34
    go_wp2_with fail
    go_ret
    exact ⟨by rw [HK.out]; rfl, (Below.refl _ _).alloc (Nat.le_refl _) _⟩
  · clear h1 h2 h3
    go_enter Tryz.func34, Tryz.ntmps34
    go_wp2_with fail
    go_ret
    exact ⟨by rw [HK.out]; rfl, (Below.refl _ _).alloc (Nat.le_refl _) _⟩
theorem rkind_any (n : Int) (w : World) : Calls Tryz.prog 38 #[.int .i64 n] w fun e w' => e = .returned (strV (kindT n)) ∧ Below w.heap.size w w' := by
  by_cases h1 : n = 1
  · subst h1
    go_enter Tryz.func38, Tryz.ntmps38
    go_wp2_with fail
    go_ret
    exact ⟨rfl, Below.refl _ _⟩
  by_cases h2 : n = 2
  · subst h2
    go_enter Tryz.func38, Tryz.ntmps38
    go_wp2_with fail
    go_ret
    exact ⟨rfl, Below.refl _ _⟩
  by_cases h3 : n = 3
  · subst h3
    go_enter Tryz.func38, Tryz.ntmps38
    go_wp2_with fail
    go_ret
    exact ⟨rfl, Below.refl _ _⟩
  have HK : Hid (kindT n = [63]) := by unfold Hid kindT; rw [if_neg h1, if_neg h2, if_neg h3]
  have g1 : (n == 1) = false := by simpa using h1
  have g2 : (n == 2) = false := by simpa using h2
  have g3 : (n == 3) = false := by simpa using h3
  clear h1 h2 h3
  go_enter Tryz.func38, Tryz.ntmps38
  go_wp2_with fail
  go_ret
  exact ⟨by rw [HK.out]; rfl, Below.refl _ _⟩
/-- The letter of an element. -/
def letT (c : Int) : List UInt8 := if 1 ≤ c ∧ c ≤ 11 then [lets.getD (c - 1).toNat 0] else [63]
theorem letT_len (c : Int) : (letT c).length = 1 := by unfold letT; split <;> rfl
theorem letter_any (c : Int) (w : World) (hB : Bnds w) : Calls Tryz.prog 36 #[.int .i64 c] w fun e w' => e = .returned (strV (letT c)) ∧ Below w.heap.size w w' := by
  have hd := desc_any c w hB
  unfold DescOk infoOf infoV at hd
  have HD := Lib.hid hd
  clear hd hB
  by_cases h : 1 ≤ c ∧ c ≤ 11
  · have HL : Hid (letter c = ⟨(letT c).toArray⟩ ∧ descE c = 0) := by unfold Hid letter letT descE; rw [if_pos h, if_pos h, if_pos h]; exact ⟨rfl, rfl⟩
    rw [HL.out.1, HL.out.2] at HD
    generalize letT c = s at *
    generalize least c = a at *
    generalize most c = b at *
    generalize digits c = d at *
    clear HL
    go_enter Tryz.func36, Tryz.ntmps36
    go_wp2_with fail
    refine HD.out.mono ?_
    rintro e w1 ⟨rfl, hb⟩
    have HB := Lib.hid hb
    clear hb
    go_wp2_with fail
    go_ret
    exact ⟨rfl, HB.out.alloc HB.out.size _⟩
  · have HL : Hid (letT c = [63] ∧ descE c = 4) := by unfold Hid letT descE; rw [if_neg h, if_neg h]; exact ⟨rfl, rfl⟩
    rw [HL.out.2] at HD
    generalize letter c = l at *
    generalize least c = a at *
    generalize most c = b at *
    generalize digits c = d at *
    clear h
    go_enter Tryz.func36, Tryz.ntmps36
    go_wp2_with fail
    refine HD.out.mono ?_
    rintro e w1 ⟨rfl, hb⟩
    have HB := Lib.hid hb
    clear hb
    go_wp2_with fail
    go_ret
    exact ⟨by rw [HL.out.1]; rfl, HB.out.alloc HB.out.size _⟩
/-- The text of a fraction. -/
def fracT (p q : Int) : List UInt8 := if q = 1 then Lib.itoa p else Lib.itoa p ++ 47 :: Lib.itoa q
theorem itoa_len (n : Int) (h : I64 n) : 1 ≤ (Lib.itoa n).length ∧ (Lib.itoa n).length ≤ 21 := ⟨List.length_pos_iff.2 (itoa_ne n), Lib.itoa_length_le n h.1 h.2⟩
theorem fracT_len (p q : Int) (hp : I64 p) (hq : I64 q) : 1 ≤ (fracT p q).length ∧ (fracT p q).length ≤ 43 := by
  have h1 := itoa_len p hp
  have h2 := itoa_len q hq
  unfold fracT
  split
  · omega
  · simp; omega
theorem fraction_any (p q : Int) (hp : I64 p) (hq : I64 q) (w : World) (hT : Tab w) :
    Calls Tryz.prog 12 #[.agg #[.int .i64 p, .int .i64 q]] w fun e w' => e = .returned (strV (fracT p q)) ∧ Below w.heap.size w w' := by
  by_cases h : q = 1
  · subst h
    unfold fracT
    rw [if_pos rfl]
    have I0 := Lib.hid (fun w' (h : Tab w') => itoa_any p hp w' h)
    have HT := Lib.hid (hT.alloc (.cells #[.int .i64 p, .int .i64 1] 24))
    clear hp hq hT
    generalize Lib.itoa p = s at *
    go_enter Tryz.func12, Tryz.ntmps12
    go_wp2_with fail
    refine (I0.out _ HT.out).mono ?_
    rintro e w1 ⟨rfl, hb⟩
    have HB := Lib.hid (below_then ((Below.refl w.heap.size w).alloc (Nat.le_refl _) _) hb)
    clear hb
    go_wp2_with fail
    go_ret
    exact ⟨rfl, HB.out⟩
  · unfold fracT
    rw [if_neg h]
    exact frac_any p q hp hq h w hT
set_option maxHeartbeats 1000000 in
theorem rfraction_any (p q : Int) (hp : I64 p) (hq : I64 q) (w : World) :
    Calls Tryz.prog 13 #[.agg #[.int .i64 p, .int .i64 q]] w fun e w' => e = .returned (strV (fracT p q)) ∧ Below w.heap.size w w' := by
  have I0 := Lib.hid (fun w' => rdecimal_any p hp w')
  have I1 := Lib.hid (fun w' => rdecimal_any q hq w')
  have hl1 := itoa_len p hp
  have hl2 := itoa_len q hq
  unfold istr at I0 I1
  by_cases h : q = 1
  · subst h
    unfold fracT
    rw [if_pos rfl]
    clear hp hq I1 hl1 hl2
    generalize Lib.itoa p = s at *
    go_enter Tryz.func13, Tryz.ntmps13
    go_wp2_with fail
    refine (I0.out _).mono ?_
    rintro e w1 ⟨rfl, hb⟩
    have HB := Lib.hid (below_then ((Below.refl w.heap.size w).alloc (Nat.le_refl _) _) hb)
    clear hb
    go_wp2_with fail
    go_ret
    exact ⟨rfl, HB.out⟩
  · have g1 : (q == 1) = false := by simpa using h
    unfold fracT
    rw [if_neg h]
    have HS : Hid (CivAt w w.heap.size [.int .i64 p, .int .i64 q] (w.alloc (.cells #[.int .i64 p, .int .i64 q] 24))) :=
      ⟨RowAt.new w [.int .i64 p, .int .i64 q] (by simp) _ rfl, (Below.refl _ _).alloc (Nat.le_refl _) _⟩
    clear hp hq h
    generalize Lib.itoa p = s at *
    generalize Lib.itoa q = t at *
    go_enter Tryz.func13, Tryz.ntmps13
    go_wp2_with fail
    generalize w.alloc _ = w2 at HS ⊢
    have HC0 : Hid (CivAt w w.heap.size [.int .i64 p, .int .i64 q] w2.drew) := HS.out.new ((Below.refl _ _).drew)
    generalize w.heap.size = c at *
    refine wp_region_seqL (by kernel_rfl) (fun w' => CivAt w c [.int .i64 p, .int .i64 q] w') 6 [(0, 0), (1, 1), (4, 0), (5, 1), (2, 2), (3, 0), (6, 2), (7, 0), (8, 0)] (by kernel_rfl) (HC0.out) ?_
    refine sl_q (d := some 9) rfl rfl rfl (.pointer (some ⟨c, 0, none⟩)) (fun w => by go_simp) ?_
    simp only [Act.put, List.setIfInBounds_toArray, List.set_cons_zero, List.set_cons_succ]
    refine sl_s (d := some 10) rfl rfl rfl (.int .i64 p) (fun w hw => by have h := hw.1.at 0 rfl; simp [execOp, Act.eval, go_sem, h]) ?_
    simp only [Act.put, List.setIfInBounds_toArray, List.set_cons_zero, List.set_cons_succ]
    refine sl_q (d := some 13) rfl rfl rfl (.pointer (some ⟨c, 1, none⟩)) (fun w => by go_simp) ?_
    simp only [Act.put, List.setIfInBounds_toArray, List.set_cons_zero, List.set_cons_succ]
    refine sl_s (d := some 14) rfl rfl rfl (.int .i64 q) (fun w hw => by have h := hw.1.at 1 rfl; simp [execOp, Act.eval, go_sem, h]) ?_
    simp only [Act.put, List.setIfInBounds_toArray, List.set_cons_zero, List.set_cons_succ]
    refine sl_call (d := some 11) rfl rfl rfl ⟨_, Tryz.func33, by kernel_rfl, by kernel_rfl⟩ _ _ _ rfl rfl [.int .i64 p] rfl (I0.out w2.drew) ?_
    rintro e u1 ⟨rfl, hb⟩
    have HC1 := Lib.hid (HC0.out.new hb)
    refine ⟨_, rfl, fun _ => HC1.out, ?_⟩
    clear hb HC0
    simp only [Act.put, List.setIfInBounds_toArray, List.set_cons_zero, List.set_cons_succ]
    refine sl_q (d := some 12) rfl rfl rfl (.string ⟨(s ++ [47]).toArray⟩) (fun w => add_run _ _ rfl (s) ([47]) rfl rfl (by simp; omega)) ?_
    simp only [Act.put, List.setIfInBounds_toArray, List.set_cons_zero, List.set_cons_succ]
    refine sl_call (d := some 15) rfl rfl rfl ⟨_, Tryz.func33, by kernel_rfl, by kernel_rfl⟩ _ _ _ rfl rfl [.int .i64 q] rfl (I1.out u1) ?_
    rintro e u2 ⟨rfl, hb⟩
    have HC2 := Lib.hid (HC1.out.new hb)
    refine ⟨_, rfl, (fun h => by cases h), ?_⟩
    clear hb HC1
    simp only [Act.put, List.setIfInBounds_toArray, List.set_cons_zero, List.set_cons_succ]
    refine sl_q (d := some 16) rfl rfl rfl (.string ⟨(s ++ [47] ++ t).toArray⟩) (fun w => add_run _ _ rfl (s ++ [47]) (t) rfl rfl (by simp; omega)) ?_
    simp only [Act.put, List.setIfInBounds_toArray, List.set_cons_zero, List.set_cons_succ]
    refine sl_q (d := some 2) rfl rfl rfl (.string ⟨(s ++ [47] ++ t).toArray⟩) (fun w => rfl) ?_
    simp only [Act.put, List.setIfInBounds_toArray, List.set_cons_zero, List.set_cons_succ]
    refine sl_end ?_
    have HF : Hid (strV (s ++ 47 :: t) = .string ⟨(s ++ [47] ++ t).toArray⟩) := by unfold Hid strV; rw [List.append_assoc]; rfl
    generalize (⟨(s ++ [47] ++ t).toArray⟩ : ByteArray) = r at *
    go_wp2_with fail
    go_ret
    exact ⟨by rw [HF.out]; rfl, HC2.out.2⟩
end Go.Proofs.YtmmmebdgannpgaaGreatDoor
/- The monitor's writer: words and numbers, as changes of one state; the mass of a state. -/
namespace Go.Proofs.YtmmmebdgannpgaaGreatDoor
open Go Go.RowKit

theorem wordsOf_app (ss : List (List UInt8)) : ∀ (a : List UInt8), a ≠ [] → wordsOf a ss = a ++ (ss.map (32 :: ·)).flatten := by
  induction ss with
  | nil => intro a _; simp [wordsOf]
  | cons s l ih =>
    intro a ha
    rw [wordsOf, if_neg ha, ih _ (by simp)]
    simp
theorem strs_lit (w : World) (ss : List (List UInt8)) {A : Array Value} (hA : A = (ss.map strV).toArray) {H : Nat} (hH : w.heap.size = H) : StrsAt (w.alloc (.cells A 9)) H ss := by
  subst hA hH
  refine ⟨_, _, heap_alloc_new w _, fun i hi => ?_⟩
  simp [hi, strV, List.getD_eq_getElem?_getD]
theorem KeepsT.of_below {b : Nat} {w w' : World} (h : Below w.heap.size w w') : KeepsT b w w' := fun k cs T fr e _ _ => by
  rw [h.block k (Array.getElem?_eq_some_iff.1 e).1]; exact e
theorem Wrote.new {B b : Nat} {l : List UInt8} {w w' : World} (h : Lib.IsBuilder WT 5 B b (Lib.byteCells l) w) (hb : Below w.heap.size w w') (hB : B ≤ w.heap.size) : Wrote B b l w w' := ⟨isb_below h hb, hb.mono hB, KeepsT.of_below hb⟩
theorem Wrote.then {B b : Nat} {l l' : List UInt8} {w w' w'' : World} (h : Wrote B b l w w') (k : Wrote B b l' w' w'') : Wrote B b l' w w'' := ⟨k.1, h.2.1.trans k.2.1, h.2.2.trans k.2.2⟩
set_option maxHeartbeats 1000000 in
theorem number_any (B b : Nat) (l s : List UInt8) (n : Int) (w : World) (h : Lib.IsBuilder WT 5 B b (Lib.byteCells l) w) (hB : B ≤ w.heap.size) (hT : Tab w) (hn : I64 n) (hl : l.length ≤ 1000000) (hs : s.length ≤ 1000000) :
    Calls Tryz.prog 41 #[.pointer (some ⟨b, 0, none⟩), strV s, .int .i64 n] w fun e w' => e = .returned (.pointer (some ⟨b, 0, none⟩)) ∧ Wrote B b (wordsOf l [s, Lib.itoa n]) w w' := by
  have H := Lib.hid h
  have HB := Lib.hid hB
  have I0 := Lib.hid (itoa_any n hn w hT)
  have hil := itoa_len n hn
  have hb := isb_lt h
  clear h hT hn hB
  generalize Lib.itoa n = t at *
  unfold strV
  go_enter Tryz.func41, Tryz.ntmps41
  go_wp2_with fail
  refine I0.out.mono ?_
  rintro e w1 ⟨rfl, hb1⟩
  have HS : Hid (StrsAt (w1.alloc (.cells #[.string ⟨s.toArray⟩, .string ⟨t.toArray⟩] 9)) w1.heap.size [s, t]) := strs_lit w1 [s, t] rfl rfl
  have HW : Hid (Wrote B b l w (w1.alloc (.cells #[.string ⟨s.toArray⟩, .string ⟨t.toArray⟩] 9))) := Wrote.new H.out (below_then hb1 ((Below.refl _ _).alloc (Nat.le_refl _) _)) HB.out
  have hne : w1.heap.size ≠ b := by have := hb1.size; omega
  have hBs : B ≤ (w1.alloc (.cells #[.string ⟨s.toArray⟩, .string ⟨t.toArray⟩] 9)).heap.size := by have := hb1.size; have := HB.out; simp; omega
  have W := Lib.hid (words_any B b w1.heap.size 2 2 l [s, t] _ HW.out.1 HS.out rfl hne (by simp; omega) hBs)
  clear hb1 HS hBs
  go_wp2_with fail
  refine W.out.mono ?_
  rintro e w2 ⟨rfl, hw⟩
  have HF := Lib.hid (HW.out.then hw)
  clear hw W HW
  go_wp2_with fail
  go_ret
  exact ⟨rfl, HF.out⟩
/-- A writer at work beside a value of many cells. -/
structure WrS (w : World) (c b : Nat) (ds : List Value) (l : List UInt8) (wr : World) : Prop where
  box : ∃ T, T ≠ 5 ∧ wr.heap[c]? = some (.cells ds.toArray T (0, 0))
  isb : Lib.IsBuilder WT 5 w.heap.size b (Lib.byteCells l) wr
  bel : Below w.heap.size w wr
  hcb : c ≠ b
  pos : 0 < ds.length
section
variable {w wr w' : World} {c b : Nat} {ds : List Value} {l l' : List UInt8}
theorem box_row {T : TypeId} (h : wr.heap[c]? = some (.cells ds.toArray T (0, 0))) (hp : 0 < ds.length) : RowAt wr c ds := by
  refine ⟨hp, fun i hi => ?_, fun i hi => ?_⟩
  · simp [World.cell?, h]
  · simp [World.frozen?, h]
theorem WrS.civ (h : WrS w c b ds l wr) : CivAt w c ds wr := by
  obtain ⟨T, _, hb⟩ := h.box
  exact ⟨box_row hb h.pos, h.bel⟩
theorem WrS.new (h : WrS w c b ds l wr) (hb : Below wr.heap.size wr w') : WrS w c b ds l w' := by
  obtain ⟨T, hT, hx⟩ := h.box
  exact ⟨⟨T, hT, by rw [hb.block c (Array.getElem?_eq_some_iff.1 hx).1]; exact hx⟩, isb_below h.isb hb, below_then h.bel hb, h.hcb, h.pos⟩
theorem WrS.wrote (h : WrS w c b ds l wr) (k : Wrote w.heap.size b l' wr w') : WrS w c b ds l' w' := by
  obtain ⟨T, hT, hx⟩ := h.box
  exact ⟨⟨T, hT, k.2.2 c _ T _ hx hT h.hcb⟩, k.1, h.bel.trans k.2.1, h.hcb, h.pos⟩
theorem WrS.lt (h : WrS w c b ds l wr) : b < wr.heap.size := isb_lt h.isb
end
/-- The sum of a list, kept within bounds. -/
def massOf (l : List Int) : Int := l.foldl (· + ·) 0
theorem foldl_sum (l : List Int) : ∀ a : Int, l.foldl (· + ·) a = a + massOf l := by
  unfold massOf
  induction l with
  | nil => intro a; simp
  | cons x l ih => intro a; rw [List.foldl_cons, List.foldl_cons, ih, ih (0 + x)]; omega
theorem massOf_snoc (l : List Int) (x : Int) : massOf (l ++ [x]) = massOf l + x := by unfold massOf; rw [List.foldl_append]; rfl
theorem massOf_bnd {m : Int} (hm : 0 ≤ m) : ∀ (l : List Int), (∀ x ∈ l, 0 ≤ x ∧ x ≤ m) → 0 ≤ massOf l ∧ massOf l ≤ m * l.length := by
  intro l
  induction l with
  | nil => intro _; simp [massOf]
  | cons x l ih =>
    intro h
    have h1 := ih (fun y hy => h y (List.mem_cons_of_mem _ hy))
    have h2 := h x (List.mem_cons_self)
    have h3 : massOf (x :: l) = x + massOf l := by
      have := foldl_sum l (0 + x)
      unfold massOf at this ⊢
      rw [List.foldl_cons, this]; omega
    rw [h3, List.length_cons, show ((l.length + 1 : Nat) : Int) = (l.length : Int) + 1 by omega, Int.mul_add]
    omega
/-- What Mass asks of the depths. -/
structure MassL (n₀ : Nat) (w : World) (v : Value) (l : List Int) : Prop where
  ints : IntsIn n₀ w v l
  bnd : ∀ x ∈ l, 0 ≤ x ∧ x ≤ 16777216
  len : l.length ≤ 1000
theorem MassL.part {n₀ : Nat} {w : World} {v : Value} {l : List Int} (h : MassL n₀ w v l) (k : Nat) : 0 ≤ massOf (l.take k) ∧ massOf (l.take k) ≤ 16777216000 := by
  have h1 := massOf_bnd (m := 16777216) (by omega) (l.take k) (fun x hx => h.bnd x (List.mem_of_mem_take hx))
  have h2 : (l.take k).length ≤ 1000 := by rw [List.length_take]; have := h.len; omega
  have h3 : (16777216 : Int) * ((l.take k).length : Int) ≤ 16777216 * 1000 := by omega
  omega
set_option maxHeartbeats 4000000 in
theorem mass_any (f : Int) (a fa : Option Addr) (n c fn fc : Nat) (l : List Int) (w : World) (h : MassL w.heap.size w (.slice a n c) l) :
    Calls Tryz.prog 43 #[.agg #[.int .i64 f, .slice a n c, .slice fa fn fc]] w fun e w' => e = .returned (.int .i64 (massOf l)) ∧ Below w.heap.size w w' := by
  have HP := Lib.hid (fun k => h.part k)
  have HB : Hid (Below w.heap.size w (w.alloc (.cells #[.int .i64 f, .slice a n c, .slice fa fn fc] 41))) := (Below.refl _ _).alloc (Nat.le_refl _) _
  have hm0 : massOf [] = 0 := rfl
  rcases h.ints with ⟨a', c', hv, rfl⟩ | ⟨b, off, cap, hv, h1, h2, hb, hc⟩
  · obtain ⟨rfl, rfl, rfl⟩ : a = a' ∧ n = 0 ∧ c = c' := by simpa using hv
    clear h
    rw [hm0]
    go_enter Tryz.func43, Tryz.ntmps43
    go_wp2_with fail
    go_loopw [3, 9] (fun sv iv wr => sv = .int .i64 0 ∧ iv = .int .i64 0 ∧ Hid (Below w.heap.size w wr) ∧ wr.cell? ⟨w.heap.size, 1, none⟩ = some (.slice a 0 c)) (fun _ _ _ => 0)
    case atStart => exact ⟨rfl, rfl, HB, by simp⟩
    case round =>
      obtain ⟨rfl, rfl, HW, c1⟩ := hrel
      go_wp2_with fail
      go_ret
      exact ⟨rfl, HW.out⟩
  · obtain ⟨rfl, rfl, rfl⟩ : a = some ⟨b, off, none⟩ ∧ n = l.length ∧ c = cap := by simpa using hv
    have hl := h.len
    have HC : Hid (∀ (wr : World), Below w.heap.size w wr → ∀ j, j < l.length → wr.cell? ⟨b, off + j, none⟩ = some (.int .i64 (l.getD j 0))) := fun wr hw j hj => by rw [hw.cell (p := ⟨b, off + j, none⟩) hb]; exact hc j hj
    have HI : Hid (∀ j, j < l.length → 0 ≤ l.getD j 0 ∧ l.getD j 0 ≤ 16777216) := fun j hj => h.bnd _ (by rw [List.getD_eq_getElem?_getD, List.getElem?_eq_getElem hj]; exact List.getElem_mem _)
    have HS : Hid (∀ j, j < l.length → massOf (l.take (j + 1)) = massOf (l.take j) + l.getD j 0) := fun j hj => by
      rw [List.take_succ_eq_append_getElem hj, massOf_snoc]
      congr 1
      simp [List.getD_eq_getElem?_getD, hj]
    have HE : Hid (massOf (l.take l.length) = massOf l) := by unfold Hid; rw [List.take_length]
    clear h hv hc
    generalize hN : l.length = N at *
    have hcap : N ≤ c := h1
    go_enter Tryz.func43, Tryz.ntmps43
    go_wp2_with fail
    go_loopw [3, 9] (fun sv iv wr => ∃ k : Nat, k ≤ N ∧ iv = .int .i64 k ∧ sv = .int .i64 (massOf (l.take k)) ∧ Hid (Below w.heap.size w wr) ∧ wr.cell? ⟨w.heap.size, 1, none⟩ = some (.slice (some ⟨b, off, none⟩) N c)) (fun _ iv _ => N - (intOf iv).toNat)
    case atStart => exact ⟨0, by omega, rfl, by simp [massOf], HB, by simp⟩
    case round =>
      obtain ⟨k, hk, rfl, rfl, HW, c1⟩ := hrel
      by_cases hlt : k < N
      · have hki : (k : Int) < (N : Int) := by omega
        have hcell := HC.out wr HW.out k hlt
        have hb1 := HP.out k
        have hb2 := HI.out k hlt
        have HSk := Lib.hid (HS.out k hlt)
        generalize l.getD k 0 = x at *
        generalize massOf (l.take k) = s at *
        go_wp2_with fail
        go_roundw
        case rel => exact ⟨k + 1, by omega, by go_num, by rw [HSk.out], HW, c1⟩
        case measure => simp [intOf]; omega
      · obtain rfl : k = N := by omega
        rw [HE.out]
        go_wp2_with fail
        go_ret
        exact ⟨rfl, HW.out⟩
set_option maxHeartbeats 4000000 in
theorem rmass_any (f : Int) (a fa : Option Addr) (n c fn fc : Nat) (l : List Int) (w : World) (h : MassL w.heap.size w (.slice a n c) l) :
    Calls Tryz.prog 45 #[.agg #[.int .i64 f, .slice a n c, .slice fa fn fc]] w fun e w' => e = .returned (.int .i64 (massOf l)) ∧ Below w.heap.size w w' := by
  have HP := Lib.hid (fun k => h.part k)
  have HB : Hid (Below w.heap.size w (w.alloc (.cells #[.int .i64 f, .slice a n c, .slice fa fn fc] 41))) := (Below.refl _ _).alloc (Nat.le_refl _) _
  have hm0 : massOf [] = 0 := rfl
  rcases h.ints with ⟨a', c', hv, rfl⟩ | ⟨b, off, cap, hv, h1, h2, hb, hc⟩
  · obtain ⟨rfl, rfl, rfl⟩ : a = a' ∧ n = 0 ∧ c = c' := by simpa using hv
    clear h
    rw [hm0]
    go_enter Tryz.func45, Tryz.ntmps45
    go_wp2_with fail
    go_loopw [3, 4] (fun sv iv wr => sv = .int .i64 0 ∧ iv = .int .i64 0 ∧ Hid (Below w.heap.size w wr) ∧ wr.cell? ⟨w.heap.size, 1, none⟩ = some (.slice a 0 c)) (fun _ _ _ => 0)
    case atStart => exact ⟨rfl, rfl, HB, by simp⟩
    case round =>
      obtain ⟨rfl, rfl, HW, c1⟩ := hrel
      go_wp2_with fail
      go_ret
      exact ⟨rfl, HW.out⟩
  · obtain ⟨rfl, rfl, rfl⟩ : a = some ⟨b, off, none⟩ ∧ n = l.length ∧ c = cap := by simpa using hv
    have hl := h.len
    have HC : Hid (∀ (wr : World), Below w.heap.size w wr → ∀ j, j < l.length → wr.cell? ⟨b, off + j, none⟩ = some (.int .i64 (l.getD j 0))) := fun wr hw j hj => by rw [hw.cell (p := ⟨b, off + j, none⟩) hb]; exact hc j hj
    have HI : Hid (∀ j, j < l.length → 0 ≤ l.getD j 0 ∧ l.getD j 0 ≤ 16777216) := fun j hj => h.bnd _ (by rw [List.getD_eq_getElem?_getD, List.getElem?_eq_getElem hj]; exact List.getElem_mem _)
    have HS : Hid (∀ j, j < l.length → massOf (l.take (j + 1)) = massOf (l.take j) + l.getD j 0) := fun j hj => by
      rw [List.take_succ_eq_append_getElem hj, massOf_snoc]
      congr 1
      simp [List.getD_eq_getElem?_getD, hj]
    have HE : Hid (massOf (l.take l.length) = massOf l) := by unfold Hid; rw [List.take_length]
    clear h hv hc
    generalize hN : l.length = N at *
    have hcap : N ≤ c := h1
    go_enter Tryz.func45, Tryz.ntmps45
    go_wp2_with fail
    go_loopw [3, 4] (fun sv iv wr => ∃ k : Nat, k ≤ N ∧ iv = .int .i64 k ∧ sv = .int .i64 (massOf (l.take k)) ∧ Hid (Below w.heap.size w wr) ∧ wr.cell? ⟨w.heap.size, 1, none⟩ = some (.slice (some ⟨b, off, none⟩) N c)) (fun _ iv _ => N - (intOf iv).toNat)
    case atStart => exact ⟨0, by omega, rfl, by simp [massOf], HB, by simp⟩
    case round =>
      obtain ⟨k, hk, rfl, rfl, HW, c1⟩ := hrel
      by_cases hlt : k < N
      · have hki : (k : Int) < (N : Int) := by omega
        have hcell := HC.out wr HW.out k hlt
        have hb1 := HP.out k
        have hb2 := HI.out k hlt
        have HSk := Lib.hid (HS.out k hlt)
        generalize l.getD k 0 = x at *
        generalize massOf (l.take k) = s at *
        go_wp2_with fail
        go_roundw
        case rel => exact ⟨k + 1, by omega, by go_num, by rw [HSk.out], HW, c1⟩
        case measure => simp [intOf]; omega
      · obtain rfl : k = N := by omega
        rw [HE.out]
        go_wp2_with fail
        go_ret
        exact ⟨rfl, HW.out⟩
end Go.Proofs.YtmmmebdgannpgaaGreatDoor
/- A row stored as one operation of a region.  -/
namespace Go.Proofs.YtmmmebdgannpgaaGreatDoor
open Go Go.RowKit

theorem row_store_run {op : Oper} {a : Act} {w : World} {t : TypeId} (x y : Operand) (ho : op.op = .store t x y) (b : Nat) (hx : a.eval x = .pointer (some ⟨b, 0, none⟩)) (cs cs' : List Value) (hy : a.eval y = .agg cs'.toArray) (h : RowAt w b cs) (hl : cs'.length = cs.length) (ht : RowT t cs.length) (h1 : ∀ v ∈ cs', v.oneCell' = true) :
    (execOp a.eval op).run Tryz.prog w = .ok .skip (w.setCells b 0 cs') := by
  have hth : w.there b 0 cs'.toArray.size := by rw [List.size_toArray]; exact h.there (by omega)
  have hst : (storeVar t ⟨b, 0, none⟩ (.agg cs'.toArray)).run Tryz.prog w = .ok () (w.setCells b 0 cs') :=
    run_storeVar_mid w b 0 t cs'.toArray hth (by rw [ht.1, List.size_toArray, hl]) (all_oneCell_toArray h1)
  unfold execOp
  simp only [ho, hx, hy, Instr.storeAt, Instr.sureAddr, Sem.run_bind, Sem.run_pure, Result.andThen_ok, hst]
theorem RowAt.setCells {w : World} {b : Nat} {cs cs' : List Value} (h : RowAt w b cs) (hl : cs'.length = cs.length) : RowAt (w.setCells b 0 cs') b cs' := by
  have hth : w.there b 0 cs'.length := h.there (by omega)
  refine ⟨by rw [hl]; exact h.1, fun i hi => ?_, fun i hi => ?_⟩
  · have := w.rangeAt_setCells_same b 0 cs' hth i _ (List.getElem?_eq_getElem hi)
    rw [Nat.zero_add] at this
    rw [List.getElem?_eq_getElem hi]
    exact this
  · rw [World.frozen?_setCells]; exact h.2.2 i (by omega)
end Go.Proofs.YtmmmebdgannpgaaGreatDoor
/- Fractions in lowest terms: Reduce of the program and of its reference. Printed by gen_sco.py. -/
namespace Go.Proofs.YtmmmebdgannpgaaGreatDoor
open Go Go.RowKit

/-- The greatest part of a fraction. -/
def big : Int := 1152921504606846976
/-- A fraction's value, and with an error. -/
def frV (p q e : Int) : Value := .tuple #[.agg #[.int .i64 p, .int .i64 q], .int .i64 e]
/-- What Reduce gives. -/
def redOf (n d : Int) : Int × Int × Int :=
  if d = 0 ∨ ¬ (-big ≤ n ∧ n ≤ big) ∨ ¬ (-big ≤ d ∧ d ≤ big) then (0, 0, 1)
  else if d < 0 then ((-n).tdiv (Nat.gcd (-n).natAbs (-d).natAbs : Nat), (-d).tdiv (Nat.gcd (-n).natAbs (-d).natAbs : Nat), 0)
  else (n.tdiv (Nat.gcd n.natAbs d.natAbs : Nat), d.tdiv (Nat.gcd n.natAbs d.natAbs : Nat), 0)
def RedIs (x : Int × Int × Int) (w : World) (e : Ending) (w' : World) : Prop := e = .returned (frV x.1 x.2.1 x.2.2) ∧ Below w.heap.size w w'
theorem rowT_fr : RowT 24 2 := ⟨by kernel_rfl, _, Tryz.underlying24, rfl⟩
theorem tdiv_abs (n : Int) (g : Nat) (hg : 0 < g) : -(n.natAbs : Int) ≤ n.tdiv g ∧ n.tdiv g ≤ (n.natAbs : Int) := by
  have h : (n.tdiv g).natAbs ≤ n.natAbs := Int.natAbs_tdiv_le_natAbs n g
  omega
theorem within_any (n lo hi : Int) (w : World) : Calls Tryz.prog 90 #[.int .i64 n, .int .i64 lo, .int .i64 hi] w fun e w' => e = .returned (.bool (decide (lo ≤ n) && decide (n ≤ hi))) ∧ w = w' := by
  by_cases h : lo ≤ n
  · by_cases h2 : n ≤ hi
    · go_enter Tryz.func90, Tryz.ntmps90
      go_wp2
      go_ret
      exact ⟨by simp [h, h2], rfl⟩
    · go_enter Tryz.func90, Tryz.ntmps90
      go_wp2
      go_ret
      exact ⟨by simp [h, h2], rfl⟩
  · have h' : decide (lo ≤ n) = false := by simpa using h
    go_enter Tryz.func90, Tryz.ntmps90
    go_wp2
    go_ret
    exact ⟨rfl, rfl⟩
theorem red_b0 (n d : Int) (h : d = 0) (w : World) : Calls Tryz.prog 88 #[.int .i64 n, .int .i64 d] w (RedIs (0, 0, 1) w) := by
  subst h
  go_enter Tryz.func88, Tryz.ntmps88
  go_wp2_with fail
  exact bodyPost_ret (v := frV 0 0 1) (by simp [results, Tryz.results88, go_sem, frV]) rfl ⟨rfl, (Below.refl _ _).alloc (Nat.le_refl _) _⟩
theorem red_b1 (n d : Int) (h0 : (d == 0) = false) (h : n < -1152921504606846976 ∨ 1152921504606846976 < n) (w : World) : Calls Tryz.prog 88 #[.int .i64 n, .int .i64 d] w (RedIs (0, 0, 1) w) := by
  go_enter Tryz.func88, Tryz.ntmps88
  go_wp2_with fail
  refine (within_any n (-1152921504606846976) 1152921504606846976 _).mono ?_
  rintro e w1 ⟨rfl, rfl⟩
  rw [show (decide ((-1152921504606846976 : Int) ≤ n) && decide (n ≤ (1152921504606846976 : Int))) = false by simp; omega]
  go_wp2_with fail
  exact bodyPost_ret (v := frV 0 0 1) (by simp [results, Tryz.results88, go_sem, frV]) rfl ⟨rfl, (Below.refl _ _).alloc (Nat.le_refl _) _⟩
theorem red_b2 (n d : Int) (h0 : (d == 0) = false) (h1 : -1152921504606846976 ≤ n) (h2 : n ≤ 1152921504606846976) (h : d < -1152921504606846976 ∨ 1152921504606846976 < d) (w : World) : Calls Tryz.prog 88 #[.int .i64 n, .int .i64 d] w (RedIs (0, 0, 1) w) := by
  go_enter Tryz.func88, Tryz.ntmps88
  go_wp2_with fail
  refine (within_any n (-1152921504606846976) 1152921504606846976 _).mono ?_
  rintro e w1 ⟨rfl, rfl⟩
  rw [show (decide ((-1152921504606846976 : Int) ≤ n) && decide (n ≤ (1152921504606846976 : Int))) = true by simp; omega]
  go_wp2_with fail
  refine (within_any d (-1152921504606846976) 1152921504606846976 _).mono ?_
  rintro e w1 ⟨rfl, rfl⟩
  rw [show (decide ((-1152921504606846976 : Int) ≤ d) && decide (d ≤ (1152921504606846976 : Int))) = false by simp; omega]
  go_wp2_with fail
  exact bodyPost_ret (v := frV 0 0 1) (by simp [results, Tryz.results88, go_sem, frV]) rfl ⟨rfl, (Below.refl _ _).alloc (Nat.le_refl _) _⟩
set_option maxHeartbeats 4000000 in
set_option maxRecDepth 100000 in
theorem red_ok (n d : Int) (h0 : d ≠ 0) (h1 : -big ≤ n ∧ n ≤ big) (h2 : -big ≤ d ∧ d ≤ big) (w : World) : Calls Tryz.prog 88 #[.int .i64 n, .int .i64 d] w (RedIs (redOf n d) w) := by
  have hbig : big = 1152921504606846976 := rfl
  rw [hbig] at h1 h2
  obtain ⟨n0, n1⟩ := h1
  obtain ⟨d0, d1⟩ := h2
  have g0 : (d == 0) = false := by simpa using h0
  have HR : Hid (redOf n d = if d < 0 then ((-n).tdiv (Nat.gcd (-n).natAbs (-d).natAbs : Nat), (-d).tdiv (Nat.gcd (-n).natAbs (-d).natAbs : Nat), 0) else (n.tdiv (Nat.gcd n.natAbs d.natAbs : Nat), d.tdiv (Nat.gcd n.natAbs d.natAbs : Nat), 0)) := by
    unfold Hid redOf
    rw [if_neg]
    unfold big
    omega
  generalize hx : redOf n d = x at *
  clear hx hbig
  go_enter Tryz.func88, Tryz.ntmps88
  go_wp2_with fail
  refine (within_any n (-1152921504606846976) 1152921504606846976 _).mono ?_
  rintro e w1 ⟨rfl, rfl⟩
  rw [show (decide ((-1152921504606846976 : Int) ≤ n) && decide (n ≤ (1152921504606846976 : Int))) = true by simp; omega]
  go_wp2_with fail
  refine (within_any d (-1152921504606846976) 1152921504606846976 _).mono ?_
  rintro e w1 ⟨rfl, rfl⟩
  rw [show (decide ((-1152921504606846976 : Int) ≤ d) && decide (d ≤ (1152921504606846976 : Int))) = true by simp; omega]
  have HS0 : Hid (CivAt w w.heap.size [.int .i64 0, .int .i64 0] (w.alloc (.cells #[.int .i64 0, .int .i64 0] 24))) :=
    ⟨RowAt.new w [.int .i64 0, .int .i64 0] (by simp) _ rfl, (Below.refl _ _).alloc (Nat.le_refl _) _⟩
  rcases (show d < 0 ∨ 0 ≤ d by omega) with hd | hd
  case' inl =>
    rw [if_pos hd] at HR
    go_wp2_with fail
    rw [show max (-n) n = (((-n).natAbs : Nat) : Int) by omega]
    generalize hm : -n = m at *
    generalize he : -d = e at *
    have hm2 : m.natAbs ≤ 1152921504606846976 := by omega
    have he0 : 0 < e := by omega
    have he1 : e ≤ 1152921504606846976 := by omega
  case' inr =>
    rw [if_neg (by omega)] at HR
    go_wp2_with fail
    rw [show max n (-n) = ((n.natAbs : Nat) : Int) by omega]
    generalize hm : n = m at *
    generalize he : d = e at *
    have hm2 : m.natAbs ≤ 1152921504606846976 := by omega
    have he0 : 0 < e := by omega
    have he1 : e ≤ 1152921504606846976 := by omega
  all_goals
    clear hd n0 n1 d0 d1 g0 h0
    obtain ⟨E, hE⟩ := Int.eq_ofNat_of_zero_le (Int.le_of_lt he0)
    have HE : Hid (e = (E : Nat)) := hE
    generalize w.alloc _ = w2 at HS0 ⊢
    rw [show e.natAbs = E by omega] at HR
    have hE1 : E ≤ 1152921504606846976 := by omega
    have hE0 : 0 < E := by omega
    have HG : Hid (0 < Nat.gcd m.natAbs E) := Nat.gcd_pos_of_pos_right _ hE0
    obtain ⟨G, hG⟩ : ∃ G, G = Nat.gcd m.natAbs E := ⟨_, rfl⟩
    rw [← hG] at HR HG
    have HGe := Lib.hid hG
    clear hG hE
    go_loopw [6, 7] (fun av bv wr => ∃ A B : Nat, av = .int .i64 A ∧ bv = .int .i64 B ∧ Hid (G = Nat.gcd A B) ∧ A ≤ 1152921504606846976 ∧ B ≤ 1152921504606846976 ∧ Hid (CivAt w w.heap.size [.int .i64 0, .int .i64 0] wr)) (fun _ bv _ => (intOf bv).toNat)
    case atStart => exact ⟨m.natAbs, E, rfl, by rw [HE.out], HGe, hm2, hE1, HS0⟩
    case round =>
      clear HS0
      obtain ⟨A, B, rfl, rfl, HI, hA, hB, HS⟩ := hrel
      rcases Nat.eq_zero_or_pos B with hz | hz
      · subst hz
        obtain rfl : G = A := by rw [HI.out, Nat.gcd_zero_right]
        have hG0 : (G : Int) ≠ 0 := by have := HG.out; omega
        have hGb : ((G : Int) == 0) = false := by simpa using hG0
        have hq := tdiv_abs m G HG.out
        have hq2 := tdiv_abs e G HG.out
        have hGn : ¬ G = 0 := by have := HG.out; omega
        have HX : Hid (x = (m.tdiv (G : Int), e.tdiv (G : Int), 0)) := HR.out
        obtain ⟨p, hp⟩ : ∃ p, p = m.tdiv (G : Int) := ⟨_, rfl⟩
        obtain ⟨q, hqq⟩ : ∃ q, q = e.tdiv (G : Int) := ⟨_, rfl⟩
        have hw1 : IntKind.i64.wrap (m.tdiv (G : Int)) = p := by rw [hp]; exact IntWalk.i64_in _ (by omega)
        have hw2 : IntKind.i64.wrap (e.tdiv (G : Int)) = q := by rw [hqq]; exact IntWalk.i64_in _ (by omega)
        rw [← hp, ← hqq] at HX
        clear hp hqq hq hq2
        have HC0 := Lib.hid (HS.out.new ((Below.refl _ _).drew))
        go_wp2_with fail
        refine wp_region_seqL (by kernel_rfl) (fun _ => True) 7 [(0, 0), (1, 0), (2, 0), (3, 0), (4, 0), (5, 0), (6, 0), (7, 2), (8, 0)] (by kernel_rfl) (trivial) ?_
        refine sl_q (d := some 38) rfl rfl rfl (.int .i64 m) (fun w => rfl) ?_
        simp only [Act.put, List.setIfInBounds_toArray, List.set_cons_zero, List.set_cons_succ]
        refine sl_q (d := some 39) rfl rfl rfl (.int .i64 (G : Nat)) (fun w => rfl) ?_
        simp only [Act.put, List.setIfInBounds_toArray, List.set_cons_zero, List.set_cons_succ]
        refine sl_q (d := some 40) rfl rfl rfl (.int .i64 p) (fun w => by simp [execOp, Act.eval, go_sem, hGn, hw1]) ?_
        simp only [Act.put, List.setIfInBounds_toArray, List.set_cons_zero, List.set_cons_succ]
        refine sl_q (d := some 41) rfl rfl rfl (.int .i64 e) (fun w => rfl) ?_
        simp only [Act.put, List.setIfInBounds_toArray, List.set_cons_zero, List.set_cons_succ]
        refine sl_q (d := some 42) rfl rfl rfl (.int .i64 (G : Nat)) (fun w => rfl) ?_
        simp only [Act.put, List.setIfInBounds_toArray, List.set_cons_zero, List.set_cons_succ]
        refine sl_q (d := some 43) rfl rfl rfl (.int .i64 q) (fun w => by simp [execOp, Act.eval, go_sem, hGn, hw2]) ?_
        simp only [Act.put, List.setIfInBounds_toArray, List.set_cons_zero, List.set_cons_succ]
        refine sl_q (d := some 44) rfl rfl rfl (.agg #[.int .i64 p, .int .i64 q]) (fun w => by simp [execOp, Act.eval, Instr.build, go_sem]) ?_
        simp only [Act.put, List.setIfInBounds_toArray, List.set_cons_zero, List.set_cons_succ]
        refine sl_skip (d := none) rfl rfl rfl _ (row_store_run _ _ rfl w.heap.size rfl [.int .i64 0, .int .i64 0] [.int .i64 p, .int .i64 q] rfl HC0.out.1 rfl rowT_fr (List.all_eq_true.1 rfl)) (fun h => by cases h) ?_
        simp only [Act.put, List.setIfInBounds_toArray, List.set_cons_zero, List.set_cons_succ]
        refine sl_q (d := some 5) rfl rfl rfl (.int .i64 0) (fun w => rfl) ?_
        simp only [Act.put, List.setIfInBounds_toArray, List.set_cons_zero, List.set_cons_succ]
        refine sl_end ?_
        have HZ : Hid (RowAt (wr.drew.setCells w.heap.size 0 [.int .i64 p, .int .i64 q]) w.heap.size [.int .i64 p, .int .i64 q] ∧ Below w.heap.size w (wr.drew.setCells w.heap.size 0 [.int .i64 p, .int .i64 q])) := ⟨HC0.out.1.setCells rfl, HC0.out.2.trans ((apartR_setCells _ _ _ _).below (Nat.le_refl _))⟩
        generalize wr.drew.setCells w.heap.size 0 [.int .i64 p, .int .i64 q] = wz at HZ ⊢
        go_wp2_with fail
        refine ret_row2 rfl _ _ (.int .i64 0) HZ.out.1 rowT_fr rfl rfl rfl ⟨by rw [HX.out]; rfl, HZ.out.2⟩
      · have hBi : ((B : Int) == 0) = false := by simp; omega
        have hBn : ¬ B = 0 := by omega
        have hrem : ((A : Int)).tmod (B : Int) = (A : Int) % (B : Int) := Int.tmod_eq_emod_of_nonneg (by omega)
        have HN : Hid (G = Nat.gcd B (A % B)) := by unfold Hid; rw [HI.out, Nat.gcd_comm A B, Nat.gcd_rec B A, Nat.gcd_comm]
        have hlt : A % B < B := Nat.mod_lt _ hz
        go_wp2_with fail
        refine wp_region_seq (by kernel_rfl) (fun _ => True) [(0, true), (1, true), (2, true), (3, true), (4, true), (5, true)] (by kernel_rfl) (trivial) ?_
        refine seq_q (d := some 34) rfl rfl rfl (.int .i64 (B : Nat)) (fun w hw => rfl) ?_
        simp only [Act.put, List.setIfInBounds_toArray, List.set_cons_zero, List.set_cons_succ]
        refine seq_q (d := some 35) rfl rfl rfl (.int .i64 (A : Nat)) (fun w hw => rfl) ?_
        simp only [Act.put, List.setIfInBounds_toArray, List.set_cons_zero, List.set_cons_succ]
        refine seq_q (d := some 36) rfl rfl rfl (.int .i64 (B : Nat)) (fun w hw => rfl) ?_
        simp only [Act.put, List.setIfInBounds_toArray, List.set_cons_zero, List.set_cons_succ]
        refine seq_q (d := some 37) rfl rfl rfl (.int .i64 ((A % B : Nat) : Int)) (fun w hw => by simp [execOp, Act.eval, go_sem, hBn, hrem]) ?_
        simp only [Act.put, List.setIfInBounds_toArray, List.set_cons_zero, List.set_cons_succ]
        refine seq_q (d := some 6) rfl rfl rfl (.int .i64 (B : Nat)) (fun w hw => rfl) ?_
        simp only [Act.put, List.setIfInBounds_toArray, List.set_cons_zero, List.set_cons_succ]
        refine seq_q (d := some 7) rfl rfl rfl (.int .i64 ((A % B : Nat) : Int)) (fun w hw => rfl) ?_
        simp only [Act.put, List.setIfInBounds_toArray, List.set_cons_zero, List.set_cons_succ]
        refine seq_end ?_
        go_wp2_with fail
        go_roundw
        case rel => exact ⟨B, A % B, rfl, rfl, HN, hB, by omega, HS.out.new ((Below.refl _ _).drew)⟩
        case measure => simp only [intOf]; omega
theorem red_any (n d : Int) (w : World) : Calls Tryz.prog 88 #[.int .i64 n, .int .i64 d] w (RedIs (redOf n d) w) := by
  by_cases h0 : d = 0
  · rw [show redOf n d = (0, 0, 1) by unfold redOf; rw [if_pos (Or.inl h0)]]
    exact red_b0 n d h0 w
  have g0 : (d == 0) = false := by simpa using h0
  by_cases h1 : -big ≤ n ∧ n ≤ big
  · by_cases h2 : -big ≤ d ∧ d ≤ big
    · exact red_ok n d h0 h1 h2 w
    · rw [show redOf n d = (0, 0, 1) by unfold redOf; rw [if_pos (Or.inr (Or.inr h2))]]
      unfold big at h1 h2
      exact red_b2 n d g0 h1.1 h1.2 (by omega) w
  · rw [show redOf n d = (0, 0, 1) by unfold redOf; rw [if_pos (Or.inr (Or.inl h1))]]
    unfold big at h1
    exact red_b1 n d g0 (by omega) w
end Go.Proofs.YtmmmebdgannpgaaGreatDoor
/- Fractions in lowest terms: Reduce of the reference. Printed by gen_sco.py. -/
namespace Go.Proofs.YtmmmebdgannpgaaGreatDoor
open Go Go.RowKit

theorem rred_b0 (n d : Int) (h : d = 0) (w : World) : Calls Tryz.prog 89 #[.int .i64 n, .int .i64 d] w (RedIs (0, 0, 1) w) := by
  subst h
  go_enter Tryz.func89, Tryz.ntmps89
  go_wp2_with fail
  exact bodyPost_ret (v := frV 0 0 1) (by simp [results, Tryz.results89, go_sem, frV]) rfl ⟨rfl, (Below.refl _ _).alloc (Nat.le_refl _) _⟩
theorem rred_b1 (n d : Int) (h0 : (d == 0) = false) (h : n < -1152921504606846976) (w : World) : Calls Tryz.prog 89 #[.int .i64 n, .int .i64 d] w (RedIs (0, 0, 1) w) := by
  go_enter Tryz.func89, Tryz.ntmps89
  go_wp2_with fail
  exact bodyPost_ret (v := frV 0 0 1) (by simp [results, Tryz.results89, go_sem, frV]) rfl ⟨rfl, (Below.refl _ _).alloc (Nat.le_refl _) _⟩
theorem rred_b2 (n d : Int) (h0 : (d == 0) = false) (h : 1152921504606846976 < n) (w : World) : Calls Tryz.prog 89 #[.int .i64 n, .int .i64 d] w (RedIs (0, 0, 1) w) := by
  go_enter Tryz.func89, Tryz.ntmps89
  go_wp2_with fail
  exact bodyPost_ret (v := frV 0 0 1) (by simp [results, Tryz.results89, go_sem, frV]) rfl ⟨rfl, (Below.refl _ _).alloc (Nat.le_refl _) _⟩
theorem rred_b3 (n d : Int) (h0 : (d == 0) = false) (h1 : -1152921504606846976 ≤ n) (h2 : n ≤ 1152921504606846976) (h : d < -1152921504606846976) (w : World) : Calls Tryz.prog 89 #[.int .i64 n, .int .i64 d] w (RedIs (0, 0, 1) w) := by
  go_enter Tryz.func89, Tryz.ntmps89
  go_wp2_with fail
  exact bodyPost_ret (v := frV 0 0 1) (by simp [results, Tryz.results89, go_sem, frV]) rfl ⟨rfl, (Below.refl _ _).alloc (Nat.le_refl _) _⟩
theorem rred_b4 (n d : Int) (h0 : (d == 0) = false) (h1 : -1152921504606846976 ≤ n) (h2 : n ≤ 1152921504606846976) (h : 1152921504606846976 < d) (w : World) : Calls Tryz.prog 89 #[.int .i64 n, .int .i64 d] w (RedIs (0, 0, 1) w) := by
  go_enter Tryz.func89, Tryz.ntmps89
  go_wp2_with fail
  exact bodyPost_ret (v := frV 0 0 1) (by simp [results, Tryz.results89, go_sem, frV]) rfl ⟨rfl, (Below.refl _ _).alloc (Nat.le_refl _) _⟩
set_option maxHeartbeats 4000000 in
set_option maxRecDepth 100000 in
theorem rred_ok (n d : Int) (h0 : d ≠ 0) (h1 : -big ≤ n ∧ n ≤ big) (h2 : -big ≤ d ∧ d ≤ big) (w : World) : Calls Tryz.prog 89 #[.int .i64 n, .int .i64 d] w (RedIs (redOf n d) w) := by
  have hbig : big = 1152921504606846976 := rfl
  rw [hbig] at h1 h2
  obtain ⟨n0, n1⟩ := h1
  obtain ⟨d0, d1⟩ := h2
  have g0 : (d == 0) = false := by simpa using h0
  have HR : Hid (redOf n d = if d < 0 then ((-n).tdiv (Nat.gcd (-n).natAbs (-d).natAbs : Nat), (-d).tdiv (Nat.gcd (-n).natAbs (-d).natAbs : Nat), 0) else (n.tdiv (Nat.gcd n.natAbs d.natAbs : Nat), d.tdiv (Nat.gcd n.natAbs d.natAbs : Nat), 0)) := by
    unfold Hid redOf
    rw [if_neg]
    unfold big
    omega
  generalize hx : redOf n d = x at *
  clear hx hbig
  go_enter Tryz.func89, Tryz.ntmps89
  have HS0 : Hid (CivAt w w.heap.size [.int .i64 0, .int .i64 0] (w.alloc (.cells #[.int .i64 0, .int .i64 0] 24))) :=
    ⟨RowAt.new w [.int .i64 0, .int .i64 0] (by simp) _ rfl, (Below.refl _ _).alloc (Nat.le_refl _) _⟩
  rcases (show d < 0 ∨ 0 ≤ d by omega) with hd | hd
  case' inl =>
    rw [if_pos hd] at HR
    go_wp2_with fail
    rw [show max (-n) n = (((-n).natAbs : Nat) : Int) by omega]
    generalize hm : -n = m at *
    generalize he : -d = e at *
    have hm2 : m.natAbs ≤ 1152921504606846976 := by omega
    have he0 : 0 < e := by omega
    have he1 : e ≤ 1152921504606846976 := by omega
  case' inr =>
    rw [if_neg (by omega)] at HR
    go_wp2_with fail
    rw [show max n (-n) = ((n.natAbs : Nat) : Int) by omega]
    generalize hm : n = m at *
    generalize he : d = e at *
    have hm2 : m.natAbs ≤ 1152921504606846976 := by omega
    have he0 : 0 < e := by omega
    have he1 : e ≤ 1152921504606846976 := by omega
  all_goals
    clear hd n0 n1 d0 d1 g0 h0
    obtain ⟨E, hE⟩ := Int.eq_ofNat_of_zero_le (Int.le_of_lt he0)
    have HE : Hid (e = (E : Nat)) := hE
    generalize w.alloc _ = w2 at HS0 ⊢
    rw [show e.natAbs = E by omega] at HR
    have hE1 : E ≤ 1152921504606846976 := by omega
    have hE0 : 0 < E := by omega
    have HG : Hid (0 < Nat.gcd m.natAbs E) := Nat.gcd_pos_of_pos_right _ hE0
    obtain ⟨G, hG⟩ : ∃ G, G = Nat.gcd m.natAbs E := ⟨_, rfl⟩
    rw [← hG] at HR HG
    have HGe := Lib.hid hG
    clear hG hE
    go_loopw [6, 7] (fun av bv wr => ∃ A B : Nat, av = .int .i64 A ∧ bv = .int .i64 B ∧ Hid (G = Nat.gcd A B) ∧ A ≤ 1152921504606846976 ∧ B ≤ 1152921504606846976 ∧ Hid (CivAt w w.heap.size [.int .i64 0, .int .i64 0] wr)) (fun _ bv _ => (intOf bv).toNat)
    case atStart => exact ⟨m.natAbs, E, rfl, by rw [HE.out], HGe, hm2, hE1, HS0⟩
    case round =>
      clear HS0
      obtain ⟨A, B, rfl, rfl, HI, hA, hB, HS⟩ := hrel
      rcases Nat.eq_zero_or_pos B with hz | hz
      · subst hz
        obtain rfl : G = A := by rw [HI.out, Nat.gcd_zero_right]
        have hG0 : (G : Int) ≠ 0 := by have := HG.out; omega
        have hGb : ((G : Int) == 0) = false := by simpa using hG0
        have hq := tdiv_abs m G HG.out
        have hq2 := tdiv_abs e G HG.out
        have hGn : ¬ G = 0 := by have := HG.out; omega
        have HX : Hid (x = (m.tdiv (G : Int), e.tdiv (G : Int), 0)) := HR.out
        obtain ⟨p, hp⟩ : ∃ p, p = m.tdiv (G : Int) := ⟨_, rfl⟩
        obtain ⟨q, hqq⟩ : ∃ q, q = e.tdiv (G : Int) := ⟨_, rfl⟩
        have hw1 : IntKind.i64.wrap (m.tdiv (G : Int)) = p := by rw [hp]; exact IntWalk.i64_in _ (by omega)
        have hw2 : IntKind.i64.wrap (e.tdiv (G : Int)) = q := by rw [hqq]; exact IntWalk.i64_in _ (by omega)
        rw [← hp, ← hqq] at HX
        clear hp hqq hq hq2
        have HC0 := Lib.hid (HS.out.new ((Below.refl _ _).drew))
        go_wp2_with fail
        refine wp_region_seqL (by kernel_rfl) (fun _ => True) 7 [(0, 0), (1, 0), (2, 0), (3, 0), (4, 0), (5, 0), (6, 0), (7, 2), (8, 0)] (by kernel_rfl) (trivial) ?_
        refine sl_q (d := some 44) rfl rfl rfl (.int .i64 m) (fun w => rfl) ?_
        simp only [Act.put, List.setIfInBounds_toArray, List.set_cons_zero, List.set_cons_succ]
        refine sl_q (d := some 45) rfl rfl rfl (.int .i64 (G : Nat)) (fun w => rfl) ?_
        simp only [Act.put, List.setIfInBounds_toArray, List.set_cons_zero, List.set_cons_succ]
        refine sl_q (d := some 46) rfl rfl rfl (.int .i64 p) (fun w => by simp [execOp, Act.eval, go_sem, hGn, hw1]) ?_
        simp only [Act.put, List.setIfInBounds_toArray, List.set_cons_zero, List.set_cons_succ]
        refine sl_q (d := some 47) rfl rfl rfl (.int .i64 e) (fun w => rfl) ?_
        simp only [Act.put, List.setIfInBounds_toArray, List.set_cons_zero, List.set_cons_succ]
        refine sl_q (d := some 48) rfl rfl rfl (.int .i64 (G : Nat)) (fun w => rfl) ?_
        simp only [Act.put, List.setIfInBounds_toArray, List.set_cons_zero, List.set_cons_succ]
        refine sl_q (d := some 49) rfl rfl rfl (.int .i64 q) (fun w => by simp [execOp, Act.eval, go_sem, hGn, hw2]) ?_
        simp only [Act.put, List.setIfInBounds_toArray, List.set_cons_zero, List.set_cons_succ]
        refine sl_q (d := some 50) rfl rfl rfl (.agg #[.int .i64 p, .int .i64 q]) (fun w => by simp [execOp, Act.eval, Instr.build, go_sem]) ?_
        simp only [Act.put, List.setIfInBounds_toArray, List.set_cons_zero, List.set_cons_succ]
        refine sl_skip (d := none) rfl rfl rfl _ (row_store_run _ _ rfl w.heap.size rfl [.int .i64 0, .int .i64 0] [.int .i64 p, .int .i64 q] rfl HC0.out.1 rfl rowT_fr (List.all_eq_true.1 rfl)) (fun h => by cases h) ?_
        simp only [Act.put, List.setIfInBounds_toArray, List.set_cons_zero, List.set_cons_succ]
        refine sl_q (d := some 5) rfl rfl rfl (.int .i64 0) (fun w => rfl) ?_
        simp only [Act.put, List.setIfInBounds_toArray, List.set_cons_zero, List.set_cons_succ]
        refine sl_end ?_
        have HZ : Hid (RowAt (wr.drew.setCells w.heap.size 0 [.int .i64 p, .int .i64 q]) w.heap.size [.int .i64 p, .int .i64 q] ∧ Below w.heap.size w (wr.drew.setCells w.heap.size 0 [.int .i64 p, .int .i64 q])) := ⟨HC0.out.1.setCells rfl, HC0.out.2.trans ((apartR_setCells _ _ _ _).below (Nat.le_refl _))⟩
        generalize wr.drew.setCells w.heap.size 0 [.int .i64 p, .int .i64 q] = wz at HZ ⊢
        go_wp2_with fail
        refine ret_row2 rfl _ _ (.int .i64 0) HZ.out.1 rowT_fr rfl rfl rfl ⟨by rw [HX.out]; rfl, HZ.out.2⟩
      · have hBi : ((B : Int) == 0) = false := by simp; omega
        have hBn : ¬ B = 0 := by omega
        have hrem : ((A : Int)).tmod (B : Int) = (A : Int) % (B : Int) := Int.tmod_eq_emod_of_nonneg (by omega)
        have HN : Hid (G = Nat.gcd B (A % B)) := by unfold Hid; rw [HI.out, Nat.gcd_comm A B, Nat.gcd_rec B A, Nat.gcd_comm]
        have hlt : A % B < B := Nat.mod_lt _ hz
        go_wp2_with fail
        refine wp_region_seq (by kernel_rfl) (fun _ => True) [(0, true), (1, true), (2, true), (3, true), (4, true), (5, true)] (by kernel_rfl) (trivial) ?_
        refine seq_q (d := some 40) rfl rfl rfl (.int .i64 (B : Nat)) (fun w hw => rfl) ?_
        simp only [Act.put, List.setIfInBounds_toArray, List.set_cons_zero, List.set_cons_succ]
        refine seq_q (d := some 41) rfl rfl rfl (.int .i64 (A : Nat)) (fun w hw => rfl) ?_
        simp only [Act.put, List.setIfInBounds_toArray, List.set_cons_zero, List.set_cons_succ]
        refine seq_q (d := some 42) rfl rfl rfl (.int .i64 (B : Nat)) (fun w hw => rfl) ?_
        simp only [Act.put, List.setIfInBounds_toArray, List.set_cons_zero, List.set_cons_succ]
        refine seq_q (d := some 43) rfl rfl rfl (.int .i64 ((A % B : Nat) : Int)) (fun w hw => by simp [execOp, Act.eval, go_sem, hBn, hrem]) ?_
        simp only [Act.put, List.setIfInBounds_toArray, List.set_cons_zero, List.set_cons_succ]
        refine seq_q (d := some 6) rfl rfl rfl (.int .i64 (B : Nat)) (fun w hw => rfl) ?_
        simp only [Act.put, List.setIfInBounds_toArray, List.set_cons_zero, List.set_cons_succ]
        refine seq_q (d := some 7) rfl rfl rfl (.int .i64 ((A % B : Nat) : Int)) (fun w hw => rfl) ?_
        simp only [Act.put, List.setIfInBounds_toArray, List.set_cons_zero, List.set_cons_succ]
        refine seq_end ?_
        go_wp2_with fail
        go_roundw
        case rel => exact ⟨B, A % B, rfl, rfl, HN, hB, by omega, HS.out.new ((Below.refl _ _).drew)⟩
        case measure => simp only [intOf]; omega
theorem rred_any (n d : Int) (w : World) : Calls Tryz.prog 89 #[.int .i64 n, .int .i64 d] w (RedIs (redOf n d) w) := by
  by_cases h0 : d = 0
  · rw [show redOf n d = (0, 0, 1) by unfold redOf; rw [if_pos (Or.inl h0)]]
    exact rred_b0 n d h0 w
  have g0 : (d == 0) = false := by simpa using h0
  by_cases h1 : -big ≤ n ∧ n ≤ big
  · by_cases h2 : -big ≤ d ∧ d ≤ big
    · exact rred_ok n d h0 h1 h2 w
    · rw [show redOf n d = (0, 0, 1) by unfold redOf; rw [if_pos (Or.inr (Or.inr h2))]]
      unfold big at h1 h2
      rcases (show d < -1152921504606846976 ∨ 1152921504606846976 < d by omega) with h | h
      · exact rred_b3 n d g0 h1.1 h1.2 h w
      · exact rred_b4 n d g0 h1.1 h1.2 h w
  · rw [show redOf n d = (0, 0, 1) by unfold redOf; rw [if_pos (Or.inr (Or.inl h1))]]
    unfold big at h1
    rcases (show n < -1152921504606846976 ∨ 1152921504606846976 < n by omega) with h | h
    · exact rred_b1 n d g0 h w
    · exact rred_b2 n d g0 h w
end Go.Proofs.YtmmmebdgannpgaaGreatDoor
/- Means of errors: of the program and of its reference. Printed by gen_scoc.py. -/
namespace Go.Proofs.YtmmmebdgannpgaaGreatDoor
open Go Go.RowKit

def I64x (x : Int × Int × Int) : Prop := I64 x.1 ∧ I64 x.2.1
theorem redOf_I64 (n d : Int) : I64x (redOf n d) := by
  unfold redOf
  split
  · exact ⟨I64.zero, I64.zero⟩
  · rename_i h
    have hb : big = 1152921504606846976 := rfl
    have h0 : d ≠ 0 := fun e => h (Or.inl e)
    have h1 : -big ≤ n ∧ n ≤ big := by
      refine Decidable.byContradiction fun e => h (Or.inr (Or.inl e))
    have h2 : -big ≤ d ∧ d ≤ big := by
      refine Decidable.byContradiction fun e => h (Or.inr (Or.inr e))
    rw [hb] at h1 h2
    split
    · have hg : 0 < Nat.gcd (-n).natAbs (-d).natAbs := Nat.gcd_pos_of_pos_right _ (by omega)
      have q1 := tdiv_abs (-n) _ hg
      have q2 := tdiv_abs (-d) _ hg
      unfold I64x I64
      dsimp only
      omega
    · have hg : 0 < Nat.gcd n.natAbs d.natAbs := Nat.gcd_pos_of_pos_right _ (by omega)
      have q1 := tdiv_abs n _ hg
      have q2 := tdiv_abs d _ hg
      unfold I64x I64
      dsimp only
      omega
def meanOf (s n : Int) : Int × Int × Int := if n < 1 then (0, 0, 9) else redOf s n
theorem meanOf_I64 (s n : Int) : I64x (meanOf s n) := by
  unfold meanOf
  split
  · exact ⟨I64.zero, I64.zero⟩
  · exact redOf_I64 s n
theorem mean_any (s n : Int) (w : World) : Calls Tryz.prog 75 #[.int .i64 s, .int .i64 n] w (RedIs (meanOf s n) w) := by
  by_cases h : n < 1
  · rw [show meanOf s n = (0, 0, 9) from if_pos h]
    go_enter Tryz.func75, Tryz.ntmps75
    go_wp2_with fail
    exact bodyPost_ret (v := frV 0 0 9) (by simp [results, Tryz.results75, go_sem, frV]) rfl ⟨rfl, (Below.refl _ _).alloc (Nat.le_refl _) _⟩
  have HR := Lib.hid (fun w => red_any s n w)
  rw [show meanOf s n = redOf s n from if_neg h]
  generalize redOf s n = x at *
  have HS : Hid (CivAt w w.heap.size [.int .i64 0, .int .i64 0] (w.alloc (.cells #[.int .i64 0, .int .i64 0] 24))) := ⟨RowAt.new w [.int .i64 0, .int .i64 0] (by simp) _ rfl, (Below.refl _ _).alloc (Nat.le_refl _) _⟩
  go_enter Tryz.func75, Tryz.ntmps75
  go_wp2_with fail
  refine (HR.out _).mono ?_
  rintro e w1 ⟨rfl, hb⟩
  have HW : Hid (CivAt w (w.heap.size) [.int .i64 0, .int .i64 0] w1) := HS.out.new hb
  clear hb HS
  obtain ⟨x1, x2, x3⟩ := x
  simp only [frV]
  go_wp2_with (first
    | ((first | with_reducible refine gate_st ?_ | with_reducible refine gate_stw ?_)
       refine row_store rfl _ _ rfl (w.heap.size) rfl [.int .i64 0, .int .i64 0] [.int .i64 x1, .int .i64 x2] rfl HW.out.1 rfl rowT_fr (List.all_eq_true.1 rfl) ?_
       intro wz HRow Hap)
    | fail)
  exact ret_row2 rfl _ _ (.int .i64 x3) HRow rowT_fr rfl rfl rfl ⟨rfl, HW.out.2.trans (Hap.below (by omega))⟩
theorem over_any (s n : Int) (w : World) : Calls Tryz.prog 76 #[.int .i64 s, .int .i64 n] w (RedIs (meanOf s n) w) := by
  by_cases h : n < 1
  · rw [show meanOf s n = (0, 0, 9) from if_pos h]
    go_enter Tryz.func76, Tryz.ntmps76
    go_wp2_with fail
    exact bodyPost_ret (v := frV 0 0 9) (by simp [results, Tryz.results76, go_sem, frV]) rfl ⟨rfl, (Below.refl _ _).alloc (Nat.le_refl _) _⟩
  have HR := Lib.hid (fun w => rred_any s n w)
  rw [show meanOf s n = redOf s n from if_neg h]
  generalize redOf s n = x at *
  have HS : Hid (CivAt w w.heap.size [.int .i64 0, .int .i64 0] (w.alloc (.cells #[.int .i64 0, .int .i64 0] 24))) := ⟨RowAt.new w [.int .i64 0, .int .i64 0] (by simp) _ rfl, (Below.refl _ _).alloc (Nat.le_refl _) _⟩
  go_enter Tryz.func76, Tryz.ntmps76
  go_wp2_with fail
  refine (HR.out _).mono ?_
  rintro e w1 ⟨rfl, hb⟩
  have HW : Hid (CivAt w (w.heap.size) [.int .i64 0, .int .i64 0] w1) := HS.out.new hb
  clear hb HS
  obtain ⟨x1, x2, x3⟩ := x
  simp only [frV]
  go_wp2_with (first
    | ((first | with_reducible refine gate_st ?_ | with_reducible refine gate_stw ?_)
       refine row_store rfl _ _ rfl (w.heap.size) rfl [.int .i64 0, .int .i64 0] [.int .i64 x1, .int .i64 x2] rfl HW.out.1 rfl rowT_fr (List.all_eq_true.1 rfl) ?_
       intro wz HRow Hap)
    | fail)
  exact ret_row2 rfl _ _ (.int .i64 x3) HRow rowT_fr rfl rfl rfl ⟨rfl, HW.out.2.trans (Hap.below (by omega))⟩
theorem Mean_any (n s a q : Int) (w : World) : Calls Tryz.prog 47 #[.agg #[.int .i64 n, .int .i64 s, .int .i64 a, .int .i64 q]] w (RedIs (meanOf s n) w) := by
  have HR := Lib.hid (fun w => mean_any s n w)
  generalize meanOf s n = x at *
  have HS : Hid (CivAt w (w.heap.size + 1) [.int .i64 0, .int .i64 0] ((w.alloc (.cells #[.int .i64 n, .int .i64 s, .int .i64 a, .int .i64 q] 31)).alloc (.cells #[.int .i64 0, .int .i64 0] 24))) := ⟨RowAt.new _ [.int .i64 0, .int .i64 0] (by simp) _ (by simp), ((Below.refl _ _).alloc (Nat.le_refl _) _).alloc (by simp) _⟩
  go_enter Tryz.func47, Tryz.ntmps47
  go_wp2_with fail
  refine (HR.out _).mono ?_
  rintro e w1 ⟨rfl, hb⟩
  have HW : Hid (CivAt w (w.heap.size + 1) [.int .i64 0, .int .i64 0] w1) := HS.out.new hb
  clear hb HS
  obtain ⟨x1, x2, x3⟩ := x
  simp only [frV]
  go_wp2_with (first
    | ((first | with_reducible refine gate_st ?_ | with_reducible refine gate_stw ?_)
       refine row_store rfl _ _ rfl (w.heap.size + 1) rfl [.int .i64 0, .int .i64 0] [.int .i64 x1, .int .i64 x2] rfl HW.out.1 rfl rowT_fr (List.all_eq_true.1 rfl) ?_
       intro wz HRow Hap)
    | fail)
  exact ret_row2 rfl _ _ (.int .i64 x3) HRow rowT_fr rfl rfl rfl ⟨rfl, HW.out.2.trans (Hap.below (by omega))⟩
theorem MeanSq_any (n s a q : Int) (w : World) : Calls Tryz.prog 48 #[.agg #[.int .i64 n, .int .i64 s, .int .i64 a, .int .i64 q]] w (RedIs (meanOf q n) w) := by
  have HR := Lib.hid (fun w => mean_any q n w)
  generalize meanOf q n = x at *
  have HS : Hid (CivAt w (w.heap.size + 1) [.int .i64 0, .int .i64 0] ((w.alloc (.cells #[.int .i64 n, .int .i64 s, .int .i64 a, .int .i64 q] 31)).alloc (.cells #[.int .i64 0, .int .i64 0] 24))) := ⟨RowAt.new _ [.int .i64 0, .int .i64 0] (by simp) _ (by simp), ((Below.refl _ _).alloc (Nat.le_refl _) _).alloc (by simp) _⟩
  go_enter Tryz.func48, Tryz.ntmps48
  go_wp2_with fail
  refine (HR.out _).mono ?_
  rintro e w1 ⟨rfl, hb⟩
  have HW : Hid (CivAt w (w.heap.size + 1) [.int .i64 0, .int .i64 0] w1) := HS.out.new hb
  clear hb HS
  obtain ⟨x1, x2, x3⟩ := x
  simp only [frV]
  go_wp2_with (first
    | ((first | with_reducible refine gate_st ?_ | with_reducible refine gate_stw ?_)
       refine row_store rfl _ _ rfl (w.heap.size + 1) rfl [.int .i64 0, .int .i64 0] [.int .i64 x1, .int .i64 x2] rfl HW.out.1 rfl rowT_fr (List.all_eq_true.1 rfl) ?_
       intro wz HRow Hap)
    | fail)
  exact ret_row2 rfl _ _ (.int .i64 x3) HRow rowT_fr rfl rfl rfl ⟨rfl, HW.out.2.trans (Hap.below (by omega))⟩
theorem rMean_any (n s a q : Int) (w : World) : Calls Tryz.prog 50 #[.agg #[.int .i64 n, .int .i64 s, .int .i64 a, .int .i64 q]] w (RedIs (meanOf s n) w) := by
  have HR := Lib.hid (fun w => over_any s n w)
  generalize meanOf s n = x at *
  have HS : Hid (CivAt w (w.heap.size + 1) [.int .i64 0, .int .i64 0] ((w.alloc (.cells #[.int .i64 n, .int .i64 s, .int .i64 a, .int .i64 q] 31)).alloc (.cells #[.int .i64 0, .int .i64 0] 24))) := ⟨RowAt.new _ [.int .i64 0, .int .i64 0] (by simp) _ (by simp), ((Below.refl _ _).alloc (Nat.le_refl _) _).alloc (by simp) _⟩
  go_enter Tryz.func50, Tryz.ntmps50
  go_wp2_with fail
  refine (HR.out _).mono ?_
  rintro e w1 ⟨rfl, hb⟩
  have HW : Hid (CivAt w (w.heap.size + 1) [.int .i64 0, .int .i64 0] w1) := HS.out.new hb
  clear hb HS
  obtain ⟨x1, x2, x3⟩ := x
  simp only [frV]
  go_wp2_with (first
    | ((first | with_reducible refine gate_st ?_ | with_reducible refine gate_stw ?_)
       refine row_store rfl _ _ rfl (w.heap.size + 1) rfl [.int .i64 0, .int .i64 0] [.int .i64 x1, .int .i64 x2] rfl HW.out.1 rfl rowT_fr (List.all_eq_true.1 rfl) ?_
       intro wz HRow Hap)
    | fail)
  exact ret_row2 rfl _ _ (.int .i64 x3) HRow rowT_fr rfl rfl rfl ⟨rfl, HW.out.2.trans (Hap.below (by omega))⟩
theorem rMeanSq_any (n s a q : Int) (w : World) : Calls Tryz.prog 51 #[.agg #[.int .i64 n, .int .i64 s, .int .i64 a, .int .i64 q]] w (RedIs (meanOf q n) w) := by
  have HR := Lib.hid (fun w => over_any q n w)
  generalize meanOf q n = x at *
  have HS : Hid (CivAt w (w.heap.size + 1) [.int .i64 0, .int .i64 0] ((w.alloc (.cells #[.int .i64 n, .int .i64 s, .int .i64 a, .int .i64 q] 31)).alloc (.cells #[.int .i64 0, .int .i64 0] 24))) := ⟨RowAt.new _ [.int .i64 0, .int .i64 0] (by simp) _ (by simp), ((Below.refl _ _).alloc (Nat.le_refl _) _).alloc (by simp) _⟩
  go_enter Tryz.func51, Tryz.ntmps51
  go_wp2_with fail
  refine (HR.out _).mono ?_
  rintro e w1 ⟨rfl, hb⟩
  have HW : Hid (CivAt w (w.heap.size + 1) [.int .i64 0, .int .i64 0] w1) := HS.out.new hb
  clear hb HS
  obtain ⟨x1, x2, x3⟩ := x
  simp only [frV]
  go_wp2_with (first
    | ((first | with_reducible refine gate_st ?_ | with_reducible refine gate_stw ?_)
       refine row_store rfl _ _ rfl (w.heap.size + 1) rfl [.int .i64 0, .int .i64 0] [.int .i64 x1, .int .i64 x2] rfl HW.out.1 rfl rowT_fr (List.all_eq_true.1 rfl) ?_
       intro wz HRow Hap)
    | fail)
  exact ret_row2 rfl _ _ (.int .i64 x3) HRow rowT_fr rfl rfl rfl ⟨rfl, HW.out.2.trans (Hap.below (by omega))⟩
end Go.Proofs.YtmmmebdgannpgaaGreatDoor
/- Scores of tables: ratio of the reference, of and scores of the program. Printed by gen_scor.py. -/
namespace Go.Proofs.YtmmmebdgannpgaaGreatDoor
open Go Go.RowKit

/-- A table's fields. -/
def tabV (h a m o : Int) : Value := .agg #[.int .i64 h, .int .i64 a, .int .i64 m, .int .i64 o]
def fineT (h a m o : Int) : Prop := ∀ x ∈ [h, a, m, o], 0 ≤ x ∧ x ≤ 10000
instance (h a m o : Int) : Decidable (fineT h a m o) := by unfold fineT; infer_instance
def ofT (h a m o num den : Int) : Int × Int × Int := if fineT h a m o then (if den = 0 then (0, 0, 9) else redOf num den) else (0, 0, 1)
theorem ofT_I64 (h a m o num den : Int) : I64x (ofT h a m o num den) := by
  unfold ofT
  split
  · split
    · exact ⟨I64.zero, I64.zero⟩
    · exact redOf_I64 _ _
  · exact ⟨I64.zero, I64.zero⟩
theorem tab_ix (h a m o : Int) (i : Nat) (hi : i < 4) (w : World) : (Instr.index 144 (tabV h a m o) (.int .i64 i)).run Tryz.prog w = .ok (.int .i64 ([h, a, m, o].getD i 0)) w := by
  have : i = 0 ∨ i = 1 ∨ i = 2 ∨ i = 3 := by omega
  rcases this with rfl | rfl | rfl | rfl
  · exact (show _ = _ by kernel_rfl)
  · exact (show _ = _ by kernel_rfl)
  · exact (show _ = _ by kernel_rfl)
  · exact (show _ = _ by kernel_rfl)
theorem bad_tab {h a m o : Int} {i : Nat} (hi : i < 4) (hx : ¬ (0 ≤ [h, a, m, o].getD i 0 ∧ [h, a, m, o].getD i 0 ≤ 10000)) (num den : Int) : ofT h a m o num den = (0, 0, 1) := by
  unfold ofT
  rw [if_neg]
  intro hf
  refine hx (hf _ ?_)
  rw [List.getD_eq_getElem?_getD, List.getElem?_eq_getElem (by simpa using hi)]
  exact List.getElem_mem _
theorem good_tab {h a m o : Int} (hp : ∀ i, i < 4 → 0 ≤ [h, a, m, o].getD i 0 ∧ [h, a, m, o].getD i 0 ≤ 10000) : fineT h a m o := by
  have h0 := hp 0 (by omega)
  have h1 := hp 1 (by omega)
  have h2 := hp 2 (by omega)
  have h3 := hp 3 (by omega)
  simp at h0 h1 h2 h3
  intro x hx
  simp at hx
  omega
set_option maxHeartbeats 4000000 in
set_option maxRecDepth 100000 in
theorem ratio_any (h a m o num den : Int) (w : World) : Calls Tryz.prog 78 #[tabV h a m o, .int .i64 num, .int .i64 den] w (RedIs (ofT h a m o num den) w) := by
  have HX : Hid (∀ i : Nat, i < 4 → ∀ w, (Instr.index 144 (.agg #[.int .i64 h, .int .i64 a, .int .i64 m, .int .i64 o]) (.int .i64 i)).run Tryz.prog w = .ok (.int .i64 ([h, a, m, o].getD i 0)) w) := fun i hi w => tab_ix h a m o i hi w
  have HBad : Hid (∀ i : Nat, i < 4 → ¬ (0 ≤ [h, a, m, o].getD i 0 ∧ [h, a, m, o].getD i 0 ≤ 10000) → ofT h a m o num den = (0, 0, 1)) := fun i hi hx => bad_tab hi hx num den
  have HGood : Hid ((∀ i, i < 4 → 0 ≤ [h, a, m, o].getD i 0 ∧ [h, a, m, o].getD i 0 ≤ 10000) → ofT h a m o num den = if den = 0 then (0, 0, 9) else redOf num den) := fun hp => if_pos (good_tab hp)
  generalize ofT h a m o num den = x at *
  have HS : Hid (CivAt w (w.heap.size + 1) [.int .i64 0, .int .i64 0] ((w.alloc (.cells #[.int .i64 h, .int .i64 a, .int .i64 m, .int .i64 o] 33)).alloc (.cells #[.int .i64 0, .int .i64 0] 24))) := ⟨RowAt.new _ [.int .i64 0, .int .i64 0] (by simp) _ (by simp), ((Below.refl _ _).alloc (Nat.le_refl _) _).alloc (by simp) _⟩
  unfold tabV
  go_enter Tryz.func78, Tryz.ntmps78
  go_wp2_with fail
  generalize hr : w.heap.size + 1 = r at *
  have hrw : w.heap.size ≤ r := by omega
  clear hr
  generalize (w.alloc _).alloc _ = w2 at HS ⊢
  generalize hl : [h, a, m, o] = l at *
  go_loopw [9, 19] (fun _ kv wr => ∃ k : Nat, k ≤ 4 ∧ kv = .int .i64 k ∧ Hid (∀ i, i < k → 0 ≤ l.getD i 0 ∧ l.getD i 0 ≤ 10000) ∧ Hid (CivAt w r [.int .i64 0, .int .i64 0] wr)) (fun _ kv _ => 4 - (intOf kv).toNat)
  case atStart => exact ⟨0, by omega, rfl, fun i hi => by omega, HS⟩
  case round =>
    clear HS
    obtain ⟨k, hk, rfl, HP, HS⟩ := hrel
    by_cases hlt : k < 4
    · have hki : (k : Int) < 4 := by omega
      have hix := HX.out k hlt
      have HB1 := Lib.hid (HBad.out k hlt)
      have HP1 : Hid (0 ≤ l.getD k 0 ∧ l.getD k 0 ≤ 10000 → ∀ i, i < k + 1 → 0 ≤ l.getD i 0 ∧ l.getD i 0 ≤ 10000) := fun hx i hi => by
        rcases Nat.lt_or_ge i k with h' | h'
        · exact HP.out i h'
        · obtain rfl : i = k := by omega
          exact hx
      generalize l.getD k 0 = y at *
      rcases (show y < 0 ∨ (¬ y < 0 ∧ y > 10000) ∨ (¬ y < 0 ∧ ¬ y > 10000) by omega) with hy | ⟨hy, hy'⟩ | ⟨hy, hy'⟩
      case' inl =>
        have HE : Hid (x = (0, 0, 1)) := HB1.out (by omega)
      case' inr.inl =>
        have HE : Hid (x = (0, 0, 1)) := HB1.out (by omega)
      case' inr.inr =>
        have HE := Lib.hid (HP1.out (by omega))
        clear HB1 HP1 HP
        go_wp2_with fail
        go_roundw
        case rel => exact ⟨k + 1, by omega, by go_num, HE.out, HS⟩
        case measure => simp [intOf]; omega
      all_goals
        clear HB1 HP1
        go_wp2_with (first
          | ((first | with_reducible refine gate_st ?_ | with_reducible refine gate_stw ?_)
             refine row_store rfl _ _ rfl r rfl [.int .i64 0, .int .i64 0] [.int .i64 0, .int .i64 0] rfl HS.out.1 rfl rowT_fr (List.all_eq_true.1 rfl) ?_
             intro wz HRow Hap)
          | fail)
        exact ret_row2 rfl _ _ (.int .i64 1) HRow rowT_fr rfl rfl rfl ⟨by rw [HE.out]; rfl, HS.out.2.trans (Hap.below hrw)⟩
    · obtain rfl : k = 4 := by omega
      have HG := Lib.hid (HGood.out HP.out)
      clear hlt HP
      by_cases hd : den = 0
      · subst hd
        have HE : Hid (x = (0, 0, 9)) := HG.out
        go_wp2_with (first
          | ((first | with_reducible refine gate_st ?_ | with_reducible refine gate_stw ?_)
             refine row_store rfl _ _ rfl r rfl [.int .i64 0, .int .i64 0] [.int .i64 0, .int .i64 0] rfl HS.out.1 rfl rowT_fr (List.all_eq_true.1 rfl) ?_
             intro wz HRow Hap)
          | fail)
        exact ret_row2 rfl _ _ (.int .i64 9) HRow rowT_fr rfl rfl rfl ⟨by rw [HE.out]; rfl, HS.out.2.trans (Hap.below hrw)⟩
      · have hd0 : (den == 0) = false := by simpa using hd
        have HR := Lib.hid (fun w => rred_any num den w)
        have HE : Hid (x = redOf num den) := by unfold Hid; rw [HG.out, if_neg hd]
        rw [← HE.out] at HR
        clear HG HE hd
        go_wp2_with fail
        refine (HR.out _).mono ?_
        rintro e w1 ⟨rfl, hb⟩
        have HW := Lib.hid (HS.out.new hb)
        clear hb HS
        obtain ⟨x1, x2, x3⟩ := x
        simp only [frV]
        go_wp2_with (first
          | ((first | with_reducible refine gate_st ?_ | with_reducible refine gate_stw ?_)
             refine row_store rfl _ _ rfl r rfl [.int .i64 0, .int .i64 0] [.int .i64 x1, .int .i64 x2] rfl HW.out.1 rfl rowT_fr (List.all_eq_true.1 rfl) ?_
             intro wz HRow Hap)
          | fail)
        exact ret_row2 rfl _ _ (.int .i64 x3) HRow rowT_fr rfl rfl rfl ⟨rfl, HW.out.2.trans (Hap.below hrw)⟩
end Go.Proofs.YtmmmebdgannpgaaGreatDoor
