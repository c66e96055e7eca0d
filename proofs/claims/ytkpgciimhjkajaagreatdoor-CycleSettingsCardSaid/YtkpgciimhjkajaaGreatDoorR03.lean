/- Part 3 of the proof: laws on memory and what functions of the program return. No conditions but those that each theorem names. -/
import Derived.Test.YtkpgciimhjkajaaGreatDoorR02
import Derived.Laws.CopyOwn
set_option linter.unusedVariables false
set_option linter.unusedSimpArgs false
/- The program's places: the address on a face, the normal place. -/
namespace Go.Proofs.YtkpgciimhjkajaaGreatDoor
open Go Go.RowKit
set_option maxHeartbeats 16000000 in
set_option maxRecDepth 100000 in
theorem pon_any (f : Nat) (hf : f < 20) (l : List Int) (hl : WOk l) (w : World) (hcr : Crn w) : Calls Tryz.prog 130 #[.int .i64 f, wV l] w fun e w' => e = .returned (.tuple #[(onP f l).val, .bool (onB f l)]) ∧ Below w.heap.size w w' := by
  obtain ⟨h0, h1, h2⟩ := crn_lt f
  have HCr := Lib.hid (fun w' (h : Below w.heap.size w w') => (hcr.then h).at f hf)
  have fi : (f : Int) < 20 := by omega
  have Hf := Lib.hid hf
  have hP : (onP f l).val = .agg #[.int .i64 f, .int .i64 (l.getD (crn f).1 0), .int .i64 (l.getD (crn f).2.1 0), .int .i64 (l.getD (crn f).2.2 0)] := rfl
  have hB : onB f l = decide (l.getD (crn f).1 0 + l.getD (crn f).2.1 0 + l.getD (crn f).2.2 0 = 840) := rfl
  have hr : ∀ j, j < 12 → 0 ≤ l.getD j 0 ∧ l.getD j 0 ≤ 840 ∧ l[j]? = some (l.getD j 0) := by
    intro j hj
    have hjl : j < l.length := by have := hl.1; omega
    have := hl.2 _ (List.getElem_mem hjl)
    rw [List.getD_eq_getElem?_getD, List.getElem?_eq_getElem hjl]
    exact ⟨this.1, this.2, rfl⟩
  obtain ⟨a0, a1, a2⟩ := hr _ h0
  obtain ⟨b0, b1, b2⟩ := hr _ h1
  obtain ⟨c0, c1, c2⟩ := hr _ h2
  rw [hP, hB]
  generalize l.getD (crn f).1 0 = a at *
  generalize l.getD (crn f).2.1 0 = b at *
  generalize l.getD (crn f).2.2 0 = c at *
  generalize (crn f).1 = x at *
  generalize (crn f).2.1 = y at *
  generalize (crn f).2.2 = z at *
  have x0 : (0 : Int) ≤ (x : Int) := by omega
  have y0 : (0 : Int) ≤ (y : Int) := by omega
  have z0 : (0 : Int) ≤ (z : Int) := by omega
  have x1 : (x : Int) < 12 := by omega
  have y1 : (y : Int) < 12 := by omega
  have z1 : (z : Int) < 12 := by omega
  obtain ⟨q, hq⟩ : ∃ q, q = decide (a + b + c = 840) := ⟨_, rfl⟩
  rw [← hq]
  have Hq := Lib.hid hq
  have Hl := Lib.hid hl.1
  have Ha2 := Lib.hid a2
  have Hb2 := Lib.hid b2
  have Hc2 := Lib.hid c2
  have hone : ∀ v ∈ l.map (Value.int .i64), v.oneCell' = true := by intro v hv; obtain ⟨z, _, rfl⟩ := List.mem_map.1 hv; rfl
  have Hone := Lib.hid hone
  clear h0 h1 h2 hf hP hB hr a2 b2 c2 hl hq hone hcr
  unfold wV
  generalize hcs : l.map (Value.int .i64) = cs at *
  have HL : Hid (cs.length = 12) := by unfold Hid; rw [← hcs, List.length_map]; exact Hl.out
  have Hx : Hid (cs[x]? = some (.int .i64 a)) := by unfold Hid; rw [← hcs, List.getElem?_map, Ha2.out]; rfl
  have Hy : Hid (cs[y]? = some (.int .i64 b)) := by unfold Hid; rw [← hcs, List.getElem?_map, Hb2.out]; rfl
  have Hz : Hid (cs[z]? = some (.int .i64 c)) := by unfold Hid; rw [← hcs, List.getElem?_map, Hc2.out]; rfl
  clear hcs
  go_enter Tryz.func130, Tryz.ntmps130
  go_upto_region 1 with fail
  obtain ⟨w1, hw1⟩ : ∃ w1, w1 = (w.alloc (.cells cs.toArray 194)).alloc (.cells (Pl.cells ⟨0, 0, 0, 0⟩).toArray 122) := ⟨_, rfl⟩
  have hw1e := hw1
  simp only [Pl.cells] at hw1e
  rw [← hw1e]
  have hb : Below ((w.alloc (.cells cs.toArray 194)).alloc (.cells (Pl.cells ⟨0, 0, 0, 0⟩).toArray 122)).heap.size ((w.alloc (.cells cs.toArray 194)).alloc (.cells (Pl.cells ⟨0, 0, 0, 0⟩).toArray 122)) w1 := by rw [hw1]; exact Below.refl _ _
  obtain ⟨r0, r1, r2⟩ := HCr.out w1 (by rw [hw1]; exact ((Below.refl _ _).alloc (Nat.le_refl _) _).alloc (by simp) _)
  clear hw1 hw1e
  go_upto_region 2 with fail
  clear r0 r1 r2 HCr fi
  obtain ⟨wz, hwz⟩ : ∃ wz, wz = w1.alloc (.cells #[.int .i64 x, .int .i64 y, .int .i64 z] 97) := ⟨_, rfl⟩
  obtain ⟨cb, hcb⟩ : ∃ cb, cb = w1.heap.size := ⟨_, rfl⟩
  have l0 : wz.cell? ⟨cb, 0, none⟩ = some (.int .i64 x) := by rw [hwz, hcb]; simp
  have l1 : wz.cell? ⟨cb, 1, none⟩ = some (.int .i64 y) := by rw [hwz, hcb]; simp
  have l2 : wz.cell? ⟨cb, 2, none⟩ = some (.int .i64 z) := by rw [hwz, hcb]; simp
  have HR : Hid (RowAt wz w.heap.size cs) := by
    unfold Hid
    rw [hwz]
    exact (((RowAt.new _ cs (by have := HL.out; omega) _ rfl).alloc _).below hb).alloc _
  have HR2 : Hid (RowAt wz (w.heap.size + 1) (Pl.cells ⟨0, 0, 0, 0⟩)) := by
    unfold Hid
    rw [hwz]
    exact ((RowAt.new _ (Pl.cells ⟨0, 0, 0, 0⟩) (by simp [Pl.cells]) _ (by simp)).below hb).alloc _
  have Hfin : Hid (Below w.heap.size w wz) := by
    unfold Hid
    rw [hwz]
    exact ((((Below.refl _ _).alloc (Nat.le_refl _) _).alloc (by simp) _).trans (hb.mono (by simp; omega))).alloc (by have := hb.size; simp at this; omega) _
  have hsz : w.heap.size + 1 < cb := by have := hb.size; simp at this; omega
  rw [← hwz, ← hcb]
  have m0 := HR.out.at x Hx.out
  have m1 := HR.out.at y Hy.out
  have m2 := HR.out.at z Hz.out
  have hcz : wz.heap.size = cb + 1 := by rw [hwz, hcb]; simp
  have Hcz := Lib.hid hcz
  have L0 : ∀ o, (wz.alloc o).cell? ⟨cb, 0, none⟩ = some (.int .i64 x) := fun o => cell_alloc o l0
  have L1 : ∀ o, (wz.alloc o).cell? ⟨cb, 1, none⟩ = some (.int .i64 y) := fun o => cell_alloc o l1
  have L2 : ∀ o, (wz.alloc o).cell? ⟨cb, 2, none⟩ = some (.int .i64 z) := fun o => cell_alloc o l2
  have M0 : ∀ o, (wz.alloc o).cell? ⟨w.heap.size, x, none⟩ = some (.int .i64 a) := fun o => cell_alloc o m0
  have M1 : ∀ o, (wz.alloc o).cell? ⟨w.heap.size, y, none⟩ = some (.int .i64 b) := fun o => cell_alloc o m1
  have M2 : ∀ o, (wz.alloc o).cell? ⟨w.heap.size, z, none⟩ = some (.int .i64 c) := fun o => cell_alloc o m2
  clear hwz hcb hb hcz
  go_region
  clear L0 L1 L2 M0 M1 M2 l0 l1 l2 m0 m1 m2
  go_upto_region 3 with fail
  obtain ⟨pb, hpb⟩ : ∃ pb, pb = wz.heap.size := ⟨_, rfl⟩
  have HPy : Hid (RowAt (wz.alloc (.cells #[.int .i64 f, .int .i64 a, .int .i64 b, .int .i64 c] 122)).drew pb (Pl.cells ⟨f, a, b, c⟩)) := by rw [hpb]; exact (RowAt.new _ (Pl.cells ⟨f, a, b, c⟩) (by simp [Pl.cells]) _ rfl).drew
  have HRy : Hid (RowAt (wz.alloc (.cells #[.int .i64 f, .int .i64 a, .int .i64 b, .int .i64 c] 122)).drew (w.heap.size + 1) (Pl.cells ⟨0, 0, 0, 0⟩)) := (HR2.out.alloc _).drew
  have Hfy : Hid (Below w.heap.size w (wz.alloc (.cells #[.int .i64 f, .int .i64 a, .int .i64 b, .int .i64 c] 122)).drew) := (Hfin.out.alloc Hfin.out.size _).drew
  have Hpb : Hid (w.heap.size + 1 < pb) := by have := Hcz.out; unfold Hid; omega
  have Hpn : Hid (pb ≠ w.heap.size + 1) := by have := Hpb.out; unfold Hid; omega
  have He5 : Hid (IntKind.i64.wrap (a + b) = a + b) := IntWalk.i64_in _ (by omega)
  have He8 : Hid (IntKind.i64.wrap (a + b + c) = a + b + c) := IntWalk.i64_in _ (by omega)
  have Hqe : Hid ((a + b + c == 840) = q) := by unfold Hid; rw [Hq.out]; rfl
  rw [← hpb]
  clear hpb
  refine wp_region_seqL (by kernel_rfl) (fun w' => RowAt w' pb (Pl.cells ⟨f, a, b, c⟩)) 3 [(0, 1), (1, 1), (2, 2), (3, 2), (4, 0)] (by kernel_rfl) (HPy.out) ?_
  refine sl_load (d := some 25) rfl rfl rfl _ _ rfl ⟨pb, 0, none⟩ rfl (.agg (Pl.cells ⟨f, a, b, c⟩).toArray) (fun w hw => hw.loadVar rowT_p) ?_
  simp only [ap_s, ap_n, ls_z, ls_s]
  refine sl_load (d := some 26) rfl rfl rfl _ _ rfl ⟨pb, 0, none⟩ rfl (.agg (Pl.cells ⟨f, a, b, c⟩).toArray) (fun w hw => hw.loadVar rowT_p) ?_
  simp only [ap_s, ap_n, ls_z, ls_s]
  refine sl_call (d := some 27) rfl rfl rfl ⟨_, Tryz.func128, by kernel_rfl, by kernel_rfl⟩ _ _ _ rfl rfl [.agg (Pl.cells ⟨f, a, b, c⟩).toArray] rfl (pvalid_any f a b c Hf.out ⟨a0, a1⟩ ⟨b0, b1⟩ ⟨c0, c1⟩ q Hq.out _) ?_
  rintro e w4 ⟨rfl, hb4⟩
  have HP4 := Lib.hid (HPy.out.drew.below hb4)
  have HR4 := Lib.hid (HRy.out.drew.below hb4)
  have Hf4 := Lib.hid (below_then Hfy.out.drew hb4)
  clear hb4
  refine ⟨_, rfl, fun _ => HP4.out, ?_⟩
  simp only [ap_s, ap_n, ls_z, ls_s]
  refine sl_rowst (d := none) rfl rfl rfl _ _ rfl (w.heap.size + 1) rfl _ (Pl.cells ⟨f, a, b, c⟩) rfl HR4.out rfl rowT_p (Pl.one _) ?_
  intro w5 h5 ha5
  refine ⟨(fun h => by cases h), ?_⟩
  simp only [ap_s, ap_n, ls_z, ls_s]
  refine sl_q (d := some 5) rfl rfl rfl (.bool q) (fun w => rfl) ?_
  simp only [ap_s, ap_n, ls_z, ls_s]
  refine sl_end ?_
  go_wp2_with fail
  exact ret_row2 rfl _ _ _ h5 rowT_p rfl rfl rfl ⟨rfl, Hf4.out.trans (ha5.below (B := w.heap.size) (Nat.le_succ _))⟩
theorem adr_skip {w : List Int} : ∀ {k : Nat}, (∀ j, j < k → onB j w = false) → adr w k = []
  | 0, _ => rfl
  | k + 1, h => by
    rw [adr, adr_skip (fun j hj => h j (by omega)), if_neg (by rw [h k (by omega)]; simp)]; rfl
theorem adr_prefix {w : List Int} {k : Nat} : ∀ {m : Nat}, k ≤ m → ∃ r, adr w m = adr w k ++ r
  | 0, h => ⟨[], by have : k = 0 := by omega
                    subst this; rfl⟩
  | m + 1, h => by
    by_cases e : k = m + 1
    · subst e; exact ⟨[], by simp⟩
    · obtain ⟨r, hr⟩ := adr_prefix (w := w) (k := k) (m := m) (by omega)
      rw [adr, hr, List.append_assoc]
      exact ⟨_, rfl⟩
theorem adr_first {w : List Int} {k : Nat} (hk : k < 20) (h : ∀ j, j < k → onB j w = false) (h2 : onB k w = true) : (adr w 20).headD ⟨0, 0, 0, 0⟩ = onP k w := by
  obtain ⟨r, hr⟩ := adr_prefix (w := w) (k := k + 1) (m := 20) (by omega)
  rw [hr, adr, adr_skip h, if_pos h2]; rfl
set_option maxHeartbeats 16000000 in
set_option maxRecDepth 100000 in
theorem pnormal_any (f : Nat) (a b c : Int) (hok : AdrOk ⟨f, a, b, c⟩) (w : World) (hcr : Crn w) :
    Calls Tryz.prog 114 #[Pl.val ⟨f, a, b, c⟩] w fun e w' => e = .returned (.tuple #[(norP ⟨f, a, b, c⟩).val, .int .i64 0]) ∧ Below w.heap.size w w' := by
  have hf : f < 20 := by have := hok.1.2.1; simp at this; omega
  have hr := hok.1
  unfold Pl.Ok at hr
  simp only at hr
  obtain ⟨_, _, a0, a1, b0, b1, c0, c1, hs⟩ := hr
  have HV := Lib.hid (fun w' => pvalid_any f a b c hf ⟨a0, a1⟩ ⟨b0, b1⟩ ⟨c0, c1⟩ true (by simp [hs]) w')
  have HO := Lib.hid (fun w' h => pof_any f hf a b c w' h)
  have hwok := wgt_ok _ hok.1
  have HN := Lib.hid (fun k (hk : k < 20) w' h => pon_any k hk (wgt ⟨f, a, b, c⟩) hwok w' h)
  have eN : norP ⟨f, a, b, c⟩ = (adr (wgt ⟨f, a, b, c⟩) 20).headD ⟨0, 0, 0, 0⟩ := rfl
  have hne := hok.2
  rw [eN]
  have eW : wgtV ⟨f, a, b, c⟩ = wV (wgt ⟨f, a, b, c⟩) := rfl
  rw [eW] at HO
  have HW := Lib.hid hwok
  have HNe := Lib.hid hne
  generalize wgt ⟨f, a, b, c⟩ = W at *
  have HCr := Lib.hid (fun w' (h : Below w.heap.size w w') => hcr.then h)
  clear hcr hok eN hne eW hwok a0 a1 b0 b1 c0 c1 hs hf
  have HR1 : Hid (RowAt ((w.alloc (.cells (Pl.cells ⟨f, a, b, c⟩).toArray 122)).alloc (.cells (Pl.cells ⟨0, 0, 0, 0⟩).toArray 122)) (w.heap.size + 1) (Pl.cells ⟨0, 0, 0, 0⟩)) := RowAt.new _ (Pl.cells ⟨0, 0, 0, 0⟩) (by simp [Pl.cells]) _ (by simp)
  have HR0 : Hid (RowAt ((w.alloc (.cells (Pl.cells ⟨f, a, b, c⟩).toArray 122)).alloc (.cells (Pl.cells ⟨0, 0, 0, 0⟩).toArray 122)) w.heap.size (Pl.cells ⟨f, a, b, c⟩)) := (RowAt.new _ _ (by simp [Pl.cells]) _ rfl).alloc _
  have HB0 : Hid (Below w.heap.size w ((w.alloc (.cells (Pl.cells ⟨f, a, b, c⟩).toArray 122)).alloc (.cells (Pl.cells ⟨0, 0, 0, 0⟩).toArray 122))) := ((Below.refl _ _).alloc (Nat.le_refl _) _).alloc (by simp) _
  unfold Pl.val
  simp only [Pl.cells] at HR0 HR1 HB0
  go_enter Tryz.func114, Tryz.ntmps114
  go_wp2_with (refine row_load rfl _ rfl _ rfl _ HR0.out rowT_p ?_)
  refine (HV.out _).mono ?_
  rintro e w1 ⟨rfl, hb1⟩
  have HB1 := Lib.hid (below_then HB0.out hb1)
  have HR01 := Lib.hid (HR0.out.below hb1)
  have HR11 := Lib.hid (HR1.out.below hb1)
  clear hb1 HB0 HR0 HR1
  go_wp2_with (refine row_load rfl _ rfl _ rfl _ HR01.out rowT_p ?_)
  refine (HO.out _ (HCr.out _ HB1.out)).mono ?_
  rintro e w2 ⟨rfl, hb2⟩
  have HB2 := Lib.hid (below_then HB1.out hb2)
  have HR12 := Lib.hid (HR11.out.below hb2)
  have HR02 := Lib.hid (HR01.out.below hb2)
  have HWl := Lib.hid (wcells_len W HW.out)
  have HW1 : Hid (∀ v ∈ W.map (Value.int .i64), v.oneCell' = true) := by intro v hv; obtain ⟨z, _, rfl⟩ := List.mem_map.1 hv; rfl
  have HL12 : Hid ((W.map (Value.int .i64)).length = 12) := by unfold Hid; rw [List.length_map, HW.out.1]
  clear hb2 HB1 HR01 HR11
  have EN : Hid (RowAt (w2.alloc (.cells #[.int .i64 0, .int .i64 0, .int .i64 0, .int .i64 0, .int .i64 0, .int .i64 0, .int .i64 0, .int .i64 0, .int .i64 0, .int .i64 0, .int .i64 0, .int .i64 0] 194)) w2.heap.size (List.replicate 12 (.int .i64 0))) := RowAt.new w2 (List.replicate 12 (.int .i64 0)) (by simp) _ rfl
  have Hal : Hid (∀ w4, ApartR w2.heap.size (w2.alloc (.cells #[.int .i64 0, .int .i64 0, .int .i64 0, .int .i64 0, .int .i64 0, .int .i64 0, .int .i64 0, .int .i64 0, .int .i64 0, .int .i64 0, .int .i64 0, .int .i64 0] 194)) w4 → Below w2.heap.size w2 w4) := fun w4 h => ((Below.refl _ _).alloc (Nat.le_refl _) _).trans (h.below (Nat.le_refl _))
  unfold wV
  go_upto_region 4 with (refine row_store rfl _ _ rfl _ rfl _ (W.map (Value.int .i64)) rfl EN.out (by rw [HWl.out]; rfl) rowT_pw HW1.out ?_; intro wz ez hz)
  have hb3 := Hal.out wz hz
  have HB3 := Lib.hid (below_then HB2.out hb3)
  have HR13 := Lib.hid (HR12.out.below hb3)
  obtain ⟨wb, hwb⟩ : ∃ wb, wb = w2.heap.size := ⟨_, rfl⟩
  have HRW : Hid (RowAt wz wb (W.map (Value.int .i64))) := by rw [hwb]; exact ez
  rw [← hwb]
  clear hb3 ez hz hwb Hal EN HB2 HR12 HR02
  go_wp2_with fail
  go_loopw [14] (fun kv wr => ∃ k : Nat, k ≤ 20 ∧ kv = .int .i64 k ∧ Hid (∀ j, j < k → onB j W = false) ∧ Hid (Below w.heap.size w wr ∧ RowAt wr (w.heap.size + 1) [.int .i64 0, .int .i64 0, .int .i64 0, .int .i64 0] ∧ RowAt wr wb (W.map (Value.int .i64)))) (fun kv _ => (20 - intOf kv).toNat)
  case atStart => exact ⟨0, by omega, rfl, fun j h => absurd h (Nat.not_lt_zero j), HB3.out, HR13.out, HRW.out⟩
  case round =>
    clear HB3 HR13 HRW
    obtain ⟨k, hk, rfl, hlow, hs⟩ := hrel
    by_cases hlt : k < 20
    · have k0 : (k : Int) < 20 := by omega
      have HNk := Lib.hid (HN.out k hlt)
      have HFst : Hid (onB k W = true → (adr W 20).headD ⟨0, 0, 0, 0⟩ = onP k W) := fun h => adr_first hlt hlow.out h
      have HSkip : Hid (onB k W = false → ∀ j, j < k + 1 → onB j W = false) := fun h j hj => by
        by_cases e : j = k
        · subst e; exact h
        · exact hlow.out j (by omega)
      obtain ⟨p, hp⟩ : ∃ p, p = onP k W := ⟨_, rfl⟩
      rw [← hp] at HNk HFst
      obtain ⟨q, hq⟩ : ∃ q, q = onB k W := ⟨_, rfl⟩
      rw [← hq] at HNk HFst HSkip
      clear hp hq hlow
      obtain ⟨pf, pa, pb, pc⟩ := p
      unfold Pl.val wV at HNk
      simp only at HNk
      go_wp2_with (refine row_load rfl _ rfl _ rfl _ hs.out.2.2 (by rw [HL12.out]; exact rowT_pw) ?_)
      refine (HNk.out _ (HCr.out _ hs.out.1)).mono ?_
      rintro e w3 ⟨rfl, hb3⟩
      have HB3 := Lib.hid (below_then hs.out.1 hb3)
      have HR3 := Lib.hid (hs.out.2.1.below hb3)
      have HRW3 := Lib.hid (hs.out.2.2.below hb3)
      clear hb3 hs
      have HB4 := Lib.hid (HB3.out.alloc HB3.out.size (.cells #[.int .i64 pf, .int .i64 pa, .int .i64 pb, .int .i64 pc] 122))
      have HR4 := Lib.hid (HR3.out.alloc (.cells #[.int .i64 pf, .int .i64 pa, .int .i64 pb, .int .i64 pc] 122))
      have HRW4 := Lib.hid (HRW3.out.alloc (.cells #[.int .i64 pf, .int .i64 pa, .int .i64 pb, .int .i64 pc] 122))
      have HRP : Hid (RowAt (w3.alloc (.cells #[.int .i64 pf, .int .i64 pa, .int .i64 pb, .int .i64 pc] 122)) w3.heap.size [.int .i64 pf, .int .i64 pa, .int .i64 pb, .int .i64 pc]) := RowAt.new _ [.int .i64 pf, .int .i64 pa, .int .i64 pb, .int .i64 pc] (by simp) _ rfl
      clear HB3 HR3 HRW3
      cases q
      · go_wp2_with fail
        go_roundw
        case rel => exact ⟨k + 1, by omega, by go_num, HSkip.out (by first | rfl | trivial), HB4.out, HR4.out, HRW4.out⟩
        case measure => simp [intOf]; omega
      · go_wp2_with (first
          | (refine row_load rfl _ rfl _ rfl _ HRP.out rowT_p ?_)
          | (refine row_store rfl _ _ rfl _ rfl _ [.int .i64 pf, .int .i64 pa, .int .i64 pb, .int .i64 pc] rfl HR4.out rfl rowT_p (Pl.one ⟨pf, pa, pb, pc⟩) ?_; intro w5 e5 h5))
        exact ret_row2 rfl _ _ _ e5 rowT_p rfl rfl rfl ⟨by rw [HFst.out (by first | rfl | trivial)]; rfl, HB4.out.trans (h5.below (B := w.heap.size) (Nat.le_succ _))⟩
    · exfalso
      have : k = 20 := by omega
      subst this
      exact HNe.out (adr_skip hlow.out)
end Go.Proofs.YtkpgciimhjkajaaGreatDoor
/- The program's grid: its nodes and the map of their numbers. -/
namespace Go.Proofs.YtkpgciimhjkajaaGreatDoor
open Go Go.RowKit
def netRow (n h : Nat) (nv : Value) (mb : Option Nat) (cv ev xv : Value) : List Value := [.int .i64 n, .int .i64 h, nv, .map mb, cv, ev, xv]
structure NetP (w : World) (B mb n h : Nat) (l : List Pl) (nv : Value) (wr : World) : Prop where
  row : RowAt wr B (netRow n h nv (some mb) (.slice none 0 0) (.slice none 0 0) (.slice none 0 0))
  own : OwnP wr (w.heap.size + 1 + 1) nv l
  map : MapAt wr mb l
  below : Below w.heap.size w wr
  size : w.heap.size + 1 + 1 ≤ wr.heap.size
  isB : B = w.heap.size + 1
  isM : mb = w.heap.size
theorem NetP.then {w wr w' : World} {B mb n h : Nat} {l : List Pl} {nv : Value} (H : NetP w B mb n h l nv wr) (hb : Below wr.heap.size wr w') : NetP w B mb n h l nv w' :=
  ⟨H.row.below hb, H.own.below hb, H.map.below hb, below_then H.below hb, Nat.le_trans H.size hb.size, H.isB, H.isM⟩
theorem append_plg {w : World} {base : Nat} {v : Value} {l : List Pl} (h : OwnP w base v l) (p : Pl) (hn : l.length ≤ 1000000000) (hb : base ≤ w.heap.size) (ty : TypeId) :
    ∃ (v' : Value) (w' : World), (Builtin.append_ #[140, 140] ty #[v, .slice (some ⟨w.heap.size, 0, none⟩) 1 1]).run Tryz.prog (w.alloc (.cells p.cells.toArray 122)) = .ok v' w' ∧
      OwnP w' base v' (l ++ [p]) ∧ Below base w w' ∧ ∀ k, k < w.heap.size → v.ownBlock ≠ some k → w'.heap[k]? = w.heap[k]? := by
  have hal : Below w.heap.size w (w.alloc (.cells p.cells.toArray 122)) := (Below.refl _ _).alloc (Nat.le_refl _) _
  have hnews : ∀ j u, p.cells[j]? = some u → (w.alloc (.cells p.cells.toArray 122)).cell? ((⟨w.heap.size, 0, none⟩ : Addr).add j) = some u := World.news_of_block (cs := p.cells.toArray) (t := 122) (fr := (0, 0)) (heap_alloc_new w _)
  obtain ⟨v', w', a1, a2, a3, a4⟩ := append_at 140 122 Tryz.underlying140 pinfo rfl (by decide) (World.ownsRow.alloc h (.cells p.cells.toArray 122)) ⟨w.heap.size, 0, none⟩ 1 1 p.cells rfl hnews p.one hn (by omega) (by decide) (by simp; omega) ty
  refine ⟨v', w', a1, ?_, (hal.mono hb).trans a3, fun k hk hv => ?_⟩
  · unfold OwnP
    rw [pcells_append, List.length_append]
    have : pcells [p] = p.cells := by simp [pcells]
    rw [this]; exact a2
  · rw [a4.block k (by simp; omega) (fun e => hv e.symm), hal.block k hk]
theorem netp_put {w wr w' : World} {B mb n h : Nat} {l : List Pl} {nv : Value} {p : Pl} (H : NetP w B mb n h l nv wr) (hm : MapAt w' mb (l ++ [p])) (hg : wr.grownBy w' (some mb)) :
    RowAt w' B (netRow n h nv (some mb) (.slice none 0 0) (.slice none 0 0) (.slice none 0 0)) ∧ OwnP w' (w.heap.size + 1 + 1) nv l ∧ Below w.heap.size w w' ∧ w.heap.size + 1 + 1 ≤ w'.heap.size := by
  have hM := H.isM
  have hB := H.isB
  refine ⟨H.row.of_block (hg.block B H.row.lt (by simp; omega)), ?_, H.below.grown hg (by have := H.size; omega) (fun k hk => by cases hk; omega), Nat.le_trans H.size hg.size⟩
  exact ownsRow_of_same H.own (fun k h1 hk => hg.block k hk (by simp; omega))
set_option maxHeartbeats 16000000 in
set_option maxRecDepth 100000 in
theorem points_any (n : Nat) (hn : Fq n) (w : World) (hcr : Crn w) :
    Calls Tryz.prog 98 #[.int .i64 n] w fun e w' => ∃ nv, e = .returned (.pointer (some ⟨w.heap.size + 1, 0, none⟩)) ∧ NetP w (w.heap.size + 1) w.heap.size n (840 / n) (nodesN n) nv w' := by
  have HF := Lib.hid hn
  have hn8 : 1 ≤ n ∧ n ≤ 8 := hn
  obtain ⟨h, hh⟩ : ∃ h, h = 840 / n := ⟨_, rfl⟩
  have hq0 : (840 : Int) / (n : Int) = (h : Int) := by rw [hh]; rfl
  have HU : Hid (n * h = 840 ∧ 0 < h ∧ h = 840 / n) := by rw [hh]; exact ⟨hn.unit, hn.pos, rfl⟩
  have hh1 : 1 ≤ h ∧ h ≤ 840 := by rw [hh]; exact ⟨hn.pos, by have := Nat.div_le_self 840 n; omega⟩
  have HCr := Lib.hid (fun w' (h : Below w.heap.size w w') => hcr.then h)
  rw [← hh]
  clear hh hn hcr
  have HS0 : Hid (NetP w (w.heap.size + 1) w.heap.size n h (ndTo n 0 0 0) (.slice none 0 0) ((w.alloc (.map #[] 0)).alloc (.cells (netRow n h (.slice none 0 0) (some w.heap.size) (.slice none 0 0) (.slice none 0 0) (.slice none 0 0)).toArray 149))) := by
    refine ⟨RowAt.new _ _ (by simp [netRow]) _ (by simp), OwnP.nil _ _, ?_, ((Below.refl _ _).alloc (Nat.le_refl _) _).alloc (by simp) _, by simp, rfl, rfl⟩
    exact (MapAt.new w).below ((Below.refl _ _).alloc (Nat.le_refl _) _)
  have hmm := @run_makeMap Tryz.prog
  go_enter Tryz.func98, Tryz.ntmps98
  go_upto_region 2 with fail
  simp only [netRow] at HS0
  try simp only [hq0]
  obtain ⟨wa, hwa⟩ : ∃ wa, wa = (w.alloc (.map #[] 0)).alloc (.cells #[.int .i64 n, .int .i64 h, .slice none 0 0, .map (some w.heap.size), .slice none 0 0, .slice none 0 0, .slice none 0 0] 149) := ⟨_, rfl⟩
  rw [← hwa] at HS0 ⊢
  obtain ⟨B, hB⟩ : ∃ B, B = w.heap.size + 1 := ⟨_, rfl⟩
  obtain ⟨mb, hmb⟩ : ∃ mb, mb = w.heap.size := ⟨_, rfl⟩
  have HS : Hid (NetP w B mb n h (ndTo n 0 0 0) (.slice none 0 0) wa) := by rw [hB, hmb]; exact HS0.out
  have HBe := Lib.hid (And.intro hB hmb)
  rw [← hB, ← hmb]
  clear hwa hB hmb HS0 hmm
  go_wp2_with fail
  go_loopw [16] (fun kv wr => ∃ (k : Nat) (nv : Value), kv = .int .i64 k ∧ k ≤ 20 ∧ Hid (NetP w B mb n h (ndTo n k 0 0) nv wr)) (fun kv _ => (20 - intOf kv).toNat)
  case atStart => exact ⟨0, _, rfl, by omega, HS⟩
  case round =>
    clear HS
    obtain ⟨k, nv, rfl, hk, hs⟩ := hrel
    by_cases hlt : k < 20
    · have k0 : (k : Int) < 20 := by omega
      have HK := Lib.hid hlt
      obtain ⟨wout, rfl⟩ : ∃ wout : World, wout = wr := ⟨_, rfl⟩
      go_wp2_with fail
      go_loopw [5] (fun av wr => ∃ (i : Nat) (nv : Value), av = .int .i64 i ∧ i ≤ n + 1 ∧ Hid (NetP w B mb n h (ndTo n k i 0) nv wr)) (fun av _ => (20 - intOf av).toNat)
      case atStart => exact ⟨0, _, rfl, by omega, hs⟩
      case round =>
        clear hs
        obtain ⟨i, nv, rfl, hi, hs⟩ := hrel
        obtain ⟨wout2, rfl⟩ : ∃ wout2 : World, wout2 = wr := ⟨_, rfl⟩
        by_cases hin : i ≤ n
        · have i0 : (i : Int) ≤ (n : Int) := by omega
          go_wp2_with fail
          go_loopw [6] (fun bv wr => ∃ (j : Nat) (nv : Value), bv = .int .i64 j ∧ j ≤ n + 1 - i ∧ Hid (NetP w B mb n h (ndTo n k i j) nv wr)) (fun bv _ => (20 - intOf bv).toNat)
          case atStart => exact ⟨0, _, rfl, by omega, hs⟩
          case round =>
            clear hs
            obtain ⟨j, nv, rfl, hj, hs⟩ := hrel
            by_cases hjn : i + j ≤ n
            · have j0 : (i : Int) + (j : Int) ≤ (n : Int) := by omega
              obtain ⟨A, hA⟩ : ∃ A : Int, A = ((i * h : Nat) : Int) := ⟨_, rfl⟩
              obtain ⟨Bb, hBb⟩ : ∃ A : Int, A = ((j * h : Nat) : Int) := ⟨_, rfl⟩
              obtain ⟨C, hC⟩ : ∃ A : Int, A = (((n - i - j) * h : Nat) : Int) := ⟨_, rfl⟩
              have hpt : pt n k i j = ⟨(k : Int), A, Bb, C⟩ := by unfold pt; rw [hA, hBb, hC, HU.out.2.2]
              have hok := pt_adr HF.out HK.out hjn
              have hnf := nor_fits HF.out HK.out hjn
              have hfit := hok.1.fits
              obtain ⟨_, _, hA0, hA1, hB0, hB1, hC0, hC1, _⟩ := hok.1
              rw [hpt] at hA0 hA1 hB0 hB1 hC0 hC1
              have HmA : Hid (IntKind.i64.wrap ((i : Int) * (h : Int)) = A) := by
                have e : (i : Int) * (h : Int) = A := by rw [hA]; simp
                rw [e]; exact IntWalk.i64_in _ (by simp at hA0 hA1; omega)
              have HmB : Hid (IntKind.i64.wrap ((j : Int) * (h : Int)) = Bb) := by
                have e : (j : Int) * (h : Int) = Bb := by rw [hBb]; simp
                rw [e]; exact IntWalk.i64_in _ (by simp at hB0 hB1; omega)
              have Hs1 : Hid (IntKind.i64.wrap ((n : Int) - (i : Int)) = (n : Int) - (i : Int)) := IntWalk.i64_in _ (by omega)
              have Hs2 : Hid (IntKind.i64.wrap ((n : Int) - (i : Int) - (j : Int)) = (n : Int) - (i : Int) - (j : Int)) := IntWalk.i64_in _ (by omega)
              have HmC : Hid (IntKind.i64.wrap (((n : Int) - (i : Int) - (j : Int)) * (h : Int)) = C) := by
                have e0 : (n : Int) - (i : Int) - (j : Int) = ((n - i - j : Nat) : Int) := by omega
                have e : ((n : Int) - (i : Int) - (j : Int)) * (h : Int) = C := by rw [e0, hC]; simp
                rw [e]; exact IntWalk.i64_in _ (by simp at hC0 hC1; omega)
              have HN := Lib.hid (fun w' hc => pnormal_any k A Bb C (by rw [← hpt]; exact hok) w' hc)
              have HAd := Lib.hid (ndTo_step n k i j)
              have HIs : Hid (isNm (pt n k i j) = (pt n k i j == norP (pt n k i j))) := rfl
              rw [hpt] at HAd HIs
              have HFit : Hid (Pl.Fits ⟨(k : Int), A, Bb, C⟩) := by rw [← hpt]; exact hfit
              have HLn : Hid ((ndTo n k i j).length ≤ 2000) := ndTo_len hn8.2 (by omega) (by omega) (by omega)
              obtain ⟨na, nc, hnv⟩ := hs.out.own.slice
              clear hA hBb hC hpt hok hnf hfit hA0 hA1 hB0 hB1 hC0 hC1
              go_upto_region 11 with fail
              refine wp_region_seqL (by kernel_rfl) (fun w' => RowAt w' B (netRow n h nv (some mb) (.slice none 0 0) (.slice none 0 0) (.slice none 0 0))) 25 [(0, 0), (1, 0), (2, 0), (3, 0), (4, 0), (5, 1), (6, 0), (7, 0), (8, 0), (9, 0), (10, 0), (11, 1), (12, 0), (13, 0), (14, 0), (15, 0), (16, 0), (17, 0), (18, 0), (19, 0), (20, 0), (21, 1), (22, 0), (23, 0), (24, 2), (25, 2)] (by kernel_rfl) (hs.out.row.drew) ?_
              refine sl_q (d := some 31) rfl rfl rfl (.int .i64 k) (fun w => rfl) ?_
              simp only [ap_s, ap_n, ls_z, ls_s]
              refine sl_q (d := some 32) rfl rfl rfl (.int .i64 i) (fun w => rfl) ?_
              simp only [ap_s, ap_n, ls_z, ls_s]
              refine sl_q (d := some 33) rfl rfl rfl (.pointer (some ⟨B, 0, none⟩)) (fun w => rfl) ?_
              simp only [ap_s, ap_n, ls_z, ls_s]
              refine sl_q (d := some 34) rfl rfl rfl (.pointer (some ⟨B, 0, none⟩)) (fun w => rfl) ?_
              simp only [ap_s, ap_n, ls_z, ls_s]
              refine sl_q (d := some 35) rfl rfl rfl (.pointer (some ⟨B, 1, none⟩)) (fun w => by go_simp) ?_
              simp only [ap_s, ap_n, ls_z, ls_s]
              refine sl_s (d := some 36) rfl rfl rfl (.int .i64 h) (fun w hw => by have c := hw.at 1 rfl; simp [execOp, Act.eval, go_sem, c]) ?_
              simp only [ap_s, ap_n, ls_z, ls_s]
              refine sl_q (d := some 37) rfl rfl rfl (.int .i64 A) (fun w => by simp [execOp, Act.eval, go_sem, HmA.out]) ?_
              simp only [ap_s, ap_n, ls_z, ls_s]
              refine sl_q (d := some 38) rfl rfl rfl (.int .i64 j) (fun w => rfl) ?_
              simp only [ap_s, ap_n, ls_z, ls_s]
              refine sl_q (d := some 39) rfl rfl rfl (.pointer (some ⟨B, 0, none⟩)) (fun w => rfl) ?_
              simp only [ap_s, ap_n, ls_z, ls_s]
              refine sl_q (d := some 40) rfl rfl rfl (.pointer (some ⟨B, 0, none⟩)) (fun w => rfl) ?_
              simp only [ap_s, ap_n, ls_z, ls_s]
              refine sl_q (d := some 41) rfl rfl rfl (.pointer (some ⟨B, 1, none⟩)) (fun w => by go_simp) ?_
              simp only [ap_s, ap_n, ls_z, ls_s]
              refine sl_s (d := some 42) rfl rfl rfl (.int .i64 h) (fun w hw => by have c := hw.at 1 rfl; simp [execOp, Act.eval, go_sem, c]) ?_
              simp only [ap_s, ap_n, ls_z, ls_s]
              refine sl_q (d := some 43) rfl rfl rfl (.int .i64 Bb) (fun w => by simp [execOp, Act.eval, go_sem, HmB.out]) ?_
              simp only [ap_s, ap_n, ls_z, ls_s]
              refine sl_q (d := some 44) rfl rfl rfl (.int .i64 n) (fun w => rfl) ?_
              simp only [ap_s, ap_n, ls_z, ls_s]
              refine sl_q (d := some 45) rfl rfl rfl (.int .i64 i) (fun w => rfl) ?_
              simp only [ap_s, ap_n, ls_z, ls_s]
              refine sl_q (d := some 46) rfl rfl rfl (.int .i64 ((n : Int) - (i : Int))) (fun w => by simp [execOp, Act.eval, go_sem, Hs1.out]) ?_
              simp only [ap_s, ap_n, ls_z, ls_s]
              refine sl_q (d := some 47) rfl rfl rfl (.int .i64 j) (fun w => rfl) ?_
              simp only [ap_s, ap_n, ls_z, ls_s]
              refine sl_q (d := some 48) rfl rfl rfl (.int .i64 ((n : Int) - (i : Int) - (j : Int))) (fun w => by simp [execOp, Act.eval, go_sem, Hs2.out]) ?_
              simp only [ap_s, ap_n, ls_z, ls_s]
              refine sl_q (d := some 49) rfl rfl rfl (.pointer (some ⟨B, 0, none⟩)) (fun w => rfl) ?_
              simp only [ap_s, ap_n, ls_z, ls_s]
              refine sl_q (d := some 50) rfl rfl rfl (.pointer (some ⟨B, 0, none⟩)) (fun w => rfl) ?_
              simp only [ap_s, ap_n, ls_z, ls_s]
              refine sl_q (d := some 51) rfl rfl rfl (.pointer (some ⟨B, 1, none⟩)) (fun w => by go_simp) ?_
              simp only [ap_s, ap_n, ls_z, ls_s]
              refine sl_s (d := some 52) rfl rfl rfl (.int .i64 h) (fun w hw => by have c := hw.at 1 rfl; simp [execOp, Act.eval, go_sem, c]) ?_
              simp only [ap_s, ap_n, ls_z, ls_s]
              refine sl_q (d := some 53) rfl rfl rfl (.int .i64 C) (fun w => by simp [execOp, Act.eval, go_sem, HmC.out]) ?_
              simp only [ap_s, ap_n, ls_z, ls_s]
              refine sl_q (d := some 54) rfl rfl rfl (.agg (Pl.cells ⟨k, A, Bb, C⟩).toArray) (fun w => by simp [execOp, Act.eval, go_sem, Pl.cells]) ?_
              simp only [ap_s, ap_n, ls_z, ls_s]
              obtain ⟨u1, hu1⟩ : ∃ x, x = wr.drew.alloc (.cells (Pl.cells ⟨0, 0, 0, 0⟩).toArray 122) := ⟨_, rfl⟩
              obtain ⟨pbk, hpbk⟩ : ∃ x, x = wr.heap.size := ⟨_, rfl⟩
              have HBx : Hid (Below wr.heap.size wr u1) := by rw [hu1]; exact (Below.refl _ _).drew.alloc (Nat.le_refl _) _
              have HP1 : Hid (RowAt u1 pbk (Pl.cells ⟨0, 0, 0, 0⟩)) := by rw [hu1, hpbk]; exact RowAt.new _ (Pl.cells ⟨0, 0, 0, 0⟩) (by simp [Pl.cells]) _ rfl
              have Hpb : Hid (wr.heap.size ≤ pbk) := by rw [hpbk]; exact Nat.le_refl _
              refine sl_run (d := some 7) rfl rfl rfl (.pointer (some ⟨pbk, 0, none⟩)) u1 (by rw [hu1, hpbk]; simp [execOp, Act.eval, go_sem, Pl.cells]) (fun _ => hs.out.row.below HBx.out) ?_
              simp only [ap_s, ap_n, ls_z, ls_s]
              clear hu1 hpbk
              refine sl_rowst (d := none) rfl rfl rfl _ _ rfl pbk rfl _ (Pl.cells ⟨k, A, Bb, C⟩) rfl HP1.out rfl rowT_p (Pl.one _) ?_
              intro w5 h5 ha5
              refine ⟨(fun h => by cases h), ?_⟩
              simp only [ap_s, ap_n, ls_z, ls_s]
              have HS5 := Lib.hid (hs.out.then (HBx.out.trans (ha5.below Hpb.out)))
              have HP5 := Lib.hid h5
              have Hnb : Hid ((∀ g, nv.ownBlock = some g → ¬ pbk = g) ∧ w.heap.size + 1 + 1 ≤ pbk) := ⟨fun g hg e => by have h1 := (World.ownsRow.lt hs.out.own g hg).2; have h2 := Hpb.out; omega, Nat.le_trans hs.out.size Hpb.out⟩
              clear HBx HP1 h5 ha5 hs Hpb
              refine sl_end ?_
              obtain ⟨q, hq⟩ : ∃ q, q = norP ⟨(k : Int), A, Bb, C⟩ := ⟨_, rfl⟩
              rw [← hq] at HN HIs
              clear hq
              obtain ⟨nf, na', nb, nc'⟩ := q
              unfold Pl.val at HN
              simp only at HN
              simp only [Pl.cells] at HP5
              go_wp2_with (refine row_load rfl _ rfl _ rfl _ HP5.out rowT_p ?_)
              refine (HN.out _ (HCr.out _ HS5.out.below)).mono ?_
              rintro e w6 ⟨rfl, hb6⟩
              have HS6 := Lib.hid (HS5.out.then hb6)
              have HP6 := Lib.hid (HP5.out.below hb6)
              clear hb6 HS5 HP5
              have HSq := Lib.hid (HS6.out.then ((Below.refl _ _).alloc (Nat.le_refl _) (.cells #[.int .i64 nf, .int .i64 na', .int .i64 nb, .int .i64 nc'] 122)))
              have HPp := Lib.hid (HP6.out.alloc (.cells #[.int .i64 nf, .int .i64 na', .int .i64 nb, .int .i64 nc'] 122))
              have HPq : Hid (RowAt (w6.alloc (.cells #[.int .i64 nf, .int .i64 na', .int .i64 nb, .int .i64 nc'] 122)) w6.heap.size [.int .i64 nf, .int .i64 na', .int .i64 nb, .int .i64 nc']) := RowAt.new _ [.int .i64 nf, .int .i64 na', .int .i64 nb, .int .i64 nc'] (by simp) _ rfl
              clear HS6 HP6
              go_upto_region 13 with fail
              obtain ⟨wq, hwq⟩ : ∃ x, x = w6.alloc (.cells #[.int .i64 nf, .int .i64 na', .int .i64 nb, .int .i64 nc'] 122) := ⟨_, rfl⟩
              obtain ⟨qbk, hqbk⟩ : ∃ x, x = w6.heap.size := ⟨_, rfl⟩
              rw [← hwq, ← hqbk] at HPq
              rw [← hwq] at HSq HPp
              rw [← hwq, ← hqbk]
              clear hwq hqbk
              by_cases hE : (⟨nf, na', nb, nc'⟩ : Pl) = ⟨(k : Int), A, Bb, C⟩
              · obtain ⟨rfl, rfl, rfl, rfl⟩ : nf = (k : Int) ∧ A = na' ∧ Bb = nb ∧ C = nc' := by simp at hE; exact ⟨hE.1, hE.2.1.symm, hE.2.2.1.symm, hE.2.2.2.symm⟩
                have HAd2 : Hid (ndTo n k i (j + 1) = ndTo n k i j ++ [⟨(k : Int), A, Bb, C⟩]) := by unfold Hid; rw [HAd.out, if_pos (by rw [HIs.out]; simp)]
                clear hE HAd HIs HmA HmB Hs1 Hs2 HmC
                go_upto_region 14 with (first
                  | (refine row_load rfl _ rfl _ rfl _ HPq.out rowT_p ?_)
                  | (refine row_load rfl _ rfl _ rfl _ HPp.out rowT_p ?_))
                obtain ⟨pv, hpv⟩ : ∃ pv, pv = Value.agg (Pl.cells ⟨(k : Int), A, Bb, C⟩).toArray := ⟨_, rfl⟩
                have Hpv := Lib.hid hpv
                have HLnI : Hid ((ndTo n k i j).length ≤ 10000) := by unfold Hid; have := HLn.out; omega
                obtain ⟨w8, hput, hm8, hg8⟩ := (HSq.out.map.below (Below.refl _ _).drew).put ⟨(k : Int), A, Bb, C⟩ HFit.out HLnI.out
                have HPut : Hid ((Instr.mapUpdate 147 (.map (some mb)) pv (.int .i64 ((ndTo n k i j).length : Int))).run Tryz.prog wq.drew = .ok () w8) := by rw [hpv]; exact hput
                obtain ⟨r8, o8, b8, z8⟩ := netp_put (HSq.out.then (Below.refl _ _).drew) hm8 hg8
                have HM8 := Lib.hid hm8
                have HR8 := Lib.hid r8
                have HB8 := Lib.hid (And.intro b8 z8)
                have HP8 : Hid (RowAt w8 pbk (Pl.cells ⟨(k : Int), A, Bb, C⟩)) := HPp.out.drew.of_block (hg8.block pbk HPp.out.drew.lt (fun e => by have h1 := HSq.out.isM; have h2 := Hnb.out.2; have h3 : pbk = mb := (by simpa using e); omega))
                obtain ⟨v9, w9, a1, a2, a3, a4⟩ := append_plg (OwnP.below o8 (Below.refl _ _).drew) ⟨(k : Int), A, Bb, C⟩ (by have := HLn.out; omega) z8 140
                obtain ⟨a9, n9, c9, rfl⟩ : ∃ a n c, v9 = .slice a n c := by
                  obtain ⟨a, c, e⟩ := OwnP.slice a2
                  exact ⟨_, _, _, e⟩
                have HApp := Lib.hid a1
                have HR9 : Hid (RowAt w9 B (netRow n h nv (some mb) (.slice none 0 0) (.slice none 0 0) (.slice none 0 0))) := HR8.out.drew.of_block (a3.block B (by have := HSq.out.isB; omega))
                have HP9 : Hid (RowAt w9 pbk (Pl.cells ⟨(k : Int), A, Bb, C⟩)) := HP8.out.drew.of_block (a4 pbk HP8.out.drew.lt (fun e => Hnb.out.1 _ e rfl))
                have HEnd : Hid (NetP w B mb n h (ndTo n k i (j + 1)) (.slice a9 n9 c9) (w9.setCell ⟨B, 2, none⟩ (.slice a9 n9 c9))) := by
                  rw [HAd2.out]
                  have hB := HSq.out.isB
                  have hM := HSq.out.isM
                  refine ⟨HR9.out.set 2 (by simp [netRow]) _, ?_, ?_, ((b8.drew.trans (a3.mono (by omega))).setCell (by simp; omega) _), ?_, hB, hM⟩
                  · exact ownsRow_of_same a2 (fun k h1 hk => Below.heap_setCell _ _ _ _ (by simp; omega))
                  · exact ((hm8.below (Below.refl _ _).drew).of_block (a3.block mb (by omega))).of_block (Below.heap_setCell _ _ _ _ (by simp; omega))
                  · simp [World.setCell]; exact Nat.le_trans z8 a3.size
                have C9 : Hid (w9.cell? ⟨B, 2, none⟩ = some nv ∧ w9.frozen? ⟨B, 2, none⟩ = false) := ⟨HR9.out.at 2 rfl, HR9.out.2.2 2 (by simp [netRow])⟩
                clear hpv hput hm8 hg8 r8 o8 b8 z8 a1 a2 a3 a4
                refine wp_region_seqL (by kernel_rfl) (fun w' => RowAt w' B (netRow n h nv (some mb) (.slice none 0 0) (.slice none 0 0) (.slice none 0 0)) ∧ RowAt w' pbk (Pl.cells ⟨k, A, Bb, C⟩)) 10 [(0, 0), (1, 0), (2, 0), (3, 1), (4, 1), (5, 0), (6, 0), (7, 0), (8, 1), (9, 0), (10, 2)] (by kernel_rfl) (⟨HSq.out.row.drew, HPp.out.drew⟩) ?_
                refine sl_q (d := some 63) rfl rfl rfl (.pointer (some ⟨B, 0, none⟩)) (fun w => rfl) ?_
                simp only [ap_s, ap_n, ls_z, ls_s]
                refine sl_q (d := some 64) rfl rfl rfl (.pointer (some ⟨B, 0, none⟩)) (fun w => rfl) ?_
                simp only [ap_s, ap_n, ls_z, ls_s]
                refine sl_q (d := some 65) rfl rfl rfl (.pointer (some ⟨B, 3, none⟩)) (fun w => by go_simp) ?_
                simp only [ap_s, ap_n, ls_z, ls_s]
                refine sl_s (d := some 66) rfl rfl rfl (.map (some mb)) (fun w hw => by have c := hw.1.at 3 rfl; simp [execOp, Act.eval, go_sem, c]) ?_
                simp only [ap_s, ap_n, ls_z, ls_s]
                refine sl_load (d := some 67) rfl rfl rfl _ _ rfl ⟨pbk, 0, none⟩ rfl (pv) (fun w hw => by rw [Hpv.out]; exact hw.2.loadVar rowT_p) ?_
                simp only [ap_s, ap_n, ls_z, ls_s]
                refine sl_q (d := some 68) rfl rfl rfl (.pointer (some ⟨B, 0, none⟩)) (fun w => rfl) ?_
                simp only [ap_s, ap_n, ls_z, ls_s]
                refine sl_q (d := some 69) rfl rfl rfl (.pointer (some ⟨B, 0, none⟩)) (fun w => rfl) ?_
                simp only [ap_s, ap_n, ls_z, ls_s]
                refine sl_q (d := some 70) rfl rfl rfl (.pointer (some ⟨B, 2, none⟩)) (fun w => by go_simp) ?_
                simp only [ap_s, ap_n, ls_z, ls_s]
                refine sl_s (d := some 71) rfl rfl rfl (.slice na (ndTo n k i j).length nc) (fun w hw => by have c := hw.1.at 2 rfl; simp [execOp, Act.eval, go_sem, c, hnv]) ?_
                simp only [ap_s, ap_n, ls_z, ls_s]
                refine sl_q (d := some 72) rfl rfl rfl (.int .i64 ((ndTo n k i j).length : Int)) (fun w => by simp [execOp, Act.eval, go_sem]) ?_
                simp only [ap_s, ap_n, ls_z, ls_s]
                refine sl_skip (d := none) rfl rfl rfl w8 (by simp [execOp, Act.eval, HPut.out]) (fun h => by cases h) ?_
                simp only [ap_s, ap_n, ls_z, ls_s]
                refine sl_end ?_
                go_upto_region 15 with fail
                refine wp_region_seqL (by kernel_rfl) (fun w' => RowAt w' B (netRow n h nv (some mb) (.slice none 0 0) (.slice none 0 0) (.slice none 0 0)) ∧ RowAt w' pbk (Pl.cells ⟨k, A, Bb, C⟩)) 10 [(0, 0), (1, 0), (2, 0), (3, 0), (4, 1), (5, 1), (6, 2), (7, 2), (8, 0), (9, 0), (10, 2)] (by kernel_rfl) (⟨HR8.out.drew, HP8.out.drew⟩) ?_
                refine sl_q (d := some 73) rfl rfl rfl (.pointer (some ⟨B, 0, none⟩)) (fun w => rfl) ?_
                simp only [ap_s, ap_n, ls_z, ls_s]
                refine sl_q (d := some 74) rfl rfl rfl (.pointer (some ⟨B, 0, none⟩)) (fun w => rfl) ?_
                simp only [ap_s, ap_n, ls_z, ls_s]
                refine sl_q (d := some 75) rfl rfl rfl (.pointer (some ⟨B, 0, none⟩)) (fun w => rfl) ?_
                simp only [ap_s, ap_n, ls_z, ls_s]
                refine sl_q (d := some 76) rfl rfl rfl (.pointer (some ⟨B, 2, none⟩)) (fun w => by go_simp) ?_
                simp only [ap_s, ap_n, ls_z, ls_s]
                refine sl_s (d := some 77) rfl rfl rfl (nv) (fun w hw => by have c := hw.1.at 2 rfl; simp [execOp, Act.eval, go_sem, c]) ?_
                simp only [ap_s, ap_n, ls_z, ls_s]
                refine sl_load (d := some 78) rfl rfl rfl _ _ rfl ⟨pbk, 0, none⟩ rfl (pv) (fun w hw => by rw [Hpv.out]; exact hw.2.loadVar rowT_p) ?_
                simp only [ap_s, ap_n, ls_z, ls_s]
                refine sl_run (d := some 79) rfl rfl rfl (.slice (some ⟨w8.drew.heap.size, 0, none⟩) 1 1) (w8.drew.alloc (.cells (Pl.cells ⟨k, A, Bb, C⟩).toArray 122)) (by simp [execOp, Act.eval, go_sem, Pl.cells, Hpv.out, Instr.buildSlice]) (fun _ => ⟨HR8.out.drew.alloc _, HP8.out.drew.alloc _⟩) ?_
                simp only [ap_s, ap_n, ls_z, ls_s]
                refine sl_run (d := some 80) rfl rfl rfl (.slice a9 n9 c9) w9 (run_append _ _ _ rfl _ _ rfl rfl HApp.out) (fun _ => ⟨HR9.out, HP9.out⟩) ?_
                simp only [ap_s, ap_n, ls_z, ls_s]
                refine sl_q (d := some 81) rfl rfl rfl (.pointer (some ⟨B, 0, none⟩)) (fun w => rfl) ?_
                simp only [ap_s, ap_n, ls_z, ls_s]
                refine sl_q (d := some 82) rfl rfl rfl (.pointer (some ⟨B, 2, none⟩)) (fun w => by go_simp) ?_
                simp only [ap_s, ap_n, ls_z, ls_s]
                refine sl_skip (d := none) rfl rfl rfl (w9.setCell ⟨B, 2, none⟩ (.slice a9 n9 c9)) (by simp [execOp, Act.eval, go_sem, C9.out.1, C9.out.2]) (fun h => by cases h) ?_
                simp only [ap_s, ap_n, ls_z, ls_s]
                refine sl_end ?_
                go_wp2_with fail
                refine ⟨⟨j + 1, _, by go_num, by omega, HEnd⟩, ?_⟩
                simp [intOf]; omega
              · have HAd2 : Hid (ndTo n k i (j + 1) = ndTo n k i j) := by unfold Hid; rw [HAd.out, if_neg (by rw [HIs.out]; simp; intro a b c d; exact hE (by simp [a, b, c, d])), List.append_nil]
                clear HAd HIs HmA HmB Hs1 Hs2 HmC
                go_wp2_with (first
                  | (refine row_load rfl _ rfl _ rfl _ HPq.out rowT_p ?_)
                  | (refine row_load rfl _ rfl _ rfl _ HPp.out rowT_p ?_))
                all_goals first
                  | (refine ⟨⟨j + 1, nv, by go_num, by omega, by rw [HAd2.out]; exact HSq.out⟩, ?_⟩; simp [intOf]; omega)
                  | (exfalso; apply hE; simp [*]; done)
            · have j0 : ¬ (i : Int) + (j : Int) ≤ (n : Int) := by omega
              have HRw := Lib.hid (ndTo_row (n := n) (k := k) (i := i) (j := j) (by omega))
              go_wp2_with fail
              go_roundw
              case rel => exact ⟨i + 1, nv, by go_num, by omega, by rw [← HRw.out]; exact hs⟩
              case measure => simp [intOf]; omega
        · have i0 : ¬ (i : Int) ≤ (n : Int) := by omega
          have HFc := Lib.hid (ndTo_face (n := n) (k := k) (i := i) (by omega))
          go_wp2_with fail
          go_roundw
          case rel => exact ⟨k + 1, nv, by go_num, by omega, by rw [← HFc.out]; exact hs⟩
          case measure => simp [intOf]; omega
    · obtain rfl : k = 20 := by omega
      have HEnd : Hid (NetP w B mb n h (nodesN n) nv wr) := by have h := hs.out; rw [ndTo_end] at h; exact h
      clear hs
      go_wp2_with fail
      go_ret
      exact ⟨nv, by rw [HBe.out.1]; rfl, by rw [← HBe.out.1, ← HBe.out.2]; exact HEnd.out⟩
end Go.Proofs.YtkpgciimhjkajaaGreatDoor
/- The program's grid: the number of a place; the corners of a cell. -/
namespace Go.Proofs.YtkpgciimhjkajaaGreatDoor
open Go Go.RowKit
structure NetN (w : World) (B mb n : Nat) (nv cv ev xv : Value) : Prop where
  row : RowAt w B (netRow n (840 / n) nv (some mb) cv ev xv)
  map : MapAt w mb (nodesN n)
theorem NetN.then {w w' : World} {B mb n : Nat} {nv cv ev xv : Value} (h : NetN w B mb n nv cv ev xv) (hb : Below w.heap.size w w') : NetN w' B mb n nv cv ev xv := ⟨h.row.below hb, h.map.below hb⟩
set_option maxHeartbeats 4000000 in
set_option maxRecDepth 100000 in
theorem mat_any (n : Nat) (hn : Fq n) (B mb : Nat) (nv cv ev xv : Value) (f i j : Nat) (hf : f < 20) (hij : i + j ≤ n) (w : World) (hN : NetN w B mb n nv cv ev xv) (hcr : Crn w) :
    Calls Tryz.prog 131 #[.pointer (some ⟨B, 0, none⟩), (pt n f i j).val] w fun e w' => e = .returned (.int .i64 ((idxN (nodesN n) (pt n f i j) : Nat) : Int)) ∧ Below w.heap.size w w' := by
  have hok := pt_adr hn hf hij
  have HGet := Lib.hid (fun w' (h : MapAt w' mb (nodesN n)) => h.get hn hf hij)
  have hptf : pt n f i j = ⟨(f : Int), (pt n f i j).a, (pt n f i j).b, (pt n f i j).c⟩ := rfl
  rw [hptf] at hok
  have HN := Lib.hid (fun w' hc => pnormal_any f _ _ _ hok w' hc)
  rw [← hptf] at HN
  obtain ⟨I, hI⟩ : ∃ I : Int, I = ((idxN (nodesN n) (pt n f i j) : Nat) : Int) := ⟨_, rfl⟩
  rw [← hI]
  rw [← hI] at HGet
  obtain ⟨q, hq⟩ : ∃ q, q = norP (pt n f i j) := ⟨_, rfl⟩
  rw [← hq] at HN HGet
  clear hq hI hok hptf
  generalize pt n f i j = p at *
  obtain ⟨pf, pa, pb, pc⟩ := p
  obtain ⟨qf, qa, qb, qc⟩ := q
  have HNt := Lib.hid hN
  have HCr := Lib.hid hcr
  clear hN hcr hf hij
  have HR0 : Hid (RowAt (w.alloc (.cells #[.int .i64 pf, .int .i64 pa, .int .i64 pb, .int .i64 pc] 122)) w.heap.size [.int .i64 pf, .int .i64 pa, .int .i64 pb, .int .i64 pc]) := RowAt.new _ [.int .i64 pf, .int .i64 pa, .int .i64 pb, .int .i64 pc] (by simp) _ rfl
  have HB0 : Hid (Below w.heap.size w (w.alloc (.cells #[.int .i64 pf, .int .i64 pa, .int .i64 pb, .int .i64 pc] 122))) := (Below.refl _ _).alloc (Nat.le_refl _) _
  unfold Pl.val at HN HGet ⊢
  simp only at HN HGet ⊢
  go_enter Tryz.func131, Tryz.ntmps131
  go_wp2_with (refine row_load rfl _ rfl _ rfl _ HR0.out rowT_p ?_)
  refine (HN.out _ (HCr.out.then HB0.out)).mono ?_
  rintro e w1 ⟨rfl, hb1⟩
  have HB1 := Lib.hid (below_then HB0.out hb1)
  have HB2 := Lib.hid (HB1.out.alloc HB1.out.size (.cells #[.int .i64 qf, .int .i64 qa, .int .i64 qb, .int .i64 qc] 122))
  have HR2 : Hid (RowAt (w1.alloc (.cells #[.int .i64 qf, .int .i64 qa, .int .i64 qb, .int .i64 qc] 122)) w1.heap.size [.int .i64 qf, .int .i64 qa, .int .i64 qb, .int .i64 qc]) := RowAt.new _ [.int .i64 qf, .int .i64 qa, .int .i64 qb, .int .i64 qc] (by simp) _ rfl
  clear hb1 HB0 HR0 HB1
  go_upto_region 2 with fail
  obtain ⟨w2, hw2⟩ : ∃ x, x = w1.alloc (.cells #[.int .i64 qf, .int .i64 qa, .int .i64 qb, .int .i64 qc] 122) := ⟨_, rfl⟩
  obtain ⟨qk, hqk⟩ : ∃ x, x = w1.heap.size := ⟨_, rfl⟩
  rw [← hw2, ← hqk] at HR2
  rw [← hw2] at HB2
  rw [← hw2, ← hqk]
  clear hw2 hqk
  have HN2 := Lib.hid (HNt.out.then HB2.out)
  obtain ⟨qv, hqv⟩ : ∃ qv : Value, qv = .agg #[.int .i64 qf, .int .i64 qa, .int .i64 qb, .int .i64 qc] := ⟨_, rfl⟩
  have Hqv := Lib.hid hqv
  rw [← hqv] at HGet
  clear hqv
  refine wp_region_seqL (by kernel_rfl) (fun w' => NetN w' B mb n nv cv ev xv ∧ RowAt w' qk [.int .i64 qf, .int .i64 qa, .int .i64 qb, .int .i64 qc]) 5 [(0, 0), (1, 0), (2, 0), (3, 1), (4, 1), (5, 2), (6, 0)] (by kernel_rfl) (⟨HN2.out.then (Below.refl _ _).drew, HR2.out.drew⟩) ?_
  refine sl_q (d := some 12) rfl rfl rfl (.pointer (some ⟨B, 0, none⟩)) (fun w => rfl) ?_
  simp only [ap_s, ap_n, ls_z, ls_s]
  refine sl_q (d := some 13) rfl rfl rfl (.pointer (some ⟨B, 0, none⟩)) (fun w => rfl) ?_
  simp only [ap_s, ap_n, ls_z, ls_s]
  refine sl_q (d := some 14) rfl rfl rfl (.pointer (some ⟨B, 3, none⟩)) (fun w => by go_simp) ?_
  simp only [ap_s, ap_n, ls_z, ls_s]
  refine sl_s (d := some 15) rfl rfl rfl (.map (some mb)) (fun w hw => by have c := hw.1.row.at 3 rfl; simp [execOp, Act.eval, go_sem, c]) ?_
  simp only [ap_s, ap_n, ls_z, ls_s]
  refine sl_load (d := some 16) rfl rfl rfl _ _ rfl ⟨qk, 0, none⟩ rfl (qv) (fun w hw => by rw [Hqv.out]; exact hw.2.loadVar rowT_p) ?_
  simp only [ap_s, ap_n, ls_z, ls_s]
  refine sl_run (d := some 17) rfl rfl rfl (.int .i64 I) w2.drew (by have c := HGet.out w2.drew (HN2.out.then (Below.refl _ _).drew).map; simp [execOp, Act.eval, c]) (fun h => by cases h) ?_
  simp only [ap_s, ap_n, ls_z, ls_s]
  refine sl_q (d := some 4) rfl rfl rfl (.int .i64 I) (fun w => rfl) ?_
  simp only [ap_s, ap_n, ls_z, ls_s]
  refine sl_end ?_
  go_wp2_with fail
  go_ret
  exact ⟨rfl, HB2.out.drew⟩
set_option maxHeartbeats 4000000 in
theorem moved_any (p : Pl) (x y z : Int) (h1 : IntKind.i64.wrap (p.a + x) = p.a + x) (h2 : IntKind.i64.wrap (p.b + y) = p.b + y) (h3 : IntKind.i64.wrap (p.c + z) = p.c + z) (w : World) :
    Calls Tryz.prog 118 #[p.val, .int .i64 x, .int .i64 y, .int .i64 z] w fun e w' => e = .returned (Pl.val ⟨p.f, p.a + x, p.b + y, p.c + z⟩) ∧ Below w.heap.size w w' := by
  obtain ⟨f, a, b, c⟩ := p
  simp only at h1 h2 h3
  have HB : Hid (∀ t u, Below w.heap.size w ((w.alloc (.cells t 122)).alloc (.cells u 122))) := fun _ _ => ((Below.refl _ _).alloc (Nat.le_refl _) _).alloc (by simp) _
  unfold Pl.val
  simp only
  go_enter Tryz.func118, Tryz.ntmps118
  go_wp2_with fail
  refine bodyPost_ret (v := .agg #[_, _, _, _]) (by first | (simp [results, Tryz.results118, go_sem]; done) | (simp [results, Tryz.results118, go_sem]; first | rfl | exact ⟨rfl, rfl, rfl, rfl⟩)) rfl ⟨rfl, ?_⟩
  exact HB.out _ _
end Go.Proofs.YtkpgciimhjkajaaGreatDoor
/- The program's grid: the corners of a cell. -/
namespace Go.Proofs.YtkpgciimhjkajaaGreatDoor
open Go Go.RowKit
theorem rowT_3 : RowT 183 12 := ⟨by kernel_rfl, _, Tryz.underlying183, rfl⟩
def Pl.Sml (p : Pl) : Prop := (-2000 ≤ p.a ∧ p.a ≤ 2000) ∧ (-2000 ≤ p.b ∧ p.b ≤ 2000) ∧ (-2000 ≤ p.c ∧ p.c ≤ 2000)
theorem moved_to (p q : Pl) (x y z : Int) (e : (⟨p.f, p.a + x, p.b + y, p.c + z⟩ : Pl) = q) (hq : q.Sml) (w : World) :
    Calls Tryz.prog 118 #[p.val, .int .i64 x, .int .i64 y, .int .i64 z] w fun e w' => e = .returned q.val ∧ Below w.heap.size w w' := by
  subst e
  obtain ⟨⟨a0, a1⟩, ⟨b0, b1⟩, ⟨c0, c1⟩⟩ := hq
  simp only at a0 a1 b0 b1 c0 c1
  exact moved_any p x y z (IntWalk.i64_in _ (by omega)) (IntWalk.i64_in _ (by omega)) (IntWalk.i64_in _ (by omega)) w
theorem pt_sml {n f i j : Nat} (h : Fq n) (hf : f < 20) (hj : i + j ≤ n) : (pt n f i j).Sml := by
  obtain ⟨h1, h2, h3, h4, h5, h6⟩ := pt_ok h hf hj
  unfold Pl.Sml
  omega
def bp (n f i j m : Nat) : Pl := ⟨f, ((i * (840 / n) : Nat) : Int), ((j * (840 / n) : Nat) : Int), ((m * (840 / n) : Nat) : Int)⟩
theorem bp_mv {n f i j m i' j' m' : Nat} {x y z : Int} (h1 : ((i * (840 / n) : Nat) : Int) + x = ((i' * (840 / n) : Nat) : Int)) (h2 : ((j * (840 / n) : Nat) : Int) + y = ((j' * (840 / n) : Nat) : Int)) (h3 : ((m * (840 / n) : Nat) : Int) + z = ((m' * (840 / n) : Nat) : Int)) :
    (⟨(bp n f i j m).f, (bp n f i j m).a + x, (bp n f i j m).b + y, (bp n f i j m).c + z⟩ : Pl) = bp n f i' j' m' := by
  unfold bp; simp only; rw [h1, h2, h3]
theorem bp_pt {n f i j m : Nat} (h : m = n - i - j) : bp n f i j m = pt n f i j := by subst h; rfl
theorem up_h (i n : Nat) : ((i * (840 / n) : Nat) : Int) + ((840 / n : Nat) : Int) = (((i + 1) * (840 / n) : Nat) : Int) := by
  have := Nat.succ_mul i (840 / n)
  rw [show (i + 1) * (840 / n) = i * (840 / n) + 840 / n from this]; simp
theorem up_0 (i n : Nat) : ((i * (840 / n) : Nat) : Int) + 0 = ((i * (840 / n) : Nat) : Int) := Int.add_zero _
theorem dn_h (i n : Nat) : (((i + 1) * (840 / n) : Nat) : Int) + -((840 / n : Nat) : Int) = ((i * (840 / n) : Nat) : Int) := by
  rw [← up_h i n]; omega
def tri3V (p q r : Pl) : Value := .agg (p.cells ++ q.cells ++ r.cells).toArray
structure UpS (w : World) (B mb n : Nat) (nv cv ev xv : Value) (pk : Nat) (p : Pl) (w' : World) : Prop where
  net : NetN w' B mb n nv cv ev xv
  row : RowAt w' pk p.cells
theorem UpS.then {w : World} {B mb n : Nat} {nv cv ev xv : Value} {pk : Nat} {p : Pl} {w1 w2 : World} (h : UpS w B mb n nv cv ev xv pk p w1) (hb : Below w1.heap.size w1 w2) : UpS w B mb n nv cv ev xv pk p w2 := ⟨h.net.then hb, h.row.below hb⟩
def zero12 : List Value := [.int .i64 0, .int .i64 0, .int .i64 0, .int .i64 0, .int .i64 0, .int .i64 0, .int .i64 0, .int .i64 0, .int .i64 0, .int .i64 0, .int .i64 0, .int .i64 0]
set_option maxHeartbeats 8000000 in
set_option maxRecDepth 100000 in
theorem up_any (n : Nat) (B mb : Nat) (nv cv ev xv : Value) (p q1 q2 q3 : Pl) (h : Nat) (hh : h = 840 / n)
    (e1 : (⟨p.f, p.a + (h : Int), p.b + 0, p.c + 0⟩ : Pl) = q1) (e2 : (⟨p.f, p.a + 0, p.b + (h : Int), p.c + 0⟩ : Pl) = q2) (e3 : (⟨p.f, p.a + 0, p.b + 0, p.c + (h : Int)⟩ : Pl) = q3) (s1 : q1.Sml) (s2 : q2.Sml) (s3 : q3.Sml) (w : World) (hN : NetN w B mb n nv cv ev xv) :
    Calls Tryz.prog 116 #[.pointer (some ⟨B, 0, none⟩), p.val] w fun e w' => e = .returned (tri3V q1 q2 q3) ∧ Below w.heap.size w w' := by
  have HM1 := Lib.hid (fun w' => moved_to p q1 _ _ _ e1 s1 w')
  have HM2 := Lib.hid (fun w' => moved_to p q2 _ _ _ e2 s2 w')
  have HM3 := Lib.hid (fun w' => moved_to p q3 _ _ _ e3 s3 w')
  have Hh : Hid (840 / n = h) := hh.symm
  clear e1 e2 e3 s1 s2 s3 hh
  have HNt := Lib.hid hN
  clear hN
  obtain ⟨pf, pa, pb, pc⟩ := p
  obtain ⟨f1, a1, b1, c1⟩ := q1
  obtain ⟨f2, a2, b2, c2⟩ := q2
  obtain ⟨f3, a3, b3, c3⟩ := q3
  have HU0 : Hid (UpS w B mb n nv cv ev xv w.heap.size ⟨pf, pa, pb, pc⟩ ((w.alloc (.cells (Pl.cells ⟨pf, pa, pb, pc⟩).toArray 122)).alloc (.cells zero12.toArray 183))) :=
    ⟨HNt.out.then (((Below.refl _ _).alloc (Nat.le_refl _) _).alloc (by simp) _), (RowAt.new _ _ (by simp [Pl.cells]) _ rfl).alloc _⟩
  have HR0 : Hid (RowAt ((w.alloc (.cells (Pl.cells ⟨pf, pa, pb, pc⟩).toArray 122)).alloc (.cells zero12.toArray 183)) (w.heap.size + 1) zero12) := RowAt.new _ zero12 (by simp [zero12]) _ (by simp)
  have HB0 : Hid (Below w.heap.size w ((w.alloc (.cells (Pl.cells ⟨pf, pa, pb, pc⟩).toArray 122)).alloc (.cells zero12.toArray 183))) := ((Below.refl _ _).alloc (Nat.le_refl _) _).alloc (by simp) _
  unfold Pl.val at HM1 HM2 HM3 ⊢
  unfold tri3V
  simp only [Pl.cells, List.cons_append, List.nil_append] at HM1 HM2 HM3 HU0 HR0 HB0 ⊢
  simp only [zero12] at HU0 HR0 HB0
  go_enter Tryz.func116, Tryz.ntmps116
  go_upto_region 1 with fail
  obtain ⟨wz, hwz⟩ : ∃ x, x = (w.alloc (.cells #[.int .i64 pf, .int .i64 pa, .int .i64 pb, .int .i64 pc] 122)).alloc (.cells #[.int .i64 0, .int .i64 0, .int .i64 0, .int .i64 0, .int .i64 0, .int .i64 0, .int .i64 0, .int .i64 0, .int .i64 0, .int .i64 0, .int .i64 0, .int .i64 0] 183) := ⟨_, rfl⟩
  obtain ⟨rk, hrk⟩ : ∃ x, x = w.heap.size + 1 := ⟨_, rfl⟩
  rw [← hwz] at HU0 HR0 HB0
  rw [← hrk] at HR0
  rw [← hwz, ← hrk]
  have HU1 := HU0
  have HR1 := HR0
  have HB1 := HB0
  have Hrk : Hid (w.heap.size ≤ rk) := by unfold Hid; omega
  clear hwz hrk HU0 HR0 HB0
  obtain ⟨pv, hpv⟩ : ∃ pv : Value, pv = .agg #[.int .i64 pf, .int .i64 pa, .int .i64 pb, .int .i64 pc] := ⟨_, rfl⟩
  have Hpv := Lib.hid hpv
  clear hpv
  refine wp_region_seqL (by kernel_rfl) (fun w' => UpS w B mb n nv cv ev xv w.heap.size ⟨pf, pa, pb, pc⟩ w') 19 [(0, 1), (1, 0), (2, 0), (3, 0), (4, 1), (6, 1), (7, 0), (8, 0), (9, 0), (10, 1), (12, 1), (13, 0), (14, 0), (15, 0), (16, 1), (5, 2), (11, 2), (17, 2), (18, 0), (19, 2)] (by kernel_rfl) (HU1.out.then (Below.refl _ _).drew) ?_
  refine sl_load (d := some 5) rfl rfl rfl _ _ rfl ⟨w.heap.size, 0, none⟩ rfl (pv) (fun w hw => by rw [Hpv.out]; exact hw.row.loadVar rowT_p) ?_
  simp only [ap_s, ap_n, ls_z, ls_s]
  refine sl_q (d := some 6) rfl rfl rfl (.pointer (some ⟨B, 0, none⟩)) (fun w => rfl) ?_
  simp only [ap_s, ap_n, ls_z, ls_s]
  refine sl_q (d := some 7) rfl rfl rfl (.pointer (some ⟨B, 0, none⟩)) (fun w => rfl) ?_
  simp only [ap_s, ap_n, ls_z, ls_s]
  refine sl_q (d := some 8) rfl rfl rfl (.pointer (some ⟨B, 1, none⟩)) (fun w => by go_simp) ?_
  simp only [ap_s, ap_n, ls_z, ls_s]
  refine sl_s (d := some 9) rfl rfl rfl (.int .i64 (h : Int)) (fun w hw => by have c := hw.net.row.at 1 rfl; rw [Hh.out] at c; simp [execOp, Act.eval, go_sem, c]) ?_
  simp only [ap_s, ap_n, ls_z, ls_s]
  refine sl_load (d := some 11) rfl rfl rfl _ _ rfl ⟨w.heap.size, 0, none⟩ rfl (pv) (fun w hw => by rw [Hpv.out]; exact hw.row.loadVar rowT_p) ?_
  simp only [ap_s, ap_n, ls_z, ls_s]
  refine sl_q (d := some 12) rfl rfl rfl (.pointer (some ⟨B, 0, none⟩)) (fun w => rfl) ?_
  simp only [ap_s, ap_n, ls_z, ls_s]
  refine sl_q (d := some 13) rfl rfl rfl (.pointer (some ⟨B, 0, none⟩)) (fun w => rfl) ?_
  simp only [ap_s, ap_n, ls_z, ls_s]
  refine sl_q (d := some 14) rfl rfl rfl (.pointer (some ⟨B, 1, none⟩)) (fun w => by go_simp) ?_
  simp only [ap_s, ap_n, ls_z, ls_s]
  refine sl_s (d := some 15) rfl rfl rfl (.int .i64 (h : Int)) (fun w hw => by have c := hw.net.row.at 1 rfl; rw [Hh.out] at c; simp [execOp, Act.eval, go_sem, c]) ?_
  simp only [ap_s, ap_n, ls_z, ls_s]
  refine sl_load (d := some 17) rfl rfl rfl _ _ rfl ⟨w.heap.size, 0, none⟩ rfl (pv) (fun w hw => by rw [Hpv.out]; exact hw.row.loadVar rowT_p) ?_
  simp only [ap_s, ap_n, ls_z, ls_s]
  refine sl_q (d := some 18) rfl rfl rfl (.pointer (some ⟨B, 0, none⟩)) (fun w => rfl) ?_
  simp only [ap_s, ap_n, ls_z, ls_s]
  refine sl_q (d := some 19) rfl rfl rfl (.pointer (some ⟨B, 0, none⟩)) (fun w => rfl) ?_
  simp only [ap_s, ap_n, ls_z, ls_s]
  refine sl_q (d := some 20) rfl rfl rfl (.pointer (some ⟨B, 1, none⟩)) (fun w => by go_simp) ?_
  simp only [ap_s, ap_n, ls_z, ls_s]
  refine sl_s (d := some 21) rfl rfl rfl (.int .i64 (h : Int)) (fun w hw => by have c := hw.net.row.at 1 rfl; rw [Hh.out] at c; simp [execOp, Act.eval, go_sem, c]) ?_
  simp only [ap_s, ap_n, ls_z, ls_s]
  refine sl_call (d := some 10) rfl rfl rfl ⟨_, Tryz.func118, by kernel_rfl, by kernel_rfl⟩ _ _ _ rfl rfl [pv, .int .i64 (h : Int), .int .i64 0, .int .i64 0] rfl (by rw [Hpv.out]; exact HM1.out wz.drew) ?_
  rintro e u1 ⟨rfl, hb⟩
  have HU2 := Lib.hid (HU1.out.then ((Below.refl _ _).drew.trans hb))
  have HR2 := Lib.hid (HR1.out.below ((Below.refl _ _).drew.trans hb))
  have HB2 := Lib.hid (below_then HB1.out ((Below.refl _ _).drew.trans hb))
  clear hb HU1 HR1 HB1
  refine ⟨_, rfl, fun _ => HU2.out, ?_⟩
  simp only [ap_s, ap_n, ls_z, ls_s]
  refine sl_call (d := some 16) rfl rfl rfl ⟨_, Tryz.func118, by kernel_rfl, by kernel_rfl⟩ _ _ _ rfl rfl [pv, .int .i64 0, .int .i64 (h : Int), .int .i64 0] rfl (by rw [Hpv.out]; exact HM2.out u1) ?_
  rintro e u2 ⟨rfl, hb⟩
  have HU3 := Lib.hid (HU2.out.then hb)
  have HR3 := Lib.hid (HR2.out.below hb)
  have HB3 := Lib.hid (below_then HB2.out hb)
  clear hb HU2 HR2 HB2
  refine ⟨_, rfl, fun _ => HU3.out, ?_⟩
  simp only [ap_s, ap_n, ls_z, ls_s]
  refine sl_call (d := some 22) rfl rfl rfl ⟨_, Tryz.func118, by kernel_rfl, by kernel_rfl⟩ _ _ _ rfl rfl [pv, .int .i64 0, .int .i64 0, .int .i64 (h : Int)] rfl (by rw [Hpv.out]; exact HM3.out u2) ?_
  rintro e u3 ⟨rfl, hb⟩
  have HU4 := Lib.hid (HU3.out.then hb)
  have HR4 := Lib.hid (HR3.out.below hb)
  have HB4 := Lib.hid (below_then HB3.out hb)
  clear hb HU3 HR3 HB3
  refine ⟨_, rfl, fun _ => HU4.out, ?_⟩
  simp only [ap_s, ap_n, ls_z, ls_s]
  refine sl_q (d := some 23) rfl rfl rfl (.agg #[.int .i64 f1, .int .i64 a1, .int .i64 b1, .int .i64 c1, .int .i64 f2, .int .i64 a2, .int .i64 b2, .int .i64 c2, .int .i64 f3, .int .i64 a3, .int .i64 b3, .int .i64 c3]) (fun w => by simp [execOp, Act.eval, go_sem]) ?_
  simp only [ap_s, ap_n, ls_z, ls_s]
  refine sl_rowst (d := none) rfl rfl rfl _ _ rfl rk rfl _ [.int .i64 f1, .int .i64 a1, .int .i64 b1, .int .i64 c1, .int .i64 f2, .int .i64 a2, .int .i64 b2, .int .i64 c2, .int .i64 f3, .int .i64 a3, .int .i64 b3, .int .i64 c3] rfl HR4.out rfl rowT_3 (by intro v hv; simp at hv; rcases hv with rfl | rfl | rfl | rfl | rfl | rfl | rfl | rfl | rfl | rfl | rfl | rfl <;> rfl) ?_
  intro w9 h9 ha9
  refine ⟨(fun h => by cases h), ?_⟩
  simp only [ap_s, ap_n, ls_z, ls_s]
  refine sl_end ?_
  go_wp2_with fail
  exact ret_row rfl _ _ h9 rowT_3 rfl rfl ⟨rfl, (HB4.out.trans (ha9.below (B := w.heap.size) (by have := Hrk.out; omega)))⟩
set_option maxHeartbeats 8000000 in
set_option maxRecDepth 100000 in
theorem down_any (n : Nat) (B mb : Nat) (nv cv ev xv : Value) (p q1 q2 q3 : Pl) (h : Nat) (hh : h = 840 / n)
    (e1 : (⟨p.f, p.a + 0, p.b + (h : Int), p.c + (h : Int)⟩ : Pl) = q1) (e2 : (⟨p.f, p.a + (h : Int), p.b + 0, p.c + (h : Int)⟩ : Pl) = q2) (e3 : (⟨p.f, p.a + (h : Int), p.b + (h : Int), p.c + 0⟩ : Pl) = q3) (s1 : q1.Sml) (s2 : q2.Sml) (s3 : q3.Sml) (w : World) (hN : NetN w B mb n nv cv ev xv) :
    Calls Tryz.prog 117 #[.pointer (some ⟨B, 0, none⟩), p.val] w fun e w' => e = .returned (tri3V q1 q2 q3) ∧ Below w.heap.size w w' := by
  have HM1 := Lib.hid (fun w' => moved_to p q1 _ _ _ e1 s1 w')
  have HM2 := Lib.hid (fun w' => moved_to p q2 _ _ _ e2 s2 w')
  have HM3 := Lib.hid (fun w' => moved_to p q3 _ _ _ e3 s3 w')
  have Hh : Hid (840 / n = h) := hh.symm
  clear e1 e2 e3 s1 s2 s3 hh
  have HNt := Lib.hid hN
  clear hN
  obtain ⟨pf, pa, pb, pc⟩ := p
  obtain ⟨f1, a1, b1, c1⟩ := q1
  obtain ⟨f2, a2, b2, c2⟩ := q2
  obtain ⟨f3, a3, b3, c3⟩ := q3
  have HU0 : Hid (UpS w B mb n nv cv ev xv w.heap.size ⟨pf, pa, pb, pc⟩ ((w.alloc (.cells (Pl.cells ⟨pf, pa, pb, pc⟩).toArray 122)).alloc (.cells zero12.toArray 183))) :=
    ⟨HNt.out.then (((Below.refl _ _).alloc (Nat.le_refl _) _).alloc (by simp) _), (RowAt.new _ _ (by simp [Pl.cells]) _ rfl).alloc _⟩
  have HR0 : Hid (RowAt ((w.alloc (.cells (Pl.cells ⟨pf, pa, pb, pc⟩).toArray 122)).alloc (.cells zero12.toArray 183)) (w.heap.size + 1) zero12) := RowAt.new _ zero12 (by simp [zero12]) _ (by simp)
  have HB0 : Hid (Below w.heap.size w ((w.alloc (.cells (Pl.cells ⟨pf, pa, pb, pc⟩).toArray 122)).alloc (.cells zero12.toArray 183))) := ((Below.refl _ _).alloc (Nat.le_refl _) _).alloc (by simp) _
  unfold Pl.val at HM1 HM2 HM3 ⊢
  unfold tri3V
  simp only [Pl.cells, List.cons_append, List.nil_append] at HM1 HM2 HM3 HU0 HR0 HB0 ⊢
  simp only [zero12] at HU0 HR0 HB0
  go_enter Tryz.func117, Tryz.ntmps117
  go_upto_region 1 with fail
  obtain ⟨wz, hwz⟩ : ∃ x, x = (w.alloc (.cells #[.int .i64 pf, .int .i64 pa, .int .i64 pb, .int .i64 pc] 122)).alloc (.cells #[.int .i64 0, .int .i64 0, .int .i64 0, .int .i64 0, .int .i64 0, .int .i64 0, .int .i64 0, .int .i64 0, .int .i64 0, .int .i64 0, .int .i64 0, .int .i64 0] 183) := ⟨_, rfl⟩
  obtain ⟨rk, hrk⟩ : ∃ x, x = w.heap.size + 1 := ⟨_, rfl⟩
  rw [← hwz] at HU0 HR0 HB0
  rw [← hrk] at HR0
  rw [← hwz, ← hrk]
  have HU1 := HU0
  have HR1 := HR0
  have HB1 := HB0
  have Hrk : Hid (w.heap.size ≤ rk) := by unfold Hid; omega
  clear hwz hrk HU0 HR0 HB0
  obtain ⟨pv, hpv⟩ : ∃ pv : Value, pv = .agg #[.int .i64 pf, .int .i64 pa, .int .i64 pb, .int .i64 pc] := ⟨_, rfl⟩
  have Hpv := Lib.hid hpv
  clear hpv
  refine wp_region_seqL (by kernel_rfl) (fun w' => UpS w B mb n nv cv ev xv w.heap.size ⟨pf, pa, pb, pc⟩ w') 31 [(0, 1), (1, 0), (2, 0), (3, 0), (4, 1), (5, 0), (6, 0), (7, 0), (8, 1), (10, 1), (11, 0), (12, 0), (13, 0), (14, 1), (15, 0), (16, 0), (17, 0), (18, 1), (20, 1), (21, 0), (22, 0), (23, 0), (24, 1), (25, 0), (26, 0), (27, 0), (28, 1), (9, 2), (19, 2), (29, 2), (30, 0), (31, 2)] (by kernel_rfl) (HU1.out.then (Below.refl _ _).drew) ?_
  refine sl_load (d := some 5) rfl rfl rfl _ _ rfl ⟨w.heap.size, 0, none⟩ rfl (pv) (fun w hw => by rw [Hpv.out]; exact hw.row.loadVar rowT_p) ?_
  simp only [ap_s, ap_n, ls_z, ls_s]
  refine sl_q (d := some 6) rfl rfl rfl (.pointer (some ⟨B, 0, none⟩)) (fun w => rfl) ?_
  simp only [ap_s, ap_n, ls_z, ls_s]
  refine sl_q (d := some 7) rfl rfl rfl (.pointer (some ⟨B, 0, none⟩)) (fun w => rfl) ?_
  simp only [ap_s, ap_n, ls_z, ls_s]
  refine sl_q (d := some 8) rfl rfl rfl (.pointer (some ⟨B, 1, none⟩)) (fun w => by go_simp) ?_
  simp only [ap_s, ap_n, ls_z, ls_s]
  refine sl_s (d := some 9) rfl rfl rfl (.int .i64 (h : Int)) (fun w hw => by have c := hw.net.row.at 1 rfl; rw [Hh.out] at c; simp [execOp, Act.eval, go_sem, c]) ?_
  simp only [ap_s, ap_n, ls_z, ls_s]
  refine sl_q (d := some 10) rfl rfl rfl (.pointer (some ⟨B, 0, none⟩)) (fun w => rfl) ?_
  simp only [ap_s, ap_n, ls_z, ls_s]
  refine sl_q (d := some 11) rfl rfl rfl (.pointer (some ⟨B, 0, none⟩)) (fun w => rfl) ?_
  simp only [ap_s, ap_n, ls_z, ls_s]
  refine sl_q (d := some 12) rfl rfl rfl (.pointer (some ⟨B, 1, none⟩)) (fun w => by go_simp) ?_
  simp only [ap_s, ap_n, ls_z, ls_s]
  refine sl_s (d := some 13) rfl rfl rfl (.int .i64 (h : Int)) (fun w hw => by have c := hw.net.row.at 1 rfl; rw [Hh.out] at c; simp [execOp, Act.eval, go_sem, c]) ?_
  simp only [ap_s, ap_n, ls_z, ls_s]
  refine sl_load (d := some 15) rfl rfl rfl _ _ rfl ⟨w.heap.size, 0, none⟩ rfl (pv) (fun w hw => by rw [Hpv.out]; exact hw.row.loadVar rowT_p) ?_
  simp only [ap_s, ap_n, ls_z, ls_s]
  refine sl_q (d := some 16) rfl rfl rfl (.pointer (some ⟨B, 0, none⟩)) (fun w => rfl) ?_
  simp only [ap_s, ap_n, ls_z, ls_s]
  refine sl_q (d := some 17) rfl rfl rfl (.pointer (some ⟨B, 0, none⟩)) (fun w => rfl) ?_
  simp only [ap_s, ap_n, ls_z, ls_s]
  refine sl_q (d := some 18) rfl rfl rfl (.pointer (some ⟨B, 1, none⟩)) (fun w => by go_simp) ?_
  simp only [ap_s, ap_n, ls_z, ls_s]
  refine sl_s (d := some 19) rfl rfl rfl (.int .i64 (h : Int)) (fun w hw => by have c := hw.net.row.at 1 rfl; rw [Hh.out] at c; simp [execOp, Act.eval, go_sem, c]) ?_
  simp only [ap_s, ap_n, ls_z, ls_s]
  refine sl_q (d := some 20) rfl rfl rfl (.pointer (some ⟨B, 0, none⟩)) (fun w => rfl) ?_
  simp only [ap_s, ap_n, ls_z, ls_s]
  refine sl_q (d := some 21) rfl rfl rfl (.pointer (some ⟨B, 0, none⟩)) (fun w => rfl) ?_
  simp only [ap_s, ap_n, ls_z, ls_s]
  refine sl_q (d := some 22) rfl rfl rfl (.pointer (some ⟨B, 1, none⟩)) (fun w => by go_simp) ?_
  simp only [ap_s, ap_n, ls_z, ls_s]
  refine sl_s (d := some 23) rfl rfl rfl (.int .i64 (h : Int)) (fun w hw => by have c := hw.net.row.at 1 rfl; rw [Hh.out] at c; simp [execOp, Act.eval, go_sem, c]) ?_
  simp only [ap_s, ap_n, ls_z, ls_s]
  refine sl_load (d := some 25) rfl rfl rfl _ _ rfl ⟨w.heap.size, 0, none⟩ rfl (pv) (fun w hw => by rw [Hpv.out]; exact hw.row.loadVar rowT_p) ?_
  simp only [ap_s, ap_n, ls_z, ls_s]
  refine sl_q (d := some 26) rfl rfl rfl (.pointer (some ⟨B, 0, none⟩)) (fun w => rfl) ?_
  simp only [ap_s, ap_n, ls_z, ls_s]
  refine sl_q (d := some 27) rfl rfl rfl (.pointer (some ⟨B, 0, none⟩)) (fun w => rfl) ?_
  simp only [ap_s, ap_n, ls_z, ls_s]
  refine sl_q (d := some 28) rfl rfl rfl (.pointer (some ⟨B, 1, none⟩)) (fun w => by go_simp) ?_
  simp only [ap_s, ap_n, ls_z, ls_s]
  refine sl_s (d := some 29) rfl rfl rfl (.int .i64 (h : Int)) (fun w hw => by have c := hw.net.row.at 1 rfl; rw [Hh.out] at c; simp [execOp, Act.eval, go_sem, c]) ?_
  simp only [ap_s, ap_n, ls_z, ls_s]
  refine sl_q (d := some 30) rfl rfl rfl (.pointer (some ⟨B, 0, none⟩)) (fun w => rfl) ?_
  simp only [ap_s, ap_n, ls_z, ls_s]
  refine sl_q (d := some 31) rfl rfl rfl (.pointer (some ⟨B, 0, none⟩)) (fun w => rfl) ?_
  simp only [ap_s, ap_n, ls_z, ls_s]
  refine sl_q (d := some 32) rfl rfl rfl (.pointer (some ⟨B, 1, none⟩)) (fun w => by go_simp) ?_
  simp only [ap_s, ap_n, ls_z, ls_s]
  refine sl_s (d := some 33) rfl rfl rfl (.int .i64 (h : Int)) (fun w hw => by have c := hw.net.row.at 1 rfl; rw [Hh.out] at c; simp [execOp, Act.eval, go_sem, c]) ?_
  simp only [ap_s, ap_n, ls_z, ls_s]
  refine sl_call (d := some 14) rfl rfl rfl ⟨_, Tryz.func118, by kernel_rfl, by kernel_rfl⟩ _ _ _ rfl rfl [pv, .int .i64 0, .int .i64 (h : Int), .int .i64 (h : Int)] rfl (by rw [Hpv.out]; exact HM1.out wz.drew) ?_
  rintro e u1 ⟨rfl, hb⟩
  have HU2 := Lib.hid (HU1.out.then ((Below.refl _ _).drew.trans hb))
  have HR2 := Lib.hid (HR1.out.below ((Below.refl _ _).drew.trans hb))
  have HB2 := Lib.hid (below_then HB1.out ((Below.refl _ _).drew.trans hb))
  clear hb HU1 HR1 HB1
  refine ⟨_, rfl, fun _ => HU2.out, ?_⟩
  simp only [ap_s, ap_n, ls_z, ls_s]
  refine sl_call (d := some 24) rfl rfl rfl ⟨_, Tryz.func118, by kernel_rfl, by kernel_rfl⟩ _ _ _ rfl rfl [pv, .int .i64 (h : Int), .int .i64 0, .int .i64 (h : Int)] rfl (by rw [Hpv.out]; exact HM2.out u1) ?_
  rintro e u2 ⟨rfl, hb⟩
  have HU3 := Lib.hid (HU2.out.then hb)
  have HR3 := Lib.hid (HR2.out.below hb)
  have HB3 := Lib.hid (below_then HB2.out hb)
  clear hb HU2 HR2 HB2
  refine ⟨_, rfl, fun _ => HU3.out, ?_⟩
  simp only [ap_s, ap_n, ls_z, ls_s]
  refine sl_call (d := some 34) rfl rfl rfl ⟨_, Tryz.func118, by kernel_rfl, by kernel_rfl⟩ _ _ _ rfl rfl [pv, .int .i64 (h : Int), .int .i64 (h : Int), .int .i64 0] rfl (by rw [Hpv.out]; exact HM3.out u2) ?_
  rintro e u3 ⟨rfl, hb⟩
  have HU4 := Lib.hid (HU3.out.then hb)
  have HR4 := Lib.hid (HR3.out.below hb)
  have HB4 := Lib.hid (below_then HB3.out hb)
  clear hb HU3 HR3 HB3
  refine ⟨_, rfl, fun _ => HU4.out, ?_⟩
  simp only [ap_s, ap_n, ls_z, ls_s]
  refine sl_q (d := some 35) rfl rfl rfl (.agg #[.int .i64 f1, .int .i64 a1, .int .i64 b1, .int .i64 c1, .int .i64 f2, .int .i64 a2, .int .i64 b2, .int .i64 c2, .int .i64 f3, .int .i64 a3, .int .i64 b3, .int .i64 c3]) (fun w => by simp [execOp, Act.eval, go_sem]) ?_
  simp only [ap_s, ap_n, ls_z, ls_s]
  refine sl_rowst (d := none) rfl rfl rfl _ _ rfl rk rfl _ [.int .i64 f1, .int .i64 a1, .int .i64 b1, .int .i64 c1, .int .i64 f2, .int .i64 a2, .int .i64 b2, .int .i64 c2, .int .i64 f3, .int .i64 a3, .int .i64 b3, .int .i64 c3] rfl HR4.out rfl rowT_3 (by intro v hv; simp at hv; rcases hv with rfl | rfl | rfl | rfl | rfl | rfl | rfl | rfl | rfl | rfl | rfl | rfl <;> rfl) ?_
  intro w9 h9 ha9
  refine ⟨(fun h => by cases h), ?_⟩
  simp only [ap_s, ap_n, ls_z, ls_s]
  refine sl_end ?_
  go_wp2_with fail
  exact ret_row rfl _ _ h9 rowT_3 rfl rfl ⟨rfl, (HB4.out.trans (ha9.below (B := w.heap.size) (by have := Hrk.out; omega)))⟩
end Go.Proofs.YtkpgciimhjkajaaGreatDoor
/- Cells and edges of a grid in plain words: one by one put in their places, or sorted and made single: the same. No program. -/
namespace Go.Proofs.YtkpgciimhjkajaaGreatDoor
abbrev Tri := Nat × Nat × Nat
abbrev Ed := Nat × Nat
def LtT (x y : Tri) : Prop := x.1 < y.1 ∨ (x.1 = y.1 ∧ (x.2.1 < y.2.1 ∨ (x.2.1 = y.2.1 ∧ x.2.2 < y.2.2)))
instance (x y : Tri) : Decidable (LtT x y) := by unfold LtT; infer_instance
def LtE (x y : Ed) : Prop := x.1 < y.1 ∨ (x.1 = y.1 ∧ x.2 < y.2)
instance (x y : Ed) : Decidable (LtE x y) := by unfold LtE; infer_instance
def posT (l : List Tri) (x : Tri) : Nat → Nat
  | 0 => 0
  | k + 1 => if LtT x (l.getD k (0, 0, 0)) then posT l x k else k + 1
def insT (l : List Tri) (x : Tri) : List Tri := l.take (posT l x l.length) ++ x :: l.drop (posT l x l.length)
theorem posT_le (l : List Tri) (x : Tri) : ∀ k, posT l x k ≤ k
  | 0 => Nat.le_refl _
  | k + 1 => by rw [posT]; split; · have := posT_le l x k; omega
                · exact Nat.le_refl _
theorem posT_step {l : List Tri} {x : Tri} {k : Nat} (h : LtT x (l.getD k (0, 0, 0))) : posT l x (k + 1) = posT l x k := by rw [posT, if_pos h]
theorem posT_stop {l : List Tri} {x : Tri} {k : Nat} (h : ¬ LtT x (l.getD k (0, 0, 0))) : posT l x (k + 1) = k + 1 := by rw [posT, if_neg h]
theorem insT_length (l : List Tri) (x : Tri) : (insT l x).length = l.length + 1 := by
  have := posT_le l x l.length
  simp [insT]; omega
theorem insT_perm (l : List Tri) (x : Tri) : (insT l x).Perm (x :: l) := by
  unfold insT
  refine List.perm_middle.trans ?_
  rw [List.take_append_drop]
def LeT (x y : Tri) : Prop := ¬ LtT y x
theorem LeT.trans {x y z : Tri} (h : LeT x y) (h2 : LeT y z) : LeT x z := by unfold LeT LtT at *; omega
theorem LeT.anti {x y : Tri} (h : LeT x y) (h2 : LeT y x) : x = y := by
  obtain ⟨a, b, c⟩ := x
  obtain ⟨d, e, f⟩ := y
  unfold LeT LtT at *
  simp only at h h2
  obtain ⟨rfl, rfl, rfl⟩ : a = d ∧ b = e ∧ c = f := by omega
  rfl
theorem posT_after (l : List Tri) (x : Tri) : ∀ k j, k ≤ l.length → posT l x k ≤ j → j < k → LtT x (l.getD j (0, 0, 0))
  | 0, j, _, _, h => by omega
  | k + 1, j, hk, hp, hj => by
    rw [posT] at hp
    split at hp
    · rename_i h
      by_cases e : j = k
      · subst e; exact h
      · exact posT_after l x k j (by omega) hp (by omega)
    · omega
theorem posT_before (l : List Tri) (x : Tri) : ∀ k, posT l x k = 0 ∨ ¬ LtT x (l.getD (posT l x k - 1) (0, 0, 0))
  | 0 => Or.inl rfl
  | k + 1 => by
    rw [posT]
    split
    · exact posT_before l x k
    · right; simpa using by assumption
theorem insT_sorted {l : List Tri} (h : l.Pairwise LeT) (x : Tri) : (insT l x).Pairwise LeT := by
  have hk := posT_le l x l.length
  have hb := posT_before l x l.length
  have ha := posT_after l x l.length
  unfold insT
  generalize posT l x l.length = k at *
  have hl : ∀ i j, (hi : i < j) → (hj : j < l.length) → LeT (l.getD i (0, 0, 0)) (l.getD j (0, 0, 0)) := by
    intro i j hi hj
    have := List.pairwise_iff_getElem.1 h i j (by omega) hj hi
    simpa [List.getD_eq_getElem?_getD, hj, show i < l.length by omega] using this
  rw [List.pairwise_append]
  have hlow : ∀ a ∈ l.take k, LeT a x := by
    intro a ha'
    obtain ⟨i, hi, rfl⟩ := List.getElem_of_mem ha'
    rw [List.length_take] at hi
    have e : (l.take k)[i] = l.getD i (0, 0, 0) := by simp [List.getD_eq_getElem?_getD, show i < l.length by omega]
    rw [e]
    rcases hb with hb | hb
    · omega
    · by_cases hik : i = k - 1
      · rw [hik]; exact hb
      · exact (hl i (k - 1) (by omega) (by omega)).trans hb
  have hup : ∀ a ∈ l.drop k, LtT x a := by
    intro a ha'
    obtain ⟨i, hi, rfl⟩ := List.getElem_of_mem ha'
    rw [List.length_drop] at hi
    have e : (l.drop k)[i] = l.getD (k + i) (0, 0, 0) := by simp [List.getD_eq_getElem?_getD, show k + i < l.length by omega]
    rw [e]
    exact ha (k + i) (Nat.le_refl _) (by omega) (by omega)
  refine ⟨h.sublist (List.take_sublist k l), ?_, ?_⟩
  · rw [List.pairwise_cons]
    exact ⟨fun a ha' => by have := hup a ha'; unfold LeT LtT at *; omega, h.sublist (List.drop_sublist k l)⟩
  · intro a ha' b hb'
    rcases List.mem_cons.1 hb' with rfl | hb'
    · exact hlow a ha'
    · have h1 := hlow a ha'; have h2 := hup b hb'; unfold LeT LtT at *; omega
theorem fold_sorted (l : List Tri) : ∀ acc : List Tri, acc.Pairwise LeT → (l.foldl insT acc).Pairwise LeT ∧ (l.foldl insT acc).Perm (l ++ acc) := by
  induction l with
  | nil => intro acc h; exact ⟨h, List.Perm.refl _⟩
  | cons x r ih =>
    intro acc h
    obtain ⟨h1, h2⟩ := ih _ (insT_sorted h x)
    refine ⟨h1, h2.trans ?_⟩
    refine ((insT_perm acc x).append_left r).trans ?_
    simp
def insU (q : Nat) : List Nat → List Nat
  | [] => [q]
  | x :: r => if x < q then x :: insU q r else if x = q then x :: r else q :: x :: r
theorem mem_insU (q x : Nat) : ∀ l, x ∈ insU q l ↔ x = q ∨ x ∈ l
  | [] => by simp [insU]
  | y :: r => by
    rw [insU]
    split
    · simp only [List.mem_cons, mem_insU q x r]
      constructor
      · rintro (h | h | h) <;> simp [h]
      · rintro (h | h | h) <;> simp [h]
    · split
      · rename_i h; subst h; simp
      · simp
theorem insU_sorted (q : Nat) : ∀ l : List Nat, l.Pairwise (· < ·) → (insU q l).Pairwise (· < ·)
  | [], _ => by simp [insU]
  | y :: r, h => by
    rw [List.pairwise_cons] at h
    rw [insU]
    split
    · rw [List.pairwise_cons]
      refine ⟨fun a ha => ?_, insU_sorted q r h.2⟩
      rcases (mem_insU q a r).1 ha with rfl | ha
      · assumption
      · exact h.1 a ha
    · split
      · rw [List.pairwise_cons]; exact h
      · rw [List.pairwise_cons, List.pairwise_cons]
        refine ⟨fun a ha => ?_, h⟩
        rcases List.mem_cons.1 ha with rfl | ha
        · omega
        · have := h.1 a ha; omega
def prs (c : Tri) : List Ed := [(c.1, c.2.1), (c.1, c.2.2), (c.2.1, c.2.2), (c.2.1, c.1), (c.2.2, c.1), (c.2.2, c.2.1)]
def adjStep (out : List (List Nat)) (p : Ed) : List (List Nat) := out.set p.1 (insU p.2 (out.getD p.1 []))
def adjN (N : Nat) (cs : List Tri) : List (List Nat) := (cs.flatMap prs).foldl adjStep (List.replicate N [])
def edR (out : List (List Nat)) : List Ed := (List.range out.length).flatMap fun a => ((out.getD a []).filter fun b => decide (a < b)).map fun b => (a, b)
theorem adjStep_length (out : List (List Nat)) (p : Ed) : (adjStep out p).length = out.length := by simp [adjStep]
theorem adj_length (ps : List Ed) : ∀ out : List (List Nat), (ps.foldl adjStep out).length = out.length := by
  induction ps with
  | nil => intro out; rfl
  | cons p r ih => intro out; rw [List.foldl_cons, ih, adjStep_length]
theorem adj_sorted (ps : List Ed) : ∀ out : List (List Nat), (∀ a, (out.getD a []).Pairwise (· < ·)) → ∀ a, ((ps.foldl adjStep out).getD a []).Pairwise (· < ·) := by
  induction ps with
  | nil => intro out h; exact h
  | cons p r ih =>
    intro out h
    refine ih _ fun a => ?_
    unfold adjStep
    by_cases e : p.1 = a ∧ a < out.length
    · obtain ⟨rfl, hlt⟩ := e
      have : (out.set p.1 (insU p.2 (out.getD p.1 []))).getD p.1 [] = insU p.2 (out.getD p.1 []) := by simp [List.getD_eq_getElem?_getD, hlt]
      rw [this]
      exact insU_sorted _ _ (h _)
    · have : (out.set p.1 (insU p.2 (out.getD p.1 []))).getD a [] = out.getD a [] := by
        by_cases e1 : p.1 = a
        · have : out.length ≤ a := by omega
          simp [List.getD_eq_getElem?_getD, this]
        · simp [List.getD_eq_getElem?_getD, List.getElem?_set_ne e1]
      rw [this]; exact h a
theorem adj_mem (ps : List Ed) : ∀ out : List (List Nat), (∀ p ∈ ps, p.1 < out.length) → ∀ a b, b ∈ (ps.foldl adjStep out).getD a [] ↔ (b ∈ out.getD a [] ∨ (a, b) ∈ ps) := by
  induction ps with
  | nil => intro out _ a b; simp
  | cons p r ih =>
    intro out h a b
    rw [List.foldl_cons, ih _ (fun q hq => by rw [adjStep_length]; exact h q (by simp [hq]))]
    have hp := h p (by simp)
    unfold adjStep
    by_cases e : p.1 = a
    · subst e
      have : (out.set p.1 (insU p.2 (out.getD p.1 []))).getD p.1 [] = insU p.2 (out.getD p.1 []) := by simp [List.getD_eq_getElem?_getD, hp]
      rw [this, mem_insU]
      have : (p.1, b) = p ↔ b = p.2 := by constructor; · intro e; rw [← e]
                                          · intro e; rw [e]
      rw [List.mem_cons, this]
      constructor
      · rintro ((h | h) | h)
        · exact Or.inr (Or.inl h)
        · exact Or.inl h
        · exact Or.inr (Or.inr h)
      · rintro (h | h | h)
        · exact Or.inl (Or.inr h)
        · exact Or.inl (Or.inl h)
        · exact Or.inr h
    · have : (out.set p.1 (insU p.2 (out.getD p.1 []))).getD a [] = out.getD a [] := by simp [List.getD_eq_getElem?_getD, List.getElem?_set_ne e]
      rw [this, List.mem_cons]
      have : (a, b) ≠ p := fun e' => e (by rw [← e'])
      simp [this]
def LeE (x y : Ed) : Prop := ¬ LtE y x
def leEb (x y : Ed) : Bool := !decide (LtE y x)
theorem leEb_iff (x y : Ed) : leEb x y = true ↔ LeE x y := by simp [leEb, LeE]
def cpt {α : Type} [DecidableEq α] : List α → List α
  | [] => []
  | x :: r => match r with
    | [] => [x]
    | y :: s => if x = y then cpt (y :: s) else x :: cpt (y :: s)
theorem cpt_mem {α : Type} [DecidableEq α] (a : α) : ∀ l : List α, a ∈ cpt l ↔ a ∈ l
  | [] => by simp [cpt]
  | [x] => by simp [cpt]
  | x :: y :: s => by
    rw [cpt]
    split
    · rename_i h; subst h; rw [cpt_mem a (x :: s)]; simp
    · rw [List.mem_cons, cpt_mem a (y :: s), ← List.mem_cons]
theorem cpt_sorted : ∀ l : List Ed, l.Pairwise LeE → (cpt l).Pairwise LtE
  | [], _ => by simp [cpt]
  | [x], _ => by simp [cpt]
  | x :: y :: s, h => by
    rw [List.pairwise_cons] at h
    rw [cpt]
    split
    · exact cpt_sorted _ h.2
    · rename_i hne
      rw [List.pairwise_cons]
      refine ⟨fun a ha => ?_, cpt_sorted _ h.2⟩
      have ha' := (cpt_mem a _).1 ha
      have h1 := h.1 y (by simp)
      have h2 : LeE y a := by
        rcases List.mem_cons.1 ha' with rfl | ha'
        · unfold LeE LtE; omega
        · exact (List.pairwise_cons.1 h.2).1 a ha'
      have h3 : LtE x y := by
        obtain ⟨a1, a2⟩ := x
        obtain ⟨b1, b2⟩ := y
        unfold LeE LtE at *
        simp only [Prod.mk.injEq] at hne h1 ⊢
        omega
      unfold LeE LtE at *; omega
theorem lt_unique {α : Type} {R : α → α → Prop} (irr : ∀ x, ¬ R x x) (tr : ∀ x y z, R x y → R y z → R x z) : ∀ l m : List α, l.Pairwise R → m.Pairwise R → (∀ a, a ∈ l ↔ a ∈ m) → l = m
  | [], [], _, _, _ => rfl
  | [], y :: s, _, _, h => absurd ((h y).2 (by simp)) (by simp)
  | x :: r, [], _, _, h => absurd ((h x).1 (by simp)) (by simp)
  | x :: r, y :: s, h1, h2, h => by
    rw [List.pairwise_cons] at h1 h2
    have e : x = y := by
      rcases List.mem_cons.1 ((h x).1 (by simp)) with e | hx
      · exact e
      · rcases List.mem_cons.1 ((h y).2 (by simp)) with e | hy
        · exact e.symm
        · exact absurd (tr _ _ _ (h2.1 x hx) (h1.1 y hy)) (irr y)
    subst e
    congr 1
    refine lt_unique irr tr r s h1.2 h2.2 fun a => ?_
    constructor
    · intro ha
      rcases List.mem_cons.1 ((h a).1 (by simp [ha])) with rfl | h'
      · exact absurd (h1.1 a ha) (irr a)
      · exact h'
    · intro ha
      rcases List.mem_cons.1 ((h a).2 (by simp [ha])) with rfl | h'
      · exact absurd (h2.1 a ha) (irr a)
      · exact h'
def edL (cs : List Tri) : List Ed := cs.flatMap fun c => [(c.1, c.2.1), (c.1, c.2.2), (c.2.1, c.2.2)]
def edP (cs : List Tri) : List Ed := cpt ((edL cs).mergeSort leEb)
theorem edR_sorted (out : List (List Nat)) (h : ∀ a, (out.getD a []).Pairwise (· < ·)) : (edR out).Pairwise LtE := by
  unfold edR
  rw [List.pairwise_flatMap]
  refine ⟨fun a _ => ?_, List.pairwise_lt_range.imp fun {a b} hab x hx y hy => ?_⟩
  · rw [List.pairwise_map]
    exact ((h a).filter _).imp fun hab => Or.inr ⟨rfl, hab⟩
  · obtain ⟨_, _, rfl⟩ := List.mem_map.1 hx
    obtain ⟨_, _, rfl⟩ := List.mem_map.1 hy
    exact Or.inl hab
theorem edR_edP (N : Nat) (cs : List Tri) (h : ∀ c ∈ cs, c.1 < c.2.1 ∧ c.2.1 < c.2.2 ∧ c.2.2 < N) : edR (adjN N cs) = edP cs := by
  have hlen : (adjN N cs).length = N := by unfold adjN; rw [adj_length]; simp
  have hnil : ∀ a, (List.replicate N ([] : List Nat)).getD a [] = [] := by
    intro a; rw [List.getD_eq_getElem?_getD, List.getElem?_replicate]; split <;> rfl
  have hps : ∀ p ∈ cs.flatMap prs, p.1 < N := by
    intro p hp
    obtain ⟨c, hc, hp⟩ := List.mem_flatMap.1 hp
    have := h c hc
    simp only [prs, List.mem_cons, List.not_mem_nil, or_false] at hp
    rcases hp with rfl | rfl | rfl | rfl | rfl | rfl <;> simp only <;> omega
  have hmem : ∀ a b, b ∈ (adjN N cs).getD a [] ↔ (a, b) ∈ cs.flatMap prs := by
    intro a b
    unfold adjN
    rw [adj_mem _ _ (by simpa using hps), hnil]
    simp
  refine lt_unique (R := LtE) (fun x => by unfold LtE; omega) (fun x y z h1 h2 => by unfold LtE at *; omega) _ _ ?_ ?_ ?_
  · exact edR_sorted _ (adj_sorted _ _ fun a => by rw [hnil]; exact List.Pairwise.nil)
  · refine cpt_sorted _ ((List.pairwise_mergeSort (fun a b c h h' => ?_) (fun a b => ?_) _).imp fun h => (leEb_iff _ _).1 h)
    · rw [leEb_iff] at *; unfold LeE LtE at *; omega
    · have : LeE a b ∨ LeE b a := by unfold LeE LtE; omega
      rcases this with h | h
      · rw [(leEb_iff _ _).2 h]; rfl
      · rw [(leEb_iff _ _).2 h, Bool.or_true]
  · rintro ⟨a, b⟩
    unfold edP
    rw [cpt_mem, List.mem_mergeSort]
    unfold edR edL
    simp only [List.mem_flatMap, List.mem_range, List.mem_map, List.mem_filter, decide_eq_true_eq, hlen]
    constructor
    · rintro ⟨a', ha, b', ⟨hb, hlt⟩, e⟩
      obtain ⟨rfl, rfl⟩ : a' = a ∧ b' = b := by simpa using e
      rw [hmem] at hb
      obtain ⟨c, hc, hp⟩ := List.mem_flatMap.1 hb
      have := h c hc
      refine ⟨c, hc, ?_⟩
      simp only [prs, List.mem_cons, Prod.mk.injEq, List.not_mem_nil, or_false] at hp ⊢
      omega
    · rintro ⟨c, hc, hp⟩
      have hc' := h c hc
      simp only [List.mem_cons, Prod.mk.injEq, List.not_mem_nil, or_false] at hp
      refine ⟨a, by omega, b, ⟨(hmem a b).2 (List.mem_flatMap.2 ⟨c, hc, ?_⟩), by omega⟩, rfl⟩
      simp only [prs, List.mem_cons, Prod.mk.injEq, List.not_mem_nil, or_false]
      omega
end Go.Proofs.YtkpgciimhjkajaaGreatDoor
/- The cells of a grid of any frequency, plain: in the order in which they are made. No program. -/
namespace Go.Proofs.YtkpgciimhjkajaaGreatDoor
def tri3 (a b c : Nat) : Tri := (min a (min b c), a + b + c - min a (min b c) - max a (max b c), max a (max b c))
def upT (n f i j : Nat) : Tri := tri3 (idxN (nodesN n) (pt n f (i + 1) j)) (idxN (nodesN n) (pt n f i (j + 1))) (idxN (nodesN n) (pt n f i j))
def dnT (n f i j : Nat) : Tri := tri3 (idxN (nodesN n) (pt n f i (j + 1))) (idxN (nodesN n) (pt n f (i + 1) j)) (idxN (nodesN n) (pt n f (i + 1) (j + 1)))
def cellAt (n f i j : Nat) : List Tri := upT n f i j :: if i + j + 2 ≤ n then [dnT n f i j] else []
def crow (n f i : Nat) : List Tri := (List.range (n - i)).flatMap (cellAt n f i)
def cface (n f : Nat) : List Tri := (List.range n).flatMap (crow n f)
def rawN (n : Nat) : List Tri := (List.range 20).flatMap (cface n)
def rawTo (n k i j : Nat) : List Tri := (List.range k).flatMap (cface n) ++ ((List.range i).flatMap (crow n k) ++ (List.range j).flatMap (cellAt n k i))
theorem rawTo_step (n k i j : Nat) : rawTo n k i (j + 1) = rawTo n k i j ++ cellAt n k i j := by
  unfold rawTo
  rw [List.range_succ, List.flatMap_append]
  simp
theorem rawTo_row {n k i j : Nat} (hj : j = n - i) : rawTo n k i j = rawTo n k (i + 1) 0 := by
  subst hj
  unfold rawTo
  rw [List.range_succ, List.flatMap_append]
  simp [crow]
theorem rawTo_face {n k i : Nat} (hi : i = n) : rawTo n k i 0 = rawTo n (k + 1) 0 0 := by
  subst hi
  have e : List.range (k + 1) = List.range k ++ [k] := List.range_succ
  unfold rawTo
  rw [e, List.flatMap_append]
  simp [cface]
theorem rawTo_end (n : Nat) : rawTo n 20 0 0 = rawN n := by simp [rawTo, rawN]
theorem cellAt_len (n f i j : Nat) : (cellAt n f i j).length ≤ 2 := by unfold cellAt; split <;> simp
theorem flat_len {α β : Type} (g : α → List β) (m : Nat) (h : ∀ a, (g a).length ≤ m) : ∀ l : List α, (l.flatMap g).length ≤ m * l.length
  | [] => by simp
  | a :: r => by
    have := flat_len g m h r
    have h1 := h a
    rw [List.flatMap_cons, List.length_append, List.length_cons, Nat.mul_add]; omega
theorem rawTo_len {n k i j : Nat} (hn : n ≤ 8) (hk : k ≤ 20) (hi : i ≤ n) (hj : j ≤ n) : (rawTo n k i j).length ≤ 3000 := by
  have h1 : ∀ f i, (crow n f i).length ≤ 16 := fun f i => by
    have := flat_len (cellAt n f i) 2 (cellAt_len n f i) (List.range (n - i))
    rw [List.length_range] at this
    unfold crow; omega
  have h2 : ∀ f, (cface n f).length ≤ 128 := fun f => by
    have := flat_len (crow n f) 16 (h1 f) (List.range n)
    rw [List.length_range] at this
    unfold cface; omega
  have h3 := flat_len (cface n) 128 h2 (List.range k)
  have h4 := flat_len (crow n k) 16 (h1 k) (List.range i)
  have h5 := flat_len (cellAt n k i) 2 (cellAt_len n k i) (List.range j)
  rw [List.length_range] at h3 h4 h5
  unfold rawTo
  rw [List.length_append, List.length_append]
  omega
theorem fold_length (l : List Tri) : ∀ acc : List Tri, (l.foldl insT acc).length = l.length + acc.length := by
  induction l with
  | nil => intro acc; simp
  | cons x r ih => intro acc; rw [List.foldl_cons, ih, insT_length, List.length_cons]; omega
theorem tri3_ok {a b c N : Nat} (ha : a < N) (hb : b < N) (hc : c < N) (h1 : a ≠ b) (h2 : a ≠ c) (h3 : b ≠ c) : (tri3 a b c).1 < (tri3 a b c).2.1 ∧ (tri3 a b c).2.1 < (tri3 a b c).2.2 ∧ (tri3 a b c).2.2 < N := by
  unfold tri3
  simp only
  omega
theorem raw_ok {n : Nat} (h : Fq n) : ∀ c ∈ rawN n, c.1 < c.2.1 ∧ c.2.1 < c.2.2 ∧ c.2.2 < 10 * n * n + 2 := by
  intro c hc
  unfold rawN cface crow at hc
  obtain ⟨f, hf, hc⟩ := List.mem_flatMap.1 hc
  obtain ⟨i, hi, hc⟩ := List.mem_flatMap.1 hc
  obtain ⟨j, hj, hc⟩ := List.mem_flatMap.1 hc
  rw [List.mem_range] at hf hi hj
  have hlen := nodesN_length h
  have hx : ∀ a b, a + b ≤ n → idxN (nodesN n) (pt n f a b) < 10 * n * n + 2 := fun a b hab => by rw [← hlen]; exact (idxN_ok h hf hab).1
  unfold cellAt at hc
  rcases List.mem_cons.1 hc with rfl | hc
  · exact tri3_ok (hx _ _ (by omega)) (hx _ _ (by omega)) (hx _ _ (by omega)) (idxN_ne h hf (by omega) (by omega) (by omega)) (idxN_ne h hf (by omega) (by omega) (by omega)) (idxN_ne h hf (by omega) (by omega) (by omega))
  · split at hc
    · rw [List.mem_singleton] at hc
      subst hc
      exact tri3_ok (hx _ _ (by omega)) (hx _ _ (by omega)) (hx _ _ (by omega)) (idxN_ne h hf (by omega) (by omega) (by omega)) (idxN_ne h hf (by omega) (by omega) (by omega)) (idxN_ne h hf (by omega) (by omega) (by omega))
    · cases hc
def cellsN (n : Nat) : List Tri := (rawN n).foldl insT []
theorem cellsN_perm (n : Nat) : (cellsN n).Perm (rawN n) := by have := (fold_sorted (rawN n) [] List.Pairwise.nil).2; rw [List.append_nil] at this; exact this
theorem cellsN_ok {n : Nat} (h : Fq n) : ∀ c ∈ cellsN n, c.1 < c.2.1 ∧ c.2.1 < c.2.2 ∧ c.2.2 < 10 * n * n + 2 := fun c hc => raw_ok h c ((cellsN_perm n).mem_iff.1 hc)
def edgesN (n : Nat) : List Ed := edR (adjN (10 * n * n + 2) (cellsN n))
theorem edgesN_eq {n : Nat} (h : Fq n) : edgesN n = edP (cellsN n) := edR_edP _ _ (cellsN_ok h)
theorem edgesN_ok {n : Nat} (h : Fq n) : ∀ e ∈ edgesN n, e.1 < e.2 ∧ e.2 < 10 * n * n + 2 := by
  intro e he
  rw [edgesN_eq h] at he
  unfold edP at he
  rw [cpt_mem, List.mem_mergeSort] at he
  obtain ⟨c, hc, he⟩ := List.mem_flatMap.1 he
  have := cellsN_ok h c hc
  simp at he
  rcases he with rfl | rfl | rfl <;> simp only <;> omega
end Go.Proofs.YtkpgciimhjkajaaGreatDoor

/- The reference's grid of frequency one: a cell is put among cells. -/
namespace Go.Proofs.YtkpgciimhjkajaaGreatDoor
open Go Go.RowKit
theorem run_copy_rowN {P : Program} (w : World) (dT sT ty elem : TypeId) (g o dLen dCap : Nat) (a : Addr) (sLen sCap sz n : Nat) (cur : Array Value) (t : TypeId) (cs : List Value)
    (hu : P.underlying dT = some (.slice elem)) (hs : (P.info? elem).map (·.size) = some sz)
    (hg : w.heap[g]? = some (.cells cur t (0, 0))) (hn : n = Nat.min sLen dLen) (hc : cs.length = n * sz)
    (hsrc : ∀ j v, cs[j]? = some v → w.cell? (a.add j) = some v) (hfit : o + cs.length ≤ cur.size) (h1 : ∀ v ∈ cs, v.oneCell' = true) :
    (Builtin.copy_ #[dT, sT] ty #[.slice (some ⟨g, o, none⟩) dLen dCap, .slice (some a) sLen sCap]).run P w =
      .ok (goInt n) (w.setRow g (cur.toList.take o ++ cs ++ cur.toList.drop (o + cs.length)).toArray) := by
  have hl := run_loadCells_list (P := P) w a cs hsrc
  have hst := run_storeCells_at P g o t cs 0 cur w hg (by simpa using hfit) h1
  cases hq : P.info? elem with
  | none => simp [hq] at hs
  | some i =>
    have hi : i.size = sz := by simpa [hq] using hs
    simp [Builtin.copy_, run_underlying hu, Builtin.lenOf, Builtin.firstCells, sizeOf, typeInfo, hq, hi, ← hn, ← hc, hl, hst]
def Sm (v : Value) : Prop := ∃ z : Int, 0 ≤ z ∧ z < 12 ∧ v = .int .i64 z
def OwnC (w : World) (base : Nat) (v : Value) (n : Nat) : Prop := (n = 0 → v = .slice none 0 0) ∧ ∃ cs : List Value, w.ownsRow base 114 3 v n cs ∧ ∀ u ∈ cs, Sm u
theorem OwnC.nil (w : World) (base : Nat) : OwnC w base (.slice none 0 0) 0 := ⟨fun _ => rfl, [], World.ownsRow_nil w base _ 3, by simp⟩
theorem OwnC.below {w w' : World} {base : Nat} {v : Value} {n : Nat} (h : OwnC w base v n) (hb : Below w.heap.size w w') : OwnC w' base v n := by
  obtain ⟨h0, cs, h1, h2⟩ := h
  exact ⟨h0, cs, ownsRow_below h1 hb, h2⟩
theorem OwnC.slice {w : World} {base : Nat} {v : Value} {n : Nat} (h : OwnC w base v n) : ∃ a c, v = .slice a n c := by
  obtain ⟨_, cs, h1, h2⟩ := h
  rcases h1.2 with ⟨e, h0⟩ | ⟨g, cap, cur, e, _⟩
  · exact ⟨none, 0, by rw [e, h0]⟩
  · exact ⟨_, _, e⟩
theorem OwnC.lt {w : World} {base : Nat} {v : Value} {n : Nat} (h : OwnC w base v n) : ∀ g, v.ownBlock = some g → g < w.heap.size := by
  obtain ⟨_, cs, h1, _⟩ := h
  exact fun g hg => (World.ownsRow.lt h1 g hg).2
def Box (w : World) (b : Nat) (x y z : Int) : Prop := w.heap[b]? = some (.cells #[.int .i64 x, .int .i64 y, .int .i64 z] 114 (0, 0))
theorem Box.row {w : World} {b : Nat} {x y z : Int} (h : Box w b x y z) : RowAt w b [.int .i64 x, .int .i64 y, .int .i64 z] := by
  refine ⟨by simp, fun i hi => ?_, fun i hi => ?_⟩
  · unfold Box at h
    simp [World.cell?, h]
  · unfold Box at h
    simp [World.frozen?, h]
theorem cinfo : (Tryz.prog.info? 114).map (fun i => (i.zero, i.size, i.bytes)) = some (some (.agg #[.int .i64 0, .int .i64 0, .int .i64 0]), 3, 24) := by kernel_rfl
theorem OwnC.at {w : World} {base : Nat} {v : Value} {n : Nat} (h : OwnC w base v n) (h0 : 0 < n) : ∃ g cap, v = .slice (some ⟨g, 0, none⟩) n cap ∧ base ≤ g ∧ n ≤ cap ∧ cap ≤ 9223372036854775807 ∧ ∀ i, i < n * 3 → ∃ z : Int, 0 ≤ z ∧ z < 12 ∧ w.cell? ⟨g, i, none⟩ = some (.int .i64 z) := by
  obtain ⟨_, cs, h', h2⟩ := h
  have h := h'
  obtain ⟨h1, h3⟩ := h
  rcases h3 with ⟨e, h0'⟩ | ⟨g, cap, cur, e, hg, hh, hc, hm, _⟩
  · omega
  · refine ⟨g, cap, e, hg, hc, by unfold maxLen at hm; omega, fun i hi => ?_⟩
    have hil : i < cs.length := by omega
    obtain ⟨z, z0, z1, hz⟩ := h2 _ (List.getElem_mem hil)
    have := World.ownsRow.cells h' (g := g) (by rw [e]; rfl) i _ (List.getElem?_eq_getElem hil)
    rw [Go.WideShapes.add_plain, Nat.zero_add] at this
    exact ⟨z, z0, z1, by rw [this, hz]⟩
theorem OwnC.raw {w : World} {base : Nat} {v : Value} {n : Nat} (h : OwnC w base v n) (h0 : 0 < n) : ∃ (g cap : Nat) (cur : List Value), v = .slice (some ⟨g, 0, none⟩) n cap ∧ base ≤ g ∧ w.heap[g]? = some (.cells cur.toArray 114 (0, 0)) ∧ n ≤ cap ∧ cap ≤ 9223372036854775807 ∧ cur.length = cap * 3 ∧ ∀ i, i < n * 3 → ∃ u, cur[i]? = some u ∧ Sm u := by
  obtain ⟨_, cs, ⟨h1, h3⟩, h2⟩ := h
  rcases h3 with ⟨e, h0'⟩ | ⟨g, cap, cur, e, hg, hh, hc, hm, hs, ht⟩
  · omega
  · refine ⟨g, cap, cur.toList, e, hg, by simpa using hh, hc, by unfold maxLen at hm; omega, by simpa using hs, fun i hi => ?_⟩
    have hil : i < cs.length := by omega
    refine ⟨cs[i], ?_, h2 _ (List.getElem_mem hil)⟩
    have e2 : (cur.toList.take (n * 3))[i]? = cs[i]? := by rw [ht]
    rw [List.getElem?_take_of_lt hi, List.getElem?_eq_getElem hil] at e2
    exact e2
theorem ownC_row {w : World} {base g cap n : Nat} {cur cur' : List Value} (hg : base ≤ g) (hh : w.heap[g]? = some (.cells cur.toArray 114 (0, 0))) (hn : 0 < n) (hc : n ≤ cap) (hm : cap ≤ 9223372036854775807) (hl : cur'.length = cap * 3) (hs : ∀ i, i < n * 3 → ∃ u, cur'[i]? = some u ∧ Sm u) :
    OwnC (w.setRow g cur'.toArray) base (.slice (some ⟨g, 0, none⟩) n cap) n := by
  refine ⟨fun h => by omega, cur'.take (n * 3), ⟨?_, Or.inr ⟨g, cap, cur'.toArray, rfl, hg, setRow_heap _ _ _ _ _ _ hh, hc, by unfold maxLen; omega, by simpa using hl, by simp⟩⟩, fun u hu => ?_⟩
  · rw [List.length_take, hl, Nat.min_eq_left (Nat.mul_le_mul_right 3 hc)]
  · obtain ⟨i, hi, rfl⟩ := List.getElem_of_mem hu
    rw [List.length_take] at hi
    obtain ⟨u, h1, h2⟩ := hs i (by omega)
    rw [List.getElem_take]
    rw [List.getElem?_eq_some_iff] at h1
    obtain ⟨_, rfl⟩ := h1
    exact h2
theorem OwnC.set {w : World} {base g cap n : Nat} (h : OwnC w base (.slice (some ⟨g, 0, none⟩) n cap) n) (i : Nat) (hi : i < n * 3) {u : Value} (hu : Sm u) : OwnC (w.setCell ⟨g, i, none⟩ u) base (.slice (some ⟨g, 0, none⟩) n cap) n := by
  obtain ⟨g', cap', cur, e, hg, hh, hc, hm, hl, hs⟩ := h.raw (by omega)
  obtain ⟨rfl, rfl⟩ : g = g' ∧ cap = cap' := by simpa using e
  rw [setCell_eq_setRow _ _ _ _ _ _ _ hh]
  have e2 : cur.toArray.setIfInBounds i u = (cur.set i u).toArray := by simp
  rw [e2]
  refine ownC_row hg hh (by omega) hc hm (by rw [List.length_set]; exact hl) fun j hj => ?_
  by_cases hij : i = j
  · subst hij
    exact ⟨u, by rw [List.getElem?_set_self (by omega)], hu⟩
  · rw [List.getElem?_set_ne hij]; exact hs j hj
theorem rowT_c : RowT 114 3 := ⟨by kernel_rfl, _, Tryz.underlying114, rfl⟩
end Go.Proofs.YtkpgciimhjkajaaGreatDoor
/- The reference's grid of frequency one: a cell is put among cells. -/
namespace Go.Proofs.YtkpgciimhjkajaaGreatDoor
open Go Go.RowKit
def FCp (g o k n cap : Nat) (ix : Nat) (v : Value) (_ : World) : Prop := match ix with
  | 0 => v = .slice (some ⟨g, 0, none⟩) (n + 1) cap
  | 1 => v = .int .i64 k
  | 2 => v = .int .i64 ((k : Int) + 1)
  | 3 => v = .slice (some ⟨g, o, none⟩) (n - k) (cap - (k + 1))
  | 4 => v = .slice (some ⟨g, 0, none⟩) (n + 1) cap
  | 5 => v = .int .i64 k
  | 6 => v = .slice (some ⟨g, k * 3, none⟩) (n + 1 - k) (cap - k)
  | _ => True
theorem OwnC.there {w : World} {base g cap m : Nat} (h : OwnC w base (.slice (some ⟨g, 0, none⟩) m cap) m) (k : Nat) (hk : k < m) : w.there g (k * 3) 3 := by
  obtain ⟨g', cap', cur, e, hg, hh, hc, hm, hl, hs⟩ := h.raw (by omega)
  obtain ⟨rfl, rfl⟩ : g = g' ∧ cap = cap' := by simpa using e
  intro j hj
  refine ⟨?_, ?_⟩
  · obtain ⟨u, h1, _⟩ := hs (k * 3 + j) (by omega)
    simp [World.cell?, hh, h1]
  · simp [World.frozen?, hh]
theorem copy_src {w : World} {g : Nat} {cur : List Value} {k m : Nat} {t : TypeId} {fr : Nat × Nat} (hh : w.heap[g]? = some (.cells cur.toArray t fr)) {j : Nat} {u : Value} (hj : ((cur.drop (k * 3)).take m)[j]? = some u) : w.cell? ((⟨g, k * 3, none⟩ : Addr).add j) = some u := by
  have hjm : j < m := by
    have := (List.getElem?_eq_some_iff.1 hj).1
    rw [List.length_take] at this; omega
  rw [List.getElem?_take_of_lt hjm, List.getElem?_drop] at hj
  rw [Go.WideShapes.add_plain]
  simp [World.cell?, hh, hj]
end Go.Proofs.YtkpgciimhjkajaaGreatDoor
/- The reference's grid at any frequency: a cell; cells in memory, and one appended to them. -/
namespace Go.Proofs.YtkpgciimhjkajaaGreatDoor
open Go Go.RowKit
def Tri.val (t : Tri) : Value := .agg #[.int .i64 (t.1 : Int), .int .i64 (t.2.1 : Int), .int .i64 (t.2.2 : Int)]
def tcl (t : Tri) : List Value := [.int .i64 (t.1 : Int), .int .i64 (t.2.1 : Int), .int .i64 (t.2.2 : Int)]
theorem agg3_eq {a b c p q r : Int} (h1 : a = p) (h2 : b = q) (h3 : c = r) : Ending.returned (.agg #[.int .i64 a, .int .i64 b, .int .i64 c]) = Ending.returned (.agg #[.int .i64 p, .int .i64 q, .int .i64 r]) := by subst h1 h2 h3; rfl
set_option maxHeartbeats 8000000 in
theorem cell_n (a b c : Nat) (ha : a < 1000) (hb : b < 1000) (hc : c < 1000) (w : World) :
    Calls Tryz.prog 80 #[.int .i64 a, .int .i64 b, .int .i64 c] w fun e w' => e = .returned (Tri.val (tri3 a b c)) ∧ Below w.heap.size w w' := by
  obtain ⟨p, hp⟩ : ∃ p : Int, p = ((tri3 a b c).1 : Int) := ⟨_, rfl⟩
  obtain ⟨q, hq⟩ : ∃ p : Int, p = ((tri3 a b c).2.1 : Int) := ⟨_, rfl⟩
  obtain ⟨r, hr⟩ : ∃ p : Int, p = ((tri3 a b c).2.2 : Int) := ⟨_, rfl⟩
  unfold Tri.val
  rw [← hp, ← hq, ← hr]
  simp only [tri3] at hp hq hr
  have a0 : (0 : Int) ≤ (a : Int) := by omega
  have b0 : (0 : Int) ≤ (b : Int) := by omega
  have c0 : (0 : Int) ≤ (c : Int) := by omega
  have a1 : (a : Int) < 1000 := by omega
  have b1 : (b : Int) < 1000 := by omega
  have c1 : (c : Int) < 1000 := by omega
  clear ha hb hc
  obtain ⟨x, hx⟩ : ∃ x : Int, x = a := ⟨_, rfl⟩
  obtain ⟨y, hy⟩ : ∃ x : Int, x = b := ⟨_, rfl⟩
  obtain ⟨z, hz⟩ : ∃ x : Int, x = c := ⟨_, rfl⟩
  have hp' : p = min x (min y z) := by omega
  have hq' : q = x + y + z - min x (min y z) - max x (max y z) := by omega
  have hr' : r = max x (max y z) := by omega
  have HP := Lib.hid hp'
  have HQ := Lib.hid hq'
  have HR := Lib.hid hr'
  have x0 : 0 ≤ x := by omega
  have y0 : 0 ≤ y := by omega
  have z0 : 0 ≤ z := by omega
  have x1 : x < 1000 := by omega
  have y1 : y < 1000 := by omega
  have z1 : z < 1000 := by omega
  rw [← hx, ← hy, ← hz]
  clear hx hy hz a0 b0 c0 a1 b1 c1 hp hq hr hp' hq' hr'
  have HB : Hid (∀ t, Below w.heap.size w (w.alloc (.cells t 114))) := fun _ => (Below.refl _ _).alloc (Nat.le_refl _) _
  have h1 : x < y ∨ y ≤ x := by omega
  have h2 : y < z ∨ z ≤ y := by omega
  have h3 : x < z ∨ z ≤ x := by omega
  rcases h1 with h1 | h1 <;> rcases h2 with h2 | h2 <;> rcases h3 with h3 | h3
  all_goals
    first
    | (exfalso; omega)
    | (go_enter Tryz.func80, Tryz.ntmps80
       go_wp2_with fail
       go_prune
       all_goals
         refine bodyPost_ret (v := .agg #[_, _, _]) (by first | (simp [results, Tryz.results80, go_sem]; done) | (simp [results, Tryz.results80, go_sem]; first | rfl | exact ⟨rfl, rfl, rfl⟩)) rfl ⟨?_, HB.out _⟩
         have := HP.out; have := HQ.out; have := HR.out
         refine agg3_eq ?_ ?_ ?_ <;> ((repeat' split) <;> omega))
def tcells (l : List Tri) : List Value := l.flatMap tcl
theorem tcells_append (a b : List Tri) : tcells (a ++ b) = tcells a ++ tcells b := by simp [tcells]
theorem tcells_length (l : List Tri) : (tcells l).length = l.length * 3 := by
  induction l with
  | nil => rfl
  | cons p r ih => simp [tcells, tcl] at ih ⊢; omega
theorem tcells_take : ∀ (l : List Tri) (k : Nat), (tcells l).take (k * 3) = tcells (l.take k)
  | [], k => by simp [tcells]
  | p :: r, 0 => by simp [tcells]
  | p :: r, k + 1 => by
    have := tcells_take r k
    show (tcl p ++ tcells r).take ((k + 1) * 3) = tcl p ++ tcells (r.take k)
    rw [← this, List.take_append]
    have e1 : (k + 1) * 3 - (tcl p).length = k * 3 := by show _ - 3 = _; omega
    rw [e1, List.take_of_length_le (by show 3 ≤ _; omega)]
theorem tcells_drop : ∀ (l : List Tri) (k : Nat), (tcells l).drop (k * 3) = tcells (l.drop k)
  | [], k => by simp [tcells]
  | p :: r, 0 => by simp [tcells]
  | p :: r, k + 1 => by
    have := tcells_drop r k
    show (tcl p ++ tcells r).drop ((k + 1) * 3) = tcells (r.drop k)
    rw [← this, List.drop_append]
    have e1 : (k + 1) * 3 - (tcl p).length = k * 3 := by show _ - 3 = _; omega
    rw [e1, List.drop_of_length_le (by show 3 ≤ _; omega), List.nil_append]
theorem tcells_at (l : List Tri) (i : Nat) (h : i < l.length) (j : Nat) (hj : j < 3) : (tcells l)[i * 3 + j]? = (tcl l[i])[j]? := by
  have e : (tcells l).drop (i * 3) = tcl l[i] ++ tcells (l.drop (i + 1)) := by
    rw [tcells_drop, List.drop_eq_getElem_cons h]; rfl
  have e2 : (tcells l)[i * 3 + j]? = ((tcells l).drop (i * 3))[j]? := by rw [List.getElem?_drop]
  rw [e2, e, List.getElem?_append_left (by show j < 3; exact hj)]
theorem tcells_one (l : List Tri) : ∀ v ∈ tcells l, v.oneCell' = true := by
  intro v hv
  obtain ⟨t, _, h⟩ := List.mem_flatMap.1 hv
  simp [tcl] at h
  rcases h with rfl | rfl | rfl <;> rfl
def OwnT (w : World) (base : Nat) (v : Value) (l : List Tri) : Prop := (l = [] → v = .slice none 0 0) ∧ w.ownsRow base 114 3 v l.length (tcells l)
theorem OwnT.nil (w : World) (base : Nat) : OwnT w base (.slice none 0 0) [] := ⟨fun _ => rfl, World.ownsRow_nil w base _ 3⟩
theorem OwnT.below {w w' : World} {base : Nat} {v : Value} {l : List Tri} (h : OwnT w base v l) (hb : Below w.heap.size w w') : OwnT w' base v l := ⟨h.1, ownsRow_below h.2 hb⟩
theorem OwnT.mono {w : World} {base B : Nat} {v : Value} {l : List Tri} (h : OwnT w base v l) (hB : B ≤ base) : OwnT w B v l := by
  obtain ⟨h0, h1, h2⟩ := h
  refine ⟨h0, h1, ?_⟩
  rcases h2 with h2 | ⟨g, cap, cur, e, hg, r⟩
  · exact Or.inl h2
  · exact Or.inr ⟨g, cap, cur, e, Nat.le_trans hB hg, r⟩
theorem OwnT.slice {w : World} {base : Nat} {v : Value} {l : List Tri} (h : OwnT w base v l) : ∃ a c, v = .slice a l.length c := by
  rcases h.2.2 with ⟨e, h0⟩ | ⟨g, cap, cur, e, _⟩
  · exact ⟨none, 0, by rw [e, h0]⟩
  · exact ⟨_, _, e⟩
theorem OwnT.lt {w : World} {base : Nat} {v : Value} {l : List Tri} (h : OwnT w base v l) : ∀ g, v.ownBlock = some g → base ≤ g ∧ g < w.heap.size := fun g hg => World.ownsRow.lt h.2 g hg
theorem append_tr {w : World} {base b : Nat} {v : Value} {l : List Tri} {x y z : Int} (h : OwnT w base v l) (hx : Box w b x y z) (hvb : v.ownBlock ≠ some b) (hn : l.length ≤ 1000000000) (hb : base ≤ w.heap.size) (ty : TypeId) :
    ∃ (v' : Value) (w' : World), (Builtin.append_ #[110, 110] ty #[v, .slice (some ⟨w.heap.size, 0, none⟩) 1 1]).run Tryz.prog (w.alloc (.cells #[.int .i64 0, .int .i64 0, .int .i64 0] 114)) = .ok v' w' ∧
      OwnT w' base v' (l ++ [(0, 0, 0)]) ∧ Box w' b x y z ∧ v'.ownBlock ≠ some b ∧ Below base w w' := by
  obtain ⟨hnil, h1⟩ := h
  have hlt : b < w.heap.size := (Array.getElem?_eq_some_iff.1 hx).1
  have hal : Below w.heap.size w (w.alloc (.cells #[.int .i64 0, .int .i64 0, .int .i64 0] 114)) := (Below.refl _ _).alloc (Nat.le_refl _) _
  have hA := World.ownsRow.alloc h1 (.cells #[.int .i64 0, .int .i64 0, .int .i64 0] 114)
  have hnews : ∀ j u, [Value.int .i64 0, .int .i64 0, .int .i64 0][j]? = some u → (w.alloc (.cells #[.int .i64 0, .int .i64 0, .int .i64 0] 114)).cell? ((⟨w.heap.size, 0, none⟩ : Addr).add j) = some u := World.news_of_block (cs := #[.int .i64 0, .int .i64 0, .int .i64 0]) (t := 114) (fr := (0, 0)) (heap_alloc_new w _)
  obtain ⟨v', w', a1, a2, a3, a4⟩ := append_at 110 114 Tryz.underlying110 cinfo rfl (by decide) hA ⟨w.heap.size, 0, none⟩ 1 1 [.int .i64 0, .int .i64 0, .int .i64 0] rfl hnews (by simp [Value.oneCell']) hn (by omega) (by decide) (by simp; omega) ty
  have hbx : w'.heap[b]? = w.heap[b]? := by
    rw [a4.block b (by simp; omega) (fun e => hvb e.symm)]
    exact hal.block b hlt
  have hx' : Box w' b x y z := by unfold Box; rw [hbx]; exact hx
  refine ⟨v', w', a1, ⟨fun h => by simp at h, ?_⟩, hx', ?_, (hal.mono hb).trans a3⟩
  · rw [tcells_append, List.length_append]; exact a2
  · intro he
    rcases Nat.eq_zero_or_pos l.length with h0 | h0
    · obtain rfl := List.eq_nil_of_length_eq_zero h0
      obtain rfl := hnil rfl
      obtain ⟨v2, w2, b1, b2, _, _⟩ := append_at 110 114 Tryz.underlying110 cinfo rfl (by decide) (World.ownsRow_nil (w.alloc (.cells #[.int .i64 0, .int .i64 0, .int .i64 0] 114)) (b + 1) _ 3) ⟨w.heap.size, 0, none⟩ 1 1 [.int .i64 0, .int .i64 0, .int .i64 0] rfl hnews (by simp [Value.oneCell']) hn (by omega) (by decide) (by simp; omega) ty
      have a1' := a1
      try simp only [List.length_nil] at a1' b1
      rw [a1'] at b1
      injection b1 with e1 e2
      subst e1 e2
      have := (World.ownsRow.lt b2 b he).1
      omega
    · rcases a2.2 with ⟨e, h0'⟩ | ⟨g, cap, cur, e, hg, hh, hc, hm, hsz, _⟩
      · omega
      · rw [e] at he
        obtain rfl : g = b := by simpa [Value.ownBlock] using he
        rw [hbx, hx] at hh
        simp at hh
        obtain ⟨rfl, _⟩ := hh
        simp at hsz
        omega
theorem OwnT.raw {w : World} {base : Nat} {v : Value} {l : List Tri} (h : OwnT w base v l) (h0 : 0 < l.length) : ∃ (g cap : Nat) (cur : List Value), v = .slice (some ⟨g, 0, none⟩) l.length cap ∧ base ≤ g ∧ w.heap[g]? = some (.cells cur.toArray 114 (0, 0)) ∧ l.length ≤ cap ∧ cap ≤ 9223372036854775807 ∧ cur.length = cap * 3 ∧ cur.take (l.length * 3) = tcells l := by
  obtain ⟨_, h1, h3⟩ := h
  rcases h3 with ⟨e, h0'⟩ | ⟨g, cap, cur, e, hg, hh, hc, hm, hs, ht⟩
  · omega
  · exact ⟨g, cap, cur.toList, e, hg, by simpa using hh, hc, by unfold maxLen at hm; omega, by simpa using hs, ht⟩
theorem OwnT.at {w : World} {base : Nat} {v : Value} {l : List Tri} (h : OwnT w base v l) (h0 : 0 < l.length) : ∃ g cap, v = .slice (some ⟨g, 0, none⟩) l.length cap ∧ base ≤ g ∧ l.length ≤ cap ∧ cap ≤ 9223372036854775807 ∧ ∀ i, (hi : i < l.length) → w.rangeAt g (i * 3) (tcl l[i]) := by
  have h' := h.2
  obtain ⟨h1, h2⟩ := h'
  rcases h2 with ⟨e, h0'⟩ | ⟨g, cap, cur, e, hg, hh, hc, hm, _⟩
  · omega
  · refine ⟨g, cap, e, hg, hc, by unfold maxLen at hm; omega, fun i hi j u hj => ?_⟩
    have hlt : j < 3 := (List.getElem?_eq_some_iff.1 hj).1
    rw [← tcells_at l i hi j hlt] at hj
    have := World.ownsRow.cells h.2 (g := g) (by rw [e]; rfl) _ _ hj
    rwa [Go.WideShapes.add_plain, Nat.zero_add] at this
theorem ownT_row {w : World} {base g cap : Nat} {l : List Tri} {cur cur' : List Value} (hg : base ≤ g) (hh : w.heap[g]? = some (.cells cur.toArray 114 (0, 0))) (hn : 0 < l.length) (hc : l.length ≤ cap) (hm : cap ≤ 9223372036854775807) (hl : cur'.length = cap * 3) (hs : cur'.take (l.length * 3) = tcells l) :
    OwnT (w.setRow g cur'.toArray) base (.slice (some ⟨g, 0, none⟩) l.length cap) l := by
  refine ⟨fun h => by subst h; simp at hn, ⟨by rw [tcells_length], Or.inr ⟨g, cap, cur'.toArray, rfl, hg, setRow_heap _ _ _ _ _ _ hh, hc, by unfold maxLen; omega, by simpa using hl, by simpa using hs⟩⟩⟩
end Go.Proofs.YtkpgciimhjkajaaGreatDoor
