/- Part 7 of the proof: laws on memory and what functions of the program return. No conditions but those that each theorem names. -/
import Derived.Test.YtobaoekibnloiaaGreatDoorR06
import Derived.Deep.DeepCutAuto
import Derived.Deep.Light
set_option linter.unusedVariables false
set_option linter.unusedSimpArgs false
/- The reference's refuse, of a station. Printed by gen_rrefs.py. -/
namespace Go.Proofs.YtobaoekibnloiaaGreatDoor
open Go Go.RowKit

/-- Block b holds these 7 cells. -/
def PerAt (w : World) (b : Nat) (cs : List Value) : Prop := cs.length = 7 ∧ ∀ i, i < 7 → w.cell? ⟨b, i, none⟩ = cs[i]?
theorem PerAt.lt {w : World} {b : Nat} {cs : List Value} (h : PerAt w b cs) : b < w.heap.size := by
  have h0 := h.2 0 (by omega)
  have hl := h.1
  rw [List.getElem?_eq_getElem (by omega)] at h0
  exact World.block_lt_of_cell? (a := ⟨b, 0, none⟩) _ h0
theorem PerAt.below {w w' : World} {b : Nat} {cs : List Value} (h : PerAt w b cs) (hb : Below w.heap.size w w') : PerAt w' b cs := by
  refine ⟨h.1, fun i hi => ?_⟩
  rw [World.cell?_of_block (w := w) (hb.block _ h.lt)]; exact h.2 i hi
theorem PerAt.new (w : World) (cs : List Value) (hl : cs.length = 7) (t : TypeId) : PerAt (w.alloc (.cells cs.toArray t)) w.heap.size cs := ⟨hl, fun i hi => by simp⟩
theorem PerAt.facts {w : World} {b : Nat} {c0 c1 c2 c3 c4 c5 c6 : Value} (h : PerAt w b [c0, c1, c2, c3, c4, c5, c6]) :
    w.cell? ⟨b, 0, none⟩ = some c0 ∧ w.cell? ⟨b, 1, none⟩ = some c1 ∧ w.cell? ⟨b, 2, none⟩ = some c2 ∧ w.cell? ⟨b, 3, none⟩ = some c3 ∧ w.cell? ⟨b, 4, none⟩ = some c4 ∧ w.cell? ⟨b, 5, none⟩ = some c5 ∧ w.cell? ⟨b, 6, none⟩ = some c6 :=
  ⟨h.2 0 (by omega), h.2 1 (by omega), h.2 2 (by omega), h.2 3 (by omega), h.2 4 (by omega), h.2 5 (by omega), h.2 6 (by omega)⟩
theorem take_getD {L : List Int} {i : Nat} (hi : i < L.length) (h : ∀ z ∈ L.take i, ¬ longI z) (h2 : ¬ longI (L.getD i 0)) : ∀ z ∈ L.take (i + 1), ¬ longI z := by
  rw [List.take_succ_eq_append_getElem hi]
  intro z hz
  rcases List.mem_append.1 hz with hz | hz
  · exact h z hz
  · obtain rfl := List.mem_singleton.1 hz
    simpa [List.getD_eq_getElem?_getD, hi] using h2
set_option maxHeartbeats 8000000 in
set_option maxRecDepth 100000 in
theorem refuse_st (t : ByteArray) (bs : List UInt8) (n st : Int) (nm : ByteArray) (s : Int) (c : Bool) (f a b d : Int) (l : List (Int × Int)) (ba ca : Option Addr) (bc cc : Nat) (w : World) (hbi : BiasIn 0 w (.slice ca l.length cc) l)
    (hnm : nm.size ≤ 1000000) (hn : nameOk nm = true) (g1 : 1 ≤ st) (g2 : st ≤ 3) (er : Int)
    (he : ((∃ z ∈ [s, f, a, b, d] ++ biasN l, longI z) → er = 1) ∧ ((¬ ∃ z ∈ [s, f, a, b, d] ++ biasN l, longI z) → (((c = false ∨ (f = 0 ∧ a = 0 ∧ b = 0 ∧ d = 0)) ∧ t.toList = [] ∧ bs.length = 0 ∧ n = 0) → er = 0) ∧ (¬ ((c = false ∨ (f = 0 ∧ a = 0 ∧ b = 0 ∧ d = 0)) ∧ t.toList = [] ∧ bs.length = 0 ∧ n = 0) → er = 7))) :
    Calls Tryz.prog 38 #[Ev.val ⟨4, t, bs, n, st, nm, s, c, f, a, b, d, l⟩ (.slice ba bs.length bc) (.slice ca l.length cc)] w (RefIs er w) := by
  unfold Ev.val evCells
  simp only
  have E := Lib.hid he
  have Hbi := Lib.hid hbi
  have hll : l.length ≤ 2000000 := by obtain ⟨_, _, _, h, _⟩ := hbi; exact h
  obtain ⟨ll, hlen⟩ : ∃ ll, ll = l.length := ⟨_, rfl⟩
  rw [← hlen] at hll ⊢
  have Hlen := Lib.hid hlen
  have Hcells := Lib.hid (fun j => @BiasIn.cellsAt 0 w ca cc l hbi j)
  have g3 : ¬ st < 1 := by omega
  have g4 : ¬ 3 < st := by omega
  clear he hbi hlen g1 g2
  obtain ⟨bl, hbl⟩ : ∃ bl, bl = bs.length := ⟨_, rfl⟩
  rw [← hbl] at E ⊢
  clear hbl
  have HEA : Hid (EvAt ((w.alloc (.cells #[.int .i64 4, .string t, .slice ba bl bc, .int .i64 n, .int .i64 st, .string nm, .int .i64 s, .bool c, .int .i64 f, .int .i64 a, .int .i64 b, .int .i64 d, .slice ca ll cc] 36)).alloc (.cells #[.int .i64 s, .bool c, .int .i64 f, .int .i64 a, .int .i64 b, .int .i64 d, .slice ca ll cc] 34)) w.heap.size [.int .i64 4, .string t, .slice ba bl bc, .int .i64 n, .int .i64 st, .string nm, .int .i64 s, .bool c, .int .i64 f, .int .i64 a, .int .i64 b, .int .i64 d, .slice ca ll cc]) := (EvAt.new w [.int .i64 4, .string t, .slice ba bl bc, .int .i64 n, .int .i64 st, .string nm, .int .i64 s, .bool c, .int .i64 f, .int .i64 a, .int .i64 b, .int .i64 d, .slice ca ll cc] rfl _).alloc _
  have HPA : Hid (PerAt ((w.alloc (.cells #[.int .i64 4, .string t, .slice ba bl bc, .int .i64 n, .int .i64 st, .string nm, .int .i64 s, .bool c, .int .i64 f, .int .i64 a, .int .i64 b, .int .i64 d, .slice ca ll cc] 36)).alloc (.cells #[.int .i64 s, .bool c, .int .i64 f, .int .i64 a, .int .i64 b, .int .i64 d, .slice ca ll cc] 34)) (w.heap.size + 1) [.int .i64 s, .bool c, .int .i64 f, .int .i64 a, .int .i64 b, .int .i64 d, .slice ca ll cc]) := by
    have h := PerAt.new (w.alloc (.cells #[.int .i64 4, .string t, .slice ba bl bc, .int .i64 n, .int .i64 st, .string nm, .int .i64 s, .bool c, .int .i64 f, .int .i64 a, .int .i64 b, .int .i64 d, .slice ca ll cc] 36)) [.int .i64 s, .bool c, .int .i64 f, .int .i64 a, .int .i64 b, .int .i64 d, .slice ca ll cc] rfl 34
    rw [show (w.alloc (.cells #[.int .i64 4, .string t, .slice ba bl bc, .int .i64 n, .int .i64 st, .string nm, .int .i64 s, .bool c, .int .i64 f, .int .i64 a, .int .i64 b, .int .i64 d, .slice ca ll cc] 36)).heap.size = w.heap.size + 1 by simp] at h
    exact h
  have HBB := Lib.hid (ref_below w (.cells #[.int .i64 4, .string t, .slice ba bl bc, .int .i64 n, .int .i64 st, .string nm, .int .i64 s, .bool c, .int .i64 f, .int .i64 a, .int .i64 b, .int .i64 d, .slice ca ll cc] 36) (.cells #[.int .i64 s, .bool c, .int .i64 f, .int .i64 a, .int .i64 b, .int .i64 d, .slice ca ll cc] 34))
  go_enter Tryz.func38, Tryz.ntmps38
  go_wp2_with fail
  refine (rname_any nm hnm _).mono ?_
  rintro e w1 ⟨rfl, hb1⟩
  have HE1 := Lib.hid (HEA.out.below hb1)
  have HP1 := Lib.hid (HPA.out.below hb1)
  have HB1 := Lib.hid (below_then HBB.out hb1)
  rw [hn]
  clear hb1 hn hnm HEA HPA HBB
  obtain ⟨e0, e1, e2, e3, e4, e5, e6, e7, e8, e9, e10, e11, e12⟩ := HE1.out.facts
  clear e1 e2 e3 e4 e5 e6 e7 e8 e9 e10 e11 e12
  obtain ⟨q0, q1, q2, q3, q4, q5, q6⟩ := HP1.out.facts
  clear q1 q6
  have H0 : Hid (OwnI (w1.alloc (.cells #[.int .i64 s, .int .i64 f, .int .i64 a, .int .i64 b, .int .i64 d] 3)) w1.heap.size (.slice (some ⟨w1.heap.size, 0, none⟩) 5 5) ([s, f, a, b, d] ++ biasN (l.take 0))) := own_lit w1 w1.heap.size [s, f, a, b, d] (Nat.le_refl _) (by simp)
  have HBa : Hid (Below w1.heap.size w1 (w1.alloc (.cells #[.int .i64 s, .int .i64 f, .int .i64 a, .int .i64 b, .int .i64 d] 3))) := (Below.refl _ _).alloc (Nat.le_refl _) _
  go_wp2_with fail
  clear e0 q0 q2 q3 q4 q5
  go_loopw [4, 5] (fun lv x wr => ∃ (j : Nat) (ov : Value), ov = lv ∧ j ≤ ll ∧ x = .int .i64 j ∧ Hid (OwnI wr w1.heap.size ov ([s, f, a, b, d] ++ biasN (l.take j))) ∧ Below w1.heap.size w1 wr) (fun _ x _ => (ll - intOf x).toNat)
  case atStart => exact ⟨0, _, rfl, by omega, rfl, H0.out, HBa.out⟩
  case round =>
    obtain ⟨j, ov, rfl, hj, rfl, hown, hBr⟩ := hrel
    clear H0 HBa
    by_cases hlt : j < ll
    · have hjl : j < l.length := by have := Hlen.out; omega
      obtain ⟨ab, ao, rfl, p0, p1⟩ := Hcells.out j hjl
      have C6 : Hid (∀ wx, Below w1.heap.size w1 wx → wx.cell? ⟨w.heap.size + 1, 6, none⟩ = some (.slice (some ⟨ab, ao, none⟩) ll cc)) := fun wx hx => (HP1.out.below hx).facts.2.2.2.2.2.2
      have P0 : Hid (∀ wx, Below w1.heap.size w1 wx → wx.cell? ⟨ab, ao + j * 2, none⟩ = some (.int .i64 (l.getD j (0, 0)).1)) := fun wx hx => cell_then (below_then HB1.out hx) p0
      have P1 : Hid (∀ wx, Below w1.heap.size w1 wx → wx.cell? ⟨ab, ao + j * 2 + 1, none⟩ = some (.int .i64 (l.getD j (0, 0)).2)) := fun wx hx => cell_then (below_then HB1.out hx) p1
      have c6 := C6.out _ hBr
      clear p0 p1
      have Htk : Hid (biasN (l.take (j + 1)) = biasN (l.take j) ++ [(l.getD j (0, 0)).1, (l.getD j (0, 0)).2]) := by
        unfold Hid
        rw [List.take_succ_eq_append_getElem hjl, biasN_snoc, getD_mem hjl]
      have hlen2 : ([s, f, a, b, d] ++ biasN (l.take j)).length ≤ 100000000 := by
        rw [List.length_append, biasN_length, List.length_take]; simp only [List.length_cons, List.length_nil]; omega
      generalize (l.getD j (0, 0)).1 = u at *
      generalize (l.getD j (0, 0)).2 = v at *
      obtain ⟨wd, hwd⟩ : ∃ wd, wd = wr.drew := ⟨_, rfl⟩
      have hBd : Below w1.heap.size w1 wd := by rw [hwd]; exact hBr.drew
      have hod : OwnI wd w1.heap.size ov ([s, f, a, b, d] ++ biasN (l.take j)) := by rw [hwd]; exact OwnI.below hown.out (Below.refl _ _).drew
      obtain ⟨v', w', hrun, hown', hB'⟩ := append_ints hod [u, v] (by omega) (by simp) hBd.size 68
      have Hrun := Lib.hid hrun
      have Hown' := Lib.hid hown'
      have HB2 := Lib.hid (hBd.trans hB')
      have Hwd := Lib.hid hwd
      clear hrun hown' hB' hod hBd hlen2 hwd
      have i0 : (0 : Int) ≤ (j : Int) := by omega
      have i1 : (j : Int) < (ll : Int) := by omega
      go_wp2_with fail
      have hwd := Hwd.out
      refine wp_region_held_drew (S := fun wx => Below w1.heap.size w1 wx) (by kernel_rfl) hBr.drew (fun hHeld => ?_)
      rw [← hwd] at hHeld ⊢
      clear hwd
      refine wpAnyH_takeD (i := 0) (d := some 67) (v := ov) rfl rfl (by kernel_rfl) (by kernel_rfl) (by kernel_rfl) (fun _ _ _ h => h) (Or.inl ⟨by rfl, fun _ _ => by rfl⟩) (by assumption) ?_
      simp only [Act.put, List.setIfInBounds_toArray, List.set_cons_zero, List.set_cons_succ]
      refine wpAnyH_takeD (i := 1) (d := some 68) (v := .pointer (some ⟨w.heap.size + 1, 6, none⟩)) rfl rfl (by kernel_rfl) (by kernel_rfl) (by kernel_rfl) (fun _ _ _ h => h) (Or.inl ⟨by rfl, fun _ _ => by rfl⟩) (by assumption) ?_
      simp only [Act.put, List.setIfInBounds_toArray, List.set_cons_zero, List.set_cons_succ]
      refine wpAnyH_takeD (i := 2) (d := some 69) (v := .slice (some ⟨ab, ao, none⟩) ll cc) rfl rfl (by kernel_rfl) (by kernel_rfl) (by kernel_rfl) (fun _ _ _ h => h) (Or.inl ⟨by rfl, fun wx hx => by (have q := C6.out _ hx; go_simp)⟩) (by assumption) ?_
      simp only [Act.put, List.setIfInBounds_toArray, List.set_cons_zero, List.set_cons_succ]
      refine wpAnyH_takeD (i := 3) (d := some 70) (v := .int .i64 j) rfl rfl (by kernel_rfl) (by kernel_rfl) (by kernel_rfl) (fun _ _ _ h => h) (Or.inl ⟨by rfl, fun _ _ => by rfl⟩) (by assumption) ?_
      simp only [Act.put, List.setIfInBounds_toArray, List.set_cons_zero, List.set_cons_succ]
      refine wpAnyH_takeD (i := 4) (d := some 71) (v := .pointer (some ⟨ab, ao + j * 2, none⟩)) rfl rfl (by kernel_rfl) (by kernel_rfl) (by kernel_rfl) (fun _ _ _ h => h) (Or.inl ⟨by rfl, fun wx hx => by (go_simp)⟩) (by assumption) ?_
      simp only [Act.put, List.setIfInBounds_toArray, List.set_cons_zero, List.set_cons_succ]
      refine wpAnyH_takeD (i := 5) (d := some 72) (v := .pointer (some ⟨ab, ao + j * 2, none⟩)) rfl rfl (by kernel_rfl) (by kernel_rfl) (by kernel_rfl) (fun _ _ _ h => h) (Or.inl ⟨by rfl, fun wx hx => by (go_simp)⟩) (by assumption) ?_
      simp only [Act.put, List.setIfInBounds_toArray, List.set_cons_zero, List.set_cons_succ]
      refine wpAnyH_takeD (i := 6) (d := some 73) (v := .int .i64 u) rfl rfl (by kernel_rfl) (by kernel_rfl) (by kernel_rfl) (fun _ _ _ h => h) (Or.inl ⟨by rfl, fun wx hx => by (have q := P0.out _ hx; go_simp)⟩) (by assumption) ?_
      simp only [Act.put, List.setIfInBounds_toArray, List.set_cons_zero, List.set_cons_succ]
      refine wpAnyH_takeD (i := 7) (d := some 74) (v := .pointer (some ⟨w.heap.size + 1, 6, none⟩)) rfl rfl (by kernel_rfl) (by kernel_rfl) (by kernel_rfl) (fun _ _ _ h => h) (Or.inl ⟨by rfl, fun _ _ => by rfl⟩) (by assumption) ?_
      simp only [Act.put, List.setIfInBounds_toArray, List.set_cons_zero, List.set_cons_succ]
      refine wpAnyH_takeD (i := 8) (d := some 75) (v := .slice (some ⟨ab, ao, none⟩) ll cc) rfl rfl (by kernel_rfl) (by kernel_rfl) (by kernel_rfl) (fun _ _ _ h => h) (Or.inl ⟨by rfl, fun wx hx => by (have q := C6.out _ hx; go_simp)⟩) (by assumption) ?_
      simp only [Act.put, List.setIfInBounds_toArray, List.set_cons_zero, List.set_cons_succ]
      refine wpAnyH_takeD (i := 9) (d := some 76) (v := .int .i64 j) rfl rfl (by kernel_rfl) (by kernel_rfl) (by kernel_rfl) (fun _ _ _ h => h) (Or.inl ⟨by rfl, fun _ _ => by rfl⟩) (by assumption) ?_
      simp only [Act.put, List.setIfInBounds_toArray, List.set_cons_zero, List.set_cons_succ]
      refine wpAnyH_takeD (i := 10) (d := some 77) (v := .pointer (some ⟨ab, ao + j * 2, none⟩)) rfl rfl (by kernel_rfl) (by kernel_rfl) (by kernel_rfl) (fun _ _ _ h => h) (Or.inl ⟨by rfl, fun wx hx => by (go_simp)⟩) (by assumption) ?_
      simp only [Act.put, List.setIfInBounds_toArray, List.set_cons_zero, List.set_cons_succ]
      refine wpAnyH_takeD (i := 11) (d := some 78) (v := .pointer (some ⟨ab, ao + j * 2 + 1, none⟩)) rfl rfl (by kernel_rfl) (by kernel_rfl) (by kernel_rfl) (fun _ _ _ h => h) (Or.inl ⟨by rfl, fun wx hx => by (go_simp)⟩) (by assumption) ?_
      simp only [Act.put, List.setIfInBounds_toArray, List.set_cons_zero, List.set_cons_succ]
      refine wpAnyH_takeD (i := 12) (d := some 79) (v := .int .i64 v) rfl rfl (by kernel_rfl) (by kernel_rfl) (by kernel_rfl) (fun _ _ _ h => h) (Or.inl ⟨by rfl, fun wx hx => by (have q := P1.out _ hx; go_simp)⟩) (by assumption) ?_
      simp only [Act.put, List.setIfInBounds_toArray, List.set_cons_zero, List.set_cons_succ]
      refine wpAnyH_ready (rs := [13]) (by kernel_rfl) (by simp) ?_
      refine AllReadyH.cons rfl (fun K hK => ?_) AllReadyH.nil
      rw [if_pos (by rfl)]
      go_simp
      refine hK.out _ _ (hHeld.alloc hHeld.size _) (fun hHeld => ?_)
      clear hK K
      refine wpAnyH_ready (rs := [14]) (by kernel_rfl) (by simp) ?_
      refine AllReadyH.cons rfl (fun K hK => ?_) AllReadyH.nil
      refine step_append_run rfl _ _ _ rfl _ _ _ _ rfl rfl Hrun.out ?_
      refine hK.out _ _ HB2.out (fun hHeld => ?_)
      clear hK K
      simp only [Act.put, List.setIfInBounds_toArray, List.set_cons_zero, List.set_cons_succ]
      refine wpAnyH_takeD (i := 15) (d := some 4) (v := v') rfl rfl (by kernel_rfl) (by kernel_rfl) (by kernel_rfl) (fun _ _ _ h => h) (Or.inl ⟨by rfl, fun _ _ => by rfl⟩) (by assumption) ?_
      simp only [Act.put, List.setIfInBounds_toArray, List.set_cons_zero, List.set_cons_succ]
      refine wpAnyH_done (by kernel_rfl) ?_ _
      clear hHeld
      go_wp2_with fail
      go_roundw
      case rel => exact ⟨j + 1, v', rfl, by omega, by go_num, by unfold Hid; rw [Htk.out, ← List.append_assoc]; exact Hown'.out, HB2.out⟩
      case measure => simp [intOf]; omega
    · obtain rfl : j = ll := by omega
      have hLn : ([s, f, a, b, d] ++ biasN l).length ≤ 100000000 := by
        have := Hlen.out
        rw [List.length_append]
        have e := biasN_length l
        simp only [List.length_cons, List.length_nil]; omega
      have HT : Hid (l.take j = l) := by unfold Hid; rw [Hlen.out, List.take_length]
      rw [HT.out] at hown
      have HL0 : Hid (0 < ([s, f, a, b, d] ++ biasN l).length) := by unfold Hid; simp
      generalize hL : [s, f, a, b, d] ++ biasN l = L at *
      clear hL
      have hL0 : 0 < L.length := HL0.out
      obtain ⟨g, cap, rfl, hg, hcap, hcells⟩ := hown.out.at hL0
      have Hcl := Lib.hid hcells
      have HEr := Lib.hid (HE1.out.below hBr)
      have HPr := Lib.hid (HP1.out.below hBr)
      have HBw := Lib.hid (below_then HB1.out hBr)
      obtain ⟨Ln, hLn2⟩ : ∃ Ln, Ln = L.length := ⟨_, rfl⟩
      rw [← hLn2] at hLn ⊢
      have HLn := Lib.hid hLn2
      have c6 := HPr.out.facts.2.2.2.2.2.2
      clear hcells hLn2 hL0 hown Hcells Hbi HE1 HP1 HB1 HT hlt hg hcap
      go_wp2_with fail
      go_loop [6] (fun x => ∃ i : Nat, i ≤ Ln ∧ x = .int .i64 i ∧ Hid (∀ z ∈ L.take i, ¬ longI z)) (fun x => (Ln - intOf x).toNat)
      case atStart => exact ⟨0, Nat.zero_le _, rfl, fun z hz => by simp at hz⟩
      case round =>
        obtain ⟨i, hi, rfl, hH⟩ := hrel
        by_cases hlt2 : i < Ln
        · have hi2 : i < L.length := by have := HLn.out; omega
          have hc : wr.cell? ⟨g, i, none⟩ = some (.int .i64 (L.getD i 0)) := by rw [Hcl.out i hi2]; simp [List.getD_eq_getElem?_getD, hi2]
          have HT2 : Hid (¬ longI (L.getD i 0) → ∀ z ∈ L.take (i + 1), ¬ longI z) := fun h => take_getD hi2 hH h
          have HM : Hid (longI (L.getD i 0) → ∃ z ∈ L, longI z) := fun h => ⟨_, by rw [show L.getD i 0 = L[i] by simp [List.getD_eq_getElem?_getD, hi2]]; exact List.getElem_mem hi2, h⟩
          generalize L.getD i 0 = z at *
          have i0 : (0 : Int) ≤ (i : Int) := by omega
          have i1 : (i : Int) < (Ln : Int) := by omega
          go_wp2_with fail
          refine (rlong_any _ _).mono ?_
          rintro e w2 ⟨rfl, hw⟩
          obtain rfl := hw.symm
          obtain ⟨q, hq⟩ : ∃ q, q = decide (longI z) := ⟨_, rfl⟩
          rw [← hq]
          have Hq := Lib.hid hq
          clear hq
          cases q with
          | true =>
            go_wp2_with fail
            go_ret
            exact ⟨by rw [E.out.1 (HM.out (of_decide_eq_true Hq.out.symm))]; rfl, HBw.out⟩
          | false =>
            go_wp2_with fail
            go_round
            case rel => exact ⟨i + 1, by omega, by go_num, HT2.out (of_decide_eq_false Hq.out.symm)⟩
            case measure => simp [intOf]; omega
        · obtain rfl : i = Ln := by omega
          have HN : Hid (¬ ∃ z ∈ L, longI z) := by
            rintro ⟨z, hz, hl⟩
            have h2 := hH
            rw [HLn.out, List.take_length] at h2
            exact h2 z hz hl
          have E2 := Lib.hid (E.out.2 HN.out)
          obtain ⟨e0, e1, e2, e3, e4, e5, e6, e7, e8, e9, e10, e11, e12⟩ := HEr.out.facts
          clear e4 e5 e6 e7 e8 e9 e10 e11 e12
          obtain ⟨q0, q1, q2, q3, q4, q5, q6⟩ := HPr.out.facts
          clear q0 q6 hH hLn hll
          go_wp2_with fail
          all_goals
            go_ret
            refine ⟨?_, HBw.out⟩
            have E2 := E2.out
            go_light
            clear e0 e1 e2 e3 q1 q2 q3 q4 q5
            by_cases hC : ((c = false ∨ (f = 0 ∧ a = 0 ∧ b = 0 ∧ d = 0)) ∧ t.toList = [] ∧ bl = 0 ∧ n = 0)
            · rw [E2.1 hC]
              first | rfl | (exfalso; clear E2; simp_all)
            · rw [E2.2 hC]
              first | rfl | (exfalso; clear E2; simp_all)
end Go.Proofs.YtobaoekibnloiaaGreatDoor
/- The line of a station, as the reference puts it together. No walk. -/
namespace Go.Proofs.YtobaoekibnloiaaGreatDoor
open Go Go.RowKit

def c32 : ByteArray := ⟨#[32]⟩
def wSt : ByteArray := ⟨#[115, 116, 97, 116, 105, 111, 110, 32]⟩
def wCl : ByteArray := ⟨#[32, 99, 108, 111, 115, 101, 100]⟩
def wAt : ByteArray := ⟨#[32, 97, 116, 32]⟩
def wBi : ByteArray := ⟨#[32, 98, 105, 97, 115, 32]⟩
def stHead (st : Int) (nm : ByteArray) (s : Int) : ByteArray := wSt ++ kindW st ++ c32 ++ nm ++ c32 ++ istr s
def atS (f a b d : Int) : ByteArray := wAt ++ istr f ++ c32 ++ istr a ++ c32 ++ istr b ++ c32 ++ istr d
def biS (p : Int × Int) : ByteArray := wBi ++ istr p.1 ++ c32 ++ istr p.2
def stLine (A : ByteArray) (l : List (Int × Int)) : ByteArray := l.foldl (fun s p => s ++ biS p) A
theorem stLine_snoc (A : ByteArray) (l : List (Int × Int)) (p : Int × Int) : stLine A (l ++ [p]) = stLine A l ++ biS p := by simp [stLine]
theorem stLine_list (A : ByteArray) : ∀ l, (stLine A l).data.toList = A.data.toList ++ l.flatMap fun p => (biS p).data.toList
  | [] => by simp [stLine]
  | p :: l => by
    have h := stLine_list (A ++ biS p) l
    have e : stLine A (p :: l) = stLine (A ++ biS p) l := rfl
    rw [e, h]; simp [ByteArray.data_append]
theorem biS_size {p : Int × Int} (h1 : ¬ longI p.1) (h2 : ¬ longI p.2) : (biS p).size ≤ 45 := by
  have a := istr_size h1
  have b := istr_size h2
  have e1 : wBi.size = 6 := rfl
  have e2 : c32.size = 1 := rfl
  unfold biS; simp only [ByteArray.size_append]; omega
theorem stLine_size (A : ByteArray) : ∀ l, (∀ p ∈ l, ¬ longI p.1 ∧ ¬ longI p.2) → (stLine A l).size ≤ A.size + 45 * l.length
  | [], _ => by simp [stLine]
  | p :: l, h => by
    have h1 := stLine_size (A ++ biS p) l (fun q hq => h q (List.mem_cons_of_mem _ hq))
    have h2 := biS_size (h p (by simp)).1 (h p (by simp)).2
    have e : stLine A (p :: l) = stLine (A ++ biS p) l := rfl
    rw [e, List.length_cons]; rw [ByteArray.size_append] at h1; omega
theorem join_flat (c : UInt8) : ∀ (x : List UInt8) (r : List (List UInt8)), Lib.join (x :: r) [c] = x ++ r.flatMap (fun w => c :: w)
  | x, [] => by rw [Lib.join_one]; simp
  | x, y :: t => by rw [join_tail c x (y :: t) (by simp), join_flat c y t]; simp
theorem bias_flat : ∀ (l : List (Int × Int)), ((biasW l).map (·.data.toList)).flatMap (fun w => (32 : UInt8) :: w) = l.flatMap fun p => (biS p).data.toList
  | [] => rfl
  | p :: l => by
    have e : biasW (p :: l) = kwBias :: istr p.1 :: istr p.2 :: biasW l := rfl
    rw [e]
    simp only [List.map_cons, List.flatMap_cons, bias_flat l]
    simp [biS, ByteArray.data_append, wBi, c32, kwBias]
theorem line_shut (t : ByteArray) (bs : List UInt8) (n st : Int) (nm : ByteArray) (s f a b d : Int) (l : List (Int × Int)) :
    stLine (stHead st nm s ++ wCl) l = lineW ⟨4, t, bs, n, st, nm, s, true, f, a, b, d, l⟩ := by
  apply ByteArray.ext
  apply Array.toList_inj.1
  rw [stLine_list]
  unfold lineW joinB
  rw [mkB_data]
  simp only [evWords, placeW, Int.reduceEq, if_false, if_true, reduceIte, List.map_cons, List.map_append, List.cons_append, List.nil_append, join_flat, List.flatMap_cons, List.flatMap_append, List.map_nil, bias_flat]
  simp [stHead, ByteArray.data_append, wSt, wCl, c32, kwStation, kwClosed]
theorem line_at (t : ByteArray) (bs : List UInt8) (n st : Int) (nm : ByteArray) (s f a b d : Int) (l : List (Int × Int)) :
    stLine (stHead st nm s ++ atS f a b d) l = lineW ⟨4, t, bs, n, st, nm, s, false, f, a, b, d, l⟩ := by
  apply ByteArray.ext
  apply Array.toList_inj.1
  rw [stLine_list]
  unfold lineW joinB
  rw [mkB_data]
  simp only [evWords, placeW, Int.reduceEq, if_false, if_true, reduceIte, List.map_cons, List.map_append, List.cons_append, List.nil_append, join_flat, List.flatMap_cons, List.flatMap_append, List.map_nil, bias_flat, Bool.false_eq_true]
  simp [stHead, atS, ByteArray.data_append, wSt, wAt, c32, kwStation, kwAt]
end Go.Proofs.YtobaoekibnloiaaGreatDoor
/- Sums of strings in a region that draws. -/
namespace Go.Proofs.YtobaoekibnloiaaGreatDoor
open Go Go.RowKit

theorem yields_add {P : Program} {ops : Array Oper} {S : World → Prop} {op : Oper} {a : Act} (hw : Region.wanted op (yielded ops a.tmps) = true) (ty t2 : TypeId) (x y : Operand) (ho : op.op = .binOp .add ty x y t2)
    (u v : ByteArray) (hx : a.eval x = .string u) (hy : a.eval y = .string v) (hz : u.size + v.size ≤ 9223372036854775807) : YieldsIf P ops S op (.string (u ++ v)) a := .inl ⟨hw, fun w _ => by
  unfold execOp
  simp only [ho, hx, hy]
  have h := run_string_add_sum (P := P) (w := w) u v hz
  simp [binOp, eqGuard, h, go_sem]⟩
end Go.Proofs.YtobaoekibnloiaaGreatDoor
/- The reference's writeStation. Printed by gen_rwst.py. -/
namespace Go.Proofs.YtobaoekibnloiaaGreatDoor
open Go Go.RowKit

theorem rkinds_at (w : World) (H : Nat) (hH : w.heap.size = H) (k : Nat) (hk : k < 3) :
    Calls Tryz.prog 61 #[] w fun e w' => e = .returned (.slice (some ⟨H, 0, none⟩) 3 3) ∧ Below w.heap.size w w' ∧ w'.cell? ⟨H, k, none⟩ = some (.string (kindW (k + 1))) := by
  subst hH
  refine (rkinds_any w).mono ?_
  rintro e w' ⟨rfl, rfl⟩
  refine ⟨rfl, (Below.refl _ _).alloc (Nat.le_refl _) _, ?_⟩
  have : k = 0 ∨ k = 1 ∨ k = 2 := by omega
  rcases this with rfl | rfl | rfl <;> simp <;> rfl
set_option maxHeartbeats 8000000 in
set_option maxRecDepth 100000 in
theorem rwst_shut (t : ByteArray) (bn : Nat) (n : Int) (k : Nat) (nm : ByteArray) (s f a b d : Int) (l : List (Int × Int)) (ba ca : Option Addr) (bc cc : Nat) (w : World) (hbi : BiasIn 0 w (.slice ca l.length cc) l) (hk : k < 3) (hnm : nm.size ≤ 1000000) (hs : ¬ longI s) (hl : ∀ p ∈ l, ¬ longI p.1 ∧ ¬ longI p.2) :
    Calls Tryz.prog 41 #[.agg #[.int .i64 4, .string t, .slice ba bn bc, .int .i64 n, .int .i64 (k + 1), .string nm, .int .i64 s, .bool true, .int .i64 f, .int .i64 a, .int .i64 b, .int .i64 d, .slice ca l.length cc]] w fun e w' => e = .returned (.string (stLine (stHead (k + 1) nm s ++ wCl) l)) ∧ Below w.heap.size w w' := by
  have hll : l.length ≤ 2000000 := by obtain ⟨_, _, _, h, _⟩ := hbi; exact h
  obtain ⟨ll, hlen⟩ : ∃ ll, ll = l.length := ⟨_, rfl⟩
  rw [← hlen] at hll ⊢
  have Hlen := Lib.hid hlen
  have Hcells := Lib.hid (fun j => @BiasIn.cellsAt 0 w ca cc l hbi j)
  have HL := Lib.hid hl
  have Hs := Lib.hid (not_long hs)
  have hzs := istr_size hs
  have zst : wSt.size ≤ 8 := Nat.le_refl _
  have zc : c32.size ≤ 1 := Nat.le_refl _
  have zat : wAt.size ≤ 4 := Nat.le_refl _
  have zcl : wCl.size ≤ 7 := Nat.le_refl _
  have zbi : wBi.size ≤ 6 := Nat.le_refl _
  clear hbi hlen hs hl
  obtain ⟨kw, hkw⟩ : ∃ kw, kw = kindW (k + 1) := ⟨_, rfl⟩
  have zkw : kw.size ≤ 4 := by rw [hkw, kindW_size]; exact Nat.le_refl _
  have Hkw := Lib.hid hkw
  have HF : Hid (stHead (k + 1) nm s = wSt ++ kw ++ c32 ++ nm ++ c32 ++ istr s) := by unfold Hid stHead; rw [hkw]
  rw [HF.out]
  clear hkw
  have k0 : (0 : Int) ≤ (k : Int) := by omega
  have k1 : (k : Int) < 3 := by omega
  have k2 : IntKind.i64.wrap (k : Int) = (k : Int) := IntWalk.i64_in _ (by omega)
  have HEA : Hid (EvAt ((w.alloc (.cells #[.int .i64 4, .string t, .slice ba bn bc, .int .i64 n, .int .i64 (k + 1), .string nm, .int .i64 s, .bool true, .int .i64 f, .int .i64 a, .int .i64 b, .int .i64 d, .slice ca ll cc] 36)).alloc (.cells #[.int .i64 s, .bool true, .int .i64 f, .int .i64 a, .int .i64 b, .int .i64 d, .slice ca ll cc] 34)) w.heap.size [.int .i64 4, .string t, .slice ba bn bc, .int .i64 n, .int .i64 (k + 1), .string nm, .int .i64 s, .bool true, .int .i64 f, .int .i64 a, .int .i64 b, .int .i64 d, .slice ca ll cc]) := (EvAt.new w [.int .i64 4, .string t, .slice ba bn bc, .int .i64 n, .int .i64 (k + 1), .string nm, .int .i64 s, .bool true, .int .i64 f, .int .i64 a, .int .i64 b, .int .i64 d, .slice ca ll cc] rfl _).alloc _
  have HPA : Hid (PerAt ((w.alloc (.cells #[.int .i64 4, .string t, .slice ba bn bc, .int .i64 n, .int .i64 (k + 1), .string nm, .int .i64 s, .bool true, .int .i64 f, .int .i64 a, .int .i64 b, .int .i64 d, .slice ca ll cc] 36)).alloc (.cells #[.int .i64 s, .bool true, .int .i64 f, .int .i64 a, .int .i64 b, .int .i64 d, .slice ca ll cc] 34)) (w.heap.size + 1) [.int .i64 s, .bool true, .int .i64 f, .int .i64 a, .int .i64 b, .int .i64 d, .slice ca ll cc]) := by
    have h := PerAt.new (w.alloc (.cells #[.int .i64 4, .string t, .slice ba bn bc, .int .i64 n, .int .i64 (k + 1), .string nm, .int .i64 s, .bool true, .int .i64 f, .int .i64 a, .int .i64 b, .int .i64 d, .slice ca ll cc] 36)) [.int .i64 s, .bool true, .int .i64 f, .int .i64 a, .int .i64 b, .int .i64 d, .slice ca ll cc] rfl 34
    rw [show (w.alloc (.cells #[.int .i64 4, .string t, .slice ba bn bc, .int .i64 n, .int .i64 (k + 1), .string nm, .int .i64 s, .bool true, .int .i64 f, .int .i64 a, .int .i64 b, .int .i64 d, .slice ca ll cc] 36)).heap.size = w.heap.size + 1 by simp] at h
    exact h
  have HBB := Lib.hid (ref_below w (.cells #[.int .i64 4, .string t, .slice ba bn bc, .int .i64 n, .int .i64 (k + 1), .string nm, .int .i64 s, .bool true, .int .i64 f, .int .i64 a, .int .i64 b, .int .i64 d, .slice ca ll cc] 36) (.cells #[.int .i64 s, .bool true, .int .i64 f, .int .i64 a, .int .i64 b, .int .i64 d, .slice ca ll cc] 34))
  go_enter Tryz.func41, Tryz.ntmps41
  go_wp2_with fail
  obtain ⟨w2, hw2⟩ : ∃ w2, w2 = ((w.alloc (.cells #[.int .i64 4, .string t, .slice ba bn bc, .int .i64 n, .int .i64 (k + 1), .string nm, .int .i64 s, .bool true, .int .i64 f, .int .i64 a, .int .i64 b, .int .i64 d, .slice ca ll cc] 36)).alloc (.cells #[.int .i64 s, .bool true, .int .i64 f, .int .i64 a, .int .i64 b, .int .i64 d, .slice ca ll cc] 34)) := ⟨_, rfl⟩
  rw [← hw2] at HEA HPA HBB ⊢
  have HE : Hid (∀ wx, Below w2.heap.size w2 wx → EvAt wx w.heap.size [.int .i64 4, .string t, .slice ba bn bc, .int .i64 n, .int .i64 (k + 1), .string nm, .int .i64 s, .bool true, .int .i64 f, .int .i64 a, .int .i64 b, .int .i64 d, .slice ca ll cc]) := fun wx hx => HEA.out.below hx
  have HP : Hid (∀ wx, Below w2.heap.size w2 wx → PerAt wx (w.heap.size + 1) [.int .i64 s, .bool true, .int .i64 f, .int .i64 a, .int .i64 b, .int .i64 d, .slice ca ll cc]) := fun wx hx => HPA.out.below hx
  clear hw2 HEA HPA
  refine wp_region_held_drew (S := (fun wx => Below w2.heap.size w2 wx)) (by kernel_rfl) ((Below.refl _ _).drew) (fun hHeld => ?_)
  refine wpAnyH_takeD (i := 1) (d := some 9) (v := .pointer (some ⟨w.heap.size, 4, none⟩)) rfl rfl (by kernel_rfl) (by kernel_rfl) (by kernel_rfl) (fun _ _ _ h => h) (Or.inl ⟨by rfl, fun _ _ => by rfl⟩) (by assumption) ?_
  simp only [Act.put, List.setIfInBounds_toArray, List.set_cons_zero, List.set_cons_succ]
  refine wpAnyH_takeD (i := 2) (d := some 10) (v := .int .i64 (k + 1)) rfl rfl (by kernel_rfl) (by kernel_rfl) (by kernel_rfl) (fun _ _ _ h => h) (Or.inl ⟨by rfl, fun wx hx => by (obtain ⟨e0, e1, e2, e3, e4, e5, e6, e7, e8, e9, e10, e11, e12⟩ := (HE.out _ hx).facts; clear e0 e1 e2 e3 e6 e7 e8 e9 e10 e11 e12; go_simp)⟩) (by assumption) ?_
  simp only [Act.put, List.setIfInBounds_toArray, List.set_cons_zero, List.set_cons_succ]
  refine wpAnyH_takeD (i := 3) (d := some 11) (v := .int .i64 k) rfl rfl (by kernel_rfl) (by kernel_rfl) (by kernel_rfl) (fun _ _ _ h => h) (Or.inl ⟨by rfl, fun wx hx => by (go_simp)⟩) (by assumption) ?_
  simp only [Act.put, List.setIfInBounds_toArray, List.set_cons_zero, List.set_cons_succ]
  refine wpAnyH_takeD (i := 8) (d := some 16) (v := .pointer (some ⟨w.heap.size, 5, none⟩)) rfl rfl (by kernel_rfl) (by kernel_rfl) (by kernel_rfl) (fun _ _ _ h => h) (Or.inl ⟨by rfl, fun _ _ => by rfl⟩) (by assumption) ?_
  simp only [Act.put, List.setIfInBounds_toArray, List.set_cons_zero, List.set_cons_succ]
  refine wpAnyH_takeD (i := 9) (d := some 17) (v := .string nm) rfl rfl (by kernel_rfl) (by kernel_rfl) (by kernel_rfl) (fun _ _ _ h => h) (Or.inl ⟨by rfl, fun wx hx => by (obtain ⟨e0, e1, e2, e3, e4, e5, e6, e7, e8, e9, e10, e11, e12⟩ := (HE.out _ hx).facts; clear e0 e1 e2 e3 e6 e7 e8 e9 e10 e11 e12; go_simp)⟩) (by assumption) ?_
  simp only [Act.put, List.setIfInBounds_toArray, List.set_cons_zero, List.set_cons_succ]
  refine wpAnyH_takeD (i := 12) (d := some 20) (v := .pointer (some ⟨w.heap.size + 1, 0, none⟩)) rfl rfl (by kernel_rfl) (by kernel_rfl) (by kernel_rfl) (fun _ _ _ h => h) (Or.inl ⟨by rfl, fun _ _ => by rfl⟩) (by assumption) ?_
  simp only [Act.put, List.setIfInBounds_toArray, List.set_cons_zero, List.set_cons_succ]
  refine wpAnyH_takeD (i := 13) (d := some 21) (v := .int .i64 s) rfl rfl (by kernel_rfl) (by kernel_rfl) (by kernel_rfl) (fun _ _ _ h => h) (Or.inl ⟨by rfl, fun wx hx => by (obtain ⟨q0, q1, q2, q3, q4, q5, q6⟩ := (HP.out _ hx).facts; go_simp)⟩) (by assumption) ?_
  simp only [Act.put, List.setIfInBounds_toArray, List.set_cons_zero, List.set_cons_succ]
  refine wpAnyH_ready (rs := [0]) (by kernel_rfl) (by simp) ?_
  refine AllReadyH.cons rfl (fun K hK => ?_) AllReadyH.nil
  rw [if_pos (by rfl)]
  go_simp
  refine (rkinds_at w2.drew w2.heap.size rfl k hk).mono ?_
  rintro e w3 ⟨rfl, hb3, hk3⟩
  refine hK.out _ _ (below_then hHeld hb3) (fun hHeld => ?_)
  clear hK K
  refine wpAnyH_more (S' := (fun wx => Below w2.heap.size w2 wx ∧ wx.cell? ⟨w2.heap.size, k, none⟩ = some (.string kw))) (fun _ h => h.1) ?_
  have hHeld := (⟨hHeld, by rw [Hkw.out]; exact hk3⟩ : (fun wx => Below w2.heap.size w2 wx ∧ wx.cell? ⟨w2.heap.size, k, none⟩ = some (.string kw)) w3)
  clear hk3
  refine wpAnyH_takeD (i := 4) (d := some 12) (v := .pointer (some ⟨w2.heap.size, k, none⟩)) rfl rfl (by kernel_rfl) (by kernel_rfl) (by kernel_rfl) (fun _ _ _ h => h) (Or.inl ⟨by rfl, fun wx hx => by (go_simp)⟩) (by assumption) ?_
  simp only [Act.put, List.setIfInBounds_toArray, List.set_cons_zero, List.set_cons_succ]
  refine wpAnyH_takeD (i := 5) (d := some 13) (v := .string kw) rfl rfl (by kernel_rfl) (by kernel_rfl) (by kernel_rfl) (fun _ _ _ h => h) (Or.inl ⟨by rfl, fun wx hx => by (have q := hx.2; go_simp)⟩) (by assumption) ?_
  simp only [Act.put, List.setIfInBounds_toArray, List.set_cons_zero, List.set_cons_succ]
  refine wpAnyH_takeD (i := 6) (d := some 14) (v := .string (wSt ++ kw)) rfl rfl (by kernel_rfl) (by kernel_rfl) (by kernel_rfl) (fun _ _ _ h => h) (yields_add (by rfl) _ _ _ _ rfl (wSt) (kw) rfl rfl (by (try simp only [ByteArray.size_append]); omega)) (by assumption) ?_
  simp only [Act.put, List.setIfInBounds_toArray, List.set_cons_zero, List.set_cons_succ]
  refine wpAnyH_takeD (i := 7) (d := some 15) (v := .string (wSt ++ kw ++ c32)) rfl rfl (by kernel_rfl) (by kernel_rfl) (by kernel_rfl) (fun _ _ _ h => h) (yields_add (by rfl) _ _ _ _ rfl (wSt ++ kw) (c32) rfl rfl (by (try simp only [ByteArray.size_append]); omega)) (by assumption) ?_
  simp only [Act.put, List.setIfInBounds_toArray, List.set_cons_zero, List.set_cons_succ]
  refine wpAnyH_takeD (i := 10) (d := some 18) (v := .string (wSt ++ kw ++ c32 ++ nm)) rfl rfl (by kernel_rfl) (by kernel_rfl) (by kernel_rfl) (fun _ _ _ h => h) (yields_add (by rfl) _ _ _ _ rfl (wSt ++ kw ++ c32) (nm) rfl rfl (by (try simp only [ByteArray.size_append]); omega)) (by assumption) ?_
  simp only [Act.put, List.setIfInBounds_toArray, List.set_cons_zero, List.set_cons_succ]
  refine wpAnyH_takeD (i := 11) (d := some 19) (v := .string (wSt ++ kw ++ c32 ++ nm ++ c32)) rfl rfl (by kernel_rfl) (by kernel_rfl) (by kernel_rfl) (fun _ _ _ h => h) (yields_add (by rfl) _ _ _ _ rfl (wSt ++ kw ++ c32 ++ nm) (c32) rfl rfl (by (try simp only [ByteArray.size_append]); omega)) (by assumption) ?_
  simp only [Act.put, List.setIfInBounds_toArray, List.set_cons_zero, List.set_cons_succ]
  refine wpAnyH_ready (rs := [14]) (by kernel_rfl) (by simp) ?_
  refine AllReadyH.cons rfl (fun K hK => ?_) AllReadyH.nil
  rw [if_pos (by rfl)]
  go_simp
  refine (rdecimal_any s Hs.out _).mono ?_
  rintro e w4 ⟨rfl, hb4⟩
  refine hK.out _ _ (⟨below_then hHeld.1 hb4, cell_then hb4 hHeld.2⟩) (fun hHeld => ?_)
  clear hK K
  refine wpAnyH_takeD (i := 15) (d := some 23) (v := .string (wSt ++ kw ++ c32 ++ nm ++ c32 ++ istr s)) rfl rfl (by kernel_rfl) (by kernel_rfl) (by kernel_rfl) (fun _ _ _ h => h) (yields_add (by rfl) _ _ _ _ rfl (wSt ++ kw ++ c32 ++ nm ++ c32) (istr s) rfl rfl (by (try simp only [ByteArray.size_append]); omega)) (by assumption) ?_
  simp only [Act.put, List.setIfInBounds_toArray, List.set_cons_zero, List.set_cons_succ]
  refine wpAnyH_takeD (i := 16) (d := some 4) (v := .string (wSt ++ kw ++ c32 ++ nm ++ c32 ++ istr s)) rfl rfl (by kernel_rfl) (by kernel_rfl) (by kernel_rfl) (fun _ _ _ h => h) (Or.inl ⟨by rfl, fun _ _ => by rfl⟩) (by assumption) ?_
  simp only [Act.put, List.setIfInBounds_toArray, List.set_cons_zero, List.set_cons_succ]
  refine wpAnyH_done (by kernel_rfl) ?_ _
  have hB4 : Below w2.heap.size w2 w4 := hHeld.1
  clear hHeld hb3 hb4 Hkw
  have q1 := (HP.out _ hB4).facts.2.1
  obtain ⟨A, hA⟩ : ∃ A, A = wSt ++ kw ++ c32 ++ nm ++ c32 ++ istr s := ⟨_, rfl⟩
  rw [← hA]
  have zA : A.size ≤ 1000040 := by rw [hA]; simp only [ByteArray.size_append]; omega
  have HA := Lib.hid hA
  clear hA
  have hadd : ∀ wx, (Op.stringOp .add A wCl).run Tryz.prog wx = .ok (.string (A ++ wCl)) wx := fun wx => run_string_add_sum _ _ _ (by omega)
  unfold wCl at hadd
  obtain ⟨w5, rfl⟩ : ∃ w5, w5 = w4 := ⟨_, rfl⟩
  go_wp2_with fail
  have hB5 := hB4
  obtain ⟨T0, hT0⟩ : ∃ T0, T0 = A ++ wCl := ⟨_, rfl⟩
  have hT0' : A ++ ⟨#[32, 99, 108, 111, 115, 101, 100]⟩ = T0 := hT0.symm
  rw [hT0']
  have zT0 : T0.size ≤ 1000200 := by rw [hT0]; simp only [ByteArray.size_append]; omega
  have HT0 : Hid (T0 = wSt ++ kw ++ c32 ++ nm ++ c32 ++ istr s ++ wCl) := by rw [← HA.out]; exact hT0
  clear hT0 hT0' hadd
  have HTz : Hid (∀ j, (stLine T0 (l.take j)).size ≤ 100000000) := fun j => by
    have h := stLine_size T0 (l.take j) (fun p hp => HL.out p (List.mem_of_mem_take hp))
    have h2 : (l.take j).length ≤ l.length := by rw [List.length_take]; omega
    have := Hlen.out
    omega
  have HN0 : Hid (stLine T0 (l.take 0) = T0) := rfl
  clear q1 hzs zkw hnm
  go_loopw [4, 5] (fun tv x wr => ∃ (j : Nat), j ≤ ll ∧ x = .int .i64 j ∧ tv = .string (stLine T0 (l.take j)) ∧ Below w2.heap.size w2 wr) (fun _ x _ => (ll - intOf x).toNat)
  case atStart => exact ⟨0, by omega, rfl, rfl, hB5⟩
  case round =>
    obtain ⟨j, hj, rfl, rfl, hBr⟩ := hrel
    by_cases hlt : j < ll
    · have hjl : j < l.length := by have := Hlen.out; omega
      obtain ⟨ab, ao, rfl, p0, p1⟩ := Hcells.out j hjl
      have P0 : Hid (∀ wx, Below w2.heap.size w2 wx → wx.cell? ⟨ab, ao + j * 2, none⟩ = some (.int .i64 (l.getD j (0, 0)).1)) := fun wx hx => cell_then (below_then HBB.out hx) p0
      have P1 : Hid (∀ wx, Below w2.heap.size w2 wx → wx.cell? ⟨ab, ao + j * 2 + 1, none⟩ = some (.int .i64 (l.getD j (0, 0)).2)) := fun wx hx => cell_then (below_then HBB.out hx) p1
      clear p0 p1
      have hm : l.getD j (0, 0) ∈ l := by rw [getD_mem hjl]; exact List.getElem_mem hjl
      have hnl := HL.out _ hm
      have Hu := Lib.hid (not_long hnl.1)
      have Hv := Lib.hid (not_long hnl.2)
      have zu := istr_size hnl.1
      have zv := istr_size hnl.2
      have Htk : Hid (stLine T0 (l.take (j + 1)) = stLine T0 (l.take j) ++ biS ((l.getD j (0, 0)).1, (l.getD j (0, 0)).2)) := by
        unfold Hid
        rw [List.take_succ_eq_append_getElem hjl, stLine_snoc, getD_mem hjl]
      have zT := HTz.out j
      generalize stLine T0 (l.take j) = T at *
      generalize (l.getD j (0, 0)).1 = u at *
      generalize (l.getD j (0, 0)).2 = v at *
      have c6 := (HP.out _ hBr).facts.2.2.2.2.2.2
      clear hnl hm hB4 hB5
      have i0 : (0 : Int) ≤ (j : Int) := by omega
      have i1 : (j : Int) < (ll : Int) := by omega
      go_wp2_with fail
      clear c6
      refine wp_region_held_drew (S := (fun wx => Below w2.heap.size w2 wx)) (by kernel_rfl) hBr.drew (fun hHeld => ?_)
      refine wpAnyH_takeD (i := 0) (d := some 60) (v := .string T) rfl rfl (by kernel_rfl) (by kernel_rfl) (by kernel_rfl) (fun _ _ _ h => h) (Or.inl ⟨by rfl, fun _ _ => by rfl⟩) (by assumption) ?_
      simp only [Act.put, List.setIfInBounds_toArray, List.set_cons_zero, List.set_cons_succ]
      refine wpAnyH_takeD (i := 1) (d := some 61) (v := .pointer (some ⟨w.heap.size + 1, 6, none⟩)) rfl rfl (by kernel_rfl) (by kernel_rfl) (by kernel_rfl) (fun _ _ _ h => h) (Or.inl ⟨by rfl, fun _ _ => by rfl⟩) (by assumption) ?_
      simp only [Act.put, List.setIfInBounds_toArray, List.set_cons_zero, List.set_cons_succ]
      refine wpAnyH_takeD (i := 2) (d := some 62) (v := .slice (some ⟨ab, ao, none⟩) ll cc) rfl rfl (by kernel_rfl) (by kernel_rfl) (by kernel_rfl) (fun _ _ _ h => h) (Or.inl ⟨by rfl, fun wx hx => by (obtain ⟨q0, q1, q2, q3, q4, q5, q6⟩ := (HP.out _ hx).facts; go_simp)⟩) (by assumption) ?_
      simp only [Act.put, List.setIfInBounds_toArray, List.set_cons_zero, List.set_cons_succ]
      refine wpAnyH_takeD (i := 3) (d := some 63) (v := .int .i64 j) rfl rfl (by kernel_rfl) (by kernel_rfl) (by kernel_rfl) (fun _ _ _ h => h) (Or.inl ⟨by rfl, fun _ _ => by rfl⟩) (by assumption) ?_
      simp only [Act.put, List.setIfInBounds_toArray, List.set_cons_zero, List.set_cons_succ]
      refine wpAnyH_takeD (i := 4) (d := some 64) (v := .pointer (some ⟨ab, ao + j * 2, none⟩)) rfl rfl (by kernel_rfl) (by kernel_rfl) (by kernel_rfl) (fun _ _ _ h => h) (Or.inl ⟨by rfl, fun wx hx => by (go_simp)⟩) (by assumption) ?_
      simp only [Act.put, List.setIfInBounds_toArray, List.set_cons_zero, List.set_cons_succ]
      refine wpAnyH_takeD (i := 5) (d := some 65) (v := .pointer (some ⟨ab, ao + j * 2, none⟩)) rfl rfl (by kernel_rfl) (by kernel_rfl) (by kernel_rfl) (fun _ _ _ h => h) (Or.inl ⟨by rfl, fun wx hx => by (go_simp)⟩) (by assumption) ?_
      simp only [Act.put, List.setIfInBounds_toArray, List.set_cons_zero, List.set_cons_succ]
      refine wpAnyH_takeD (i := 6) (d := some 66) (v := .int .i64 u) rfl rfl (by kernel_rfl) (by kernel_rfl) (by kernel_rfl) (fun _ _ _ h => h) (Or.inl ⟨by rfl, fun wx hx => by (have q := P0.out _ hx; go_simp)⟩) (by assumption) ?_
      simp only [Act.put, List.setIfInBounds_toArray, List.set_cons_zero, List.set_cons_succ]
      refine wpAnyH_takeD (i := 10) (d := some 70) (v := .pointer (some ⟨w.heap.size + 1, 6, none⟩)) rfl rfl (by kernel_rfl) (by kernel_rfl) (by kernel_rfl) (fun _ _ _ h => h) (Or.inl ⟨by rfl, fun _ _ => by rfl⟩) (by assumption) ?_
      simp only [Act.put, List.setIfInBounds_toArray, List.set_cons_zero, List.set_cons_succ]
      refine wpAnyH_takeD (i := 11) (d := some 71) (v := .slice (some ⟨ab, ao, none⟩) ll cc) rfl rfl (by kernel_rfl) (by kernel_rfl) (by kernel_rfl) (fun _ _ _ h => h) (Or.inl ⟨by rfl, fun wx hx => by (obtain ⟨q0, q1, q2, q3, q4, q5, q6⟩ := (HP.out _ hx).facts; go_simp)⟩) (by assumption) ?_
      simp only [Act.put, List.setIfInBounds_toArray, List.set_cons_zero, List.set_cons_succ]
      refine wpAnyH_takeD (i := 12) (d := some 72) (v := .int .i64 j) rfl rfl (by kernel_rfl) (by kernel_rfl) (by kernel_rfl) (fun _ _ _ h => h) (Or.inl ⟨by rfl, fun _ _ => by rfl⟩) (by assumption) ?_
      simp only [Act.put, List.setIfInBounds_toArray, List.set_cons_zero, List.set_cons_succ]
      refine wpAnyH_takeD (i := 13) (d := some 73) (v := .pointer (some ⟨ab, ao + j * 2, none⟩)) rfl rfl (by kernel_rfl) (by kernel_rfl) (by kernel_rfl) (fun _ _ _ h => h) (Or.inl ⟨by rfl, fun wx hx => by (go_simp)⟩) (by assumption) ?_
      simp only [Act.put, List.setIfInBounds_toArray, List.set_cons_zero, List.set_cons_succ]
      refine wpAnyH_takeD (i := 14) (d := some 74) (v := .pointer (some ⟨ab, ao + j * 2 + 1, none⟩)) rfl rfl (by kernel_rfl) (by kernel_rfl) (by kernel_rfl) (fun _ _ _ h => h) (Or.inl ⟨by rfl, fun wx hx => by (go_simp)⟩) (by assumption) ?_
      simp only [Act.put, List.setIfInBounds_toArray, List.set_cons_zero, List.set_cons_succ]
      refine wpAnyH_takeD (i := 15) (d := some 75) (v := .int .i64 v) rfl rfl (by kernel_rfl) (by kernel_rfl) (by kernel_rfl) (fun _ _ _ h => h) (Or.inl ⟨by rfl, fun wx hx => by (have q := P1.out _ hx; go_simp)⟩) (by assumption) ?_
      simp only [Act.put, List.setIfInBounds_toArray, List.set_cons_zero, List.set_cons_succ]
      refine wpAnyH_ready (rs := [7]) (by kernel_rfl) (by simp) ?_
      refine AllReadyH.cons rfl (fun K hK => ?_) AllReadyH.nil
      rw [if_pos (by rfl)]
      go_simp
      refine (rdecimal_any u Hu.out _).mono ?_
      rintro e w7 ⟨rfl, hb7⟩
      refine hK.out _ _ (below_then hHeld hb7) (fun hHeld => ?_)
      clear hK K
      clear hb7
      refine wpAnyH_takeD (i := 8) (d := some 68) (v := .string (wBi ++ istr u)) rfl rfl (by kernel_rfl) (by kernel_rfl) (by kernel_rfl) (fun _ _ _ h => h) (yields_add (by rfl) _ _ _ _ rfl (wBi) (istr u) rfl rfl (by (try simp only [ByteArray.size_append]); omega)) (by assumption) ?_
      simp only [Act.put, List.setIfInBounds_toArray, List.set_cons_zero, List.set_cons_succ]
      refine wpAnyH_takeD (i := 9) (d := some 69) (v := .string (wBi ++ istr u ++ c32)) rfl rfl (by kernel_rfl) (by kernel_rfl) (by kernel_rfl) (fun _ _ _ h => h) (yields_add (by rfl) _ _ _ _ rfl (wBi ++ istr u) (c32) rfl rfl (by (try simp only [ByteArray.size_append]); omega)) (by assumption) ?_
      simp only [Act.put, List.setIfInBounds_toArray, List.set_cons_zero, List.set_cons_succ]
      refine wpAnyH_ready (rs := [16]) (by kernel_rfl) (by simp) ?_
      refine AllReadyH.cons rfl (fun K hK => ?_) AllReadyH.nil
      rw [if_pos (by rfl)]
      go_simp
      refine (rdecimal_any v Hv.out _).mono ?_
      rintro e w8 ⟨rfl, hb8⟩
      refine hK.out _ _ (below_then hHeld hb8) (fun hHeld => ?_)
      clear hK K
      clear hb8
      refine wpAnyH_takeD (i := 17) (d := some 77) (v := .string (wBi ++ istr u ++ c32 ++ istr v)) rfl rfl (by kernel_rfl) (by kernel_rfl) (by kernel_rfl) (fun _ _ _ h => h) (yields_add (by rfl) _ _ _ _ rfl (wBi ++ istr u ++ c32) (istr v) rfl rfl (by (try simp only [ByteArray.size_append]); omega)) (by assumption) ?_
      simp only [Act.put, List.setIfInBounds_toArray, List.set_cons_zero, List.set_cons_succ]
      refine wpAnyH_takeD (i := 18) (d := some 78) (v := .string (T ++ (wBi ++ istr u ++ c32 ++ istr v))) rfl rfl (by kernel_rfl) (by kernel_rfl) (by kernel_rfl) (fun _ _ _ h => h) (yields_add (by rfl) _ _ _ _ rfl T (wBi ++ istr u ++ c32 ++ istr v) rfl rfl (by (try simp only [ByteArray.size_append]); omega)) (by assumption) ?_
      simp only [Act.put, List.setIfInBounds_toArray, List.set_cons_zero, List.set_cons_succ]
      refine wpAnyH_takeD (i := 19) (d := some 4) (v := .string (T ++ (wBi ++ istr u ++ c32 ++ istr v))) rfl rfl (by kernel_rfl) (by kernel_rfl) (by kernel_rfl) (fun _ _ _ h => h) (Or.inl ⟨by rfl, fun _ _ => by rfl⟩) (by assumption) ?_
      simp only [Act.put, List.setIfInBounds_toArray, List.set_cons_zero, List.set_cons_succ]
      refine wpAnyH_done (by kernel_rfl) ?_ _
      have hB9 : Below w2.heap.size w2 w8 := hHeld
      clear hHeld zu zv zT
      go_wp2_with fail
      go_roundw
      case rel => exact ⟨j + 1, by omega, by go_num, by rw [Htk.out]; rfl, hB9⟩
      case measure => simp [intOf]; omega
    · obtain rfl : j = ll := by omega
      have c6 := (HP.out _ hBr).facts.2.2.2.2.2.2
      have HD : Hid (stLine T0 (l.take j) = stLine (wSt ++ kw ++ c32 ++ nm ++ c32 ++ istr s ++ wCl) l) := by unfold Hid; rw [Hlen.out, List.take_length, HT0.out]
      rw [HD.out]
      have HBf := Lib.hid (below_then HBB.out hBr)
      obtain ⟨RR, hRR⟩ : ∃ RR, RR = stLine (wSt ++ kw ++ c32 ++ nm ++ c32 ++ istr s ++ wCl) l := ⟨_, rfl⟩
      rw [← hRR]
      have HRR := Lib.hid hRR
      clear hRR
      go_wp2_with fail
      go_ret
      exact ⟨congrArg (fun s => Ending.returned (.string s)) HRR.out, HBf.out⟩

set_option maxHeartbeats 8000000 in
set_option maxRecDepth 100000 in
theorem rwst_open (t : ByteArray) (bn : Nat) (n : Int) (k : Nat) (nm : ByteArray) (s f a b d : Int) (l : List (Int × Int)) (ba ca : Option Addr) (bc cc : Nat) (w : World) (hbi : BiasIn 0 w (.slice ca l.length cc) l) (hk : k < 3) (hnm : nm.size ≤ 1000000) (hs : ¬ longI s) (hf : ¬ longI f) (ha : ¬ longI a) (hb : ¬ longI b) (hd : ¬ longI d) (hl : ∀ p ∈ l, ¬ longI p.1 ∧ ¬ longI p.2) :
    Calls Tryz.prog 41 #[.agg #[.int .i64 4, .string t, .slice ba bn bc, .int .i64 n, .int .i64 (k + 1), .string nm, .int .i64 s, .bool false, .int .i64 f, .int .i64 a, .int .i64 b, .int .i64 d, .slice ca l.length cc]] w fun e w' => e = .returned (.string (stLine (stHead (k + 1) nm s ++ (atS f a b d)) l)) ∧ Below w.heap.size w w' := by
  have hll : l.length ≤ 2000000 := by obtain ⟨_, _, _, h, _⟩ := hbi; exact h
  obtain ⟨ll, hlen⟩ : ∃ ll, ll = l.length := ⟨_, rfl⟩
  rw [← hlen] at hll ⊢
  have Hlen := Lib.hid hlen
  have Hcells := Lib.hid (fun j => @BiasIn.cellsAt 0 w ca cc l hbi j)
  have HL := Lib.hid hl
  have Hs := Lib.hid (not_long hs)
  have hzs := istr_size hs
  have Hf := Lib.hid (not_long hf)
  have hzf := istr_size hf
  have Ha := Lib.hid (not_long ha)
  have hza := istr_size ha
  have Hb := Lib.hid (not_long hb)
  have hzb := istr_size hb
  have Hd := Lib.hid (not_long hd)
  have hzd := istr_size hd
  clear hf ha hb hd
  have zst : wSt.size ≤ 8 := Nat.le_refl _
  have zc : c32.size ≤ 1 := Nat.le_refl _
  have zat : wAt.size ≤ 4 := Nat.le_refl _
  have zcl : wCl.size ≤ 7 := Nat.le_refl _
  have zbi : wBi.size ≤ 6 := Nat.le_refl _
  clear hbi hlen hs hl
  obtain ⟨kw, hkw⟩ : ∃ kw, kw = kindW (k + 1) := ⟨_, rfl⟩
  have zkw : kw.size ≤ 4 := by rw [hkw, kindW_size]; exact Nat.le_refl _
  have Hkw := Lib.hid hkw
  have HF : Hid (stHead (k + 1) nm s = wSt ++ kw ++ c32 ++ nm ++ c32 ++ istr s) := by unfold Hid stHead; rw [hkw]
  rw [HF.out]
  clear hkw
  have k0 : (0 : Int) ≤ (k : Int) := by omega
  have k1 : (k : Int) < 3 := by omega
  have k2 : IntKind.i64.wrap (k : Int) = (k : Int) := IntWalk.i64_in _ (by omega)
  have HEA : Hid (EvAt ((w.alloc (.cells #[.int .i64 4, .string t, .slice ba bn bc, .int .i64 n, .int .i64 (k + 1), .string nm, .int .i64 s, .bool false, .int .i64 f, .int .i64 a, .int .i64 b, .int .i64 d, .slice ca ll cc] 36)).alloc (.cells #[.int .i64 s, .bool false, .int .i64 f, .int .i64 a, .int .i64 b, .int .i64 d, .slice ca ll cc] 34)) w.heap.size [.int .i64 4, .string t, .slice ba bn bc, .int .i64 n, .int .i64 (k + 1), .string nm, .int .i64 s, .bool false, .int .i64 f, .int .i64 a, .int .i64 b, .int .i64 d, .slice ca ll cc]) := (EvAt.new w [.int .i64 4, .string t, .slice ba bn bc, .int .i64 n, .int .i64 (k + 1), .string nm, .int .i64 s, .bool false, .int .i64 f, .int .i64 a, .int .i64 b, .int .i64 d, .slice ca ll cc] rfl _).alloc _
  have HPA : Hid (PerAt ((w.alloc (.cells #[.int .i64 4, .string t, .slice ba bn bc, .int .i64 n, .int .i64 (k + 1), .string nm, .int .i64 s, .bool false, .int .i64 f, .int .i64 a, .int .i64 b, .int .i64 d, .slice ca ll cc] 36)).alloc (.cells #[.int .i64 s, .bool false, .int .i64 f, .int .i64 a, .int .i64 b, .int .i64 d, .slice ca ll cc] 34)) (w.heap.size + 1) [.int .i64 s, .bool false, .int .i64 f, .int .i64 a, .int .i64 b, .int .i64 d, .slice ca ll cc]) := by
    have h := PerAt.new (w.alloc (.cells #[.int .i64 4, .string t, .slice ba bn bc, .int .i64 n, .int .i64 (k + 1), .string nm, .int .i64 s, .bool false, .int .i64 f, .int .i64 a, .int .i64 b, .int .i64 d, .slice ca ll cc] 36)) [.int .i64 s, .bool false, .int .i64 f, .int .i64 a, .int .i64 b, .int .i64 d, .slice ca ll cc] rfl 34
    rw [show (w.alloc (.cells #[.int .i64 4, .string t, .slice ba bn bc, .int .i64 n, .int .i64 (k + 1), .string nm, .int .i64 s, .bool false, .int .i64 f, .int .i64 a, .int .i64 b, .int .i64 d, .slice ca ll cc] 36)).heap.size = w.heap.size + 1 by simp] at h
    exact h
  have HBB := Lib.hid (ref_below w (.cells #[.int .i64 4, .string t, .slice ba bn bc, .int .i64 n, .int .i64 (k + 1), .string nm, .int .i64 s, .bool false, .int .i64 f, .int .i64 a, .int .i64 b, .int .i64 d, .slice ca ll cc] 36) (.cells #[.int .i64 s, .bool false, .int .i64 f, .int .i64 a, .int .i64 b, .int .i64 d, .slice ca ll cc] 34))
  go_enter Tryz.func41, Tryz.ntmps41
  go_wp2_with fail
  obtain ⟨w2, hw2⟩ : ∃ w2, w2 = ((w.alloc (.cells #[.int .i64 4, .string t, .slice ba bn bc, .int .i64 n, .int .i64 (k + 1), .string nm, .int .i64 s, .bool false, .int .i64 f, .int .i64 a, .int .i64 b, .int .i64 d, .slice ca ll cc] 36)).alloc (.cells #[.int .i64 s, .bool false, .int .i64 f, .int .i64 a, .int .i64 b, .int .i64 d, .slice ca ll cc] 34)) := ⟨_, rfl⟩
  rw [← hw2] at HEA HPA HBB ⊢
  have HE : Hid (∀ wx, Below w2.heap.size w2 wx → EvAt wx w.heap.size [.int .i64 4, .string t, .slice ba bn bc, .int .i64 n, .int .i64 (k + 1), .string nm, .int .i64 s, .bool false, .int .i64 f, .int .i64 a, .int .i64 b, .int .i64 d, .slice ca ll cc]) := fun wx hx => HEA.out.below hx
  have HP : Hid (∀ wx, Below w2.heap.size w2 wx → PerAt wx (w.heap.size + 1) [.int .i64 s, .bool false, .int .i64 f, .int .i64 a, .int .i64 b, .int .i64 d, .slice ca ll cc]) := fun wx hx => HPA.out.below hx
  clear hw2 HEA HPA
  refine wp_region_held_drew (S := (fun wx => Below w2.heap.size w2 wx)) (by kernel_rfl) ((Below.refl _ _).drew) (fun hHeld => ?_)
  refine wpAnyH_takeD (i := 1) (d := some 9) (v := .pointer (some ⟨w.heap.size, 4, none⟩)) rfl rfl (by kernel_rfl) (by kernel_rfl) (by kernel_rfl) (fun _ _ _ h => h) (Or.inl ⟨by rfl, fun _ _ => by rfl⟩) (by assumption) ?_
  simp only [Act.put, List.setIfInBounds_toArray, List.set_cons_zero, List.set_cons_succ]
  refine wpAnyH_takeD (i := 2) (d := some 10) (v := .int .i64 (k + 1)) rfl rfl (by kernel_rfl) (by kernel_rfl) (by kernel_rfl) (fun _ _ _ h => h) (Or.inl ⟨by rfl, fun wx hx => by (obtain ⟨e0, e1, e2, e3, e4, e5, e6, e7, e8, e9, e10, e11, e12⟩ := (HE.out _ hx).facts; clear e0 e1 e2 e3 e6 e7 e8 e9 e10 e11 e12; go_simp)⟩) (by assumption) ?_
  simp only [Act.put, List.setIfInBounds_toArray, List.set_cons_zero, List.set_cons_succ]
  refine wpAnyH_takeD (i := 3) (d := some 11) (v := .int .i64 k) rfl rfl (by kernel_rfl) (by kernel_rfl) (by kernel_rfl) (fun _ _ _ h => h) (Or.inl ⟨by rfl, fun wx hx => by (go_simp)⟩) (by assumption) ?_
  simp only [Act.put, List.setIfInBounds_toArray, List.set_cons_zero, List.set_cons_succ]
  refine wpAnyH_takeD (i := 8) (d := some 16) (v := .pointer (some ⟨w.heap.size, 5, none⟩)) rfl rfl (by kernel_rfl) (by kernel_rfl) (by kernel_rfl) (fun _ _ _ h => h) (Or.inl ⟨by rfl, fun _ _ => by rfl⟩) (by assumption) ?_
  simp only [Act.put, List.setIfInBounds_toArray, List.set_cons_zero, List.set_cons_succ]
  refine wpAnyH_takeD (i := 9) (d := some 17) (v := .string nm) rfl rfl (by kernel_rfl) (by kernel_rfl) (by kernel_rfl) (fun _ _ _ h => h) (Or.inl ⟨by rfl, fun wx hx => by (obtain ⟨e0, e1, e2, e3, e4, e5, e6, e7, e8, e9, e10, e11, e12⟩ := (HE.out _ hx).facts; clear e0 e1 e2 e3 e6 e7 e8 e9 e10 e11 e12; go_simp)⟩) (by assumption) ?_
  simp only [Act.put, List.setIfInBounds_toArray, List.set_cons_zero, List.set_cons_succ]
  refine wpAnyH_takeD (i := 12) (d := some 20) (v := .pointer (some ⟨w.heap.size + 1, 0, none⟩)) rfl rfl (by kernel_rfl) (by kernel_rfl) (by kernel_rfl) (fun _ _ _ h => h) (Or.inl ⟨by rfl, fun _ _ => by rfl⟩) (by assumption) ?_
  simp only [Act.put, List.setIfInBounds_toArray, List.set_cons_zero, List.set_cons_succ]
  refine wpAnyH_takeD (i := 13) (d := some 21) (v := .int .i64 s) rfl rfl (by kernel_rfl) (by kernel_rfl) (by kernel_rfl) (fun _ _ _ h => h) (Or.inl ⟨by rfl, fun wx hx => by (obtain ⟨q0, q1, q2, q3, q4, q5, q6⟩ := (HP.out _ hx).facts; go_simp)⟩) (by assumption) ?_
  simp only [Act.put, List.setIfInBounds_toArray, List.set_cons_zero, List.set_cons_succ]
  refine wpAnyH_ready (rs := [0]) (by kernel_rfl) (by simp) ?_
  refine AllReadyH.cons rfl (fun K hK => ?_) AllReadyH.nil
  rw [if_pos (by rfl)]
  go_simp
  refine (rkinds_at w2.drew w2.heap.size rfl k hk).mono ?_
  rintro e w3 ⟨rfl, hb3, hk3⟩
  refine hK.out _ _ (below_then hHeld hb3) (fun hHeld => ?_)
  clear hK K
  refine wpAnyH_more (S' := (fun wx => Below w2.heap.size w2 wx ∧ wx.cell? ⟨w2.heap.size, k, none⟩ = some (.string kw))) (fun _ h => h.1) ?_
  have hHeld := (⟨hHeld, by rw [Hkw.out]; exact hk3⟩ : (fun wx => Below w2.heap.size w2 wx ∧ wx.cell? ⟨w2.heap.size, k, none⟩ = some (.string kw)) w3)
  clear hk3
  refine wpAnyH_takeD (i := 4) (d := some 12) (v := .pointer (some ⟨w2.heap.size, k, none⟩)) rfl rfl (by kernel_rfl) (by kernel_rfl) (by kernel_rfl) (fun _ _ _ h => h) (Or.inl ⟨by rfl, fun wx hx => by (go_simp)⟩) (by assumption) ?_
  simp only [Act.put, List.setIfInBounds_toArray, List.set_cons_zero, List.set_cons_succ]
  refine wpAnyH_takeD (i := 5) (d := some 13) (v := .string kw) rfl rfl (by kernel_rfl) (by kernel_rfl) (by kernel_rfl) (fun _ _ _ h => h) (Or.inl ⟨by rfl, fun wx hx => by (have q := hx.2; go_simp)⟩) (by assumption) ?_
  simp only [Act.put, List.setIfInBounds_toArray, List.set_cons_zero, List.set_cons_succ]
  refine wpAnyH_takeD (i := 6) (d := some 14) (v := .string (wSt ++ kw)) rfl rfl (by kernel_rfl) (by kernel_rfl) (by kernel_rfl) (fun _ _ _ h => h) (yields_add (by rfl) _ _ _ _ rfl (wSt) (kw) rfl rfl (by (try simp only [ByteArray.size_append]); omega)) (by assumption) ?_
  simp only [Act.put, List.setIfInBounds_toArray, List.set_cons_zero, List.set_cons_succ]
  refine wpAnyH_takeD (i := 7) (d := some 15) (v := .string (wSt ++ kw ++ c32)) rfl rfl (by kernel_rfl) (by kernel_rfl) (by kernel_rfl) (fun _ _ _ h => h) (yields_add (by rfl) _ _ _ _ rfl (wSt ++ kw) (c32) rfl rfl (by (try simp only [ByteArray.size_append]); omega)) (by assumption) ?_
  simp only [Act.put, List.setIfInBounds_toArray, List.set_cons_zero, List.set_cons_succ]
  refine wpAnyH_takeD (i := 10) (d := some 18) (v := .string (wSt ++ kw ++ c32 ++ nm)) rfl rfl (by kernel_rfl) (by kernel_rfl) (by kernel_rfl) (fun _ _ _ h => h) (yields_add (by rfl) _ _ _ _ rfl (wSt ++ kw ++ c32) (nm) rfl rfl (by (try simp only [ByteArray.size_append]); omega)) (by assumption) ?_
  simp only [Act.put, List.setIfInBounds_toArray, List.set_cons_zero, List.set_cons_succ]
  refine wpAnyH_takeD (i := 11) (d := some 19) (v := .string (wSt ++ kw ++ c32 ++ nm ++ c32)) rfl rfl (by kernel_rfl) (by kernel_rfl) (by kernel_rfl) (fun _ _ _ h => h) (yields_add (by rfl) _ _ _ _ rfl (wSt ++ kw ++ c32 ++ nm) (c32) rfl rfl (by (try simp only [ByteArray.size_append]); omega)) (by assumption) ?_
  simp only [Act.put, List.setIfInBounds_toArray, List.set_cons_zero, List.set_cons_succ]
  refine wpAnyH_ready (rs := [14]) (by kernel_rfl) (by simp) ?_
  refine AllReadyH.cons rfl (fun K hK => ?_) AllReadyH.nil
  rw [if_pos (by rfl)]
  go_simp
  refine (rdecimal_any s Hs.out _).mono ?_
  rintro e w4 ⟨rfl, hb4⟩
  refine hK.out _ _ (⟨below_then hHeld.1 hb4, cell_then hb4 hHeld.2⟩) (fun hHeld => ?_)
  clear hK K
  refine wpAnyH_takeD (i := 15) (d := some 23) (v := .string (wSt ++ kw ++ c32 ++ nm ++ c32 ++ istr s)) rfl rfl (by kernel_rfl) (by kernel_rfl) (by kernel_rfl) (fun _ _ _ h => h) (yields_add (by rfl) _ _ _ _ rfl (wSt ++ kw ++ c32 ++ nm ++ c32) (istr s) rfl rfl (by (try simp only [ByteArray.size_append]); omega)) (by assumption) ?_
  simp only [Act.put, List.setIfInBounds_toArray, List.set_cons_zero, List.set_cons_succ]
  refine wpAnyH_takeD (i := 16) (d := some 4) (v := .string (wSt ++ kw ++ c32 ++ nm ++ c32 ++ istr s)) rfl rfl (by kernel_rfl) (by kernel_rfl) (by kernel_rfl) (fun _ _ _ h => h) (Or.inl ⟨by rfl, fun _ _ => by rfl⟩) (by assumption) ?_
  simp only [Act.put, List.setIfInBounds_toArray, List.set_cons_zero, List.set_cons_succ]
  refine wpAnyH_done (by kernel_rfl) ?_ _
  have hB4 : Below w2.heap.size w2 w4 := hHeld.1
  clear hHeld hb3 hb4 Hkw
  have q1 := (HP.out _ hB4).facts.2.1
  obtain ⟨A, hA⟩ : ∃ A, A = wSt ++ kw ++ c32 ++ nm ++ c32 ++ istr s := ⟨_, rfl⟩
  rw [← hA]
  have zA : A.size ≤ 1000040 := by rw [hA]; simp only [ByteArray.size_append]; omega
  have HA := Lib.hid hA
  clear hA
  go_wp2_with fail
  refine wp_region_held_drew (S := (fun wx => Below w2.heap.size w2 wx)) (by kernel_rfl) hB4.drew (fun hHeld => ?_)
  refine wpAnyH_takeD (i := 0) (d := some 28) (v := .string A) rfl rfl (by kernel_rfl) (by kernel_rfl) (by kernel_rfl) (fun _ _ _ h => h) (Or.inl ⟨by rfl, fun _ _ => by rfl⟩) (by assumption) ?_
  simp only [Act.put, List.setIfInBounds_toArray, List.set_cons_zero, List.set_cons_succ]
  refine wpAnyH_takeD (i := 1) (d := some 29) (v := .pointer (some ⟨w.heap.size + 1, 2, none⟩)) rfl rfl (by kernel_rfl) (by kernel_rfl) (by kernel_rfl) (fun _ _ _ h => h) (Or.inl ⟨by rfl, fun _ _ => by rfl⟩) (by assumption) ?_
  simp only [Act.put, List.setIfInBounds_toArray, List.set_cons_zero, List.set_cons_succ]
  refine wpAnyH_takeD (i := 2) (d := some 30) (v := .pointer (some ⟨w.heap.size + 1, 2, none⟩)) rfl rfl (by kernel_rfl) (by kernel_rfl) (by kernel_rfl) (fun _ _ _ h => h) (Or.inl ⟨by rfl, fun _ _ => by rfl⟩) (by assumption) ?_
  simp only [Act.put, List.setIfInBounds_toArray, List.set_cons_zero, List.set_cons_succ]
  refine wpAnyH_takeD (i := 3) (d := some 31) (v := .int .i64 f) rfl rfl (by kernel_rfl) (by kernel_rfl) (by kernel_rfl) (fun _ _ _ h => h) (Or.inl ⟨by rfl, fun wx hx => by (obtain ⟨q0, q1, q2, q3, q4, q5, q6⟩ := (HP.out _ hx).facts; go_simp)⟩) (by assumption) ?_
  simp only [Act.put, List.setIfInBounds_toArray, List.set_cons_zero, List.set_cons_succ]
  refine wpAnyH_takeD (i := 7) (d := some 35) (v := .pointer (some ⟨w.heap.size + 1, 2, none⟩)) rfl rfl (by kernel_rfl) (by kernel_rfl) (by kernel_rfl) (fun _ _ _ h => h) (Or.inl ⟨by rfl, fun _ _ => by rfl⟩) (by assumption) ?_
  simp only [Act.put, List.setIfInBounds_toArray, List.set_cons_zero, List.set_cons_succ]
  refine wpAnyH_takeD (i := 8) (d := some 36) (v := .pointer (some ⟨w.heap.size + 1, 3, none⟩)) rfl rfl (by kernel_rfl) (by kernel_rfl) (by kernel_rfl) (fun _ _ _ h => h) (Or.inl ⟨by rfl, fun _ _ => by rfl⟩) (by assumption) ?_
  simp only [Act.put, List.setIfInBounds_toArray, List.set_cons_zero, List.set_cons_succ]
  refine wpAnyH_takeD (i := 9) (d := some 37) (v := .int .i64 a) rfl rfl (by kernel_rfl) (by kernel_rfl) (by kernel_rfl) (fun _ _ _ h => h) (Or.inl ⟨by rfl, fun wx hx => by (obtain ⟨q0, q1, q2, q3, q4, q5, q6⟩ := (HP.out _ hx).facts; go_simp)⟩) (by assumption) ?_
  simp only [Act.put, List.setIfInBounds_toArray, List.set_cons_zero, List.set_cons_succ]
  refine wpAnyH_takeD (i := 13) (d := some 41) (v := .pointer (some ⟨w.heap.size + 1, 2, none⟩)) rfl rfl (by kernel_rfl) (by kernel_rfl) (by kernel_rfl) (fun _ _ _ h => h) (Or.inl ⟨by rfl, fun _ _ => by rfl⟩) (by assumption) ?_
  simp only [Act.put, List.setIfInBounds_toArray, List.set_cons_zero, List.set_cons_succ]
  refine wpAnyH_takeD (i := 14) (d := some 42) (v := .pointer (some ⟨w.heap.size + 1, 4, none⟩)) rfl rfl (by kernel_rfl) (by kernel_rfl) (by kernel_rfl) (fun _ _ _ h => h) (Or.inl ⟨by rfl, fun _ _ => by rfl⟩) (by assumption) ?_
  simp only [Act.put, List.setIfInBounds_toArray, List.set_cons_zero, List.set_cons_succ]
  refine wpAnyH_takeD (i := 15) (d := some 43) (v := .int .i64 b) rfl rfl (by kernel_rfl) (by kernel_rfl) (by kernel_rfl) (fun _ _ _ h => h) (Or.inl ⟨by rfl, fun wx hx => by (obtain ⟨q0, q1, q2, q3, q4, q5, q6⟩ := (HP.out _ hx).facts; go_simp)⟩) (by assumption) ?_
  simp only [Act.put, List.setIfInBounds_toArray, List.set_cons_zero, List.set_cons_succ]
  refine wpAnyH_takeD (i := 19) (d := some 47) (v := .pointer (some ⟨w.heap.size + 1, 2, none⟩)) rfl rfl (by kernel_rfl) (by kernel_rfl) (by kernel_rfl) (fun _ _ _ h => h) (Or.inl ⟨by rfl, fun _ _ => by rfl⟩) (by assumption) ?_
  simp only [Act.put, List.setIfInBounds_toArray, List.set_cons_zero, List.set_cons_succ]
  refine wpAnyH_takeD (i := 20) (d := some 48) (v := .pointer (some ⟨w.heap.size + 1, 5, none⟩)) rfl rfl (by kernel_rfl) (by kernel_rfl) (by kernel_rfl) (fun _ _ _ h => h) (Or.inl ⟨by rfl, fun _ _ => by rfl⟩) (by assumption) ?_
  simp only [Act.put, List.setIfInBounds_toArray, List.set_cons_zero, List.set_cons_succ]
  refine wpAnyH_takeD (i := 21) (d := some 49) (v := .int .i64 d) rfl rfl (by kernel_rfl) (by kernel_rfl) (by kernel_rfl) (fun _ _ _ h => h) (Or.inl ⟨by rfl, fun wx hx => by (obtain ⟨q0, q1, q2, q3, q4, q5, q6⟩ := (HP.out _ hx).facts; go_simp)⟩) (by assumption) ?_
  simp only [Act.put, List.setIfInBounds_toArray, List.set_cons_zero, List.set_cons_succ]
  refine wpAnyH_ready (rs := [4]) (by kernel_rfl) (by simp) ?_
  refine AllReadyH.cons rfl (fun K hK => ?_) AllReadyH.nil
  rw [if_pos (by rfl)]
  go_simp
  refine (rdecimal_any f Hf.out _).mono ?_
  rintro e w5 ⟨rfl, hb5⟩
  refine hK.out _ _ (below_then hHeld hb5) (fun hHeld => ?_)
  clear hK K
  clear hb5
  refine wpAnyH_takeD (i := 5) (d := some 33) (v := .string (wAt ++ istr f)) rfl rfl (by kernel_rfl) (by kernel_rfl) (by kernel_rfl) (fun _ _ _ h => h) (yields_add (by rfl) _ _ _ _ rfl (wAt) (istr f) rfl rfl (by (try simp only [ByteArray.size_append]); omega)) (by assumption) ?_
  simp only [Act.put, List.setIfInBounds_toArray, List.set_cons_zero, List.set_cons_succ]
  refine wpAnyH_takeD (i := 6) (d := some 34) (v := .string (wAt ++ istr f ++ c32)) rfl rfl (by kernel_rfl) (by kernel_rfl) (by kernel_rfl) (fun _ _ _ h => h) (yields_add (by rfl) _ _ _ _ rfl (wAt ++ istr f) (c32) rfl rfl (by (try simp only [ByteArray.size_append]); omega)) (by assumption) ?_
  simp only [Act.put, List.setIfInBounds_toArray, List.set_cons_zero, List.set_cons_succ]
  refine wpAnyH_ready (rs := [10]) (by kernel_rfl) (by simp) ?_
  refine AllReadyH.cons rfl (fun K hK => ?_) AllReadyH.nil
  rw [if_pos (by rfl)]
  go_simp
  refine (rdecimal_any a Ha.out _).mono ?_
  rintro e w6 ⟨rfl, hb6⟩
  refine hK.out _ _ (below_then hHeld hb6) (fun hHeld => ?_)
  clear hK K
  clear hb6
  refine wpAnyH_takeD (i := 11) (d := some 39) (v := .string (wAt ++ istr f ++ c32 ++ istr a)) rfl rfl (by kernel_rfl) (by kernel_rfl) (by kernel_rfl) (fun _ _ _ h => h) (yields_add (by rfl) _ _ _ _ rfl (wAt ++ istr f ++ c32) (istr a) rfl rfl (by (try simp only [ByteArray.size_append]); omega)) (by assumption) ?_
  simp only [Act.put, List.setIfInBounds_toArray, List.set_cons_zero, List.set_cons_succ]
  refine wpAnyH_takeD (i := 12) (d := some 40) (v := .string (wAt ++ istr f ++ c32 ++ istr a ++ c32)) rfl rfl (by kernel_rfl) (by kernel_rfl) (by kernel_rfl) (fun _ _ _ h => h) (yields_add (by rfl) _ _ _ _ rfl (wAt ++ istr f ++ c32 ++ istr a) (c32) rfl rfl (by (try simp only [ByteArray.size_append]); omega)) (by assumption) ?_
  simp only [Act.put, List.setIfInBounds_toArray, List.set_cons_zero, List.set_cons_succ]
  refine wpAnyH_ready (rs := [16]) (by kernel_rfl) (by simp) ?_
  refine AllReadyH.cons rfl (fun K hK => ?_) AllReadyH.nil
  rw [if_pos (by rfl)]
  go_simp
  refine (rdecimal_any b Hb.out _).mono ?_
  rintro e w7 ⟨rfl, hb7⟩
  refine hK.out _ _ (below_then hHeld hb7) (fun hHeld => ?_)
  clear hK K
  clear hb7
  refine wpAnyH_takeD (i := 17) (d := some 45) (v := .string (wAt ++ istr f ++ c32 ++ istr a ++ c32 ++ istr b)) rfl rfl (by kernel_rfl) (by kernel_rfl) (by kernel_rfl) (fun _ _ _ h => h) (yields_add (by rfl) _ _ _ _ rfl (wAt ++ istr f ++ c32 ++ istr a ++ c32) (istr b) rfl rfl (by (try simp only [ByteArray.size_append]); omega)) (by assumption) ?_
  simp only [Act.put, List.setIfInBounds_toArray, List.set_cons_zero, List.set_cons_succ]
  refine wpAnyH_takeD (i := 18) (d := some 46) (v := .string (wAt ++ istr f ++ c32 ++ istr a ++ c32 ++ istr b ++ c32)) rfl rfl (by kernel_rfl) (by kernel_rfl) (by kernel_rfl) (fun _ _ _ h => h) (yields_add (by rfl) _ _ _ _ rfl (wAt ++ istr f ++ c32 ++ istr a ++ c32 ++ istr b) (c32) rfl rfl (by (try simp only [ByteArray.size_append]); omega)) (by assumption) ?_
  simp only [Act.put, List.setIfInBounds_toArray, List.set_cons_zero, List.set_cons_succ]
  refine wpAnyH_ready (rs := [22]) (by kernel_rfl) (by simp) ?_
  refine AllReadyH.cons rfl (fun K hK => ?_) AllReadyH.nil
  rw [if_pos (by rfl)]
  go_simp
  refine (rdecimal_any d Hd.out _).mono ?_
  rintro e w8 ⟨rfl, hb8⟩
  refine hK.out _ _ (below_then hHeld hb8) (fun hHeld => ?_)
  clear hK K
  clear hb8
  refine wpAnyH_takeD (i := 23) (d := some 51) (v := .string (wAt ++ istr f ++ c32 ++ istr a ++ c32 ++ istr b ++ c32 ++ istr d)) rfl rfl (by kernel_rfl) (by kernel_rfl) (by kernel_rfl) (fun _ _ _ h => h) (yields_add (by rfl) _ _ _ _ rfl (wAt ++ istr f ++ c32 ++ istr a ++ c32 ++ istr b ++ c32) (istr d) rfl rfl (by (try simp only [ByteArray.size_append]); omega)) (by assumption) ?_
  simp only [Act.put, List.setIfInBounds_toArray, List.set_cons_zero, List.set_cons_succ]
  refine wpAnyH_takeD (i := 24) (d := some 52) (v := .string (A ++ (wAt ++ istr f ++ c32 ++ istr a ++ c32 ++ istr b ++ c32 ++ istr d))) rfl rfl (by kernel_rfl) (by kernel_rfl) (by kernel_rfl) (fun _ _ _ h => h) (yields_add (by rfl) _ _ _ _ rfl A (wAt ++ istr f ++ c32 ++ istr a ++ c32 ++ istr b ++ c32 ++ istr d) rfl rfl (by (try simp only [ByteArray.size_append]); omega)) (by assumption) ?_
  simp only [Act.put, List.setIfInBounds_toArray, List.set_cons_zero, List.set_cons_succ]
  refine wpAnyH_takeD (i := 25) (d := some 4) (v := .string (A ++ (wAt ++ istr f ++ c32 ++ istr a ++ c32 ++ istr b ++ c32 ++ istr d))) rfl rfl (by kernel_rfl) (by kernel_rfl) (by kernel_rfl) (fun _ _ _ h => h) (Or.inl ⟨by rfl, fun _ _ => by rfl⟩) (by assumption) ?_
  simp only [Act.put, List.setIfInBounds_toArray, List.set_cons_zero, List.set_cons_succ]
  refine wpAnyH_done (by kernel_rfl) ?_ _
  have hB5 : Below w2.heap.size w2 w8 := hHeld
  obtain ⟨w5, rfl⟩ : ∃ w5, w5 = w8 := ⟨_, rfl⟩
  clear hHeld
  go_wp2_with fail
  obtain ⟨T0, hT0⟩ : ∃ T0, T0 = A ++ atS f a b d := ⟨_, rfl⟩
  have hT0' : A ++ (wAt ++ istr f ++ c32 ++ istr a ++ c32 ++ istr b ++ c32 ++ istr d) = T0 := hT0.symm
  rw [hT0']
  have zT0 : T0.size ≤ 1000200 := by rw [← hT0']; simp only [ByteArray.size_append]; omega
  have HT0 : Hid (T0 = wSt ++ kw ++ c32 ++ nm ++ c32 ++ istr s ++ (atS f a b d)) := by rw [← HA.out]; exact hT0
  clear hT0 hT0' hzf hza hzb hzd
  have HTz : Hid (∀ j, (stLine T0 (l.take j)).size ≤ 100000000) := fun j => by
    have h := stLine_size T0 (l.take j) (fun p hp => HL.out p (List.mem_of_mem_take hp))
    have h2 : (l.take j).length ≤ l.length := by rw [List.length_take]; omega
    have := Hlen.out
    omega
  have HN0 : Hid (stLine T0 (l.take 0) = T0) := rfl
  clear q1 hzs zkw hnm
  go_loopw [4, 5] (fun tv x wr => ∃ (j : Nat), j ≤ ll ∧ x = .int .i64 j ∧ tv = .string (stLine T0 (l.take j)) ∧ Below w2.heap.size w2 wr) (fun _ x _ => (ll - intOf x).toNat)
  case atStart => exact ⟨0, by omega, rfl, rfl, hB5⟩
  case round =>
    obtain ⟨j, hj, rfl, rfl, hBr⟩ := hrel
    by_cases hlt : j < ll
    · have hjl : j < l.length := by have := Hlen.out; omega
      obtain ⟨ab, ao, rfl, p0, p1⟩ := Hcells.out j hjl
      have P0 : Hid (∀ wx, Below w2.heap.size w2 wx → wx.cell? ⟨ab, ao + j * 2, none⟩ = some (.int .i64 (l.getD j (0, 0)).1)) := fun wx hx => cell_then (below_then HBB.out hx) p0
      have P1 : Hid (∀ wx, Below w2.heap.size w2 wx → wx.cell? ⟨ab, ao + j * 2 + 1, none⟩ = some (.int .i64 (l.getD j (0, 0)).2)) := fun wx hx => cell_then (below_then HBB.out hx) p1
      clear p0 p1
      have hm : l.getD j (0, 0) ∈ l := by rw [getD_mem hjl]; exact List.getElem_mem hjl
      have hnl := HL.out _ hm
      have Hu := Lib.hid (not_long hnl.1)
      have Hv := Lib.hid (not_long hnl.2)
      have zu := istr_size hnl.1
      have zv := istr_size hnl.2
      have Htk : Hid (stLine T0 (l.take (j + 1)) = stLine T0 (l.take j) ++ biS ((l.getD j (0, 0)).1, (l.getD j (0, 0)).2)) := by
        unfold Hid
        rw [List.take_succ_eq_append_getElem hjl, stLine_snoc, getD_mem hjl]
      have zT := HTz.out j
      generalize stLine T0 (l.take j) = T at *
      generalize (l.getD j (0, 0)).1 = u at *
      generalize (l.getD j (0, 0)).2 = v at *
      have c6 := (HP.out _ hBr).facts.2.2.2.2.2.2
      clear hnl hm hB4 hB5
      have i0 : (0 : Int) ≤ (j : Int) := by omega
      have i1 : (j : Int) < (ll : Int) := by omega
      go_wp2_with fail
      clear c6
      refine wp_region_held_drew (S := (fun wx => Below w2.heap.size w2 wx)) (by kernel_rfl) hBr.drew (fun hHeld => ?_)
      refine wpAnyH_takeD (i := 0) (d := some 60) (v := .string T) rfl rfl (by kernel_rfl) (by kernel_rfl) (by kernel_rfl) (fun _ _ _ h => h) (Or.inl ⟨by rfl, fun _ _ => by rfl⟩) (by assumption) ?_
      simp only [Act.put, List.setIfInBounds_toArray, List.set_cons_zero, List.set_cons_succ]
      refine wpAnyH_takeD (i := 1) (d := some 61) (v := .pointer (some ⟨w.heap.size + 1, 6, none⟩)) rfl rfl (by kernel_rfl) (by kernel_rfl) (by kernel_rfl) (fun _ _ _ h => h) (Or.inl ⟨by rfl, fun _ _ => by rfl⟩) (by assumption) ?_
      simp only [Act.put, List.setIfInBounds_toArray, List.set_cons_zero, List.set_cons_succ]
      refine wpAnyH_takeD (i := 2) (d := some 62) (v := .slice (some ⟨ab, ao, none⟩) ll cc) rfl rfl (by kernel_rfl) (by kernel_rfl) (by kernel_rfl) (fun _ _ _ h => h) (Or.inl ⟨by rfl, fun wx hx => by (obtain ⟨q0, q1, q2, q3, q4, q5, q6⟩ := (HP.out _ hx).facts; go_simp)⟩) (by assumption) ?_
      simp only [Act.put, List.setIfInBounds_toArray, List.set_cons_zero, List.set_cons_succ]
      refine wpAnyH_takeD (i := 3) (d := some 63) (v := .int .i64 j) rfl rfl (by kernel_rfl) (by kernel_rfl) (by kernel_rfl) (fun _ _ _ h => h) (Or.inl ⟨by rfl, fun _ _ => by rfl⟩) (by assumption) ?_
      simp only [Act.put, List.setIfInBounds_toArray, List.set_cons_zero, List.set_cons_succ]
      refine wpAnyH_takeD (i := 4) (d := some 64) (v := .pointer (some ⟨ab, ao + j * 2, none⟩)) rfl rfl (by kernel_rfl) (by kernel_rfl) (by kernel_rfl) (fun _ _ _ h => h) (Or.inl ⟨by rfl, fun wx hx => by (go_simp)⟩) (by assumption) ?_
      simp only [Act.put, List.setIfInBounds_toArray, List.set_cons_zero, List.set_cons_succ]
      refine wpAnyH_takeD (i := 5) (d := some 65) (v := .pointer (some ⟨ab, ao + j * 2, none⟩)) rfl rfl (by kernel_rfl) (by kernel_rfl) (by kernel_rfl) (fun _ _ _ h => h) (Or.inl ⟨by rfl, fun wx hx => by (go_simp)⟩) (by assumption) ?_
      simp only [Act.put, List.setIfInBounds_toArray, List.set_cons_zero, List.set_cons_succ]
      refine wpAnyH_takeD (i := 6) (d := some 66) (v := .int .i64 u) rfl rfl (by kernel_rfl) (by kernel_rfl) (by kernel_rfl) (fun _ _ _ h => h) (Or.inl ⟨by rfl, fun wx hx => by (have q := P0.out _ hx; go_simp)⟩) (by assumption) ?_
      simp only [Act.put, List.setIfInBounds_toArray, List.set_cons_zero, List.set_cons_succ]
      refine wpAnyH_takeD (i := 10) (d := some 70) (v := .pointer (some ⟨w.heap.size + 1, 6, none⟩)) rfl rfl (by kernel_rfl) (by kernel_rfl) (by kernel_rfl) (fun _ _ _ h => h) (Or.inl ⟨by rfl, fun _ _ => by rfl⟩) (by assumption) ?_
      simp only [Act.put, List.setIfInBounds_toArray, List.set_cons_zero, List.set_cons_succ]
      refine wpAnyH_takeD (i := 11) (d := some 71) (v := .slice (some ⟨ab, ao, none⟩) ll cc) rfl rfl (by kernel_rfl) (by kernel_rfl) (by kernel_rfl) (fun _ _ _ h => h) (Or.inl ⟨by rfl, fun wx hx => by (obtain ⟨q0, q1, q2, q3, q4, q5, q6⟩ := (HP.out _ hx).facts; go_simp)⟩) (by assumption) ?_
      simp only [Act.put, List.setIfInBounds_toArray, List.set_cons_zero, List.set_cons_succ]
      refine wpAnyH_takeD (i := 12) (d := some 72) (v := .int .i64 j) rfl rfl (by kernel_rfl) (by kernel_rfl) (by kernel_rfl) (fun _ _ _ h => h) (Or.inl ⟨by rfl, fun _ _ => by rfl⟩) (by assumption) ?_
      simp only [Act.put, List.setIfInBounds_toArray, List.set_cons_zero, List.set_cons_succ]
      refine wpAnyH_takeD (i := 13) (d := some 73) (v := .pointer (some ⟨ab, ao + j * 2, none⟩)) rfl rfl (by kernel_rfl) (by kernel_rfl) (by kernel_rfl) (fun _ _ _ h => h) (Or.inl ⟨by rfl, fun wx hx => by (go_simp)⟩) (by assumption) ?_
      simp only [Act.put, List.setIfInBounds_toArray, List.set_cons_zero, List.set_cons_succ]
      refine wpAnyH_takeD (i := 14) (d := some 74) (v := .pointer (some ⟨ab, ao + j * 2 + 1, none⟩)) rfl rfl (by kernel_rfl) (by kernel_rfl) (by kernel_rfl) (fun _ _ _ h => h) (Or.inl ⟨by rfl, fun wx hx => by (go_simp)⟩) (by assumption) ?_
      simp only [Act.put, List.setIfInBounds_toArray, List.set_cons_zero, List.set_cons_succ]
      refine wpAnyH_takeD (i := 15) (d := some 75) (v := .int .i64 v) rfl rfl (by kernel_rfl) (by kernel_rfl) (by kernel_rfl) (fun _ _ _ h => h) (Or.inl ⟨by rfl, fun wx hx => by (have q := P1.out _ hx; go_simp)⟩) (by assumption) ?_
      simp only [Act.put, List.setIfInBounds_toArray, List.set_cons_zero, List.set_cons_succ]
      refine wpAnyH_ready (rs := [7]) (by kernel_rfl) (by simp) ?_
      refine AllReadyH.cons rfl (fun K hK => ?_) AllReadyH.nil
      rw [if_pos (by rfl)]
      go_simp
      refine (rdecimal_any u Hu.out _).mono ?_
      rintro e w7 ⟨rfl, hb7⟩
      refine hK.out _ _ (below_then hHeld hb7) (fun hHeld => ?_)
      clear hK K
      clear hb7
      refine wpAnyH_takeD (i := 8) (d := some 68) (v := .string (wBi ++ istr u)) rfl rfl (by kernel_rfl) (by kernel_rfl) (by kernel_rfl) (fun _ _ _ h => h) (yields_add (by rfl) _ _ _ _ rfl (wBi) (istr u) rfl rfl (by (try simp only [ByteArray.size_append]); omega)) (by assumption) ?_
      simp only [Act.put, List.setIfInBounds_toArray, List.set_cons_zero, List.set_cons_succ]
      refine wpAnyH_takeD (i := 9) (d := some 69) (v := .string (wBi ++ istr u ++ c32)) rfl rfl (by kernel_rfl) (by kernel_rfl) (by kernel_rfl) (fun _ _ _ h => h) (yields_add (by rfl) _ _ _ _ rfl (wBi ++ istr u) (c32) rfl rfl (by (try simp only [ByteArray.size_append]); omega)) (by assumption) ?_
      simp only [Act.put, List.setIfInBounds_toArray, List.set_cons_zero, List.set_cons_succ]
      refine wpAnyH_ready (rs := [16]) (by kernel_rfl) (by simp) ?_
      refine AllReadyH.cons rfl (fun K hK => ?_) AllReadyH.nil
      rw [if_pos (by rfl)]
      go_simp
      refine (rdecimal_any v Hv.out _).mono ?_
      rintro e w8 ⟨rfl, hb8⟩
      refine hK.out _ _ (below_then hHeld hb8) (fun hHeld => ?_)
      clear hK K
      clear hb8
      refine wpAnyH_takeD (i := 17) (d := some 77) (v := .string (wBi ++ istr u ++ c32 ++ istr v)) rfl rfl (by kernel_rfl) (by kernel_rfl) (by kernel_rfl) (fun _ _ _ h => h) (yields_add (by rfl) _ _ _ _ rfl (wBi ++ istr u ++ c32) (istr v) rfl rfl (by (try simp only [ByteArray.size_append]); omega)) (by assumption) ?_
      simp only [Act.put, List.setIfInBounds_toArray, List.set_cons_zero, List.set_cons_succ]
      refine wpAnyH_takeD (i := 18) (d := some 78) (v := .string (T ++ (wBi ++ istr u ++ c32 ++ istr v))) rfl rfl (by kernel_rfl) (by kernel_rfl) (by kernel_rfl) (fun _ _ _ h => h) (yields_add (by rfl) _ _ _ _ rfl T (wBi ++ istr u ++ c32 ++ istr v) rfl rfl (by (try simp only [ByteArray.size_append]); omega)) (by assumption) ?_
      simp only [Act.put, List.setIfInBounds_toArray, List.set_cons_zero, List.set_cons_succ]
      refine wpAnyH_takeD (i := 19) (d := some 4) (v := .string (T ++ (wBi ++ istr u ++ c32 ++ istr v))) rfl rfl (by kernel_rfl) (by kernel_rfl) (by kernel_rfl) (fun _ _ _ h => h) (Or.inl ⟨by rfl, fun _ _ => by rfl⟩) (by assumption) ?_
      simp only [Act.put, List.setIfInBounds_toArray, List.set_cons_zero, List.set_cons_succ]
      refine wpAnyH_done (by kernel_rfl) ?_ _
      have hB9 : Below w2.heap.size w2 w8 := hHeld
      clear hHeld zu zv zT
      go_wp2_with fail
      go_roundw
      case rel => exact ⟨j + 1, by omega, by go_num, by rw [Htk.out]; rfl, hB9⟩
      case measure => simp [intOf]; omega
    · obtain rfl : j = ll := by omega
      have c6 := (HP.out _ hBr).facts.2.2.2.2.2.2
      have HD : Hid (stLine T0 (l.take j) = stLine (wSt ++ kw ++ c32 ++ nm ++ c32 ++ istr s ++ (atS f a b d)) l) := by unfold Hid; rw [Hlen.out, List.take_length, HT0.out]
      rw [HD.out]
      have HBf := Lib.hid (below_then HBB.out hBr)
      obtain ⟨RR, hRR⟩ : ∃ RR, RR = stLine (wSt ++ kw ++ c32 ++ nm ++ c32 ++ istr s ++ (atS f a b d)) l := ⟨_, rfl⟩
      rw [← hRR]
      have HRR := Lib.hid hRR
      clear hRR
      go_wp2_with fail
      go_ret
      exact ⟨congrArg (fun s => Ending.returned (.string s)) HRR.out, HBf.out⟩

end Go.Proofs.YtobaoekibnloiaaGreatDoor
/- The reference's refuse, of events that are no stations. Printed by gen_rref.py. -/
namespace Go.Proofs.YtobaoekibnloiaaGreatDoor
open Go Go.RowKit

theorem only_3 (t : ByteArray) (bs : List UInt8) (n st : Int) (nm : ByteArray) (s : Int) (c : Bool) (f a b d : Int) (l : List (Int × Int)) : ((⟨3, t, bs, n, st, nm, s, c, f, a, b, d, l⟩ : Ev) = only ⟨3, t, bs, n, st, nm, s, c, f, a, b, d, l⟩) ↔ (t.toList = [] ∧ bs.length = 0 ∧ st = 0 ∧ nm.toList = [] ∧ s = 0 ∧ c = false ∧ f = 0 ∧ a = 0 ∧ b = 0 ∧ d = 0 ∧ l.length = 0) := by
  simp [only, Ev.zero, nil_list]
theorem err_3 (t : ByteArray) (bs : List UInt8) (n st : Int) (nm : ByteArray) (s : Int) (c : Bool) (f a b d : Int) (l : List (Int × Int)) (hn : ¬ longI n) : ((t.toList = [] ∧ bs.length = 0 ∧ st = 0 ∧ nm.toList = [] ∧ s = 0 ∧ c = false ∧ f = 0 ∧ a = 0 ∧ b = 0 ∧ d = 0 ∧ l.length = 0) → errOf ⟨3, t, bs, n, st, nm, s, c, f, a, b, d, l⟩ = 0) ∧ (¬ (t.toList = [] ∧ bs.length = 0 ∧ st = 0 ∧ nm.toList = [] ∧ s = 0 ∧ c = false ∧ f = 0 ∧ a = 0 ∧ b = 0 ∧ d = 0 ∧ l.length = 0) → errOf ⟨3, t, bs, n, st, nm, s, c, f, a, b, d, l⟩ = 7) := by
  have h1 : ¬ kindBad ⟨3, t, bs, n, st, nm, s, c, f, a, b, d, l⟩ := by simp [kindBad]
  have h2 : ¬ ((3 : Int) = 4 ∧ nameOk nm = false) := by simp
  have h3 : ¬ ∃ z ∈ nums ⟨3, t, bs, n, st, nm, s, c, f, a, b, d, l⟩, longI z := by simp [nums, hn]
  have h4 := only_3 t bs n st nm s c f a b d l
  refine ⟨fun h => errOf_0 h1 h2 h3 ?_, fun h => errOf_7 h1 h2 h3 (Or.inr fun e => h (h4.1 e))⟩
  rintro (⟨h5, _⟩ | h5)
  · exact absurd h5 (by simp)
  · exact h5 (h4.2 h)
theorem err_3l (t : ByteArray) (bs : List UInt8) (n st : Int) (nm : ByteArray) (s : Int) (c : Bool) (f a b d : Int) (l : List (Int × Int)) (hn : longI n) : errOf ⟨3, t, bs, n, st, nm, s, c, f, a, b, d, l⟩ = 1 := errOf_1 (by simp [kindBad]) (by simp) ⟨n, by simp [nums], hn⟩

set_option maxHeartbeats 8000000 in
set_option maxRecDepth 100000 in
theorem refuse_3 (t : ByteArray) (bs : List UInt8) (n st : Int) (nm : ByteArray) (s : Int) (c : Bool) (f a b d : Int) (l : List (Int × Int)) (ba ca : Option Addr) (bc cc : Nat) (w : World) (er : Int) (hn : ¬ longI n)
    (he : ((t.toList = [] ∧ bs.length = 0 ∧ st = 0 ∧ nm.toList = [] ∧ s = 0 ∧ c = false ∧ f = 0 ∧ a = 0 ∧ b = 0 ∧ d = 0 ∧ l.length = 0) → er = 0) ∧ (¬ (t.toList = [] ∧ bs.length = 0 ∧ st = 0 ∧ nm.toList = [] ∧ s = 0 ∧ c = false ∧ f = 0 ∧ a = 0 ∧ b = 0 ∧ d = 0 ∧ l.length = 0) → er = 7)) :
    Calls Tryz.prog 38 #[Ev.val ⟨3, t, bs, n, st, nm, s, c, f, a, b, d, l⟩ (.slice ba bs.length bc) (.slice ca l.length cc)] w (RefIs er w) := by
  unfold Ev.val evCells
  simp only
  have E := Lib.hid he
  clear he
  generalize bs.length = bl at *
  generalize l.length = ll at *
  go_enter Tryz.func38, Tryz.ntmps38
  go_wp2_with fail
  refine (rlong_any _ _).mono ?_
  rintro e w1 ⟨rfl, hw⟩
  obtain rfl := hw.symm
  rw [decide_eq_false hn]
  clear hn
  go_wp2_with fail
  all_goals
    go_ret
    refine ⟨?_, ref_below _ _ _⟩
    have E := E.out
    go_light
    by_cases hC : (t.toList = [] ∧ bl = 0 ∧ st = 0 ∧ nm.toList = [] ∧ s = 0 ∧ c = false ∧ f = 0 ∧ a = 0 ∧ b = 0 ∧ d = 0 ∧ ll = 0)
    · rw [E.1 hC]
      first | rfl | (exfalso; clear E; simp_all)
    · rw [E.2 hC]
      first | rfl | (exfalso; clear E; simp_all)

set_option maxHeartbeats 8000000 in
set_option maxRecDepth 100000 in
theorem refuse_3l (t : ByteArray) (bs : List UInt8) (n st : Int) (nm : ByteArray) (s : Int) (c : Bool) (f a b d : Int) (l : List (Int × Int)) (ba ca : Option Addr) (bc cc : Nat) (w : World) (hn : longI n) :
    Calls Tryz.prog 38 #[Ev.val ⟨3, t, bs, n, st, nm, s, c, f, a, b, d, l⟩ (.slice ba bs.length bc) (.slice ca l.length cc)] w (RefIs 1 w) := by
  unfold Ev.val evCells
  simp only
  generalize bs.length = bl at *
  generalize l.length = ll at *
  go_enter Tryz.func38, Tryz.ntmps38
  go_wp2_with fail
  refine (rlong_any _ _).mono ?_
  rintro e w1 ⟨rfl, hw⟩
  obtain rfl := hw.symm
  rw [decide_eq_true hn]
  go_wp2_with fail
  all_goals (go_ret; exact ⟨rfl, ref_below _ _ _⟩)
theorem only_5 (t : ByteArray) (bs : List UInt8) (n st : Int) (nm : ByteArray) (s : Int) (c : Bool) (f a b d : Int) (l : List (Int × Int)) : ((⟨5, t, bs, n, st, nm, s, c, f, a, b, d, l⟩ : Ev) = only ⟨5, t, bs, n, st, nm, s, c, f, a, b, d, l⟩) ↔ (t.toList = [] ∧ bs.length = 0 ∧ st = 0 ∧ nm.toList = [] ∧ s = 0 ∧ c = false ∧ f = 0 ∧ a = 0 ∧ b = 0 ∧ d = 0 ∧ l.length = 0) := by
  simp [only, Ev.zero, nil_list]
theorem err_5 (t : ByteArray) (bs : List UInt8) (n st : Int) (nm : ByteArray) (s : Int) (c : Bool) (f a b d : Int) (l : List (Int × Int)) (hn : ¬ longI n) : ((t.toList = [] ∧ bs.length = 0 ∧ st = 0 ∧ nm.toList = [] ∧ s = 0 ∧ c = false ∧ f = 0 ∧ a = 0 ∧ b = 0 ∧ d = 0 ∧ l.length = 0) → errOf ⟨5, t, bs, n, st, nm, s, c, f, a, b, d, l⟩ = 0) ∧ (¬ (t.toList = [] ∧ bs.length = 0 ∧ st = 0 ∧ nm.toList = [] ∧ s = 0 ∧ c = false ∧ f = 0 ∧ a = 0 ∧ b = 0 ∧ d = 0 ∧ l.length = 0) → errOf ⟨5, t, bs, n, st, nm, s, c, f, a, b, d, l⟩ = 7) := by
  have h1 : ¬ kindBad ⟨5, t, bs, n, st, nm, s, c, f, a, b, d, l⟩ := by simp [kindBad]
  have h2 : ¬ ((5 : Int) = 4 ∧ nameOk nm = false) := by simp
  have h3 : ¬ ∃ z ∈ nums ⟨5, t, bs, n, st, nm, s, c, f, a, b, d, l⟩, longI z := by simp [nums, hn]
  have h4 := only_5 t bs n st nm s c f a b d l
  refine ⟨fun h => errOf_0 h1 h2 h3 ?_, fun h => errOf_7 h1 h2 h3 (Or.inr fun e => h (h4.1 e))⟩
  rintro (⟨h5, _⟩ | h5)
  · exact absurd h5 (by simp)
  · exact h5 (h4.2 h)
theorem err_5l (t : ByteArray) (bs : List UInt8) (n st : Int) (nm : ByteArray) (s : Int) (c : Bool) (f a b d : Int) (l : List (Int × Int)) (hn : longI n) : errOf ⟨5, t, bs, n, st, nm, s, c, f, a, b, d, l⟩ = 1 := errOf_1 (by simp [kindBad]) (by simp) ⟨n, by simp [nums], hn⟩

set_option maxHeartbeats 8000000 in
set_option maxRecDepth 100000 in
theorem refuse_5 (t : ByteArray) (bs : List UInt8) (n st : Int) (nm : ByteArray) (s : Int) (c : Bool) (f a b d : Int) (l : List (Int × Int)) (ba ca : Option Addr) (bc cc : Nat) (w : World) (er : Int) (hn : ¬ longI n)
    (he : ((t.toList = [] ∧ bs.length = 0 ∧ st = 0 ∧ nm.toList = [] ∧ s = 0 ∧ c = false ∧ f = 0 ∧ a = 0 ∧ b = 0 ∧ d = 0 ∧ l.length = 0) → er = 0) ∧ (¬ (t.toList = [] ∧ bs.length = 0 ∧ st = 0 ∧ nm.toList = [] ∧ s = 0 ∧ c = false ∧ f = 0 ∧ a = 0 ∧ b = 0 ∧ d = 0 ∧ l.length = 0) → er = 7)) :
    Calls Tryz.prog 38 #[Ev.val ⟨5, t, bs, n, st, nm, s, c, f, a, b, d, l⟩ (.slice ba bs.length bc) (.slice ca l.length cc)] w (RefIs er w) := by
  unfold Ev.val evCells
  simp only
  have E := Lib.hid he
  clear he
  generalize bs.length = bl at *
  generalize l.length = ll at *
  go_enter Tryz.func38, Tryz.ntmps38
  go_wp2_with fail
  refine (rlong_any _ _).mono ?_
  rintro e w1 ⟨rfl, hw⟩
  obtain rfl := hw.symm
  rw [decide_eq_false hn]
  clear hn
  go_wp2_with fail
  all_goals
    go_ret
    refine ⟨?_, ref_below _ _ _⟩
    have E := E.out
    go_light
    by_cases hC : (t.toList = [] ∧ bl = 0 ∧ st = 0 ∧ nm.toList = [] ∧ s = 0 ∧ c = false ∧ f = 0 ∧ a = 0 ∧ b = 0 ∧ d = 0 ∧ ll = 0)
    · rw [E.1 hC]
      first | rfl | (exfalso; clear E; simp_all)
    · rw [E.2 hC]
      first | rfl | (exfalso; clear E; simp_all)

set_option maxHeartbeats 8000000 in
set_option maxRecDepth 100000 in
theorem refuse_5l (t : ByteArray) (bs : List UInt8) (n st : Int) (nm : ByteArray) (s : Int) (c : Bool) (f a b d : Int) (l : List (Int × Int)) (ba ca : Option Addr) (bc cc : Nat) (w : World) (hn : longI n) :
    Calls Tryz.prog 38 #[Ev.val ⟨5, t, bs, n, st, nm, s, c, f, a, b, d, l⟩ (.slice ba bs.length bc) (.slice ca l.length cc)] w (RefIs 1 w) := by
  unfold Ev.val evCells
  simp only
  generalize bs.length = bl at *
  generalize l.length = ll at *
  go_enter Tryz.func38, Tryz.ntmps38
  go_wp2_with fail
  refine (rlong_any _ _).mono ?_
  rintro e w1 ⟨rfl, hw⟩
  obtain rfl := hw.symm
  rw [decide_eq_true hn]
  go_wp2_with fail
  all_goals (go_ret; exact ⟨rfl, ref_below _ _ _⟩)
end Go.Proofs.YtobaoekibnloiaaGreatDoor
/- The reference's refuse, of any event whose place is not long if its period is closed. -/
namespace Go.Proofs.YtobaoekibnloiaaGreatDoor
open Go Go.RowKit

set_option maxHeartbeats 4000000 in
set_option maxRecDepth 100000 in
theorem refuse_kind (x : Ev) (bv cv : Value) (w : World) (hp : EvParts 0 w x bv cv) (h : kindBad x) :
    Calls Tryz.prog 38 #[x.val bv cv] w (RefIs 4 w) := by
  obtain ⟨ba, bc, rfl, hz1⟩ := hp.bytes
  obtain ⟨ca, cc, rfl, hz2⟩ := hp.bias
  clear hp hz1 hz2
  unfold kindBad at h
  unfold Ev.val evCells
  rcases h with h | h | ⟨h4, h | h⟩
  · go_enter Tryz.func38, Tryz.ntmps38
    go_wp2_with fail
    all_goals (go_ret; exact ⟨rfl, (Below.refl _ _).alloc (Nat.le_refl _) _⟩)
  · have h1 : ¬ x.kind < 1 := by omega
    go_enter Tryz.func38, Tryz.ntmps38
    go_wp2_with fail
    all_goals (go_ret; exact ⟨rfl, (Below.refl _ _).alloc (Nat.le_refl _) _⟩)
  · rw [h4]
    clear h4
    go_enter Tryz.func38, Tryz.ntmps38
    go_wp2_with fail
    all_goals (go_ret; exact ⟨rfl, (Below.refl _ _).alloc (Nat.le_refl _) _⟩)
  · rw [h4]
    have h1 : ¬ x.station < 1 := by omega
    clear h4
    go_enter Tryz.func38, Tryz.ntmps38
    go_wp2_with fail
    all_goals (go_ret; exact ⟨rfl, (Below.refl _ _).alloc (Nat.le_refl _) _⟩)
set_option maxHeartbeats 4000000 in
set_option maxRecDepth 100000 in
theorem refuse_name (x : Ev) (bv cv : Value) (w : World) (hp : EvParts 0 w x bv cv) (h4 : x.kind = 4) (g1 : 1 ≤ x.station) (g2 : x.station ≤ 3) (hn : nameOk x.name = false) :
    Calls Tryz.prog 38 #[x.val bv cv] w (RefIs 3 w) := by
  have hnm := hp.ok.name
  obtain ⟨ba, bc, rfl, hz1⟩ := hp.bytes
  obtain ⟨ca, cc, rfl, hz2⟩ := hp.bias
  have g3 : ¬ x.station < 1 := by omega
  have g4 : ¬ 3 < x.station := by omega
  clear hp hz1 hz2 g1 g2
  unfold Ev.val evCells
  rw [h4]
  clear h4
  go_enter Tryz.func38, Tryz.ntmps38
  go_wp2_with fail
  refine (rname_any _ hnm _).mono ?_
  rintro e w1 ⟨rfl, hb1⟩
  have HB := Lib.hid (below_then (ref_below w _ _) hb1)
  rw [hn]
  clear hb1 hnm hn
  go_wp2_with fail
  go_ret
  exact ⟨rfl, HB.out⟩
theorem no_long_place {x : Ev} (h : x.closed = true → ¬ longI x.face ∧ ¬ longI x.pa ∧ ¬ longI x.pb ∧ ¬ longI x.pc) (h4 : x.kind = 4) : (∃ z ∈ [x.start, x.face, x.pa, x.pb, x.pc] ++ biasN x.bias, longI z) ↔ ∃ z ∈ nums x, longI z := by
  unfold nums
  rw [if_neg (by omega), if_pos h4]
  cases hc : x.closed with
  | false => rw [if_neg (by simp)]; rfl
  | true =>
    obtain ⟨a, b, c, d⟩ := h hc
    rw [if_pos rfl]
    constructor
    · rintro ⟨z, hz, hl⟩
      refine ⟨z, ?_, hl⟩
      simp only [List.cons_append, List.nil_append, List.mem_cons] at hz
      rcases hz with rfl | rfl | rfl | rfl | rfl | hz
      · simp
      · exact absurd hl a
      · exact absurd hl b
      · exact absurd hl c
      · exact absurd hl d
      · exact List.mem_append_right _ hz
    · rintro ⟨z, hz, hl⟩
      refine ⟨z, ?_, hl⟩
      rcases List.mem_append.1 hz with hz | hz
      · simp at hz; simp [hz]
      · exact List.mem_append_right _ hz
theorem only_4 (t : ByteArray) (bs : List UInt8) (n st : Int) (nm : ByteArray) (s : Int) (c : Bool) (f a b d : Int) (l : List (Int × Int)) : ((⟨4, t, bs, n, st, nm, s, c, f, a, b, d, l⟩ : Ev) = only ⟨4, t, bs, n, st, nm, s, c, f, a, b, d, l⟩) ↔ (t.toList = [] ∧ bs.length = 0 ∧ n = 0) := by
  simp [only, nil_list]
theorem refuse_any (x : Ev) (bv cv : Value) (w : World) (hp : EvParts 0 w x bv cv) (hpl : x.closed = true → ¬ longI x.face ∧ ¬ longI x.pa ∧ ¬ longI x.pb ∧ ¬ longI x.pc) :
    Calls Tryz.prog 38 #[x.val bv cv] w (RefIs (errOf x) w) := by
  by_cases hk : kindBad x
  · rw [errOf_4 hk]; exact refuse_kind x bv cv w hp hk
  by_cases hn : x.kind = 4 ∧ nameOk x.name = false
  · rw [errOf_3 hk hn]
    unfold kindBad at hk
    exact refuse_name x bv cv w hp hn.1 (by omega) (by omega) hn.2
  have hbi := hp.bias
  have hok := hp.ok
  have hnl := @no_long_place x hpl
  obtain ⟨ba, bc, rfl, _⟩ := hp.bytes
  obtain ⟨ca, cc, rfl, _⟩ := hp.bias
  clear hp hpl
  have e1 := @errOf_1 x hk hn
  have e7 := @errOf_7 x hk hn
  have e0 := @errOf_0 x hk hn
  obtain ⟨k, t, bs, n, st, nm, s, c, f, a, b, d, l⟩ := x
  unfold kindBad at hk
  simp only at hk hn hbi hok hnl
  have hk6 : k = 1 ∨ k = 2 ∨ k = 3 ∨ k = 4 ∨ k = 5 ∨ k = 6 := by omega
  rcases hk6 with rfl | rfl | rfl | rfl | rfl | rfl
  · exact refuse_1 _ _ _ _ _ _ _ _ _ _ _ _ _ _ _ _ _ _ (err_1 t bs n st nm s c f a b d l)
  · exact refuse_2 _ _ _ _ _ _ _ _ _ _ _ _ _ _ _ _ _ _ (err_2 t bs n st nm s c f a b d l)
  · by_cases hl : longI n
    · rw [err_3l t bs n st nm s c f a b d l hl]; exact refuse_3l _ _ _ _ _ _ _ _ _ _ _ _ _ _ _ _ _ hl
    · exact refuse_3 _ _ _ _ _ _ _ _ _ _ _ _ _ _ _ _ _ _ hl (err_3 t bs n st nm s c f a b d l hl)
  · have hnm : nameOk nm = true := by
      cases hq : nameOk nm with
      | true => rfl
      | false => exact absurd ⟨rfl, hq⟩ hn
    refine refuse_st t bs n st nm s c f a b d l ba ca bc cc w hbi hok.name hnm (by omega) (by omega) _ ⟨fun h => e1 ((hnl rfl).1 h), fun h => ⟨fun hg => e0 (fun h' => h ((hnl rfl).2 h')) ?_, fun hg => e7 (fun h' => h ((hnl rfl).2 h')) ?_⟩⟩
    · rintro (⟨_, hc, hp⟩ | ho)
      · rcases hg.1 with hc' | hp'
        · rw [hc'] at hc; cases hc
        · exact hp hp'
      · exact ho ((only_4 t bs n st nm s c f a b d l).2 hg.2)
    · by_cases ho : t.toList = [] ∧ bs.length = 0 ∧ n = 0
      · refine Or.inl ⟨rfl, ?_, fun hp => hg ⟨Or.inr hp, ho⟩⟩
        cases c
        · exact absurd ⟨Or.inl rfl, ho⟩ hg
        · rfl
      · exact Or.inr fun e => ho ((only_4 t bs n st nm s c f a b d l).1 e)
  · by_cases hl : longI n
    · rw [err_5l t bs n st nm s c f a b d l hl]; exact refuse_5l _ _ _ _ _ _ _ _ _ _ _ _ _ _ _ _ _ hl
    · exact refuse_5 _ _ _ _ _ _ _ _ _ _ _ _ _ _ _ _ _ _ hl (err_5 t bs n st nm s c f a b d l hl)
  · exact refuse_6 _ _ _ _ _ _ _ _ _ _ _ _ _ _ _ _ _ _ (err_6 t bs n st nm s c f a b d l)
end Go.Proofs.YtobaoekibnloiaaGreatDoor
