/- Validate of element returns what the plain function says. No conditions but a bound that every list in memory meets. -/
import Derived.Test.YtanfbfmchhbgfaaDoorVal
import Derived.Deep.RegionHeld3
namespace Go.Proofs.YtanfbfmchhbgfaaDoor
open Go Go.RowKit

def InvV (bb : Nat) (bad : Int) (w : World) : Prop := Glo w ∧ w.cell? ⟨bb, 0, none⟩ = some (.int .i64 bad)
theorem InvV.below {bb : Nat} {bad : Int} {w w' : World} (h : InvV bb bad w) (hb : Below w.heap.size w w') : InvV bb bad w' := ⟨h.1.below hb h.1.size, cell_then hb h.2⟩

theorem bad_any (e v bad : Int) (bb : Nat) (w : World) (h : InvV bb bad w) :
    Calls Tryd.prog 43 #[.agg #[.int .i64 e, .int .i64 v], .pointer (some ⟨bb, 0, none⟩)] w fun r w' => r = .returned (.bool (chk e v == bad)) ∧ Below w.heap.size w w' := by
  obtain ⟨hG, hc⟩ := h
  have hch := fun w1 (h : Glo w1) => check_any e v w1 h
  have Hch := Lib.hid hch
  have HG := Lib.hid hG
  have hbb : bb < w.heap.size := World.block_lt_of_cell? (a := ⟨bb, 0, none⟩) _ hc
  have hc0 : (w.alloc (.cells #[.int .i64 e, .int .i64 v] 23)).cell? ⟨bb, 0, none⟩ = some (.int .i64 bad) := by rw [World.cell?_alloc_old _ _ _ (by simp; omega)]; exact hc
  have h0 : (w.alloc (.cells #[.int .i64 e, .int .i64 v] 23)).cell? ⟨w.heap.size, 0, none⟩ = some (.int .i64 e) := by simp
  have h1 : (w.alloc (.cells #[.int .i64 e, .int .i64 v] 23)).cell? ⟨w.heap.size, 1, none⟩ = some (.int .i64 v) := by simp
  have hB0 : Below w.heap.size w (w.alloc (.cells #[.int .i64 e, .int .i64 v] 23)) := (Below.refl _ _).alloc (Nat.le_refl _) _
  have HG0 : Hid (Glo (w.alloc (.cells #[.int .i64 e, .int .i64 v] 23))) := hG.alloc _
  clear hch hG hc
  generalize chk e v = kk at *
  go_enter Tryd.func43, Tryd.ntmps43
  go_wp2_with fail
  generalize w.alloc (.cells #[.int .i64 e, .int .i64 v] 23) = w0 at *
  go_region_held3 (fun w' => w'.cell? ⟨w.heap.size, 0, none⟩ = some (.int .i64 e) ∧ w'.cell? ⟨w.heap.size, 1, none⟩ = some (.int .i64 v) ∧ w'.cell? ⟨bb, 0, none⟩ = some (.int .i64 bad) ∧ Glo w' ∧ Below w.heap.size w w')
    (first | exact ⟨h0, h1, hc0, HG0.out.drew, hB0.drew⟩ | (go_split_ands; exact ⟨cell_then hb (by assumption), cell_then hb (by assumption), cell_then hb (by assumption), Glo.below (by assumption) hb (Glo.size (by assumption)), below_then (by assumption) hb⟩))
    (first | (go_at_call 35; ((with_reducible refine (Hch.out _ HG0.out.drew).mono ?_); rintro e w' ⟨rfl, hb⟩)))
  go_wp2_with fail
  go_ret
  exact ⟨rfl, by obtain ⟨_, _, _, _, q⟩ := (by assumption : _ ∧ _ ∧ _ ∧ Glo _ ∧ Below _ _ _); exact q⟩

def hasE (bad : Int) (rs : List (Int × Int)) : Bool := rs.any fun r => chk r.1 r.2 == bad
theorem idxP_has (p : Int × Int → Bool) (rs : List (Int × Int)) : (decide (0 ≤ idxP p rs)) = rs.any p := by
  unfold idxP
  cases h : rs.findIdx? p with
  | none =>
    rw [List.findIdx?_eq_none_iff] at h
    have : rs.any p = false := by rw [List.any_eq_false]; intro x hx; simp [h x hx]
    rw [this]; rfl
  | some i =>
    rw [List.findIdx?_eq_some_iff_getElem] at h
    obtain ⟨hi, hp, _⟩ := h
    have : rs.any p = true := by rw [List.any_eq_true]; exact ⟨_, List.getElem_mem hi, hp⟩
    rw [this]; simp
theorem idxP_ge (p : Int × Int → Bool) (rs : List (Int × Int)) : -1 ≤ idxP p rs := by
  unfold idxP; split <;> omega

theorem containsFunc_V (bad : Int) (bb : Nat) (v : Value) (rs : List (Int × Int)) (w : World) (hv : RdsAt w v rs) (h : InvV bb bad w) :
    Calls Tryd.prog 42 #[v, .func (.func 43) #[] #[.pointer (some ⟨bb, 0, none⟩)]] w fun e w' => e = .returned (.bool (hasE bad rs)) ∧ Below w.heap.size w w' := by
  have hi := indexFunc_V (.pointer (some ⟨bb, 0, none⟩)) (fun r => chk r.1 r.2 == bad) (InvV bb bad) (fun w w' h hb => h.below hb) (fun w r h => bad_any r.1 r.2 bad bb w h) v rs w hv h
  have Hi := Lib.hid hi
  have hh := idxP_has (fun r => chk r.1 r.2 == bad) rs
  have Hh : Hid (hasE bad rs = decide (0 ≤ idxP (fun r => chk r.1 r.2 == bad) rs)) := hh.symm
  generalize idxP (fun r => chk r.1 r.2 == bad) rs = ix at *
  clear hi hv h hh
  obtain ⟨q, hq⟩ : ∃ q, decide (0 ≤ ix) = q := ⟨_, rfl⟩
  rw [hq] at Hh
  go_enter Tryd.func42, Tryd.ntmps42
  go_wp2_with fail
  refine Hi.out.mono ?_
  rintro r w' ⟨rfl, hb⟩
  go_wp2_with fail
  go_ret
  exact ⟨by rw [Hh.out]; rfl, hb⟩

def InvH (bl : Nat) (v : Value) (rs : List (Int × Int)) (w : World) : Prop := Glo w ∧ w.cell? ⟨bl, 0, none⟩ = some v ∧ RdsAt w v rs
theorem InvH.below {bl : Nat} {v : Value} {rs : List (Int × Int)} {w w' : World} (h : InvH bl v rs w) (hb : Below w.heap.size w w') : InvH bl v rs w' := ⟨h.1.below hb h.1.size, cell_then hb h.2.1, h.2.2.below hb⟩

theorem has_any (bad : Int) (bl : Nat) (v : Value) (rs : List (Int × Int)) (w : World) (h : InvH bl v rs w) :
    Calls Tryd.prog 41 #[.int .i64 bad, .pointer (some ⟨bl, 0, none⟩)] w fun e w' => e = .returned (.bool (hasE bad rs)) ∧ Below w.heap.size w w' := by
  obtain ⟨hG, hc, hv⟩ := h
  have hmf : ∀ (fn : Fn) (first cap : Array Value) (w : World), (Instr.makeFunc fn first cap).run Tryd.prog w = .ok (.func fn first cap) w := fun _ _ _ _ => rfl
  have hB : Below w.heap.size w (w.alloc (.cells #[.int .i64 bad] 30)) := (Below.refl _ _).alloc (Nat.le_refl _) _
  have hct := containsFunc_V bad w.heap.size v rs (w.alloc (.cells #[.int .i64 bad] 30)) (hv.below hB) ⟨hG.alloc _, by simp⟩
  have Hct := Lib.hid hct
  have hbl : bl < w.heap.size := World.block_lt_of_cell? (a := ⟨bl, 0, none⟩) _ hc
  obtain ⟨a, len, cap, rfl, _⟩ := hv
  clear hct hG
  go_enter Tryd.func41, Tryd.ntmps41
  go_wp2_with fail
  refine Hct.out.mono ?_
  rintro r w' ⟨rfl, hb⟩
  go_wp2_with fail
  go_ret
  exact ⟨rfl, below_then hB hb⟩

/-- Strictly ascending elements. -/
def ascB (rs : List (Int × Int)) : Bool := (List.range rs.length).all fun i => i == 0 || decide ((rs.getD (i - 1) (0, 0)).1 < (rs.getD i (0, 0)).1)
def valE (rs : List (Int × Int)) : Int := if hasE 4 rs then 4 else if hasE 1 rs then 1 else if ascB rs then 0 else 8
theorem ascB_true {rs : List (Int × Int)} (h : ∀ i, 1 ≤ i → i < rs.length → (rs.getD (i - 1) (0, 0)).1 < (rs.getD i (0, 0)).1) : ascB rs = true := by
  unfold ascB; rw [List.all_eq_true]; intro i hi
  rw [List.mem_range] at hi
  by_cases h0 : i = 0
  · simp [h0]
  · rw [Bool.or_eq_true, decide_eq_true_eq]; exact Or.inr (h i (by omega) hi)
theorem ascB_false {rs : List (Int × Int)} {i : Nat} (h1 : 1 ≤ i) (h2 : i < rs.length) (h : ¬ (rs.getD (i - 1) (0, 0)).1 < (rs.getD i (0, 0)).1) : ascB rs = false := by
  unfold ascB; rw [List.all_eq_false]
  refine ⟨i, by simpa using h2, ?_⟩
  intro hq
  rw [Bool.or_eq_true, decide_eq_true_eq, beq_iff_eq] at hq
  rcases hq with hq | hq
  · omega
  · exact h hq

theorem RdsAt.at {w : World} {a : Option Addr} {len cap : Nat} {rs : List (Int × Int)} (h : RdsAt w (.slice a len cap) rs) {i : Nat} (hi : i < len) :
    ∃ ab ao : Nat, a = some ⟨ab, ao, none⟩ ∧ w.cell? ⟨ab, ao + i * 2, none⟩ = some (.int .i64 (rs.getD i (0, 0)).1) ∧ w.cell? ⟨ab, ao + i * 2 + 1, none⟩ = some (.int .i64 (rs.getD i (0, 0)).2) := by
  obtain ⟨a', len', cap', e, _, _, hel⟩ := h
  obtain ⟨rfl, rfl, rfl⟩ : a = a' ∧ len = len' ∧ cap = cap' := by simpa using e
  exact hel i hi

set_option maxRecDepth 100000 in
set_option maxHeartbeats 1000000 in
theorem validate_any (v : Value) (rs : List (Int × Int)) (w : World) (hG : Glo w) (hv : RdsAt w v rs) :
    Calls Tryd.prog 21 #[v] w fun e w' => e = .returned (.int .i64 (valE rs)) ∧ Below w.heap.size w w' := by
  have hmf : ∀ (fn : Fn) (first cap : Array Value) (w : World), (Instr.makeFunc fn first cap).run Tryd.prog w = .ok (.func fn first cap) w := fun _ _ _ _ => rfl
  have hB : Below w.heap.size w (w.alloc (.cells #[v] 45)) := (Below.refl _ _).alloc (Nat.le_refl _) _
  have hI : InvH w.heap.size v rs (w.alloc (.cells #[v] 45)) := ⟨hG.alloc _, by simp, hv.below hB⟩
  have hh4 := fun w1 (h : InvH w.heap.size v rs w1) => has_any 4 w.heap.size v rs w1 h
  have hh1 := fun w1 (h : InvH w.heap.size v rs w1) => has_any 1 w.heap.size v rs w1 h
  have HI := Lib.hid hI
  have Hh4 := Lib.hid hh4
  have Hh1 := Lib.hid hh1
  have Hval : Hid (valE rs = if hasE 4 rs then 4 else if hasE 1 rs then 1 else if ascB rs then 0 else 8) := rfl
  have HB := Lib.hid hB
  obtain ⟨a, len, cap, rfl, hlen, hmax, _⟩ := hv
  have Hlen := Lib.hid hlen
  generalize hasE 4 rs = h4 at *
  generalize hasE 1 rs = h1 at *
  clear hI hh4 hh1 hB hG hlen
  cases h4
  · cases h1
    · go_enter Tryd.func21, Tryd.ntmps21
      go_wp2_with fail
      refine (Hh4.out _ HI.out).mono ?_
      rintro r w1 ⟨rfl, hb1⟩
      have HI1 := Lib.hid (HI.out.below hb1)
      have HB1 := Lib.hid (below_then HB.out hb1)
      clear hb1
      go_wp2_with fail
      refine (Hh1.out _ HI1.out).mono ?_
      rintro r w2 ⟨rfl, hb2⟩
      have HI2 := Lib.hid (HI1.out.below hb2)
      have HB2 := Lib.hid (below_then HB1.out hb2)
      clear hb2
      go_wp2_with fail
      go_loopw [4] (fun x wr => ∃ m : Nat, (m + 1 ≤ len ∨ m = 0) ∧ x = .int .i64 ((m : Int) + 1) ∧ Hid (∀ i, 1 ≤ i → i < m + 1 → (rs.getD (i - 1) (0, 0)).1 < (rs.getD i (0, 0)).1) ∧ Hid (InvH w.heap.size (.slice a len cap) rs wr) ∧ Below w.heap.size w wr) (fun x _ => (len + 1 - intOf x).toNat)
      case atStart => exact ⟨0, by omega, rfl, fun i h1 h2 => by omega, HI2, HB2.out⟩
      case round =>
        obtain ⟨m, hk2, rfl, hasc, hIr, hBr⟩ := hrel
        have hbox := hIr.out.2.1
        by_cases hlt : m + 1 < len
        · obtain ⟨ab, ao, rfl, c0, _⟩ := hIr.out.2.2.at (i := m) (by omega)
          obtain ⟨ab', ao', e', c1, _⟩ := hIr.out.2.2.at (i := m + 1) hlt
          obtain ⟨rfl, rfl⟩ : ab = ab' ∧ ao = ao' := by simpa using e'
          have hstep : (rs.getD m (0, 0)).1 < (rs.getD (m + 1) (0, 0)).1 ∨ ¬ (rs.getD m (0, 0)).1 < (rs.getD (m + 1) (0, 0)).1 := Decidable.em _
          have Hx : Hid (∃ x y, (rs.getD m (0, 0)).1 = x ∧ (rs.getD (m + 1) (0, 0)).1 = y) := ⟨_, _, rfl, rfl⟩
          obtain ⟨x, y, hx, hy⟩ := Hx.out
          rw [hx] at c0
          rw [hy] at c1
          rw [hx, hy] at hstep
          have HX := Lib.hid hx
          have HY := Lib.hid hy
          clear hx hy Hx e'
          have e1 : IntKind.i64.wrap (m : Int) = m := IntWalk.i64_in _ (by omega)
          have e2 : (0 : Int) ≤ (m : Int) + 1 := by omega
          have e3 : (m : Int) + 1 < len := by omega
          have e4 : (m : Int) < len := by omega
          have e5 : ((m : Int) + 1).toNat = m + 1 := by omega
          rcases hstep with hstep | hstep
          · go_wp2_with fail
            go_quiet (fail)
            clear e1 e2 e3 e4 e5
            go_wp2_with fail
            go_roundw
            case rel =>
              refine ⟨m + 1, by omega, by go_num, fun i h1 h2 => ?_, hIr.out.below (bdrewN (Below.refl _ _) _), bdrewN hBr _⟩
              · rcases Nat.lt_or_ge i (m + 1) with q | q
                · exact hasc.out i h1 q
                · obtain rfl : i = m + 1 := by omega
                  rw [Nat.add_sub_cancel, HX.out, HY.out]; exact hstep
            case measure => simp [intOf]; omega
          · have Ha := Lib.hid (ascB_false (rs := rs) (i := m + 1) (by omega) (by have := Hlen.out; omega) (by rw [Nat.add_sub_cancel, HX.out, HY.out]; exact hstep))
            go_wp2_with fail
            go_quiet (fail)
            clear e1 e2 e3 e4 e5
            go_wp2_with fail
            go_ret
            exact ⟨by rw [Hval.out, Ha.out]; rfl, bdrewN hBr _⟩
        · have Ha := Lib.hid (ascB_true (rs := rs) (fun i h1 h2 => hasc.out i h1 (by have := Hlen.out; omega)))
          go_wp2_with fail
          go_ret
          exact ⟨by rw [Hval.out, Ha.out]; rfl, hBr⟩
    · go_enter Tryd.func21, Tryd.ntmps21
      go_wp2_with fail
      refine (Hh4.out _ HI.out).mono ?_
      rintro r w1 ⟨rfl, hb1⟩
      have HI1 := Lib.hid (HI.out.below hb1)
      have HB1 := Lib.hid (below_then HB.out hb1)
      clear hb1
      go_wp2_with fail
      refine (Hh1.out _ HI1.out).mono ?_
      rintro r w2 ⟨rfl, hb2⟩
      have HB2 := Lib.hid (below_then HB1.out hb2)
      clear hb2
      go_wp2_with fail
      go_ret
      exact ⟨by rw [Hval.out]; rfl, HB2.out⟩
  · go_enter Tryd.func21, Tryd.ntmps21
    go_wp2_with fail
    refine (Hh4.out _ HI.out).mono ?_
    rintro r w1 ⟨rfl, hb1⟩
    have HB1 := Lib.hid (below_then HB.out hb1)
    clear hb1
    go_wp2_with fail
    go_ret
    exact ⟨by rw [Hval.out]; rfl, HB1.out⟩
end Go.Proofs.YtanfbfmchhbgfaaDoor
