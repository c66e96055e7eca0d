/- Validate, Find, Without of element and of its reference, on lists of readings. No conditions but a bound that every list in memory meets. -/
import Derived.Test.YtanfbfmchhbgfaaDoorList
namespace Go.Proofs.YtanfbfmchhbgfaaDoor
open Go Go.RowKit

/-- v is a slice that reads as these readings. -/
def RdsAt (w : World) (v : Value) (rs : List (Int × Int)) : Prop :=
  ∃ (a : Option Addr) (len cap : Nat), v = .slice a len cap ∧ rs.length = len ∧ len ≤ 1000000000000000 ∧
    (∀ i, i < len → ∃ ab ao : Nat, a = some ⟨ab, ao, none⟩ ∧ w.cell? ⟨ab, ao + i * 2, none⟩ = some (.int .i64 (rs.getD i (0, 0)).1) ∧ w.cell? ⟨ab, ao + i * 2 + 1, none⟩ = some (.int .i64 (rs.getD i (0, 0)).2))
theorem RdsAt.below {w w' : World} {v : Value} {rs : List (Int × Int)} (h : RdsAt w v rs) (hb : Below w.heap.size w w') : RdsAt w' v rs := by
  obtain ⟨a, len, cap, h1, h2, h3, h4⟩ := h
  refine ⟨a, len, cap, h1, h2, h3, fun i hi => ?_⟩
  obtain ⟨ab, ao, e, q0, q1⟩ := h4 i hi
  exact ⟨ab, ao, e, cell_then hb q0, cell_then hb q1⟩
theorem Own.rds {w : World} {base : Nat} {v : Value} {rs : List (Int × Int)} (h : Own w base v rs) (hn : rs.length ≤ 1000000000000000) : RdsAt w v rs := by
  have h' := h
  obtain ⟨h1, h2⟩ := h
  rcases h2 with ⟨e, h0⟩ | ⟨g, cap, cur, e, _⟩
  · exact ⟨none, 0, 0, e, h0, by omega, fun i hi => by omega⟩
  · refine ⟨_, rs.length, cap, e, rfl, hn, fun i hi => ⟨g, 0, rfl, ?_, ?_⟩⟩
    · rw [e] at h'
      have := World.ownsRow.cellAt h' (i * 2) (by omega)
      rw [Nat.zero_add, this, show i * 2 = 2 * i by omega, (rcells_at rs i hi).1]
      simp [List.getD_eq_getElem?_getD, hi]
    · rw [e] at h'
      have := World.ownsRow.cellAt h' (i * 2 + 1) (by omega)
      rw [Nat.zero_add, this, show i * 2 + 1 = 2 * i + 1 by omega, (rcells_at rs i hi).2]
      simp [List.getD_eq_getElem?_getD, hi]

/-- The place of the first reading that p takes, -1 if there is none. -/
def idxP (p : Int × Int → Bool) (rs : List (Int × Int)) : Int := match rs.findIdx? p with | some i => i | none => -1

theorem getD_mem {rs : List (Int × Int)} {k : Nat} (h : k < rs.length) : rs.getD k (0, 0) = rs[k] := by simp [List.getD_eq_getElem?_getD, h]

set_option maxRecDepth 100000 in
theorem indexFunc_V (cap : Value) (p : Int × Int → Bool) (I : World → Prop) (hI : ∀ w w', I w → Below w.heap.size w w' → I w')
    (hcall : ∀ w r, I w → Calls Tryd.prog 43 #[.agg #[.int .i64 r.1, .int .i64 r.2], cap] w fun e w' => e = .returned (.bool (p r)) ∧ Below w.heap.size w w')
    (v : Value) (rs : List (Int × Int)) (w : World) (hv : RdsAt w v rs) (h0 : I w) :
    Calls Tryd.prog 45 #[v, .func (.func 43) #[] #[cap]] w fun e w' => e = .returned (.int .i64 (idxP p rs)) ∧ Below w.heap.size w w' := by
  obtain ⟨a, len, cap', rfl, hlen, hmax, hel⟩ := hv
  have HI := Lib.hid hI
  have Hcall := Lib.hid hcall
  have Hlen := Lib.hid hlen
  have hel0 : Hid (∀ i, i < len → ∃ ab ao : Nat, a = some ⟨ab, ao, none⟩ ∧ w.cell? ⟨ab, ao + i * 2, none⟩ = some (.int .i64 (rs.getD i (0, 0)).1) ∧ w.cell? ⟨ab, ao + i * 2 + 1, none⟩ = some (.int .i64 (rs.getD i (0, 0)).2)) := hel
  have H0 := Lib.hid h0
  clear hI hcall hlen hel h0
  go_enter Tryd.func45, Tryd.ntmps45
  go_wp2_with fail
  go_loopw [8] (fun x wr => ∃ k : Nat, k ≤ len ∧ x = .int .i64 k ∧ Hid (∀ i, i < k → p (rs.getD i (0, 0)) = false) ∧ Hid (I wr) ∧ Below w.heap.size w wr) (fun x _ => (len - intOf x).toNat)
  case atStart => exact ⟨0, by omega, rfl, by simp [Hid], H0, Below.refl _ _⟩
  case round =>
    obtain ⟨k, hk, rfl, hno, hIr, hB⟩ := hrel
    by_cases hlt : k < len
    · obtain ⟨ab, ao, rfl, q0, q1⟩ := hel0.out k hlt
      have c0 := cell_then hB q0
      have c1 := cell_then hB q1
      have Hlt : Hid (k < rs.length) := by have := Hlen.out; unfold Hid; omega
      clear q0 q1
      generalize hr : rs.getD k (0, 0) = r at *
      obtain ⟨r0, r1⟩ := r
      have Hr := Lib.hid hr
      clear hr
      have hc := Hcall.out wr (r0, r1) hIr.out
      have Hc := Lib.hid hc
      clear hc
      simp only at c0 c1
      by_cases hp : p (r0, r1) = true
      · rw [hp] at Hc
        go_wp2_with fail
        refine Hc.out.mono ?_
        rintro e w1 ⟨rfl, hb⟩
        go_wp2_with fail
        go_ret
        refine ⟨?_, below_then hB hb⟩
        have : idxP p rs = k := by
          have hf : rs.findIdx? p = some k := by
            rw [List.findIdx?_eq_some_iff_getElem]
            refine ⟨Hlt.out, ?_, fun j hj => ?_⟩
            · rw [← getD_mem, Hr.out]; exact hp
            · rw [← getD_mem, hno.out j hj]; simp
          unfold idxP; rw [hf]
        rw [this]; rfl
      · have hp' : p (r0, r1) = false := by simpa using hp
        rw [hp'] at Hc
        go_wp2_with fail
        refine Hc.out.mono ?_
        rintro e w1 ⟨rfl, hb⟩
        have hB1 := below_then hB hb
        have hI1 := Lib.hid (HI.out _ _ hIr.out hb)
        clear hb hp
        go_wp2_with fail
        go_roundw
        case rel =>
          refine ⟨k + 1, by omega, by go_num, fun i hi => ?_, hI1, hB1⟩
          rcases Nat.lt_or_ge i k with h | h
          · exact hno.out i h
          · obtain rfl : i = k := by omega
            rw [Hr.out]; exact hp'
        case measure => simp [intOf]; omega
    · obtain rfl : k = len := by omega
      go_wp2_with fail
      go_ret
      refine ⟨?_, hB⟩
      have : idxP p rs = -1 := by
        have hf : rs.findIdx? p = none := by
          rw [List.findIdx?_eq_none_iff]
          intro x hx
          obtain ⟨i, hi, rfl⟩ := List.getElem_of_mem hx
          rw [← getD_mem hi]; exact hno.out i (by have := Hlen.out; omega)
        unfold idxP; rw [hf]
      rw [this]; rfl

set_option maxRecDepth 100000 in
theorem indexFunc_F (cap : Value) (p : Int × Int → Bool) (I : World → Prop) (hI : ∀ w w', I w → Below w.heap.size w w' → I w')
    (hcall : ∀ w r, I w → Calls Tryd.prog 46 #[.agg #[.int .i64 r.1, .int .i64 r.2], cap] w fun e w' => e = .returned (.bool (p r)) ∧ Below w.heap.size w w')
    (v : Value) (rs : List (Int × Int)) (w : World) (hv : RdsAt w v rs) (h0 : I w) :
    Calls Tryd.prog 45 #[v, .func (.func 46) #[] #[cap]] w fun e w' => e = .returned (.int .i64 (idxP p rs)) ∧ Below w.heap.size w w' := by
  obtain ⟨a, len, cap', rfl, hlen, hmax, hel⟩ := hv
  have HI := Lib.hid hI
  have Hcall := Lib.hid hcall
  have Hlen := Lib.hid hlen
  have hel0 : Hid (∀ i, i < len → ∃ ab ao : Nat, a = some ⟨ab, ao, none⟩ ∧ w.cell? ⟨ab, ao + i * 2, none⟩ = some (.int .i64 (rs.getD i (0, 0)).1) ∧ w.cell? ⟨ab, ao + i * 2 + 1, none⟩ = some (.int .i64 (rs.getD i (0, 0)).2)) := hel
  have H0 := Lib.hid h0
  clear hI hcall hlen hel h0
  go_enter Tryd.func45, Tryd.ntmps45
  go_wp2_with fail
  go_loopw [8] (fun x wr => ∃ k : Nat, k ≤ len ∧ x = .int .i64 k ∧ Hid (∀ i, i < k → p (rs.getD i (0, 0)) = false) ∧ Hid (I wr) ∧ Below w.heap.size w wr) (fun x _ => (len - intOf x).toNat)
  case atStart => exact ⟨0, by omega, rfl, by simp [Hid], H0, Below.refl _ _⟩
  case round =>
    obtain ⟨k, hk, rfl, hno, hIr, hB⟩ := hrel
    by_cases hlt : k < len
    · obtain ⟨ab, ao, rfl, q0, q1⟩ := hel0.out k hlt
      have c0 := cell_then hB q0
      have c1 := cell_then hB q1
      have Hlt : Hid (k < rs.length) := by have := Hlen.out; unfold Hid; omega
      clear q0 q1
      generalize hr : rs.getD k (0, 0) = r at *
      obtain ⟨r0, r1⟩ := r
      have Hr := Lib.hid hr
      clear hr
      have hc := Hcall.out wr (r0, r1) hIr.out
      have Hc := Lib.hid hc
      clear hc
      simp only at c0 c1
      by_cases hp : p (r0, r1) = true
      · rw [hp] at Hc
        go_wp2_with fail
        refine Hc.out.mono ?_
        rintro e w1 ⟨rfl, hb⟩
        go_wp2_with fail
        go_ret
        refine ⟨?_, below_then hB hb⟩
        have : idxP p rs = k := by
          have hf : rs.findIdx? p = some k := by
            rw [List.findIdx?_eq_some_iff_getElem]
            refine ⟨Hlt.out, ?_, fun j hj => ?_⟩
            · rw [← getD_mem, Hr.out]; exact hp
            · rw [← getD_mem, hno.out j hj]; simp
          unfold idxP; rw [hf]
        rw [this]; rfl
      · have hp' : p (r0, r1) = false := by simpa using hp
        rw [hp'] at Hc
        go_wp2_with fail
        refine Hc.out.mono ?_
        rintro e w1 ⟨rfl, hb⟩
        have hB1 := below_then hB hb
        have hI1 := Lib.hid (HI.out _ _ hIr.out hb)
        clear hb hp
        go_wp2_with fail
        go_roundw
        case rel =>
          refine ⟨k + 1, by omega, by go_num, fun i hi => ?_, hI1, hB1⟩
          rcases Nat.lt_or_ge i k with h | h
          · exact hno.out i h
          · obtain rfl : i = k := by omega
            rw [Hr.out]; exact hp'
        case measure => simp [intOf]; omega
    · obtain rfl : k = len := by omega
      go_wp2_with fail
      go_ret
      refine ⟨?_, hB⟩
      have : idxP p rs = -1 := by
        have hf : rs.findIdx? p = none := by
          rw [List.findIdx?_eq_none_iff]
          intro x hx
          obtain ⟨i, hi, rfl⟩ := List.getElem_of_mem hx
          rw [← getD_mem hi]; exact hno.out i (by have := Hlen.out; omega)
        unfold idxP; rw [hf]
      rw [this]; rfl
end Go.Proofs.YtanfbfmchhbgfaaDoor
