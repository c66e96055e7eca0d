/- Without and Find of element, and In of synoptickeep, return what their plain counterparts say. No conditions but a bound that every list in memory meets. -/
import Derived.Test.YtanfbfmchhbgfaaDoorVal2
namespace Go.Proofs.YtanfbfmchhbgfaaDoor
open Go Go.RowKit

/-- v is a slice that reads as these ints. -/
def IntsR (w : World) (v : Value) (zs : List Int) : Prop :=
  ∃ (a : Option Addr) (len cap : Nat), v = .slice a len cap ∧ zs.length = len ∧ len ≤ 1000000000000000 ∧ (a = none → cap = 0) ∧
    (∀ i, i < len → ∃ ab ao : Nat, a = some ⟨ab, ao, none⟩ ∧ w.cell? ⟨ab, ao + i, none⟩ = some (.int .i64 (zs.getD i 0)))
theorem IntsR.below {w w' : World} {v : Value} {zs : List Int} (h : IntsR w v zs) (hb : Below w.heap.size w w') : IntsR w' v zs := by
  obtain ⟨a, len, cap, h1, h2, h3, hn, h4⟩ := h
  refine ⟨a, len, cap, h1, h2, h3, hn, fun i hi => ?_⟩
  obtain ⟨ab, ao, e, q⟩ := h4 i hi
  exact ⟨ab, ao, e, cell_then hb q⟩

theorem contains_any (v : Value) (zs : List Int) (x : Int) (w : World) (h : IntsR w v zs) :
    Calls Tryd.prog 47 #[v, .int .i64 x] w fun e w' => e = .returned (.bool (zs.contains x)) ∧ w' = w := by
  obtain ⟨a, len, cap, rfl, hl, hmax, _, hel⟩ := h
  rcases Nat.eq_zero_or_pos len with rfl | hpos
  · obtain rfl : zs = [] := List.eq_nil_of_length_eq_zero hl
    exact Tryd.slices_Contains_int_empty a cap x w
  · obtain ⟨ab, ao, rfl, _⟩ := hel 0 hpos
    have := Tryd.slices_Contains_int ab ao len cap zs x w (by omega) (by omega) (fun j hj => by
      obtain ⟨ab', ao', e, q⟩ := hel j (by omega)
      obtain ⟨rfl, rfl⟩ : ab = ab' ∧ ao = ao' := by simpa using e
      exact q)
    rwa [List.take_of_length_le (by omega)] at this

set_option maxRecDepth 100000 in
theorem in_list (v : Value) (zs : List Int) (x : Int) (w : World) (h : IntsR w v zs) :
    Calls Tryd.prog 33 #[v, .int .i64 x] w fun e w' => e = .returned (.bool (zs.contains x)) ∧ w = w' := by
  obtain ⟨a, len, cap, rfl, hl, hmax, _, hel⟩ := h
  have Hel := Lib.hid hel
  have Hl := Lib.hid hl
  have Hc : Hid (∀ b : Bool, (b = true ↔ ∃ i, i < len ∧ zs.getD i 0 = x) → zs.contains x = b) := by
    intro b hb
    rw [Bool.eq_iff_iff, hb, List.contains_iff_mem]
    constructor
    · intro h
      obtain ⟨i, hi, rfl⟩ := List.getElem_of_mem h
      exact ⟨i, by omega, by simp [List.getD_eq_getElem?_getD, hi]⟩
    · rintro ⟨i, hi, rfl⟩
      have : zs.getD i 0 = zs[i]'(by omega) := by simp [List.getD_eq_getElem?_getD, show i < zs.length by omega]
      rw [this]; exact List.getElem_mem _
  generalize zs.contains x = cc at *
  clear hel hl
  go_enter Tryd.func33, Tryd.ntmps33
  go_wp2_with fail
  go_loop [5] (fun i => ∃ k : Nat, k ≤ len ∧ i = .int .i64 k ∧ Hid (∀ j, j < k → zs.getD j 0 ≠ x)) (fun i => (len - intOf i).toNat)
  case atStart => exact ⟨0, by omega, rfl, fun j hj => by omega⟩
  case round =>
    obtain ⟨k, hk, rfl, hno⟩ := hrel
    by_cases hlt : k < len
    · obtain ⟨ab, ao, rfl, q⟩ := Hel.out k hlt
      generalize hz : zs.getD k 0 = z at *
      have Hz := Lib.hid hz
      clear hz
      by_cases hx : z = x
      · have hb : (z == x) = true := by simpa using hx
        have hcc := Lib.hid (Hc.out true (by constructor; intro _; exact ⟨k, hlt, by rw [Hz.out]; exact hx⟩; intro _; rfl))
        clear hx
        go_wp2_with fail
        go_ret
        exact ⟨by rw [hcc.out]; rfl, rfl⟩
      · have hb : (z == x) = false := by simpa using hx
        have Hx := Lib.hid hx
        clear hx
        go_wp2_with fail
        go_round
        case rel =>
          refine ⟨k + 1, by omega, by go_num, fun j hj => ?_⟩
          rcases Nat.lt_or_ge j k with h | h
          · exact hno.out j h
          · obtain rfl : j = k := by omega
            rw [Hz.out]; exact Hx.out
        case measure => simp [intOf]; omega
    · obtain rfl : k = len := by omega
      have hcc := Lib.hid (Hc.out false (by constructor; intro h; cases h; rintro ⟨i, hi, e⟩; exact absurd e (hno.out i hi)))
      go_wp2_with fail
      go_ret
      exact ⟨by rw [hcc.out]; rfl, rfl⟩

/-- The readings of other elements. -/
def wo (zs : List Int) (rs : List (Int × Int)) : List (Int × Int) := rs.filter fun r => !zs.contains r.1
theorem take_getD {rs : List (Int × Int)} {k : Nat} (h : k < rs.length) : rs.take (k + 1) = rs.take k ++ [rs.getD k (0, 0)] := by
  rw [List.take_succ_eq_append_getElem h, getD_mem h]
theorem wo_snoc (zs : List Int) (l : List (Int × Int)) (r : Int × Int) : wo zs (l ++ [r]) = if zs.contains r.1 then wo zs l else wo zs l ++ [r] := by
  unfold wo; rw [List.filter_append]
  cases h : zs.contains r.1
  · simp only [List.filter_cons, h]; rfl
  · simp only [List.filter_cons, h]; exact List.append_nil _

/-- A new list of the readings of other elements. -/
def NewWo (rs : List (Int × Int)) (zs : List Int) (w : World) (e : Ending) (w' : World) : Prop := ∃ v', e = .returned v' ∧ Own w' w.heap.size v' (wo zs rs) ∧ Below w.heap.size w w'

set_option maxRecDepth 100000 in
set_option maxHeartbeats 1000000 in
theorem without_any (v : Value) (rs : List (Int × Int)) (cv : Value) (zs : List Int) (w : World) (hv : RdsAt w v rs) (hn : rs.length ≤ 1000000) (hc : IntsR w cv zs) :
    Calls Tryd.prog 29 #[v, cv] w (NewWo rs zs w) := by
  have hv' := hv
  have hc' := hc
  obtain ⟨a, len, cap, rfl, hlen, hmax, _⟩ := hv
  obtain ⟨ca, clen, ccap, rfl, _, _, _, _⟩ := hc
  have Hlen := Lib.hid hlen
  have Hv := Lib.hid hv'
  have Hc := Lib.hid hc'
  have Hn := Lib.hid hn
  have hlen6 : len ≤ 1000000 := by omega
  clear hlen hv' hc' hn
  go_enter Tryd.func29, Tryd.ntmps29
  go_wp2_with fail
  go_loopw [5, 10] (fun o x wr => ∃ k : Nat, k ≤ len ∧ x = .int .i64 k ∧ Hid (Own wr w.heap.size o (wo zs (rs.take k))) ∧ Below w.heap.size w wr) (fun _ x _ => (len - intOf x).toNat)
  case atStart => exact ⟨0, by omega, rfl, Own.nil _ _, Below.refl _ _⟩
  case round =>
    obtain ⟨k, hk, rfl, hown, hB⟩ := hrel
    by_cases hlt : k < len
    · have hvr := Hv.out.below hB
      obtain ⟨ab, ao, rfl, q0, q1⟩ := hvr.at hlt
      have Htk := Lib.hid (take_getD (rs := rs) (k := k) (by have := Hlen.out; omega))
      have Hle : Hid ((wo zs (rs.take k)).length ≤ 1000000000) := by
        unfold Hid wo
        have h1 := List.length_filter_le (fun r : Int × Int => !zs.contains r.1) (rs.take k)
        have h2 : (rs.take k).length ≤ k := List.length_take_le _ _
        have := Hn.out
        omega
      obtain ⟨r0, r1, Hr⟩ : ∃ r0 r1, Hid (rs.getD k (0, 0) = (r0, r1)) := ⟨_, _, rfl⟩
      rw [Hr.out] at q0 q1 Htk
      simp only at q0 q1
      have hsz := hB.size
      have Hcont := Lib.hid (contains_any (.slice ca clen ccap) zs r0 (wr.alloc (.cells #[.int .i64 r0, .int .i64 r1] 23)) (Hc.out.below ((hB.alloc hsz _))))
      have Hstep := Lib.hid (wo_snoc zs (rs.take k) (r0, r1))
      rw [← Htk.out] at Hstep
      have hB1 := hB.alloc hsz (.cells #[.int .i64 r0, .int .i64 r1] 23)
      have hown1 := Lib.hid (hown.out.alloc (.cells #[.int .i64 r0, .int .i64 r1] 23))
      clear hvr hown
      simp only at Hstep
      cases hcb : zs.contains r0
      · rw [hcb] at Hcont Hstep
        obtain ⟨v', w', hrun, hown', _, hB'⟩ := append_one hown1.out Hle.out (by simp; omega) r0 r1 45
        simp only [World.size_alloc] at hrun
        have Hrun := Lib.hid hrun
        have hB2 := Lib.hid (hB1.trans hB')
        have Hown' := Lib.hid hown'
        clear hown' hB' hrun hB1 hown1 hcb hB
        go_wp2_with fail
        refine Hcont.out.mono ?_
        rintro r w1 ⟨rfl, rfl⟩
        go_wp2_with (at_builtin; refine wpList_append_run rfl _ _ _ rfl _ _ _ _ rfl rfl Hrun.out ?_)
        go_roundw
        case rel => exact ⟨k + 1, by omega, by go_num, by unfold Hid; rw [Hstep.out]; exact Hown'.out, hB2.out⟩
        case measure => simp [intOf]; omega
      · rw [hcb] at Hcont Hstep
        have HB1 := Lib.hid hB1
        clear hcb hB1 hB
        go_wp2_with fail
        refine Hcont.out.mono ?_
        rintro r w1 ⟨rfl, rfl⟩
        go_wp2_with fail
        go_roundw
        case rel => exact ⟨k + 1, by omega, by go_num, by unfold Hid; rw [Hstep.out]; exact hown1.out, HB1.out⟩
        case measure => simp [intOf]; omega
    · obtain rfl : k = len := by omega
      have Ht : Hid (rs.take k = rs) := List.take_of_length_le (by have := Hlen.out; omega)
      go_wp2_with fail
      go_ret
      exact ⟨_, rfl, by have := hown.out; rw [Ht.out] at this; exact this, hB⟩

theorem eq_any (e v c : Int) (bc : Nat) (w : World) (h : w.cell? ⟨bc, 0, none⟩ = some (.int .i64 c)) :
    Calls Tryd.prog 46 #[.agg #[.int .i64 e, .int .i64 v], .pointer (some ⟨bc, 0, none⟩)] w fun r w' => r = .returned (.bool (e == c)) ∧ Below w.heap.size w w' := by
  have hb : bc < w.heap.size := World.block_lt_of_cell? (a := ⟨bc, 0, none⟩) _ h
  go_enter Tryd.func46, Tryd.ntmps46
  go_wp2_with fail
  go_ret
  exact ⟨rfl, (Below.refl _ _).alloc (Nat.le_refl _) _⟩

/-- The value of the first reading of an element, and whether there is one. -/
def fo (rs : List (Int × Int)) (c : Int) : Bool := rs.any fun r => r.1 == c
def fv (rs : List (Int × Int)) (c : Int) : Int := ((rs.find? fun r => r.1 == c).map (·.2)).getD 0
theorem find_facts (rs : List (Int × Int)) (c : Int) : (idxP (fun r => r.1 == c) rs = -1 ∧ fo rs c = false ∧ fv rs c = 0) ∨ (∃ k : Nat, k < rs.length ∧ idxP (fun r => r.1 == c) rs = k ∧ fo rs c = true ∧ fv rs c = (rs.getD k (0, 0)).2) := by
  unfold idxP fo fv
  cases h : rs.findIdx? (fun r => r.1 == c) with
  | none =>
    left
    have h' := h
    rw [List.findIdx?_eq_none_iff] at h
    refine ⟨rfl, ?_, ?_⟩
    · rw [List.any_eq_false]; intro x hx; rw [h x hx]; simp
    · have : rs.find? (fun r => r.1 == c) = none := by rw [List.find?_eq_none]; intro x hx; rw [h x hx]; simp
      rw [this]; rfl
  | some i =>
    right
    have h' := h
    rw [List.findIdx?_eq_some_iff_getElem] at h
    obtain ⟨hi, hp, hno⟩ := h
    refine ⟨i, hi, rfl, ?_, ?_⟩
    · rw [List.any_eq_true]; exact ⟨_, List.getElem_mem hi, hp⟩
    · have : rs.find? (fun r => r.1 == c) = some rs[i] := by
        rw [List.find?_eq_some_iff_getElem]
        exact ⟨hp, i, hi, rfl, fun j hj => by have := hno j hj; simpa using this⟩
      rw [this, getD_mem hi]; rfl

set_option maxRecDepth 100000 in
theorem find_any (v : Value) (rs : List (Int × Int)) (c : Int) (w : World) (hv : RdsAt w v rs) :
    Calls Tryd.prog 25 #[v, .int .i64 c] w fun e w' => e = .returned (.tuple #[.int .i64 (fv rs c), .bool (fo rs c)]) ∧ Below w.heap.size w w' := by
  have hmf : ∀ (fn : Fn) (first cap : Array Value) (w : World), (Instr.makeFunc fn first cap).run Tryd.prog w = .ok (.func fn first cap) w := fun _ _ _ _ => rfl
  have hB : Below w.heap.size w (w.alloc (.cells #[.int .i64 c] 3)) := (Below.refl _ _).alloc (Nat.le_refl _) _
  have hix := indexFunc_F (.pointer (some ⟨w.heap.size, 0, none⟩)) (fun r => r.1 == c) (fun w1 => w1.cell? ⟨w.heap.size, 0, none⟩ = some (.int .i64 c)) (fun w1 w2 h hb => cell_then hb h) (fun w1 r h => eq_any r.1 r.2 c w.heap.size w1 h) v rs
    (w.alloc (.cells #[.int .i64 c] 3)) (hv.below hB) (by simp)
  have Hix := Lib.hid hix
  have hv' := hv.below hB
  obtain ⟨a, len, cap, rfl, hlen, hmax, _⟩ := hv
  have Hv := Lib.hid hv'
  have HB := Lib.hid hB
  rcases find_facts rs c with ⟨h1, h2, h3⟩ | ⟨k, hk, h1, h2, h3⟩
  · rw [h2, h3]
    rw [h1] at Hix
    clear hix hv' hB h1 h2 h3 hlen
    go_enter Tryd.func25, Tryd.ntmps25
    go_wp2_with fail
    refine Hix.out.mono ?_
    rintro r w1 ⟨rfl, hb⟩
    go_wp2_with fail
    go_ret2
    exact ⟨rfl, below_then HB.out hb⟩
  · rw [h2, h3]
    rw [h1] at Hix
    have hkl : k < len := by omega
    obtain ⟨ab, ao, rfl, _, q1⟩ := Hv.out.at hkl
    generalize (rs.getD k (0, 0)).2 = x at *
    clear hix hv' hB h1 h2 h3 hlen
    go_enter Tryd.func25, Tryd.ntmps25
    go_wp2_with fail
    refine Hix.out.mono ?_
    rintro r w1 ⟨rfl, hb⟩
    have q2 := cell_then hb q1
    go_wp2_with fail
    go_ret2
    exact ⟨rfl, below_then HB.out hb⟩
end Go.Proofs.YtanfbfmchhbgfaaDoor
