/- ElementAnswers answers true at inputs of any length; and how a list of readings that came in opens. No conditions. -/
import Derived.Test.YtanfbfmchhbgfaaDoorAnswers
import Derived.Test.YtanfbfmchhbgfaaDoorPartsLong
import Derived.Test.YtanfbfmchhbgfaaDoorLawPost
import Derived.Deep.SlicePairs
namespace Go.Proofs.YtanfbfmchhbgfaaDoor
open Go Go.RowKit

set_option maxRecDepth 100000 in
theorem answers_any (rv lv cv : Value) (ra : Option Addr) (rlen rcap : Nat) (rr : List (Int × Int)) (zl cs : List Int) (code : Int) (S : ByteArray) (w : World) (hG : Glo w) (hrv : rv = .slice ra rlen rcap) (hrl : rr.length = rlen) (hrm : rlen ≤ 9223372036854775807) (hr : rlen ≤ 60 → RdsAt w rv rr)
    (hl : IntsAt w w.heap.size lv zl) (hc : IntsAt w w.heap.size cv cs) (hS : S.size ≤ 9223372036854775807) :
    Calls Tryd.prog 6 #[rv, lv, cv, .int .i64 code, .string S] w fun e w' => e = .returned (.bool true) ∧ Below w.heap.size w w' := by
  subst hrv
  obtain ⟨ca, clen, ccap, rfl, h2, h3, h4, h5, h6, h7⟩ := hc
  by_cases h : rlen ≤ 60 ∧ clen ≤ 60 ∧ S.size ≤ 60
  · obtain ⟨q1, q2, q3⟩ := h
    have hc : IntsAt w w.heap.size (.slice ca clen ccap) cs := ⟨ca, clen, ccap, rfl, h2, h3, h4, h5, h6, h7⟩
    exact answers_short _ lv _ rr zl cs code S w hG (hr q1) (by omega) hl (hc.reads (by omega)) (by omega) q3
  · have hcase : 60 < rlen ∨ (rlen ≤ 60 ∧ 60 < clen) ∨ (rlen ≤ 60 ∧ clen ≤ 60 ∧ 60 < S.size) := by omega
    have hclen : clen ≤ 9223372036854775807 := by omega
    have HG := Lib.hid hG
    clear hG hr hl hrl h4 h5 h6 h7 h
    generalize hs : S.size = n at *
    have Hs := Lib.hid hs
    rcases hcase with q | ⟨q, q2⟩ | ⟨q, q2, q3⟩
    · clear hs
      go_enter Tryd.func6, Tryd.ntmps6
      go_wp2_with fail
      refine (awake_any _ HG.out).mono ?_
      rintro r w1 ⟨rfl, hb⟩
      go_wp2_with fail
      go_ret
      exact ⟨rfl, hb⟩
    · clear hs
      go_enter Tryd.func6, Tryd.ntmps6
      go_wp2_with fail
      refine (awake_any _ HG.out).mono ?_
      rintro r w1 ⟨rfl, hb⟩
      go_wp2_with fail
      go_ret
      exact ⟨rfl, hb⟩
    · rw [← hs] at q3
      clear hs
      go_enter Tryd.func6, Tryd.ntmps6
      go_wp2_with fail
      refine (awake_any _ HG.out).mono ?_
      rintro r w1 ⟨rfl, hb⟩
      go_wp2_with fail
      go_ret
      exact ⟨rfl, hb⟩

open Go.ChangeShapes Go.WideShapes Go.ChangeAt in
/-- A list of readings that came in. -/
theorem open_rds {H : Type} {enc : TypeId × Value → H} {W : World} {base : Nat} {v : Value} {d : DataW H} {p : List MemPlace} (hv : Value.okWide Tryd.prog W .any base 45 v) (h : DataW.Trod enc Tryd.prog W 0 (fun _ => true) true 45 v d p) :
    ∃ (a : Option Addr) (len cap : Nat) (rr : List (Int × Int)), v = .slice a len cap ∧ rr.length = len ∧ len ≤ 9223372036854775807 ∧ (len ≤ 60 → RdsAt W v rr) := by
  obtain ⟨a0, len, cap, rfl⟩ := okWide_slice Tryd.underlying45 hv
  obtain ⟨fuel, hf⟩ := h
  rcases Go.Deep.open_slice_pairs Tryd.underlying45 Tryd.underlying23 (by kernel_rfl) rfl rfl (by kernel_rfl) (by kernel_rfl) hf with ⟨hcs, _⟩ | ⟨a, len', cap', m, n, V0, V1, D0, D1, P0, P1, hcs, _, hl, hm, hmm, _, hel⟩
  · have hcs : a0 = none ∧ len = 0 ∧ cap = 0 := by simpa [Value.cells] using hcs
    obtain ⟨rfl, rfl, rfl⟩ := hcs
    exact ⟨none, 0, 0, [], rfl, rfl, by omega, fun _ => ⟨none, 0, 0, rfl, rfl, by omega, fun i hi => by omega⟩⟩
  · have hcs : a0 = some a ∧ len = len' ∧ cap = cap' := by simpa [Value.cells] using hcs
    obtain ⟨rfl, rfl, rfl⟩ := hcs
    have hlm : len ≤ m := by rw [hmm]; split <;> omega
    have each : ∀ i, i < len → ∃ q : Int × Int, W.cell? (a.add (i * 2)) = some (.int .i64 q.1) ∧ W.cell? (a.add (i * 2 + 1)) = some (.int .i64 q.2) := by
      intro i hi
      obtain ⟨c0, c1, t0, t1⟩ := hel i (by omega)
      obtain ⟨x, e0, _⟩ := DataW.trod_int (k := .i64) Tryd.underlying3 t0
      obtain ⟨y, e1, _⟩ := DataW.trod_int (k := .i64) Tryd.underlying3 t1
      rw [List.cons.injEq] at e0 e1
      rw [e0.1] at c0
      rw [e1.1] at c1
      exact ⟨(x, y), c0, c1⟩
    obtain ⟨q, hq⟩ := Go.Deep.choose_lt each
    refine ⟨some a, len, cap, (List.range len).map q, rfl, by simp, by unfold maxLen at hm; omega, fun h60 => ⟨some a, len, cap, rfl, by simp, by omega, fun i hi => ?_⟩⟩
    obtain ⟨h1, h2⟩ := hq i hi
    obtain ⟨b, off, spot⟩ := a
    have hspot : spot = none := by simpa [Addr.add] using World.cell?_spot (hq 0 (by omega)).1
    subst hspot
    rw [Go.WideShapes.add_plain] at h1 h2
    refine ⟨b, off, rfl, ?_, ?_⟩
    · rw [h1]; simp [List.getD_eq_getElem?_getD, hi]
    · rw [show off + i * 2 + 1 = off + (i * 2 + 1) by omega, h2]; simp [List.getD_eq_getElem?_getD, hi]
end Go.Proofs.YtanfbfmchhbgfaaDoor
