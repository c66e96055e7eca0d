/- ElementParts answers true at lists of any length. No conditions. -/
import Derived.Test.YtanfbfmchhbgfaaDoorParts
namespace Go.Proofs.YtanfbfmchhbgfaaDoor
open Go Go.RowKit

theorem IntsAt.reads {w : World} {B : Nat} {v : Value} {zs : List Int} (h : IntsAt w B v zs) (hn : zs.length ≤ 1000000000000000) : IntsR w v zs := by
  obtain ⟨a, len, cap, h1, h2, h3, h4, h5, h6, h7⟩ := h
  refine ⟨a, len, cap, h1, h4, by omega, h5, fun i hi => ?_⟩
  obtain ⟨ab, ao, e, _, q⟩ := h7 i hi
  exact ⟨ab, ao, e, q⟩

theorem parts_any (lv cv : Value) (zs cs : List Int) (w : World) (hG : Glo w) (hl : IntsAt w w.heap.size lv zs) (hc : IntsAt w w.heap.size cv cs) :
    Calls Tryd.prog 7 #[lv, cv] w fun e w' => e = .returned (.bool true) ∧ Below w.heap.size w w' := by
  by_cases hn : cs.length ≤ 60
  · exact parts_short lv cv zs cs w hG hl (hc.reads (by omega)) hn
  · obtain ⟨a, len, cap, rfl, h2, h3, h4, _, _, _⟩ := hc
    have hlo : 60 < len := by omega
    have HG := Lib.hid hG
    clear hG hl hn h4
    go_enter Tryd.func7, Tryd.ntmps7
    go_wp2_with fail
    refine (awake_any _ HG.out).mono ?_
    rintro r w1 ⟨rfl, hb⟩
    go_wp2_with fail
    go_ret
    exact ⟨rfl, hb⟩
end Go.Proofs.YtanfbfmchhbgfaaDoor
