/- What every row of these statements gives at its first world, and the last step of a row that leaves new memory behind. No conditions. -/
import Derived.Test.YtanfbfmchhbgfaaDoorAwake
import Derived.Test.YtanfbfmchhbgfaaDoorRows
import Derived.WalkKit
import Derived.ProofKit
import Derived.OpenShut
import Derived.Deep.DeepHandedRow
import Derived.Lib.LaidTab
namespace Go.Proofs.YtanfbfmchhbgfaaDoor
open Go Go.ChangeShapes Go.WideShapes Go.ChangeAt Go.RowKit

theorem own : ownKnob Tryd.prog.godebug = none := by kernel_rfl
theorem gBnds : Tryd.prog.globalNamed "synoptic/element.bounds" = some 0 := by kernel_rfl

section
variable {H : Type} {enc : TypeId × Value → H} {P : Program} {w : World} {base : Nat} {sp : Nat → Bool} {held : Bool}
theorem tab2 {fuel : Nat} {t e f : TypeId} {n m : Nat} {k : IntKind} {cs : List Value} {zss : List (List Int)} {p : List MemPlace}
    (ht : P.underlying t = some (.array n e)) (he : P.underlying e = some (.array m f)) (hf : P.underlying f = some (.int k)) (hcf : P.cellsOf f = 1) (hce : P.cellsOf e = m)
    (h : DataW.trod enc P w base sp held fuel t cs = some (.agg (zss.map (Lib.tabData k)), p)) (i : Nat) (zs : List Int) (hi : zss[i]? = some zs) :
    (cs.drop (i * m)).take m = zs.map (Value.int k) := by
  obtain ⟨xs, q, _, hx, _, hl, hr⟩ := DataW.trod_array ht h
  injection hx with hx _
  injection hx with hx
  have hlz : zss.length = n := by have := congrArg List.length hx; simp at this; omega
  have hin : i < n := by
    have := (List.getElem?_eq_some_iff.1 hi).1; omega
  have h1 := hr i hin
  rw [hce] at h1
  have h2 : (xs.map (·.1))[i]? = some (Lib.tabData k zs) := by rw [← hx]; simp [hi]
  rw [List.getElem?_map, Option.map_eq_some_iff] at h2
  obtain ⟨⟨x, pp⟩, h3, h4⟩ := h2
  rw [h3] at h1
  simp only at h4
  subst h4
  exact Lib.cells_of_tab he hf hcf hce h1
end

theorem post_low {H : Type} {enc : TypeId × Value → H} {P : Program} {f : Func} {s : ChangeSpec} {apart fresh handsOn : Bool} {W W' : World} {args : Array Value} {v : Value} {ds gs : List (DataW H)} {before pa pv : List MemPlace}
    (hW : DataW.Whole enc P f.params.toList s.vars apart W args.toList ds gs before)
    (hres : ∀ (b : Nat) (sp : Nat → Bool) (hd : Bool), DataW.TrodAll enc P W' b sp hd f.resultTypes.toList (v.resultList f.resultTypes.size) (s.fn H (ds ++ gs)).results [])
    (hargs : ∀ sp : Nat → Bool, (∀ p ∈ before, sp p.block = true) → DataW.TrodAll enc P W' 0 sp true f.params.toList args.toList (s.fn H (ds ++ gs)).args pa)
    (hvars : ∀ sp : Nat → Bool, (∀ p ∈ before, sp p.block = true) → DataW.TrodVars enc P W' sp s.vars (s.fn H (ds ++ gs)).vars pv)
    (hps : before = pa ++ pv) (hb : Below W.heap.size W W') : s.post enc P f apart fresh handsOn false W args v W' := by
  have hold : ∀ p ∈ before, (fun b => decide (b < W.heap.size)) p.block = true := fun p hp => by simpa using hW.lt p hp
  exact ⟨ds, gs, before, [], pa, pv, hW, hres _ _ _, hargs _ hold, hvars _ hold, World.keptBut_mono (fun p hp => ⟨hp, Or.inr (List.mem_append.1 (hps ▸ hp))⟩) (hb.frame (· ∈ before)), fun h => by cases h⟩

def bndss : List (List Int) := [[8000, 11000], [1800, 3300], [1800, 3300], [-1000, 1000], [-1000, 1000], [900, 1700], [2000, 3200], [2400, 3400], [2000, 3000], [4400, 6200], [2000, 2900]]
theorem bndss_at : ∀ i : Fin 22, bndss[i.1 / 2]? = some (bndss.getD (i.1 / 2) []) ∧ (bndss.getD (i.1 / 2) [])[i.1 % 2]? = some (bnds.getD i.1 0) := by decide

theorem glo_of {W : World} (hL : laidMetH Tryd.prog [("synoptic/element.bounds", Rows.laid_synoptic_element_bounds)] W) (hs : W.ShapedOpen Tryd.prog) : Glo W := by
  refine ⟨?_, Tryd.laysM143.s1_3 W hs⟩
  have h : laidMet Tryd.prog [("synoptic/element.bounds", Rows.laid_synoptic_element_bounds)] W := hL
  obtain ⟨ps, ⟨g', t', cs, fuel, p, q, hg', ht', hvar, hd, _, _⟩, _⟩ := h
  obtain rfl := Option.some.inj (gBnds.symm.trans hg')
  obtain rfl := Option.some.inj ((show (Tryd.prog.globals[0]?).map (·.type) = some 71 by kernel_rfl).symm.trans ht')
  have key := tab2 (zss := bndss) Tryd.underlying71 Tryd.underlying70 Tryd.underlying3 (by kernel_rfl) (by kernel_rfl) hd
  intro i hi
  obtain ⟨h1, h2⟩ := bndss_at ⟨i, hi⟩
  have h3 := key (i / 2) _ h1
  have h4 : cs.toList[i]? = ((cs.toList.drop (i / 2 * 2)).take 2)[i % 2]? := by
    rw [List.getElem?_take_of_lt (by omega), List.getElem?_drop, show i / 2 * 2 + i % 2 = i by omega]
  have h5 := World.var?_cell gBnds hvar i
  show W.cell? ⟨0, i, none⟩ = _
  rw [h5]
  have h6 : cs.toList[i]? = some (.int .i64 (bnds.getD i 0)) := by
    rw [h4, h3, List.getElem?_map]
    simp only at h2
    rw [h2]; rfl
  simpa using h6

/-- A WORLD FOR THE WITNESS: the settled one, the table holding what its initialiser lays. -/
noncomputable def laidWorld (os : Os) : World :=
  { World.holding Tryd.prog os ⟨#[], #[], []⟩ with heap := (World.holding Tryd.prog os ⟨#[], #[], []⟩).heap.modify 0 fun
      | .cells _ t frozen => .cells (bnds.map fun z => Value.int .i64 z).toArray t frozen
      | o => o }
theorem laid_met (os : Os) (args : Array Value) : laidMet Tryd.prog [("synoptic/element.bounds", Rows.laid_synoptic_element_bounds)] ((laidWorld os).forCall (fun _ _ => 0) ⟨#[], args, []⟩).memory :=
  laidMet_of_run' 8 (by kernel_rfl) (by kernel_rfl)
end Go.Proofs.YtanfbfmchhbgfaaDoor
