/- What the rows of these statements give at their first world, how an argument opens, the last step of a row, and the long fields. No conditions. -/
import Derived.Test.YtmmmebdgannpgaaDoorMaps
import Derived.Test.YtmmmebdgannpgaaDoorRows
import Derived.WalkKit
import Derived.ProofKit
import Derived.OpenShut
import Derived.Deep.DeepHandedRow
import Derived.Lib.LaidTab
import Derived.Lib.SmallJoins
namespace Go.Proofs.YtmmmebdgannpgaaDoor
open Go Go.ChangeShapes Go.WideShapes Go.ChangeAt Go.RowKit
open Go.ChangeMaps (open_string shut_string)

theorem own : ownKnob Tryd.prog.godebug = none := by kernel_rfl
theorem laid_out : laidOutB Tryd.prog = true := by kernel_rfl

section
variable {H : Type} {enc : TypeId × Value → H} {P : Program}
theorem trodAll_low (hl : laidOutB P = true) {W W' : World} (hb : Below W.heap.size W W') : ∀ (ts : List TypeId) (vs : List Value) (ds : List (DataW H)) (ps : List MemPlace),
    (ts.all fun t => P.readableRec t && decide (t < P.types.size)) = true → DataW.TrodAll enc P W 0 (fun _ => true) true ts vs ds ps → (∀ p ∈ ps, p.block < W.heap.size) →
    DataW.TrodAll enc P W' 0 (fun b => decide (b < W.heap.size)) true ts vs ds ps
  | [], [], [], _, _, h, _ => h
  | [], [], _ :: _, _, _, h, _ => h.elim
  | [], _ :: _, _, _, _, h, _ => h.elim
  | _ :: _, [], _, _, _, h, _ => h.elim
  | _ :: _, _ :: _, [], _, _, h, _ => h.elim
  | t :: ts, v :: vs, d :: ds, ps, hT, h, hlt => by
    obtain ⟨p, q, hp, hq, e⟩ := h
    simp only [List.all_cons, Bool.and_eq_true, decide_eq_true_eq] at hT
    refine ⟨p, q, Below.trod hl hT.1.1 hT.1.2 hp hb (fun x hx => hlt x (by rw [e]; simp [hx])), trodAll_low hl hb ts vs ds q hT.2 hq (fun x hx => hlt x (by rw [e]; simp [hx])), e⟩

theorem law_post (hl : laidOutB P = true) {f : Func} {s : ChangeSpec} {apart fresh handsOn : Bool} {tb : TypeId} {W W' : World} {args : Array Value} {ds gs : List (DataW H)} {before : List MemPlace}
    (hT : (f.params.toList.all fun t => P.readableRec t && decide (t < P.types.size)) = true) (hr : f.resultTypes = #[tb]) (htb : P.underlying tb = some .bool)
    (hW : DataW.Whole enc P f.params.toList s.vars apart W args.toList ds gs before) (hv : s.vars = []) (hf : s.fn H (ds ++ gs) = { results := [.lit (.bool true)], args := ds }) (hb : Below W.heap.size W W') :
    s.post enc P f apart fresh handsOn false W args (.bool true) W' := by
  have hW' := hW
  obtain ⟨p, q, hA, hV, rfl, _, _⟩ := hW
  have hlt : ∀ x ∈ p ++ q, x.block < W.heap.size := fun x hx => hW'.lt x hx
  rw [hv] at hV
  have hq : gs = [] ∧ q = [] := trodVars_none hV
  obtain ⟨rfl, rfl⟩ := hq
  have hA' := trodAll_low hl hb _ _ _ _ hT hA (fun x hx => hlt x (by simp [hx]))
  refine ⟨ds, [], p ++ [], [], p, [], hW', ?_, ?_, ?_, World.keptBut_mono (fun x hx => ⟨hx, by simp at hx; simp [hx]⟩) (hb.frame (· ∈ p ++ [])), fun h => by cases h⟩
  · rw [hf, hr]
    exact trodAll_cons_mk (shut_bool htb _) trodAll_mk0
  · rw [hf]; exact hA'
  · rw [hf, hv]; exact (rfl : ([] : List MemPlace) = [])
end


/-- The tables that the rows list. -/
def tabs : List (String × DataW Unit) := [("math/bits.deBruijn32tab", Rows.laid_math_bits_deBruijn32tab), ("math/bits.deBruijn64tab", Rows.laid_math_bits_deBruijn64tab), ("internal/strconv.uint64pow10", Rows.laid_internal_strconv_uint64pow10)]

theorem met_tail {P : Program} {n : String} {d : DataW Unit} {r : List (String × DataW Unit)} {W : World} (h : laidMet P ((n, d) :: r) W) : laidMet P r W := by
  obtain ⟨ps, ⟨g, t, cs, fuel, p, q, _, _, _, _, hr, rfl⟩, hnd, hc⟩ := h
  exact ⟨q, hr, (List.nodup_append.1 hnd).2.1, fun b off hm => hc b off (List.mem_append.2 (Or.inr hm))⟩

theorem tab_of {W : World} (hL : laidMetH Tryd.prog tabs W) : Tab W := by
  have h : laidMet Tryd.prog tabs W := hL
  have h3 : Lib.TabIs Tryd.prog W "internal/strconv.uint64pow10" .u64 Lib.pow10Tab :=
    Lib.tabIs_of_head (zs := Lib.pow10Tab) (k := .u64) gPow (show (Tryd.prog.globals[0]?).map (·.type) = some 62 by kernel_rfl) Tryd.underlying62 Tryd.underlying55 (by kernel_rfl) (by kernel_rfl) (met_tail (met_tail h))
  refine ⟨h3, ?_⟩
  have hc := h3.cell gPow 0 (by decide)
  exact World.block_lt_of_cell? (a := ⟨0, 0, none⟩) _ hc

/-- The cells of a table. -/
def cellsD : DataW Unit → Array Value
  | .agg l => (l.map fun | .lit (.int k z) => Value.int k z | _ => undef).toArray
  | _ => #[]
def layIn (d : DataW Unit) : Obj → Obj
  | .cells _ t frozen => .cells (cellsD d) t frozen
  | o => o
/-- A WORLD FOR THE WITNESS: the settled one, the tables holding what their initialisers lay. -/
noncomputable def laidWorld (os : Os) : World :=
  { World.holding Tryd.prog os ⟨#[], #[], []⟩ with heap := (((World.holding Tryd.prog os ⟨#[], #[], []⟩).heap.modify 1 (layIn Rows.laid_math_bits_deBruijn32tab)).modify 2 (layIn Rows.laid_math_bits_deBruijn64tab)).modify 0 (layIn Rows.laid_internal_strconv_uint64pow10) }
theorem laid_met (os : Os) (args : Array Value) : laidMet Tryd.prog tabs ((laidWorld os).forCall (fun _ _ => 0) ⟨#[], args, []⟩).memory :=
  laidMet_of_run' 8 (by kernel_rfl) (by kernel_rfl)

/-- A list of ints that came in. -/
theorem open_list {H : Type} {enc : TypeId × Value → H} {W : World} {base : Nat} {v : Value} {d : DataW H} {p : List MemPlace} (hv : Value.okWide Tryd.prog W .any base 22 v) (h : DataW.Trod enc Tryd.prog W 0 (fun _ => true) true 22 v d p) :
    ∃ zs, IntsIn W.heap.size W v zs ∧ (∀ z ∈ zs, I64 z) ∧ zs.length ≤ 9223372036854775807 := by
  obtain ⟨a0, len, cap, rfl⟩ := okWide_slice Tryd.underlying22 hv
  obtain ⟨fuel, hf⟩ := h
  rcases open_ints Tryd.underlying22 Tryd.underlying3 (by kernel_rfl) hf with ⟨hcs, _⟩ | ⟨a, len', cap', zs, hcs, _, hl, hm, hz, _, hcell, hwz⟩
  · have hcs : a0 = none ∧ len = 0 ∧ cap = 0 := by simpa [Value.cells] using hcs
    obtain ⟨rfl, rfl, rfl⟩ := hcs
    exact ⟨[], .inl ⟨_, _, rfl, rfl⟩, by simp, by simp⟩
  · have hcs : a0 = some a ∧ len = len' ∧ cap = cap' := by simpa [Value.cells] using hcs
    obtain ⟨rfl, rfl, rfl⟩ := hcs
    simp only [if_true] at hz
    have hm' : cap ≤ 9223372036854775807 := by unfold maxLen at hm; omega
    refine ⟨zs.take len, ?_, fun z hzm => ?_, by rw [List.length_take]; omega⟩
    · by_cases hc0 : cap = 0
      · obtain rfl : len = 0 := by omega
        exact .inl ⟨_, _, rfl, rfl⟩
      · obtain ⟨b, off, rfl, hc⟩ := ints_at hcell (by omega)
        have hl' : (zs.take len).length = len := by rw [List.length_take]; omega
        refine .inr ⟨b, off, cap, by rw [hl'], by omega, hm', World.block_lt_of_cell? (a := ⟨b, off + 0, none⟩) _ (hc 0 (by omega)), fun j hj => ?_⟩
        rw [hc j (by omega)]
        simp [List.getD_eq_getElem?_getD, List.getElem?_take_of_lt (show j < len by omega)]
    · have hw := hwz z (List.mem_of_mem_take hzm)
      simp only [Lit.wf, Bool.and_eq_true, decide_eq_true_eq] at hw
      have h1 : IntKind.i64.min = -9223372036854775808 := rfl
      have h2 : IntKind.i64.max = 9223372036854775807 := rfl
      unfold I64; omega

set_option maxRecDepth 100000 in
theorem maps_any (v : Value) (zs : List Int) (w : World) (hT : Tab w) (hI : IntsIn w.heap.size w v zs) (hz : ∀ z ∈ zs, I64 z) (hm : zs.length ≤ 9223372036854775807) :
    Calls Tryd.prog 3 #[v] w fun e w' => e = .returned (.bool true) ∧ Below w.heap.size w w' := by
  by_cases hlen : zs.length ≤ 300
  · exact maps_short v zs w hT hI hz hlen
  · obtain ⟨va, vc, rfl⟩ : ∃ a c, v = .slice a zs.length c := by rcases hI with ⟨_, _, e, e2⟩ | ⟨b, off, cap, e, _⟩; exact ⟨_, _, by rw [e, e2]; rfl⟩; exact ⟨_, _, e⟩
    have HA := Lib.hid (awake_any w hT)
    have hgt : 300 < zs.length := by omega
    generalize zs.length = m at *
    clear hI hT hz hlen
    go_enter Tryd.func3, Tryd.ntmps3
    go_wp2_with fail
    refine HA.out.mono ?_
    rintro e w1 ⟨rfl, hb1⟩
    go_wp2_with fail
    go_ret
    exact ⟨rfl, hb1⟩
end Go.Proofs.YtmmmebdgannpgaaDoor
