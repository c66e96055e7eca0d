/- MonitorTexts answers true at every input. No conditions. -/
import Derived.Test.YtmmmebdgannpgaaGreatDoorR10
import Derived.Test.YtmmmebdgannpgaaGreatDoorCards
import Derived.Test.YtmmmebdgannpgaaGreatDoorTie
set_option linter.unusedVariables false
set_option linter.unusedSimpArgs false
/- MonitorTexts answers true at every input. No conditions. -/

namespace Go.Proofs.YtmmmebdgannpgaaGreatDoor.texts
open Go Go.ChangeShapes Go.WideShapes Go.ChangeAt Go.RowKit
open Go.ChangeMaps (open_string)

noncomputable def zeroArgs : Array Value := #[.slice none 0 0, .agg #[.int .i64 0, .int .i64 0], .agg #[.int .i64 0, .string ⟨#[]⟩, .int .i64 0, .int .i64 0, .int .i64 0, .int .i64 0, .int .i64 0, .slice none 0 0], .agg #[.int .i64 0, .int .i64 0, .int .i64 0, .int .i64 0], .agg #[.int .i64 0, .int .i64 0, .int .i64 0, .int .i64 0], .slice none 0 0, .int .i64 0]
theorem reads (os : Os) {H : Type} (enc : TypeId × Value → H) : ∃ places, DataW.whole enc Tryz.prog ((laidWorld os).forCall (fun _ _ => 0) ⟨#[], zeroArgs, []⟩).memory Tryz.f3.params.toList Rows.monitorTextsSpec.vars false zeroArgs.toList 8 =
    some ([.nil, .agg [.lit (.int .i64 0), .lit (.int .i64 0)], .agg [.lit (.int .i64 0), .lit (.string []), .lit (.int .i64 0), .agg [.lit (.int .i64 0), .lit (.int .i64 0), .lit (.int .i64 0), .lit (.int .i64 0)], .nil], .agg [.lit (.int .i64 0), .lit (.int .i64 0), .lit (.int .i64 0), .lit (.int .i64 0)], .agg [.lit (.int .i64 0), .lit (.int .i64 0), .lit (.int .i64 0), .lit (.int .i64 0)], .nil, .lit (.int .i64 0)], [], places) :=
  ⟨[], by kernel_rfl⟩

set_option maxRecDepth 100000 in
theorem lifted (os : Os) (started : os.Started) (H : Type) (enc : TypeId × Value → H) (F : Stop.Interp) :
    ReturnsInHanded {} Tryz.checked os 3 .any ((OpenSpec.ofChange Rows.monitorTextsSpec).preRow enc Tryz.prog Tryz.f3 Rows.monitorTextsRow.domain false Rows.monitorTextsRow.laid) (((OpenSpec.ofChange Rows.monitorTextsSpec).at F).post enc Tryz.prog Tryz.f3 false true false false) := by
  obtain ⟨places, hx⟩ := reads os enc
  refine returnsInHanded_of_row (C := Tryz.checked) (s := OpenSpec.ofChange Rows.monitorTextsSpec) own started (by kernel_rfl) Tryz.func3
    (witness_row_at (enc := enc) (C := Tryz.checked) false (laidWorld os) zeroArgs rfl (by kernel_rfl) (by kernel_rfl) (by kernel_rfl)
      (OpenSpec.preRow_of_cond 8 hx (by kernel_rfl) (fun k hk => by cases hk) (by kernel_rfl) (laid_met os _))) ?_
  intro W base args ds gs before hval hW _ _ _ hL hsh _
  have hW' := hW
  obtain ⟨p, q, hA0, hV, rfl, hfz, hnd⟩ := hW
  have hA : DataW.TrodAll enc Tryz.prog W 0 (fun _ => true) true Tryz.f3.params.toList args.toList ds p := hA0
  rw [Tryz.params3] at hA hval
  obtain ⟨v0, vs0, d0, ds0, p0, q0, hargs, rfl, rfl, h0, r0⟩ := trodAll_cons hA
  obtain ⟨v1, vs1, d1, ds1, p1, q1, rfl, rfl, rfl, h1, r1⟩ := trodAll_cons r0
  obtain ⟨v2, vs2, d2, ds2, p2, q2, rfl, rfl, rfl, h2, r2⟩ := trodAll_cons r1
  obtain ⟨v3, vs3, d3, ds3, p3, q3, rfl, rfl, rfl, h3, r3⟩ := trodAll_cons r2
  obtain ⟨v4, vs4, d4, ds4, p4, q4, rfl, rfl, rfl, h4, r4⟩ := trodAll_cons r3
  obtain ⟨v5, vs5, d5, ds5, p5, q5, rfl, rfl, rfl, h5, r5⟩ := trodAll_cons r4
  obtain ⟨v6, vs6, d6, ds6, p6, q6, rfl, rfl, rfl, h6, r6⟩ := trodAll_cons r5
  obtain ⟨rfl, rfl, rfl⟩ := trodAll_nil r6
  obtain rfl : args = #[v0, v1, v2, v3, v4, v5, v6] := by cases args; simp_all
  obtain ⟨rfl, rfl⟩ := trodVars_none hV
  have hU := open_codes (hval 0 22 v0 rfl rfl) h0
  obtain ⟨x, y, rfl, hx, hy⟩ := open_frac (hval 1 24 v1 rfl rfl) h1
  obtain ⟨kd, nm, tm, pf, pa, pb, pc, ra, rn, rc, rl, rfl, hP, hv, hrl⟩ := open_rep (hval 2 29 v2 rfl rfl) h2
  obtain ⟨e1, e2, e3, e4, rfl, he⟩ := open_errs (hval 3 31 v3 rfl rfl) h3
  obtain ⟨t1, t2, t3, t4, rfl, ht⟩ := open_table (hval 4 33 v4 rfl rfl) h4
  obtain ⟨va, vn, vc, zs, rfl, hI, hz, hzl⟩ := open_list (hval 5 34 v5 rfl rfl) h5
  obtain ⟨num, rfl, rfl, rfl, wn⟩ := open_int Tryz.underlying3 (hval 6 3 v6 rfl rfl) h6
  refine (texts_any v0 x y kd nm tm pf pa pb pc ra rn rc rl e1 e2 e3 e4 t1 t2 t3 t4 va vn vc zs num W (tab_of hL) (bnds_of hL) hU hx hy hv hP hrl he ht hI hz hzl (wf_int wn)).mono fun e W' ⟨he, hb⟩ => ?_
  subst he
  exact ⟨_, rfl, law_post laid_out (by kernel_rfl) (by kernel_rfl) Tryz.underlying4 hW' rfl rfl hb⟩

theorem said : Rows.MonitorTextsSaid :=
  OpenClaim.holds_of_cond 3 Tryz.f3 rfl rfl rfl rfl rfl rfl rfl ⟨rfl, rfl, rfl, rfl, rfl⟩ rfl rfl rfl rfl rfl (by kernel_rfl) Tryz.func3 (by kernel_rfl)
    (of_decide_eq_true (by kernel_rfl)) (by unfold Func.isWrapper; first | (rw [if_pos (by decide +kernel)]; kernel_rfl) | (rw [if_neg (by decide +kernel)]; exact ⟨rfl, rfl⟩))
    (fun os started H enc _ F => by rw [OpenClaim.pre_eq_preRow]; exact lifted os started H enc F)

theorem plain (f : FuncId) (fn : Func) (hf : Tryz.pinned.checked.prog.funcNamed "synoptic/synopticlaw42.MonitorTexts" = some f) (hfn : Tryz.pinned.checked.prog.funcs[f]? = some fn) :
    false = Tryz.pinned.checked.prog.looks [] ∧ ∀ (j : Nat) t, fn.params[j]? = some t → Tryz.pinned.checked.prog.wantsStandIn t = false := by
  obtain rfl : f = 3 := Option.some.inj ((show Tryz.prog.funcNamed "synoptic/synopticlaw42.MonitorTexts" = some 3 by kernel_rfl).symm.trans hf) |>.symm
  obtain rfl : fn = Tryz.f3 := (Option.some.inj (Tryz.func3.symm.trans hfn)).symm
  refine ⟨by kernel_rfl, fun j t ht => ?_⟩
  have hall : (Tryz.f3.params.all fun t => !Tryz.prog.wantsStandIn t) = true := by kernel_rfl
  have := (Array.all_eq_true_iff_forall_mem.1 hall) t (Array.mem_of_getElem? ht)
  have h2 : Tryz.prog.wantsStandIn t = false := by simpa using this
  exact h2
end Go.Proofs.YtmmmebdgannpgaaGreatDoor.texts

namespace Go.Proofs.YtmmmebdgannpgaaGreatDoor
theorem texts_card : Rows.MonitorTextsCardSaid :=
  Claim7.holds_tied_plain_at .later [] _ _ _ _ texts.said (fun _ h => by cases h) (by kernel_rfl) (fun _ h => by cases h) monitorTexts_row_tie rfl ⟨rfl, rfl⟩ (by kernel_rfl) rfl texts.plain (by kernel_rfl)
#print axioms texts_card
end Go.Proofs.YtmmmebdgannpgaaGreatDoor
