/- ElementAnswers answers true at every input. No conditions. -/
import Derived.Test.YtanfbfmchhbgfaaDoorLawPost
import Derived.Test.YtanfbfmchhbgfaaDoorAnsLong
import Derived.Test.YtanfbfmchhbgfaaDoorCards
import Derived.Test.YtanfbfmchhbgfaaDoorTie

namespace Go.Proofs.YtanfbfmchhbgfaaDoor.answers
open Go Go.ChangeShapes Go.WideShapes Go.ChangeAt Go.RowKit
open Go.ChangeMaps (open_string)

noncomputable def zeroArgs : Array Value := #[.slice none 0 0, .slice none 0 0, .slice none 0 0, .int .i64 0, .string ⟨#[]⟩]
theorem reads (os : Os) {H : Type} (enc : TypeId × Value → H) : ∃ places, DataW.whole enc Tryd.prog ((laidWorld os).forCall (fun _ _ => 0) ⟨#[], zeroArgs, []⟩).memory Tryd.f6.params.toList Rows.elementAnswersSpec.vars false zeroArgs.toList 8 =
    some ([.nil, .nil, .nil, .lit (.int .i64 0), .lit (.string [])], [], places) :=
  ⟨[], by kernel_rfl⟩

set_option maxRecDepth 100000 in
theorem lifted (os : Os) (started : os.Started) (H : Type) (enc : TypeId × Value → H) (F : Stop.Interp) :
    ReturnsInHanded {} Tryd.checked os 6 .any ((OpenSpec.ofChange Rows.elementAnswersSpec).preRow enc Tryd.prog Tryd.f6 Rows.elementAnswersRow.domain false Rows.elementAnswersRow.laid) (((OpenSpec.ofChange Rows.elementAnswersSpec).at F).post enc Tryd.prog Tryd.f6 false true false false) := by
  obtain ⟨places, hx⟩ := reads os enc
  refine returnsInHanded_of_row (C := Tryd.checked) (s := OpenSpec.ofChange Rows.elementAnswersSpec) own started (by kernel_rfl) Tryd.func6
    (witness_row_at (enc := enc) (C := Tryd.checked) false (laidWorld os) zeroArgs rfl (by kernel_rfl) (by kernel_rfl) (by kernel_rfl)
      (OpenSpec.preRow_of_cond 8 hx (by kernel_rfl) (fun k hk => by cases hk) (by kernel_rfl) (laid_met os _))) ?_
  intro W base args ds gs before hval hW _ _ _ hL hsh _
  have hW' := hW
  obtain ⟨p, q, hA0, hV, rfl, hfz, hnd⟩ := hW
  have hA : DataW.TrodAll enc Tryd.prog W 0 (fun _ => true) true Tryd.f6.params.toList args.toList ds p := hA0
  rw [Tryd.params6] at hA hval
  obtain ⟨v0, vs0, d0, ds0, p0, q0, hargs, rfl, rfl, h0, r0⟩ := trodAll_cons hA
  obtain ⟨v1, vs1, d1, ds1, p1, q1, rfl, rfl, rfl, h1, r1⟩ := trodAll_cons r0
  obtain ⟨v2, vs2, d2, ds2, p2, q2, rfl, rfl, rfl, h2, r2⟩ := trodAll_cons r1
  obtain ⟨v3, vs3, d3, ds3, p3, q3, rfl, rfl, rfl, h3, r3⟩ := trodAll_cons r2
  obtain ⟨v4, vs4, d4, ds4, p4, q4, rfl, rfl, rfl, h4, r4⟩ := trodAll_cons r3
  obtain ⟨rfl, rfl, rfl⟩ := trodAll_nil r4
  obtain rfl : args = #[v0, v1, v2, v3, v4] := by cases args; simp_all
  obtain ⟨rfl, rfl⟩ := trodVars_none hV
  obtain ⟨ra0, rl0, rc0, rr0, e0, el0, em0, hr0⟩ := open_rds (hval 0 45 v0 rfl rfl) h0
  obtain ⟨zs1, hl1⟩ := open_list (hval 1 24 v1 rfl rfl) h1
  obtain ⟨zs2, hl2⟩ := open_list (hval 2 24 v2 rfl rfl) h2
  obtain ⟨x3, rfl, rfl, rfl, wx3⟩ := open_int Tryd.underlying3 (hval 3 3 v3 rfl rfl) h3
  obtain ⟨s4, rfl, rfl, rfl, hs4⟩ := open_string Tryd.underlying9 (hval 4 9 v4 rfl rfl) h4
  refine (answers_any v0 v1 v2 ra0 rl0 rc0 rr0 zs1 zs2 x3 s4 W (glo_of hL hsh) e0 el0 em0 hr0 hl1 hl2 hs4).mono fun e W' ⟨he, hb⟩ => ?_
  subst he
  exact ⟨_, rfl, law_post laid_out (by kernel_rfl) (by kernel_rfl) Tryd.underlying4 hW' rfl rfl hb⟩

theorem said : Rows.ElementAnswersSaid :=
  OpenClaim.holds_of_cond 6 Tryd.f6 rfl rfl rfl rfl rfl rfl rfl ⟨rfl, rfl, rfl, rfl, rfl⟩ rfl rfl rfl rfl rfl (by kernel_rfl) Tryd.func6 (by kernel_rfl)
    (of_decide_eq_true (by kernel_rfl)) (by unfold Func.isWrapper; first | (rw [if_pos (by decide +kernel)]; kernel_rfl) | (rw [if_neg (by decide +kernel)]; exact ⟨rfl, rfl⟩))
    (fun os started H enc _ F => by rw [OpenClaim.pre_eq_preRow]; exact lifted os started H enc F)

theorem plain (f : FuncId) (fn : Func) (hf : Tryd.pinned.checked.prog.funcNamed "synoptic/synopticlaw04.ElementAnswers" = some f) (hfn : Tryd.pinned.checked.prog.funcs[f]? = some fn) :
    false = Tryd.pinned.checked.prog.looks [] ∧ ∀ (j : Nat) t, fn.params[j]? = some t → Tryd.pinned.checked.prog.wantsStandIn t = false := by
  obtain rfl : f = 6 := Option.some.inj ((show Tryd.prog.funcNamed "synoptic/synopticlaw04.ElementAnswers" = some 6 by kernel_rfl).symm.trans hf) |>.symm
  obtain rfl : fn = Tryd.f6 := (Option.some.inj (Tryd.func6.symm.trans hfn)).symm
  refine ⟨by kernel_rfl, fun j t ht => ?_⟩
  have hall : (Tryd.f6.params.all fun t => !Tryd.prog.wantsStandIn t) = true := by kernel_rfl
  have := (Array.all_eq_true_iff_forall_mem.1 hall) t (Array.mem_of_getElem? ht)
  have h2 : Tryd.prog.wantsStandIn t = false := by simpa using this
  exact h2
end Go.Proofs.YtanfbfmchhbgfaaDoor.answers

namespace Go.Proofs.YtanfbfmchhbgfaaDoor
theorem answers_card : Rows.ElementAnswersCardSaid :=
  Claim7.holds_tied_plain_at .later [] _ _ _ _ answers.said (fun _ h => by cases h) (by kernel_rfl) (fun _ h => by cases h) elementAnswers_row_tie rfl ⟨rfl, rfl⟩ (by kernel_rfl) rfl answers.plain (by kernel_rfl)
#print axioms answers_card
end Go.Proofs.YtanfbfmchhbgfaaDoor
