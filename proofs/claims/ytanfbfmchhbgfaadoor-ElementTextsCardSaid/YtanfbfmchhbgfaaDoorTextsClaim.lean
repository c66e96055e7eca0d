/- ElementTexts answers true at every input. No conditions. -/
import Derived.Test.YtanfbfmchhbgfaaDoorLawPost
import Derived.Test.YtanfbfmchhbgfaaDoorTexts
import Derived.Test.YtanfbfmchhbgfaaDoorCards
import Derived.Test.YtanfbfmchhbgfaaDoorTie
namespace Go.Proofs.YtanfbfmchhbgfaaDoor
open Go Go.RowKit

theorem texts_any (e0 v0 : Int) (S : ByteArray) (lv : Value) (zs : List Int) (at_ by_ : Int) (w : World) (hG : Glo w) (hl : IntsAt w w.heap.size lv zs) (hat : I64 at_) (hby : 0 ≤ by_ ∧ by_ ≤ 255) (hS : S.size ≤ 9223372036854775807) :
    Calls Tryd.prog 3 #[.agg #[.int .i64 e0, .int .i64 v0], .string S, lv, .int .i64 at_, .int .u8 by_] w fun e w' => e = .returned (.bool true) ∧ Below w.heap.size w w' := by
  by_cases h60 : S.size ≤ 60
  · exact texts_short e0 v0 S lv zs at_ by_ w hG hl hat hby h60
  · have hlo : 60 < S.size := by omega
    have HG := Lib.hid hG
    clear hG hl hat hby h60
    go_enter Tryd.func3, Tryd.ntmps3
    go_wp2_with fail
    refine (awake_any _ (HG.out.alloc _)).mono ?_
    rintro r w1 ⟨rfl, hb⟩
    go_wp2_with fail
    go_ret
    exact ⟨rfl, below_then ((Below.refl _ _).alloc (Nat.le_refl _) _) hb⟩
end Go.Proofs.YtanfbfmchhbgfaaDoor

namespace Go.Proofs.YtanfbfmchhbgfaaDoor.texts
open Go Go.ChangeShapes Go.WideShapes Go.ChangeAt Go.RowKit
open Go.ChangeMaps (open_string)

noncomputable def zeroArgs : Array Value := #[.agg #[.int .i64 0, .int .i64 0], .string ⟨#[]⟩, .slice none 0 0, .int .i64 0, .int .u8 0]
theorem reads (os : Os) {H : Type} (enc : TypeId × Value → H) : ∃ places, DataW.whole enc Tryd.prog ((laidWorld os).forCall (fun _ _ => 0) ⟨#[], zeroArgs, []⟩).memory Tryd.f3.params.toList Rows.elementTextsSpec.vars false zeroArgs.toList 8 =
    some ([.agg [.lit (.int .i64 0), .lit (.int .i64 0)], .lit (.string []), .nil, .lit (.int .i64 0), .lit (.int .u8 0)], [], places) :=
  ⟨[], by kernel_rfl⟩

set_option maxRecDepth 100000 in
theorem lifted (os : Os) (started : os.Started) (H : Type) (enc : TypeId × Value → H) (F : Stop.Interp) :
    ReturnsInHanded {} Tryd.checked os 3 .any ((OpenSpec.ofChange Rows.elementTextsSpec).preRow enc Tryd.prog Tryd.f3 Rows.elementTextsRow.domain false Rows.elementTextsRow.laid) (((OpenSpec.ofChange Rows.elementTextsSpec).at F).post enc Tryd.prog Tryd.f3 false true false false) := by
  obtain ⟨places, hx⟩ := reads os enc
  refine returnsInHanded_of_row (C := Tryd.checked) (s := OpenSpec.ofChange Rows.elementTextsSpec) own started (by kernel_rfl) Tryd.func3
    (witness_row_at (enc := enc) (C := Tryd.checked) false (laidWorld os) zeroArgs rfl (by kernel_rfl) (by kernel_rfl) (by kernel_rfl)
      (OpenSpec.preRow_of_cond 8 hx (by kernel_rfl) (fun k hk => by cases hk) (by kernel_rfl) (laid_met os _))) ?_
  intro W base args ds gs before hval hW _ _ _ hL hsh _
  have hW' := hW
  obtain ⟨p, q, hA0, hV, rfl, hfz, hnd⟩ := hW
  have hA : DataW.TrodAll enc Tryd.prog W 0 (fun _ => true) true Tryd.f3.params.toList args.toList ds p := hA0
  rw [Tryd.params3] at hA hval
  obtain ⟨v0, vs0, d0, ds0, p0, q0, hargs, rfl, rfl, h0, r0⟩ := trodAll_cons hA
  obtain ⟨v1, vs1, d1, ds1, p1, q1, rfl, rfl, rfl, h1, r1⟩ := trodAll_cons r0
  obtain ⟨v2, vs2, d2, ds2, p2, q2, rfl, rfl, rfl, h2, r2⟩ := trodAll_cons r1
  obtain ⟨v3, vs3, d3, ds3, p3, q3, rfl, rfl, rfl, h3, r3⟩ := trodAll_cons r2
  obtain ⟨v4, vs4, d4, ds4, p4, q4, rfl, rfl, rfl, h4, r4⟩ := trodAll_cons r3
  obtain ⟨rfl, rfl, rfl⟩ := trodAll_nil r4
  obtain rfl : args = #[v0, v1, v2, v3, v4] := by cases args; simp_all
  obtain ⟨rfl, rfl⟩ := trodVars_none hV
  obtain ⟨zs, hl⟩ := open_list (hval 2 24 v2 rfl rfl) h2
  obtain ⟨at_, rfl, rfl, rfl, wat⟩ := open_int Tryd.underlying3 (hval 3 3 v3 rfl rfl) h3
  obtain ⟨by_, rfl, rfl, rfl, wby⟩ := open_int Tryd.underlying5 (hval 4 5 v4 rfl rfl) h4
  obtain ⟨S, rfl, rfl, rfl, hS⟩ := open_string Tryd.underlying9 (hval 1 9 v1 rfl rfl) h1
  obtain ⟨c0, c1, y0, y1, m, rfl, rfl, rfl, hy0, hy1⟩ := Joins.open_agg2 Tryd.underlying23 (by kernel_rfl) (by kernel_rfl) (hval 0 23 v0 rfl rfl) h0
  obtain ⟨e0, z0, rfl, _⟩ := DataW.trod_int Tryd.underlying3 hy0
  obtain ⟨x0, z1, rfl, _⟩ := DataW.trod_int Tryd.underlying3 hy1
  simp at z0 z1
  subst z0 z1
  refine (texts_any e0 x0 S v2 zs at_ by_ W (glo_of hL hsh) hl (wf_int wat) (wf_byte wby) (by unfold maxLen at hS; omega)).mono fun e W' ⟨he, hb⟩ => ?_
  subst he
  exact ⟨_, rfl, law_post laid_out (by kernel_rfl) (by kernel_rfl) Tryd.underlying4 hW' rfl rfl hb⟩

theorem said : Rows.ElementTextsSaid :=
  OpenClaim.holds_of_cond 3 Tryd.f3 rfl rfl rfl rfl rfl rfl rfl ⟨rfl, rfl, rfl, rfl, rfl⟩ rfl rfl rfl rfl rfl (by kernel_rfl) Tryd.func3 (by kernel_rfl)
    (of_decide_eq_true (by kernel_rfl)) (by unfold Func.isWrapper; first | (rw [if_pos (by decide +kernel)]; kernel_rfl) | (rw [if_neg (by decide +kernel)]; exact ⟨rfl, rfl⟩))
    (fun os started H enc _ F => by rw [OpenClaim.pre_eq_preRow]; exact lifted os started H enc F)

theorem plain (f : FuncId) (fn : Func) (hf : Tryd.pinned.checked.prog.funcNamed "synoptic/synopticlaw04.ElementTexts" = some f) (hfn : Tryd.pinned.checked.prog.funcs[f]? = some fn) :
    false = Tryd.pinned.checked.prog.looks [] ∧ ∀ (j : Nat) t, fn.params[j]? = some t → Tryd.pinned.checked.prog.wantsStandIn t = false := by
  obtain rfl : f = 3 := Option.some.inj ((show Tryd.prog.funcNamed "synoptic/synopticlaw04.ElementTexts" = some 3 by kernel_rfl).symm.trans hf) |>.symm
  obtain rfl : fn = Tryd.f3 := (Option.some.inj (Tryd.func3.symm.trans hfn)).symm
  refine ⟨by kernel_rfl, fun j t ht => ?_⟩
  have hall : (Tryd.f3.params.all fun t => !Tryd.prog.wantsStandIn t) = true := by kernel_rfl
  have := (Array.all_eq_true_iff_forall_mem.1 hall) t (Array.mem_of_getElem? ht)
  have h2 : Tryd.prog.wantsStandIn t = false := by simpa using this
  exact h2
end Go.Proofs.YtanfbfmchhbgfaaDoor.texts

namespace Go.Proofs.YtanfbfmchhbgfaaDoor
theorem texts_card : Rows.ElementTextsCardSaid :=
  Claim7.holds_tied_plain_at .later [] _ _ _ _ texts.said (fun _ h => by cases h) (by kernel_rfl) (fun _ h => by cases h) elementTexts_row_tie rfl ⟨rfl, rfl⟩ (by kernel_rfl) rfl texts.plain (by kernel_rfl)
#print axioms texts_card
end Go.Proofs.YtanfbfmchhbgfaaDoor
