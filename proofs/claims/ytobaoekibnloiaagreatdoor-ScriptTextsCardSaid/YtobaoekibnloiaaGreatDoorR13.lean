/- Part 13 of the proof: laws on memory and what functions of the program return. No conditions but those that each theorem names. -/
import Derived.Test.YtobaoekibnloiaaGreatDoorR12
import Derived.Lib.Builder
import Derived.Lib.AppendStr
import Derived.Lib.UnsafeStr
import Derived.Lib.MakeNoZero
import Derived.Lib.Strings
import Derived.Lib.Walk
import Derived.WalkKit
import Derived.WalkLawsBesides
import Derived.Laws.Externs
import Derived.Outline
import Derived.Lib.Hide
import Derived.RegionTactic
set_option linter.unusedVariables false
set_option linter.unusedSimpArgs false
/- script's Write of a station. Printed by gen_pwrs.py. -/
namespace Go.Proofs.YtobaoekibnloiaaGreatDoor
open Go Go.RowKit

set_option maxHeartbeats 8000000 in
set_option maxRecDepth 100000 in
theorem pwrite_open (k : Nat) (nm : ByteArray) (s f a b0 d : Int) (l : List (Int × Int)) (hk1 : 1 ≤ k) (hk3 : k ≤ 3) (hn : nameOk nm = true) (hs : ¬ longI s) (hf : ¬ longI f) (ha : ¬ longI a) (hb0 : ¬ longI b0) (hd : ¬ longI d) (hl : ∀ p ∈ l, ¬ longI p.1 ∧ ¬ longI p.2) (bv cv : Value) (w : World) (hp : EvParts 0 w ⟨4, ⟨#[]⟩, [], 0, ((k : Nat) : Int), nm, s, false, f, a, b0, d, l⟩ bv cv) (hE : Env w) :
    Calls Tryz.prog 15 #[Ev.val ⟨4, ⟨#[]⟩, [], 0, ((k : Nat) : Int), nm, s, false, f, a, b0, d, l⟩ bv cv] w (PLineIs (lineW ⟨4, ⟨#[]⟩, [], 0, ((k : Nat) : Int), nm, s, false, f, a, b0, d, l⟩) w) := by
  have hg : Good ⟨4, ⟨#[]⟩, [], 0, ((k : Nat) : Int), nm, s, false, f, a, b0, d, l⟩ := .put _ _ _ _ _ _ _ _ (by omega) (by omega) hn hs hf ha hb0 hd hl
  have hpz := pl_size hg ⟨by simp [ByteArray.size], by simp, hp.ok.name, by obtain ⟨_, _, _, h, _⟩ := hp.bias; exact h⟩
  have hr := fun w' (hb : Below w.heap.size w w') => check_any ⟨4, ⟨#[]⟩, [], 0, ((k : Nat) : Int), nm, s, false, f, a, b0, d, l⟩ bv cv w' (hE.below hb hE.size) (hp.below hb)
  unfold CheckIs at hr
  rw [ok_of_good hg] at hr
  have HR := Lib.hid hr
  have EB := Lib.hid (EvAt.new w (evCells ⟨4, ⟨#[]⟩, [], 0, ((k : Nat) : Int), nm, s, false, f, a, b0, d, l⟩ bv cv) rfl 36)
  have HP := Lib.hid (fun w' (hb : Below w.heap.size w w') => hp.below hb)
  have HE := Lib.hid hE
  have hs8 := hE.size
  have hnm := hp.ok.name
  have hll : l.length ≤ 2000000 := by obtain ⟨_, _, _, h, _⟩ := hp.bias; exact h
  have His := Lib.hid (not_long hs)
  have HJf := Lib.hid (not_long hf)
  have HJa := Lib.hid (not_long ha)
  have HJb0 := Lib.hid (not_long hb0)
  have HJd := Lib.hid (not_long hd)
  have HLN := Lib.hid hl
  have hbi := hp.bias
  obtain ⟨ba, bc, rfl, hz1⟩ := hp.bytes
  obtain ⟨ca, cc, rfl, hz2⟩ := hp.bias
  have Hcells := Lib.hid (fun j => @BiasIn.cellsAt 0 w ca cc l hbi j)
  have Hlen : Hid (∀ m, m = l.length → m = l.length) := fun _ h => h
  clear hz1 hz2 hbi hn hs hl hf ha hb0 hd
  clear hr hp hE hg
  have HQ : Hid (evWords ⟨4, ⟨#[]⟩, [], 0, ((k : Nat) : Int), nm, s, false, f, a, b0, d, l⟩ = ([kwStation, kindW k, nm, istr s] ++ [kwAt, istr f, istr a, istr b0, istr d]) ++ biasW l) := by unfold Hid; simp [evWords, placeW]
  unfold lineW
  rw [HQ.out] at hpz ⊢
  have HPZ := Lib.hid hpz
  clear hpz
  unfold Ev.val evCells
  unfold evCells at EB
  simp only at EB ⊢
  go_enter Tryz.func15, Tryz.ntmps15
  go_wp2_with (refine ev_load rfl _ rfl _ rfl _ EB.out ?_)
  refine (HR.out _ (one_below _ _)).mono ?_
  rintro e w1 ⟨rfl, hb1⟩
  have HB1 := Lib.hid (below_then (one_below w _) hb1)
  have EB1 := Lib.hid (EB.out.below hb1)
  have e0 := EB1.out.facts.1
  have hix : ∀ wx, (Instr.index 67 (.agg #[.string ⟨#[]⟩, .string ⟨#[116, 101, 120, 116]⟩, .string ⟨#[98, 105, 110, 97, 114, 121]⟩, .string ⟨#[116, 105, 99, 107]⟩, .string ⟨#[115, 116, 97, 116, 105, 111, 110]⟩, .string ⟨#[99, 114, 97, 115, 104]⟩, .string ⟨#[114, 101, 112, 101, 97, 116]⟩]) (.int .i64 4)).run Tryz.prog wx = .ok (.string kwStation) wx := fun _ => by kernel_rfl
  clear hb1
  go_upto_region 6 with fail
  clear hix e0
  have hslot : (w1.alloc (.cells #[.string kwStation] 9)).heap.size = w1.heap.size + 1 := by simp
  obtain ⟨v2, hv2⟩ : ∃ v2, v2 = (w1.alloc (.cells #[.string kwStation] 9)).alloc (.cells #[.slice (some ⟨w1.heap.size, 0, none⟩) 1 1] 29) := ⟨_, rfl⟩
  rw [← hv2]
  have HW2 : Hid (WordsAt v2 (w1.heap.size + 1) w1.heap.size (.slice (some ⟨w1.heap.size, 0, none⟩) 1 1) [kwStation]) := by rw [hv2]; exact WordsAt.first w1 _
  have hb2 : Below w1.heap.size w1 v2 := by rw [hv2]; exact ((Below.refl _ _).alloc (Nat.le_refl _) _).alloc (by simp) _
  have HS2 : Hid (v2.heap.size = w1.heap.size + 1 + 1) := by unfold Hid; rw [hv2]; simp
  have HB2 := Lib.hid (below_then HB1.out hb2)
  have EB2 := Lib.hid (EB1.out.below hb2)
  have Hlt : Hid (w.heap.size < w1.heap.size) := EB1.out.lt
  clear hv2 hb2 hslot
  obtain ⟨b, hb⟩ : ∃ b, b = w1.heap.size + 1 := ⟨_, rfl⟩
  rw [← hb]
  rw [← hb] at HW2
  have HBb := Lib.hid hb
  clear hb EB EB1 HR
  obtain ⟨H, hH⟩ : ∃ H, H = w1.heap.size := ⟨_, rfl⟩
  rw [← hH] at HW2 HS2 HBb Hlt ⊢
  clear hH
  obtain ⟨kwd, hkwd⟩ : ∃ kwd, kwd = KL.getD k ByteArray.empty := ⟨_, rfl⟩
  have HKW := Lib.hid hkwd
  have HKd : Hid (kwd = kindW k) := by
    unfold Hid; rw [hkwd]
    have : k = 1 ∨ k = 2 ∨ k = 3 := by omega
    rcases this with rfl | rfl | rfl <;> rfl
  have k0 : (0 : Int) ≤ (k : Int) := by omega
  have k1 : (k : Int) < 4 := by omega
  clear hkwd
  obtain ⟨ll, hll2⟩ : ∃ ll, ll = l.length := ⟨_, rfl⟩
  have Hll : Hid (ll = l.length) := hll2
  rw [← hll2] at EB2 hll ⊢
  clear hll2 hk1
  have e0 := EB2.out.facts.1
  have hv0 : v2.drew.cell? ⟨b, 0, none⟩ = some (.slice (some ⟨H, 0, none⟩) 1 1) := HW2.out.var.1
  have HWc : Hid (WordsAt v2.drew b H (.slice (some ⟨H, 0, none⟩) 1 1) [kwStation]) := HW2.out.below (Below.refl v2.heap.size v2).drew
  have HBc := Lib.hid HB2.out.drew
  have HSc : Hid (H ≤ v2.drew.heap.size) := by have := HS2.out; unfold Hid; show H ≤ v2.heap.size; omega
  go_wp2_with fail
  clear e0
  refine wp_region_held_drew (S := (fun wx => EvAt wx w.heap.size [.int .i64 4, .string ⟨#[]⟩, .slice ba 0 bc, .int .i64 0, .int .i64 k, .string nm, .int .i64 s, .bool false, .int .i64 f, .int .i64 a, .int .i64 b0, .int .i64 d, .slice ca ll cc])) (by kernel_rfl) EB2.out.drew (fun hHeld => ?_)
  refine wpAnyH_takeD (i := 2) (d := some 52) (v := .pointer (some ⟨w.heap.size, 4, none⟩)) rfl rfl (by kernel_rfl) (by kernel_rfl) (by kernel_rfl) (fun _ _ _ h => h) (Or.inl ⟨by rfl, fun _ _ => by rfl⟩) (by assumption) ?_
  simp only [Act.put, List.setIfInBounds_toArray, List.set_cons_zero, List.set_cons_succ]
  refine wpAnyH_takeD (i := 3) (d := some 53) (v := .int .i64 k) rfl rfl (by kernel_rfl) (by kernel_rfl) (by kernel_rfl) (fun _ _ _ h => h) (Or.inl ⟨by rfl, fun wx hx => by (have q := (EvAt.facts hx).2.2.2.2.1; go_simp)⟩) (by assumption) ?_
  simp only [Act.put, List.setIfInBounds_toArray, List.set_cons_zero, List.set_cons_succ]
  refine wpAnyH_takeD (i := 6) (d := some 56) (v := .pointer (some ⟨w.heap.size, 5, none⟩)) rfl rfl (by kernel_rfl) (by kernel_rfl) (by kernel_rfl) (fun _ _ _ h => h) (Or.inl ⟨by rfl, fun _ _ => by rfl⟩) (by assumption) ?_
  simp only [Act.put, List.setIfInBounds_toArray, List.set_cons_zero, List.set_cons_succ]
  refine wpAnyH_takeD (i := 7) (d := some 57) (v := .string nm) rfl rfl (by kernel_rfl) (by kernel_rfl) (by kernel_rfl) (fun _ _ _ h => h) (Or.inl ⟨by rfl, fun wx hx => by (have q := (EvAt.facts hx).2.2.2.2.2.1; go_simp)⟩) (by assumption) ?_
  simp only [Act.put, List.setIfInBounds_toArray, List.set_cons_zero, List.set_cons_succ]
  refine wpAnyH_ready (rs := [0, 1]) (by kernel_rfl) (by simp) ?_
  refine AllReadyH.cons rfl (fun K hK => ?_) (AllReadyH.cons rfl (fun K hK => ?_) AllReadyH.nil)
  · rw [if_pos (by rfl)]
    go_simp
    refine hK.out _ _ (hHeld) (fun hHeld => ?_)
    clear hK K
    refine wpAnyH_ready (rs := [1]) (by kernel_rfl) (by simp) ?_
    refine AllReadyH.cons rfl (fun K hK => ?_) AllReadyH.nil
    rw [if_pos (by rfl)]
    go_simp
    refine (skinds_at v2.drew v2.heap.size rfl).mono ?_
    rintro e w4 ⟨rfl, hb4, hH4, hkc⟩
    refine hK.out _ _ (EvAt.below hHeld hb4) (fun hHeld => ?_)
    clear hK K
    have HW4 := Lib.hid (HWc.out.below hb4)
    have HB4 := Lib.hid (below_then HBc.out hb4)
    have HSd := Lib.hid (Nat.le_trans HSc.out hb4.size)
    have hE4 := hHeld
    have hvd := HW4.out.var.1
    have hkk : w4.cell? ⟨v2.heap.size, k, none⟩ = some (.string kwd) := by rw [HKW.out]; exact hkc k (by omega)
    clear hkc hH4
    obtain ⟨v', w', hrun, hc1, hs1, hw1, hf1, ⟨oa2, om2, oc2, rfl⟩, hf0⟩ := HW4.out.more [kwd, nm] (by simp) (by simp) HSd.out (by have := HBb.out; omega) 29
    have Hrun := Lib.hid hrun
    have HWn := Lib.hid hw1
    have HFn := Lib.hid hf1
    have HF0 := Lib.hid hf0
    clear hrun hw1 hf1 hf0
    clear hb4
    refine wpAnyH_takeD (i := 4) (d := some 54) (v := .pointer (some ⟨v2.heap.size, k, none⟩)) rfl rfl (by kernel_rfl) (by kernel_rfl) (by kernel_rfl) (fun _ _ _ h => h) (Or.inl ⟨by rfl, fun wx hx => by (go_simp)⟩) (by assumption) ?_
    simp only [Act.put, List.setIfInBounds_toArray, List.set_cons_zero, List.set_cons_succ]
    refine wpAnyH_ready (rs := [5]) (by kernel_rfl) (by simp) ?_
    refine AllReadyH.cons rfl (fun K hK => ?_) AllReadyH.nil
    rw [if_pos (by rfl)]
    go_simp
    refine hK.out _ _ (hHeld) (fun hHeld => ?_)
    clear hK K
    refine wpAnyH_ready (rs := [8]) (by kernel_rfl) (by simp) ?_
    refine AllReadyH.cons rfl (fun K hK => ?_) AllReadyH.nil
    rw [if_pos (by rfl)]
    go_simp
    refine hK.out _ _ (EvAt.alloc hHeld _) (fun hHeld => ?_)
    clear hK K
    have hva := cell_then ((Below.refl w4.heap.size w4).alloc (Nat.le_refl _) (.cells #[.string kwd, .string nm] 9)) HW4.out.var.1
    refine wpAnyH_ready (rs := [9]) (by kernel_rfl) (by simp) ?_
    refine AllReadyH.cons rfl (fun K hK => ?_) AllReadyH.nil
    refine step_append_run rfl _ _ _ rfl _ _ _ _ rfl rfl Hrun.out ?_
    refine hK.out _ _ (EvAt.of_block hE4 (HF0.out.1.block _ Hlt.out)) (fun hHeld => ?_)
    clear hK K
    simp only [Act.put, List.setIfInBounds_toArray, List.set_cons_zero, List.set_cons_succ]
    refine wpAnyH_ready (rs := [10]) (by kernel_rfl) (by simp) ?_
    refine AllReadyH.cons rfl (fun K hK => ?_) AllReadyH.nil
    rw [if_pos (by rfl)]
    go_simp
    refine hK.out _ _ (EvAt.other hHeld (by have := HBb.out; have := Hlt.out; simp; omega) _) (fun hHeld => ?_)
    clear hK K
    clear hc1 hs1
    refine wpAnyH_done (by kernel_rfl) ?_ _
    obtain ⟨v8, hv8⟩ : ∃ v8, v8 = w'.setCell ⟨b, 0, none⟩ (.slice oa2 om2 oc2) := ⟨_, rfl⟩
    rw [← hv8]
    rw [← hv8] at HWn HFn
    have HB8 : Hid (Below w.heap.size w v8) := HB4.out.trans (HFn.out.1.mono (Nat.le_of_lt Hlt.out))
    have HW8 : Hid (WordsAt v8 b H (.slice oa2 om2 oc2) [kwStation, kwd, nm]) := HWn.out
    have EB8 : Hid (EvAt v8 w.heap.size [.int .i64 4, .string ⟨#[]⟩, .slice ba 0 bc, .int .i64 0, .int .i64 k, .string nm, .int .i64 s, .bool false, .int .i64 f, .int .i64 a, .int .i64 b0, .int .i64 d, .slice ca ll cc]) := EvAt.of_block hE4 (HFn.out.1.block _ Hlt.out)
    have HS8 : Hid (H ≤ v8.heap.size) := Nat.le_trans HSd.out HFn.out.1.size
    clear hv8 HWn HFn hHeld hE4 hkk hvd hv0 HW4 HB4 HSd HF0 Hrun
    try clear hva
    have e6 := EB8.out.facts.2.2.2.2.2.2.1
    go_wp2_with fail
    clear e6
    refine (padd_any b H _ [kwStation, kwd, nm] (.slice (some ⟨v8.heap.size, 0, none⟩) 1 1) [s] (v8.alloc (.cells #[.int .i64 s] 3)) (HW8.out.below ((Below.refl _ _).alloc (Nat.le_refl _) _)) (IntsT.at v8 _ rfl [s]) (by simp; exact His.out) (HE.out.below (HB8.out.alloc HB8.out.size _) hs8) (by have := Hlt.out; omega) (by have := HS8.out; simp; omega) (by have := HBb.out; omega) (by simp) (by simp)).mono ?_
    rintro e w5 ⟨rfl, ⟨v5, hw5⟩, hf5⟩
    have HW5 : Hid (WordsAt w5 b H v5 [kwStation, kwd, nm, istr s]) := hw5
    have HB5 : Hid (Below w.heap.size w w5) := (HB8.out.alloc HB8.out.size _).trans (hf5.1.mono (by have := Hlt.out; omega))
    have EB5 : Hid (EvAt w5 w.heap.size [.int .i64 4, .string ⟨#[]⟩, .slice ba 0 bc, .int .i64 0, .int .i64 k, .string nm, .int .i64 s, .bool false, .int .i64 f, .int .i64 a, .int .i64 b0, .int .i64 d, .slice ca ll cc]) := (EB8.out.alloc _).of_block (hf5.1.block _ Hlt.out)
    have HS5 : Hid (H ≤ w5.heap.size) := Nat.le_trans HS8.out (Nat.le_trans (by simp) hf5.1.size)
    clear hw5 hf5 HW8 HB8 EB8
    have g7 := EB5.out.facts.2.2.2.2.2.2.2.1
    have g8 := EB5.out.facts.2.2.2.2.2.2.2.2.1
    have g9 := EB5.out.facts.2.2.2.2.2.2.2.2.2.1
    have g10 := EB5.out.facts.2.2.2.2.2.2.2.2.2.2.1
    have g11 := EB5.out.facts.2.2.2.2.2.2.2.2.2.2.2.1
    go_upto_region 18 with fail
    clear g8 g9 g10 g11
    obtain ⟨w6, hw6⟩ : ∃ w6, w6 = w5.alloc (.cells #[.int .i64 f, .int .i64 a, .int .i64 b0, .int .i64 d] 31) := ⟨_, rfl⟩
    rw [← hw6]
    have hb6 : Below w5.heap.size w5 w6 := by rw [hw6]; exact (Below.refl _ _).alloc (Nat.le_refl _) _
    have HW6 := Lib.hid (HW5.out.below hb6)
    have HB6 := Lib.hid (below_then HB5.out hb6)
    have EB6 := Lib.hid (EB5.out.below hb6)
    have HS6 := Lib.hid (Nat.le_trans HS5.out hb6.size)
    have HT6 : Hid (Typed w6 w5.heap.size 31 ∧ ∀ i, i < 4 → w6.cell? ⟨w5.heap.size, i, none⟩ = [Value.int .i64 f, .int .i64 a, .int .i64 b0, .int .i64 d][i]?) := by
      rw [hw6]; exact ⟨⟨_, _, heap_alloc_new w5 _⟩, fun i hi => by simp⟩
    have Hne6 : Hid (w5.heap.size ≠ b) := by have := lt_of_block HW5.out.1; unfold Hid; omega
    have g7' := EB6.out.facts.2.2.2.2.2.2.2.1
    clear hb6 hw6 g7
    obtain ⟨sa6, sc6, rfl⟩ := HW6.out.slice
    have hvc : w6.cell? ⟨b, 0, none⟩ = some (.slice sa6 4 sc6) := HW6.out.var.1
    obtain ⟨v', w', hrun, hc1, hs1, hw1, hf1, ⟨oa2, om2, oc2, rfl⟩, hf0⟩ := HW6.out.more [kwAt] (by simp) (by simp) HS6.out (by have := HBb.out; omega) 29
    have Hrun := Lib.hid hrun
    have HWn := Lib.hid hw1
    have HFn := Lib.hid hf1
    clear hrun hw1 hf1 hf0
    go_upto_region 21 with (at_builtin; refine wpList_append_run rfl _ _ _ rfl _ _ _ _ rfl rfl Hrun.out ?_)
    clear hc1 hs1 hvc g7'
    obtain ⟨w7, hw7⟩ : ∃ w7, w7 = w'.setCell ⟨b, 0, none⟩ (.slice oa2 om2 oc2) := ⟨_, rfl⟩
    rw [← hw7]
    rw [← hw7] at HWn HFn
    have HW7 : Hid (WordsAt w7 b H (.slice oa2 om2 oc2) [kwStation, kwd, nm, istr s, kwAt]) := HWn.out
    have HB7 : Hid (Below w.heap.size w w7) := HB6.out.trans (HFn.out.1.mono (Nat.le_of_lt Hlt.out))
    have EB7 : Hid (EvAt w7 w.heap.size [.int .i64 4, .string ⟨#[]⟩, .slice ba 0 bc, .int .i64 0, .int .i64 k, .string nm, .int .i64 s, .bool false, .int .i64 f, .int .i64 a, .int .i64 b0, .int .i64 d, .slice ca ll cc]) := EB6.out.of_block (HFn.out.1.block _ Hlt.out)
    have HS7 : Hid (H ≤ w7.heap.size) := Nat.le_trans HS6.out HFn.out.1.size
    have HT7 : Hid (∀ i, i < 4 → w7.cell? ⟨w5.heap.size, i, none⟩ = [Value.int .i64 f, .int .i64 a, .int .i64 b0, .int .i64 d][i]?) := fun i hi => by
      have e : w7.cell? ⟨w5.heap.size, i, none⟩ = w6.cell? ⟨w5.heap.size, i, none⟩ := World.cell?_of_block (w := w6) (HFn.out.2 w5.heap.size _ (by decide) Hne6.out HT6.out.1)
      rw [e]; exact HT6.out.2 i hi
    clear hw7 HWn HFn Hrun HW6 HB6 EB6 HS6 HT6 HW5 HB5 EB5 HS5
    have q0 : w7.cell? ⟨w5.heap.size, 0, none⟩ = some (.int .i64 f) := HT7.out 0 (by omega)
    have q1 : w7.cell? ⟨w5.heap.size, 1, none⟩ = some (.int .i64 a) := HT7.out 1 (by omega)
    have q2 : w7.cell? ⟨w5.heap.size, 2, none⟩ = some (.int .i64 b0) := HT7.out 2 (by omega)
    have q3 : w7.cell? ⟨w5.heap.size, 3, none⟩ = some (.int .i64 d) := HT7.out 3 (by omega)
    go_wp2_with fail
    clear q0 q1 q2 q3
    refine (padd_any b H _ [kwStation, kwd, nm, istr s, kwAt] (.slice (some ⟨w7.heap.size, 0, none⟩) 4 4) [f, a, b0, d] (w7.alloc (.cells #[.int .i64 f, .int .i64 a, .int .i64 b0, .int .i64 d] 3)) (HW7.out.below ((Below.refl _ _).alloc (Nat.le_refl _) _)) (IntsT.at w7 _ rfl [f, a, b0, d]) (by simp; exact ⟨HJf.out, HJa.out, HJb0.out, HJd.out⟩) (HE.out.below (HB7.out.alloc HB7.out.size _) hs8) (by have := Hlt.out; omega) (by have := HS7.out; simp; omega) (by have := HBb.out; omega) (by simp) (by simp)).mono ?_
    rintro e wl ⟨rfl, ⟨vl, hwl⟩, hfl⟩
    have HWl : Hid (WordsAt wl b H vl [kwStation, kwd, nm, istr s, kwAt, istr f, istr a, istr b0, istr d]) := hwl
    have HBl : Hid (Below w.heap.size w wl) := (HB7.out.alloc HB7.out.size _).trans (hfl.1.mono (by have := Hlt.out; omega))
    have EBl : Hid (EvAt wl w.heap.size [.int .i64 4, .string ⟨#[]⟩, .slice ba 0 bc, .int .i64 0, .int .i64 k, .string nm, .int .i64 s, .bool false, .int .i64 f, .int .i64 a, .int .i64 b0, .int .i64 d, .slice ca ll cc]) := (EB7.out.alloc _).of_block (hfl.1.block _ Hlt.out)
    have HSl : Hid (H ≤ wl.heap.size) := Nat.le_trans HS7.out (Nat.le_trans (by simp) hfl.1.size)
    clear hwl hfl HW7 HB7 EB7 HS7 HT7
    obtain ⟨HD, hHD⟩ : ∃ HD, HD = [kwStation, kwd, nm, istr s, kwAt, istr f, istr a, istr b0, istr d] := ⟨_, rfl⟩
    rw [← hHD] at HWl
    have HHD : Hid (HD ++ biasW l = ([kwStation, kindW k, nm, istr s] ++ [kwAt, istr f, istr a, istr b0, istr d]) ++ biasW l) := by unfold Hid; rw [hHD, HKd.out]; rfl
    have hHDl : HD.length ≤ 9 := by rw [hHD]; simp
    clear hHD
    have e12 := EBl.out.facts.2.2.2.2.2.2.2.2.2.2.2.2
    go_wp2_with fail
    clear e12
    go_loopw [93] (fun x wr => ∃ (j : Nat) (v : Value), j ≤ ll ∧ x = .int .i64 j ∧ WordsAt wr b H v (HD ++ biasW (l.take j)) ∧ Below w.heap.size w wr ∧ H ≤ wr.heap.size) (fun x _ => (ll - intOf x).toNat)
    case atStart => exact ⟨0, vl, by omega, rfl, by simpa [biasW] using HWl.out, HBl.out, HSl.out⟩
    case round =>
      obtain ⟨j, v, hj, rfl, hwr, hBr, hSr⟩ := hrel
      have hWn : (HD ++ biasW (l.take j)).length ≤ 10000000 := by
        have := bias_len (l.take j)
        have h2 : (l.take j).length ≤ 2000000 := by rw [List.length_take]; have := Hll.out; omega
        rw [List.length_append]; omega
      by_cases hlt : j < ll
      · have hjl : j < l.length := by have := Hll.out; omega
        obtain ⟨ab, ao, rfl, p0, p1⟩ := Hcells.out j hjl
        have p0 := cell_then hBr p0
        have p1 := cell_then hBr p1
        have hm : l.getD j (0, 0) ∈ l := by rw [getD_mem hjl]; exact List.getElem_mem hjl
        have hnl := HLN.out _ hm
        have Hu := Lib.hid (not_long hnl.1)
        have Hv := Lib.hid (not_long hnl.2)
        have Htk : Hid (HD ++ biasW (l.take (j + 1)) = (HD ++ biasW (l.take j)) ++ [kwBias] ++ [istr (l.getD j (0, 0)).1, istr (l.getD j (0, 0)).2]) := by
          unfold Hid
          have e : biasW (l.take (j + 1)) = biasW (l.take j) ++ [kwBias, istr (l.getD j (0, 0)).1, istr (l.getD j (0, 0)).2] := by
            rw [List.take_succ_eq_append_getElem hjl, getD_mem hjl]; unfold biasW; rw [List.flatMap_append]; rfl
          rw [e, List.append_assoc, List.append_assoc]; rfl
        generalize (l.getD j (0, 0)).1 = u at *
        generalize (l.getD j (0, 0)).2 = y at *
        clear hm hnl
        have HWr := Lib.hid hwr
        have HBr := Lib.hid hBr
        have HSr := Lib.hid hSr
        have HWn := Lib.hid hWn
        generalize HD ++ biasW (l.take j) = W at *
        clear hwr hBr hSr hWn
        have i0 : (0 : Int) ≤ (j : Int) := by omega
        have i1 : (j : Int) < (ll : Int) := by omega
        go_upto_region 25 with fail
        clear p0 p1
        obtain ⟨wa, hwa⟩ : ∃ wa, wa = wr.alloc (.cells #[.int .i64 u, .int .i64 y] 51) := ⟨_, rfl⟩
        rw [← hwa]
        have hba : Below wr.heap.size wr wa := by rw [hwa]; exact (Below.refl _ _).alloc (Nat.le_refl _) _
        have HWa := Lib.hid (HWr.out.below hba)
        have HBa := Lib.hid (below_then HBr.out hba)
        have HSa := Lib.hid (Nat.le_trans HSr.out hba.size)
        have HTa : Hid (Typed wa wr.heap.size 51 ∧ wa.cell? ⟨wr.heap.size, 0, none⟩ = some (.int .i64 u) ∧ wa.cell? ⟨wr.heap.size, 1, none⟩ = some (.int .i64 y)) := by
          rw [hwa]; exact ⟨⟨_, _, heap_alloc_new wr _⟩, by simp, by simp⟩
        have Hnea : Hid (wr.heap.size ≠ b) := by have := lt_of_block HWr.out.1; unfold Hid; omega
        clear hba hwa
        obtain ⟨sa, sc, rfl⟩ := HWa.out.slice
        have hvc := HWa.out.var.1
        obtain ⟨v', w', hrun, hc1, hs1, hw1, hf1, ⟨oa2, om2, oc2, rfl⟩, hf0⟩ := HWa.out.more [kwBias] (by have := HWn.out; omega) (by simp) HSa.out (by have := HBb.out; omega) 29
        have Hrun := Lib.hid hrun
        have HWn2 := Lib.hid hw1
        have HFn := Lib.hid hf1
        clear hrun hw1 hf1 hf0
        generalize hWl2 : W.length = Wl at *
        go_upto_region 26 with (at_builtin; refine wpList_append_run rfl _ _ _ rfl _ _ _ _ rfl rfl Hrun.out ?_)
        clear hc1 hs1 hvc
        obtain ⟨wb, hwb⟩ : ∃ wb, wb = w'.setCell ⟨b, 0, none⟩ (.slice oa2 om2 oc2) := ⟨_, rfl⟩
        rw [← hwb]
        rw [← hwb] at HWn2 HFn
        have HBb2 : Hid (Below w.heap.size w wb) := HBa.out.trans (HFn.out.1.mono (Nat.le_of_lt Hlt.out))
        have HSb2 : Hid (H ≤ wb.heap.size) := Nat.le_trans HSa.out HFn.out.1.size
        have eb := HFn.out.2 wr.heap.size _ (by decide) Hnea.out HTa.out.1
        have q0 : wb.cell? ⟨wr.heap.size, 0, none⟩ = some (.int .i64 u) := by
          have e : wb.cell? ⟨wr.heap.size, 0, none⟩ = wa.cell? ⟨wr.heap.size, 0, none⟩ := World.cell?_of_block (w := wa) eb
          rw [e]; exact HTa.out.2.1
        have q1 : wb.cell? ⟨wr.heap.size, 1, none⟩ = some (.int .i64 y) := by
          have e : wb.cell? ⟨wr.heap.size, 1, none⟩ = wa.cell? ⟨wr.heap.size, 1, none⟩ := World.cell?_of_block (w := wa) eb
          rw [e]; exact HTa.out.2.2
        clear eb hwb HFn Hrun HTa HWa HBa HSa
        go_wp2_with fail
        clear q0 q1
        refine (padd_any b H _ (W ++ [kwBias]) (.slice (some ⟨wb.heap.size, 0, none⟩) 2 2) [u, y] (wb.alloc (.cells #[.int .i64 u, .int .i64 y] 3)) (HWn2.out.below ((Below.refl _ _).alloc (Nat.le_refl _) _)) (IntsT.at wb _ rfl [u, y]) (by simp; exact ⟨Hu.out, Hv.out⟩) (HE.out.below (HBb2.out.alloc HBb2.out.size _) hs8) (by have := Hlt.out; omega) (by have := HSb2.out; simp; omega) (by have := HBb.out; omega) (by have := HWn.out; simp; omega) (by simp)).mono ?_
        rintro e wc ⟨rfl, ⟨vc, hwc⟩, hfc⟩
        have HWc2 : Hid (WordsAt wc b H vc (W ++ [kwBias] ++ [istr u, istr y])) := hwc
        have HBc2 : Hid (Below w.heap.size w wc) := (HBb2.out.alloc HBb2.out.size _).trans (hfc.1.mono (by have := Hlt.out; omega))
        have HSc2 : Hid (H ≤ wc.heap.size) := Nat.le_trans HSb2.out (Nat.le_trans (by simp) hfc.1.size)
        clear hwc hfc
        go_wp2_with fail
        go_roundw
        case rel => exact ⟨j + 1, vc, by omega, by go_num, by rw [Htk.out]; exact HWc2.out, HBc2.out, HSc2.out⟩
        case measure => simp [intOf]; omega
      · obtain rfl : j = ll := by omega
        have hle : l.take j = l := by rw [Hll.out, List.take_length]
        rw [hle, HHD.out] at hwr
        have HWf := Lib.hid hwr
        have HBf := Lib.hid hBr
        obtain ⟨RR, hRR⟩ : ∃ RR, RR = ([kwStation, kindW k, nm, istr s] ++ [kwAt, istr f, istr a, istr b0, istr d]) ++ biasW l := ⟨_, rfl⟩
        have h0 : RR ≠ [] := by rw [hRR]; simp
        rw [← hRR] at HWf HPZ
        have HRR := Lib.hid hRR
        have H0 := Lib.hid h0
        clear hwr hBr hle hRR h0 hWn
        obtain ⟨ja, jc, rfl⟩ := HWf.out.slice
        have hvc := HWf.out.var.1
        generalize hjl : RR.length = jl at hvc
        go_wp2_with fail
        rw [← hjl]
        refine (pjoin_any HWf.out H0.out (by have := HPZ.out.2; omega) HPZ.out.1).mono ?_
        rintro e w9 ⟨rfl, hb9⟩
        have HB9 := Lib.hid (below_then HBf.out hb9)
        clear hb9 hvc hjl
        obtain ⟨sx, hsx⟩ : ∃ sx, sx = joinB 32 RR := ⟨_, rfl⟩
        rw [← hsx]
        have Hsx : Hid (sx = joinB 32 (([kwStation, kindW k, nm, istr s] ++ [kwAt, istr f, istr a, istr b0, istr d]) ++ biasW l)) := by rw [← HRR.out]; exact hsx
        clear hsx
        go_wp2_with fail
        go_ret2
        exact ⟨congrArg (fun z => Ending.returned (.tuple #[.string z, .int .i64 0])) Hsx.out, HB9.out⟩
  · rw [if_pos (by rfl)]
    go_simp
    refine (skinds_at v2.drew v2.heap.size rfl).mono ?_
    rintro e w4 ⟨rfl, hb4, hH4, hkc⟩
    refine hK.out _ _ (EvAt.below hHeld hb4) (fun hHeld => ?_)
    clear hK K
    have HW4 := Lib.hid (HWc.out.below hb4)
    have HB4 := Lib.hid (below_then HBc.out hb4)
    have HSd := Lib.hid (Nat.le_trans HSc.out hb4.size)
    have hE4 := hHeld
    have hvd := HW4.out.var.1
    have hkk : w4.cell? ⟨v2.heap.size, k, none⟩ = some (.string kwd) := by rw [HKW.out]; exact hkc k (by omega)
    clear hkc hH4
    obtain ⟨v', w', hrun, hc1, hs1, hw1, hf1, ⟨oa2, om2, oc2, rfl⟩, hf0⟩ := HW4.out.more [kwd, nm] (by simp) (by simp) HSd.out (by have := HBb.out; omega) 29
    have Hrun := Lib.hid hrun
    have HWn := Lib.hid hw1
    have HFn := Lib.hid hf1
    have HF0 := Lib.hid hf0
    clear hrun hw1 hf1 hf0
    clear hb4
    refine wpAnyH_takeD (i := 4) (d := some 54) (v := .pointer (some ⟨v2.heap.size, k, none⟩)) rfl rfl (by kernel_rfl) (by kernel_rfl) (by kernel_rfl) (fun _ _ _ h => h) (Or.inl ⟨by rfl, fun wx hx => by (go_simp)⟩) (by assumption) ?_
    simp only [Act.put, List.setIfInBounds_toArray, List.set_cons_zero, List.set_cons_succ]
    refine wpAnyH_ready (rs := [0, 5]) (by kernel_rfl) (by simp) ?_
    refine AllReadyH.cons rfl (fun K hK => ?_) (AllReadyH.cons rfl (fun K hK => ?_) AllReadyH.nil)
    · rw [if_pos (by rfl)]
      go_simp
      refine hK.out _ _ (hHeld) (fun hHeld => ?_)
      clear hK K
      refine wpAnyH_ready (rs := [5]) (by kernel_rfl) (by simp) ?_
      refine AllReadyH.cons rfl (fun K hK => ?_) AllReadyH.nil
      rw [if_pos (by rfl)]
      go_simp
      refine hK.out _ _ (hHeld) (fun hHeld => ?_)
      clear hK K
      refine wpAnyH_ready (rs := [8]) (by kernel_rfl) (by simp) ?_
      refine AllReadyH.cons rfl (fun K hK => ?_) AllReadyH.nil
      rw [if_pos (by rfl)]
      go_simp
      refine hK.out _ _ (EvAt.alloc hHeld _) (fun hHeld => ?_)
      clear hK K
      have hva := cell_then ((Below.refl w4.heap.size w4).alloc (Nat.le_refl _) (.cells #[.string kwd, .string nm] 9)) HW4.out.var.1
      refine wpAnyH_ready (rs := [9]) (by kernel_rfl) (by simp) ?_
      refine AllReadyH.cons rfl (fun K hK => ?_) AllReadyH.nil
      refine step_append_run rfl _ _ _ rfl _ _ _ _ rfl rfl Hrun.out ?_
      refine hK.out _ _ (EvAt.of_block hE4 (HF0.out.1.block _ Hlt.out)) (fun hHeld => ?_)
      clear hK K
      simp only [Act.put, List.setIfInBounds_toArray, List.set_cons_zero, List.set_cons_succ]
      refine wpAnyH_ready (rs := [10]) (by kernel_rfl) (by simp) ?_
      refine AllReadyH.cons rfl (fun K hK => ?_) AllReadyH.nil
      rw [if_pos (by rfl)]
      go_simp
      refine hK.out _ _ (EvAt.other hHeld (by have := HBb.out; have := Hlt.out; simp; omega) _) (fun hHeld => ?_)
      clear hK K
      clear hc1 hs1
      refine wpAnyH_done (by kernel_rfl) ?_ _
      obtain ⟨v8, hv8⟩ : ∃ v8, v8 = w'.setCell ⟨b, 0, none⟩ (.slice oa2 om2 oc2) := ⟨_, rfl⟩
      rw [← hv8]
      rw [← hv8] at HWn HFn
      have HB8 : Hid (Below w.heap.size w v8) := HB4.out.trans (HFn.out.1.mono (Nat.le_of_lt Hlt.out))
      have HW8 : Hid (WordsAt v8 b H (.slice oa2 om2 oc2) [kwStation, kwd, nm]) := HWn.out
      have EB8 : Hid (EvAt v8 w.heap.size [.int .i64 4, .string ⟨#[]⟩, .slice ba 0 bc, .int .i64 0, .int .i64 k, .string nm, .int .i64 s, .bool false, .int .i64 f, .int .i64 a, .int .i64 b0, .int .i64 d, .slice ca ll cc]) := EvAt.of_block hE4 (HFn.out.1.block _ Hlt.out)
      have HS8 : Hid (H ≤ v8.heap.size) := Nat.le_trans HSd.out HFn.out.1.size
      clear hv8 HWn HFn hHeld hE4 hkk hvd hv0 HW4 HB4 HSd HF0 Hrun
      try clear hva
      have e6 := EB8.out.facts.2.2.2.2.2.2.1
      go_wp2_with fail
      clear e6
      refine (padd_any b H _ [kwStation, kwd, nm] (.slice (some ⟨v8.heap.size, 0, none⟩) 1 1) [s] (v8.alloc (.cells #[.int .i64 s] 3)) (HW8.out.below ((Below.refl _ _).alloc (Nat.le_refl _) _)) (IntsT.at v8 _ rfl [s]) (by simp; exact His.out) (HE.out.below (HB8.out.alloc HB8.out.size _) hs8) (by have := Hlt.out; omega) (by have := HS8.out; simp; omega) (by have := HBb.out; omega) (by simp) (by simp)).mono ?_
      rintro e w5 ⟨rfl, ⟨v5, hw5⟩, hf5⟩
      have HW5 : Hid (WordsAt w5 b H v5 [kwStation, kwd, nm, istr s]) := hw5
      have HB5 : Hid (Below w.heap.size w w5) := (HB8.out.alloc HB8.out.size _).trans (hf5.1.mono (by have := Hlt.out; omega))
      have EB5 : Hid (EvAt w5 w.heap.size [.int .i64 4, .string ⟨#[]⟩, .slice ba 0 bc, .int .i64 0, .int .i64 k, .string nm, .int .i64 s, .bool false, .int .i64 f, .int .i64 a, .int .i64 b0, .int .i64 d, .slice ca ll cc]) := (EB8.out.alloc _).of_block (hf5.1.block _ Hlt.out)
      have HS5 : Hid (H ≤ w5.heap.size) := Nat.le_trans HS8.out (Nat.le_trans (by simp) hf5.1.size)
      clear hw5 hf5 HW8 HB8 EB8
      have g7 := EB5.out.facts.2.2.2.2.2.2.2.1
      have g8 := EB5.out.facts.2.2.2.2.2.2.2.2.1
      have g9 := EB5.out.facts.2.2.2.2.2.2.2.2.2.1
      have g10 := EB5.out.facts.2.2.2.2.2.2.2.2.2.2.1
      have g11 := EB5.out.facts.2.2.2.2.2.2.2.2.2.2.2.1
      go_upto_region 18 with fail
      clear g8 g9 g10 g11
      obtain ⟨w6, hw6⟩ : ∃ w6, w6 = w5.alloc (.cells #[.int .i64 f, .int .i64 a, .int .i64 b0, .int .i64 d] 31) := ⟨_, rfl⟩
      rw [← hw6]
      have hb6 : Below w5.heap.size w5 w6 := by rw [hw6]; exact (Below.refl _ _).alloc (Nat.le_refl _) _
      have HW6 := Lib.hid (HW5.out.below hb6)
      have HB6 := Lib.hid (below_then HB5.out hb6)
      have EB6 := Lib.hid (EB5.out.below hb6)
      have HS6 := Lib.hid (Nat.le_trans HS5.out hb6.size)
      have HT6 : Hid (Typed w6 w5.heap.size 31 ∧ ∀ i, i < 4 → w6.cell? ⟨w5.heap.size, i, none⟩ = [Value.int .i64 f, .int .i64 a, .int .i64 b0, .int .i64 d][i]?) := by
        rw [hw6]; exact ⟨⟨_, _, heap_alloc_new w5 _⟩, fun i hi => by simp⟩
      have Hne6 : Hid (w5.heap.size ≠ b) := by have := lt_of_block HW5.out.1; unfold Hid; omega
      have g7' := EB6.out.facts.2.2.2.2.2.2.2.1
      clear hb6 hw6 g7
      obtain ⟨sa6, sc6, rfl⟩ := HW6.out.slice
      have hvc : w6.cell? ⟨b, 0, none⟩ = some (.slice sa6 4 sc6) := HW6.out.var.1
      obtain ⟨v', w', hrun, hc1, hs1, hw1, hf1, ⟨oa2, om2, oc2, rfl⟩, hf0⟩ := HW6.out.more [kwAt] (by simp) (by simp) HS6.out (by have := HBb.out; omega) 29
      have Hrun := Lib.hid hrun
      have HWn := Lib.hid hw1
      have HFn := Lib.hid hf1
      clear hrun hw1 hf1 hf0
      go_upto_region 21 with (at_builtin; refine wpList_append_run rfl _ _ _ rfl _ _ _ _ rfl rfl Hrun.out ?_)
      clear hc1 hs1 hvc g7'
      obtain ⟨w7, hw7⟩ : ∃ w7, w7 = w'.setCell ⟨b, 0, none⟩ (.slice oa2 om2 oc2) := ⟨_, rfl⟩
      rw [← hw7]
      rw [← hw7] at HWn HFn
      have HW7 : Hid (WordsAt w7 b H (.slice oa2 om2 oc2) [kwStation, kwd, nm, istr s, kwAt]) := HWn.out
      have HB7 : Hid (Below w.heap.size w w7) := HB6.out.trans (HFn.out.1.mono (Nat.le_of_lt Hlt.out))
      have EB7 : Hid (EvAt w7 w.heap.size [.int .i64 4, .string ⟨#[]⟩, .slice ba 0 bc, .int .i64 0, .int .i64 k, .string nm, .int .i64 s, .bool false, .int .i64 f, .int .i64 a, .int .i64 b0, .int .i64 d, .slice ca ll cc]) := EB6.out.of_block (HFn.out.1.block _ Hlt.out)
      have HS7 : Hid (H ≤ w7.heap.size) := Nat.le_trans HS6.out HFn.out.1.size
      have HT7 : Hid (∀ i, i < 4 → w7.cell? ⟨w5.heap.size, i, none⟩ = [Value.int .i64 f, .int .i64 a, .int .i64 b0, .int .i64 d][i]?) := fun i hi => by
        have e : w7.cell? ⟨w5.heap.size, i, none⟩ = w6.cell? ⟨w5.heap.size, i, none⟩ := World.cell?_of_block (w := w6) (HFn.out.2 w5.heap.size _ (by decide) Hne6.out HT6.out.1)
        rw [e]; exact HT6.out.2 i hi
      clear hw7 HWn HFn Hrun HW6 HB6 EB6 HS6 HT6 HW5 HB5 EB5 HS5
      have q0 : w7.cell? ⟨w5.heap.size, 0, none⟩ = some (.int .i64 f) := HT7.out 0 (by omega)
      have q1 : w7.cell? ⟨w5.heap.size, 1, none⟩ = some (.int .i64 a) := HT7.out 1 (by omega)
      have q2 : w7.cell? ⟨w5.heap.size, 2, none⟩ = some (.int .i64 b0) := HT7.out 2 (by omega)
      have q3 : w7.cell? ⟨w5.heap.size, 3, none⟩ = some (.int .i64 d) := HT7.out 3 (by omega)
      go_wp2_with fail
      clear q0 q1 q2 q3
      refine (padd_any b H _ [kwStation, kwd, nm, istr s, kwAt] (.slice (some ⟨w7.heap.size, 0, none⟩) 4 4) [f, a, b0, d] (w7.alloc (.cells #[.int .i64 f, .int .i64 a, .int .i64 b0, .int .i64 d] 3)) (HW7.out.below ((Below.refl _ _).alloc (Nat.le_refl _) _)) (IntsT.at w7 _ rfl [f, a, b0, d]) (by simp; exact ⟨HJf.out, HJa.out, HJb0.out, HJd.out⟩) (HE.out.below (HB7.out.alloc HB7.out.size _) hs8) (by have := Hlt.out; omega) (by have := HS7.out; simp; omega) (by have := HBb.out; omega) (by simp) (by simp)).mono ?_
      rintro e wl ⟨rfl, ⟨vl, hwl⟩, hfl⟩
      have HWl : Hid (WordsAt wl b H vl [kwStation, kwd, nm, istr s, kwAt, istr f, istr a, istr b0, istr d]) := hwl
      have HBl : Hid (Below w.heap.size w wl) := (HB7.out.alloc HB7.out.size _).trans (hfl.1.mono (by have := Hlt.out; omega))
      have EBl : Hid (EvAt wl w.heap.size [.int .i64 4, .string ⟨#[]⟩, .slice ba 0 bc, .int .i64 0, .int .i64 k, .string nm, .int .i64 s, .bool false, .int .i64 f, .int .i64 a, .int .i64 b0, .int .i64 d, .slice ca ll cc]) := (EB7.out.alloc _).of_block (hfl.1.block _ Hlt.out)
      have HSl : Hid (H ≤ wl.heap.size) := Nat.le_trans HS7.out (Nat.le_trans (by simp) hfl.1.size)
      clear hwl hfl HW7 HB7 EB7 HS7 HT7
      obtain ⟨HD, hHD⟩ : ∃ HD, HD = [kwStation, kwd, nm, istr s, kwAt, istr f, istr a, istr b0, istr d] := ⟨_, rfl⟩
      rw [← hHD] at HWl
      have HHD : Hid (HD ++ biasW l = ([kwStation, kindW k, nm, istr s] ++ [kwAt, istr f, istr a, istr b0, istr d]) ++ biasW l) := by unfold Hid; rw [hHD, HKd.out]; rfl
      have hHDl : HD.length ≤ 9 := by rw [hHD]; simp
      clear hHD
      have e12 := EBl.out.facts.2.2.2.2.2.2.2.2.2.2.2.2
      go_wp2_with fail
      clear e12
      go_loopw [93] (fun x wr => ∃ (j : Nat) (v : Value), j ≤ ll ∧ x = .int .i64 j ∧ WordsAt wr b H v (HD ++ biasW (l.take j)) ∧ Below w.heap.size w wr ∧ H ≤ wr.heap.size) (fun x _ => (ll - intOf x).toNat)
      case atStart => exact ⟨0, vl, by omega, rfl, by simpa [biasW] using HWl.out, HBl.out, HSl.out⟩
      case round =>
        obtain ⟨j, v, hj, rfl, hwr, hBr, hSr⟩ := hrel
        have hWn : (HD ++ biasW (l.take j)).length ≤ 10000000 := by
          have := bias_len (l.take j)
          have h2 : (l.take j).length ≤ 2000000 := by rw [List.length_take]; have := Hll.out; omega
          rw [List.length_append]; omega
        by_cases hlt : j < ll
        · have hjl : j < l.length := by have := Hll.out; omega
          obtain ⟨ab, ao, rfl, p0, p1⟩ := Hcells.out j hjl
          have p0 := cell_then hBr p0
          have p1 := cell_then hBr p1
          have hm : l.getD j (0, 0) ∈ l := by rw [getD_mem hjl]; exact List.getElem_mem hjl
          have hnl := HLN.out _ hm
          have Hu := Lib.hid (not_long hnl.1)
          have Hv := Lib.hid (not_long hnl.2)
          have Htk : Hid (HD ++ biasW (l.take (j + 1)) = (HD ++ biasW (l.take j)) ++ [kwBias] ++ [istr (l.getD j (0, 0)).1, istr (l.getD j (0, 0)).2]) := by
            unfold Hid
            have e : biasW (l.take (j + 1)) = biasW (l.take j) ++ [kwBias, istr (l.getD j (0, 0)).1, istr (l.getD j (0, 0)).2] := by
              rw [List.take_succ_eq_append_getElem hjl, getD_mem hjl]; unfold biasW; rw [List.flatMap_append]; rfl
            rw [e, List.append_assoc, List.append_assoc]; rfl
          generalize (l.getD j (0, 0)).1 = u at *
          generalize (l.getD j (0, 0)).2 = y at *
          clear hm hnl
          have HWr := Lib.hid hwr
          have HBr := Lib.hid hBr
          have HSr := Lib.hid hSr
          have HWn := Lib.hid hWn
          generalize HD ++ biasW (l.take j) = W at *
          clear hwr hBr hSr hWn
          have i0 : (0 : Int) ≤ (j : Int) := by omega
          have i1 : (j : Int) < (ll : Int) := by omega
          go_upto_region 25 with fail
          clear p0 p1
          obtain ⟨wa, hwa⟩ : ∃ wa, wa = wr.alloc (.cells #[.int .i64 u, .int .i64 y] 51) := ⟨_, rfl⟩
          rw [← hwa]
          have hba : Below wr.heap.size wr wa := by rw [hwa]; exact (Below.refl _ _).alloc (Nat.le_refl _) _
          have HWa := Lib.hid (HWr.out.below hba)
          have HBa := Lib.hid (below_then HBr.out hba)
          have HSa := Lib.hid (Nat.le_trans HSr.out hba.size)
          have HTa : Hid (Typed wa wr.heap.size 51 ∧ wa.cell? ⟨wr.heap.size, 0, none⟩ = some (.int .i64 u) ∧ wa.cell? ⟨wr.heap.size, 1, none⟩ = some (.int .i64 y)) := by
            rw [hwa]; exact ⟨⟨_, _, heap_alloc_new wr _⟩, by simp, by simp⟩
          have Hnea : Hid (wr.heap.size ≠ b) := by have := lt_of_block HWr.out.1; unfold Hid; omega
          clear hba hwa
          obtain ⟨sa, sc, rfl⟩ := HWa.out.slice
          have hvc := HWa.out.var.1
          obtain ⟨v', w', hrun, hc1, hs1, hw1, hf1, ⟨oa2, om2, oc2, rfl⟩, hf0⟩ := HWa.out.more [kwBias] (by have := HWn.out; omega) (by simp) HSa.out (by have := HBb.out; omega) 29
          have Hrun := Lib.hid hrun
          have HWn2 := Lib.hid hw1
          have HFn := Lib.hid hf1
          clear hrun hw1 hf1 hf0
          generalize hWl2 : W.length = Wl at *
          go_upto_region 26 with (at_builtin; refine wpList_append_run rfl _ _ _ rfl _ _ _ _ rfl rfl Hrun.out ?_)
          clear hc1 hs1 hvc
          obtain ⟨wb, hwb⟩ : ∃ wb, wb = w'.setCell ⟨b, 0, none⟩ (.slice oa2 om2 oc2) := ⟨_, rfl⟩
          rw [← hwb]
          rw [← hwb] at HWn2 HFn
          have HBb2 : Hid (Below w.heap.size w wb) := HBa.out.trans (HFn.out.1.mono (Nat.le_of_lt Hlt.out))
          have HSb2 : Hid (H ≤ wb.heap.size) := Nat.le_trans HSa.out HFn.out.1.size
          have eb := HFn.out.2 wr.heap.size _ (by decide) Hnea.out HTa.out.1
          have q0 : wb.cell? ⟨wr.heap.size, 0, none⟩ = some (.int .i64 u) := by
            have e : wb.cell? ⟨wr.heap.size, 0, none⟩ = wa.cell? ⟨wr.heap.size, 0, none⟩ := World.cell?_of_block (w := wa) eb
            rw [e]; exact HTa.out.2.1
          have q1 : wb.cell? ⟨wr.heap.size, 1, none⟩ = some (.int .i64 y) := by
            have e : wb.cell? ⟨wr.heap.size, 1, none⟩ = wa.cell? ⟨wr.heap.size, 1, none⟩ := World.cell?_of_block (w := wa) eb
            rw [e]; exact HTa.out.2.2
          clear eb hwb HFn Hrun HTa HWa HBa HSa
          go_wp2_with fail
          clear q0 q1
          refine (padd_any b H _ (W ++ [kwBias]) (.slice (some ⟨wb.heap.size, 0, none⟩) 2 2) [u, y] (wb.alloc (.cells #[.int .i64 u, .int .i64 y] 3)) (HWn2.out.below ((Below.refl _ _).alloc (Nat.le_refl _) _)) (IntsT.at wb _ rfl [u, y]) (by simp; exact ⟨Hu.out, Hv.out⟩) (HE.out.below (HBb2.out.alloc HBb2.out.size _) hs8) (by have := Hlt.out; omega) (by have := HSb2.out; simp; omega) (by have := HBb.out; omega) (by have := HWn.out; simp; omega) (by simp)).mono ?_
          rintro e wc ⟨rfl, ⟨vc, hwc⟩, hfc⟩
          have HWc2 : Hid (WordsAt wc b H vc (W ++ [kwBias] ++ [istr u, istr y])) := hwc
          have HBc2 : Hid (Below w.heap.size w wc) := (HBb2.out.alloc HBb2.out.size _).trans (hfc.1.mono (by have := Hlt.out; omega))
          have HSc2 : Hid (H ≤ wc.heap.size) := Nat.le_trans HSb2.out (Nat.le_trans (by simp) hfc.1.size)
          clear hwc hfc
          go_wp2_with fail
          go_roundw
          case rel => exact ⟨j + 1, vc, by omega, by go_num, by rw [Htk.out]; exact HWc2.out, HBc2.out, HSc2.out⟩
          case measure => simp [intOf]; omega
        · obtain rfl : j = ll := by omega
          have hle : l.take j = l := by rw [Hll.out, List.take_length]
          rw [hle, HHD.out] at hwr
          have HWf := Lib.hid hwr
          have HBf := Lib.hid hBr
          obtain ⟨RR, hRR⟩ : ∃ RR, RR = ([kwStation, kindW k, nm, istr s] ++ [kwAt, istr f, istr a, istr b0, istr d]) ++ biasW l := ⟨_, rfl⟩
          have h0 : RR ≠ [] := by rw [hRR]; simp
          rw [← hRR] at HWf HPZ
          have HRR := Lib.hid hRR
          have H0 := Lib.hid h0
          clear hwr hBr hle hRR h0 hWn
          obtain ⟨ja, jc, rfl⟩ := HWf.out.slice
          have hvc := HWf.out.var.1
          generalize hjl : RR.length = jl at hvc
          go_wp2_with fail
          rw [← hjl]
          refine (pjoin_any HWf.out H0.out (by have := HPZ.out.2; omega) HPZ.out.1).mono ?_
          rintro e w9 ⟨rfl, hb9⟩
          have HB9 := Lib.hid (below_then HBf.out hb9)
          clear hb9 hvc hjl
          obtain ⟨sx, hsx⟩ : ∃ sx, sx = joinB 32 RR := ⟨_, rfl⟩
          rw [← hsx]
          have Hsx : Hid (sx = joinB 32 (([kwStation, kindW k, nm, istr s] ++ [kwAt, istr f, istr a, istr b0, istr d]) ++ biasW l)) := by rw [← HRR.out]; exact hsx
          clear hsx
          go_wp2_with fail
          go_ret2
          exact ⟨congrArg (fun z => Ending.returned (.tuple #[.string z, .int .i64 0])) Hsx.out, HB9.out⟩
    · rw [if_pos (by rfl)]
      go_simp
      refine hK.out _ _ (hHeld) (fun hHeld => ?_)
      clear hK K
      refine wpAnyH_ready (rs := [0, 8]) (by kernel_rfl) (by simp) ?_
      refine AllReadyH.cons rfl (fun K hK => ?_) (AllReadyH.cons rfl (fun K hK => ?_) AllReadyH.nil)
      · rw [if_pos (by rfl)]
        go_simp
        refine hK.out _ _ (hHeld) (fun hHeld => ?_)
        clear hK K
        refine wpAnyH_ready (rs := [8]) (by kernel_rfl) (by simp) ?_
        refine AllReadyH.cons rfl (fun K hK => ?_) AllReadyH.nil
        rw [if_pos (by rfl)]
        go_simp
        refine hK.out _ _ (EvAt.alloc hHeld _) (fun hHeld => ?_)
        clear hK K
        have hva := cell_then ((Below.refl w4.heap.size w4).alloc (Nat.le_refl _) (.cells #[.string kwd, .string nm] 9)) HW4.out.var.1
        refine wpAnyH_ready (rs := [9]) (by kernel_rfl) (by simp) ?_
        refine AllReadyH.cons rfl (fun K hK => ?_) AllReadyH.nil
        refine step_append_run rfl _ _ _ rfl _ _ _ _ rfl rfl Hrun.out ?_
        refine hK.out _ _ (EvAt.of_block hE4 (HF0.out.1.block _ Hlt.out)) (fun hHeld => ?_)
        clear hK K
        simp only [Act.put, List.setIfInBounds_toArray, List.set_cons_zero, List.set_cons_succ]
        refine wpAnyH_ready (rs := [10]) (by kernel_rfl) (by simp) ?_
        refine AllReadyH.cons rfl (fun K hK => ?_) AllReadyH.nil
        rw [if_pos (by rfl)]
        go_simp
        refine hK.out _ _ (EvAt.other hHeld (by have := HBb.out; have := Hlt.out; simp; omega) _) (fun hHeld => ?_)
        clear hK K
        clear hc1 hs1
        refine wpAnyH_done (by kernel_rfl) ?_ _
        obtain ⟨v8, hv8⟩ : ∃ v8, v8 = w'.setCell ⟨b, 0, none⟩ (.slice oa2 om2 oc2) := ⟨_, rfl⟩
        rw [← hv8]
        rw [← hv8] at HWn HFn
        have HB8 : Hid (Below w.heap.size w v8) := HB4.out.trans (HFn.out.1.mono (Nat.le_of_lt Hlt.out))
        have HW8 : Hid (WordsAt v8 b H (.slice oa2 om2 oc2) [kwStation, kwd, nm]) := HWn.out
        have EB8 : Hid (EvAt v8 w.heap.size [.int .i64 4, .string ⟨#[]⟩, .slice ba 0 bc, .int .i64 0, .int .i64 k, .string nm, .int .i64 s, .bool false, .int .i64 f, .int .i64 a, .int .i64 b0, .int .i64 d, .slice ca ll cc]) := EvAt.of_block hE4 (HFn.out.1.block _ Hlt.out)
        have HS8 : Hid (H ≤ v8.heap.size) := Nat.le_trans HSd.out HFn.out.1.size
        clear hv8 HWn HFn hHeld hE4 hkk hvd hv0 HW4 HB4 HSd HF0 Hrun
        try clear hva
        have e6 := EB8.out.facts.2.2.2.2.2.2.1
        go_wp2_with fail
        clear e6
        refine (padd_any b H _ [kwStation, kwd, nm] (.slice (some ⟨v8.heap.size, 0, none⟩) 1 1) [s] (v8.alloc (.cells #[.int .i64 s] 3)) (HW8.out.below ((Below.refl _ _).alloc (Nat.le_refl _) _)) (IntsT.at v8 _ rfl [s]) (by simp; exact His.out) (HE.out.below (HB8.out.alloc HB8.out.size _) hs8) (by have := Hlt.out; omega) (by have := HS8.out; simp; omega) (by have := HBb.out; omega) (by simp) (by simp)).mono ?_
        rintro e w5 ⟨rfl, ⟨v5, hw5⟩, hf5⟩
        have HW5 : Hid (WordsAt w5 b H v5 [kwStation, kwd, nm, istr s]) := hw5
        have HB5 : Hid (Below w.heap.size w w5) := (HB8.out.alloc HB8.out.size _).trans (hf5.1.mono (by have := Hlt.out; omega))
        have EB5 : Hid (EvAt w5 w.heap.size [.int .i64 4, .string ⟨#[]⟩, .slice ba 0 bc, .int .i64 0, .int .i64 k, .string nm, .int .i64 s, .bool false, .int .i64 f, .int .i64 a, .int .i64 b0, .int .i64 d, .slice ca ll cc]) := (EB8.out.alloc _).of_block (hf5.1.block _ Hlt.out)
        have HS5 : Hid (H ≤ w5.heap.size) := Nat.le_trans HS8.out (Nat.le_trans (by simp) hf5.1.size)
        clear hw5 hf5 HW8 HB8 EB8
        have g7 := EB5.out.facts.2.2.2.2.2.2.2.1
        have g8 := EB5.out.facts.2.2.2.2.2.2.2.2.1
        have g9 := EB5.out.facts.2.2.2.2.2.2.2.2.2.1
        have g10 := EB5.out.facts.2.2.2.2.2.2.2.2.2.2.1
        have g11 := EB5.out.facts.2.2.2.2.2.2.2.2.2.2.2.1
        go_upto_region 18 with fail
        clear g8 g9 g10 g11
        obtain ⟨w6, hw6⟩ : ∃ w6, w6 = w5.alloc (.cells #[.int .i64 f, .int .i64 a, .int .i64 b0, .int .i64 d] 31) := ⟨_, rfl⟩
        rw [← hw6]
        have hb6 : Below w5.heap.size w5 w6 := by rw [hw6]; exact (Below.refl _ _).alloc (Nat.le_refl _) _
        have HW6 := Lib.hid (HW5.out.below hb6)
        have HB6 := Lib.hid (below_then HB5.out hb6)
        have EB6 := Lib.hid (EB5.out.below hb6)
        have HS6 := Lib.hid (Nat.le_trans HS5.out hb6.size)
        have HT6 : Hid (Typed w6 w5.heap.size 31 ∧ ∀ i, i < 4 → w6.cell? ⟨w5.heap.size, i, none⟩ = [Value.int .i64 f, .int .i64 a, .int .i64 b0, .int .i64 d][i]?) := by
          rw [hw6]; exact ⟨⟨_, _, heap_alloc_new w5 _⟩, fun i hi => by simp⟩
        have Hne6 : Hid (w5.heap.size ≠ b) := by have := lt_of_block HW5.out.1; unfold Hid; omega
        have g7' := EB6.out.facts.2.2.2.2.2.2.2.1
        clear hb6 hw6 g7
        obtain ⟨sa6, sc6, rfl⟩ := HW6.out.slice
        have hvc : w6.cell? ⟨b, 0, none⟩ = some (.slice sa6 4 sc6) := HW6.out.var.1
        obtain ⟨v', w', hrun, hc1, hs1, hw1, hf1, ⟨oa2, om2, oc2, rfl⟩, hf0⟩ := HW6.out.more [kwAt] (by simp) (by simp) HS6.out (by have := HBb.out; omega) 29
        have Hrun := Lib.hid hrun
        have HWn := Lib.hid hw1
        have HFn := Lib.hid hf1
        clear hrun hw1 hf1 hf0
        go_upto_region 21 with (at_builtin; refine wpList_append_run rfl _ _ _ rfl _ _ _ _ rfl rfl Hrun.out ?_)
        clear hc1 hs1 hvc g7'
        obtain ⟨w7, hw7⟩ : ∃ w7, w7 = w'.setCell ⟨b, 0, none⟩ (.slice oa2 om2 oc2) := ⟨_, rfl⟩
        rw [← hw7]
        rw [← hw7] at HWn HFn
        have HW7 : Hid (WordsAt w7 b H (.slice oa2 om2 oc2) [kwStation, kwd, nm, istr s, kwAt]) := HWn.out
        have HB7 : Hid (Below w.heap.size w w7) := HB6.out.trans (HFn.out.1.mono (Nat.le_of_lt Hlt.out))
        have EB7 : Hid (EvAt w7 w.heap.size [.int .i64 4, .string ⟨#[]⟩, .slice ba 0 bc, .int .i64 0, .int .i64 k, .string nm, .int .i64 s, .bool false, .int .i64 f, .int .i64 a, .int .i64 b0, .int .i64 d, .slice ca ll cc]) := EB6.out.of_block (HFn.out.1.block _ Hlt.out)
        have HS7 : Hid (H ≤ w7.heap.size) := Nat.le_trans HS6.out HFn.out.1.size
        have HT7 : Hid (∀ i, i < 4 → w7.cell? ⟨w5.heap.size, i, none⟩ = [Value.int .i64 f, .int .i64 a, .int .i64 b0, .int .i64 d][i]?) := fun i hi => by
          have e : w7.cell? ⟨w5.heap.size, i, none⟩ = w6.cell? ⟨w5.heap.size, i, none⟩ := World.cell?_of_block (w := w6) (HFn.out.2 w5.heap.size _ (by decide) Hne6.out HT6.out.1)
          rw [e]; exact HT6.out.2 i hi
        clear hw7 HWn HFn Hrun HW6 HB6 EB6 HS6 HT6 HW5 HB5 EB5 HS5
        have q0 : w7.cell? ⟨w5.heap.size, 0, none⟩ = some (.int .i64 f) := HT7.out 0 (by omega)
        have q1 : w7.cell? ⟨w5.heap.size, 1, none⟩ = some (.int .i64 a) := HT7.out 1 (by omega)
        have q2 : w7.cell? ⟨w5.heap.size, 2, none⟩ = some (.int .i64 b0) := HT7.out 2 (by omega)
        have q3 : w7.cell? ⟨w5.heap.size, 3, none⟩ = some (.int .i64 d) := HT7.out 3 (by omega)
        go_wp2_with fail
        clear q0 q1 q2 q3
        refine (padd_any b H _ [kwStation, kwd, nm, istr s, kwAt] (.slice (some ⟨w7.heap.size, 0, none⟩) 4 4) [f, a, b0, d] (w7.alloc (.cells #[.int .i64 f, .int .i64 a, .int .i64 b0, .int .i64 d] 3)) (HW7.out.below ((Below.refl _ _).alloc (Nat.le_refl _) _)) (IntsT.at w7 _ rfl [f, a, b0, d]) (by simp; exact ⟨HJf.out, HJa.out, HJb0.out, HJd.out⟩) (HE.out.below (HB7.out.alloc HB7.out.size _) hs8) (by have := Hlt.out; omega) (by have := HS7.out; simp; omega) (by have := HBb.out; omega) (by simp) (by simp)).mono ?_
        rintro e wl ⟨rfl, ⟨vl, hwl⟩, hfl⟩
        have HWl : Hid (WordsAt wl b H vl [kwStation, kwd, nm, istr s, kwAt, istr f, istr a, istr b0, istr d]) := hwl
        have HBl : Hid (Below w.heap.size w wl) := (HB7.out.alloc HB7.out.size _).trans (hfl.1.mono (by have := Hlt.out; omega))
        have EBl : Hid (EvAt wl w.heap.size [.int .i64 4, .string ⟨#[]⟩, .slice ba 0 bc, .int .i64 0, .int .i64 k, .string nm, .int .i64 s, .bool false, .int .i64 f, .int .i64 a, .int .i64 b0, .int .i64 d, .slice ca ll cc]) := (EB7.out.alloc _).of_block (hfl.1.block _ Hlt.out)
        have HSl : Hid (H ≤ wl.heap.size) := Nat.le_trans HS7.out (Nat.le_trans (by simp) hfl.1.size)
        clear hwl hfl HW7 HB7 EB7 HS7 HT7
        obtain ⟨HD, hHD⟩ : ∃ HD, HD = [kwStation, kwd, nm, istr s, kwAt, istr f, istr a, istr b0, istr d] := ⟨_, rfl⟩
        rw [← hHD] at HWl
        have HHD : Hid (HD ++ biasW l = ([kwStation, kindW k, nm, istr s] ++ [kwAt, istr f, istr a, istr b0, istr d]) ++ biasW l) := by unfold Hid; rw [hHD, HKd.out]; rfl
        have hHDl : HD.length ≤ 9 := by rw [hHD]; simp
        clear hHD
        have e12 := EBl.out.facts.2.2.2.2.2.2.2.2.2.2.2.2
        go_wp2_with fail
        clear e12
        go_loopw [93] (fun x wr => ∃ (j : Nat) (v : Value), j ≤ ll ∧ x = .int .i64 j ∧ WordsAt wr b H v (HD ++ biasW (l.take j)) ∧ Below w.heap.size w wr ∧ H ≤ wr.heap.size) (fun x _ => (ll - intOf x).toNat)
        case atStart => exact ⟨0, vl, by omega, rfl, by simpa [biasW] using HWl.out, HBl.out, HSl.out⟩
        case round =>
          obtain ⟨j, v, hj, rfl, hwr, hBr, hSr⟩ := hrel
          have hWn : (HD ++ biasW (l.take j)).length ≤ 10000000 := by
            have := bias_len (l.take j)
            have h2 : (l.take j).length ≤ 2000000 := by rw [List.length_take]; have := Hll.out; omega
            rw [List.length_append]; omega
          by_cases hlt : j < ll
          · have hjl : j < l.length := by have := Hll.out; omega
            obtain ⟨ab, ao, rfl, p0, p1⟩ := Hcells.out j hjl
            have p0 := cell_then hBr p0
            have p1 := cell_then hBr p1
            have hm : l.getD j (0, 0) ∈ l := by rw [getD_mem hjl]; exact List.getElem_mem hjl
            have hnl := HLN.out _ hm
            have Hu := Lib.hid (not_long hnl.1)
            have Hv := Lib.hid (not_long hnl.2)
            have Htk : Hid (HD ++ biasW (l.take (j + 1)) = (HD ++ biasW (l.take j)) ++ [kwBias] ++ [istr (l.getD j (0, 0)).1, istr (l.getD j (0, 0)).2]) := by
              unfold Hid
              have e : biasW (l.take (j + 1)) = biasW (l.take j) ++ [kwBias, istr (l.getD j (0, 0)).1, istr (l.getD j (0, 0)).2] := by
                rw [List.take_succ_eq_append_getElem hjl, getD_mem hjl]; unfold biasW; rw [List.flatMap_append]; rfl
              rw [e, List.append_assoc, List.append_assoc]; rfl
            generalize (l.getD j (0, 0)).1 = u at *
            generalize (l.getD j (0, 0)).2 = y at *
            clear hm hnl
            have HWr := Lib.hid hwr
            have HBr := Lib.hid hBr
            have HSr := Lib.hid hSr
            have HWn := Lib.hid hWn
            generalize HD ++ biasW (l.take j) = W at *
            clear hwr hBr hSr hWn
            have i0 : (0 : Int) ≤ (j : Int) := by omega
            have i1 : (j : Int) < (ll : Int) := by omega
            go_upto_region 25 with fail
            clear p0 p1
            obtain ⟨wa, hwa⟩ : ∃ wa, wa = wr.alloc (.cells #[.int .i64 u, .int .i64 y] 51) := ⟨_, rfl⟩
            rw [← hwa]
            have hba : Below wr.heap.size wr wa := by rw [hwa]; exact (Below.refl _ _).alloc (Nat.le_refl _) _
            have HWa := Lib.hid (HWr.out.below hba)
            have HBa := Lib.hid (below_then HBr.out hba)
            have HSa := Lib.hid (Nat.le_trans HSr.out hba.size)
            have HTa : Hid (Typed wa wr.heap.size 51 ∧ wa.cell? ⟨wr.heap.size, 0, none⟩ = some (.int .i64 u) ∧ wa.cell? ⟨wr.heap.size, 1, none⟩ = some (.int .i64 y)) := by
              rw [hwa]; exact ⟨⟨_, _, heap_alloc_new wr _⟩, by simp, by simp⟩
            have Hnea : Hid (wr.heap.size ≠ b) := by have := lt_of_block HWr.out.1; unfold Hid; omega
            clear hba hwa
            obtain ⟨sa, sc, rfl⟩ := HWa.out.slice
            have hvc := HWa.out.var.1
            obtain ⟨v', w', hrun, hc1, hs1, hw1, hf1, ⟨oa2, om2, oc2, rfl⟩, hf0⟩ := HWa.out.more [kwBias] (by have := HWn.out; omega) (by simp) HSa.out (by have := HBb.out; omega) 29
            have Hrun := Lib.hid hrun
            have HWn2 := Lib.hid hw1
            have HFn := Lib.hid hf1
            clear hrun hw1 hf1 hf0
            generalize hWl2 : W.length = Wl at *
            go_upto_region 26 with (at_builtin; refine wpList_append_run rfl _ _ _ rfl _ _ _ _ rfl rfl Hrun.out ?_)
            clear hc1 hs1 hvc
            obtain ⟨wb, hwb⟩ : ∃ wb, wb = w'.setCell ⟨b, 0, none⟩ (.slice oa2 om2 oc2) := ⟨_, rfl⟩
            rw [← hwb]
            rw [← hwb] at HWn2 HFn
            have HBb2 : Hid (Below w.heap.size w wb) := HBa.out.trans (HFn.out.1.mono (Nat.le_of_lt Hlt.out))
            have HSb2 : Hid (H ≤ wb.heap.size) := Nat.le_trans HSa.out HFn.out.1.size
            have eb := HFn.out.2 wr.heap.size _ (by decide) Hnea.out HTa.out.1
            have q0 : wb.cell? ⟨wr.heap.size, 0, none⟩ = some (.int .i64 u) := by
              have e : wb.cell? ⟨wr.heap.size, 0, none⟩ = wa.cell? ⟨wr.heap.size, 0, none⟩ := World.cell?_of_block (w := wa) eb
              rw [e]; exact HTa.out.2.1
            have q1 : wb.cell? ⟨wr.heap.size, 1, none⟩ = some (.int .i64 y) := by
              have e : wb.cell? ⟨wr.heap.size, 1, none⟩ = wa.cell? ⟨wr.heap.size, 1, none⟩ := World.cell?_of_block (w := wa) eb
              rw [e]; exact HTa.out.2.2
            clear eb hwb HFn Hrun HTa HWa HBa HSa
            go_wp2_with fail
            clear q0 q1
            refine (padd_any b H _ (W ++ [kwBias]) (.slice (some ⟨wb.heap.size, 0, none⟩) 2 2) [u, y] (wb.alloc (.cells #[.int .i64 u, .int .i64 y] 3)) (HWn2.out.below ((Below.refl _ _).alloc (Nat.le_refl _) _)) (IntsT.at wb _ rfl [u, y]) (by simp; exact ⟨Hu.out, Hv.out⟩) (HE.out.below (HBb2.out.alloc HBb2.out.size _) hs8) (by have := Hlt.out; omega) (by have := HSb2.out; simp; omega) (by have := HBb.out; omega) (by have := HWn.out; simp; omega) (by simp)).mono ?_
            rintro e wc ⟨rfl, ⟨vc, hwc⟩, hfc⟩
            have HWc2 : Hid (WordsAt wc b H vc (W ++ [kwBias] ++ [istr u, istr y])) := hwc
            have HBc2 : Hid (Below w.heap.size w wc) := (HBb2.out.alloc HBb2.out.size _).trans (hfc.1.mono (by have := Hlt.out; omega))
            have HSc2 : Hid (H ≤ wc.heap.size) := Nat.le_trans HSb2.out (Nat.le_trans (by simp) hfc.1.size)
            clear hwc hfc
            go_wp2_with fail
            go_roundw
            case rel => exact ⟨j + 1, vc, by omega, by go_num, by rw [Htk.out]; exact HWc2.out, HBc2.out, HSc2.out⟩
            case measure => simp [intOf]; omega
          · obtain rfl : j = ll := by omega
            have hle : l.take j = l := by rw [Hll.out, List.take_length]
            rw [hle, HHD.out] at hwr
            have HWf := Lib.hid hwr
            have HBf := Lib.hid hBr
            obtain ⟨RR, hRR⟩ : ∃ RR, RR = ([kwStation, kindW k, nm, istr s] ++ [kwAt, istr f, istr a, istr b0, istr d]) ++ biasW l := ⟨_, rfl⟩
            have h0 : RR ≠ [] := by rw [hRR]; simp
            rw [← hRR] at HWf HPZ
            have HRR := Lib.hid hRR
            have H0 := Lib.hid h0
            clear hwr hBr hle hRR h0 hWn
            obtain ⟨ja, jc, rfl⟩ := HWf.out.slice
            have hvc := HWf.out.var.1
            generalize hjl : RR.length = jl at hvc
            go_wp2_with fail
            rw [← hjl]
            refine (pjoin_any HWf.out H0.out (by have := HPZ.out.2; omega) HPZ.out.1).mono ?_
            rintro e w9 ⟨rfl, hb9⟩
            have HB9 := Lib.hid (below_then HBf.out hb9)
            clear hb9 hvc hjl
            obtain ⟨sx, hsx⟩ : ∃ sx, sx = joinB 32 RR := ⟨_, rfl⟩
            rw [← hsx]
            have Hsx : Hid (sx = joinB 32 (([kwStation, kindW k, nm, istr s] ++ [kwAt, istr f, istr a, istr b0, istr d]) ++ biasW l)) := by rw [← HRR.out]; exact hsx
            clear hsx
            go_wp2_with fail
            go_ret2
            exact ⟨congrArg (fun z => Ending.returned (.tuple #[.string z, .int .i64 0])) Hsx.out, HB9.out⟩
      · rw [if_pos (by rfl)]
        go_simp
        refine hK.out _ _ (EvAt.alloc hHeld _) (fun hHeld => ?_)
        clear hK K
        have hva := cell_then ((Below.refl w4.heap.size w4).alloc (Nat.le_refl _) (.cells #[.string kwd, .string nm] 9)) HW4.out.var.1
        refine wpAnyH_ready (rs := [0]) (by kernel_rfl) (by simp) ?_
        refine AllReadyH.cons rfl (fun K hK => ?_) AllReadyH.nil
        rw [if_pos (by rfl)]
        go_simp
        refine hK.out _ _ (hHeld) (fun hHeld => ?_)
        clear hK K
        refine wpAnyH_ready (rs := [9]) (by kernel_rfl) (by simp) ?_
        refine AllReadyH.cons rfl (fun K hK => ?_) AllReadyH.nil
        refine step_append_run rfl _ _ _ rfl _ _ _ _ rfl rfl Hrun.out ?_
        refine hK.out _ _ (EvAt.of_block hE4 (HF0.out.1.block _ Hlt.out)) (fun hHeld => ?_)
        clear hK K
        simp only [Act.put, List.setIfInBounds_toArray, List.set_cons_zero, List.set_cons_succ]
        refine wpAnyH_ready (rs := [10]) (by kernel_rfl) (by simp) ?_
        refine AllReadyH.cons rfl (fun K hK => ?_) AllReadyH.nil
        rw [if_pos (by rfl)]
        go_simp
        refine hK.out _ _ (EvAt.other hHeld (by have := HBb.out; have := Hlt.out; simp; omega) _) (fun hHeld => ?_)
        clear hK K
        clear hc1 hs1
        refine wpAnyH_done (by kernel_rfl) ?_ _
        obtain ⟨v8, hv8⟩ : ∃ v8, v8 = w'.setCell ⟨b, 0, none⟩ (.slice oa2 om2 oc2) := ⟨_, rfl⟩
        rw [← hv8]
        rw [← hv8] at HWn HFn
        have HB8 : Hid (Below w.heap.size w v8) := HB4.out.trans (HFn.out.1.mono (Nat.le_of_lt Hlt.out))
        have HW8 : Hid (WordsAt v8 b H (.slice oa2 om2 oc2) [kwStation, kwd, nm]) := HWn.out
        have EB8 : Hid (EvAt v8 w.heap.size [.int .i64 4, .string ⟨#[]⟩, .slice ba 0 bc, .int .i64 0, .int .i64 k, .string nm, .int .i64 s, .bool false, .int .i64 f, .int .i64 a, .int .i64 b0, .int .i64 d, .slice ca ll cc]) := EvAt.of_block hE4 (HFn.out.1.block _ Hlt.out)
        have HS8 : Hid (H ≤ v8.heap.size) := Nat.le_trans HSd.out HFn.out.1.size
        clear hv8 HWn HFn hHeld hE4 hkk hvd hv0 HW4 HB4 HSd HF0 Hrun
        try clear hva
        have e6 := EB8.out.facts.2.2.2.2.2.2.1
        go_wp2_with fail
        clear e6
        refine (padd_any b H _ [kwStation, kwd, nm] (.slice (some ⟨v8.heap.size, 0, none⟩) 1 1) [s] (v8.alloc (.cells #[.int .i64 s] 3)) (HW8.out.below ((Below.refl _ _).alloc (Nat.le_refl _) _)) (IntsT.at v8 _ rfl [s]) (by simp; exact His.out) (HE.out.below (HB8.out.alloc HB8.out.size _) hs8) (by have := Hlt.out; omega) (by have := HS8.out; simp; omega) (by have := HBb.out; omega) (by simp) (by simp)).mono ?_
        rintro e w5 ⟨rfl, ⟨v5, hw5⟩, hf5⟩
        have HW5 : Hid (WordsAt w5 b H v5 [kwStation, kwd, nm, istr s]) := hw5
        have HB5 : Hid (Below w.heap.size w w5) := (HB8.out.alloc HB8.out.size _).trans (hf5.1.mono (by have := Hlt.out; omega))
        have EB5 : Hid (EvAt w5 w.heap.size [.int .i64 4, .string ⟨#[]⟩, .slice ba 0 bc, .int .i64 0, .int .i64 k, .string nm, .int .i64 s, .bool false, .int .i64 f, .int .i64 a, .int .i64 b0, .int .i64 d, .slice ca ll cc]) := (EB8.out.alloc _).of_block (hf5.1.block _ Hlt.out)
        have HS5 : Hid (H ≤ w5.heap.size) := Nat.le_trans HS8.out (Nat.le_trans (by simp) hf5.1.size)
        clear hw5 hf5 HW8 HB8 EB8
        have g7 := EB5.out.facts.2.2.2.2.2.2.2.1
        have g8 := EB5.out.facts.2.2.2.2.2.2.2.2.1
        have g9 := EB5.out.facts.2.2.2.2.2.2.2.2.2.1
        have g10 := EB5.out.facts.2.2.2.2.2.2.2.2.2.2.1
        have g11 := EB5.out.facts.2.2.2.2.2.2.2.2.2.2.2.1
        go_upto_region 18 with fail
        clear g8 g9 g10 g11
        obtain ⟨w6, hw6⟩ : ∃ w6, w6 = w5.alloc (.cells #[.int .i64 f, .int .i64 a, .int .i64 b0, .int .i64 d] 31) := ⟨_, rfl⟩
        rw [← hw6]
        have hb6 : Below w5.heap.size w5 w6 := by rw [hw6]; exact (Below.refl _ _).alloc (Nat.le_refl _) _
        have HW6 := Lib.hid (HW5.out.below hb6)
        have HB6 := Lib.hid (below_then HB5.out hb6)
        have EB6 := Lib.hid (EB5.out.below hb6)
        have HS6 := Lib.hid (Nat.le_trans HS5.out hb6.size)
        have HT6 : Hid (Typed w6 w5.heap.size 31 ∧ ∀ i, i < 4 → w6.cell? ⟨w5.heap.size, i, none⟩ = [Value.int .i64 f, .int .i64 a, .int .i64 b0, .int .i64 d][i]?) := by
          rw [hw6]; exact ⟨⟨_, _, heap_alloc_new w5 _⟩, fun i hi => by simp⟩
        have Hne6 : Hid (w5.heap.size ≠ b) := by have := lt_of_block HW5.out.1; unfold Hid; omega
        have g7' := EB6.out.facts.2.2.2.2.2.2.2.1
        clear hb6 hw6 g7
        obtain ⟨sa6, sc6, rfl⟩ := HW6.out.slice
        have hvc : w6.cell? ⟨b, 0, none⟩ = some (.slice sa6 4 sc6) := HW6.out.var.1
        obtain ⟨v', w', hrun, hc1, hs1, hw1, hf1, ⟨oa2, om2, oc2, rfl⟩, hf0⟩ := HW6.out.more [kwAt] (by simp) (by simp) HS6.out (by have := HBb.out; omega) 29
        have Hrun := Lib.hid hrun
        have HWn := Lib.hid hw1
        have HFn := Lib.hid hf1
        clear hrun hw1 hf1 hf0
        go_upto_region 21 with (at_builtin; refine wpList_append_run rfl _ _ _ rfl _ _ _ _ rfl rfl Hrun.out ?_)
        clear hc1 hs1 hvc g7'
        obtain ⟨w7, hw7⟩ : ∃ w7, w7 = w'.setCell ⟨b, 0, none⟩ (.slice oa2 om2 oc2) := ⟨_, rfl⟩
        rw [← hw7]
        rw [← hw7] at HWn HFn
        have HW7 : Hid (WordsAt w7 b H (.slice oa2 om2 oc2) [kwStation, kwd, nm, istr s, kwAt]) := HWn.out
        have HB7 : Hid (Below w.heap.size w w7) := HB6.out.trans (HFn.out.1.mono (Nat.le_of_lt Hlt.out))
        have EB7 : Hid (EvAt w7 w.heap.size [.int .i64 4, .string ⟨#[]⟩, .slice ba 0 bc, .int .i64 0, .int .i64 k, .string nm, .int .i64 s, .bool false, .int .i64 f, .int .i64 a, .int .i64 b0, .int .i64 d, .slice ca ll cc]) := EB6.out.of_block (HFn.out.1.block _ Hlt.out)
        have HS7 : Hid (H ≤ w7.heap.size) := Nat.le_trans HS6.out HFn.out.1.size
        have HT7 : Hid (∀ i, i < 4 → w7.cell? ⟨w5.heap.size, i, none⟩ = [Value.int .i64 f, .int .i64 a, .int .i64 b0, .int .i64 d][i]?) := fun i hi => by
          have e : w7.cell? ⟨w5.heap.size, i, none⟩ = w6.cell? ⟨w5.heap.size, i, none⟩ := World.cell?_of_block (w := w6) (HFn.out.2 w5.heap.size _ (by decide) Hne6.out HT6.out.1)
          rw [e]; exact HT6.out.2 i hi
        clear hw7 HWn HFn Hrun HW6 HB6 EB6 HS6 HT6 HW5 HB5 EB5 HS5
        have q0 : w7.cell? ⟨w5.heap.size, 0, none⟩ = some (.int .i64 f) := HT7.out 0 (by omega)
        have q1 : w7.cell? ⟨w5.heap.size, 1, none⟩ = some (.int .i64 a) := HT7.out 1 (by omega)
        have q2 : w7.cell? ⟨w5.heap.size, 2, none⟩ = some (.int .i64 b0) := HT7.out 2 (by omega)
        have q3 : w7.cell? ⟨w5.heap.size, 3, none⟩ = some (.int .i64 d) := HT7.out 3 (by omega)
        go_wp2_with fail
        clear q0 q1 q2 q3
        refine (padd_any b H _ [kwStation, kwd, nm, istr s, kwAt] (.slice (some ⟨w7.heap.size, 0, none⟩) 4 4) [f, a, b0, d] (w7.alloc (.cells #[.int .i64 f, .int .i64 a, .int .i64 b0, .int .i64 d] 3)) (HW7.out.below ((Below.refl _ _).alloc (Nat.le_refl _) _)) (IntsT.at w7 _ rfl [f, a, b0, d]) (by simp; exact ⟨HJf.out, HJa.out, HJb0.out, HJd.out⟩) (HE.out.below (HB7.out.alloc HB7.out.size _) hs8) (by have := Hlt.out; omega) (by have := HS7.out; simp; omega) (by have := HBb.out; omega) (by simp) (by simp)).mono ?_
        rintro e wl ⟨rfl, ⟨vl, hwl⟩, hfl⟩
        have HWl : Hid (WordsAt wl b H vl [kwStation, kwd, nm, istr s, kwAt, istr f, istr a, istr b0, istr d]) := hwl
        have HBl : Hid (Below w.heap.size w wl) := (HB7.out.alloc HB7.out.size _).trans (hfl.1.mono (by have := Hlt.out; omega))
        have EBl : Hid (EvAt wl w.heap.size [.int .i64 4, .string ⟨#[]⟩, .slice ba 0 bc, .int .i64 0, .int .i64 k, .string nm, .int .i64 s, .bool false, .int .i64 f, .int .i64 a, .int .i64 b0, .int .i64 d, .slice ca ll cc]) := (EB7.out.alloc _).of_block (hfl.1.block _ Hlt.out)
        have HSl : Hid (H ≤ wl.heap.size) := Nat.le_trans HS7.out (Nat.le_trans (by simp) hfl.1.size)
        clear hwl hfl HW7 HB7 EB7 HS7 HT7
        obtain ⟨HD, hHD⟩ : ∃ HD, HD = [kwStation, kwd, nm, istr s, kwAt, istr f, istr a, istr b0, istr d] := ⟨_, rfl⟩
        rw [← hHD] at HWl
        have HHD : Hid (HD ++ biasW l = ([kwStation, kindW k, nm, istr s] ++ [kwAt, istr f, istr a, istr b0, istr d]) ++ biasW l) := by unfold Hid; rw [hHD, HKd.out]; rfl
        have hHDl : HD.length ≤ 9 := by rw [hHD]; simp
        clear hHD
        have e12 := EBl.out.facts.2.2.2.2.2.2.2.2.2.2.2.2
        go_wp2_with fail
        clear e12
        go_loopw [93] (fun x wr => ∃ (j : Nat) (v : Value), j ≤ ll ∧ x = .int .i64 j ∧ WordsAt wr b H v (HD ++ biasW (l.take j)) ∧ Below w.heap.size w wr ∧ H ≤ wr.heap.size) (fun x _ => (ll - intOf x).toNat)
        case atStart => exact ⟨0, vl, by omega, rfl, by simpa [biasW] using HWl.out, HBl.out, HSl.out⟩
        case round =>
          obtain ⟨j, v, hj, rfl, hwr, hBr, hSr⟩ := hrel
          have hWn : (HD ++ biasW (l.take j)).length ≤ 10000000 := by
            have := bias_len (l.take j)
            have h2 : (l.take j).length ≤ 2000000 := by rw [List.length_take]; have := Hll.out; omega
            rw [List.length_append]; omega
          by_cases hlt : j < ll
          · have hjl : j < l.length := by have := Hll.out; omega
            obtain ⟨ab, ao, rfl, p0, p1⟩ := Hcells.out j hjl
            have p0 := cell_then hBr p0
            have p1 := cell_then hBr p1
            have hm : l.getD j (0, 0) ∈ l := by rw [getD_mem hjl]; exact List.getElem_mem hjl
            have hnl := HLN.out _ hm
            have Hu := Lib.hid (not_long hnl.1)
            have Hv := Lib.hid (not_long hnl.2)
            have Htk : Hid (HD ++ biasW (l.take (j + 1)) = (HD ++ biasW (l.take j)) ++ [kwBias] ++ [istr (l.getD j (0, 0)).1, istr (l.getD j (0, 0)).2]) := by
              unfold Hid
              have e : biasW (l.take (j + 1)) = biasW (l.take j) ++ [kwBias, istr (l.getD j (0, 0)).1, istr (l.getD j (0, 0)).2] := by
                rw [List.take_succ_eq_append_getElem hjl, getD_mem hjl]; unfold biasW; rw [List.flatMap_append]; rfl
              rw [e, List.append_assoc, List.append_assoc]; rfl
            generalize (l.getD j (0, 0)).1 = u at *
            generalize (l.getD j (0, 0)).2 = y at *
            clear hm hnl
            have HWr := Lib.hid hwr
            have HBr := Lib.hid hBr
            have HSr := Lib.hid hSr
            have HWn := Lib.hid hWn
            generalize HD ++ biasW (l.take j) = W at *
            clear hwr hBr hSr hWn
            have i0 : (0 : Int) ≤ (j : Int) := by omega
            have i1 : (j : Int) < (ll : Int) := by omega
            go_upto_region 25 with fail
            clear p0 p1
            obtain ⟨wa, hwa⟩ : ∃ wa, wa = wr.alloc (.cells #[.int .i64 u, .int .i64 y] 51) := ⟨_, rfl⟩
            rw [← hwa]
            have hba : Below wr.heap.size wr wa := by rw [hwa]; exact (Below.refl _ _).alloc (Nat.le_refl _) _
            have HWa := Lib.hid (HWr.out.below hba)
            have HBa := Lib.hid (below_then HBr.out hba)
            have HSa := Lib.hid (Nat.le_trans HSr.out hba.size)
            have HTa : Hid (Typed wa wr.heap.size 51 ∧ wa.cell? ⟨wr.heap.size, 0, none⟩ = some (.int .i64 u) ∧ wa.cell? ⟨wr.heap.size, 1, none⟩ = some (.int .i64 y)) := by
              rw [hwa]; exact ⟨⟨_, _, heap_alloc_new wr _⟩, by simp, by simp⟩
            have Hnea : Hid (wr.heap.size ≠ b) := by have := lt_of_block HWr.out.1; unfold Hid; omega
            clear hba hwa
            obtain ⟨sa, sc, rfl⟩ := HWa.out.slice
            have hvc := HWa.out.var.1
            obtain ⟨v', w', hrun, hc1, hs1, hw1, hf1, ⟨oa2, om2, oc2, rfl⟩, hf0⟩ := HWa.out.more [kwBias] (by have := HWn.out; omega) (by simp) HSa.out (by have := HBb.out; omega) 29
            have Hrun := Lib.hid hrun
            have HWn2 := Lib.hid hw1
            have HFn := Lib.hid hf1
            clear hrun hw1 hf1 hf0
            generalize hWl2 : W.length = Wl at *
            go_upto_region 26 with (at_builtin; refine wpList_append_run rfl _ _ _ rfl _ _ _ _ rfl rfl Hrun.out ?_)
            clear hc1 hs1 hvc
            obtain ⟨wb, hwb⟩ : ∃ wb, wb = w'.setCell ⟨b, 0, none⟩ (.slice oa2 om2 oc2) := ⟨_, rfl⟩
            rw [← hwb]
            rw [← hwb] at HWn2 HFn
            have HBb2 : Hid (Below w.heap.size w wb) := HBa.out.trans (HFn.out.1.mono (Nat.le_of_lt Hlt.out))
            have HSb2 : Hid (H ≤ wb.heap.size) := Nat.le_trans HSa.out HFn.out.1.size
            have eb := HFn.out.2 wr.heap.size _ (by decide) Hnea.out HTa.out.1
            have q0 : wb.cell? ⟨wr.heap.size, 0, none⟩ = some (.int .i64 u) := by
              have e : wb.cell? ⟨wr.heap.size, 0, none⟩ = wa.cell? ⟨wr.heap.size, 0, none⟩ := World.cell?_of_block (w := wa) eb
              rw [e]; exact HTa.out.2.1
            have q1 : wb.cell? ⟨wr.heap.size, 1, none⟩ = some (.int .i64 y) := by
              have e : wb.cell? ⟨wr.heap.size, 1, none⟩ = wa.cell? ⟨wr.heap.size, 1, none⟩ := World.cell?_of_block (w := wa) eb
              rw [e]; exact HTa.out.2.2
            clear eb hwb HFn Hrun HTa HWa HBa HSa
            go_wp2_with fail
            clear q0 q1
            refine (padd_any b H _ (W ++ [kwBias]) (.slice (some ⟨wb.heap.size, 0, none⟩) 2 2) [u, y] (wb.alloc (.cells #[.int .i64 u, .int .i64 y] 3)) (HWn2.out.below ((Below.refl _ _).alloc (Nat.le_refl _) _)) (IntsT.at wb _ rfl [u, y]) (by simp; exact ⟨Hu.out, Hv.out⟩) (HE.out.below (HBb2.out.alloc HBb2.out.size _) hs8) (by have := Hlt.out; omega) (by have := HSb2.out; simp; omega) (by have := HBb.out; omega) (by have := HWn.out; simp; omega) (by simp)).mono ?_
            rintro e wc ⟨rfl, ⟨vc, hwc⟩, hfc⟩
            have HWc2 : Hid (WordsAt wc b H vc (W ++ [kwBias] ++ [istr u, istr y])) := hwc
            have HBc2 : Hid (Below w.heap.size w wc) := (HBb2.out.alloc HBb2.out.size _).trans (hfc.1.mono (by have := Hlt.out; omega))
            have HSc2 : Hid (H ≤ wc.heap.size) := Nat.le_trans HSb2.out (Nat.le_trans (by simp) hfc.1.size)
            clear hwc hfc
            go_wp2_with fail
            go_roundw
            case rel => exact ⟨j + 1, vc, by omega, by go_num, by rw [Htk.out]; exact HWc2.out, HBc2.out, HSc2.out⟩
            case measure => simp [intOf]; omega
          · obtain rfl : j = ll := by omega
            have hle : l.take j = l := by rw [Hll.out, List.take_length]
            rw [hle, HHD.out] at hwr
            have HWf := Lib.hid hwr
            have HBf := Lib.hid hBr
            obtain ⟨RR, hRR⟩ : ∃ RR, RR = ([kwStation, kindW k, nm, istr s] ++ [kwAt, istr f, istr a, istr b0, istr d]) ++ biasW l := ⟨_, rfl⟩
            have h0 : RR ≠ [] := by rw [hRR]; simp
            rw [← hRR] at HWf HPZ
            have HRR := Lib.hid hRR
            have H0 := Lib.hid h0
            clear hwr hBr hle hRR h0 hWn
            obtain ⟨ja, jc, rfl⟩ := HWf.out.slice
            have hvc := HWf.out.var.1
            generalize hjl : RR.length = jl at hvc
            go_wp2_with fail
            rw [← hjl]
            refine (pjoin_any HWf.out H0.out (by have := HPZ.out.2; omega) HPZ.out.1).mono ?_
            rintro e w9 ⟨rfl, hb9⟩
            have HB9 := Lib.hid (below_then HBf.out hb9)
            clear hb9 hvc hjl
            obtain ⟨sx, hsx⟩ : ∃ sx, sx = joinB 32 RR := ⟨_, rfl⟩
            rw [← hsx]
            have Hsx : Hid (sx = joinB 32 (([kwStation, kindW k, nm, istr s] ++ [kwAt, istr f, istr a, istr b0, istr d]) ++ biasW l)) := by rw [← HRR.out]; exact hsx
            clear hsx
            go_wp2_with fail
            go_ret2
            exact ⟨congrArg (fun z => Ending.returned (.tuple #[.string z, .int .i64 0])) Hsx.out, HB9.out⟩
end Go.Proofs.YtobaoekibnloiaaGreatDoor
/- script's Write, of any event. -/
namespace Go.Proofs.YtobaoekibnloiaaGreatDoor
open Go Go.RowKit

def PWriteIs (x : Ev) (w : World) (e : Ending) (w' : World) : Prop := e = .returned (.tuple #[.string (if errOf x = 0 then lineW x else ⟨#[]⟩), .int .i64 (errOf x)]) ∧ Below w.heap.size w w'
set_option maxHeartbeats 4000000 in
set_option maxRecDepth 100000 in
theorem pwrite_err (x : Ev) (bv cv : Value) (w : World) (er : Int) (he : er ≠ 0) (hr : ∀ w', Below w.heap.size w w' → Calls Tryz.prog 28 #[x.val bv cv] w' (fun e w'' => e = .returned (.int .i64 er) ∧ Below w'.heap.size w' w'')) :
    Calls Tryz.prog 15 #[x.val bv cv] w fun e w' => e = .returned (.tuple #[.string ⟨#[]⟩, .int .i64 er]) ∧ Below w.heap.size w w' := by
  have EB := Lib.hid (EvAt.new w (evCells x bv cv) rfl 36)
  have HR := Lib.hid (hr _ (one_below w (.cells (evCells x bv cv).toArray 36)))
  have hb : (er != 0) = true := by simpa using he
  clear he hr
  unfold Ev.val
  go_enter Tryz.func15, Tryz.ntmps15
  go_wp2_with (refine ev_load rfl _ rfl _ rfl _ EB.out ?_)
  refine HR.out.mono ?_
  rintro e w1 ⟨rfl, hb1⟩
  have HB := Lib.hid (below_then (one_below w _) hb1)
  clear hb1
  go_wp2_with fail
  all_goals (go_ret2; exact ⟨rfl, HB.out⟩)
theorem pwrite_any (x : Ev) (bv cv : Value) (w : World) (hp : EvParts 0 w x bv cv) (hE : Env w) :
    Calls Tryz.prog 15 #[x.val bv cv] w (PWriteIs x w) := by
  by_cases he : errOf x = 0
  · unfold PWriteIs
    rw [he, if_pos rfl]
    have hg := good_of_ok he
    cases hg with
    | text t => exact pwrite_text t bv cv w hp hE
    | binary l => exact pwrite_binary l bv cv w hp hE
    | tick n h => exact pwrite_tick n h bv cv w hp hE
    | crash n h => exact pwrite_crash n h bv cv w hp hE
    | again => exact pwrite_again bv cv w hp hE
    | shut k nm f l h1 h2 hn hf hl =>
      obtain ⟨j, rfl⟩ : ∃ j : Nat, k = j := ⟨k.toNat, by omega⟩
      exact pwrite_shut j nm f l (by omega) (by omega) hn hf hl bv cv w hp hE
    | put k nm f p q r s l h1 h2 hn hf hp1 hq hr hs hl =>
      obtain ⟨j, rfl⟩ : ∃ j : Nat, k = j := ⟨k.toNat, by omega⟩
      exact pwrite_open j nm f p q r s l (by omega) (by omega) hn hf hp1 hq hr hs hl bv cv w hp hE
  · unfold PWriteIs
    rw [if_neg he]
    exact pwrite_err x bv cv w (errOf x) he (fun w' hb => check_any x bv cv w' (hE.below hb hE.size) (hp.below hb))
end Go.Proofs.YtobaoekibnloiaaGreatDoor
/- The methods of strings.Builder that script uses, on a builder that lies at the head of a block of the call's own. The lengths stay below 2^47. -/
namespace Go.Proofs.YtobaoekibnloiaaGreatDoor
open Go Go.RowKit

abbrev WT : TypeId := 60

theorem wsize : (Tryz.prog.info? 60).map (·.size) = some 2 := by kernel_rfl
theorem wlies : liesAt Tryz.prog Tryz.prog.depth 60 (2 / Tryz.prog.cellsOf 60) 0 60 1 = true := by kernel_rfl

/-- Blocks of other types than the bytes, but for block b, hold what they held. -/
def KeepsT (b : Nat) (w w' : World) : Prop := ∀ k cs T fr, w.heap[k]? = some (.cells cs T fr) → T ≠ 5 → k ≠ b → w'.heap[k]? = some (.cells cs T fr)
theorem KeepsT.refl (b : Nat) (w : World) : KeepsT b w w := fun _ _ _ _ h _ _ => h
theorem KeepsT.trans {b : Nat} {x y z : World} (h : KeepsT b x y) (k : KeepsT b y z) : KeepsT b x z := fun i cs T fr e hT hi => k i cs T fr (h i cs T fr e hT hi) hT hi
theorem KeepsT.setCell (b o : Nat) (w : World) (u : Value) : KeepsT b w (w.setCell ⟨b, o, none⟩ u) := fun k cs T fr e _ hk => by
  rw [Below.heap_setCell _ _ _ _ (fun e => hk e)]; exact e
theorem KeepsT.alloc (b : Nat) (w : World) (o : Obj) : KeepsT b w (w.alloc o) := fun k cs T fr e _ _ => by
  have hlt : k < w.heap.size := (Array.getElem?_eq_some_iff.1 e).1
  rw [Below.heap_alloc _ _ _ hlt]; exact e
theorem KeepsT.drew (b : Nat) (w : World) : KeepsT b w w.drew := fun _ _ _ _ h _ _ => h
theorem KeepsT.grown {b B n : Nat} {w w' : World} {v : Value} {bs : List Value} (hown : w.ownsRow B 5 1 v n bs) (hg : w.grownBy w' v.ownBlock) : KeepsT b w w' := fun k cs T fr e hT _ => by
  have hlt : k < w.heap.size := (Array.getElem?_eq_some_iff.1 e).1
  rw [hg.block k hlt ?_]; exact e
  intro hk
  rcases hown.2 with ⟨hv, _⟩ | ⟨g, cap, cur, hv, _, hgg, _⟩
  · rw [hv] at hk; cases hk
  · rw [hv] at hk
    obtain rfl : k = g := by simpa [Value.ownBlock] using hk
    rw [e] at hgg
    simp at hgg
    exact hT hgg.2.1

set_option maxHeartbeats 1000000 in
set_option maxRecDepth 100000 in
theorem check_used (b : Nat) (w : World) (h0 : w.cell? ⟨b, 0, none⟩ = some (.pointer (some ⟨b, 0, none⟩))) :
    Calls Tryz.prog 45 #[.pointer (some ⟨b, 0, none⟩)] w fun e w' => e = .returned (.tuple #[]) ∧ w' = w := by
  obtain ⟨j, hj, _⟩ := Option.map_eq_some_iff.1 wsize
  go_enter Tryz.func45, Tryz.ntmps45
  go_wp2
  rw [Lib.run_neq_ptr_same w _ Tryz.underlying58 hj]
  go_wp2
  go_end0
  exact ⟨rfl, rfl⟩

set_option maxHeartbeats 1000000 in
set_option maxRecDepth 100000 in
theorem check_fresh (b : Nat) (w : World) (h0 : w.cell? ⟨b, 0, none⟩ = some (.pointer none)) (hsh : w.shape? b = some (WT, 2)) (hfz : w.frozen? ⟨b, 0, none⟩ = false) :
    Calls Tryz.prog 45 #[.pointer (some ⟨b, 0, none⟩)] w fun e w' => e = .returned (.tuple #[]) ∧ w' = w.setCell ⟨b, 0, none⟩ (.pointer (some ⟨b, 0, none⟩)) := by
  obtain ⟨j, hj, hjs⟩ := Option.map_eq_some_iff.1 wsize
  go_enter Tryz.func45, Tryz.ntmps45
  go_wp2
  rw [Lib.run_to_unsafe w ⟨b, 0, none⟩ Tryz.underlying58 Tryz.underlying106 hj (by rw [hjs]; decide) hsh (Nat.zero_lt_succ 1)]
  simp only [Result.andThen]
  rw [Oper.upon_value]
  go_wp2
  rw [run_callFunc_extern Tryz.func68 (by kernel_rfl) (by kernel_rfl) (by kernel_rfl) (e := Extern.AbiNoEscape.same) (by kernel_rfl)]
  rw [Lib.run_noEscape]
  simp only [Result.andThen]
  rw [Oper.upon_value]
  go_wp2
  rw [Lib.run_from_unsafe w ⟨b, 0, none⟩ Tryz.underlying106 Tryz.underlying58 hj hsh wlies]
  simp only [Result.andThen]
  rw [Oper.upon_value]
  go_wp2
  go_end0
  exact ⟨rfl, rfl⟩

theorem bcheck_any (B b : Nat) (bs : List Value) (w : World) (h : Lib.IsBuilder WT 5 B b bs w) :
    Calls Tryz.prog 45 #[.pointer (some ⟨b, 0, none⟩)] w fun e w' => e = .returned (.tuple #[]) ∧ (Lib.BuilderAt WT 5 B b (.pointer (some ⟨b, 0, none⟩)) bs w' ∧ Below B w w' ∧ KeepsT b w w') := by
  rcases h with h | h
  · refine (check_fresh b w h.cell0 h.shape h.frozen0).mono ?_
    rintro e w' ⟨rfl, rfl⟩
    exact ⟨rfl, h.used _, (Below.refl B w).setCell (p := ⟨b, 0, none⟩) h.1 _, KeepsT.setCell _ _ _ _⟩
  · refine (check_used b w h.cell0).mono ?_
    rintro e w' ⟨rfl, rfl⟩
    exact ⟨rfl, h, Below.refl B _, KeepsT.refl _ _⟩

set_option maxHeartbeats 1000000 in
set_option maxRecDepth 100000 in
theorem len_any (B b : Nat) (bs : List Value) (w : World) (h : Lib.IsBuilder WT 5 B b bs w) :
    Calls Tryz.prog 26 #[.pointer (some ⟨b, 0, none⟩)] w fun e w' => e = .returned (.int .i64 bs.length) ∧ w = w' := by
  obtain ⟨p, hB, v, hbk, hown, hne⟩ : ∃ p, Lib.BuilderAt WT 5 B b p bs w := by
    rcases h with h | h
    · exact ⟨_, h⟩
    · exact ⟨_, h⟩
  obtain ⟨ao, cap, rfl⟩ : ∃ ao cap, v = .slice ao bs.length cap := by
    rcases hown.2 with ⟨hv, h0⟩ | ⟨g, cap, cur, hv, _⟩
    · exact ⟨none, 0, by rw [hv, h0]⟩
    · exact ⟨_, _, hv⟩
  have c1 : w.cell? ⟨b, 1, none⟩ = some (.slice ao bs.length cap) := by rw [Lib.cell_of_heap hbk]; rfl
  clear hbk hown hne h
  generalize bs.length = n at *
  go_enter Tryz.func26, Tryz.ntmps26
  go_wp2
  go_ret
  exact ⟨rfl, rfl⟩

set_option maxHeartbeats 2000000 in
set_option maxRecDepth 100000 in
theorem wstring_any (B b : Nat) (bs : List Value) (s : ByteArray) (w : World) (h : Lib.IsBuilder WT 5 B b bs w) (hlen : bs.length + s.size ≤ 140737488355328) (hBw : B ≤ w.heap.size) :
    Calls Tryz.prog 25 #[.pointer (some ⟨b, 0, none⟩), .string s] w fun e w' => e = .returned (.tuple #[.int .i64 s.size, .nilIface]) ∧ (Lib.BuilderAt WT 5 B b (.pointer (some ⟨b, 0, none⟩)) (bs ++ Lib.strCells s) w' ∧ Below B w w' ∧ KeepsT b w w') := by
  obtain ⟨i0, hi, hz0, hz1, hz2⟩ := info_parts binfo
  go_enter Tryz.func25, Tryz.ntmps25
  go_wp2_with fail
  refine (bcheck_any B b bs _ h).mono ?_
  rintro e w1 ⟨rfl, h1, hb1, hk1⟩
  have HK1 := Lib.hid hk1
  clear hk1
  obtain ⟨hB, v, hbk, hown, hne⟩ := h1
  have c0 : w1.cell? ⟨b, 0, none⟩ = some (.pointer (some ⟨b, 0, none⟩)) := by rw [Lib.cell_of_heap hbk]; rfl
  have c1 : w1.cell? ⟨b, 1, none⟩ = some v := by rw [Lib.cell_of_heap hbk]; rfl
  go_wp2_with (at_builtin; refine Lib.wpList_append_own_string _ rfl _ _ 22 9 rfl B 5 i0 Tryz.underlying22 Tryz.underlying9 hi hz0 hz1 hz2 _ _ _ rfl hown s rfl ?c3 ?c4 ?c5 ?_)
  case c3 => unfold maxLen; omega
  case c4 => omega
  case c5 => have := hb1.size; omega
  intro v' w2 hown' hgrow _
  have hlt : b < w1.heap.size := by
    rcases Nat.lt_or_ge b w1.heap.size with h' | h'
    · exact h'
    · simp [Array.getElem?_eq_none h'] at hbk
  have hb2 : w2.heap[b]? = some (.cells #[.pointer (some ⟨b, 0, none⟩), v] WT (0, 0)) := by
    rw [hgrow.block b hlt (fun e => hne e.symm)]
    exact hbk
  have d0 : w2.cell? ⟨b, 0, none⟩ = some (.pointer (some ⟨b, 0, none⟩)) := by rw [Lib.cell_of_heap hb2]; rfl
  have d1 : w2.cell? ⟨b, 1, none⟩ = some v := by rw [Lib.cell_of_heap hb2]; rfl
  have f1 : w2.frozen? ⟨b, 1, none⟩ = false := Lib.frozen_of_heap hb2 1
  obtain ⟨ao, n', cap, rfl⟩ : ∃ ao n' cap, v' = .slice ao n' cap := by
    rcases hown'.2 with ⟨hv, _⟩ | ⟨g, cap, cur, hv, _⟩
    · exact ⟨_, _, _, hv⟩
    · exact ⟨_, _, _, hv⟩
  go_wp2
  go_ret2
  refine ⟨rfl, ?_, ?_, (HK1.out.trans (KeepsT.grown hown hgrow)).trans (KeepsT.setCell _ _ _ _)⟩
  · exact Lib.BuilderAt.put (T := WT) (e := 5) hB hb2 (bs' := bs ++ Lib.strCells s) (by simpa [Lib.strCells_length] using hown') (by decide)
  · exact (hb1.grown hgrow (by have := hb1.size; omega) (fun k hk => (hown.lt k hk).1)).setCell (p := ⟨b, 1, none⟩) hB _

set_option maxHeartbeats 1000000 in
set_option maxRecDepth 100000 in
/-- String of a builder that holds at least one byte. -/
theorem string_any (B b : Nat) (l : List UInt8) (w : World) (h : Lib.IsBuilder WT 5 B b (Lib.byteCells l) w) (h0 : l ≠ []) :
    Calls Tryz.prog 27 #[.pointer (some ⟨b, 0, none⟩)] w fun e w' => e = .returned (.string ⟨l.toArray⟩) ∧ Below B w w' := by
  obtain ⟨p, hB, v, hbk, hown, hne⟩ : ∃ p, Lib.BuilderAt WT 5 B b p (Lib.byteCells l) w := by
    rcases h with h | h
    · exact ⟨_, h⟩
    · exact ⟨_, h⟩
  have hl0 : l.length ≠ 0 := by simpa using h0
  rw [Lib.byteCells_length] at hown
  obtain ⟨g, cap, cur, rfl, hbg, hg, hnc, hcm, hcs, htake⟩ : ∃ g cap cur, v = .slice (some ⟨g, 0, none⟩) l.length cap ∧ B ≤ g ∧ w.heap[g]? = some (.cells cur 5 (0, 0)) ∧ l.length ≤ cap ∧ cap ≤ maxLen ∧ cur.size = cap * 1 ∧ cur.toList.take (l.length * 1) = Lib.byteCells l := by
    rcases hown.2 with ⟨_, hz⟩ | ⟨g, cap, cur, hv, r⟩
    · exact absurd hz hl0
    · exact ⟨g, cap, cur, hv, r⟩
  have c1 : w.drew.cell? ⟨b, 1, none⟩ = some (.slice (some ⟨g, 0, none⟩) l.length cap) := by
    have : w.drew.heap[b]? = some (.cells #[p, .slice (some ⟨g, 0, none⟩) l.length cap] WT (0, 0)) := hbk
    rw [Lib.cell_of_heap this]; rfl
  have hSD : (Builtin.unsafeSliceData_ #[22] 86 #[.slice (some ⟨g, 0, none⟩) l.length cap]).run Tryz.prog w.drew = .ok (.pointer (some ⟨g, 0, none⟩)) w.drew :=
    Lib.run_unsafeSliceData_row _ _ _ _ _ _ (by omega)
  have hUS : (Builtin.unsafeString_ #[86, 3] 9 #[.pointer (some ⟨g, 0, none⟩), .int .i64 l.length]).run Tryz.prog w.drew = .ok (.string ⟨l.toArray⟩) (w.drew.freeze ⟨g, 0, none⟩ l.length) := by
    refine Lib.run_unsafeString_row w.drew 86 3 9 5 Tryz.underlying86 (by kernel_rfl) g cur.size (by have hg' : w.drew.heap[g]? = some (.cells cur 5 (0, 0)) := hg; simp [World.shape?, hg']) l h0 (by omega) (by unfold maxLen at hcm; omega) ?_
    intro j x hx
    have := hown.cells (g := g) rfl j (.int .u8 x.toNat) (by simp [Lib.byteCells, hx])
    exact this
  have Hb := Lib.hid hbg
  clear hbk hg htake hown
  generalize l.length = n at *
  go_enter Tryz.func27, Tryz.ntmps27
  go_wp2
  go_region
  all_goals (go_wp2; go_ret; exact ⟨rfl, Lib.below_freeze (Below.drew (Below.refl B w)) (p := ⟨g, 0, none⟩) Hb.out _⟩)
end Go.Proofs.YtobaoekibnloiaaGreatDoor
/- script's Format. -/
namespace Go.Proofs.YtobaoekibnloiaaGreatDoor
open Go Go.RowKit

theorem isb_below {B b : Nat} {bs : List Value} {w w' : World} (h : Lib.IsBuilder WT 5 B b bs w) (hb : Below w.heap.size w w') : Lib.IsBuilder WT 5 B b bs w' := by
  have key : ∀ p, Lib.BuilderAt WT 5 B b p bs w → Lib.BuilderAt WT 5 B b p bs w' := by
    rintro p ⟨h1, v, h2, h3, h4⟩
    exact ⟨h1, v, by rw [hb.block b (Array.getElem?_eq_some_iff.1 h2).1]; exact h2, ownsRow_below h3 hb, h4⟩
  exact h.imp (key _) (key _)
theorem isb_lt {B b : Nat} {bs : List Value} {w : World} (h : Lib.IsBuilder WT 5 B b bs w) : b < w.heap.size := by
  rcases h with ⟨_, v, h, _⟩ | ⟨_, v, h, _⟩ <;> exact (Array.getElem?_eq_some_iff.1 h).1
set_option maxHeartbeats 1000000 in
set_option maxRecDepth 100000 in
/-- String of a builder that holds nothing. -/
theorem string_none (b : Nat) (p : Value) (w : World) (hbk : w.heap[b]? = some (.cells #[p, .slice none 0 0] WT (0, 0))) :
    Calls Tryz.prog 27 #[.pointer (some ⟨b, 0, none⟩)] w fun e w' => e = .returned (.string ⟨#[]⟩) ∧ Below w.heap.size w w' := by
  have c1 : w.drew.cell? ⟨b, 1, none⟩ = some (.slice none 0 0) := by
    have : w.drew.heap[b]? = some (.cells #[p, .slice none 0 0] WT (0, 0)) := hbk
    rw [Lib.cell_of_heap this]; rfl
  have hSD : (Builtin.unsafeSliceData_ #[22] 86 #[.slice none 0 0]).run Tryz.prog w.drew = .ok (.pointer none) w.drew := Lib.run_unsafeSliceData_nil _ _ _ _ _
  have hUS : (Builtin.unsafeString_ #[86, 3] 9 #[.pointer none, .int .i64 0]).run Tryz.prog w.drew = .ok (.string ⟨#[]⟩) w.drew := Lib.run_unsafeString_none _ _ _ _ _
  clear hbk
  go_enter Tryz.func27, Tryz.ntmps27
  go_wp2
  go_region
  all_goals (go_wp2; go_ret; exact ⟨rfl, (Below.refl _ _).drew⟩)
def FormIs (l : List Ev) (w : World) (e : Ending) (w' : World) : Prop := e = .returned (.tuple #[.string (formatF l).1, .int .i64 (formatF l).2]) ∧ Below w.heap.size w w'
set_option maxHeartbeats 8000000 in
set_option maxRecDepth 100000 in
theorem pformat_any (v : Value) (l : List Ev) (w : World) (hv : EvsIn 0 w v l) (hE : Env w) (hW : ∀ x ∈ l, x.Within 100 10) (hl : l.length ≤ 1000) :
    Calls Tryz.prog 13 #[v] w (FormIs l w) := by
  have HV := Lib.hid hv
  obtain ⟨a, ac, rfl, hln, hrest⟩ := hv
  have HEv := Lib.hid hE
  have hs8 := hE.size
  have HWi := Lib.hid hW
  obtain ⟨n, hn⟩ : ∃ n, n = l.length := ⟨_, rfl⟩
  rw [← hn] at hl HV ⊢
  have Hn := Lib.hid hn
  clear hrest hln hE hW hn
  have HB0 : Hid (Lib.IsBuilder WT 5 w.heap.size w.heap.size (Lib.byteCells []) (w.alloc (.cells #[.pointer none, .slice none 0 0] WT))) :=
    Or.inl ⟨Nat.le_refl _, _, heap_alloc_new w _, World.ownsRow_nil _ _ _ _, by simp [Value.ownBlock]⟩
  have HBw : Hid (Below w.heap.size w (w.alloc (.cells #[.pointer none, .slice none 0 0] WT))) := (Below.refl _ _).alloc (Nat.le_refl _) _
  have HZ0 : Hid (l = [] → (w.alloc (.cells #[.pointer none, .slice none 0 0] WT)).heap[w.heap.size]? = some (.cells #[.pointer none, .slice none 0 0] WT (0, 0))) := fun _ => heap_alloc_new w _
  go_enter Tryz.func13, Tryz.ntmps13
  go_wp2_with fail
  go_loopw [11] (fun x wr => ∃ j : Nat, j ≤ n ∧ x = .int .i64 j ∧ (∀ y ∈ l.take j, errOf y = 0) ∧ Lib.IsBuilder WT 5 w.heap.size w.heap.size (Lib.byteCells (fmtL (l.take j))) wr ∧ Below w.heap.size w wr ∧ (l = [] → wr.heap[w.heap.size]? = some (.cells #[.pointer none, .slice none 0 0] WT (0, 0)))) (fun x _ => (n - intOf x).toNat)
  case atStart => exact ⟨0, by omega, rfl, by simp, HB0.out, HBw.out, HZ0.out⟩
  case round =>
    obtain ⟨j, hj, rfl, hok, hbd, hBr, hz0⟩ := hrel
    have HOk := Lib.hid hok
    have HBd := Lib.hid hbd
    have HBr := Lib.hid hBr
    have HZr := Lib.hid hz0
    clear hok hbd hBr hz0
    by_cases hlt : j < n
    · have hjl : j < l.length := by have := Hn.out; omega
      obtain ⟨ab, ao, bv, cv, rfl, hr, hp⟩ := HV.out.at hjl
      have Hr := Lib.hid (range_below hr HBr.out)
      have Hp := Lib.hid (hp.below HBr.out)
      have HAt : Hid (errOf l[j] ≠ 0 → firstErr l = errOf l[j]) := firstErr_at l j HOk.out hjl
      have HWx := Lib.hid (HWi.out _ (List.getElem_mem hjl))
      have Htk : Hid (l.take (j + 1) = l.take j ++ [l[j]]) := List.take_succ_eq_append_getElem hjl
      have Hne : Hid (l ≠ []) := by unfold Hid; intro e; rw [e] at hjl; simp at hjl
      clear hr hp
      generalize l[j] = x at *
      obtain ⟨er, her⟩ : ∃ er, er = errOf x := ⟨_, rfl⟩
      have Her := Lib.hid her
      clear her
      have EN : Hid (EvAt (wr.alloc (.cells (evCells Ev.zero (.slice none 0 0) (.slice none 0 0)).toArray 36)) wr.heap.size (evCells Ev.zero (.slice none 0 0) (.slice none 0 0))) := EvAt.new _ _ rfl _
      simp only [evCells, Ev.zero] at EN
      obtain ⟨bq, bqc, hbq⟩ : ∃ a c, bv = .slice a x.bytes.length c := by obtain ⟨a, c, e, _⟩ := Hp.out.bytes; exact ⟨a, c, e⟩
      obtain ⟨cq, cqc, hcq⟩ : ∃ a c, cv = .slice a x.bias.length c := by obtain ⟨a, c, e, _⟩ := Hp.out.bias; exact ⟨a, c, e⟩
      have Hone : Hid (bv.oneCell' = true ∧ cv.oneCell' = true) := by unfold Hid; rw [hbq, hcq]; exact ⟨rfl, rfl⟩
      have Hal : Hid (∀ w3, Apart wr.heap.size (wr.alloc (.cells (evCells Ev.zero (.slice none 0 0) (.slice none 0 0)).toArray 36)) w3 → Below wr.heap.size wr w3) := fun w3 h => ((Below.refl _ _).alloc (Nat.le_refl _) _).trans (h.below (Nat.le_refl _))
      simp only [evCells, Ev.zero] at Hal
      clear hbq hcq
      have i0 : (0 : Int) ≤ (j : Int) := by omega
      have i1 : (j : Int) < (n : Int) := by omega
      have Hr2 : Hid (∀ o, (wr.alloc o).rangeAt ab (ao + j * 13) (evCells x bv cv)) := fun o => range_below Hr.out ((Below.refl _ _).alloc (Nat.le_refl _) o)
      go_wp2_with (first
        | (refine ev_load_at rfl _ rfl ab (ao + j * 13) rfl x bv cv Hr.out ?_)
        | (refine ev_store rfl _ _ rfl _ rfl _ (evCells x bv cv) rfl EN.out rfl (evCells_one _ Hone.out.1 Hone.out.2) ?_; intro w3 E3 H3)
        | (refine ev_load rfl _ rfl _ rfl _ E3 ?_))
      have hb3 := Hal.out w3 H3
      have HB3 := Lib.hid (below_then HBr.out hb3)
      refine (pwrite_any x bv cv w3 ((Hp.out.below hb3)) (HEv.out.below HB3.out hs8)).mono ?_
      rintro e w4 ⟨rfl, hb4⟩
      have HB4 := Lib.hid (below_then HB3.out hb4)
      have HBd4 := Lib.hid (isb_below (isb_below HBd.out hb3) hb4)
      rw [← Her.out]
      clear hb3 hb4 E3 H3 EN Hal Hr Hr2 Hp Hone HBd
      by_cases he : er = 0
      · have hb : (er != 0) = false := by simpa using he
        have he' : errOf x = 0 := Her.out ▸ he
        have hz := (line_size (good_of_ok he') 100 10 HWx.out (by omega)).2.2
        have HSz : Hid ((fmtL (l.take j)).length ≤ 10000000) := by
          have h1 := fmt_size (l.take j) (fun y hy => ⟨HOk.out y hy, HWi.out y (List.mem_of_mem_take hy)⟩)
          have h2 : (l.take j).length ≤ 1000 := by rw [List.length_take]; omega
          unfold Hid; omega
        have Hz := Lib.hid hz
        rw [if_pos he]
        obtain ⟨s, hs⟩ : ∃ s, s = lineW x := ⟨_, rfl⟩
        rw [← hs]
        rw [← hs] at Hz
        have Hs := Lib.hid hs
        have hadd : ∀ wx, (Op.stringOp .add s ⟨#[10]⟩).run Tryz.prog wx = .ok (.string (s ++ ⟨#[10]⟩)) wx := fun wx => run_string_add_sum _ _ _ (by have : (⟨#[10]⟩ : ByteArray).size = 1 := rfl; have := Hz.out; omega)
        have HSum : Hid ((Lib.byteCells (fmtL (l.take j))).length + (s ++ ⟨#[10]⟩).size ≤ 140737488355328) := by
          unfold Hid
          rw [Lib.byteCells_length, ByteArray.size_append]
          have h1 : (⟨#[10]⟩ : ByteArray).size = 1 := rfl
          have h2 := Hz.out
          have h3 := HSz.out
          omega
        clear hs he he' hz
        go_wp2_with fail
        have hws := wstring_any w.heap.size w.heap.size (Lib.byteCells (fmtL (l.take j))) (s ++ ⟨#[10]⟩) w4 HBd4.out (HSum.out) HB4.out.size
        refine hws.mono ?_
        clear hws
        rintro e w5 ⟨rfl, hbd5, hb5, _⟩
        have HBd5 : Hid (Lib.IsBuilder WT 5 w.heap.size w.heap.size (Lib.byteCells (fmtL (l.take (j + 1)))) w5) := by
          refine Or.inr ?_
          rw [Htk.out, fmt_snoc]
          have e : Lib.byteCells (fmtL (l.take j)) ++ Lib.strCells (s ++ ⟨#[10]⟩) = Lib.byteCells (fmtL (l.take j) ++ ((lineW x).data.toList ++ [10])) := by
            rw [Hs.out, bytes_app, byte_line]
          rw [← e]; exact hbd5
        have HB5 := Lib.hid (HB4.out.trans hb5)
        clear hbd5 hb5 hadd
        go_wp2_with fail
        go_roundw
        case rel =>
          refine ⟨j + 1, by omega, by go_num, ?_, HBd5.out, HB5.out, fun h => absurd h Hne.out⟩
          intro y hy
          rw [Htk.out] at hy
          rcases List.mem_append.1 hy with hy | hy
          · exact HOk.out y hy
          · obtain rfl := List.mem_singleton.1 hy; rw [← Her.out]; simpa using hb
        case measure => simp [intOf]; omega
      · have hb : (er != 0) = true := by simpa using he
        have HF : Hid (formatF l = (⟨#[]⟩, er)) := by
          have h1 := HAt.out (by rw [← Her.out]; exact he)
          unfold Hid formatF
          rw [h1, ← Her.out, if_pos he]
        rw [if_neg he]
        clear he
        go_wp2_with fail
        go_ret2
        exact ⟨by rw [HF.out]; rfl, HB4.out⟩
    · obtain rfl : j = n := by omega
      have hall : ∀ y ∈ l, errOf y = 0 := by
        intro y hy
        have h := HOk.out
        rw [Hn.out, List.take_length] at h
        exact h y hy
      have hf0 := firstErr_ok hall
      have HBx : Hid (Lib.IsBuilder WT 5 w.heap.size w.heap.size (Lib.byteCells (fmtL l)) wr) := by
        have h := HBd.out
        rw [Hn.out, List.take_length] at h
        exact h
      by_cases h200 : 200 < l.length
      · have HF : Hid (formatF l = (⟨#[]⟩, 2)) := by unfold Hid formatF; rw [hf0, if_neg (by simp), if_pos (Or.inl h200)]
        have hgt : (200 : Int) < (j : Int) := by have := Hn.out; omega
        clear hall hf0 h200
        go_wp2_with fail
        go_ret2
        exact ⟨by rw [HF.out]; rfl, HBr.out⟩
      · have hle : ¬ (200 : Int) < (j : Int) := by have := Hn.out; omega
        have HF2 : Hid (20000 < (fmtL l).length → formatF l = (⟨#[]⟩, 2)) := fun h => by unfold formatF; rw [hf0, if_neg (by simp), if_pos (Or.inr h)]
        have HF3 : Hid (¬ 20000 < (fmtL l).length → formatF l = (mkB (fmtL l), 0)) := fun h => by unfold formatF; rw [hf0, if_neg (by simp), if_neg (by omega)]
        have hlen := len_any w.heap.size w.heap.size _ wr HBx.out
        rw [Lib.byteCells_length] at hlen
        have HL := Lib.hid hlen
        clear hall hf0 h200 hlen
        obtain ⟨m, hm⟩ : ∃ m, m = (fmtL l).length := ⟨_, rfl⟩
        rw [← hm] at HL HF2 HF3
        have Hm := Lib.hid hm
        clear hm
        go_wp2_with fail
        refine HL.out.mono ?_
        rintro e w5 ⟨rfl, rfl⟩
        by_cases h2 : 20000 < m
        · have hgt : (20000 : Int) < (m : Int) := by omega
          have HF := Lib.hid (HF2.out h2)
          clear h2
          go_wp2_with fail
          go_ret2
          exact ⟨by rw [HF.out]; rfl, HBr.out⟩
        · have hgt : ¬ (20000 : Int) < (m : Int) := by omega
          have HF := Lib.hid (HF3.out h2)
          clear h2
          by_cases hnil : l = []
          · have hbk := HZr.out hnil
            have HS := Lib.hid (string_none w.heap.size _ wr hbk)
            have HF : Hid (formatF l = (⟨#[]⟩, 0)) := by unfold Hid; rw [HF.out, hnil]; rfl
            clear hbk hnil
            go_wp2_with fail
            refine HS.out.mono ?_
            rintro e w6 ⟨rfl, hb6⟩
            have HB6 := Lib.hid (below_then HBr.out hb6)
            clear hb6
            go_wp2_with fail
            go_ret2
            exact ⟨by rw [HF.out]; rfl, HB6.out⟩
          · have hne : fmtL l ≠ [] := by
              cases l with
              | nil => exact absurd rfl hnil
              | cons x r => simp [fmtL]
            have HS := Lib.hid (string_any w.heap.size w.heap.size (fmtL l) wr HBx.out hne)
            clear hne hnil
            go_wp2_with fail
            refine HS.out.mono ?_
            rintro e w6 ⟨rfl, hb6⟩
            have HB6 := Lib.hid (HBr.out.trans hb6)
            clear hb6
            obtain ⟨sx, hsx⟩ : ∃ sx, sx = mkB (fmtL l) := ⟨_, rfl⟩
            have hsx' : (⟨(fmtL l).toArray⟩ : ByteArray) = sx := hsx.symm
            rw [hsx']
            have Hsx := Lib.hid hsx
            clear hsx hsx'
            go_wp2_with fail
            go_ret2
            exact ⟨by rw [HF.out, ← Hsx.out]; rfl, HB6.out⟩
end Go.Proofs.YtobaoekibnloiaaGreatDoor
