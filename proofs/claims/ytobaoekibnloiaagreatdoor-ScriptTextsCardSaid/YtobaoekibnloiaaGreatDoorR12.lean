/- Part 12 of the proof: laws on memory and what functions of the program return. No conditions but those that each theorem names. -/
import Derived.Test.YtobaoekibnloiaaGreatDoorR11
set_option linter.unusedVariables false
set_option linter.unusedSimpArgs false
/- script's Write of a station. Printed by gen_pwrs.py. -/
namespace Go.Proofs.YtobaoekibnloiaaGreatDoor
open Go Go.RowKit

theorem bias_len (l : List (Int × Int)) : (biasW l).length = 3 * l.length := by
  induction l with
  | nil => rfl
  | cons p t ih =>
    have e : biasW (p :: t) = kwBias :: istr p.1 :: istr p.2 :: biasW t := rfl
    rw [e]; simp; omega
set_option maxHeartbeats 8000000 in
set_option maxRecDepth 100000 in
theorem pwrite_shut (k : Nat) (nm : ByteArray) (s : Int) (l : List (Int × Int)) (hk1 : 1 ≤ k) (hk3 : k ≤ 3) (hn : nameOk nm = true) (hs : ¬ longI s) (hl : ∀ p ∈ l, ¬ longI p.1 ∧ ¬ longI p.2) (bv cv : Value) (w : World) (hp : EvParts 0 w ⟨4, ⟨#[]⟩, [], 0, ((k : Nat) : Int), nm, s, true, 0, 0, 0, 0, l⟩ bv cv) (hE : Env w) :
    Calls Tryz.prog 15 #[Ev.val ⟨4, ⟨#[]⟩, [], 0, ((k : Nat) : Int), nm, s, true, 0, 0, 0, 0, l⟩ bv cv] w (PLineIs (lineW ⟨4, ⟨#[]⟩, [], 0, ((k : Nat) : Int), nm, s, true, 0, 0, 0, 0, l⟩) w) := by
  have hg : Good ⟨4, ⟨#[]⟩, [], 0, ((k : Nat) : Int), nm, s, true, 0, 0, 0, 0, l⟩ := .shut _ _ _ _ (by omega) (by omega) hn hs hl
  have hpz := pl_size hg ⟨by simp [ByteArray.size], by simp, hp.ok.name, by obtain ⟨_, _, _, h, _⟩ := hp.bias; exact h⟩
  have hr := fun w' (hb : Below w.heap.size w w') => check_any ⟨4, ⟨#[]⟩, [], 0, ((k : Nat) : Int), nm, s, true, 0, 0, 0, 0, l⟩ bv cv w' (hE.below hb hE.size) (hp.below hb)
  unfold CheckIs at hr
  rw [ok_of_good hg] at hr
  have HR := Lib.hid hr
  have EB := Lib.hid (EvAt.new w (evCells ⟨4, ⟨#[]⟩, [], 0, ((k : Nat) : Int), nm, s, true, 0, 0, 0, 0, l⟩ bv cv) rfl 36)
  have HP := Lib.hid (fun w' (hb : Below w.heap.size w w') => hp.below hb)
  have HE := Lib.hid hE
  have hs8 := hE.size
  have hnm := hp.ok.name
  have hll : l.length ≤ 2000000 := by obtain ⟨_, _, _, h, _⟩ := hp.bias; exact h
  have His := Lib.hid (not_long hs)
  have HLN := Lib.hid hl
  have hbi := hp.bias
  obtain ⟨ba, bc, rfl, hz1⟩ := hp.bytes
  obtain ⟨ca, cc, rfl, hz2⟩ := hp.bias
  have Hcells := Lib.hid (fun j => @BiasIn.cellsAt 0 w ca cc l hbi j)
  have Hlen : Hid (∀ m, m = l.length → m = l.length) := fun _ h => h
  clear hz1 hz2 hbi hn hs hl
  clear hr hp hE hg
  have HQ : Hid (evWords ⟨4, ⟨#[]⟩, [], 0, ((k : Nat) : Int), nm, s, true, 0, 0, 0, 0, l⟩ = ([kwStation, kindW k, nm, istr s] ++ [kwClosed]) ++ biasW l) := by unfold Hid; simp [evWords, placeW]
  unfold lineW
  rw [HQ.out] at hpz ⊢
  have HPZ := Lib.hid hpz
  clear hpz
  unfold Ev.val evCells
  unfold evCells at EB
  simp only at EB ⊢
  go_enter Tryz.func15, Tryz.ntmps15
  go_wp2_with (refine ev_load rfl _ rfl _ rfl _ EB.out ?_)
  refine (HR.out _ (one_below _ _)).mono ?_
  rintro e w1 ⟨rfl, hb1⟩
  have HB1 := Lib.hid (below_then (one_below w _) hb1)
  have EB1 := Lib.hid (EB.out.below hb1)
  have e0 := EB1.out.facts.1
  have hix : ∀ wx, (Instr.index 67 (.agg #[.string ⟨#[]⟩, .string ⟨#[116, 101, 120, 116]⟩, .string ⟨#[98, 105, 110, 97, 114, 121]⟩, .string ⟨#[116, 105, 99, 107]⟩, .string ⟨#[115, 116, 97, 116, 105, 111, 110]⟩, .string ⟨#[99, 114, 97, 115, 104]⟩, .string ⟨#[114, 101, 112, 101, 97, 116]⟩]) (.int .i64 4)).run Tryz.prog wx = .ok (.string kwStation) wx := fun _ => by kernel_rfl
  clear hb1
  go_upto_region 6 with fail
  clear hix e0
  have hslot : (w1.alloc (.cells #[.string kwStation] 9)).heap.size = w1.heap.size + 1 := by simp
  obtain ⟨v2, hv2⟩ : ∃ v2, v2 = (w1.alloc (.cells #[.string kwStation] 9)).alloc (.cells #[.slice (some ⟨w1.heap.size, 0, none⟩) 1 1] 29) := ⟨_, rfl⟩
  rw [← hv2]
  have HW2 : Hid (WordsAt v2 (w1.heap.size + 1) w1.heap.size (.slice (some ⟨w1.heap.size, 0, none⟩) 1 1) [kwStation]) := by rw [hv2]; exact WordsAt.first w1 _
  have hb2 : Below w1.heap.size w1 v2 := by rw [hv2]; exact ((Below.refl _ _).alloc (Nat.le_refl _) _).alloc (by simp) _
  have HS2 : Hid (v2.heap.size = w1.heap.size + 1 + 1) := by unfold Hid; rw [hv2]; simp
  have HB2 := Lib.hid (below_then HB1.out hb2)
  have EB2 := Lib.hid (EB1.out.below hb2)
  have Hlt : Hid (w.heap.size < w1.heap.size) := EB1.out.lt
  clear hv2 hb2 hslot
  obtain ⟨b, hb⟩ : ∃ b, b = w1.heap.size + 1 := ⟨_, rfl⟩
  rw [← hb]
  rw [← hb] at HW2
  have HBb := Lib.hid hb
  clear hb EB EB1 HR
  obtain ⟨H, hH⟩ : ∃ H, H = w1.heap.size := ⟨_, rfl⟩
  rw [← hH] at HW2 HS2 HBb Hlt ⊢
  clear hH
  obtain ⟨kwd, hkwd⟩ : ∃ kwd, kwd = KL.getD k ByteArray.empty := ⟨_, rfl⟩
  have HKW := Lib.hid hkwd
  have HKd : Hid (kwd = kindW k) := by
    unfold Hid; rw [hkwd]
    have : k = 1 ∨ k = 2 ∨ k = 3 := by omega
    rcases this with rfl | rfl | rfl <;> rfl
  have k0 : (0 : Int) ≤ (k : Int) := by omega
  have k1 : (k : Int) < 4 := by omega
  clear hkwd
  obtain ⟨ll, hll2⟩ : ∃ ll, ll = l.length := ⟨_, rfl⟩
  have Hll : Hid (ll = l.length) := hll2
  rw [← hll2] at EB2 hll ⊢
  clear hll2 hk1
  have e0 := EB2.out.facts.1
  have hv0 : v2.drew.cell? ⟨b, 0, none⟩ = some (.slice (some ⟨H, 0, none⟩) 1 1) := HW2.out.var.1
  have HWc : Hid (WordsAt v2.drew b H (.slice (some ⟨H, 0, none⟩) 1 1) [kwStation]) := HW2.out.below (Below.refl v2.heap.size v2).drew
  have HBc := Lib.hid HB2.out.drew
  have HSc : Hid (H ≤ v2.drew.heap.size) := by have := HS2.out; unfold Hid; show H ≤ v2.heap.size; omega
  go_wp2_with fail
  clear e0
  refine wp_region_held_drew (S := (fun wx => EvAt wx w.heap.size [.int .i64 4, .string ⟨#[]⟩, .slice ba 0 bc, .int .i64 0, .int .i64 k, .string nm, .int .i64 s, .bool true, .int .i64 0, .int .i64 0, .int .i64 0, .int .i64 0, .slice ca ll cc])) (by kernel_rfl) EB2.out.drew (fun hHeld => ?_)
  refine wpAnyH_takeD (i := 2) (d := some 52) (v := .pointer (some ⟨w.heap.size, 4, none⟩)) rfl rfl (by kernel_rfl) (by kernel_rfl) (by kernel_rfl) (fun _ _ _ h => h) (Or.inl ⟨by rfl, fun _ _ => by rfl⟩) (by assumption) ?_
  simp only [Act.put, List.setIfInBounds_toArray, List.set_cons_zero, List.set_cons_succ]
  refine wpAnyH_takeD (i := 3) (d := some 53) (v := .int .i64 k) rfl rfl (by kernel_rfl) (by kernel_rfl) (by kernel_rfl) (fun _ _ _ h => h) (Or.inl ⟨by rfl, fun wx hx => by (have q := (EvAt.facts hx).2.2.2.2.1; go_simp)⟩) (by assumption) ?_
  simp only [Act.put, List.setIfInBounds_toArray, List.set_cons_zero, List.set_cons_succ]
  refine wpAnyH_takeD (i := 6) (d := some 56) (v := .pointer (some ⟨w.heap.size, 5, none⟩)) rfl rfl (by kernel_rfl) (by kernel_rfl) (by kernel_rfl) (fun _ _ _ h => h) (Or.inl ⟨by rfl, fun _ _ => by rfl⟩) (by assumption) ?_
  simp only [Act.put, List.setIfInBounds_toArray, List.set_cons_zero, List.set_cons_succ]
  refine wpAnyH_takeD (i := 7) (d := some 57) (v := .string nm) rfl rfl (by kernel_rfl) (by kernel_rfl) (by kernel_rfl) (fun _ _ _ h => h) (Or.inl ⟨by rfl, fun wx hx => by (have q := (EvAt.facts hx).2.2.2.2.2.1; go_simp)⟩) (by assumption) ?_
  simp only [Act.put, List.setIfInBounds_toArray, List.set_cons_zero, List.set_cons_succ]
  refine wpAnyH_ready (rs := [0, 1]) (by kernel_rfl) (by simp) ?_
  refine AllReadyH.cons rfl (fun K hK => ?_) (AllReadyH.cons rfl (fun K hK => ?_) AllReadyH.nil)
  · rw [if_pos (by rfl)]
    go_simp
    refine hK.out _ _ (hHeld) (fun hHeld => ?_)
    clear hK K
    refine wpAnyH_ready (rs := [1]) (by kernel_rfl) (by simp) ?_
    refine AllReadyH.cons rfl (fun K hK => ?_) AllReadyH.nil
    rw [if_pos (by rfl)]
    go_simp
    refine (skinds_at v2.drew v2.heap.size rfl).mono ?_
    rintro e w4 ⟨rfl, hb4, hH4, hkc⟩
    refine hK.out _ _ (EvAt.below hHeld hb4) (fun hHeld => ?_)
    clear hK K
    have HW4 := Lib.hid (HWc.out.below hb4)
    have HB4 := Lib.hid (below_then HBc.out hb4)
    have HSd := Lib.hid (Nat.le_trans HSc.out hb4.size)
    have hE4 := hHeld
    have hvd := HW4.out.var.1
    have hkk : w4.cell? ⟨v2.heap.size, k, none⟩ = some (.string kwd) := by rw [HKW.out]; exact hkc k (by omega)
    clear hkc hH4
    obtain ⟨v', w', hrun, hc1, hs1, hw1, hf1, ⟨oa2, om2, oc2, rfl⟩, hf0⟩ := HW4.out.more [kwd, nm] (by simp) (by simp) HSd.out (by have := HBb.out; omega) 29
    have Hrun := Lib.hid hrun
    have HWn := Lib.hid hw1
    have HFn := Lib.hid hf1
    have HF0 := Lib.hid hf0
    clear hrun hw1 hf1 hf0
    clear hb4
    refine wpAnyH_takeD (i := 4) (d := some 54) (v := .pointer (some ⟨v2.heap.size, k, none⟩)) rfl rfl (by kernel_rfl) (by kernel_rfl) (by kernel_rfl) (fun _ _ _ h => h) (Or.inl ⟨by rfl, fun wx hx => by (go_simp)⟩) (by assumption) ?_
    simp only [Act.put, List.setIfInBounds_toArray, List.set_cons_zero, List.set_cons_succ]
    refine wpAnyH_ready (rs := [5]) (by kernel_rfl) (by simp) ?_
    refine AllReadyH.cons rfl (fun K hK => ?_) AllReadyH.nil
    rw [if_pos (by rfl)]
    go_simp
    refine hK.out _ _ (hHeld) (fun hHeld => ?_)
    clear hK K
    refine wpAnyH_ready (rs := [8]) (by kernel_rfl) (by simp) ?_
    refine AllReadyH.cons rfl (fun K hK => ?_) AllReadyH.nil
    rw [if_pos (by rfl)]
    go_simp
    refine hK.out _ _ (EvAt.alloc hHeld _) (fun hHeld => ?_)
    clear hK K
    have hva := cell_then ((Below.refl w4.heap.size w4).alloc (Nat.le_refl _) (.cells #[.string kwd, .string nm] 9)) HW4.out.var.1
    refine wpAnyH_ready (rs := [9]) (by kernel_rfl) (by simp) ?_
    refine AllReadyH.cons rfl (fun K hK => ?_) AllReadyH.nil
    refine step_append_run rfl _ _ _ rfl _ _ _ _ rfl rfl Hrun.out ?_
    refine hK.out _ _ (EvAt.of_block hE4 (HF0.out.1.block _ Hlt.out)) (fun hHeld => ?_)
    clear hK K
    simp only [Act.put, List.setIfInBounds_toArray, List.set_cons_zero, List.set_cons_succ]
    refine wpAnyH_ready (rs := [10]) (by kernel_rfl) (by simp) ?_
    refine AllReadyH.cons rfl (fun K hK => ?_) AllReadyH.nil
    rw [if_pos (by rfl)]
    go_simp
    refine hK.out _ _ (EvAt.other hHeld (by have := HBb.out; have := Hlt.out; simp; omega) _) (fun hHeld => ?_)
    clear hK K
    clear hc1 hs1
    refine wpAnyH_done (by kernel_rfl) ?_ _
    obtain ⟨v8, hv8⟩ : ∃ v8, v8 = w'.setCell ⟨b, 0, none⟩ (.slice oa2 om2 oc2) := ⟨_, rfl⟩
    rw [← hv8]
    rw [← hv8] at HWn HFn
    have HB8 : Hid (Below w.heap.size w v8) := HB4.out.trans (HFn.out.1.mono (Nat.le_of_lt Hlt.out))
    have HW8 : Hid (WordsAt v8 b H (.slice oa2 om2 oc2) [kwStation, kwd, nm]) := HWn.out
    have EB8 : Hid (EvAt v8 w.heap.size [.int .i64 4, .string ⟨#[]⟩, .slice ba 0 bc, .int .i64 0, .int .i64 k, .string nm, .int .i64 s, .bool true, .int .i64 0, .int .i64 0, .int .i64 0, .int .i64 0, .slice ca ll cc]) := EvAt.of_block hE4 (HFn.out.1.block _ Hlt.out)
    have HS8 : Hid (H ≤ v8.heap.size) := Nat.le_trans HSd.out HFn.out.1.size
    clear hv8 HWn HFn hHeld hE4 hkk hvd hv0 HW4 HB4 HSd HF0 Hrun
    try clear hva
    have e6 := EB8.out.facts.2.2.2.2.2.2.1
    go_wp2_with fail
    clear e6
    refine (padd_any b H _ [kwStation, kwd, nm] (.slice (some ⟨v8.heap.size, 0, none⟩) 1 1) [s] (v8.alloc (.cells #[.int .i64 s] 3)) (HW8.out.below ((Below.refl _ _).alloc (Nat.le_refl _) _)) (IntsT.at v8 _ rfl [s]) (by simp; exact His.out) (HE.out.below (HB8.out.alloc HB8.out.size _) hs8) (by have := Hlt.out; omega) (by have := HS8.out; simp; omega) (by have := HBb.out; omega) (by simp) (by simp)).mono ?_
    rintro e w5 ⟨rfl, ⟨v5, hw5⟩, hf5⟩
    have HW5 : Hid (WordsAt w5 b H v5 [kwStation, kwd, nm, istr s]) := hw5
    have HB5 : Hid (Below w.heap.size w w5) := (HB8.out.alloc HB8.out.size _).trans (hf5.1.mono (by have := Hlt.out; omega))
    have EB5 : Hid (EvAt w5 w.heap.size [.int .i64 4, .string ⟨#[]⟩, .slice ba 0 bc, .int .i64 0, .int .i64 k, .string nm, .int .i64 s, .bool true, .int .i64 0, .int .i64 0, .int .i64 0, .int .i64 0, .slice ca ll cc]) := (EB8.out.alloc _).of_block (hf5.1.block _ Hlt.out)
    have HS5 : Hid (H ≤ w5.heap.size) := Nat.le_trans HS8.out (Nat.le_trans (by simp) hf5.1.size)
    clear hw5 hf5 HW8 HB8 EB8
    have g7 := EB5.out.facts.2.2.2.2.2.2.2.1
    have g8 := EB5.out.facts.2.2.2.2.2.2.2.2.1
    have g9 := EB5.out.facts.2.2.2.2.2.2.2.2.2.1
    have g10 := EB5.out.facts.2.2.2.2.2.2.2.2.2.2.1
    have g11 := EB5.out.facts.2.2.2.2.2.2.2.2.2.2.2.1
    go_upto_region 18 with fail
    clear g8 g9 g10 g11
    obtain ⟨w6, hw6⟩ : ∃ w6, w6 = w5.alloc (.cells #[.int .i64 0, .int .i64 0, .int .i64 0, .int .i64 0] 31) := ⟨_, rfl⟩
    rw [← hw6]
    have hb6 : Below w5.heap.size w5 w6 := by rw [hw6]; exact (Below.refl _ _).alloc (Nat.le_refl _) _
    have HW6 := Lib.hid (HW5.out.below hb6)
    have HB6 := Lib.hid (below_then HB5.out hb6)
    have EB6 := Lib.hid (EB5.out.below hb6)
    have HS6 := Lib.hid (Nat.le_trans HS5.out hb6.size)
    have HT6 : Hid (Typed w6 w5.heap.size 31 ∧ ∀ i, i < 4 → w6.cell? ⟨w5.heap.size, i, none⟩ = [Value.int .i64 0, .int .i64 0, .int .i64 0, .int .i64 0][i]?) := by
      rw [hw6]; exact ⟨⟨_, _, heap_alloc_new w5 _⟩, fun i hi => by simp⟩
    have Hne6 : Hid (w5.heap.size ≠ b) := by have := lt_of_block HW5.out.1; unfold Hid; omega
    have g7' := EB6.out.facts.2.2.2.2.2.2.2.1
    clear hb6 hw6 g7
    obtain ⟨sa6, sc6, rfl⟩ := HW6.out.slice
    have hvc : w6.cell? ⟨b, 0, none⟩ = some (.slice sa6 4 sc6) := HW6.out.var.1
    obtain ⟨v', w', hrun, hc1, hs1, hw1, hf1, ⟨oa2, om2, oc2, rfl⟩, hf0⟩ := HW6.out.more [kwClosed] (by simp) (by simp) HS6.out (by have := HBb.out; omega) 29
    have Hrun := Lib.hid hrun
    have HWn := Lib.hid hw1
    have HFn := Lib.hid hf1
    clear hrun hw1 hf1 hf0
    go_upto_region 22 with (at_builtin; refine wpList_append_run rfl _ _ _ rfl _ _ _ _ rfl rfl Hrun.out ?_)
    clear hc1 hs1 hvc g7'
    obtain ⟨w7, hw7⟩ : ∃ w7, w7 = w'.setCell ⟨b, 0, none⟩ (.slice oa2 om2 oc2) := ⟨_, rfl⟩
    rw [← hw7]
    rw [← hw7] at HWn HFn
    have HW7 : Hid (WordsAt w7 b H (.slice oa2 om2 oc2) [kwStation, kwd, nm, istr s, kwClosed]) := HWn.out
    have HB7 : Hid (Below w.heap.size w w7) := HB6.out.trans (HFn.out.1.mono (Nat.le_of_lt Hlt.out))
    have EB7 : Hid (EvAt w7 w.heap.size [.int .i64 4, .string ⟨#[]⟩, .slice ba 0 bc, .int .i64 0, .int .i64 k, .string nm, .int .i64 s, .bool true, .int .i64 0, .int .i64 0, .int .i64 0, .int .i64 0, .slice ca ll cc]) := EB6.out.of_block (HFn.out.1.block _ Hlt.out)
    have HS7 : Hid (H ≤ w7.heap.size) := Nat.le_trans HS6.out HFn.out.1.size
    have HT7 : Hid (∀ i, i < 4 → w7.cell? ⟨w5.heap.size, i, none⟩ = [Value.int .i64 0, .int .i64 0, .int .i64 0, .int .i64 0][i]?) := fun i hi => by
      have e : w7.cell? ⟨w5.heap.size, i, none⟩ = w6.cell? ⟨w5.heap.size, i, none⟩ := World.cell?_of_block (w := w6) (HFn.out.2 w5.heap.size _ (by decide) Hne6.out HT6.out.1)
      rw [e]; exact HT6.out.2 i hi
    clear hw7 HWn HFn Hrun HW6 HB6 EB6 HS6 HT6 HW5 HB5 EB5 HS5
    have HWl := HW7
    have HBl := HB7
    have EBl := EB7
    have HSl := HS7
    obtain ⟨vl, hvl⟩ : ∃ vl, vl = Value.slice oa2 om2 oc2 := ⟨_, rfl⟩
    rw [← hvl] at HWl
    obtain ⟨wl, rfl⟩ : ∃ wl, wl = w7 := ⟨_, rfl⟩
    clear hvl HW7 HB7 EB7 HS7 HT7
    obtain ⟨HD, hHD⟩ : ∃ HD, HD = [kwStation, kwd, nm, istr s, kwClosed] := ⟨_, rfl⟩
    rw [← hHD] at HWl
    have HHD : Hid (HD ++ biasW l = ([kwStation, kindW k, nm, istr s] ++ [kwClosed]) ++ biasW l) := by unfold Hid; rw [hHD, HKd.out]; rfl
    have hHDl : HD.length ≤ 9 := by rw [hHD]; simp
    clear hHD
    have e12 := EBl.out.facts.2.2.2.2.2.2.2.2.2.2.2.2
    go_wp2_with fail
    clear e12
    go_loopw [93] (fun x wr => ∃ (j : Nat) (v : Value), j ≤ ll ∧ x = .int .i64 j ∧ WordsAt wr b H v (HD ++ biasW (l.take j)) ∧ Below w.heap.size w wr ∧ H ≤ wr.heap.size) (fun x _ => (ll - intOf x).toNat)
    case atStart => exact ⟨0, vl, by omega, rfl, by simpa [biasW] using HWl.out, HBl.out, HSl.out⟩
    case round =>
      obtain ⟨j, v, hj, rfl, hwr, hBr, hSr⟩ := hrel
      have hWn : (HD ++ biasW (l.take j)).length ≤ 10000000 := by
        have := bias_len (l.take j)
        have h2 : (l.take j).length ≤ 2000000 := by rw [List.length_take]; have := Hll.out; omega
        rw [List.length_append]; omega
      by_cases hlt : j < ll
      · have hjl : j < l.length := by have := Hll.out; omega
        obtain ⟨ab, ao, rfl, p0, p1⟩ := Hcells.out j hjl
        have p0 := cell_then hBr p0
        have p1 := cell_then hBr p1
        have hm : l.getD j (0, 0) ∈ l := by rw [getD_mem hjl]; exact List.getElem_mem hjl
        have hnl := HLN.out _ hm
        have Hu := Lib.hid (not_long hnl.1)
        have Hv := Lib.hid (not_long hnl.2)
        have Htk : Hid (HD ++ biasW (l.take (j + 1)) = (HD ++ biasW (l.take j)) ++ [kwBias] ++ [istr (l.getD j (0, 0)).1, istr (l.getD j (0, 0)).2]) := by
          unfold Hid
          have e : biasW (l.take (j + 1)) = biasW (l.take j) ++ [kwBias, istr (l.getD j (0, 0)).1, istr (l.getD j (0, 0)).2] := by
            rw [List.take_succ_eq_append_getElem hjl, getD_mem hjl]; unfold biasW; rw [List.flatMap_append]; rfl
          rw [e, List.append_assoc, List.append_assoc]; rfl
        generalize (l.getD j (0, 0)).1 = u at *
        generalize (l.getD j (0, 0)).2 = y at *
        clear hm hnl
        have HWr := Lib.hid hwr
        have HBr := Lib.hid hBr
        have HSr := Lib.hid hSr
        have HWn := Lib.hid hWn
        generalize HD ++ biasW (l.take j) = W at *
        clear hwr hBr hSr hWn
        have i0 : (0 : Int) ≤ (j : Int) := by omega
        have i1 : (j : Int) < (ll : Int) := by omega
        go_upto_region 25 with fail
        clear p0 p1
        obtain ⟨wa, hwa⟩ : ∃ wa, wa = wr.alloc (.cells #[.int .i64 u, .int .i64 y] 51) := ⟨_, rfl⟩
        rw [← hwa]
        have hba : Below wr.heap.size wr wa := by rw [hwa]; exact (Below.refl _ _).alloc (Nat.le_refl _) _
        have HWa := Lib.hid (HWr.out.below hba)
        have HBa := Lib.hid (below_then HBr.out hba)
        have HSa := Lib.hid (Nat.le_trans HSr.out hba.size)
        have HTa : Hid (Typed wa wr.heap.size 51 ∧ wa.cell? ⟨wr.heap.size, 0, none⟩ = some (.int .i64 u) ∧ wa.cell? ⟨wr.heap.size, 1, none⟩ = some (.int .i64 y)) := by
          rw [hwa]; exact ⟨⟨_, _, heap_alloc_new wr _⟩, by simp, by simp⟩
        have Hnea : Hid (wr.heap.size ≠ b) := by have := lt_of_block HWr.out.1; unfold Hid; omega
        clear hba hwa
        obtain ⟨sa, sc, rfl⟩ := HWa.out.slice
        have hvc := HWa.out.var.1
        obtain ⟨v', w', hrun, hc1, hs1, hw1, hf1, ⟨oa2, om2, oc2, rfl⟩, hf0⟩ := HWa.out.more [kwBias] (by have := HWn.out; omega) (by simp) HSa.out (by have := HBb.out; omega) 29
        have Hrun := Lib.hid hrun
        have HWn2 := Lib.hid hw1
        have HFn := Lib.hid hf1
        clear hrun hw1 hf1 hf0
        generalize hWl2 : W.length = Wl at *
        go_upto_region 26 with (at_builtin; refine wpList_append_run rfl _ _ _ rfl _ _ _ _ rfl rfl Hrun.out ?_)
        clear hc1 hs1 hvc
        obtain ⟨wb, hwb⟩ : ∃ wb, wb = w'.setCell ⟨b, 0, none⟩ (.slice oa2 om2 oc2) := ⟨_, rfl⟩
        rw [← hwb]
        rw [← hwb] at HWn2 HFn
        have HBb2 : Hid (Below w.heap.size w wb) := HBa.out.trans (HFn.out.1.mono (Nat.le_of_lt Hlt.out))
        have HSb2 : Hid (H ≤ wb.heap.size) := Nat.le_trans HSa.out HFn.out.1.size
        have eb := HFn.out.2 wr.heap.size _ (by decide) Hnea.out HTa.out.1
        have q0 : wb.cell? ⟨wr.heap.size, 0, none⟩ = some (.int .i64 u) := by
          have e : wb.cell? ⟨wr.heap.size, 0, none⟩ = wa.cell? ⟨wr.heap.size, 0, none⟩ := World.cell?_of_block (w := wa) eb
          rw [e]; exact HTa.out.2.1
        have q1 : wb.cell? ⟨wr.heap.size, 1, none⟩ = some (.int .i64 y) := by
          have e : wb.cell? ⟨wr.heap.size, 1, none⟩ = wa.cell? ⟨wr.heap.size, 1, none⟩ := World.cell?_of_block (w := wa) eb
          rw [e]; exact HTa.out.2.2
        clear eb hwb HFn Hrun HTa HWa HBa HSa
        go_wp2_with fail
        clear q0 q1
        refine (padd_any b H _ (W ++ [kwBias]) (.slice (some ⟨wb.heap.size, 0, none⟩) 2 2) [u, y] (wb.alloc (.cells #[.int .i64 u, .int .i64 y] 3)) (HWn2.out.below ((Below.refl _ _).alloc (Nat.le_refl _) _)) (IntsT.at wb _ rfl [u, y]) (by simp; exact ⟨Hu.out, Hv.out⟩) (HE.out.below (HBb2.out.alloc HBb2.out.size _) hs8) (by have := Hlt.out; omega) (by have := HSb2.out; simp; omega) (by have := HBb.out; omega) (by have := HWn.out; simp; omega) (by simp)).mono ?_
        rintro e wc ⟨rfl, ⟨vc, hwc⟩, hfc⟩
        have HWc2 : Hid (WordsAt wc b H vc (W ++ [kwBias] ++ [istr u, istr y])) := hwc
        have HBc2 : Hid (Below w.heap.size w wc) := (HBb2.out.alloc HBb2.out.size _).trans (hfc.1.mono (by have := Hlt.out; omega))
        have HSc2 : Hid (H ≤ wc.heap.size) := Nat.le_trans HSb2.out (Nat.le_trans (by simp) hfc.1.size)
        clear hwc hfc
        go_wp2_with fail
        go_roundw
        case rel => exact ⟨j + 1, vc, by omega, by go_num, by rw [Htk.out]; exact HWc2.out, HBc2.out, HSc2.out⟩
        case measure => simp [intOf]; omega
      · obtain rfl : j = ll := by omega
        have hle : l.take j = l := by rw [Hll.out, List.take_length]
        rw [hle, HHD.out] at hwr
        have HWf := Lib.hid hwr
        have HBf := Lib.hid hBr
        obtain ⟨RR, hRR⟩ : ∃ RR, RR = ([kwStation, kindW k, nm, istr s] ++ [kwClosed]) ++ biasW l := ⟨_, rfl⟩
        have h0 : RR ≠ [] := by rw [hRR]; simp
        rw [← hRR] at HWf HPZ
        have HRR := Lib.hid hRR
        have H0 := Lib.hid h0
        clear hwr hBr hle hRR h0 hWn
        obtain ⟨ja, jc, rfl⟩ := HWf.out.slice
        have hvc := HWf.out.var.1
        generalize hjl : RR.length = jl at hvc
        go_wp2_with fail
        rw [← hjl]
        refine (pjoin_any HWf.out H0.out (by have := HPZ.out.2; omega) HPZ.out.1).mono ?_
        rintro e w9 ⟨rfl, hb9⟩
        have HB9 := Lib.hid (below_then HBf.out hb9)
        clear hb9 hvc hjl
        obtain ⟨sx, hsx⟩ : ∃ sx, sx = joinB 32 RR := ⟨_, rfl⟩
        rw [← hsx]
        have Hsx : Hid (sx = joinB 32 (([kwStation, kindW k, nm, istr s] ++ [kwClosed]) ++ biasW l)) := by rw [← HRR.out]; exact hsx
        clear hsx
        go_wp2_with fail
        go_ret2
        exact ⟨congrArg (fun z => Ending.returned (.tuple #[.string z, .int .i64 0])) Hsx.out, HB9.out⟩
  · rw [if_pos (by rfl)]
    go_simp
    refine (skinds_at v2.drew v2.heap.size rfl).mono ?_
    rintro e w4 ⟨rfl, hb4, hH4, hkc⟩
    refine hK.out _ _ (EvAt.below hHeld hb4) (fun hHeld => ?_)
    clear hK K
    have HW4 := Lib.hid (HWc.out.below hb4)
    have HB4 := Lib.hid (below_then HBc.out hb4)
    have HSd := Lib.hid (Nat.le_trans HSc.out hb4.size)
    have hE4 := hHeld
    have hvd := HW4.out.var.1
    have hkk : w4.cell? ⟨v2.heap.size, k, none⟩ = some (.string kwd) := by rw [HKW.out]; exact hkc k (by omega)
    clear hkc hH4
    obtain ⟨v', w', hrun, hc1, hs1, hw1, hf1, ⟨oa2, om2, oc2, rfl⟩, hf0⟩ := HW4.out.more [kwd, nm] (by simp) (by simp) HSd.out (by have := HBb.out; omega) 29
    have Hrun := Lib.hid hrun
    have HWn := Lib.hid hw1
    have HFn := Lib.hid hf1
    have HF0 := Lib.hid hf0
    clear hrun hw1 hf1 hf0
    clear hb4
    refine wpAnyH_takeD (i := 4) (d := some 54) (v := .pointer (some ⟨v2.heap.size, k, none⟩)) rfl rfl (by kernel_rfl) (by kernel_rfl) (by kernel_rfl) (fun _ _ _ h => h) (Or.inl ⟨by rfl, fun wx hx => by (go_simp)⟩) (by assumption) ?_
    simp only [Act.put, List.setIfInBounds_toArray, List.set_cons_zero, List.set_cons_succ]
    refine wpAnyH_ready (rs := [0, 5]) (by kernel_rfl) (by simp) ?_
    refine AllReadyH.cons rfl (fun K hK => ?_) (AllReadyH.cons rfl (fun K hK => ?_) AllReadyH.nil)
    · rw [if_pos (by rfl)]
      go_simp
      refine hK.out _ _ (hHeld) (fun hHeld => ?_)
      clear hK K
      refine wpAnyH_ready (rs := [5]) (by kernel_rfl) (by simp) ?_
      refine AllReadyH.cons rfl (fun K hK => ?_) AllReadyH.nil
      rw [if_pos (by rfl)]
      go_simp
      refine hK.out _ _ (hHeld) (fun hHeld => ?_)
      clear hK K
      refine wpAnyH_ready (rs := [8]) (by kernel_rfl) (by simp) ?_
      refine AllReadyH.cons rfl (fun K hK => ?_) AllReadyH.nil
      rw [if_pos (by rfl)]
      go_simp
      refine hK.out _ _ (EvAt.alloc hHeld _) (fun hHeld => ?_)
      clear hK K
      have hva := cell_then ((Below.refl w4.heap.size w4).alloc (Nat.le_refl _) (.cells #[.string kwd, .string nm] 9)) HW4.out.var.1
      refine wpAnyH_ready (rs := [9]) (by kernel_rfl) (by simp) ?_
      refine AllReadyH.cons rfl (fun K hK => ?_) AllReadyH.nil
      refine step_append_run rfl _ _ _ rfl _ _ _ _ rfl rfl Hrun.out ?_
      refine hK.out _ _ (EvAt.of_block hE4 (HF0.out.1.block _ Hlt.out)) (fun hHeld => ?_)
      clear hK K
      simp only [Act.put, List.setIfInBounds_toArray, List.set_cons_zero, List.set_cons_succ]
      refine wpAnyH_ready (rs := [10]) (by kernel_rfl) (by simp) ?_
      refine AllReadyH.cons rfl (fun K hK => ?_) AllReadyH.nil
      rw [if_pos (by rfl)]
      go_simp
      refine hK.out _ _ (EvAt.other hHeld (by have := HBb.out; have := Hlt.out; simp; omega) _) (fun hHeld => ?_)
      clear hK K
      clear hc1 hs1
      refine wpAnyH_done (by kernel_rfl) ?_ _
      obtain ⟨v8, hv8⟩ : ∃ v8, v8 = w'.setCell ⟨b, 0, none⟩ (.slice oa2 om2 oc2) := ⟨_, rfl⟩
      rw [← hv8]
      rw [← hv8] at HWn HFn
      have HB8 : Hid (Below w.heap.size w v8) := HB4.out.trans (HFn.out.1.mono (Nat.le_of_lt Hlt.out))
      have HW8 : Hid (WordsAt v8 b H (.slice oa2 om2 oc2) [kwStation, kwd, nm]) := HWn.out
      have EB8 : Hid (EvAt v8 w.heap.size [.int .i64 4, .string ⟨#[]⟩, .slice ba 0 bc, .int .i64 0, .int .i64 k, .string nm, .int .i64 s, .bool true, .int .i64 0, .int .i64 0, .int .i64 0, .int .i64 0, .slice ca ll cc]) := EvAt.of_block hE4 (HFn.out.1.block _ Hlt.out)
      have HS8 : Hid (H ≤ v8.heap.size) := Nat.le_trans HSd.out HFn.out.1.size
      clear hv8 HWn HFn hHeld hE4 hkk hvd hv0 HW4 HB4 HSd HF0 Hrun
      try clear hva
      have e6 := EB8.out.facts.2.2.2.2.2.2.1
      go_wp2_with fail
      clear e6
      refine (padd_any b H _ [kwStation, kwd, nm] (.slice (some ⟨v8.heap.size, 0, none⟩) 1 1) [s] (v8.alloc (.cells #[.int .i64 s] 3)) (HW8.out.below ((Below.refl _ _).alloc (Nat.le_refl _) _)) (IntsT.at v8 _ rfl [s]) (by simp; exact His.out) (HE.out.below (HB8.out.alloc HB8.out.size _) hs8) (by have := Hlt.out; omega) (by have := HS8.out; simp; omega) (by have := HBb.out; omega) (by simp) (by simp)).mono ?_
      rintro e w5 ⟨rfl, ⟨v5, hw5⟩, hf5⟩
      have HW5 : Hid (WordsAt w5 b H v5 [kwStation, kwd, nm, istr s]) := hw5
      have HB5 : Hid (Below w.heap.size w w5) := (HB8.out.alloc HB8.out.size _).trans (hf5.1.mono (by have := Hlt.out; omega))
      have EB5 : Hid (EvAt w5 w.heap.size [.int .i64 4, .string ⟨#[]⟩, .slice ba 0 bc, .int .i64 0, .int .i64 k, .string nm, .int .i64 s, .bool true, .int .i64 0, .int .i64 0, .int .i64 0, .int .i64 0, .slice ca ll cc]) := (EB8.out.alloc _).of_block (hf5.1.block _ Hlt.out)
      have HS5 : Hid (H ≤ w5.heap.size) := Nat.le_trans HS8.out (Nat.le_trans (by simp) hf5.1.size)
      clear hw5 hf5 HW8 HB8 EB8
      have g7 := EB5.out.facts.2.2.2.2.2.2.2.1
      have g8 := EB5.out.facts.2.2.2.2.2.2.2.2.1
      have g9 := EB5.out.facts.2.2.2.2.2.2.2.2.2.1
      have g10 := EB5.out.facts.2.2.2.2.2.2.2.2.2.2.1
      have g11 := EB5.out.facts.2.2.2.2.2.2.2.2.2.2.2.1
      go_upto_region 18 with fail
      clear g8 g9 g10 g11
      obtain ⟨w6, hw6⟩ : ∃ w6, w6 = w5.alloc (.cells #[.int .i64 0, .int .i64 0, .int .i64 0, .int .i64 0] 31) := ⟨_, rfl⟩
      rw [← hw6]
      have hb6 : Below w5.heap.size w5 w6 := by rw [hw6]; exact (Below.refl _ _).alloc (Nat.le_refl _) _
      have HW6 := Lib.hid (HW5.out.below hb6)
      have HB6 := Lib.hid (below_then HB5.out hb6)
      have EB6 := Lib.hid (EB5.out.below hb6)
      have HS6 := Lib.hid (Nat.le_trans HS5.out hb6.size)
      have HT6 : Hid (Typed w6 w5.heap.size 31 ∧ ∀ i, i < 4 → w6.cell? ⟨w5.heap.size, i, none⟩ = [Value.int .i64 0, .int .i64 0, .int .i64 0, .int .i64 0][i]?) := by
        rw [hw6]; exact ⟨⟨_, _, heap_alloc_new w5 _⟩, fun i hi => by simp⟩
      have Hne6 : Hid (w5.heap.size ≠ b) := by have := lt_of_block HW5.out.1; unfold Hid; omega
      have g7' := EB6.out.facts.2.2.2.2.2.2.2.1
      clear hb6 hw6 g7
      obtain ⟨sa6, sc6, rfl⟩ := HW6.out.slice
      have hvc : w6.cell? ⟨b, 0, none⟩ = some (.slice sa6 4 sc6) := HW6.out.var.1
      obtain ⟨v', w', hrun, hc1, hs1, hw1, hf1, ⟨oa2, om2, oc2, rfl⟩, hf0⟩ := HW6.out.more [kwClosed] (by simp) (by simp) HS6.out (by have := HBb.out; omega) 29
      have Hrun := Lib.hid hrun
      have HWn := Lib.hid hw1
      have HFn := Lib.hid hf1
      clear hrun hw1 hf1 hf0
      go_upto_region 22 with (at_builtin; refine wpList_append_run rfl _ _ _ rfl _ _ _ _ rfl rfl Hrun.out ?_)
      clear hc1 hs1 hvc g7'
      obtain ⟨w7, hw7⟩ : ∃ w7, w7 = w'.setCell ⟨b, 0, none⟩ (.slice oa2 om2 oc2) := ⟨_, rfl⟩
      rw [← hw7]
      rw [← hw7] at HWn HFn
      have HW7 : Hid (WordsAt w7 b H (.slice oa2 om2 oc2) [kwStation, kwd, nm, istr s, kwClosed]) := HWn.out
      have HB7 : Hid (Below w.heap.size w w7) := HB6.out.trans (HFn.out.1.mono (Nat.le_of_lt Hlt.out))
      have EB7 : Hid (EvAt w7 w.heap.size [.int .i64 4, .string ⟨#[]⟩, .slice ba 0 bc, .int .i64 0, .int .i64 k, .string nm, .int .i64 s, .bool true, .int .i64 0, .int .i64 0, .int .i64 0, .int .i64 0, .slice ca ll cc]) := EB6.out.of_block (HFn.out.1.block _ Hlt.out)
      have HS7 : Hid (H ≤ w7.heap.size) := Nat.le_trans HS6.out HFn.out.1.size
      have HT7 : Hid (∀ i, i < 4 → w7.cell? ⟨w5.heap.size, i, none⟩ = [Value.int .i64 0, .int .i64 0, .int .i64 0, .int .i64 0][i]?) := fun i hi => by
        have e : w7.cell? ⟨w5.heap.size, i, none⟩ = w6.cell? ⟨w5.heap.size, i, none⟩ := World.cell?_of_block (w := w6) (HFn.out.2 w5.heap.size _ (by decide) Hne6.out HT6.out.1)
        rw [e]; exact HT6.out.2 i hi
      clear hw7 HWn HFn Hrun HW6 HB6 EB6 HS6 HT6 HW5 HB5 EB5 HS5
      have HWl := HW7
      have HBl := HB7
      have EBl := EB7
      have HSl := HS7
      obtain ⟨vl, hvl⟩ : ∃ vl, vl = Value.slice oa2 om2 oc2 := ⟨_, rfl⟩
      rw [← hvl] at HWl
      obtain ⟨wl, rfl⟩ : ∃ wl, wl = w7 := ⟨_, rfl⟩
      clear hvl HW7 HB7 EB7 HS7 HT7
      obtain ⟨HD, hHD⟩ : ∃ HD, HD = [kwStation, kwd, nm, istr s, kwClosed] := ⟨_, rfl⟩
      rw [← hHD] at HWl
      have HHD : Hid (HD ++ biasW l = ([kwStation, kindW k, nm, istr s] ++ [kwClosed]) ++ biasW l) := by unfold Hid; rw [hHD, HKd.out]; rfl
      have hHDl : HD.length ≤ 9 := by rw [hHD]; simp
      clear hHD
      have e12 := EBl.out.facts.2.2.2.2.2.2.2.2.2.2.2.2
      go_wp2_with fail
      clear e12
      go_loopw [93] (fun x wr => ∃ (j : Nat) (v : Value), j ≤ ll ∧ x = .int .i64 j ∧ WordsAt wr b H v (HD ++ biasW (l.take j)) ∧ Below w.heap.size w wr ∧ H ≤ wr.heap.size) (fun x _ => (ll - intOf x).toNat)
      case atStart => exact ⟨0, vl, by omega, rfl, by simpa [biasW] using HWl.out, HBl.out, HSl.out⟩
      case round =>
        obtain ⟨j, v, hj, rfl, hwr, hBr, hSr⟩ := hrel
        have hWn : (HD ++ biasW (l.take j)).length ≤ 10000000 := by
          have := bias_len (l.take j)
          have h2 : (l.take j).length ≤ 2000000 := by rw [List.length_take]; have := Hll.out; omega
          rw [List.length_append]; omega
        by_cases hlt : j < ll
        · have hjl : j < l.length := by have := Hll.out; omega
          obtain ⟨ab, ao, rfl, p0, p1⟩ := Hcells.out j hjl
          have p0 := cell_then hBr p0
          have p1 := cell_then hBr p1
          have hm : l.getD j (0, 0) ∈ l := by rw [getD_mem hjl]; exact List.getElem_mem hjl
          have hnl := HLN.out _ hm
          have Hu := Lib.hid (not_long hnl.1)
          have Hv := Lib.hid (not_long hnl.2)
          have Htk : Hid (HD ++ biasW (l.take (j + 1)) = (HD ++ biasW (l.take j)) ++ [kwBias] ++ [istr (l.getD j (0, 0)).1, istr (l.getD j (0, 0)).2]) := by
            unfold Hid
            have e : biasW (l.take (j + 1)) = biasW (l.take j) ++ [kwBias, istr (l.getD j (0, 0)).1, istr (l.getD j (0, 0)).2] := by
              rw [List.take_succ_eq_append_getElem hjl, getD_mem hjl]; unfold biasW; rw [List.flatMap_append]; rfl
            rw [e, List.append_assoc, List.append_assoc]; rfl
          generalize (l.getD j (0, 0)).1 = u at *
          generalize (l.getD j (0, 0)).2 = y at *
          clear hm hnl
          have HWr := Lib.hid hwr
          have HBr := Lib.hid hBr
          have HSr := Lib.hid hSr
          have HWn := Lib.hid hWn
          generalize HD ++ biasW (l.take j) = W at *
          clear hwr hBr hSr hWn
          have i0 : (0 : Int) ≤ (j : Int) := by omega
          have i1 : (j : Int) < (ll : Int) := by omega
          go_upto_region 25 with fail
          clear p0 p1
          obtain ⟨wa, hwa⟩ : ∃ wa, wa = wr.alloc (.cells #[.int .i64 u, .int .i64 y] 51) := ⟨_, rfl⟩
          rw [← hwa]
          have hba : Below wr.heap.size wr wa := by rw [hwa]; exact (Below.refl _ _).alloc (Nat.le_refl _) _
          have HWa := Lib.hid (HWr.out.below hba)
          have HBa := Lib.hid (below_then HBr.out hba)
          have HSa := Lib.hid (Nat.le_trans HSr.out hba.size)
          have HTa : Hid (Typed wa wr.heap.size 51 ∧ wa.cell? ⟨wr.heap.size, 0, none⟩ = some (.int .i64 u) ∧ wa.cell? ⟨wr.heap.size, 1, none⟩ = some (.int .i64 y)) := by
            rw [hwa]; exact ⟨⟨_, _, heap_alloc_new wr _⟩, by simp, by simp⟩
          have Hnea : Hid (wr.heap.size ≠ b) := by have := lt_of_block HWr.out.1; unfold Hid; omega
          clear hba hwa
          obtain ⟨sa, sc, rfl⟩ := HWa.out.slice
          have hvc := HWa.out.var.1
          obtain ⟨v', w', hrun, hc1, hs1, hw1, hf1, ⟨oa2, om2, oc2, rfl⟩, hf0⟩ := HWa.out.more [kwBias] (by have := HWn.out; omega) (by simp) HSa.out (by have := HBb.out; omega) 29
          have Hrun := Lib.hid hrun
          have HWn2 := Lib.hid hw1
          have HFn := Lib.hid hf1
          clear hrun hw1 hf1 hf0
          generalize hWl2 : W.length = Wl at *
          go_upto_region 26 with (at_builtin; refine wpList_append_run rfl _ _ _ rfl _ _ _ _ rfl rfl Hrun.out ?_)
          clear hc1 hs1 hvc
          obtain ⟨wb, hwb⟩ : ∃ wb, wb = w'.setCell ⟨b, 0, none⟩ (.slice oa2 om2 oc2) := ⟨_, rfl⟩
          rw [← hwb]
          rw [← hwb] at HWn2 HFn
          have HBb2 : Hid (Below w.heap.size w wb) := HBa.out.trans (HFn.out.1.mono (Nat.le_of_lt Hlt.out))
          have HSb2 : Hid (H ≤ wb.heap.size) := Nat.le_trans HSa.out HFn.out.1.size
          have eb := HFn.out.2 wr.heap.size _ (by decide) Hnea.out HTa.out.1
          have q0 : wb.cell? ⟨wr.heap.size, 0, none⟩ = some (.int .i64 u) := by
            have e : wb.cell? ⟨wr.heap.size, 0, none⟩ = wa.cell? ⟨wr.heap.size, 0, none⟩ := World.cell?_of_block (w := wa) eb
            rw [e]; exact HTa.out.2.1
          have q1 : wb.cell? ⟨wr.heap.size, 1, none⟩ = some (.int .i64 y) := by
            have e : wb.cell? ⟨wr.heap.size, 1, none⟩ = wa.cell? ⟨wr.heap.size, 1, none⟩ := World.cell?_of_block (w := wa) eb
            rw [e]; exact HTa.out.2.2
          clear eb hwb HFn Hrun HTa HWa HBa HSa
          go_wp2_with fail
          clear q0 q1
          refine (padd_any b H _ (W ++ [kwBias]) (.slice (some ⟨wb.heap.size, 0, none⟩) 2 2) [u, y] (wb.alloc (.cells #[.int .i64 u, .int .i64 y] 3)) (HWn2.out.below ((Below.refl _ _).alloc (Nat.le_refl _) _)) (IntsT.at wb _ rfl [u, y]) (by simp; exact ⟨Hu.out, Hv.out⟩) (HE.out.below (HBb2.out.alloc HBb2.out.size _) hs8) (by have := Hlt.out; omega) (by have := HSb2.out; simp; omega) (by have := HBb.out; omega) (by have := HWn.out; simp; omega) (by simp)).mono ?_
          rintro e wc ⟨rfl, ⟨vc, hwc⟩, hfc⟩
          have HWc2 : Hid (WordsAt wc b H vc (W ++ [kwBias] ++ [istr u, istr y])) := hwc
          have HBc2 : Hid (Below w.heap.size w wc) := (HBb2.out.alloc HBb2.out.size _).trans (hfc.1.mono (by have := Hlt.out; omega))
          have HSc2 : Hid (H ≤ wc.heap.size) := Nat.le_trans HSb2.out (Nat.le_trans (by simp) hfc.1.size)
          clear hwc hfc
          go_wp2_with fail
          go_roundw
          case rel => exact ⟨j + 1, vc, by omega, by go_num, by rw [Htk.out]; exact HWc2.out, HBc2.out, HSc2.out⟩
          case measure => simp [intOf]; omega
        · obtain rfl : j = ll := by omega
          have hle : l.take j = l := by rw [Hll.out, List.take_length]
          rw [hle, HHD.out] at hwr
          have HWf := Lib.hid hwr
          have HBf := Lib.hid hBr
          obtain ⟨RR, hRR⟩ : ∃ RR, RR = ([kwStation, kindW k, nm, istr s] ++ [kwClosed]) ++ biasW l := ⟨_, rfl⟩
          have h0 : RR ≠ [] := by rw [hRR]; simp
          rw [← hRR] at HWf HPZ
          have HRR := Lib.hid hRR
          have H0 := Lib.hid h0
          clear hwr hBr hle hRR h0 hWn
          obtain ⟨ja, jc, rfl⟩ := HWf.out.slice
          have hvc := HWf.out.var.1
          generalize hjl : RR.length = jl at hvc
          go_wp2_with fail
          rw [← hjl]
          refine (pjoin_any HWf.out H0.out (by have := HPZ.out.2; omega) HPZ.out.1).mono ?_
          rintro e w9 ⟨rfl, hb9⟩
          have HB9 := Lib.hid (below_then HBf.out hb9)
          clear hb9 hvc hjl
          obtain ⟨sx, hsx⟩ : ∃ sx, sx = joinB 32 RR := ⟨_, rfl⟩
          rw [← hsx]
          have Hsx : Hid (sx = joinB 32 (([kwStation, kindW k, nm, istr s] ++ [kwClosed]) ++ biasW l)) := by rw [← HRR.out]; exact hsx
          clear hsx
          go_wp2_with fail
          go_ret2
          exact ⟨congrArg (fun z => Ending.returned (.tuple #[.string z, .int .i64 0])) Hsx.out, HB9.out⟩
    · rw [if_pos (by rfl)]
      go_simp
      refine hK.out _ _ (hHeld) (fun hHeld => ?_)
      clear hK K
      refine wpAnyH_ready (rs := [0, 8]) (by kernel_rfl) (by simp) ?_
      refine AllReadyH.cons rfl (fun K hK => ?_) (AllReadyH.cons rfl (fun K hK => ?_) AllReadyH.nil)
      · rw [if_pos (by rfl)]
        go_simp
        refine hK.out _ _ (hHeld) (fun hHeld => ?_)
        clear hK K
        refine wpAnyH_ready (rs := [8]) (by kernel_rfl) (by simp) ?_
        refine AllReadyH.cons rfl (fun K hK => ?_) AllReadyH.nil
        rw [if_pos (by rfl)]
        go_simp
        refine hK.out _ _ (EvAt.alloc hHeld _) (fun hHeld => ?_)
        clear hK K
        have hva := cell_then ((Below.refl w4.heap.size w4).alloc (Nat.le_refl _) (.cells #[.string kwd, .string nm] 9)) HW4.out.var.1
        refine wpAnyH_ready (rs := [9]) (by kernel_rfl) (by simp) ?_
        refine AllReadyH.cons rfl (fun K hK => ?_) AllReadyH.nil
        refine step_append_run rfl _ _ _ rfl _ _ _ _ rfl rfl Hrun.out ?_
        refine hK.out _ _ (EvAt.of_block hE4 (HF0.out.1.block _ Hlt.out)) (fun hHeld => ?_)
        clear hK K
        simp only [Act.put, List.setIfInBounds_toArray, List.set_cons_zero, List.set_cons_succ]
        refine wpAnyH_ready (rs := [10]) (by kernel_rfl) (by simp) ?_
        refine AllReadyH.cons rfl (fun K hK => ?_) AllReadyH.nil
        rw [if_pos (by rfl)]
        go_simp
        refine hK.out _ _ (EvAt.other hHeld (by have := HBb.out; have := Hlt.out; simp; omega) _) (fun hHeld => ?_)
        clear hK K
        clear hc1 hs1
        refine wpAnyH_done (by kernel_rfl) ?_ _
        obtain ⟨v8, hv8⟩ : ∃ v8, v8 = w'.setCell ⟨b, 0, none⟩ (.slice oa2 om2 oc2) := ⟨_, rfl⟩
        rw [← hv8]
        rw [← hv8] at HWn HFn
        have HB8 : Hid (Below w.heap.size w v8) := HB4.out.trans (HFn.out.1.mono (Nat.le_of_lt Hlt.out))
        have HW8 : Hid (WordsAt v8 b H (.slice oa2 om2 oc2) [kwStation, kwd, nm]) := HWn.out
        have EB8 : Hid (EvAt v8 w.heap.size [.int .i64 4, .string ⟨#[]⟩, .slice ba 0 bc, .int .i64 0, .int .i64 k, .string nm, .int .i64 s, .bool true, .int .i64 0, .int .i64 0, .int .i64 0, .int .i64 0, .slice ca ll cc]) := EvAt.of_block hE4 (HFn.out.1.block _ Hlt.out)
        have HS8 : Hid (H ≤ v8.heap.size) := Nat.le_trans HSd.out HFn.out.1.size
        clear hv8 HWn HFn hHeld hE4 hkk hvd hv0 HW4 HB4 HSd HF0 Hrun
        try clear hva
        have e6 := EB8.out.facts.2.2.2.2.2.2.1
        go_wp2_with fail
        clear e6
        refine (padd_any b H _ [kwStation, kwd, nm] (.slice (some ⟨v8.heap.size, 0, none⟩) 1 1) [s] (v8.alloc (.cells #[.int .i64 s] 3)) (HW8.out.below ((Below.refl _ _).alloc (Nat.le_refl _) _)) (IntsT.at v8 _ rfl [s]) (by simp; exact His.out) (HE.out.below (HB8.out.alloc HB8.out.size _) hs8) (by have := Hlt.out; omega) (by have := HS8.out; simp; omega) (by have := HBb.out; omega) (by simp) (by simp)).mono ?_
        rintro e w5 ⟨rfl, ⟨v5, hw5⟩, hf5⟩
        have HW5 : Hid (WordsAt w5 b H v5 [kwStation, kwd, nm, istr s]) := hw5
        have HB5 : Hid (Below w.heap.size w w5) := (HB8.out.alloc HB8.out.size _).trans (hf5.1.mono (by have := Hlt.out; omega))
        have EB5 : Hid (EvAt w5 w.heap.size [.int .i64 4, .string ⟨#[]⟩, .slice ba 0 bc, .int .i64 0, .int .i64 k, .string nm, .int .i64 s, .bool true, .int .i64 0, .int .i64 0, .int .i64 0, .int .i64 0, .slice ca ll cc]) := (EB8.out.alloc _).of_block (hf5.1.block _ Hlt.out)
        have HS5 : Hid (H ≤ w5.heap.size) := Nat.le_trans HS8.out (Nat.le_trans (by simp) hf5.1.size)
        clear hw5 hf5 HW8 HB8 EB8
        have g7 := EB5.out.facts.2.2.2.2.2.2.2.1
        have g8 := EB5.out.facts.2.2.2.2.2.2.2.2.1
        have g9 := EB5.out.facts.2.2.2.2.2.2.2.2.2.1
        have g10 := EB5.out.facts.2.2.2.2.2.2.2.2.2.2.1
        have g11 := EB5.out.facts.2.2.2.2.2.2.2.2.2.2.2.1
        go_upto_region 18 with fail
        clear g8 g9 g10 g11
        obtain ⟨w6, hw6⟩ : ∃ w6, w6 = w5.alloc (.cells #[.int .i64 0, .int .i64 0, .int .i64 0, .int .i64 0] 31) := ⟨_, rfl⟩
        rw [← hw6]
        have hb6 : Below w5.heap.size w5 w6 := by rw [hw6]; exact (Below.refl _ _).alloc (Nat.le_refl _) _
        have HW6 := Lib.hid (HW5.out.below hb6)
        have HB6 := Lib.hid (below_then HB5.out hb6)
        have EB6 := Lib.hid (EB5.out.below hb6)
        have HS6 := Lib.hid (Nat.le_trans HS5.out hb6.size)
        have HT6 : Hid (Typed w6 w5.heap.size 31 ∧ ∀ i, i < 4 → w6.cell? ⟨w5.heap.size, i, none⟩ = [Value.int .i64 0, .int .i64 0, .int .i64 0, .int .i64 0][i]?) := by
          rw [hw6]; exact ⟨⟨_, _, heap_alloc_new w5 _⟩, fun i hi => by simp⟩
        have Hne6 : Hid (w5.heap.size ≠ b) := by have := lt_of_block HW5.out.1; unfold Hid; omega
        have g7' := EB6.out.facts.2.2.2.2.2.2.2.1
        clear hb6 hw6 g7
        obtain ⟨sa6, sc6, rfl⟩ := HW6.out.slice
        have hvc : w6.cell? ⟨b, 0, none⟩ = some (.slice sa6 4 sc6) := HW6.out.var.1
        obtain ⟨v', w', hrun, hc1, hs1, hw1, hf1, ⟨oa2, om2, oc2, rfl⟩, hf0⟩ := HW6.out.more [kwClosed] (by simp) (by simp) HS6.out (by have := HBb.out; omega) 29
        have Hrun := Lib.hid hrun
        have HWn := Lib.hid hw1
        have HFn := Lib.hid hf1
        clear hrun hw1 hf1 hf0
        go_upto_region 22 with (at_builtin; refine wpList_append_run rfl _ _ _ rfl _ _ _ _ rfl rfl Hrun.out ?_)
        clear hc1 hs1 hvc g7'
        obtain ⟨w7, hw7⟩ : ∃ w7, w7 = w'.setCell ⟨b, 0, none⟩ (.slice oa2 om2 oc2) := ⟨_, rfl⟩
        rw [← hw7]
        rw [← hw7] at HWn HFn
        have HW7 : Hid (WordsAt w7 b H (.slice oa2 om2 oc2) [kwStation, kwd, nm, istr s, kwClosed]) := HWn.out
        have HB7 : Hid (Below w.heap.size w w7) := HB6.out.trans (HFn.out.1.mono (Nat.le_of_lt Hlt.out))
        have EB7 : Hid (EvAt w7 w.heap.size [.int .i64 4, .string ⟨#[]⟩, .slice ba 0 bc, .int .i64 0, .int .i64 k, .string nm, .int .i64 s, .bool true, .int .i64 0, .int .i64 0, .int .i64 0, .int .i64 0, .slice ca ll cc]) := EB6.out.of_block (HFn.out.1.block _ Hlt.out)
        have HS7 : Hid (H ≤ w7.heap.size) := Nat.le_trans HS6.out HFn.out.1.size
        have HT7 : Hid (∀ i, i < 4 → w7.cell? ⟨w5.heap.size, i, none⟩ = [Value.int .i64 0, .int .i64 0, .int .i64 0, .int .i64 0][i]?) := fun i hi => by
          have e : w7.cell? ⟨w5.heap.size, i, none⟩ = w6.cell? ⟨w5.heap.size, i, none⟩ := World.cell?_of_block (w := w6) (HFn.out.2 w5.heap.size _ (by decide) Hne6.out HT6.out.1)
          rw [e]; exact HT6.out.2 i hi
        clear hw7 HWn HFn Hrun HW6 HB6 EB6 HS6 HT6 HW5 HB5 EB5 HS5
        have HWl := HW7
        have HBl := HB7
        have EBl := EB7
        have HSl := HS7
        obtain ⟨vl, hvl⟩ : ∃ vl, vl = Value.slice oa2 om2 oc2 := ⟨_, rfl⟩
        rw [← hvl] at HWl
        obtain ⟨wl, rfl⟩ : ∃ wl, wl = w7 := ⟨_, rfl⟩
        clear hvl HW7 HB7 EB7 HS7 HT7
        obtain ⟨HD, hHD⟩ : ∃ HD, HD = [kwStation, kwd, nm, istr s, kwClosed] := ⟨_, rfl⟩
        rw [← hHD] at HWl
        have HHD : Hid (HD ++ biasW l = ([kwStation, kindW k, nm, istr s] ++ [kwClosed]) ++ biasW l) := by unfold Hid; rw [hHD, HKd.out]; rfl
        have hHDl : HD.length ≤ 9 := by rw [hHD]; simp
        clear hHD
        have e12 := EBl.out.facts.2.2.2.2.2.2.2.2.2.2.2.2
        go_wp2_with fail
        clear e12
        go_loopw [93] (fun x wr => ∃ (j : Nat) (v : Value), j ≤ ll ∧ x = .int .i64 j ∧ WordsAt wr b H v (HD ++ biasW (l.take j)) ∧ Below w.heap.size w wr ∧ H ≤ wr.heap.size) (fun x _ => (ll - intOf x).toNat)
        case atStart => exact ⟨0, vl, by omega, rfl, by simpa [biasW] using HWl.out, HBl.out, HSl.out⟩
        case round =>
          obtain ⟨j, v, hj, rfl, hwr, hBr, hSr⟩ := hrel
          have hWn : (HD ++ biasW (l.take j)).length ≤ 10000000 := by
            have := bias_len (l.take j)
            have h2 : (l.take j).length ≤ 2000000 := by rw [List.length_take]; have := Hll.out; omega
            rw [List.length_append]; omega
          by_cases hlt : j < ll
          · have hjl : j < l.length := by have := Hll.out; omega
            obtain ⟨ab, ao, rfl, p0, p1⟩ := Hcells.out j hjl
            have p0 := cell_then hBr p0
            have p1 := cell_then hBr p1
            have hm : l.getD j (0, 0) ∈ l := by rw [getD_mem hjl]; exact List.getElem_mem hjl
            have hnl := HLN.out _ hm
            have Hu := Lib.hid (not_long hnl.1)
            have Hv := Lib.hid (not_long hnl.2)
            have Htk : Hid (HD ++ biasW (l.take (j + 1)) = (HD ++ biasW (l.take j)) ++ [kwBias] ++ [istr (l.getD j (0, 0)).1, istr (l.getD j (0, 0)).2]) := by
              unfold Hid
              have e : biasW (l.take (j + 1)) = biasW (l.take j) ++ [kwBias, istr (l.getD j (0, 0)).1, istr (l.getD j (0, 0)).2] := by
                rw [List.take_succ_eq_append_getElem hjl, getD_mem hjl]; unfold biasW; rw [List.flatMap_append]; rfl
              rw [e, List.append_assoc, List.append_assoc]; rfl
            generalize (l.getD j (0, 0)).1 = u at *
            generalize (l.getD j (0, 0)).2 = y at *
            clear hm hnl
            have HWr := Lib.hid hwr
            have HBr := Lib.hid hBr
            have HSr := Lib.hid hSr
            have HWn := Lib.hid hWn
            generalize HD ++ biasW (l.take j) = W at *
            clear hwr hBr hSr hWn
            have i0 : (0 : Int) ≤ (j : Int) := by omega
            have i1 : (j : Int) < (ll : Int) := by omega
            go_upto_region 25 with fail
            clear p0 p1
            obtain ⟨wa, hwa⟩ : ∃ wa, wa = wr.alloc (.cells #[.int .i64 u, .int .i64 y] 51) := ⟨_, rfl⟩
            rw [← hwa]
            have hba : Below wr.heap.size wr wa := by rw [hwa]; exact (Below.refl _ _).alloc (Nat.le_refl _) _
            have HWa := Lib.hid (HWr.out.below hba)
            have HBa := Lib.hid (below_then HBr.out hba)
            have HSa := Lib.hid (Nat.le_trans HSr.out hba.size)
            have HTa : Hid (Typed wa wr.heap.size 51 ∧ wa.cell? ⟨wr.heap.size, 0, none⟩ = some (.int .i64 u) ∧ wa.cell? ⟨wr.heap.size, 1, none⟩ = some (.int .i64 y)) := by
              rw [hwa]; exact ⟨⟨_, _, heap_alloc_new wr _⟩, by simp, by simp⟩
            have Hnea : Hid (wr.heap.size ≠ b) := by have := lt_of_block HWr.out.1; unfold Hid; omega
            clear hba hwa
            obtain ⟨sa, sc, rfl⟩ := HWa.out.slice
            have hvc := HWa.out.var.1
            obtain ⟨v', w', hrun, hc1, hs1, hw1, hf1, ⟨oa2, om2, oc2, rfl⟩, hf0⟩ := HWa.out.more [kwBias] (by have := HWn.out; omega) (by simp) HSa.out (by have := HBb.out; omega) 29
            have Hrun := Lib.hid hrun
            have HWn2 := Lib.hid hw1
            have HFn := Lib.hid hf1
            clear hrun hw1 hf1 hf0
            generalize hWl2 : W.length = Wl at *
            go_upto_region 26 with (at_builtin; refine wpList_append_run rfl _ _ _ rfl _ _ _ _ rfl rfl Hrun.out ?_)
            clear hc1 hs1 hvc
            obtain ⟨wb, hwb⟩ : ∃ wb, wb = w'.setCell ⟨b, 0, none⟩ (.slice oa2 om2 oc2) := ⟨_, rfl⟩
            rw [← hwb]
            rw [← hwb] at HWn2 HFn
            have HBb2 : Hid (Below w.heap.size w wb) := HBa.out.trans (HFn.out.1.mono (Nat.le_of_lt Hlt.out))
            have HSb2 : Hid (H ≤ wb.heap.size) := Nat.le_trans HSa.out HFn.out.1.size
            have eb := HFn.out.2 wr.heap.size _ (by decide) Hnea.out HTa.out.1
            have q0 : wb.cell? ⟨wr.heap.size, 0, none⟩ = some (.int .i64 u) := by
              have e : wb.cell? ⟨wr.heap.size, 0, none⟩ = wa.cell? ⟨wr.heap.size, 0, none⟩ := World.cell?_of_block (w := wa) eb
              rw [e]; exact HTa.out.2.1
            have q1 : wb.cell? ⟨wr.heap.size, 1, none⟩ = some (.int .i64 y) := by
              have e : wb.cell? ⟨wr.heap.size, 1, none⟩ = wa.cell? ⟨wr.heap.size, 1, none⟩ := World.cell?_of_block (w := wa) eb
              rw [e]; exact HTa.out.2.2
            clear eb hwb HFn Hrun HTa HWa HBa HSa
            go_wp2_with fail
            clear q0 q1
            refine (padd_any b H _ (W ++ [kwBias]) (.slice (some ⟨wb.heap.size, 0, none⟩) 2 2) [u, y] (wb.alloc (.cells #[.int .i64 u, .int .i64 y] 3)) (HWn2.out.below ((Below.refl _ _).alloc (Nat.le_refl _) _)) (IntsT.at wb _ rfl [u, y]) (by simp; exact ⟨Hu.out, Hv.out⟩) (HE.out.below (HBb2.out.alloc HBb2.out.size _) hs8) (by have := Hlt.out; omega) (by have := HSb2.out; simp; omega) (by have := HBb.out; omega) (by have := HWn.out; simp; omega) (by simp)).mono ?_
            rintro e wc ⟨rfl, ⟨vc, hwc⟩, hfc⟩
            have HWc2 : Hid (WordsAt wc b H vc (W ++ [kwBias] ++ [istr u, istr y])) := hwc
            have HBc2 : Hid (Below w.heap.size w wc) := (HBb2.out.alloc HBb2.out.size _).trans (hfc.1.mono (by have := Hlt.out; omega))
            have HSc2 : Hid (H ≤ wc.heap.size) := Nat.le_trans HSb2.out (Nat.le_trans (by simp) hfc.1.size)
            clear hwc hfc
            go_wp2_with fail
            go_roundw
            case rel => exact ⟨j + 1, vc, by omega, by go_num, by rw [Htk.out]; exact HWc2.out, HBc2.out, HSc2.out⟩
            case measure => simp [intOf]; omega
          · obtain rfl : j = ll := by omega
            have hle : l.take j = l := by rw [Hll.out, List.take_length]
            rw [hle, HHD.out] at hwr
            have HWf := Lib.hid hwr
            have HBf := Lib.hid hBr
            obtain ⟨RR, hRR⟩ : ∃ RR, RR = ([kwStation, kindW k, nm, istr s] ++ [kwClosed]) ++ biasW l := ⟨_, rfl⟩
            have h0 : RR ≠ [] := by rw [hRR]; simp
            rw [← hRR] at HWf HPZ
            have HRR := Lib.hid hRR
            have H0 := Lib.hid h0
            clear hwr hBr hle hRR h0 hWn
            obtain ⟨ja, jc, rfl⟩ := HWf.out.slice
            have hvc := HWf.out.var.1
            generalize hjl : RR.length = jl at hvc
            go_wp2_with fail
            rw [← hjl]
            refine (pjoin_any HWf.out H0.out (by have := HPZ.out.2; omega) HPZ.out.1).mono ?_
            rintro e w9 ⟨rfl, hb9⟩
            have HB9 := Lib.hid (below_then HBf.out hb9)
            clear hb9 hvc hjl
            obtain ⟨sx, hsx⟩ : ∃ sx, sx = joinB 32 RR := ⟨_, rfl⟩
            rw [← hsx]
            have Hsx : Hid (sx = joinB 32 (([kwStation, kindW k, nm, istr s] ++ [kwClosed]) ++ biasW l)) := by rw [← HRR.out]; exact hsx
            clear hsx
            go_wp2_with fail
            go_ret2
            exact ⟨congrArg (fun z => Ending.returned (.tuple #[.string z, .int .i64 0])) Hsx.out, HB9.out⟩
      · rw [if_pos (by rfl)]
        go_simp
        refine hK.out _ _ (EvAt.alloc hHeld _) (fun hHeld => ?_)
        clear hK K
        have hva := cell_then ((Below.refl w4.heap.size w4).alloc (Nat.le_refl _) (.cells #[.string kwd, .string nm] 9)) HW4.out.var.1
        refine wpAnyH_ready (rs := [0]) (by kernel_rfl) (by simp) ?_
        refine AllReadyH.cons rfl (fun K hK => ?_) AllReadyH.nil
        rw [if_pos (by rfl)]
        go_simp
        refine hK.out _ _ (hHeld) (fun hHeld => ?_)
        clear hK K
        refine wpAnyH_ready (rs := [9]) (by kernel_rfl) (by simp) ?_
        refine AllReadyH.cons rfl (fun K hK => ?_) AllReadyH.nil
        refine step_append_run rfl _ _ _ rfl _ _ _ _ rfl rfl Hrun.out ?_
        refine hK.out _ _ (EvAt.of_block hE4 (HF0.out.1.block _ Hlt.out)) (fun hHeld => ?_)
        clear hK K
        simp only [Act.put, List.setIfInBounds_toArray, List.set_cons_zero, List.set_cons_succ]
        refine wpAnyH_ready (rs := [10]) (by kernel_rfl) (by simp) ?_
        refine AllReadyH.cons rfl (fun K hK => ?_) AllReadyH.nil
        rw [if_pos (by rfl)]
        go_simp
        refine hK.out _ _ (EvAt.other hHeld (by have := HBb.out; have := Hlt.out; simp; omega) _) (fun hHeld => ?_)
        clear hK K
        clear hc1 hs1
        refine wpAnyH_done (by kernel_rfl) ?_ _
        obtain ⟨v8, hv8⟩ : ∃ v8, v8 = w'.setCell ⟨b, 0, none⟩ (.slice oa2 om2 oc2) := ⟨_, rfl⟩
        rw [← hv8]
        rw [← hv8] at HWn HFn
        have HB8 : Hid (Below w.heap.size w v8) := HB4.out.trans (HFn.out.1.mono (Nat.le_of_lt Hlt.out))
        have HW8 : Hid (WordsAt v8 b H (.slice oa2 om2 oc2) [kwStation, kwd, nm]) := HWn.out
        have EB8 : Hid (EvAt v8 w.heap.size [.int .i64 4, .string ⟨#[]⟩, .slice ba 0 bc, .int .i64 0, .int .i64 k, .string nm, .int .i64 s, .bool true, .int .i64 0, .int .i64 0, .int .i64 0, .int .i64 0, .slice ca ll cc]) := EvAt.of_block hE4 (HFn.out.1.block _ Hlt.out)
        have HS8 : Hid (H ≤ v8.heap.size) := Nat.le_trans HSd.out HFn.out.1.size
        clear hv8 HWn HFn hHeld hE4 hkk hvd hv0 HW4 HB4 HSd HF0 Hrun
        try clear hva
        have e6 := EB8.out.facts.2.2.2.2.2.2.1
        go_wp2_with fail
        clear e6
        refine (padd_any b H _ [kwStation, kwd, nm] (.slice (some ⟨v8.heap.size, 0, none⟩) 1 1) [s] (v8.alloc (.cells #[.int .i64 s] 3)) (HW8.out.below ((Below.refl _ _).alloc (Nat.le_refl _) _)) (IntsT.at v8 _ rfl [s]) (by simp; exact His.out) (HE.out.below (HB8.out.alloc HB8.out.size _) hs8) (by have := Hlt.out; omega) (by have := HS8.out; simp; omega) (by have := HBb.out; omega) (by simp) (by simp)).mono ?_
        rintro e w5 ⟨rfl, ⟨v5, hw5⟩, hf5⟩
        have HW5 : Hid (WordsAt w5 b H v5 [kwStation, kwd, nm, istr s]) := hw5
        have HB5 : Hid (Below w.heap.size w w5) := (HB8.out.alloc HB8.out.size _).trans (hf5.1.mono (by have := Hlt.out; omega))
        have EB5 : Hid (EvAt w5 w.heap.size [.int .i64 4, .string ⟨#[]⟩, .slice ba 0 bc, .int .i64 0, .int .i64 k, .string nm, .int .i64 s, .bool true, .int .i64 0, .int .i64 0, .int .i64 0, .int .i64 0, .slice ca ll cc]) := (EB8.out.alloc _).of_block (hf5.1.block _ Hlt.out)
        have HS5 : Hid (H ≤ w5.heap.size) := Nat.le_trans HS8.out (Nat.le_trans (by simp) hf5.1.size)
        clear hw5 hf5 HW8 HB8 EB8
        have g7 := EB5.out.facts.2.2.2.2.2.2.2.1
        have g8 := EB5.out.facts.2.2.2.2.2.2.2.2.1
        have g9 := EB5.out.facts.2.2.2.2.2.2.2.2.2.1
        have g10 := EB5.out.facts.2.2.2.2.2.2.2.2.2.2.1
        have g11 := EB5.out.facts.2.2.2.2.2.2.2.2.2.2.2.1
        go_upto_region 18 with fail
        clear g8 g9 g10 g11
        obtain ⟨w6, hw6⟩ : ∃ w6, w6 = w5.alloc (.cells #[.int .i64 0, .int .i64 0, .int .i64 0, .int .i64 0] 31) := ⟨_, rfl⟩
        rw [← hw6]
        have hb6 : Below w5.heap.size w5 w6 := by rw [hw6]; exact (Below.refl _ _).alloc (Nat.le_refl _) _
        have HW6 := Lib.hid (HW5.out.below hb6)
        have HB6 := Lib.hid (below_then HB5.out hb6)
        have EB6 := Lib.hid (EB5.out.below hb6)
        have HS6 := Lib.hid (Nat.le_trans HS5.out hb6.size)
        have HT6 : Hid (Typed w6 w5.heap.size 31 ∧ ∀ i, i < 4 → w6.cell? ⟨w5.heap.size, i, none⟩ = [Value.int .i64 0, .int .i64 0, .int .i64 0, .int .i64 0][i]?) := by
          rw [hw6]; exact ⟨⟨_, _, heap_alloc_new w5 _⟩, fun i hi => by simp⟩
        have Hne6 : Hid (w5.heap.size ≠ b) := by have := lt_of_block HW5.out.1; unfold Hid; omega
        have g7' := EB6.out.facts.2.2.2.2.2.2.2.1
        clear hb6 hw6 g7
        obtain ⟨sa6, sc6, rfl⟩ := HW6.out.slice
        have hvc : w6.cell? ⟨b, 0, none⟩ = some (.slice sa6 4 sc6) := HW6.out.var.1
        obtain ⟨v', w', hrun, hc1, hs1, hw1, hf1, ⟨oa2, om2, oc2, rfl⟩, hf0⟩ := HW6.out.more [kwClosed] (by simp) (by simp) HS6.out (by have := HBb.out; omega) 29
        have Hrun := Lib.hid hrun
        have HWn := Lib.hid hw1
        have HFn := Lib.hid hf1
        clear hrun hw1 hf1 hf0
        go_upto_region 22 with (at_builtin; refine wpList_append_run rfl _ _ _ rfl _ _ _ _ rfl rfl Hrun.out ?_)
        clear hc1 hs1 hvc g7'
        obtain ⟨w7, hw7⟩ : ∃ w7, w7 = w'.setCell ⟨b, 0, none⟩ (.slice oa2 om2 oc2) := ⟨_, rfl⟩
        rw [← hw7]
        rw [← hw7] at HWn HFn
        have HW7 : Hid (WordsAt w7 b H (.slice oa2 om2 oc2) [kwStation, kwd, nm, istr s, kwClosed]) := HWn.out
        have HB7 : Hid (Below w.heap.size w w7) := HB6.out.trans (HFn.out.1.mono (Nat.le_of_lt Hlt.out))
        have EB7 : Hid (EvAt w7 w.heap.size [.int .i64 4, .string ⟨#[]⟩, .slice ba 0 bc, .int .i64 0, .int .i64 k, .string nm, .int .i64 s, .bool true, .int .i64 0, .int .i64 0, .int .i64 0, .int .i64 0, .slice ca ll cc]) := EB6.out.of_block (HFn.out.1.block _ Hlt.out)
        have HS7 : Hid (H ≤ w7.heap.size) := Nat.le_trans HS6.out HFn.out.1.size
        have HT7 : Hid (∀ i, i < 4 → w7.cell? ⟨w5.heap.size, i, none⟩ = [Value.int .i64 0, .int .i64 0, .int .i64 0, .int .i64 0][i]?) := fun i hi => by
          have e : w7.cell? ⟨w5.heap.size, i, none⟩ = w6.cell? ⟨w5.heap.size, i, none⟩ := World.cell?_of_block (w := w6) (HFn.out.2 w5.heap.size _ (by decide) Hne6.out HT6.out.1)
          rw [e]; exact HT6.out.2 i hi
        clear hw7 HWn HFn Hrun HW6 HB6 EB6 HS6 HT6 HW5 HB5 EB5 HS5
        have HWl := HW7
        have HBl := HB7
        have EBl := EB7
        have HSl := HS7
        obtain ⟨vl, hvl⟩ : ∃ vl, vl = Value.slice oa2 om2 oc2 := ⟨_, rfl⟩
        rw [← hvl] at HWl
        obtain ⟨wl, rfl⟩ : ∃ wl, wl = w7 := ⟨_, rfl⟩
        clear hvl HW7 HB7 EB7 HS7 HT7
        obtain ⟨HD, hHD⟩ : ∃ HD, HD = [kwStation, kwd, nm, istr s, kwClosed] := ⟨_, rfl⟩
        rw [← hHD] at HWl
        have HHD : Hid (HD ++ biasW l = ([kwStation, kindW k, nm, istr s] ++ [kwClosed]) ++ biasW l) := by unfold Hid; rw [hHD, HKd.out]; rfl
        have hHDl : HD.length ≤ 9 := by rw [hHD]; simp
        clear hHD
        have e12 := EBl.out.facts.2.2.2.2.2.2.2.2.2.2.2.2
        go_wp2_with fail
        clear e12
        go_loopw [93] (fun x wr => ∃ (j : Nat) (v : Value), j ≤ ll ∧ x = .int .i64 j ∧ WordsAt wr b H v (HD ++ biasW (l.take j)) ∧ Below w.heap.size w wr ∧ H ≤ wr.heap.size) (fun x _ => (ll - intOf x).toNat)
        case atStart => exact ⟨0, vl, by omega, rfl, by simpa [biasW] using HWl.out, HBl.out, HSl.out⟩
        case round =>
          obtain ⟨j, v, hj, rfl, hwr, hBr, hSr⟩ := hrel
          have hWn : (HD ++ biasW (l.take j)).length ≤ 10000000 := by
            have := bias_len (l.take j)
            have h2 : (l.take j).length ≤ 2000000 := by rw [List.length_take]; have := Hll.out; omega
            rw [List.length_append]; omega
          by_cases hlt : j < ll
          · have hjl : j < l.length := by have := Hll.out; omega
            obtain ⟨ab, ao, rfl, p0, p1⟩ := Hcells.out j hjl
            have p0 := cell_then hBr p0
            have p1 := cell_then hBr p1
            have hm : l.getD j (0, 0) ∈ l := by rw [getD_mem hjl]; exact List.getElem_mem hjl
            have hnl := HLN.out _ hm
            have Hu := Lib.hid (not_long hnl.1)
            have Hv := Lib.hid (not_long hnl.2)
            have Htk : Hid (HD ++ biasW (l.take (j + 1)) = (HD ++ biasW (l.take j)) ++ [kwBias] ++ [istr (l.getD j (0, 0)).1, istr (l.getD j (0, 0)).2]) := by
              unfold Hid
              have e : biasW (l.take (j + 1)) = biasW (l.take j) ++ [kwBias, istr (l.getD j (0, 0)).1, istr (l.getD j (0, 0)).2] := by
                rw [List.take_succ_eq_append_getElem hjl, getD_mem hjl]; unfold biasW; rw [List.flatMap_append]; rfl
              rw [e, List.append_assoc, List.append_assoc]; rfl
            generalize (l.getD j (0, 0)).1 = u at *
            generalize (l.getD j (0, 0)).2 = y at *
            clear hm hnl
            have HWr := Lib.hid hwr
            have HBr := Lib.hid hBr
            have HSr := Lib.hid hSr
            have HWn := Lib.hid hWn
            generalize HD ++ biasW (l.take j) = W at *
            clear hwr hBr hSr hWn
            have i0 : (0 : Int) ≤ (j : Int) := by omega
            have i1 : (j : Int) < (ll : Int) := by omega
            go_upto_region 25 with fail
            clear p0 p1
            obtain ⟨wa, hwa⟩ : ∃ wa, wa = wr.alloc (.cells #[.int .i64 u, .int .i64 y] 51) := ⟨_, rfl⟩
            rw [← hwa]
            have hba : Below wr.heap.size wr wa := by rw [hwa]; exact (Below.refl _ _).alloc (Nat.le_refl _) _
            have HWa := Lib.hid (HWr.out.below hba)
            have HBa := Lib.hid (below_then HBr.out hba)
            have HSa := Lib.hid (Nat.le_trans HSr.out hba.size)
            have HTa : Hid (Typed wa wr.heap.size 51 ∧ wa.cell? ⟨wr.heap.size, 0, none⟩ = some (.int .i64 u) ∧ wa.cell? ⟨wr.heap.size, 1, none⟩ = some (.int .i64 y)) := by
              rw [hwa]; exact ⟨⟨_, _, heap_alloc_new wr _⟩, by simp, by simp⟩
            have Hnea : Hid (wr.heap.size ≠ b) := by have := lt_of_block HWr.out.1; unfold Hid; omega
            clear hba hwa
            obtain ⟨sa, sc, rfl⟩ := HWa.out.slice
            have hvc := HWa.out.var.1
            obtain ⟨v', w', hrun, hc1, hs1, hw1, hf1, ⟨oa2, om2, oc2, rfl⟩, hf0⟩ := HWa.out.more [kwBias] (by have := HWn.out; omega) (by simp) HSa.out (by have := HBb.out; omega) 29
            have Hrun := Lib.hid hrun
            have HWn2 := Lib.hid hw1
            have HFn := Lib.hid hf1
            clear hrun hw1 hf1 hf0
            generalize hWl2 : W.length = Wl at *
            go_upto_region 26 with (at_builtin; refine wpList_append_run rfl _ _ _ rfl _ _ _ _ rfl rfl Hrun.out ?_)
            clear hc1 hs1 hvc
            obtain ⟨wb, hwb⟩ : ∃ wb, wb = w'.setCell ⟨b, 0, none⟩ (.slice oa2 om2 oc2) := ⟨_, rfl⟩
            rw [← hwb]
            rw [← hwb] at HWn2 HFn
            have HBb2 : Hid (Below w.heap.size w wb) := HBa.out.trans (HFn.out.1.mono (Nat.le_of_lt Hlt.out))
            have HSb2 : Hid (H ≤ wb.heap.size) := Nat.le_trans HSa.out HFn.out.1.size
            have eb := HFn.out.2 wr.heap.size _ (by decide) Hnea.out HTa.out.1
            have q0 : wb.cell? ⟨wr.heap.size, 0, none⟩ = some (.int .i64 u) := by
              have e : wb.cell? ⟨wr.heap.size, 0, none⟩ = wa.cell? ⟨wr.heap.size, 0, none⟩ := World.cell?_of_block (w := wa) eb
              rw [e]; exact HTa.out.2.1
            have q1 : wb.cell? ⟨wr.heap.size, 1, none⟩ = some (.int .i64 y) := by
              have e : wb.cell? ⟨wr.heap.size, 1, none⟩ = wa.cell? ⟨wr.heap.size, 1, none⟩ := World.cell?_of_block (w := wa) eb
              rw [e]; exact HTa.out.2.2
            clear eb hwb HFn Hrun HTa HWa HBa HSa
            go_wp2_with fail
            clear q0 q1
            refine (padd_any b H _ (W ++ [kwBias]) (.slice (some ⟨wb.heap.size, 0, none⟩) 2 2) [u, y] (wb.alloc (.cells #[.int .i64 u, .int .i64 y] 3)) (HWn2.out.below ((Below.refl _ _).alloc (Nat.le_refl _) _)) (IntsT.at wb _ rfl [u, y]) (by simp; exact ⟨Hu.out, Hv.out⟩) (HE.out.below (HBb2.out.alloc HBb2.out.size _) hs8) (by have := Hlt.out; omega) (by have := HSb2.out; simp; omega) (by have := HBb.out; omega) (by have := HWn.out; simp; omega) (by simp)).mono ?_
            rintro e wc ⟨rfl, ⟨vc, hwc⟩, hfc⟩
            have HWc2 : Hid (WordsAt wc b H vc (W ++ [kwBias] ++ [istr u, istr y])) := hwc
            have HBc2 : Hid (Below w.heap.size w wc) := (HBb2.out.alloc HBb2.out.size _).trans (hfc.1.mono (by have := Hlt.out; omega))
            have HSc2 : Hid (H ≤ wc.heap.size) := Nat.le_trans HSb2.out (Nat.le_trans (by simp) hfc.1.size)
            clear hwc hfc
            go_wp2_with fail
            go_roundw
            case rel => exact ⟨j + 1, vc, by omega, by go_num, by rw [Htk.out]; exact HWc2.out, HBc2.out, HSc2.out⟩
            case measure => simp [intOf]; omega
          · obtain rfl : j = ll := by omega
            have hle : l.take j = l := by rw [Hll.out, List.take_length]
            rw [hle, HHD.out] at hwr
            have HWf := Lib.hid hwr
            have HBf := Lib.hid hBr
            obtain ⟨RR, hRR⟩ : ∃ RR, RR = ([kwStation, kindW k, nm, istr s] ++ [kwClosed]) ++ biasW l := ⟨_, rfl⟩
            have h0 : RR ≠ [] := by rw [hRR]; simp
            rw [← hRR] at HWf HPZ
            have HRR := Lib.hid hRR
            have H0 := Lib.hid h0
            clear hwr hBr hle hRR h0 hWn
            obtain ⟨ja, jc, rfl⟩ := HWf.out.slice
            have hvc := HWf.out.var.1
            generalize hjl : RR.length = jl at hvc
            go_wp2_with fail
            rw [← hjl]
            refine (pjoin_any HWf.out H0.out (by have := HPZ.out.2; omega) HPZ.out.1).mono ?_
            rintro e w9 ⟨rfl, hb9⟩
            have HB9 := Lib.hid (below_then HBf.out hb9)
            clear hb9 hvc hjl
            obtain ⟨sx, hsx⟩ : ∃ sx, sx = joinB 32 RR := ⟨_, rfl⟩
            rw [← hsx]
            have Hsx : Hid (sx = joinB 32 (([kwStation, kindW k, nm, istr s] ++ [kwClosed]) ++ biasW l)) := by rw [← HRR.out]; exact hsx
            clear hsx
            go_wp2_with fail
            go_ret2
            exact ⟨congrArg (fun z => Ending.returned (.tuple #[.string z, .int .i64 0])) Hsx.out, HB9.out⟩
end Go.Proofs.YtobaoekibnloiaaGreatDoor
