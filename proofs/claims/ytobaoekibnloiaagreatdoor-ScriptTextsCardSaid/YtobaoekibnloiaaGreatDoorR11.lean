/- Part 11 of the proof: laws on memory and what functions of the program return. No conditions but those that each theorem names. -/
import Derived.Test.YtobaoekibnloiaaGreatDoorR10
import Derived.Deep.CutBlock
set_option linter.unusedVariables false
set_option linter.unusedSimpArgs false
/- script's Write$1: numbers as words more. Printed by gen_padd.py. -/
namespace Go.Proofs.YtobaoekibnloiaaGreatDoor
open Go Go.RowKit

set_option maxHeartbeats 8000000 in
set_option maxRecDepth 100000 in
theorem padd_any (b base : Nat) (v : Value) (ws : List ByteArray) (iv : Value) (zs : List Int) (w : World) (hW : WordsAt w b base v ws) (hI : IntsT w iv zs) (hz : ∀ z ∈ zs, I64 z) (hE : Env w) (hb8 : 8 ≤ base) (hbs : base ≤ w.heap.size) (hbb : base ≤ b) (hn : ws.length ≤ 100000000) (hm : zs.length ≤ 1000) :
    Calls Tryz.prog 29 #[iv, .pointer (some ⟨b, 0, none⟩)] w fun e w' => e = .returned (.tuple #[]) ∧ (∃ v', WordsAt w' b base v' (ws ++ zs.map istr)) ∧ Fr base b w w' := by
  obtain ⟨ab, rfl, hT, hcell⟩ := hI
  have hlt := hT.lt
  have hne : ab ≠ b := by
    rintro rfl
    obtain ⟨cs, fr, e⟩ := hT
    rw [hW.1] at e; injection e with e; injection e with _ e _; exact absurd e (by decide)
  obtain ⟨n, hnn⟩ : ∃ n, n = zs.length := ⟨_, rfl⟩
  rw [← hnn] at hm ⊢
  have Hn := Lib.hid hnn
  have HT := Lib.hid hT
  have Hcell := Lib.hid hcell
  have HW0 := Lib.hid hW
  have HE := Lib.hid hE
  have HZ := Lib.hid hz
  clear hnn hT hcell hW hE hz
  go_enter Tryz.func29, Tryz.ntmps29
  go_wp2_with fail
  go_loopw [7] (fun x wr => ∃ (j : Nat) (v : Value), j ≤ n ∧ x = .int .i64 j ∧ WordsAt wr b base v (ws ++ (zs.take j).map istr) ∧ Fr base b w wr) (fun x _ => (n - intOf x).toNat)
  case atStart => exact ⟨0, v, by omega, rfl, by simpa using HW0.out, Fr.refl _ _ _⟩
  case round =>
    obtain ⟨j, v, hj, rfl, hw, hf⟩ := hrel
    by_cases hlt2 : j < n
    · have hjl : j < zs.length := by have := Hn.out; omega
      have hc : wr.cell? ⟨ab, j, none⟩ = some (.int .i64 (zs.getD j 0)) := by
        rw [World.cell?_of_block (w := w) (hf.2 ab _ (by decide) hne HT.out)]; exact Hcell.out j hjl
      have Htk : Hid (ws ++ (zs.take (j + 1)).map istr = (ws ++ (zs.take j).map istr) ++ [istr (zs.getD j 0)]) := by
        unfold Hid
        rw [List.take_succ_eq_append_getElem hjl, List.map_append, ← List.append_assoc, List.map_singleton, show zs.getD j 0 = zs[j] by simp [List.getD_eq_getElem?_getD, hjl]]
      have Hz : Hid (I64 (zs.getD j 0)) := by
        unfold Hid
        rw [show zs.getD j 0 = zs[j] by simp [List.getD_eq_getElem?_getD, hjl]]; exact HZ.out _ (List.getElem_mem hjl)
      have hnl : (ws ++ (zs.take j).map istr).length ≤ 100001000 := by
        rw [List.length_append, List.length_map, List.length_take]; omega
      generalize zs.getD j 0 = z at *
      obtain ⟨sa, sc, rfl⟩ := hw.slice
      have HW := Lib.hid hw
      have HFr := Lib.hid hf
      have HSz : Hid (base ≤ wr.heap.size) := Nat.le_trans hbs hf.1.size
      have HEr : Hid (Env wr.drew) := HE.out.below (hf.1.drew) hb8
      generalize ws ++ (zs.take j).map istr = W at *
      generalize hWl : W.length = Wl at *
      have hvar := hw.var.1
      clear hw hf
      have i0 : (0 : Int) ≤ (j : Int) := by omega
      have i1 : (j : Int) < (n : Int) := by omega
      go_wp2_with fail
      clear hc
      refine wp_region_held_drew (S := (fun _ => True)) (by kernel_rfl) trivial (fun hHeld => ?_)
      refine wpAnyH_takeD (i := 1) (d := some 12) (v := .int .i64 z) rfl rfl (by kernel_rfl) (by kernel_rfl) (by kernel_rfl) (fun _ _ _ h => h) (Or.inl ⟨by rfl, fun _ _ => by rfl⟩) (by assumption) ?_
      simp only [Act.put, List.setIfInBounds_toArray, List.set_cons_zero, List.set_cons_succ]
      refine wpAnyH_ready (rs := [0, 2]) (by kernel_rfl) (by simp) ?_
      refine AllReadyH.cons rfl (fun K hK => ?_) (AllReadyH.cons rfl (fun K hK => ?_) AllReadyH.nil)
      · rw [if_pos (by rfl)]
        go_simp
        refine hK.out _ _ trivial (fun hHeld => ?_)
        clear hK K
        refine wpAnyH_ready (rs := [2]) (by kernel_rfl) (by simp) ?_
        refine AllReadyH.cons rfl (fun K hK => ?_) AllReadyH.nil
        rw [if_pos (by rfl)]
        go_simp
        refine (itoa_any z Hz.out wr.drew (HEr.out)).mono ?_
        rintro e w2 ⟨rfl, hb2⟩
        refine hK.out _ _ trivial (fun hHeld => ?_)
        clear hK K
        have HW2 := Lib.hid ((WordsAt.below HW.out (Below.refl wr.heap.size wr).drew).below hb2)
        have HF2 := Lib.hid ((HFr.out.below (Below.refl wr.heap.size wr).drew HSz.out).below hb2 HSz.out)
        have HS2 := Lib.hid (Nat.le_trans HSz.out hb2.size)
        obtain ⟨v', w', hrun, hc1, hs1, hw1, hf1, ⟨oa2, om2, oc2, rfl⟩, hf0⟩ := HW2.out.more [istr z] (by have := hnl; omega) (by simp) HS2.out hbb 29
        have Hrun := Lib.hid hrun
        have HWn := Lib.hid hw1
        have HFn := Lib.hid (HF2.out.trans hf1)
        have hv2 := HW2.out.var
        clear hrun hw1 hf1 hb2 hf0
        have hld := hv2.1
        clear hv2 hvar
        refine wpAnyH_ready (rs := [3]) (by kernel_rfl) (by simp) ?_
        refine AllReadyH.cons rfl (fun K hK => ?_) AllReadyH.nil
        rw [if_pos (by rfl)]
        go_simp
        refine hK.out _ _ trivial (fun hHeld => ?_)
        clear hK K
        have hla := cell_then ((Below.refl w2.heap.size w2).alloc (Nat.le_refl _) (.cells #[.string (istr z)] 9)) HW2.out.var.1
        refine wpAnyH_ready (rs := [4]) (by kernel_rfl) (by simp) ?_
        refine AllReadyH.cons rfl (fun K hK => ?_) AllReadyH.nil
        refine step_append_run rfl _ _ _ rfl _ _ _ _ rfl rfl Hrun.out ?_
        refine hK.out _ _ trivial (fun hHeld => ?_)
        clear hK K
        simp only [Act.put, List.setIfInBounds_toArray, List.set_cons_zero, List.set_cons_succ]
        refine wpAnyH_ready (rs := [5]) (by kernel_rfl) (by simp) ?_
        refine AllReadyH.cons rfl (fun K hK => ?_) AllReadyH.nil
        rw [if_pos (by rfl)]
        go_simp
        refine hK.out _ _ trivial (fun hHeld => ?_)
        clear hK K
        clear hc1 hs1
        refine wpAnyH_done (by kernel_rfl) ?_ _
        go_wp2_with fail
        go_roundw
        case rel => exact ⟨j + 1, _, by omega, by go_num, by rw [Htk.out]; exact HWn.out, HFn.out⟩
        case measure => simp [intOf]; omega
      · rw [if_pos (by rfl)]
        go_simp
        refine (itoa_any z Hz.out wr.drew (HEr.out)).mono ?_
        rintro e w2 ⟨rfl, hb2⟩
        refine hK.out _ _ trivial (fun hHeld => ?_)
        clear hK K
        have HW2 := Lib.hid ((WordsAt.below HW.out (Below.refl wr.heap.size wr).drew).below hb2)
        have HF2 := Lib.hid ((HFr.out.below (Below.refl wr.heap.size wr).drew HSz.out).below hb2 HSz.out)
        have HS2 := Lib.hid (Nat.le_trans HSz.out hb2.size)
        obtain ⟨v', w', hrun, hc1, hs1, hw1, hf1, ⟨oa2, om2, oc2, rfl⟩, hf0⟩ := HW2.out.more [istr z] (by have := hnl; omega) (by simp) HS2.out hbb 29
        have Hrun := Lib.hid hrun
        have HWn := Lib.hid hw1
        have HFn := Lib.hid (HF2.out.trans hf1)
        have hv2 := HW2.out.var
        clear hrun hw1 hf1 hb2 hf0
        have hld := hv2.1
        clear hv2 hvar
        refine wpAnyH_ready (rs := [0, 3]) (by kernel_rfl) (by simp) ?_
        refine AllReadyH.cons rfl (fun K hK => ?_) (AllReadyH.cons rfl (fun K hK => ?_) AllReadyH.nil)
        · rw [if_pos (by rfl)]
          go_simp
          refine hK.out _ _ trivial (fun hHeld => ?_)
          clear hK K
          refine wpAnyH_ready (rs := [3]) (by kernel_rfl) (by simp) ?_
          refine AllReadyH.cons rfl (fun K hK => ?_) AllReadyH.nil
          rw [if_pos (by rfl)]
          go_simp
          refine hK.out _ _ trivial (fun hHeld => ?_)
          clear hK K
          have hla := cell_then ((Below.refl w2.heap.size w2).alloc (Nat.le_refl _) (.cells #[.string (istr z)] 9)) HW2.out.var.1
          refine wpAnyH_ready (rs := [4]) (by kernel_rfl) (by simp) ?_
          refine AllReadyH.cons rfl (fun K hK => ?_) AllReadyH.nil
          refine step_append_run rfl _ _ _ rfl _ _ _ _ rfl rfl Hrun.out ?_
          refine hK.out _ _ trivial (fun hHeld => ?_)
          clear hK K
          simp only [Act.put, List.setIfInBounds_toArray, List.set_cons_zero, List.set_cons_succ]
          refine wpAnyH_ready (rs := [5]) (by kernel_rfl) (by simp) ?_
          refine AllReadyH.cons rfl (fun K hK => ?_) AllReadyH.nil
          rw [if_pos (by rfl)]
          go_simp
          refine hK.out _ _ trivial (fun hHeld => ?_)
          clear hK K
          clear hc1 hs1
          refine wpAnyH_done (by kernel_rfl) ?_ _
          go_wp2_with fail
          go_roundw
          case rel => exact ⟨j + 1, _, by omega, by go_num, by rw [Htk.out]; exact HWn.out, HFn.out⟩
          case measure => simp [intOf]; omega
        · rw [if_pos (by rfl)]
          go_simp
          refine hK.out _ _ trivial (fun hHeld => ?_)
          clear hK K
          have hla := cell_then ((Below.refl w2.heap.size w2).alloc (Nat.le_refl _) (.cells #[.string (istr z)] 9)) HW2.out.var.1
          refine wpAnyH_ready (rs := [0]) (by kernel_rfl) (by simp) ?_
          refine AllReadyH.cons rfl (fun K hK => ?_) AllReadyH.nil
          rw [if_pos (by rfl)]
          go_simp
          refine hK.out _ _ trivial (fun hHeld => ?_)
          clear hK K
          refine wpAnyH_ready (rs := [4]) (by kernel_rfl) (by simp) ?_
          refine AllReadyH.cons rfl (fun K hK => ?_) AllReadyH.nil
          refine step_append_run rfl _ _ _ rfl _ _ _ _ rfl rfl Hrun.out ?_
          refine hK.out _ _ trivial (fun hHeld => ?_)
          clear hK K
          simp only [Act.put, List.setIfInBounds_toArray, List.set_cons_zero, List.set_cons_succ]
          refine wpAnyH_ready (rs := [5]) (by kernel_rfl) (by simp) ?_
          refine AllReadyH.cons rfl (fun K hK => ?_) AllReadyH.nil
          rw [if_pos (by rfl)]
          go_simp
          refine hK.out _ _ trivial (fun hHeld => ?_)
          clear hK K
          clear hc1 hs1
          refine wpAnyH_done (by kernel_rfl) ?_ _
          go_wp2_with fail
          go_roundw
          case rel => exact ⟨j + 1, _, by omega, by go_num, by rw [Htk.out]; exact HWn.out, HFn.out⟩
          case measure => simp [intOf]; omega
    · obtain rfl : j = n := by omega
      rw [show zs.take j = zs by rw [Hn.out, List.take_length]] at hw
      go_wp2_with fail
      go_end0
      exact ⟨rfl, ⟨v, hw⟩, hf⟩
end Go.Proofs.YtobaoekibnloiaaGreatDoor
/- script's Write. Printed by gen_pwr.py. -/
namespace Go.Proofs.YtobaoekibnloiaaGreatDoor
open Go Go.RowKit

/-- What Write returns of an event that it can write. -/
def PLineIs (s : ByteArray) (w : World) (e : Ending) (w' : World) : Prop := e = .returned (.tuple #[.string s, .int .i64 0]) ∧ Below w.heap.size w w'
theorem WordsAt.first (w1 : World) (k : ByteArray) : WordsAt ((w1.alloc (.cells #[.string k] 9)).alloc (.cells #[.slice (some ⟨w1.heap.size, 0, none⟩) 1 1] 29)) (w1.heap.size + 1) w1.heap.size (.slice (some ⟨w1.heap.size, 0, none⟩) 1 1) [k] := by
  have e : (w1.alloc (.cells #[.string k] 9)).heap.size = w1.heap.size + 1 := by simp
  refine ⟨by rw [← e]; exact heap_alloc_new _ _, by simp, Or.inr ⟨w1.heap.size, 1, #[.string k], rfl, Nat.le_refl _, ?_, Nat.le_refl _, by unfold maxLen; omega, by simp, by simp⟩⟩
  rw [Below.heap_alloc _ _ _ (by simp)]
  exact heap_alloc_new _ _
theorem IntsT.at (w : World) (H : Nat) (hH : w.heap.size = H) (zs : List Int) : IntsT (w.alloc (.cells (zs.map (Value.int .i64)).toArray 3)) (.slice (some ⟨H, 0, none⟩) zs.length zs.length) zs := by
  subst hH; exact IntsT.new w zs
theorem pjoin_any {w : World} {b base : Nat} {v : Value} {ws : List ByteArray} (h : WordsAt w b base v ws) (h0 : ws ≠ []) (hn : ws.length ≤ 100000000) (hz : (joinB 32 ws).size ≤ 100000000000000) :
    Calls Tryz.prog 33 #[v, .string ⟨#[32]⟩] w fun e w' => e = .returned (.string (joinB 32 ws)) ∧ Below w.heap.size w w' := by
  have h' := h.2
  have hl : 0 < ws.length := by cases ws with | nil => exact absurd rfl h0 | cons a r => simp
  rcases h.2.2 with ⟨_, q⟩ | ⟨g, cap, cur, e, hg, hh, hc, hm, _⟩
  · omega
  · rw [e]
    refine (Tryz.strings_Join g 0 cap ws ⟨#[32]⟩ w (fun j x hj => ?_) (lt_of_block hh) (by omega) hc ?_).mono ?_
    · rw [Nat.zero_add]; exact own_cells h' e (u := .string x) (by simp [hj])
    · have e2 : (joinB 32 ws).size = (Lib.join (ws.map (·.data.toList)) [32]).length := by unfold joinB mkB; exact List.size_toArray
      have e3 : (⟨#[32]⟩ : ByteArray).data.toList = [32] := rfl
      rw [e3]; omega
    · rintro e w' ⟨rfl, hb⟩
      exact ⟨rfl, hb⟩
theorem pconv_in (w : World) (s : ByteArray) (hs : s.size ≤ 1000000) : ∃ (w' : World) (cap : Nat), (convert 9 22 (.string s)).run Tryz.prog w = .ok (.slice (some ⟨w.heap.size, 0, none⟩) s.size cap) w' ∧ Below w.heap.size w w' ∧ BytesIn w' (.slice (some ⟨w.heap.size, 0, none⟩) s.size cap) s.data.toList := by
  obtain ⟨w', cap, h1, h2, _, h3, _⟩ := conv_bytes w s
  have hl : s.data.toList.length = s.size := Array.length_toList
  refine ⟨w', cap, h1, h2, some ⟨w.heap.size, 0, none⟩, cap, by rw [hl], by omega, fun i hi => ⟨w.heap.size, 0, rfl, ?_⟩⟩
  rw [Nat.zero_add]; exact h3 i (by omega)
theorem pl_size {x : Ev} (h : Good x) (hx : x.Within 1000000 2000000) : (joinB 32 (evWords x)).size ≤ 100000000000000 ∧ (evWords x).length ≤ 10000000 := by
  obtain ⟨h1, h2, h3⟩ := line_size h 1000000 2000000 hx (by omega)
  exact ⟨by unfold lineW at h3; omega, by omega⟩
set_option maxHeartbeats 8000000 in
set_option maxRecDepth 100000 in
theorem pwrite_tick (n : Int) (hn : ¬ longI n) (bv cv : Value) (w : World) (hp : EvParts 0 w ⟨3, ⟨#[]⟩, [], n, 0, ⟨#[]⟩, 0, false, 0, 0, 0, 0, []⟩ bv cv) (hE : Env w) :
    Calls Tryz.prog 15 #[Ev.val ⟨3, ⟨#[]⟩, [], n, 0, ⟨#[]⟩, 0, false, 0, 0, 0, 0, []⟩ bv cv] w (PLineIs (lineW ⟨3, ⟨#[]⟩, [], n, 0, ⟨#[]⟩, 0, false, 0, 0, 0, 0, []⟩) w) := by
  have hg : Good ⟨3, ⟨#[]⟩, [], n, 0, ⟨#[]⟩, 0, false, 0, 0, 0, 0, []⟩ := .tick n hn
  have hpz := pl_size hg ⟨by simp [ByteArray.size], by simp, by simp [ByteArray.size], by simp⟩
  have hr := fun w' (hb : Below w.heap.size w w') => check_any ⟨3, ⟨#[]⟩, [], n, 0, ⟨#[]⟩, 0, false, 0, 0, 0, 0, []⟩ bv cv w' (hE.below hb hE.size) (hp.below hb)
  unfold CheckIs at hr
  rw [ok_of_good hg] at hr
  have HR := Lib.hid hr
  have EB := Lib.hid (EvAt.new w (evCells ⟨3, ⟨#[]⟩, [], n, 0, ⟨#[]⟩, 0, false, 0, 0, 0, 0, []⟩ bv cv) rfl 36)
  have HP := Lib.hid (fun w' (hb : Below w.heap.size w w') => hp.below hb)
  have HE := Lib.hid hE
  have hs8 := hE.size
  have hi := not_long hn
  clear hr hp hE hg
  have HQ : Hid (evWords ⟨3, ⟨#[]⟩, [], n, 0, ⟨#[]⟩, 0, false, 0, 0, 0, 0, []⟩ = [kwTick, istr n]) := by unfold Hid; simp [evWords]
  unfold lineW
  rw [HQ.out] at hpz ⊢
  have HPZ := Lib.hid hpz
  clear hpz
  unfold Ev.val evCells
  unfold evCells at EB
  simp only at EB ⊢
  go_enter Tryz.func15, Tryz.ntmps15
  go_wp2_with (refine ev_load rfl _ rfl _ rfl _ EB.out ?_)
  refine (HR.out _ (one_below _ _)).mono ?_
  rintro e w1 ⟨rfl, hb1⟩
  have HB1 := Lib.hid (below_then (one_below w _) hb1)
  have EB1 := Lib.hid (EB.out.below hb1)
  have e0 := EB1.out.facts.1
  have hix : ∀ wx, (Instr.index 67 (.agg #[.string ⟨#[]⟩, .string ⟨#[116, 101, 120, 116]⟩, .string ⟨#[98, 105, 110, 97, 114, 121]⟩, .string ⟨#[116, 105, 99, 107]⟩, .string ⟨#[115, 116, 97, 116, 105, 111, 110]⟩, .string ⟨#[99, 114, 97, 115, 104]⟩, .string ⟨#[114, 101, 112, 101, 97, 116]⟩]) (.int .i64 3)).run Tryz.prog wx = .ok (.string kwTick) wx := fun _ => by kernel_rfl
  clear hb1
  go_upto_region 6 with fail
  clear hix e0
  have hslot : (w1.alloc (.cells #[.string kwTick] 9)).heap.size = w1.heap.size + 1 := by simp
  obtain ⟨v2, hv2⟩ : ∃ v2, v2 = (w1.alloc (.cells #[.string kwTick] 9)).alloc (.cells #[.slice (some ⟨w1.heap.size, 0, none⟩) 1 1] 29) := ⟨_, rfl⟩
  rw [← hv2]
  have HW2 : Hid (WordsAt v2 (w1.heap.size + 1) w1.heap.size (.slice (some ⟨w1.heap.size, 0, none⟩) 1 1) [kwTick]) := by rw [hv2]; exact WordsAt.first w1 _
  have hb2 : Below w1.heap.size w1 v2 := by rw [hv2]; exact ((Below.refl _ _).alloc (Nat.le_refl _) _).alloc (by simp) _
  have HS2 : Hid (v2.heap.size = w1.heap.size + 1 + 1) := by unfold Hid; rw [hv2]; simp
  have HB2 := Lib.hid (below_then HB1.out hb2)
  have EB2 := Lib.hid (EB1.out.below hb2)
  have Hlt : Hid (w.heap.size < w1.heap.size) := EB1.out.lt
  clear hv2 hb2 hslot
  obtain ⟨b, hb⟩ : ∃ b, b = w1.heap.size + 1 := ⟨_, rfl⟩
  rw [← hb]
  rw [← hb] at HW2
  have HBb := Lib.hid hb
  clear hb EB EB1 HR
  obtain ⟨H, hH⟩ : ∃ H, H = w1.heap.size := ⟨_, rfl⟩
  rw [← hH] at HW2 HS2 HBb Hlt ⊢
  clear hH
  have e0 := EB2.out.facts.1
  have e3 := EB2.out.facts.2.2.2.1
  have hsz := HS2.out
  go_wp2_with fail
  clear e0 e3
  have hpa := padd_any b H _ [kwTick] (.slice (some ⟨H + 1 + 1, 0, none⟩) 1 1) [n] (v2.alloc (.cells #[.int .i64 n] 3)) (HW2.out.below ((Below.refl _ _).alloc (Nat.le_refl _) _)) (IntsT.at v2 (H + 1 + 1) hsz [n]) (by simp; exact hi) (HE.out.below (HB2.out.alloc HB2.out.size _) hs8) (by have := Hlt.out; omega) (by simp; omega) (by have := HBb.out; omega) (by simp) (by simp)
  refine hpa.mono ?_
  rintro e w5 ⟨rfl, ⟨v5, hw5⟩, hf5⟩
  have HW5 := Lib.hid hw5
  have HB5 : Hid (Below w.heap.size w w5) := (HB2.out.alloc HB2.out.size _).trans (hf5.1.mono (by have := Hlt.out; omega))
  clear hpa hw5 hf5 hsz
  have HW5 : Hid (WordsAt w5 b H v5 [kwTick, istr n]) := HW5.out
  obtain ⟨ja, jc, rfl⟩ := HW5.out.slice
  have hvc : w5.cell? ⟨b, 0, none⟩ = some (.slice ja 2 jc) := HW5.out.var.1
  go_wp2_with fail
  refine (pjoin_any HW5.out (by simp) (by have := HPZ.out.2; omega) HPZ.out.1).mono ?_
  rintro e w9 ⟨rfl, hb9⟩
  have HB9 := Lib.hid (below_then HB5.out hb9)
  clear hb9 hvc
  obtain ⟨sx, hsx⟩ : ∃ sx, sx = joinB 32 [kwTick, istr n] := ⟨_, rfl⟩
  rw [← hsx]
  have Hsx := Lib.hid hsx
  clear hsx
  go_wp2_with fail
  go_ret2
  exact ⟨by rw [← Hsx.out]; rfl, HB9.out⟩

set_option maxHeartbeats 8000000 in
set_option maxRecDepth 100000 in
theorem pwrite_crash (n : Int) (hn : ¬ longI n) (bv cv : Value) (w : World) (hp : EvParts 0 w ⟨5, ⟨#[]⟩, [], n, 0, ⟨#[]⟩, 0, false, 0, 0, 0, 0, []⟩ bv cv) (hE : Env w) :
    Calls Tryz.prog 15 #[Ev.val ⟨5, ⟨#[]⟩, [], n, 0, ⟨#[]⟩, 0, false, 0, 0, 0, 0, []⟩ bv cv] w (PLineIs (lineW ⟨5, ⟨#[]⟩, [], n, 0, ⟨#[]⟩, 0, false, 0, 0, 0, 0, []⟩) w) := by
  have hg : Good ⟨5, ⟨#[]⟩, [], n, 0, ⟨#[]⟩, 0, false, 0, 0, 0, 0, []⟩ := .crash n hn
  have hpz := pl_size hg ⟨by simp [ByteArray.size], by simp, by simp [ByteArray.size], by simp⟩
  have hr := fun w' (hb : Below w.heap.size w w') => check_any ⟨5, ⟨#[]⟩, [], n, 0, ⟨#[]⟩, 0, false, 0, 0, 0, 0, []⟩ bv cv w' (hE.below hb hE.size) (hp.below hb)
  unfold CheckIs at hr
  rw [ok_of_good hg] at hr
  have HR := Lib.hid hr
  have EB := Lib.hid (EvAt.new w (evCells ⟨5, ⟨#[]⟩, [], n, 0, ⟨#[]⟩, 0, false, 0, 0, 0, 0, []⟩ bv cv) rfl 36)
  have HP := Lib.hid (fun w' (hb : Below w.heap.size w w') => hp.below hb)
  have HE := Lib.hid hE
  have hs8 := hE.size
  have hi := not_long hn
  clear hr hp hE hg
  have HQ : Hid (evWords ⟨5, ⟨#[]⟩, [], n, 0, ⟨#[]⟩, 0, false, 0, 0, 0, 0, []⟩ = [kwCrash, istr n]) := by unfold Hid; simp [evWords]
  unfold lineW
  rw [HQ.out] at hpz ⊢
  have HPZ := Lib.hid hpz
  clear hpz
  unfold Ev.val evCells
  unfold evCells at EB
  simp only at EB ⊢
  go_enter Tryz.func15, Tryz.ntmps15
  go_wp2_with (refine ev_load rfl _ rfl _ rfl _ EB.out ?_)
  refine (HR.out _ (one_below _ _)).mono ?_
  rintro e w1 ⟨rfl, hb1⟩
  have HB1 := Lib.hid (below_then (one_below w _) hb1)
  have EB1 := Lib.hid (EB.out.below hb1)
  have e0 := EB1.out.facts.1
  have hix : ∀ wx, (Instr.index 67 (.agg #[.string ⟨#[]⟩, .string ⟨#[116, 101, 120, 116]⟩, .string ⟨#[98, 105, 110, 97, 114, 121]⟩, .string ⟨#[116, 105, 99, 107]⟩, .string ⟨#[115, 116, 97, 116, 105, 111, 110]⟩, .string ⟨#[99, 114, 97, 115, 104]⟩, .string ⟨#[114, 101, 112, 101, 97, 116]⟩]) (.int .i64 5)).run Tryz.prog wx = .ok (.string kwCrash) wx := fun _ => by kernel_rfl
  clear hb1
  go_upto_region 6 with fail
  clear hix e0
  have hslot : (w1.alloc (.cells #[.string kwCrash] 9)).heap.size = w1.heap.size + 1 := by simp
  obtain ⟨v2, hv2⟩ : ∃ v2, v2 = (w1.alloc (.cells #[.string kwCrash] 9)).alloc (.cells #[.slice (some ⟨w1.heap.size, 0, none⟩) 1 1] 29) := ⟨_, rfl⟩
  rw [← hv2]
  have HW2 : Hid (WordsAt v2 (w1.heap.size + 1) w1.heap.size (.slice (some ⟨w1.heap.size, 0, none⟩) 1 1) [kwCrash]) := by rw [hv2]; exact WordsAt.first w1 _
  have hb2 : Below w1.heap.size w1 v2 := by rw [hv2]; exact ((Below.refl _ _).alloc (Nat.le_refl _) _).alloc (by simp) _
  have HS2 : Hid (v2.heap.size = w1.heap.size + 1 + 1) := by unfold Hid; rw [hv2]; simp
  have HB2 := Lib.hid (below_then HB1.out hb2)
  have EB2 := Lib.hid (EB1.out.below hb2)
  have Hlt : Hid (w.heap.size < w1.heap.size) := EB1.out.lt
  clear hv2 hb2 hslot
  obtain ⟨b, hb⟩ : ∃ b, b = w1.heap.size + 1 := ⟨_, rfl⟩
  rw [← hb]
  rw [← hb] at HW2
  have HBb := Lib.hid hb
  clear hb EB EB1 HR
  obtain ⟨H, hH⟩ : ∃ H, H = w1.heap.size := ⟨_, rfl⟩
  rw [← hH] at HW2 HS2 HBb Hlt ⊢
  clear hH
  have e0 := EB2.out.facts.1
  have e3 := EB2.out.facts.2.2.2.1
  have hsz := HS2.out
  go_wp2_with fail
  clear e0 e3
  have hpa := padd_any b H _ [kwCrash] (.slice (some ⟨H + 1 + 1, 0, none⟩) 1 1) [n] (v2.alloc (.cells #[.int .i64 n] 3)) (HW2.out.below ((Below.refl _ _).alloc (Nat.le_refl _) _)) (IntsT.at v2 (H + 1 + 1) hsz [n]) (by simp; exact hi) (HE.out.below (HB2.out.alloc HB2.out.size _) hs8) (by have := Hlt.out; omega) (by simp; omega) (by have := HBb.out; omega) (by simp) (by simp)
  refine hpa.mono ?_
  rintro e w5 ⟨rfl, ⟨v5, hw5⟩, hf5⟩
  have HW5 := Lib.hid hw5
  have HB5 : Hid (Below w.heap.size w w5) := (HB2.out.alloc HB2.out.size _).trans (hf5.1.mono (by have := Hlt.out; omega))
  clear hpa hw5 hf5 hsz
  have HW5 : Hid (WordsAt w5 b H v5 [kwCrash, istr n]) := HW5.out
  obtain ⟨ja, jc, rfl⟩ := HW5.out.slice
  have hvc : w5.cell? ⟨b, 0, none⟩ = some (.slice ja 2 jc) := HW5.out.var.1
  go_wp2_with fail
  refine (pjoin_any HW5.out (by simp) (by have := HPZ.out.2; omega) HPZ.out.1).mono ?_
  rintro e w9 ⟨rfl, hb9⟩
  have HB9 := Lib.hid (below_then HB5.out hb9)
  clear hb9 hvc
  obtain ⟨sx, hsx⟩ : ∃ sx, sx = joinB 32 [kwCrash, istr n] := ⟨_, rfl⟩
  rw [← hsx]
  have Hsx := Lib.hid hsx
  clear hsx
  go_wp2_with fail
  go_ret2
  exact ⟨by rw [← Hsx.out]; rfl, HB9.out⟩

set_option maxHeartbeats 8000000 in
set_option maxRecDepth 100000 in
theorem pwrite_again  (bv cv : Value) (w : World) (hp : EvParts 0 w ⟨6, ⟨#[]⟩, [], 0, 0, ⟨#[]⟩, 0, false, 0, 0, 0, 0, []⟩ bv cv) (hE : Env w) :
    Calls Tryz.prog 15 #[Ev.val ⟨6, ⟨#[]⟩, [], 0, 0, ⟨#[]⟩, 0, false, 0, 0, 0, 0, []⟩ bv cv] w (PLineIs (lineW ⟨6, ⟨#[]⟩, [], 0, 0, ⟨#[]⟩, 0, false, 0, 0, 0, 0, []⟩) w) := by
  have hg : Good ⟨6, ⟨#[]⟩, [], 0, 0, ⟨#[]⟩, 0, false, 0, 0, 0, 0, []⟩ := .again
  have hpz := pl_size hg ⟨by simp [ByteArray.size], by simp, by simp [ByteArray.size], by simp⟩
  have hr := fun w' (hb : Below w.heap.size w w') => check_any ⟨6, ⟨#[]⟩, [], 0, 0, ⟨#[]⟩, 0, false, 0, 0, 0, 0, []⟩ bv cv w' (hE.below hb hE.size) (hp.below hb)
  unfold CheckIs at hr
  rw [ok_of_good hg] at hr
  have HR := Lib.hid hr
  have EB := Lib.hid (EvAt.new w (evCells ⟨6, ⟨#[]⟩, [], 0, 0, ⟨#[]⟩, 0, false, 0, 0, 0, 0, []⟩ bv cv) rfl 36)
  have HP := Lib.hid (fun w' (hb : Below w.heap.size w w') => hp.below hb)
  have HE := Lib.hid hE
  have hs8 := hE.size
  clear hr hp hE hg
  have HQ : Hid (evWords ⟨6, ⟨#[]⟩, [], 0, 0, ⟨#[]⟩, 0, false, 0, 0, 0, 0, []⟩ = [kwRepeat]) := by unfold Hid; simp [evWords]
  unfold lineW
  rw [HQ.out] at hpz ⊢
  have HPZ := Lib.hid hpz
  clear hpz
  unfold Ev.val evCells
  unfold evCells at EB
  simp only at EB ⊢
  go_enter Tryz.func15, Tryz.ntmps15
  go_wp2_with (refine ev_load rfl _ rfl _ rfl _ EB.out ?_)
  refine (HR.out _ (one_below _ _)).mono ?_
  rintro e w1 ⟨rfl, hb1⟩
  have HB1 := Lib.hid (below_then (one_below w _) hb1)
  have EB1 := Lib.hid (EB.out.below hb1)
  have e0 := EB1.out.facts.1
  have hix : ∀ wx, (Instr.index 67 (.agg #[.string ⟨#[]⟩, .string ⟨#[116, 101, 120, 116]⟩, .string ⟨#[98, 105, 110, 97, 114, 121]⟩, .string ⟨#[116, 105, 99, 107]⟩, .string ⟨#[115, 116, 97, 116, 105, 111, 110]⟩, .string ⟨#[99, 114, 97, 115, 104]⟩, .string ⟨#[114, 101, 112, 101, 97, 116]⟩]) (.int .i64 6)).run Tryz.prog wx = .ok (.string kwRepeat) wx := fun _ => by kernel_rfl
  clear hb1
  go_upto_region 6 with fail
  clear hix e0
  have hslot : (w1.alloc (.cells #[.string kwRepeat] 9)).heap.size = w1.heap.size + 1 := by simp
  obtain ⟨v2, hv2⟩ : ∃ v2, v2 = (w1.alloc (.cells #[.string kwRepeat] 9)).alloc (.cells #[.slice (some ⟨w1.heap.size, 0, none⟩) 1 1] 29) := ⟨_, rfl⟩
  rw [← hv2]
  have HW2 : Hid (WordsAt v2 (w1.heap.size + 1) w1.heap.size (.slice (some ⟨w1.heap.size, 0, none⟩) 1 1) [kwRepeat]) := by rw [hv2]; exact WordsAt.first w1 _
  have hb2 : Below w1.heap.size w1 v2 := by rw [hv2]; exact ((Below.refl _ _).alloc (Nat.le_refl _) _).alloc (by simp) _
  have HS2 : Hid (v2.heap.size = w1.heap.size + 1 + 1) := by unfold Hid; rw [hv2]; simp
  have HB2 := Lib.hid (below_then HB1.out hb2)
  have EB2 := Lib.hid (EB1.out.below hb2)
  have Hlt : Hid (w.heap.size < w1.heap.size) := EB1.out.lt
  clear hv2 hb2 hslot
  obtain ⟨b, hb⟩ : ∃ b, b = w1.heap.size + 1 := ⟨_, rfl⟩
  rw [← hb]
  rw [← hb] at HW2
  have HBb := Lib.hid hb
  clear hb EB EB1 HR
  obtain ⟨H, hH⟩ : ∃ H, H = w1.heap.size := ⟨_, rfl⟩
  rw [← hH] at HW2 HS2 HBb Hlt ⊢
  clear hH
  have e0 := EB2.out.facts.1
  have hvc := HW2.out.var.1
  go_wp2_with fail
  refine (pjoin_any HW2.out (by simp) (by have := HPZ.out.2; omega) HPZ.out.1).mono ?_
  rintro e w9 ⟨rfl, hb9⟩
  have HB9 := Lib.hid (below_then HB2.out hb9)
  clear hb9 hvc e0
  obtain ⟨sx, hsx⟩ : ∃ sx, sx = joinB 32 [kwRepeat] := ⟨_, rfl⟩
  rw [← hsx]
  have Hsx := Lib.hid hsx
  clear hsx
  go_wp2_with fail
  go_ret2
  exact ⟨by rw [← Hsx.out]; rfl, HB9.out⟩

set_option maxHeartbeats 8000000 in
set_option maxRecDepth 100000 in
theorem pwrite_text (t : ByteArray) (bv cv : Value) (w : World) (hp : EvParts 0 w ⟨1, t, [], 0, 0, ⟨#[]⟩, 0, false, 0, 0, 0, 0, []⟩ bv cv) (hE : Env w) :
    Calls Tryz.prog 15 #[Ev.val ⟨1, t, [], 0, 0, ⟨#[]⟩, 0, false, 0, 0, 0, 0, []⟩ bv cv] w (PLineIs (lineW ⟨1, t, [], 0, 0, ⟨#[]⟩, 0, false, 0, 0, 0, 0, []⟩) w) := by
  have hg : Good ⟨1, t, [], 0, 0, ⟨#[]⟩, 0, false, 0, 0, 0, 0, []⟩ := .text t
  have hpz := pl_size hg ⟨by exact hp.ok.text, by simp, by simp [ByteArray.size], by simp⟩
  have hr := fun w' (hb : Below w.heap.size w w') => check_any ⟨1, t, [], 0, 0, ⟨#[]⟩, 0, false, 0, 0, 0, 0, []⟩ bv cv w' (hE.below hb hE.size) (hp.below hb)
  unfold CheckIs at hr
  rw [ok_of_good hg] at hr
  have HR := Lib.hid hr
  have EB := Lib.hid (EvAt.new w (evCells ⟨1, t, [], 0, 0, ⟨#[]⟩, 0, false, 0, 0, 0, 0, []⟩ bv cv) rfl 36)
  have HP := Lib.hid (fun w' (hb : Below w.heap.size w w') => hp.below hb)
  have HE := Lib.hid hE
  have hs8 := hE.size
  have hts : t.size ≤ 1000000 := hp.ok.text
  clear hr hp hE hg
  have HQ : Hid (evWords ⟨1, t, [], 0, 0, ⟨#[]⟩, 0, false, 0, 0, 0, 0, []⟩ = [kwText, hexS t.data.toList]) := by unfold Hid; simp [evWords]
  unfold lineW
  rw [HQ.out] at hpz ⊢
  have HPZ := Lib.hid hpz
  clear hpz
  unfold Ev.val evCells
  unfold evCells at EB
  simp only at EB ⊢
  go_enter Tryz.func15, Tryz.ntmps15
  go_wp2_with (refine ev_load rfl _ rfl _ rfl _ EB.out ?_)
  refine (HR.out _ (one_below _ _)).mono ?_
  rintro e w1 ⟨rfl, hb1⟩
  have HB1 := Lib.hid (below_then (one_below w _) hb1)
  have EB1 := Lib.hid (EB.out.below hb1)
  have e0 := EB1.out.facts.1
  have hix : ∀ wx, (Instr.index 67 (.agg #[.string ⟨#[]⟩, .string ⟨#[116, 101, 120, 116]⟩, .string ⟨#[98, 105, 110, 97, 114, 121]⟩, .string ⟨#[116, 105, 99, 107]⟩, .string ⟨#[115, 116, 97, 116, 105, 111, 110]⟩, .string ⟨#[99, 114, 97, 115, 104]⟩, .string ⟨#[114, 101, 112, 101, 97, 116]⟩]) (.int .i64 1)).run Tryz.prog wx = .ok (.string kwText) wx := fun _ => by kernel_rfl
  clear hb1
  go_upto_region 6 with fail
  clear hix e0
  have hslot : (w1.alloc (.cells #[.string kwText] 9)).heap.size = w1.heap.size + 1 := by simp
  obtain ⟨v2, hv2⟩ : ∃ v2, v2 = (w1.alloc (.cells #[.string kwText] 9)).alloc (.cells #[.slice (some ⟨w1.heap.size, 0, none⟩) 1 1] 29) := ⟨_, rfl⟩
  rw [← hv2]
  have HW2 : Hid (WordsAt v2 (w1.heap.size + 1) w1.heap.size (.slice (some ⟨w1.heap.size, 0, none⟩) 1 1) [kwText]) := by rw [hv2]; exact WordsAt.first w1 _
  have hb2 : Below w1.heap.size w1 v2 := by rw [hv2]; exact ((Below.refl _ _).alloc (Nat.le_refl _) _).alloc (by simp) _
  have HS2 : Hid (v2.heap.size = w1.heap.size + 1 + 1) := by unfold Hid; rw [hv2]; simp
  have HB2 := Lib.hid (below_then HB1.out hb2)
  have EB2 := Lib.hid (EB1.out.below hb2)
  have Hlt : Hid (w.heap.size < w1.heap.size) := EB1.out.lt
  clear hv2 hb2 hslot
  obtain ⟨b, hb⟩ : ∃ b, b = w1.heap.size + 1 := ⟨_, rfl⟩
  rw [← hb]
  rw [← hb] at HW2
  have HBb := Lib.hid hb
  clear hb EB EB1 HR
  obtain ⟨H, hH⟩ : ∃ H, H = w1.heap.size := ⟨_, rfl⟩
  rw [← hH] at HW2 HS2 HBb Hlt ⊢
  clear hH
  have e0 := EB2.out.facts.1
  have hv0 : v2.drew.cell? ⟨b, 0, none⟩ = some (.slice (some ⟨H, 0, none⟩) 1 1) := HW2.out.var.1
  obtain ⟨wc, cap, hcv, hbc, hin⟩ := pconv_in v2.drew t hts
  have Hin := Lib.hid hin
  have HWc : Hid (WordsAt wc b H (.slice (some ⟨H, 0, none⟩) 1 1) [kwText]) := (HW2.out.below (Below.refl v2.heap.size v2).drew).below hbc
  have HBc := Lib.hid (below_then HB2.out.drew hbc)
  have HSb : Hid (H ≤ v2.drew.heap.size) := by have := HS2.out; unfold Hid; show H ≤ v2.heap.size; omega
  have HSc := Lib.hid (Nat.le_trans HSb.out hbc.size)
  clear hin
  go_wp2_with fail
  refine wp_region_held_drew (S := (fun wx => EvAt wx w.heap.size [.int .i64 1, .string t, bv, .int .i64 0, .int .i64 0, .string ⟨#[]⟩, .int .i64 0, .bool false, .int .i64 0, .int .i64 0, .int .i64 0, .int .i64 0, cv])) (by kernel_rfl) EB2.out.drew (fun hHeld => ?_)
  refine wpAnyH_takeD (i := 1) (d := some 26) (v := .pointer (some ⟨w.heap.size, 1, none⟩)) rfl rfl (by kernel_rfl) (by kernel_rfl) (by kernel_rfl) (fun _ _ _ h => h) (Or.inl ⟨by rfl, fun _ _ => by rfl⟩) (by assumption) ?_
  simp only [Act.put, List.setIfInBounds_toArray, List.set_cons_zero, List.set_cons_succ]
  refine wpAnyH_takeD (i := 2) (d := some 27) (v := .string t) rfl rfl (by kernel_rfl) (by kernel_rfl) (by kernel_rfl) (fun _ _ _ h => h) (Or.inl ⟨by rfl, fun wx hx => by (have q := (EvAt.facts hx).2.1; go_simp)⟩) (by assumption) ?_
  simp only [Act.put, List.setIfInBounds_toArray, List.set_cons_zero, List.set_cons_succ]
  refine wpAnyH_ready (rs := [0, 3]) (by kernel_rfl) (by simp) ?_
  refine AllReadyH.cons rfl (fun K hK => ?_) (AllReadyH.cons rfl (fun K hK => ?_) AllReadyH.nil)
  · rw [if_pos (by rfl)]
    go_simp
    refine hK.out _ _ (hHeld) (fun hHeld => ?_)
    clear hK K
    refine wpAnyH_ready (rs := [3]) (by kernel_rfl) (by simp) ?_
    refine AllReadyH.cons rfl (fun K hK => ?_) AllReadyH.nil
    rw [if_pos (by rfl)]
    go_simp
    refine hK.out _ _ (EvAt.below hHeld hbc) (fun hHeld => ?_)
    clear hK K
    clear hcv
    have hvb := HWc.out.var.1
    refine wpAnyH_ready (rs := [4]) (by kernel_rfl) (by simp) ?_
    refine AllReadyH.cons rfl (fun K hK => ?_) AllReadyH.nil
    rw [if_pos (by rfl)]
    go_simp
    refine (hexadecimal_any _ _ _ Hin.out).mono ?_
    rintro e w4 ⟨rfl, hb4⟩
    refine hK.out _ _ (EvAt.below hHeld hb4) (fun hHeld => ?_)
    clear hK K
    have HW4 := Lib.hid (HWc.out.below hb4)
    have HB4 := Lib.hid (below_then HBc.out hb4)
    have HSd := Lib.hid (Nat.le_trans HSc.out hb4.size)
    have hE4 := hHeld
    have hvd := HW4.out.var.1
    obtain ⟨v', w', hrun, hc1, hs1, hw1, hf1, ⟨oa2, om2, oc2, rfl⟩, hf0⟩ := HW4.out.more [hexS t.data.toList] (by simp) (by simp) HSd.out (by have := HBb.out; omega) 29
    have Hrun := Lib.hid hrun
    have HWn := Lib.hid hw1
    have HFn := Lib.hid hf1
    have HF0 := Lib.hid hf0
    clear hrun hw1 hf1 hf0
    clear hb4
    refine wpAnyH_ready (rs := [5]) (by kernel_rfl) (by simp) ?_
    refine AllReadyH.cons rfl (fun K hK => ?_) AllReadyH.nil
    rw [if_pos (by rfl)]
    go_simp
    refine hK.out _ _ (EvAt.alloc hHeld _) (fun hHeld => ?_)
    clear hK K
    have hva := cell_then ((Below.refl w4.heap.size w4).alloc (Nat.le_refl _) (.cells #[.string (hexS t.data.toList)] 9)) HW4.out.var.1
    refine wpAnyH_ready (rs := [6]) (by kernel_rfl) (by simp) ?_
    refine AllReadyH.cons rfl (fun K hK => ?_) AllReadyH.nil
    refine step_append_run rfl _ _ _ rfl _ _ _ _ rfl rfl Hrun.out ?_
    refine hK.out _ _ (EvAt.of_block hE4 (HF0.out.1.block _ Hlt.out)) (fun hHeld => ?_)
    clear hK K
    simp only [Act.put, List.setIfInBounds_toArray, List.set_cons_zero, List.set_cons_succ]
    refine wpAnyH_ready (rs := [7]) (by kernel_rfl) (by simp) ?_
    refine AllReadyH.cons rfl (fun K hK => ?_) AllReadyH.nil
    rw [if_pos (by rfl)]
    go_simp
    refine hK.out _ _ (EvAt.other hHeld (by have := HBb.out; have := Hlt.out; simp; omega) _) (fun hHeld => ?_)
    clear hK K
    clear hc1 hs1
    refine wpAnyH_done (by kernel_rfl) ?_ _
    obtain ⟨v8, hv8⟩ : ∃ v8, v8 = w'.setCell ⟨b, 0, none⟩ (.slice oa2 om2 oc2) := ⟨_, rfl⟩
    rw [← hv8]
    rw [← hv8] at HWn HFn
    have HB8 : Hid (Below w.heap.size w v8) := HB4.out.trans (HFn.out.1.mono (Nat.le_of_lt Hlt.out))
    have HW8 : Hid (WordsAt v8 b H (.slice oa2 om2 oc2) [kwText, hexS t.data.toList]) := HWn.out
    clear hv8 HWn HFn hHeld
    have hvc : v8.cell? ⟨b, 0, none⟩ = some (.slice oa2 om2 oc2) := HW8.out.var.1
    go_wp2_with fail
    refine (pjoin_any HW8.out (by simp) (by have := HPZ.out.2; omega) HPZ.out.1).mono ?_
    rintro e w9 ⟨rfl, hb9⟩
    have HB9 := Lib.hid (below_then HB8.out hb9)
    clear hb9 hvc
    obtain ⟨sx, hsx⟩ : ∃ sx, sx = joinB 32 [kwText, hexS t.data.toList] := ⟨_, rfl⟩
    rw [← hsx]
    have Hsx := Lib.hid hsx
    clear hsx
    go_wp2_with fail
    go_ret2
    exact ⟨by rw [← Hsx.out]; rfl, HB9.out⟩
  · rw [if_pos (by rfl)]
    go_simp
    refine hK.out _ _ (EvAt.below hHeld hbc) (fun hHeld => ?_)
    clear hK K
    clear hcv
    have hvb := HWc.out.var.1
    refine wpAnyH_ready (rs := [0, 4]) (by kernel_rfl) (by simp) ?_
    refine AllReadyH.cons rfl (fun K hK => ?_) (AllReadyH.cons rfl (fun K hK => ?_) AllReadyH.nil)
    · rw [if_pos (by rfl)]
      go_simp
      refine hK.out _ _ (hHeld) (fun hHeld => ?_)
      clear hK K
      refine wpAnyH_ready (rs := [4]) (by kernel_rfl) (by simp) ?_
      refine AllReadyH.cons rfl (fun K hK => ?_) AllReadyH.nil
      rw [if_pos (by rfl)]
      go_simp
      refine (hexadecimal_any _ _ _ Hin.out).mono ?_
      rintro e w4 ⟨rfl, hb4⟩
      refine hK.out _ _ (EvAt.below hHeld hb4) (fun hHeld => ?_)
      clear hK K
      have HW4 := Lib.hid (HWc.out.below hb4)
      have HB4 := Lib.hid (below_then HBc.out hb4)
      have HSd := Lib.hid (Nat.le_trans HSc.out hb4.size)
      have hE4 := hHeld
      have hvd := HW4.out.var.1
      obtain ⟨v', w', hrun, hc1, hs1, hw1, hf1, ⟨oa2, om2, oc2, rfl⟩, hf0⟩ := HW4.out.more [hexS t.data.toList] (by simp) (by simp) HSd.out (by have := HBb.out; omega) 29
      have Hrun := Lib.hid hrun
      have HWn := Lib.hid hw1
      have HFn := Lib.hid hf1
      have HF0 := Lib.hid hf0
      clear hrun hw1 hf1 hf0
      clear hb4
      refine wpAnyH_ready (rs := [5]) (by kernel_rfl) (by simp) ?_
      refine AllReadyH.cons rfl (fun K hK => ?_) AllReadyH.nil
      rw [if_pos (by rfl)]
      go_simp
      refine hK.out _ _ (EvAt.alloc hHeld _) (fun hHeld => ?_)
      clear hK K
      have hva := cell_then ((Below.refl w4.heap.size w4).alloc (Nat.le_refl _) (.cells #[.string (hexS t.data.toList)] 9)) HW4.out.var.1
      refine wpAnyH_ready (rs := [6]) (by kernel_rfl) (by simp) ?_
      refine AllReadyH.cons rfl (fun K hK => ?_) AllReadyH.nil
      refine step_append_run rfl _ _ _ rfl _ _ _ _ rfl rfl Hrun.out ?_
      refine hK.out _ _ (EvAt.of_block hE4 (HF0.out.1.block _ Hlt.out)) (fun hHeld => ?_)
      clear hK K
      simp only [Act.put, List.setIfInBounds_toArray, List.set_cons_zero, List.set_cons_succ]
      refine wpAnyH_ready (rs := [7]) (by kernel_rfl) (by simp) ?_
      refine AllReadyH.cons rfl (fun K hK => ?_) AllReadyH.nil
      rw [if_pos (by rfl)]
      go_simp
      refine hK.out _ _ (EvAt.other hHeld (by have := HBb.out; have := Hlt.out; simp; omega) _) (fun hHeld => ?_)
      clear hK K
      clear hc1 hs1
      refine wpAnyH_done (by kernel_rfl) ?_ _
      obtain ⟨v8, hv8⟩ : ∃ v8, v8 = w'.setCell ⟨b, 0, none⟩ (.slice oa2 om2 oc2) := ⟨_, rfl⟩
      rw [← hv8]
      rw [← hv8] at HWn HFn
      have HB8 : Hid (Below w.heap.size w v8) := HB4.out.trans (HFn.out.1.mono (Nat.le_of_lt Hlt.out))
      have HW8 : Hid (WordsAt v8 b H (.slice oa2 om2 oc2) [kwText, hexS t.data.toList]) := HWn.out
      clear hv8 HWn HFn hHeld
      have hvc : v8.cell? ⟨b, 0, none⟩ = some (.slice oa2 om2 oc2) := HW8.out.var.1
      go_wp2_with fail
      refine (pjoin_any HW8.out (by simp) (by have := HPZ.out.2; omega) HPZ.out.1).mono ?_
      rintro e w9 ⟨rfl, hb9⟩
      have HB9 := Lib.hid (below_then HB8.out hb9)
      clear hb9 hvc
      obtain ⟨sx, hsx⟩ : ∃ sx, sx = joinB 32 [kwText, hexS t.data.toList] := ⟨_, rfl⟩
      rw [← hsx]
      have Hsx := Lib.hid hsx
      clear hsx
      go_wp2_with fail
      go_ret2
      exact ⟨by rw [← Hsx.out]; rfl, HB9.out⟩
    · rw [if_pos (by rfl)]
      go_simp
      refine (hexadecimal_any _ _ _ Hin.out).mono ?_
      rintro e w4 ⟨rfl, hb4⟩
      refine hK.out _ _ (EvAt.below hHeld hb4) (fun hHeld => ?_)
      clear hK K
      have HW4 := Lib.hid (HWc.out.below hb4)
      have HB4 := Lib.hid (below_then HBc.out hb4)
      have HSd := Lib.hid (Nat.le_trans HSc.out hb4.size)
      have hE4 := hHeld
      have hvd := HW4.out.var.1
      obtain ⟨v', w', hrun, hc1, hs1, hw1, hf1, ⟨oa2, om2, oc2, rfl⟩, hf0⟩ := HW4.out.more [hexS t.data.toList] (by simp) (by simp) HSd.out (by have := HBb.out; omega) 29
      have Hrun := Lib.hid hrun
      have HWn := Lib.hid hw1
      have HFn := Lib.hid hf1
      have HF0 := Lib.hid hf0
      clear hrun hw1 hf1 hf0
      clear hb4
      refine wpAnyH_ready (rs := [0, 5]) (by kernel_rfl) (by simp) ?_
      refine AllReadyH.cons rfl (fun K hK => ?_) (AllReadyH.cons rfl (fun K hK => ?_) AllReadyH.nil)
      · rw [if_pos (by rfl)]
        go_simp
        refine hK.out _ _ (hHeld) (fun hHeld => ?_)
        clear hK K
        refine wpAnyH_ready (rs := [5]) (by kernel_rfl) (by simp) ?_
        refine AllReadyH.cons rfl (fun K hK => ?_) AllReadyH.nil
        rw [if_pos (by rfl)]
        go_simp
        refine hK.out _ _ (EvAt.alloc hHeld _) (fun hHeld => ?_)
        clear hK K
        have hva := cell_then ((Below.refl w4.heap.size w4).alloc (Nat.le_refl _) (.cells #[.string (hexS t.data.toList)] 9)) HW4.out.var.1
        refine wpAnyH_ready (rs := [6]) (by kernel_rfl) (by simp) ?_
        refine AllReadyH.cons rfl (fun K hK => ?_) AllReadyH.nil
        refine step_append_run rfl _ _ _ rfl _ _ _ _ rfl rfl Hrun.out ?_
        refine hK.out _ _ (EvAt.of_block hE4 (HF0.out.1.block _ Hlt.out)) (fun hHeld => ?_)
        clear hK K
        simp only [Act.put, List.setIfInBounds_toArray, List.set_cons_zero, List.set_cons_succ]
        refine wpAnyH_ready (rs := [7]) (by kernel_rfl) (by simp) ?_
        refine AllReadyH.cons rfl (fun K hK => ?_) AllReadyH.nil
        rw [if_pos (by rfl)]
        go_simp
        refine hK.out _ _ (EvAt.other hHeld (by have := HBb.out; have := Hlt.out; simp; omega) _) (fun hHeld => ?_)
        clear hK K
        clear hc1 hs1
        refine wpAnyH_done (by kernel_rfl) ?_ _
        obtain ⟨v8, hv8⟩ : ∃ v8, v8 = w'.setCell ⟨b, 0, none⟩ (.slice oa2 om2 oc2) := ⟨_, rfl⟩
        rw [← hv8]
        rw [← hv8] at HWn HFn
        have HB8 : Hid (Below w.heap.size w v8) := HB4.out.trans (HFn.out.1.mono (Nat.le_of_lt Hlt.out))
        have HW8 : Hid (WordsAt v8 b H (.slice oa2 om2 oc2) [kwText, hexS t.data.toList]) := HWn.out
        clear hv8 HWn HFn hHeld
        have hvc : v8.cell? ⟨b, 0, none⟩ = some (.slice oa2 om2 oc2) := HW8.out.var.1
        go_wp2_with fail
        refine (pjoin_any HW8.out (by simp) (by have := HPZ.out.2; omega) HPZ.out.1).mono ?_
        rintro e w9 ⟨rfl, hb9⟩
        have HB9 := Lib.hid (below_then HB8.out hb9)
        clear hb9 hvc
        obtain ⟨sx, hsx⟩ : ∃ sx, sx = joinB 32 [kwText, hexS t.data.toList] := ⟨_, rfl⟩
        rw [← hsx]
        have Hsx := Lib.hid hsx
        clear hsx
        go_wp2_with fail
        go_ret2
        exact ⟨by rw [← Hsx.out]; rfl, HB9.out⟩
      · rw [if_pos (by rfl)]
        go_simp
        refine hK.out _ _ (EvAt.alloc hHeld _) (fun hHeld => ?_)
        clear hK K
        have hva := cell_then ((Below.refl w4.heap.size w4).alloc (Nat.le_refl _) (.cells #[.string (hexS t.data.toList)] 9)) HW4.out.var.1
        refine wpAnyH_ready (rs := [0]) (by kernel_rfl) (by simp) ?_
        refine AllReadyH.cons rfl (fun K hK => ?_) AllReadyH.nil
        rw [if_pos (by rfl)]
        go_simp
        refine hK.out _ _ (hHeld) (fun hHeld => ?_)
        clear hK K
        refine wpAnyH_ready (rs := [6]) (by kernel_rfl) (by simp) ?_
        refine AllReadyH.cons rfl (fun K hK => ?_) AllReadyH.nil
        refine step_append_run rfl _ _ _ rfl _ _ _ _ rfl rfl Hrun.out ?_
        refine hK.out _ _ (EvAt.of_block hE4 (HF0.out.1.block _ Hlt.out)) (fun hHeld => ?_)
        clear hK K
        simp only [Act.put, List.setIfInBounds_toArray, List.set_cons_zero, List.set_cons_succ]
        refine wpAnyH_ready (rs := [7]) (by kernel_rfl) (by simp) ?_
        refine AllReadyH.cons rfl (fun K hK => ?_) AllReadyH.nil
        rw [if_pos (by rfl)]
        go_simp
        refine hK.out _ _ (EvAt.other hHeld (by have := HBb.out; have := Hlt.out; simp; omega) _) (fun hHeld => ?_)
        clear hK K
        clear hc1 hs1
        refine wpAnyH_done (by kernel_rfl) ?_ _
        obtain ⟨v8, hv8⟩ : ∃ v8, v8 = w'.setCell ⟨b, 0, none⟩ (.slice oa2 om2 oc2) := ⟨_, rfl⟩
        rw [← hv8]
        rw [← hv8] at HWn HFn
        have HB8 : Hid (Below w.heap.size w v8) := HB4.out.trans (HFn.out.1.mono (Nat.le_of_lt Hlt.out))
        have HW8 : Hid (WordsAt v8 b H (.slice oa2 om2 oc2) [kwText, hexS t.data.toList]) := HWn.out
        clear hv8 HWn HFn hHeld
        have hvc : v8.cell? ⟨b, 0, none⟩ = some (.slice oa2 om2 oc2) := HW8.out.var.1
        go_wp2_with fail
        refine (pjoin_any HW8.out (by simp) (by have := HPZ.out.2; omega) HPZ.out.1).mono ?_
        rintro e w9 ⟨rfl, hb9⟩
        have HB9 := Lib.hid (below_then HB8.out hb9)
        clear hb9 hvc
        obtain ⟨sx, hsx⟩ : ∃ sx, sx = joinB 32 [kwText, hexS t.data.toList] := ⟨_, rfl⟩
        rw [← hsx]
        have Hsx := Lib.hid hsx
        clear hsx
        go_wp2_with fail
        go_ret2
        exact ⟨by rw [← Hsx.out]; rfl, HB9.out⟩

set_option maxHeartbeats 8000000 in
set_option maxRecDepth 100000 in
theorem pwrite_binary (l : List UInt8) (bv cv : Value) (w : World) (hp : EvParts 0 w ⟨2, ⟨#[]⟩, l, 0, 0, ⟨#[]⟩, 0, false, 0, 0, 0, 0, []⟩ bv cv) (hE : Env w) :
    Calls Tryz.prog 15 #[Ev.val ⟨2, ⟨#[]⟩, l, 0, 0, ⟨#[]⟩, 0, false, 0, 0, 0, 0, []⟩ bv cv] w (PLineIs (lineW ⟨2, ⟨#[]⟩, l, 0, 0, ⟨#[]⟩, 0, false, 0, 0, 0, 0, []⟩) w) := by
  have hg : Good ⟨2, ⟨#[]⟩, l, 0, 0, ⟨#[]⟩, 0, false, 0, 0, 0, 0, []⟩ := .binary l
  have hpz := pl_size hg ⟨by simp [ByteArray.size], by obtain ⟨_, _, _, h, _⟩ := hp.bytes; exact h, by simp [ByteArray.size], by simp⟩
  have hr := fun w' (hb : Below w.heap.size w w') => check_any ⟨2, ⟨#[]⟩, l, 0, 0, ⟨#[]⟩, 0, false, 0, 0, 0, 0, []⟩ bv cv w' (hE.below hb hE.size) (hp.below hb)
  unfold CheckIs at hr
  rw [ok_of_good hg] at hr
  have HR := Lib.hid hr
  have EB := Lib.hid (EvAt.new w (evCells ⟨2, ⟨#[]⟩, l, 0, 0, ⟨#[]⟩, 0, false, 0, 0, 0, 0, []⟩ bv cv) rfl 36)
  have HP := Lib.hid (fun w' (hb : Below w.heap.size w w') => hp.below hb)
  have HE := Lib.hid hE
  have hs8 := hE.size
  have hbl : l.length ≤ 1000000 := by obtain ⟨_, _, _, h, _⟩ := hp.bytes; exact h
  obtain ⟨ba, bc, rfl, hz1⟩ := hp.bytes
  clear hz1
  clear hr hp hE hg
  have HQ : Hid (evWords ⟨2, ⟨#[]⟩, l, 0, 0, ⟨#[]⟩, 0, false, 0, 0, 0, 0, []⟩ = [kwBinary, hexS l]) := by unfold Hid; simp [evWords]
  unfold lineW
  rw [HQ.out] at hpz ⊢
  have HPZ := Lib.hid hpz
  clear hpz
  unfold Ev.val evCells
  unfold evCells at EB
  simp only at EB ⊢
  go_enter Tryz.func15, Tryz.ntmps15
  go_wp2_with (refine ev_load rfl _ rfl _ rfl _ EB.out ?_)
  refine (HR.out _ (one_below _ _)).mono ?_
  rintro e w1 ⟨rfl, hb1⟩
  have HB1 := Lib.hid (below_then (one_below w _) hb1)
  have EB1 := Lib.hid (EB.out.below hb1)
  have e0 := EB1.out.facts.1
  have hix : ∀ wx, (Instr.index 67 (.agg #[.string ⟨#[]⟩, .string ⟨#[116, 101, 120, 116]⟩, .string ⟨#[98, 105, 110, 97, 114, 121]⟩, .string ⟨#[116, 105, 99, 107]⟩, .string ⟨#[115, 116, 97, 116, 105, 111, 110]⟩, .string ⟨#[99, 114, 97, 115, 104]⟩, .string ⟨#[114, 101, 112, 101, 97, 116]⟩]) (.int .i64 2)).run Tryz.prog wx = .ok (.string kwBinary) wx := fun _ => by kernel_rfl
  clear hb1
  go_upto_region 6 with fail
  clear hix e0
  have hslot : (w1.alloc (.cells #[.string kwBinary] 9)).heap.size = w1.heap.size + 1 := by simp
  obtain ⟨v2, hv2⟩ : ∃ v2, v2 = (w1.alloc (.cells #[.string kwBinary] 9)).alloc (.cells #[.slice (some ⟨w1.heap.size, 0, none⟩) 1 1] 29) := ⟨_, rfl⟩
  rw [← hv2]
  have HW2 : Hid (WordsAt v2 (w1.heap.size + 1) w1.heap.size (.slice (some ⟨w1.heap.size, 0, none⟩) 1 1) [kwBinary]) := by rw [hv2]; exact WordsAt.first w1 _
  have hb2 : Below w1.heap.size w1 v2 := by rw [hv2]; exact ((Below.refl _ _).alloc (Nat.le_refl _) _).alloc (by simp) _
  have HS2 : Hid (v2.heap.size = w1.heap.size + 1 + 1) := by unfold Hid; rw [hv2]; simp
  have HB2 := Lib.hid (below_then HB1.out hb2)
  have EB2 := Lib.hid (EB1.out.below hb2)
  have Hlt : Hid (w.heap.size < w1.heap.size) := EB1.out.lt
  clear hv2 hb2 hslot
  obtain ⟨b, hb⟩ : ∃ b, b = w1.heap.size + 1 := ⟨_, rfl⟩
  rw [← hb]
  rw [← hb] at HW2
  have HBb := Lib.hid hb
  clear hb EB EB1 HR
  obtain ⟨H, hH⟩ : ∃ H, H = w1.heap.size := ⟨_, rfl⟩
  rw [← hH] at HW2 HS2 HBb Hlt ⊢
  clear hH
  have e0 := EB2.out.facts.1
  have hv0 : v2.drew.cell? ⟨b, 0, none⟩ = some (.slice (some ⟨H, 0, none⟩) 1 1) := HW2.out.var.1
  have Hin := Lib.hid ((HP.out _ HB2.out).below (Below.refl v2.heap.size v2).drew).bytes.bytesIn
  have HWc : Hid (WordsAt v2.drew b H (.slice (some ⟨H, 0, none⟩) 1 1) [kwBinary]) := HW2.out.below (Below.refl v2.heap.size v2).drew
  have HBc := Lib.hid HB2.out.drew
  have HSc : Hid (H ≤ v2.drew.heap.size) := by have := HS2.out; unfold Hid; show H ≤ v2.heap.size; omega
  go_wp2_with fail
  refine wp_region_held_drew (S := (fun wx => EvAt wx w.heap.size [.int .i64 2, .string ⟨#[]⟩, .slice ba l.length bc, .int .i64 0, .int .i64 0, .string ⟨#[]⟩, .int .i64 0, .bool false, .int .i64 0, .int .i64 0, .int .i64 0, .int .i64 0, cv])) (by kernel_rfl) EB2.out.drew (fun hHeld => ?_)
  refine wpAnyH_takeD (i := 1) (d := some 35) (v := .pointer (some ⟨w.heap.size, 2, none⟩)) rfl rfl (by kernel_rfl) (by kernel_rfl) (by kernel_rfl) (fun _ _ _ h => h) (Or.inl ⟨by rfl, fun _ _ => by rfl⟩) (by assumption) ?_
  simp only [Act.put, List.setIfInBounds_toArray, List.set_cons_zero, List.set_cons_succ]
  refine wpAnyH_takeD (i := 2) (d := some 36) (v := .slice ba l.length bc) rfl rfl (by kernel_rfl) (by kernel_rfl) (by kernel_rfl) (fun _ _ _ h => h) (Or.inl ⟨by rfl, fun wx hx => by (have q := (EvAt.facts hx).2.2.1; go_simp)⟩) (by assumption) ?_
  simp only [Act.put, List.setIfInBounds_toArray, List.set_cons_zero, List.set_cons_succ]
  refine wpAnyH_ready (rs := [0, 3]) (by kernel_rfl) (by simp) ?_
  refine AllReadyH.cons rfl (fun K hK => ?_) (AllReadyH.cons rfl (fun K hK => ?_) AllReadyH.nil)
  · rw [if_pos (by rfl)]
    go_simp
    refine hK.out _ _ (hHeld) (fun hHeld => ?_)
    clear hK K
    refine wpAnyH_ready (rs := [3]) (by kernel_rfl) (by simp) ?_
    refine AllReadyH.cons rfl (fun K hK => ?_) AllReadyH.nil
    rw [if_pos (by rfl)]
    go_simp
    refine (hexadecimal_any _ _ _ Hin.out).mono ?_
    rintro e w4 ⟨rfl, hb4⟩
    refine hK.out _ _ (EvAt.below hHeld hb4) (fun hHeld => ?_)
    clear hK K
    have HW4 := Lib.hid (HWc.out.below hb4)
    have HB4 := Lib.hid (below_then HBc.out hb4)
    have HSd := Lib.hid (Nat.le_trans HSc.out hb4.size)
    have hE4 := hHeld
    have hvd := HW4.out.var.1
    obtain ⟨v', w', hrun, hc1, hs1, hw1, hf1, ⟨oa2, om2, oc2, rfl⟩, hf0⟩ := HW4.out.more [hexS l] (by simp) (by simp) HSd.out (by have := HBb.out; omega) 29
    have Hrun := Lib.hid hrun
    have HWn := Lib.hid hw1
    have HFn := Lib.hid hf1
    have HF0 := Lib.hid hf0
    clear hrun hw1 hf1 hf0
    clear hb4
    refine wpAnyH_ready (rs := [4]) (by kernel_rfl) (by simp) ?_
    refine AllReadyH.cons rfl (fun K hK => ?_) AllReadyH.nil
    rw [if_pos (by rfl)]
    go_simp
    refine hK.out _ _ (EvAt.alloc hHeld _) (fun hHeld => ?_)
    clear hK K
    have hva := cell_then ((Below.refl w4.heap.size w4).alloc (Nat.le_refl _) (.cells #[.string (hexS l)] 9)) HW4.out.var.1
    refine wpAnyH_ready (rs := [5]) (by kernel_rfl) (by simp) ?_
    refine AllReadyH.cons rfl (fun K hK => ?_) AllReadyH.nil
    refine step_append_run rfl _ _ _ rfl _ _ _ _ rfl rfl Hrun.out ?_
    refine hK.out _ _ (EvAt.of_block hE4 (HF0.out.1.block _ Hlt.out)) (fun hHeld => ?_)
    clear hK K
    simp only [Act.put, List.setIfInBounds_toArray, List.set_cons_zero, List.set_cons_succ]
    refine wpAnyH_ready (rs := [6]) (by kernel_rfl) (by simp) ?_
    refine AllReadyH.cons rfl (fun K hK => ?_) AllReadyH.nil
    rw [if_pos (by rfl)]
    go_simp
    refine hK.out _ _ (EvAt.other hHeld (by have := HBb.out; have := Hlt.out; simp; omega) _) (fun hHeld => ?_)
    clear hK K
    clear hc1 hs1
    refine wpAnyH_done (by kernel_rfl) ?_ _
    obtain ⟨v8, hv8⟩ : ∃ v8, v8 = w'.setCell ⟨b, 0, none⟩ (.slice oa2 om2 oc2) := ⟨_, rfl⟩
    rw [← hv8]
    rw [← hv8] at HWn HFn
    have HB8 : Hid (Below w.heap.size w v8) := HB4.out.trans (HFn.out.1.mono (Nat.le_of_lt Hlt.out))
    have HW8 : Hid (WordsAt v8 b H (.slice oa2 om2 oc2) [kwBinary, hexS l]) := HWn.out
    clear hv8 HWn HFn hHeld
    have hvc : v8.cell? ⟨b, 0, none⟩ = some (.slice oa2 om2 oc2) := HW8.out.var.1
    go_wp2_with fail
    refine (pjoin_any HW8.out (by simp) (by have := HPZ.out.2; omega) HPZ.out.1).mono ?_
    rintro e w9 ⟨rfl, hb9⟩
    have HB9 := Lib.hid (below_then HB8.out hb9)
    clear hb9 hvc
    obtain ⟨sx, hsx⟩ : ∃ sx, sx = joinB 32 [kwBinary, hexS l] := ⟨_, rfl⟩
    rw [← hsx]
    have Hsx := Lib.hid hsx
    clear hsx
    go_wp2_with fail
    go_ret2
    exact ⟨by rw [← Hsx.out]; rfl, HB9.out⟩
  · rw [if_pos (by rfl)]
    go_simp
    refine (hexadecimal_any _ _ _ Hin.out).mono ?_
    rintro e w4 ⟨rfl, hb4⟩
    refine hK.out _ _ (EvAt.below hHeld hb4) (fun hHeld => ?_)
    clear hK K
    have HW4 := Lib.hid (HWc.out.below hb4)
    have HB4 := Lib.hid (below_then HBc.out hb4)
    have HSd := Lib.hid (Nat.le_trans HSc.out hb4.size)
    have hE4 := hHeld
    have hvd := HW4.out.var.1
    obtain ⟨v', w', hrun, hc1, hs1, hw1, hf1, ⟨oa2, om2, oc2, rfl⟩, hf0⟩ := HW4.out.more [hexS l] (by simp) (by simp) HSd.out (by have := HBb.out; omega) 29
    have Hrun := Lib.hid hrun
    have HWn := Lib.hid hw1
    have HFn := Lib.hid hf1
    have HF0 := Lib.hid hf0
    clear hrun hw1 hf1 hf0
    clear hb4
    refine wpAnyH_ready (rs := [0, 4]) (by kernel_rfl) (by simp) ?_
    refine AllReadyH.cons rfl (fun K hK => ?_) (AllReadyH.cons rfl (fun K hK => ?_) AllReadyH.nil)
    · rw [if_pos (by rfl)]
      go_simp
      refine hK.out _ _ (hHeld) (fun hHeld => ?_)
      clear hK K
      refine wpAnyH_ready (rs := [4]) (by kernel_rfl) (by simp) ?_
      refine AllReadyH.cons rfl (fun K hK => ?_) AllReadyH.nil
      rw [if_pos (by rfl)]
      go_simp
      refine hK.out _ _ (EvAt.alloc hHeld _) (fun hHeld => ?_)
      clear hK K
      have hva := cell_then ((Below.refl w4.heap.size w4).alloc (Nat.le_refl _) (.cells #[.string (hexS l)] 9)) HW4.out.var.1
      refine wpAnyH_ready (rs := [5]) (by kernel_rfl) (by simp) ?_
      refine AllReadyH.cons rfl (fun K hK => ?_) AllReadyH.nil
      refine step_append_run rfl _ _ _ rfl _ _ _ _ rfl rfl Hrun.out ?_
      refine hK.out _ _ (EvAt.of_block hE4 (HF0.out.1.block _ Hlt.out)) (fun hHeld => ?_)
      clear hK K
      simp only [Act.put, List.setIfInBounds_toArray, List.set_cons_zero, List.set_cons_succ]
      refine wpAnyH_ready (rs := [6]) (by kernel_rfl) (by simp) ?_
      refine AllReadyH.cons rfl (fun K hK => ?_) AllReadyH.nil
      rw [if_pos (by rfl)]
      go_simp
      refine hK.out _ _ (EvAt.other hHeld (by have := HBb.out; have := Hlt.out; simp; omega) _) (fun hHeld => ?_)
      clear hK K
      clear hc1 hs1
      refine wpAnyH_done (by kernel_rfl) ?_ _
      obtain ⟨v8, hv8⟩ : ∃ v8, v8 = w'.setCell ⟨b, 0, none⟩ (.slice oa2 om2 oc2) := ⟨_, rfl⟩
      rw [← hv8]
      rw [← hv8] at HWn HFn
      have HB8 : Hid (Below w.heap.size w v8) := HB4.out.trans (HFn.out.1.mono (Nat.le_of_lt Hlt.out))
      have HW8 : Hid (WordsAt v8 b H (.slice oa2 om2 oc2) [kwBinary, hexS l]) := HWn.out
      clear hv8 HWn HFn hHeld
      have hvc : v8.cell? ⟨b, 0, none⟩ = some (.slice oa2 om2 oc2) := HW8.out.var.1
      go_wp2_with fail
      refine (pjoin_any HW8.out (by simp) (by have := HPZ.out.2; omega) HPZ.out.1).mono ?_
      rintro e w9 ⟨rfl, hb9⟩
      have HB9 := Lib.hid (below_then HB8.out hb9)
      clear hb9 hvc
      obtain ⟨sx, hsx⟩ : ∃ sx, sx = joinB 32 [kwBinary, hexS l] := ⟨_, rfl⟩
      rw [← hsx]
      have Hsx := Lib.hid hsx
      clear hsx
      go_wp2_with fail
      go_ret2
      exact ⟨by rw [← Hsx.out]; rfl, HB9.out⟩
    · rw [if_pos (by rfl)]
      go_simp
      refine hK.out _ _ (EvAt.alloc hHeld _) (fun hHeld => ?_)
      clear hK K
      have hva := cell_then ((Below.refl w4.heap.size w4).alloc (Nat.le_refl _) (.cells #[.string (hexS l)] 9)) HW4.out.var.1
      refine wpAnyH_ready (rs := [0]) (by kernel_rfl) (by simp) ?_
      refine AllReadyH.cons rfl (fun K hK => ?_) AllReadyH.nil
      rw [if_pos (by rfl)]
      go_simp
      refine hK.out _ _ (hHeld) (fun hHeld => ?_)
      clear hK K
      refine wpAnyH_ready (rs := [5]) (by kernel_rfl) (by simp) ?_
      refine AllReadyH.cons rfl (fun K hK => ?_) AllReadyH.nil
      refine step_append_run rfl _ _ _ rfl _ _ _ _ rfl rfl Hrun.out ?_
      refine hK.out _ _ (EvAt.of_block hE4 (HF0.out.1.block _ Hlt.out)) (fun hHeld => ?_)
      clear hK K
      simp only [Act.put, List.setIfInBounds_toArray, List.set_cons_zero, List.set_cons_succ]
      refine wpAnyH_ready (rs := [6]) (by kernel_rfl) (by simp) ?_
      refine AllReadyH.cons rfl (fun K hK => ?_) AllReadyH.nil
      rw [if_pos (by rfl)]
      go_simp
      refine hK.out _ _ (EvAt.other hHeld (by have := HBb.out; have := Hlt.out; simp; omega) _) (fun hHeld => ?_)
      clear hK K
      clear hc1 hs1
      refine wpAnyH_done (by kernel_rfl) ?_ _
      obtain ⟨v8, hv8⟩ : ∃ v8, v8 = w'.setCell ⟨b, 0, none⟩ (.slice oa2 om2 oc2) := ⟨_, rfl⟩
      rw [← hv8]
      rw [← hv8] at HWn HFn
      have HB8 : Hid (Below w.heap.size w v8) := HB4.out.trans (HFn.out.1.mono (Nat.le_of_lt Hlt.out))
      have HW8 : Hid (WordsAt v8 b H (.slice oa2 om2 oc2) [kwBinary, hexS l]) := HWn.out
      clear hv8 HWn HFn hHeld
      have hvc : v8.cell? ⟨b, 0, none⟩ = some (.slice oa2 om2 oc2) := HW8.out.var.1
      go_wp2_with fail
      refine (pjoin_any HW8.out (by simp) (by have := HPZ.out.2; omega) HPZ.out.1).mono ?_
      rintro e w9 ⟨rfl, hb9⟩
      have HB9 := Lib.hid (below_then HB8.out hb9)
      clear hb9 hvc
      obtain ⟨sx, hsx⟩ : ∃ sx, sx = joinB 32 [kwBinary, hexS l] := ⟨_, rfl⟩
      rw [← hsx]
      have Hsx := Lib.hid hsx
      clear hsx
      go_wp2_with fail
      go_ret2
      exact ⟨by rw [← Hsx.out]; rfl, HB9.out⟩
end Go.Proofs.YtobaoekibnloiaaGreatDoor
