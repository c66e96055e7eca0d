/- Part 9 of the proof: laws on memory and what functions of the program return. No conditions but those that each theorem names. -/
import Derived.Test.YtobaoekibnloiaaGreatDoorR08
import Derived.Deep.LoopGhost
import Derived.Deep.DeepCutAuto
set_option linter.unusedVariables false
set_option linter.unusedSimpArgs false
/- script's station. Printed by gen_pst.py. -/
namespace Go.Proofs.YtobaoekibnloiaaGreatDoor
open Go Go.RowKit

def KL : List ByteArray := [⟨#[]⟩, kLand, kShip, kBuoy]
theorem index4 (b : Nat) (x : ByteArray) (w : World) (hc : ∀ j, j < KL.length → w.cell? ⟨b, 0 + j, none⟩ = some (.string (KL.getD j ByteArray.empty))) :
    Calls Tryz.prog 56 #[.slice (some ⟨b, 0, none⟩) 4 4, .string x] w fun e w' => e = .returned (.int .i64 (Lib.idxOfS KL x)) ∧ w' = w :=
  Tryz.slices_Index_string b 0 4 4 KL x w (by decide) (by omega) hc
def StRd (B pb eb : Nat) (ws : List ByteArray) (w : World) (e : Ending) (w' : World) : Prop :=
  e = .returned (.tuple #[]) ∧ Below B w w' ∧ ∃ (y : Ev) (cv : Value) (rest : List ByteArray) (bad : Bool), Cur w' pb rest bad ∧ EvAt w' eb (evCells y (.slice none 0 0) cv) ∧ cv.oneCell' = true ∧ (bad = true ∨ rest = []) ∧
    (bad = true → stF ws = none) ∧ (bad = false → stF ws = some y ∧ y.Ok ∧ BiasIn w.heap.size w' cv y.bias)
theorem below_but {B pb : Nat} {w v w' : World} (h : Below B w v) (hb : But v.heap.size pb v w') (hBp : B ≤ pb) (hlt : pb < v.heap.size) : Below B w w' := h.trans ((hb.mono (by omega)).below hBp)
theorem OwnR.but {w w' : World} {base p : Nat} {v : Value} {l : List (Int × Int)} (h : OwnR w base v l) (hb : But w.heap.size p w w') (hp : p < base) : OwnR w' base v l := by
  refine ⟨h.1, ?_⟩
  rcases h.2 with h2 | ⟨g, cap, cur, e, hg, hh, hr⟩
  · exact Or.inl h2
  · exact Or.inr ⟨g, cap, cur, e, hg, by rw [hb.block g (Array.getElem?_eq_some_iff.1 hh).1 (by omega)]; exact hh, hr⟩
theorem OwnR.setLow {w : World} {base : Nat} {v : Value} {l : List (Int × Int)} (h : OwnR w base v l) {p : Addr} (hp : p.block < base) (u : Value) : OwnR (w.setCell p u) base v l := by
  refine ⟨h.1, ?_⟩
  rcases h.2 with h2 | ⟨g, cap, cur, e, hg, hh, hr⟩
  · exact Or.inl h2
  · exact Or.inr ⟨g, cap, cur, e, hg, by rw [Below.heap_setCell _ _ _ _ (by omega)]; exact hh, hr⟩
/-- The round's relation. -/
def StL (B pb eb : Nat) (ws : List ByteArray) (w : World) (G : List (Int × Int) → Ev) (k : Nat) (wr : World) : Prop :=
  ∃ (rest : List ByteArray) (bad : Bool) (L : List (Int × Int)) (ov : Value), k = rest.length ∧ Cur wr pb rest bad ∧ EvAt wr eb (evCells (G L) (.slice none 0 0) ov) ∧ OwnR wr w.heap.size ov L ∧ Below B w wr ∧ Left (stF ws) G rest bad L ∧
    (∀ s ∈ rest, s.size ≤ 1000000) ∧ (∀ p ∈ L, I64 p.1 ∧ I64 p.2) ∧ L.length + rest.length ≤ 1000000
theorem curFacts {w : World} {pb : Nat} {ws : List ByteArray} {bad : Bool} (h : Cur w pb ws bad) : ∃ (a : Option Addr) (cap : Nat), w.cell? ⟨pb, 0, none⟩ = some (.slice a ws.length cap) ∧ w.cell? ⟨pb, 1, none⟩ = some (.bool bad) ∧ w.frozen? ⟨pb, 1, none⟩ = false ∧ cap ≤ 1000000 ∧ ws.length ≤ cap := by
  obtain ⟨a, cap, h1, h2, h3, h4, h5, h6, h7⟩ := h
  exact ⟨a, cap, h3, h4, h6, h2, h1⟩

set_option maxHeartbeats 8000000 in
set_option maxRecDepth 100000 in
theorem pst_closed (B pb eb : Nat) (ws : List ByteArray) (w : World) (h : Cur w pb ws false) (hev : EvAt w eb [.int .i64 4, .string ⟨#[]⟩, .slice none 0 0, .int .i64 0, .int .i64 0, .string ⟨#[]⟩, .int .i64 0, .bool false, .int .i64 0, .int .i64 0, .int .i64 0, .int .i64 0, (.slice none 0 0)]) (hE : Env w) (hB : 8 ≤ B) (hBp : B ≤ pb) (hpe : pb < eb) (hsz : ∀ s ∈ ws, s.size ≤ 1000000) (hc : ws.tail.tail.tail.headD ByteArray.empty = kwClosed) :
    Calls Tryz.prog 37 #[.pointer (some ⟨pb, 0, none⟩), .pointer (some ⟨eb, 0, none⟩)] w (StRd B pb eb ws w) := by
  have hpw := h.lt
  have hew := hev.lt
  have HC := Lib.hid h
  have HV := Lib.hid hev
  have HE := Lib.hid hE
  have HZ := Lib.hid hsz
  have hs8 := hE.size
  clear h hev hE hsz
  go_enter Tryz.func37, Tryz.ntmps37
  go_wp2_with fail
  refine wp_region_held_drew (S := (fun _ => True)) (by kernel_rfl) trivial (fun hHeld => ?_)
  refine wpAnyH_takeD (i := 0) (d := some 4) (v := .pointer (some ⟨eb, 0, none⟩)) rfl rfl (by kernel_rfl) (by kernel_rfl) (by kernel_rfl) (fun _ _ _ h => h) (Or.inl ⟨by rfl, fun _ _ => by rfl⟩) (by assumption) ?_
  simp only [Act.put, List.setIfInBounds_toArray, List.set_cons_zero, List.set_cons_succ]
  refine wpAnyH_takeD (i := 2) (d := some 6) (v := .pointer (some ⟨pb, 0, none⟩)) rfl rfl (by kernel_rfl) (by kernel_rfl) (by kernel_rfl) (fun _ _ _ h => h) (Or.inl ⟨by rfl, fun _ _ => by rfl⟩) (by assumption) ?_
  simp only [Act.put, List.setIfInBounds_toArray, List.set_cons_zero, List.set_cons_succ]
  refine wpAnyH_takeD (i := 3) (d := some 7) (v := .pointer (some ⟨pb, 0, none⟩)) rfl rfl (by kernel_rfl) (by kernel_rfl) (by kernel_rfl) (fun _ _ _ h => h) (Or.inl ⟨by rfl, fun wx hx => by (go_simp)⟩) (by assumption) ?_
  simp only [Act.put, List.setIfInBounds_toArray, List.set_cons_zero, List.set_cons_succ]
  refine wpAnyH_takeD (i := 4) (d := some 8) (v := .pointer (some ⟨pb, 0, none⟩)) rfl rfl (by kernel_rfl) (by kernel_rfl) (by kernel_rfl) (fun _ _ _ h => h) (Or.inl ⟨by rfl, fun _ _ => by rfl⟩) (by assumption) ?_
  simp only [Act.put, List.setIfInBounds_toArray, List.set_cons_zero, List.set_cons_succ]
  refine wpAnyH_ready (rs := [1]) (by kernel_rfl) (by simp) ?_
  refine AllReadyH.cons rfl (fun K hK => ?_) AllReadyH.nil
  rw [if_pos (by rfl)]
  go_simp
  refine (skinds_at w.drew w.heap.size rfl).mono ?_
  rintro e w1 ⟨rfl, hb1, hH1, hk1⟩
  refine hK.out _ _ (trivial) (fun hHeld => ?_)
  clear hK K
  have hb1 := below_then ((Below.refl w.heap.size w).drew) hb1
  have HC1 := Lib.hid (HC.out.below hb1)
  have HV1 := Lib.hid (HV.out.below hb1)
  have HX1 := Lib.hid hb1
  have HK1 := Lib.hid hk1
  clear hb1 hk1
  refine wpAnyH_ready (rs := [5]) (by kernel_rfl) (by simp) ?_
  refine AllReadyH.cons rfl (fun K hK => ?_) AllReadyH.nil
  rw [if_pos (by rfl)]
  go_simp
  refine (next_any pb ws false w1 HC1.out).mono ?_
  rintro e w2 ⟨rfl, hc2, hb2⟩
  refine hK.out _ _ (trivial) (fun hHeld => ?_)
  clear hK K
  have HC2 := Lib.hid hc2
  have HV2 := Lib.hid (HV1.out.but hb2 (by omega))
  have HX2 : Hid (Below B w w2) := (HX1.out.mono (by omega)).trans ((hb2.mono (by have := HX1.out.size; omega)).below hBp)
  have hK2 : ∀ j, j < KL.length → w2.cell? ⟨w.heap.size, 0 + j, none⟩ = some (.string (KL.getD j ByteArray.empty)) := fun j hj => by rw [Nat.zero_add, hb2.cell (p := ⟨w.heap.size, j, none⟩) hH1 (by simp; omega)]; exact HK1.out j hj
  have HK2 := Lib.hid hK2
  clear hc2 hb2 hK2 hH1 HK1 HX1
  obtain ⟨a0, ha0⟩ : ∃ a0, a0 = ws.headD ByteArray.empty := ⟨_, rfl⟩
  rw [← ha0]
  have HA0 := Lib.hid ha0
  clear ha0
  refine wpAnyH_ready (rs := [6]) (by kernel_rfl) (by simp) ?_
  refine AllReadyH.cons rfl (fun K hK => ?_) AllReadyH.nil
  rw [if_pos (by rfl)]
  go_simp
  refine (index4 w.heap.size a0 w2 HK2.out).mono ?_
  rintro e w3 ⟨rfl, hw3⟩
  refine hK.out _ _ (trivial) (fun hHeld => ?_)
  clear hK K
  obtain rfl := hw3.symm
  obtain ⟨st, hst⟩ : ∃ st, st = (kindF a0).getD 0 := ⟨_, rfl⟩
  have hix := idx_kind a0
  rw [← hst] at hix
  change max (Lib.idxOfS KL a0) 0 = st at hix
  have HST := Lib.hid hst
  clear hst
  generalize Lib.idxOfS KL a0 = ix at *
  refine wpAnyH_takeD (i := 7) (d := some 11) (v := .int .i64 st) rfl rfl (by kernel_rfl) (by kernel_rfl) (by kernel_rfl) (fun _ _ _ h => h) (Or.inl ⟨by rfl, fun wx hx => by (go_simp)⟩) (by assumption) ?_
  simp only [Act.put, List.setIfInBounds_toArray, List.set_cons_zero, List.set_cons_succ]
  clear hix
  refine wpAnyH_takeD (i := 8) (d := some 12) (v := .pointer (some ⟨eb, 0, none⟩)) rfl rfl (by kernel_rfl) (by kernel_rfl) (by kernel_rfl) (fun _ _ _ h => h) (Or.inl ⟨by rfl, fun wx hx => by (go_simp)⟩) (by assumption) ?_
  simp only [Act.put, List.setIfInBounds_toArray, List.set_cons_zero, List.set_cons_succ]
  refine wpAnyH_takeD (i := 9) (d := some 13) (v := .pointer (some ⟨eb, 4, none⟩)) rfl rfl (by kernel_rfl) (by kernel_rfl) (by kernel_rfl) (fun _ _ _ h => h) (Or.inl ⟨by rfl, fun _ _ => by rfl⟩) (by assumption) ?_
  simp only [Act.put, List.setIfInBounds_toArray, List.set_cons_zero, List.set_cons_succ]
  have e4 := HV2.out.facts.2.2.2.2.1
  have s4 := HV2.out.soft.2.2.2.2.1
  refine wpAnyH_ready (rs := [10]) (by kernel_rfl) (by simp) ?_
  refine AllReadyH.cons rfl (fun K hK => ?_) AllReadyH.nil
  rw [if_pos (by rfl)]
  go_simp
  refine hK.out _ _ (trivial) (fun hHeld => ?_)
  clear hK K
  clear e4 s4
  refine wpAnyH_done (by kernel_rfl) ?_ _
  obtain ⟨v1, hv1⟩ : ∃ v1, v1 = w2.setCell ⟨eb, 4, none⟩ (.int .i64 st) := ⟨_, rfl⟩
  rw [← hv1]
  obtain ⟨b1, hb1⟩ : ∃ b1, b1 = (false || ws.isEmpty) := ⟨_, rfl⟩
  have HC3 : Hid (Cur v1 pb ws.tail b1) := by rw [hb1, hv1]; exact HC2.out.setEb hpe 4 _
  have HV3 : Hid (EvAt v1 eb [.int .i64 4, .string ⟨#[]⟩, .slice none 0 0, .int .i64 0, .int .i64 st, .string ⟨#[]⟩, .int .i64 0, .bool false, .int .i64 0, .int .i64 0, .int .i64 0, .int .i64 0, (.slice none 0 0)]) := by rw [hv1]; exact HV2.out.set 4 (by omega) _
  have HX3 : Hid (Below B w v1) := by rw [hv1]; exact HX2.out.setCell (by simp; omega) _
  have HB1 := Lib.hid hb1
  obtain ⟨ca, cc, c0, c1, f1, hcc, hcl⟩ := curFacts HC3.out
  have e4 := HV3.out.facts.2.2.2.2.1
  clear hb1 hv1 HC2 HV2 HX2 HC1 HV1 hHeld
  go_upto_region 1 with fail
  go_cut [] (fun wx => wx = v1.setCell ⟨pb, 1, none⟩ (.bool (b1 || st == 0)))
  case first =>
    go_wp2_with fail
    all_goals
      go_meet
      rename_i hq
      first | (rw [hq]; rfl) | (have hq2 : b1 = false := (by simpa using hq); rw [hq2]; rfl)
  case rest =>
    clear c0 c1 f1 hcc hcl e4
    obtain ⟨b2, hb2⟩ : ∃ b2, b2 = (b1 || st == 0) := ⟨_, rfl⟩
    rw [← hb2] at hcut
    have HC4 : Hid (Cur wc pb ws.tail b2) := by rw [hcut]; exact HC3.out.mark b2
    have HV4 : Hid (EvAt wc eb [.int .i64 4, .string ⟨#[]⟩, .slice none 0 0, .int .i64 0, .int .i64 st, .string ⟨#[]⟩, .int .i64 0, .bool false, .int .i64 0, .int .i64 0, .int .i64 0, .int .i64 0, (.slice none 0 0)]) := by rw [hcut]; exact HV3.out.setPb hpe 1 _
    have HX4 : Hid (Below B w wc) := by rw [hcut]; exact HX3.out.setCell (by simp; omega) _
    have HB2 := Lib.hid hb2
    clear hb2 hcut HC3 HV3 HX3
    go_wp2_with fail
    refine (name_any pb ws.tail b2 wc HC4.out (fun s hs => HZ.out s (List.mem_of_mem_tail hs))).mono ?_
    rintro e w4 ⟨b3, rfl, hb3, hc4, hbt4⟩
    have HV5 := Lib.hid (HV4.out.but hbt4 (by omega))
    have HX5 := Lib.hid (below_but HX4.out hbt4 hBp HC4.out.lt)
    have HC5 := Lib.hid hc4
    have HB3 := Lib.hid hb3
    clear hb3 hc4 hbt4
    obtain ⟨a1, ha1⟩ : ∃ a1, a1 = ws.tail.headD ByteArray.empty := ⟨_, rfl⟩
    rw [← ha1]
    have HA1 := Lib.hid ha1
    clear ha1
    have e5 := HV5.out.facts.2.2.2.2.2.1
    have s5 := HV5.out.soft.2.2.2.2.2.1
    go_wp2_with fail
    clear e5 s5
    obtain ⟨v5, hv5⟩ : ∃ v5, v5 = w4.setCell ⟨eb, 5, none⟩ (.string a1) := ⟨_, rfl⟩
    rw [← hv5]
    have HC6 : Hid (Cur v5 pb ws.tail.tail b3) := by rw [hv5]; exact HC5.out.setEb hpe 5 _
    have HV6 : Hid (EvAt v5 eb [.int .i64 4, .string ⟨#[]⟩, .slice none 0 0, .int .i64 0, .int .i64 st, .string a1, .int .i64 0, .bool false, .int .i64 0, .int .i64 0, .int .i64 0, .int .i64 0, (.slice none 0 0)]) := by rw [hv5]; exact HV5.out.set 5 (by omega) _
    have HX6 : Hid (Below B w v5) := by rw [hv5]; exact HX5.out.setCell (by simp; omega) _
    clear hv5 HC5 HV5 HX5 HC4 HV4 HX4
    refine (number_any pb ws.tail.tail b3 v5 HC6.out (HE.out.below HX6.out hB) (by omega) (fun s hs => HZ.out s (List.mem_of_mem_tail (List.mem_of_mem_tail hs)))).mono ?_
    rintro e w5 ⟨n, b4, hnI, rfl, hn1, hn2, hc5, hbt5⟩
    have HN : Hid (NumSt ws.tail.tail b3 n b4) := ⟨hnI, hn1, hn2⟩
    have HV7 := Lib.hid (HV6.out.but hbt5 (by omega))
    have HX7 := Lib.hid (below_but HX6.out hbt5 hBp HC6.out.lt)
    have HC7 := Lib.hid hc5
    clear hnI hn1 hn2 hc5 hbt5
    have e6 := HV7.out.facts.2.2.2.2.2.2.1
    have s6 := HV7.out.soft.2.2.2.2.2.2.1
    go_wp2_with fail
    clear e6 s6
    obtain ⟨v6, hv6⟩ : ∃ v6, v6 = w5.setCell ⟨eb, 6, none⟩ (.int .i64 n) := ⟨_, rfl⟩
    rw [← hv6]
    have HC8 : Hid (Cur v6 pb ws.tail.tail.tail b4) := by rw [hv6]; exact HC7.out.setEb hpe 6 _
    have HV8 : Hid (EvAt v6 eb [.int .i64 4, .string ⟨#[]⟩, .slice none 0 0, .int .i64 0, .int .i64 st, .string a1, .int .i64 n, .bool false, .int .i64 0, .int .i64 0, .int .i64 0, .int .i64 0, (.slice none 0 0)]) := by rw [hv6]; exact HV7.out.set 6 (by omega) _
    have HX8 : Hid (Below B w v6) := by rw [hv6]; exact HX7.out.setCell (by simp; omega) _
    clear hv6 HC6 HV6 HX6 HC7 HV7 HX7
    refine (next_any pb ws.tail.tail.tail b4 v6 HC8.out).mono ?_
    rintro e w6 ⟨rfl, hc6, hbt6⟩
    have HV9 := Lib.hid (HV8.out.but hbt6 (by omega))
    have HX9 := Lib.hid (below_but HX8.out hbt6 hBp HC8.out.lt)
    obtain ⟨b5, hb5⟩ : ∃ b5, b5 = (b4 || ws.tail.tail.tail.isEmpty) := ⟨_, rfl⟩
    rw [← hb5] at hc6
    have HB5 := Lib.hid hb5
    have HC9 := Lib.hid hc6
    have HH : Hid ((b5 = false → ws = a0 :: a1 :: ws.tail.tail.headD ByteArray.empty :: ws.tail.tail.tail.headD ByteArray.empty :: ws.tail.tail.tail.tail ∧ kindF a0 = some st ∧ nameOk a1 = true ∧ numF (ws.tail.tail.headD ByteArray.empty) = some n) ∧ (b5 = true → stF ws = none)) := by
      have h3 : b3 = false ↔ (ws.isEmpty || ((kindF (ws.headD ByteArray.empty)).getD 0 == 0)) = false ∧ nameOk (ws.tail.headD ByteArray.empty) = true := by
        have := HB3.out
        rw [HB2.out, HB1.out, HST.out, HA0.out] at this
        simpa using this
      refine ⟨fun h => ?_, fun h => ?_⟩
      · have q := head_ok h3 HN.out (by rw [← HB5.out]; exact h)
        rw [HST.out, HA0.out, HA1.out]; exact q
      · exact head_bad h3 HN.out (by rw [← HB5.out]; exact h)
    have HA1z : Hid (a1.size ≤ 1000000) := by
      unfold Hid
      rw [HA1.out]
      cases hq : ws.tail with
      | nil => exact Nat.zero_le _
      | cons z r => exact HZ.out z (List.mem_of_mem_tail (by rw [hq]; simp))
    have HSTI : Hid (I64 st) := by
      unfold Hid I64
      rw [HST.out]
      cases hq : kindF a0 with
      | none => simp
      | some k => have := kindF_iff.1 hq; simp; omega
    clear hb5 hc6 hbt6 HC8 HV8 HX8 HB1 HB2 HB3 HB5 HST
    rw [hc]
    unfold kwClosed
    have e7 := HV9.out.facts.2.2.2.2.2.2.2.1
    have s7 := HV9.out.soft.2.2.2.2.2.2.2.1
    go_wp2_with fail
    clear e7 s7
    obtain ⟨v7, hv7⟩ : ∃ v7, v7 = w6.setCell ⟨eb, 7, none⟩ (.bool true) := ⟨_, rfl⟩
    rw [← hv7]
    have HCl : Hid (Cur v7 pb ws.tail.tail.tail.tail b5) := by rw [hv7]; exact HC9.out.setEb hpe 7 _
    have HVl : Hid (EvAt v7 eb (evCells (evSt st a1 n true 0 0 0 0 []) (.slice none 0 0) (.slice none 0 0))) := by rw [hv7]; exact HV9.out.set 7 (by omega) _
    have HXl : Hid (Below B w v7) := by rw [hv7]; exact HX9.out.setCell (by simp; omega) _
    have HLl : Hid (Left (stF ws) (evSt st a1 n true 0 0 0 0) ws.tail.tail.tail.tail b5 []) := by
      refine ⟨HH.out.2, fun hb => ?_⟩
      obtain ⟨q1, q2, q3, q4⟩ := HH.out.1 hb
      rw [hc] at q1
      conv => lhs; rw [q1]
      rw [st_closed q2 q3 q4]
      rfl
    have HSl : Hid (∀ s ∈ ws.tail.tail.tail.tail, s.size ≤ 1000000) := fun s hs => HZ.out s (List.mem_of_mem_tail (List.mem_of_mem_tail (List.mem_of_mem_tail (List.mem_of_mem_tail hs))))
    clear hv7 HC9 HV9 HX9 hc
    generalize ws.tail.tail.tail.tail = R0 at *
    have HGo : Hid (∀ l, (evSt st a1 n true 0 0 0 0 l).Ok) := fun l => ⟨by unfold I64; simp [evSt], by simp [evSt, ByteArray.size], I64.zero, HSTI.out, HA1z.out, HN.out.1, I64.zero, I64.zero, I64.zero, I64.zero⟩
    have HGc : Hid (∀ l ov, evCells (evSt st a1 n true 0 0 0 0 l) (.slice none 0 0) ov = [.int .i64 4, .string ⟨#[]⟩, .slice none 0 0, .int .i64 0, .int .i64 st, .string a1, .int .i64 n, .bool true, .int .i64 0, .int .i64 0, .int .i64 0, .int .i64 0, ov]) := fun _ _ => rfl
    generalize hG : evSt st a1 n true 0 0 0 0 = G at *
    have HGb : Hid (∀ l, (G l).bias = l) := by subst hG; exact fun _ => rfl
    clear hG
    have hR0 : R0.length ≤ 1000000 := by obtain ⟨_, _, _, _, _, q1, q2⟩ := curFacts HCl.out; omega
    go_loopg [] (R0.length) (fun k wr => StL B pb eb ws w G k wr)
    case atStart => exact ⟨R0, b5, [], _, rfl, HCl.out, HVl.out, OwnR.nil _ _, HXl.out, HLl.out, HSl.out, by simp, by simpa using hR0⟩
    case round =>
      obtain ⟨rest, bad, L, ov, hk, hcr, hvr, hor, hxr, hlr, hz, hi, hn⟩ := hrel
      have HLf := Lib.hid hlr
      have HCn := Lib.hid hcr
      have HVn := Lib.hid hvr
      have HOn := Lib.hid hor
      have HXn := Lib.hid hxr
      have HFin : Hid ((bad = true ∨ rest = []) → StRd B pb eb ws w (.returned (.tuple #[])) wr) := by
        intro hb
        refine ⟨rfl, hxr, G L, ov, rest, bad, hcr, hvr, ?_, hb, hlr.1, fun hbf => ?_⟩
        · obtain ⟨oa, on, oc, rfl⟩ := hor.slice; rfl
        · have hr : rest = [] := by rcases hb with hb | hb; rw [hbf] at hb; cases hb; exact hb
          subst hr hbf
          exact ⟨hlr.end_, HGo.out L, by rw [HGb.out]; exact BiasIn.of_own hor (by omega) hi⟩
      obtain ⟨ca, cc, c0, c1, f1, hcc, hcl⟩ := curFacts hcr
      clear hlr hcr hvr hor hxr hR0
      cases rest with
      | nil =>
        have c0 : wr.cell? ⟨pb, 0, none⟩ = some (.slice ca 0 cc) := c0
        go_wp2_with fail
        go_end0
        exact HFin.out (by simp)
      | cons a t =>
        obtain ⟨m, hm⟩ : ∃ m, m = (a :: t).length := ⟨_, rfl⟩
        rw [← hm] at c0 hcl
        have hm0 : (0 : Int) < (m : Int) := by rw [hm]; simp
        have Hm := Lib.hid hm
        clear hm
        cases bad with
        | true =>
          go_wp2_with fail
          go_end0
          exact HFin.out (by simp)
        | false =>
          clear HFin
          go_wp2_with fail
          clear c0 c1 f1
          refine (next_any pb (a :: t) false wr HCn.out).mono ?_
          rintro e w7 ⟨rfl, hc7, hbt7⟩
          have HV7 := Lib.hid (HVn.out.but hbt7 (by omega))
          have HX7 := Lib.hid (below_but HXn.out hbt7 hBp HCn.out.lt)
          have HO7 := Lib.hid (HOn.out.but hbt7 (by omega))
          have hc7 : Cur w7 pb t false := hc7
          have HC7 := Lib.hid hc7
          obtain ⟨ca, cc, c0, c1, f1, hcc, hcl⟩ := curFacts hc7
          obtain ⟨b9, hb9⟩ : ∃ b9, b9 = decide (a = kwBias) := ⟨_, rfl⟩
          have hbi : (a.toList == [98, 105, 97, 115]) = b9 := by
            have e : ([98, 105, 97, 115] : List UInt8) = kwBias.toList := by rw [Lib.toList_data]; rfl
            rw [hb9, e]
            by_cases q : a = kwBias
            · rw [q]; simp
            · rw [str_ne q]; simp [q]
          obtain ⟨b6, hb6⟩ : ∃ b6, b6 = !b9 := ⟨_, rfl⟩
          have HB6 : Hid (b6 = decide (a ≠ kwBias)) := by unfold Hid; rw [hb6, hb9]; simp
          have H6 := Lib.hid hb6
          clear hc7 hbt7 hb6 hb9
          go_wp2_with fail
          clear c0 c1 f1 hbi
          obtain ⟨v8, hv8⟩ : ∃ v8, v8 = w7.setCell ⟨pb, 1, none⟩ (.bool (!b9)) := ⟨_, rfl⟩
          rw [← hv8]
          rw [← H6.out] at hv8
          have HC8 : Hid (Cur v8 pb t b6) := by rw [hv8]; exact HC7.out.mark b6
          have HV8 : Hid (EvAt v8 eb (evCells (G L) (.slice none 0 0) ov)) := by rw [hv8]; exact HV7.out.setPb hpe 1 _
          have HX8 : Hid (Below B w v8) := by rw [hv8]; exact HX7.out.setCell (by simp; omega) _
          have HO8 : Hid (OwnR v8 w.heap.size ov L) := by rw [hv8]; exact HO7.out.setLow (by simp; omega) _
          have HLf : Hid (Left (stF ws) G (a :: t) false L) := HLf.out
          clear hv8 HC7 HV7 HX7 HO7
          have HCn0 : Hid (Cur v8.drew pb t b6) := HC8.out.kept fun k hk => rfl
          have HVn0 : Hid (EvAt v8.drew eb (evCells (G L) (.slice none 0 0) ov)) := HV8.out.drew
          have HXn0 : Hid (Below B w v8.drew) := HX8.out.drew
          have HOn0 : Hid (OwnR v8.drew w.heap.size ov L) := OwnR.below HO8.out (Below.refl _ _).drew
          have c12 := (HGc.out L ov ▸ HVn0.out).facts.2.2.2.2.2.2.2.2.2.2.2.2
          refine wp_region_held_drew (S := (fun _ => True)) (by kernel_rfl) trivial (fun hHeld => ?_)
          refine wpAnyH_takeD (i := 0) (d := some 94) (v := .pointer (some ⟨eb, 0, none⟩)) rfl rfl (by kernel_rfl) (by kernel_rfl) (by kernel_rfl) (fun _ _ _ h => h) (Or.inl ⟨by rfl, fun _ _ => by rfl⟩) (by assumption) ?_
          simp only [Act.put, List.setIfInBounds_toArray, List.set_cons_zero, List.set_cons_succ]
          refine wpAnyH_takeD (i := 1) (d := some 95) (v := .pointer (some ⟨eb, 0, none⟩)) rfl rfl (by kernel_rfl) (by kernel_rfl) (by kernel_rfl) (fun _ _ _ h => h) (Or.inl ⟨by rfl, fun _ _ => by rfl⟩) (by assumption) ?_
          simp only [Act.put, List.setIfInBounds_toArray, List.set_cons_zero, List.set_cons_succ]
          refine wpAnyH_takeD (i := 2) (d := some 96) (v := .pointer (some ⟨eb, 0, none⟩)) rfl rfl (by kernel_rfl) (by kernel_rfl) (by kernel_rfl) (fun _ _ _ h => h) (Or.inl ⟨by rfl, fun wx hx => by (go_simp)⟩) (by assumption) ?_
          simp only [Act.put, List.setIfInBounds_toArray, List.set_cons_zero, List.set_cons_succ]
          refine wpAnyH_takeD (i := 3) (d := some 97) (v := .pointer (some ⟨eb, 6, none⟩)) rfl rfl (by kernel_rfl) (by kernel_rfl) (by kernel_rfl) (fun _ _ _ h => h) (Or.inl ⟨by rfl, fun _ _ => by rfl⟩) (by assumption) ?_
          simp only [Act.put, List.setIfInBounds_toArray, List.set_cons_zero, List.set_cons_succ]
          refine wpAnyH_takeD (i := 4) (d := some 98) (v := .pointer (some ⟨eb, 12, none⟩)) rfl rfl (by kernel_rfl) (by kernel_rfl) (by kernel_rfl) (fun _ _ _ h => h) (Or.inl ⟨by rfl, fun _ _ => by rfl⟩) (by assumption) ?_
          simp only [Act.put, List.setIfInBounds_toArray, List.set_cons_zero, List.set_cons_succ]
          refine wpAnyH_takeD (i := 6) (d := some 100) (v := .pointer (some ⟨pb, 0, none⟩)) rfl rfl (by kernel_rfl) (by kernel_rfl) (by kernel_rfl) (fun _ _ _ h => h) (Or.inl ⟨by rfl, fun _ _ => by rfl⟩) (by assumption) ?_
          simp only [Act.put, List.setIfInBounds_toArray, List.set_cons_zero, List.set_cons_succ]
          refine wpAnyH_takeD (i := 8) (d := some 102) (v := .pointer (some ⟨pb, 0, none⟩)) rfl rfl (by kernel_rfl) (by kernel_rfl) (by kernel_rfl) (fun _ _ _ h => h) (Or.inl ⟨by rfl, fun _ _ => by rfl⟩) (by assumption) ?_
          simp only [Act.put, List.setIfInBounds_toArray, List.set_cons_zero, List.set_cons_succ]
          refine wpAnyH_ready (rs := [5, 7]) (by kernel_rfl) (by simp) ?_
          refine AllReadyH.cons rfl (fun K hK => ?_) (AllReadyH.cons rfl (fun K hK => ?_) AllReadyH.nil)
          · rw [if_pos (by rfl)]
            go_simp
            refine hK.out _ _ trivial (fun hHeld => ?_)
            clear hK K
            refine wpAnyH_ready (rs := [7]) (by kernel_rfl) (by simp) ?_
            refine AllReadyH.cons rfl (fun K hK => ?_) AllReadyH.nil
            clear c12
            rw [if_pos (by rfl)]
            go_simp
            refine (number_any pb t b6 v8.drew HCn0.out (HE.out.below HXn0.out hB) (by omega) (fun s hs => hz s (List.mem_cons_of_mem _ hs))).mono ?_
            rintro e w9 ⟨x, b7, hnI, rfl, hn1, hn2, hcn, hbt⟩
            refine hK.out _ _ trivial (fun hHeld => ?_)
            clear hK K
            have HNS0 : Hid (NumSt t b6 x b7) := ⟨hnI, hn1, hn2⟩
            have HVn1 := Lib.hid (HVn0.out.but hbt (by omega))
            have HXn1 := Lib.hid (below_but HXn0.out hbt hBp HCn0.out.lt)
            have HOn1 := Lib.hid (HOn0.out.but hbt (by omega))
            have HCn1 := Lib.hid hcn
            clear hnI hn1 hn2 hcn hbt
            have c12 := HVn1.out.facts.2.2.2.2.2.2.2.2.2.2.2.2
            refine wpAnyH_ready (rs := [9]) (by kernel_rfl) (by simp) ?_
            refine AllReadyH.cons rfl (fun K hK => ?_) AllReadyH.nil
            clear c12
            rw [if_pos (by rfl)]
            go_simp
            refine (number_any pb t.tail b7 w9 HCn1.out (HE.out.below HXn1.out hB) (by omega) (fun s hs => hz s (List.mem_cons_of_mem _ (List.mem_of_mem_tail hs)))).mono ?_
            rintro e w10 ⟨y, b8, hnI, rfl, hn1, hn2, hcn, hbt⟩
            refine hK.out _ _ trivial (fun hHeld => ?_)
            clear hK K
            have HNS1 : Hid (NumSt t.tail b7 y b8) := ⟨hnI, hn1, hn2⟩
            have HVn2 := Lib.hid (HVn1.out.but hbt (by omega))
            have HXn2 := Lib.hid (below_but HXn1.out hbt hBp HCn1.out.lt)
            have HOn2 := Lib.hid (HOn1.out.but hbt (by omega))
            have HCn2 := Lib.hid hcn
            clear hnI hn1 hn2 hcn hbt
            have c12 := HVn2.out.facts.2.2.2.2.2.2.2.2.2.2.2.2
            refine wpAnyH_takeD (i := 10) (d := some 104) (v := .agg #[.int .i64 x, .int .i64 y]) rfl rfl (by kernel_rfl) (by kernel_rfl) (by kernel_rfl) (fun _ _ _ h => h) (Or.inl ⟨by rfl, fun wx hx => by (go_simp)⟩) (by assumption) ?_
            simp only [Act.put, List.setIfInBounds_toArray, List.set_cons_zero, List.set_cons_succ]
            obtain ⟨v', w', hrun, hown', hB'⟩ := append_rd HOn2.out x y (by omega) (by have := HXn2.out.size; omega) 32
            have Hrun := Lib.hid hrun
            have Hown' := Lib.hid hown'
            have HBa := Lib.hid hB'
            clear hrun hown' hB'
            refine wpAnyH_ready (rs := [11]) (by kernel_rfl) (by simp) ?_
            refine AllReadyH.cons rfl (fun K hK => ?_) AllReadyH.nil
            rw [if_pos (by rfl)]
            go_simp
            refine hK.out _ _ (trivial) (fun hHeld => ?_)
            clear hK K
            refine wpAnyH_ready (rs := [12]) (by kernel_rfl) (by simp) ?_
            refine AllReadyH.cons rfl (fun K hK => ?_) AllReadyH.nil
            refine step_append_run rfl _ _ _ rfl _ _ _ _ rfl rfl Hrun.out ?_
            refine hK.out _ _ (trivial) (fun hHeld => ?_)
            clear hK K
            simp only [Act.put, List.setIfInBounds_toArray, List.set_cons_zero, List.set_cons_succ]
            have HCa : Hid (Cur w' pb t.tail.tail b8) := HCn2.out.kept fun k hk => HBa.out.block k (by omega)
            have HVa : Hid (EvAt w' eb (evCells (G L) (.slice none 0 0) ov)) := HVn2.out.of_block (HBa.out.block eb (by omega))
            have HXa : Hid (Below B w w') := HXn2.out.trans (HBa.out.mono (by omega))
            obtain ⟨oa, on, oc, rfl⟩ := Hown'.out.slice
            rw [HGc.out] at HVa
            have e12 := HVa.out.facts.2.2.2.2.2.2.2.2.2.2.2.2
            have s12 := HVa.out.soft.2.2.2.2.2.2.2.2.2.2.2.2
            refine wpAnyH_takeD (i := 13) (d := some 107) (v := .pointer (some ⟨eb, 0, none⟩)) rfl rfl (by kernel_rfl) (by kernel_rfl) (by kernel_rfl) (fun _ _ _ h => h) (Or.inl ⟨by rfl, fun wx hx => by (go_simp)⟩) (by assumption) ?_
            simp only [Act.put, List.setIfInBounds_toArray, List.set_cons_zero, List.set_cons_succ]
            refine wpAnyH_takeD (i := 14) (d := some 108) (v := .pointer (some ⟨eb, 6, none⟩)) rfl rfl (by kernel_rfl) (by kernel_rfl) (by kernel_rfl) (fun _ _ _ h => h) (Or.inl ⟨by rfl, fun _ _ => by rfl⟩) (by assumption) ?_
            simp only [Act.put, List.setIfInBounds_toArray, List.set_cons_zero, List.set_cons_succ]
            refine wpAnyH_takeD (i := 15) (d := some 109) (v := .pointer (some ⟨eb, 12, none⟩)) rfl rfl (by kernel_rfl) (by kernel_rfl) (by kernel_rfl) (fun _ _ _ h => h) (Or.inl ⟨by rfl, fun _ _ => by rfl⟩) (by assumption) ?_
            simp only [Act.put, List.setIfInBounds_toArray, List.set_cons_zero, List.set_cons_succ]
            refine wpAnyH_ready (rs := [16]) (by kernel_rfl) (by simp) ?_
            refine AllReadyH.cons rfl (fun K hK => ?_) AllReadyH.nil
            rw [if_pos (by rfl)]
            go_simp
            refine hK.out _ _ (trivial) (fun hHeld => ?_)
            clear hK K
            clear e12 s12
            refine wpAnyH_done (by kernel_rfl) ?_ _
            go_wp2_with fail
            go_roundg t.tail.tail.length
            case measure => (have hk2 : _ = t.length + 1 := hk); simp; omega
            case rel =>
              refine ⟨t.tail.tail, b8, L ++ [(x, y)], _, rfl, HCa.out.setEb hpe 12 _, ?_, Hown'.out.setLow (by simp; omega) _, HXa.out.setCell (by simp; omega) _, HLf.out.step (by rw [← HB6.out]; exact HNS0.out) HNS1.out, fun s hs => hz s (List.mem_cons_of_mem _ (List.mem_of_mem_tail (List.mem_of_mem_tail hs))), ?_, ?_⟩
              · rw [HGc.out]; exact HVa.out.set 12 (by omega) _
              · intro p hp
                rcases List.mem_append.1 hp with hp | hp
                · exact hi p hp
                · obtain rfl := List.mem_singleton.1 hp; exact ⟨HNS0.out.1, HNS1.out.1⟩
              · have := hn; simp at this ⊢; omega
          · clear c12
            rw [if_pos (by rfl)]
            go_simp
            refine (number_any pb t b6 v8.drew HCn0.out (HE.out.below HXn0.out hB) (by omega) (fun s hs => hz s (List.mem_cons_of_mem _ hs))).mono ?_
            rintro e w9 ⟨x, b7, hnI, rfl, hn1, hn2, hcn, hbt⟩
            refine hK.out _ _ trivial (fun hHeld => ?_)
            clear hK K
            have HNS0 : Hid (NumSt t b6 x b7) := ⟨hnI, hn1, hn2⟩
            have HVn1 := Lib.hid (HVn0.out.but hbt (by omega))
            have HXn1 := Lib.hid (below_but HXn0.out hbt hBp HCn0.out.lt)
            have HOn1 := Lib.hid (HOn0.out.but hbt (by omega))
            have HCn1 := Lib.hid hcn
            clear hnI hn1 hn2 hcn hbt
            have c12 := HVn1.out.facts.2.2.2.2.2.2.2.2.2.2.2.2
            refine wpAnyH_ready (rs := [5, 9]) (by kernel_rfl) (by simp) ?_
            refine AllReadyH.cons rfl (fun K hK => ?_) (AllReadyH.cons rfl (fun K hK => ?_) AllReadyH.nil)
            · rw [if_pos (by rfl)]
              go_simp
              refine hK.out _ _ trivial (fun hHeld => ?_)
              clear hK K
              refine wpAnyH_ready (rs := [9]) (by kernel_rfl) (by simp) ?_
              refine AllReadyH.cons rfl (fun K hK => ?_) AllReadyH.nil
              clear c12
              rw [if_pos (by rfl)]
              go_simp
              refine (number_any pb t.tail b7 w9 HCn1.out (HE.out.below HXn1.out hB) (by omega) (fun s hs => hz s (List.mem_cons_of_mem _ (List.mem_of_mem_tail hs)))).mono ?_
              rintro e w10 ⟨y, b8, hnI, rfl, hn1, hn2, hcn, hbt⟩
              refine hK.out _ _ trivial (fun hHeld => ?_)
              clear hK K
              have HNS1 : Hid (NumSt t.tail b7 y b8) := ⟨hnI, hn1, hn2⟩
              have HVn2 := Lib.hid (HVn1.out.but hbt (by omega))
              have HXn2 := Lib.hid (below_but HXn1.out hbt hBp HCn1.out.lt)
              have HOn2 := Lib.hid (HOn1.out.but hbt (by omega))
              have HCn2 := Lib.hid hcn
              clear hnI hn1 hn2 hcn hbt
              have c12 := HVn2.out.facts.2.2.2.2.2.2.2.2.2.2.2.2
              refine wpAnyH_takeD (i := 10) (d := some 104) (v := .agg #[.int .i64 x, .int .i64 y]) rfl rfl (by kernel_rfl) (by kernel_rfl) (by kernel_rfl) (fun _ _ _ h => h) (Or.inl ⟨by rfl, fun wx hx => by (go_simp)⟩) (by assumption) ?_
              simp only [Act.put, List.setIfInBounds_toArray, List.set_cons_zero, List.set_cons_succ]
              obtain ⟨v', w', hrun, hown', hB'⟩ := append_rd HOn2.out x y (by omega) (by have := HXn2.out.size; omega) 32
              have Hrun := Lib.hid hrun
              have Hown' := Lib.hid hown'
              have HBa := Lib.hid hB'
              clear hrun hown' hB'
              refine wpAnyH_ready (rs := [11]) (by kernel_rfl) (by simp) ?_
              refine AllReadyH.cons rfl (fun K hK => ?_) AllReadyH.nil
              rw [if_pos (by rfl)]
              go_simp
              refine hK.out _ _ (trivial) (fun hHeld => ?_)
              clear hK K
              refine wpAnyH_ready (rs := [12]) (by kernel_rfl) (by simp) ?_
              refine AllReadyH.cons rfl (fun K hK => ?_) AllReadyH.nil
              refine step_append_run rfl _ _ _ rfl _ _ _ _ rfl rfl Hrun.out ?_
              refine hK.out _ _ (trivial) (fun hHeld => ?_)
              clear hK K
              simp only [Act.put, List.setIfInBounds_toArray, List.set_cons_zero, List.set_cons_succ]
              have HCa : Hid (Cur w' pb t.tail.tail b8) := HCn2.out.kept fun k hk => HBa.out.block k (by omega)
              have HVa : Hid (EvAt w' eb (evCells (G L) (.slice none 0 0) ov)) := HVn2.out.of_block (HBa.out.block eb (by omega))
              have HXa : Hid (Below B w w') := HXn2.out.trans (HBa.out.mono (by omega))
              obtain ⟨oa, on, oc, rfl⟩ := Hown'.out.slice
              rw [HGc.out] at HVa
              have e12 := HVa.out.facts.2.2.2.2.2.2.2.2.2.2.2.2
              have s12 := HVa.out.soft.2.2.2.2.2.2.2.2.2.2.2.2
              refine wpAnyH_takeD (i := 13) (d := some 107) (v := .pointer (some ⟨eb, 0, none⟩)) rfl rfl (by kernel_rfl) (by kernel_rfl) (by kernel_rfl) (fun _ _ _ h => h) (Or.inl ⟨by rfl, fun wx hx => by (go_simp)⟩) (by assumption) ?_
              simp only [Act.put, List.setIfInBounds_toArray, List.set_cons_zero, List.set_cons_succ]
              refine wpAnyH_takeD (i := 14) (d := some 108) (v := .pointer (some ⟨eb, 6, none⟩)) rfl rfl (by kernel_rfl) (by kernel_rfl) (by kernel_rfl) (fun _ _ _ h => h) (Or.inl ⟨by rfl, fun _ _ => by rfl⟩) (by assumption) ?_
              simp only [Act.put, List.setIfInBounds_toArray, List.set_cons_zero, List.set_cons_succ]
              refine wpAnyH_takeD (i := 15) (d := some 109) (v := .pointer (some ⟨eb, 12, none⟩)) rfl rfl (by kernel_rfl) (by kernel_rfl) (by kernel_rfl) (fun _ _ _ h => h) (Or.inl ⟨by rfl, fun _ _ => by rfl⟩) (by assumption) ?_
              simp only [Act.put, List.setIfInBounds_toArray, List.set_cons_zero, List.set_cons_succ]
              refine wpAnyH_ready (rs := [16]) (by kernel_rfl) (by simp) ?_
              refine AllReadyH.cons rfl (fun K hK => ?_) AllReadyH.nil
              rw [if_pos (by rfl)]
              go_simp
              refine hK.out _ _ (trivial) (fun hHeld => ?_)
              clear hK K
              clear e12 s12
              refine wpAnyH_done (by kernel_rfl) ?_ _
              go_wp2_with fail
              go_roundg t.tail.tail.length
              case measure => (have hk2 : _ = t.length + 1 := hk); simp; omega
              case rel =>
                refine ⟨t.tail.tail, b8, L ++ [(x, y)], _, rfl, HCa.out.setEb hpe 12 _, ?_, Hown'.out.setLow (by simp; omega) _, HXa.out.setCell (by simp; omega) _, HLf.out.step (by rw [← HB6.out]; exact HNS0.out) HNS1.out, fun s hs => hz s (List.mem_cons_of_mem _ (List.mem_of_mem_tail (List.mem_of_mem_tail hs))), ?_, ?_⟩
                · rw [HGc.out]; exact HVa.out.set 12 (by omega) _
                · intro p hp
                  rcases List.mem_append.1 hp with hp | hp
                  · exact hi p hp
                  · obtain rfl := List.mem_singleton.1 hp; exact ⟨HNS0.out.1, HNS1.out.1⟩
                · have := hn; simp at this ⊢; omega
            · clear c12
              rw [if_pos (by rfl)]
              go_simp
              refine (number_any pb t.tail b7 w9 HCn1.out (HE.out.below HXn1.out hB) (by omega) (fun s hs => hz s (List.mem_cons_of_mem _ (List.mem_of_mem_tail hs)))).mono ?_
              rintro e w10 ⟨y, b8, hnI, rfl, hn1, hn2, hcn, hbt⟩
              refine hK.out _ _ trivial (fun hHeld => ?_)
              clear hK K
              have HNS1 : Hid (NumSt t.tail b7 y b8) := ⟨hnI, hn1, hn2⟩
              have HVn2 := Lib.hid (HVn1.out.but hbt (by omega))
              have HXn2 := Lib.hid (below_but HXn1.out hbt hBp HCn1.out.lt)
              have HOn2 := Lib.hid (HOn1.out.but hbt (by omega))
              have HCn2 := Lib.hid hcn
              clear hnI hn1 hn2 hcn hbt
              have c12 := HVn2.out.facts.2.2.2.2.2.2.2.2.2.2.2.2
              refine wpAnyH_takeD (i := 10) (d := some 104) (v := .agg #[.int .i64 x, .int .i64 y]) rfl rfl (by kernel_rfl) (by kernel_rfl) (by kernel_rfl) (fun _ _ _ h => h) (Or.inl ⟨by rfl, fun wx hx => by (go_simp)⟩) (by assumption) ?_
              simp only [Act.put, List.setIfInBounds_toArray, List.set_cons_zero, List.set_cons_succ]
              refine wpAnyH_ready (rs := [5, 11]) (by kernel_rfl) (by simp) ?_
              refine AllReadyH.cons rfl (fun K hK => ?_) (AllReadyH.cons rfl (fun K hK => ?_) AllReadyH.nil)
              · rw [if_pos (by rfl)]
                go_simp
                refine hK.out _ _ trivial (fun hHeld => ?_)
                clear hK K
                obtain ⟨v', w', hrun, hown', hB'⟩ := append_rd HOn2.out x y (by omega) (by have := HXn2.out.size; omega) 32
                have Hrun := Lib.hid hrun
                have Hown' := Lib.hid hown'
                have HBa := Lib.hid hB'
                clear hrun hown' hB'
                refine wpAnyH_ready (rs := [11]) (by kernel_rfl) (by simp) ?_
                refine AllReadyH.cons rfl (fun K hK => ?_) AllReadyH.nil
                rw [if_pos (by rfl)]
                go_simp
                refine hK.out _ _ (trivial) (fun hHeld => ?_)
                clear hK K
                refine wpAnyH_ready (rs := [12]) (by kernel_rfl) (by simp) ?_
                refine AllReadyH.cons rfl (fun K hK => ?_) AllReadyH.nil
                refine step_append_run rfl _ _ _ rfl _ _ _ _ rfl rfl Hrun.out ?_
                refine hK.out _ _ (trivial) (fun hHeld => ?_)
                clear hK K
                simp only [Act.put, List.setIfInBounds_toArray, List.set_cons_zero, List.set_cons_succ]
                have HCa : Hid (Cur w' pb t.tail.tail b8) := HCn2.out.kept fun k hk => HBa.out.block k (by omega)
                have HVa : Hid (EvAt w' eb (evCells (G L) (.slice none 0 0) ov)) := HVn2.out.of_block (HBa.out.block eb (by omega))
                have HXa : Hid (Below B w w') := HXn2.out.trans (HBa.out.mono (by omega))
                obtain ⟨oa, on, oc, rfl⟩ := Hown'.out.slice
                rw [HGc.out] at HVa
                have e12 := HVa.out.facts.2.2.2.2.2.2.2.2.2.2.2.2
                have s12 := HVa.out.soft.2.2.2.2.2.2.2.2.2.2.2.2
                refine wpAnyH_takeD (i := 13) (d := some 107) (v := .pointer (some ⟨eb, 0, none⟩)) rfl rfl (by kernel_rfl) (by kernel_rfl) (by kernel_rfl) (fun _ _ _ h => h) (Or.inl ⟨by rfl, fun wx hx => by (go_simp)⟩) (by assumption) ?_
                simp only [Act.put, List.setIfInBounds_toArray, List.set_cons_zero, List.set_cons_succ]
                refine wpAnyH_takeD (i := 14) (d := some 108) (v := .pointer (some ⟨eb, 6, none⟩)) rfl rfl (by kernel_rfl) (by kernel_rfl) (by kernel_rfl) (fun _ _ _ h => h) (Or.inl ⟨by rfl, fun _ _ => by rfl⟩) (by assumption) ?_
                simp only [Act.put, List.setIfInBounds_toArray, List.set_cons_zero, List.set_cons_succ]
                refine wpAnyH_takeD (i := 15) (d := some 109) (v := .pointer (some ⟨eb, 12, none⟩)) rfl rfl (by kernel_rfl) (by kernel_rfl) (by kernel_rfl) (fun _ _ _ h => h) (Or.inl ⟨by rfl, fun _ _ => by rfl⟩) (by assumption) ?_
                simp only [Act.put, List.setIfInBounds_toArray, List.set_cons_zero, List.set_cons_succ]
                refine wpAnyH_ready (rs := [16]) (by kernel_rfl) (by simp) ?_
                refine AllReadyH.cons rfl (fun K hK => ?_) AllReadyH.nil
                rw [if_pos (by rfl)]
                go_simp
                refine hK.out _ _ (trivial) (fun hHeld => ?_)
                clear hK K
                clear e12 s12
                refine wpAnyH_done (by kernel_rfl) ?_ _
                go_wp2_with fail
                go_roundg t.tail.tail.length
                case measure => (have hk2 : _ = t.length + 1 := hk); simp; omega
                case rel =>
                  refine ⟨t.tail.tail, b8, L ++ [(x, y)], _, rfl, HCa.out.setEb hpe 12 _, ?_, Hown'.out.setLow (by simp; omega) _, HXa.out.setCell (by simp; omega) _, HLf.out.step (by rw [← HB6.out]; exact HNS0.out) HNS1.out, fun s hs => hz s (List.mem_cons_of_mem _ (List.mem_of_mem_tail (List.mem_of_mem_tail hs))), ?_, ?_⟩
                  · rw [HGc.out]; exact HVa.out.set 12 (by omega) _
                  · intro p hp
                    rcases List.mem_append.1 hp with hp | hp
                    · exact hi p hp
                    · obtain rfl := List.mem_singleton.1 hp; exact ⟨HNS0.out.1, HNS1.out.1⟩
                  · have := hn; simp at this ⊢; omega
              · clear c12
                obtain ⟨v', w', hrun, hown', hB'⟩ := append_rd HOn2.out x y (by omega) (by have := HXn2.out.size; omega) 32
                have Hrun := Lib.hid hrun
                have Hown' := Lib.hid hown'
                have HBa := Lib.hid hB'
                clear hrun hown' hB'
                rw [if_pos (by rfl)]
                go_simp
                refine hK.out _ _ trivial (fun hHeld => ?_)
                clear hK K
                have c12 := cell_then ((Below.refl w10.heap.size w10).alloc (Nat.le_refl _) (.cells #[.int .i64 x, .int .i64 y] 51)) (HVn2.out.facts.2.2.2.2.2.2.2.2.2.2.2.2)
                refine wpAnyH_ready (rs := [5]) (by kernel_rfl) (by simp) ?_
                refine AllReadyH.cons rfl (fun K hK => ?_) AllReadyH.nil
                rw [if_pos (by rfl)]
                go_simp
                refine hK.out _ _ trivial (fun hHeld => ?_)
                clear hK K
                refine wpAnyH_ready (rs := [12]) (by kernel_rfl) (by simp) ?_
                refine AllReadyH.cons rfl (fun K hK => ?_) AllReadyH.nil
                refine step_append_run rfl _ _ _ rfl _ _ _ _ rfl rfl Hrun.out ?_
                refine hK.out _ _ (trivial) (fun hHeld => ?_)
                clear hK K
                simp only [Act.put, List.setIfInBounds_toArray, List.set_cons_zero, List.set_cons_succ]
                have HCa : Hid (Cur w' pb t.tail.tail b8) := HCn2.out.kept fun k hk => HBa.out.block k (by omega)
                have HVa : Hid (EvAt w' eb (evCells (G L) (.slice none 0 0) ov)) := HVn2.out.of_block (HBa.out.block eb (by omega))
                have HXa : Hid (Below B w w') := HXn2.out.trans (HBa.out.mono (by omega))
                obtain ⟨oa, on, oc, rfl⟩ := Hown'.out.slice
                rw [HGc.out] at HVa
                have e12 := HVa.out.facts.2.2.2.2.2.2.2.2.2.2.2.2
                have s12 := HVa.out.soft.2.2.2.2.2.2.2.2.2.2.2.2
                refine wpAnyH_takeD (i := 13) (d := some 107) (v := .pointer (some ⟨eb, 0, none⟩)) rfl rfl (by kernel_rfl) (by kernel_rfl) (by kernel_rfl) (fun _ _ _ h => h) (Or.inl ⟨by rfl, fun wx hx => by (go_simp)⟩) (by assumption) ?_
                simp only [Act.put, List.setIfInBounds_toArray, List.set_cons_zero, List.set_cons_succ]
                refine wpAnyH_takeD (i := 14) (d := some 108) (v := .pointer (some ⟨eb, 6, none⟩)) rfl rfl (by kernel_rfl) (by kernel_rfl) (by kernel_rfl) (fun _ _ _ h => h) (Or.inl ⟨by rfl, fun _ _ => by rfl⟩) (by assumption) ?_
                simp only [Act.put, List.setIfInBounds_toArray, List.set_cons_zero, List.set_cons_succ]
                refine wpAnyH_takeD (i := 15) (d := some 109) (v := .pointer (some ⟨eb, 12, none⟩)) rfl rfl (by kernel_rfl) (by kernel_rfl) (by kernel_rfl) (fun _ _ _ h => h) (Or.inl ⟨by rfl, fun _ _ => by rfl⟩) (by assumption) ?_
                simp only [Act.put, List.setIfInBounds_toArray, List.set_cons_zero, List.set_cons_succ]
                refine wpAnyH_ready (rs := [16]) (by kernel_rfl) (by simp) ?_
                refine AllReadyH.cons rfl (fun K hK => ?_) AllReadyH.nil
                rw [if_pos (by rfl)]
                go_simp
                refine hK.out _ _ (trivial) (fun hHeld => ?_)
                clear hK K
                clear e12 s12
                refine wpAnyH_done (by kernel_rfl) ?_ _
                go_wp2_with fail
                go_roundg t.tail.tail.length
                case measure => (have hk2 : _ = t.length + 1 := hk); simp; omega
                case rel =>
                  refine ⟨t.tail.tail, b8, L ++ [(x, y)], _, rfl, HCa.out.setEb hpe 12 _, ?_, Hown'.out.setLow (by simp; omega) _, HXa.out.setCell (by simp; omega) _, HLf.out.step (by rw [← HB6.out]; exact HNS0.out) HNS1.out, fun s hs => hz s (List.mem_cons_of_mem _ (List.mem_of_mem_tail (List.mem_of_mem_tail hs))), ?_, ?_⟩
                  · rw [HGc.out]; exact HVa.out.set 12 (by omega) _
                  · intro p hp
                    rcases List.mem_append.1 hp with hp | hp
                    · exact hi p hp
                    · obtain rfl := List.mem_singleton.1 hp; exact ⟨HNS0.out.1, HNS1.out.1⟩
                  · have := hn; simp at this ⊢; omega

end Go.Proofs.YtobaoekibnloiaaGreatDoor
/- script's station. Printed by gen_pst.py. -/
namespace Go.Proofs.YtobaoekibnloiaaGreatDoor
open Go Go.RowKit

set_option maxHeartbeats 8000000 in
set_option maxRecDepth 100000 in
theorem pst_at (B pb eb : Nat) (ws : List ByteArray) (w : World) (h : Cur w pb ws false) (hev : EvAt w eb [.int .i64 4, .string ⟨#[]⟩, .slice none 0 0, .int .i64 0, .int .i64 0, .string ⟨#[]⟩, .int .i64 0, .bool false, .int .i64 0, .int .i64 0, .int .i64 0, .int .i64 0, (.slice none 0 0)]) (hE : Env w) (hB : 8 ≤ B) (hBp : B ≤ pb) (hpe : pb < eb) (hsz : ∀ s ∈ ws, s.size ≤ 1000000) (hc : ws.tail.tail.tail.headD ByteArray.empty = kwAt) :
    Calls Tryz.prog 37 #[.pointer (some ⟨pb, 0, none⟩), .pointer (some ⟨eb, 0, none⟩)] w (StRd B pb eb ws w) := by
  have hpw := h.lt
  have hew := hev.lt
  have HC := Lib.hid h
  have HV := Lib.hid hev
  have HE := Lib.hid hE
  have HZ := Lib.hid hsz
  have hs8 := hE.size
  clear h hev hE hsz
  go_enter Tryz.func37, Tryz.ntmps37
  go_wp2_with fail
  refine wp_region_held_drew (S := (fun _ => True)) (by kernel_rfl) trivial (fun hHeld => ?_)
  refine wpAnyH_takeD (i := 0) (d := some 4) (v := .pointer (some ⟨eb, 0, none⟩)) rfl rfl (by kernel_rfl) (by kernel_rfl) (by kernel_rfl) (fun _ _ _ h => h) (Or.inl ⟨by rfl, fun _ _ => by rfl⟩) (by assumption) ?_
  simp only [Act.put, List.setIfInBounds_toArray, List.set_cons_zero, List.set_cons_succ]
  refine wpAnyH_takeD (i := 2) (d := some 6) (v := .pointer (some ⟨pb, 0, none⟩)) rfl rfl (by kernel_rfl) (by kernel_rfl) (by kernel_rfl) (fun _ _ _ h => h) (Or.inl ⟨by rfl, fun _ _ => by rfl⟩) (by assumption) ?_
  simp only [Act.put, List.setIfInBounds_toArray, List.set_cons_zero, List.set_cons_succ]
  refine wpAnyH_takeD (i := 3) (d := some 7) (v := .pointer (some ⟨pb, 0, none⟩)) rfl rfl (by kernel_rfl) (by kernel_rfl) (by kernel_rfl) (fun _ _ _ h => h) (Or.inl ⟨by rfl, fun wx hx => by (go_simp)⟩) (by assumption) ?_
  simp only [Act.put, List.setIfInBounds_toArray, List.set_cons_zero, List.set_cons_succ]
  refine wpAnyH_takeD (i := 4) (d := some 8) (v := .pointer (some ⟨pb, 0, none⟩)) rfl rfl (by kernel_rfl) (by kernel_rfl) (by kernel_rfl) (fun _ _ _ h => h) (Or.inl ⟨by rfl, fun _ _ => by rfl⟩) (by assumption) ?_
  simp only [Act.put, List.setIfInBounds_toArray, List.set_cons_zero, List.set_cons_succ]
  refine wpAnyH_ready (rs := [1]) (by kernel_rfl) (by simp) ?_
  refine AllReadyH.cons rfl (fun K hK => ?_) AllReadyH.nil
  rw [if_pos (by rfl)]
  go_simp
  refine (skinds_at w.drew w.heap.size rfl).mono ?_
  rintro e w1 ⟨rfl, hb1, hH1, hk1⟩
  refine hK.out _ _ (trivial) (fun hHeld => ?_)
  clear hK K
  have hb1 := below_then ((Below.refl w.heap.size w).drew) hb1
  have HC1 := Lib.hid (HC.out.below hb1)
  have HV1 := Lib.hid (HV.out.below hb1)
  have HX1 := Lib.hid hb1
  have HK1 := Lib.hid hk1
  clear hb1 hk1
  refine wpAnyH_ready (rs := [5]) (by kernel_rfl) (by simp) ?_
  refine AllReadyH.cons rfl (fun K hK => ?_) AllReadyH.nil
  rw [if_pos (by rfl)]
  go_simp
  refine (next_any pb ws false w1 HC1.out).mono ?_
  rintro e w2 ⟨rfl, hc2, hb2⟩
  refine hK.out _ _ (trivial) (fun hHeld => ?_)
  clear hK K
  have HC2 := Lib.hid hc2
  have HV2 := Lib.hid (HV1.out.but hb2 (by omega))
  have HX2 : Hid (Below B w w2) := (HX1.out.mono (by omega)).trans ((hb2.mono (by have := HX1.out.size; omega)).below hBp)
  have hK2 : ∀ j, j < KL.length → w2.cell? ⟨w.heap.size, 0 + j, none⟩ = some (.string (KL.getD j ByteArray.empty)) := fun j hj => by rw [Nat.zero_add, hb2.cell (p := ⟨w.heap.size, j, none⟩) hH1 (by simp; omega)]; exact HK1.out j hj
  have HK2 := Lib.hid hK2
  clear hc2 hb2 hK2 hH1 HK1 HX1
  obtain ⟨a0, ha0⟩ : ∃ a0, a0 = ws.headD ByteArray.empty := ⟨_, rfl⟩
  rw [← ha0]
  have HA0 := Lib.hid ha0
  clear ha0
  refine wpAnyH_ready (rs := [6]) (by kernel_rfl) (by simp) ?_
  refine AllReadyH.cons rfl (fun K hK => ?_) AllReadyH.nil
  rw [if_pos (by rfl)]
  go_simp
  refine (index4 w.heap.size a0 w2 HK2.out).mono ?_
  rintro e w3 ⟨rfl, hw3⟩
  refine hK.out _ _ (trivial) (fun hHeld => ?_)
  clear hK K
  obtain rfl := hw3.symm
  obtain ⟨st, hst⟩ : ∃ st, st = (kindF a0).getD 0 := ⟨_, rfl⟩
  have hix := idx_kind a0
  rw [← hst] at hix
  change max (Lib.idxOfS KL a0) 0 = st at hix
  have HST := Lib.hid hst
  clear hst
  generalize Lib.idxOfS KL a0 = ix at *
  refine wpAnyH_takeD (i := 7) (d := some 11) (v := .int .i64 st) rfl rfl (by kernel_rfl) (by kernel_rfl) (by kernel_rfl) (fun _ _ _ h => h) (Or.inl ⟨by rfl, fun wx hx => by (go_simp)⟩) (by assumption) ?_
  simp only [Act.put, List.setIfInBounds_toArray, List.set_cons_zero, List.set_cons_succ]
  clear hix
  refine wpAnyH_takeD (i := 8) (d := some 12) (v := .pointer (some ⟨eb, 0, none⟩)) rfl rfl (by kernel_rfl) (by kernel_rfl) (by kernel_rfl) (fun _ _ _ h => h) (Or.inl ⟨by rfl, fun wx hx => by (go_simp)⟩) (by assumption) ?_
  simp only [Act.put, List.setIfInBounds_toArray, List.set_cons_zero, List.set_cons_succ]
  refine wpAnyH_takeD (i := 9) (d := some 13) (v := .pointer (some ⟨eb, 4, none⟩)) rfl rfl (by kernel_rfl) (by kernel_rfl) (by kernel_rfl) (fun _ _ _ h => h) (Or.inl ⟨by rfl, fun _ _ => by rfl⟩) (by assumption) ?_
  simp only [Act.put, List.setIfInBounds_toArray, List.set_cons_zero, List.set_cons_succ]
  have e4 := HV2.out.facts.2.2.2.2.1
  have s4 := HV2.out.soft.2.2.2.2.1
  refine wpAnyH_ready (rs := [10]) (by kernel_rfl) (by simp) ?_
  refine AllReadyH.cons rfl (fun K hK => ?_) AllReadyH.nil
  rw [if_pos (by rfl)]
  go_simp
  refine hK.out _ _ (trivial) (fun hHeld => ?_)
  clear hK K
  clear e4 s4
  refine wpAnyH_done (by kernel_rfl) ?_ _
  obtain ⟨v1, hv1⟩ : ∃ v1, v1 = w2.setCell ⟨eb, 4, none⟩ (.int .i64 st) := ⟨_, rfl⟩
  rw [← hv1]
  obtain ⟨b1, hb1⟩ : ∃ b1, b1 = (false || ws.isEmpty) := ⟨_, rfl⟩
  have HC3 : Hid (Cur v1 pb ws.tail b1) := by rw [hb1, hv1]; exact HC2.out.setEb hpe 4 _
  have HV3 : Hid (EvAt v1 eb [.int .i64 4, .string ⟨#[]⟩, .slice none 0 0, .int .i64 0, .int .i64 st, .string ⟨#[]⟩, .int .i64 0, .bool false, .int .i64 0, .int .i64 0, .int .i64 0, .int .i64 0, (.slice none 0 0)]) := by rw [hv1]; exact HV2.out.set 4 (by omega) _
  have HX3 : Hid (Below B w v1) := by rw [hv1]; exact HX2.out.setCell (by simp; omega) _
  have HB1 := Lib.hid hb1
  obtain ⟨ca, cc, c0, c1, f1, hcc, hcl⟩ := curFacts HC3.out
  have e4 := HV3.out.facts.2.2.2.2.1
  clear hb1 hv1 HC2 HV2 HX2 HC1 HV1 hHeld
  go_upto_region 1 with fail
  go_cut [] (fun wx => wx = v1.setCell ⟨pb, 1, none⟩ (.bool (b1 || st == 0)))
  case first =>
    go_wp2_with fail
    all_goals
      go_meet
      rename_i hq
      first | (rw [hq]; rfl) | (have hq2 : b1 = false := (by simpa using hq); rw [hq2]; rfl)
  case rest =>
    clear c0 c1 f1 hcc hcl e4
    obtain ⟨b2, hb2⟩ : ∃ b2, b2 = (b1 || st == 0) := ⟨_, rfl⟩
    rw [← hb2] at hcut
    have HC4 : Hid (Cur wc pb ws.tail b2) := by rw [hcut]; exact HC3.out.mark b2
    have HV4 : Hid (EvAt wc eb [.int .i64 4, .string ⟨#[]⟩, .slice none 0 0, .int .i64 0, .int .i64 st, .string ⟨#[]⟩, .int .i64 0, .bool false, .int .i64 0, .int .i64 0, .int .i64 0, .int .i64 0, (.slice none 0 0)]) := by rw [hcut]; exact HV3.out.setPb hpe 1 _
    have HX4 : Hid (Below B w wc) := by rw [hcut]; exact HX3.out.setCell (by simp; omega) _
    have HB2 := Lib.hid hb2
    clear hb2 hcut HC3 HV3 HX3
    go_wp2_with fail
    refine (name_any pb ws.tail b2 wc HC4.out (fun s hs => HZ.out s (List.mem_of_mem_tail hs))).mono ?_
    rintro e w4 ⟨b3, rfl, hb3, hc4, hbt4⟩
    have HV5 := Lib.hid (HV4.out.but hbt4 (by omega))
    have HX5 := Lib.hid (below_but HX4.out hbt4 hBp HC4.out.lt)
    have HC5 := Lib.hid hc4
    have HB3 := Lib.hid hb3
    clear hb3 hc4 hbt4
    obtain ⟨a1, ha1⟩ : ∃ a1, a1 = ws.tail.headD ByteArray.empty := ⟨_, rfl⟩
    rw [← ha1]
    have HA1 := Lib.hid ha1
    clear ha1
    have e5 := HV5.out.facts.2.2.2.2.2.1
    have s5 := HV5.out.soft.2.2.2.2.2.1
    go_wp2_with fail
    clear e5 s5
    obtain ⟨v5, hv5⟩ : ∃ v5, v5 = w4.setCell ⟨eb, 5, none⟩ (.string a1) := ⟨_, rfl⟩
    rw [← hv5]
    have HC6 : Hid (Cur v5 pb ws.tail.tail b3) := by rw [hv5]; exact HC5.out.setEb hpe 5 _
    have HV6 : Hid (EvAt v5 eb [.int .i64 4, .string ⟨#[]⟩, .slice none 0 0, .int .i64 0, .int .i64 st, .string a1, .int .i64 0, .bool false, .int .i64 0, .int .i64 0, .int .i64 0, .int .i64 0, (.slice none 0 0)]) := by rw [hv5]; exact HV5.out.set 5 (by omega) _
    have HX6 : Hid (Below B w v5) := by rw [hv5]; exact HX5.out.setCell (by simp; omega) _
    clear hv5 HC5 HV5 HX5 HC4 HV4 HX4
    refine (number_any pb ws.tail.tail b3 v5 HC6.out (HE.out.below HX6.out hB) (by omega) (fun s hs => HZ.out s (List.mem_of_mem_tail (List.mem_of_mem_tail hs)))).mono ?_
    rintro e w5 ⟨n, b4, hnI, rfl, hn1, hn2, hc5, hbt5⟩
    have HN : Hid (NumSt ws.tail.tail b3 n b4) := ⟨hnI, hn1, hn2⟩
    have HV7 := Lib.hid (HV6.out.but hbt5 (by omega))
    have HX7 := Lib.hid (below_but HX6.out hbt5 hBp HC6.out.lt)
    have HC7 := Lib.hid hc5
    clear hnI hn1 hn2 hc5 hbt5
    have e6 := HV7.out.facts.2.2.2.2.2.2.1
    have s6 := HV7.out.soft.2.2.2.2.2.2.1
    go_wp2_with fail
    clear e6 s6
    obtain ⟨v6, hv6⟩ : ∃ v6, v6 = w5.setCell ⟨eb, 6, none⟩ (.int .i64 n) := ⟨_, rfl⟩
    rw [← hv6]
    have HC8 : Hid (Cur v6 pb ws.tail.tail.tail b4) := by rw [hv6]; exact HC7.out.setEb hpe 6 _
    have HV8 : Hid (EvAt v6 eb [.int .i64 4, .string ⟨#[]⟩, .slice none 0 0, .int .i64 0, .int .i64 st, .string a1, .int .i64 n, .bool false, .int .i64 0, .int .i64 0, .int .i64 0, .int .i64 0, (.slice none 0 0)]) := by rw [hv6]; exact HV7.out.set 6 (by omega) _
    have HX8 : Hid (Below B w v6) := by rw [hv6]; exact HX7.out.setCell (by simp; omega) _
    clear hv6 HC6 HV6 HX6 HC7 HV7 HX7
    refine (next_any pb ws.tail.tail.tail b4 v6 HC8.out).mono ?_
    rintro e w6 ⟨rfl, hc6, hbt6⟩
    have HV9 := Lib.hid (HV8.out.but hbt6 (by omega))
    have HX9 := Lib.hid (below_but HX8.out hbt6 hBp HC8.out.lt)
    obtain ⟨b5, hb5⟩ : ∃ b5, b5 = (b4 || ws.tail.tail.tail.isEmpty) := ⟨_, rfl⟩
    rw [← hb5] at hc6
    have HB5 := Lib.hid hb5
    have HC9 := Lib.hid hc6
    have HH : Hid ((b5 = false → ws = a0 :: a1 :: ws.tail.tail.headD ByteArray.empty :: ws.tail.tail.tail.headD ByteArray.empty :: ws.tail.tail.tail.tail ∧ kindF a0 = some st ∧ nameOk a1 = true ∧ numF (ws.tail.tail.headD ByteArray.empty) = some n) ∧ (b5 = true → stF ws = none)) := by
      have h3 : b3 = false ↔ (ws.isEmpty || ((kindF (ws.headD ByteArray.empty)).getD 0 == 0)) = false ∧ nameOk (ws.tail.headD ByteArray.empty) = true := by
        have := HB3.out
        rw [HB2.out, HB1.out, HST.out, HA0.out] at this
        simpa using this
      refine ⟨fun h => ?_, fun h => ?_⟩
      · have q := head_ok h3 HN.out (by rw [← HB5.out]; exact h)
        rw [HST.out, HA0.out, HA1.out]; exact q
      · exact head_bad h3 HN.out (by rw [← HB5.out]; exact h)
    have HA1z : Hid (a1.size ≤ 1000000) := by
      unfold Hid
      rw [HA1.out]
      cases hq : ws.tail with
      | nil => exact Nat.zero_le _
      | cons z r => exact HZ.out z (List.mem_of_mem_tail (by rw [hq]; simp))
    have HSTI : Hid (I64 st) := by
      unfold Hid I64
      rw [HST.out]
      cases hq : kindF a0 with
      | none => simp
      | some k => have := kindF_iff.1 hq; simp; omega
    clear hb5 hc6 hbt6 HC8 HV8 HX8 HB1 HB2 HB3 HB5 HST
    rw [hc]
    unfold kwAt
    have HS4 : Hid (∀ s ∈ ws.tail.tail.tail.tail, s.size ≤ 1000000) := fun s hs => HZ.out s (List.mem_of_mem_tail (List.mem_of_mem_tail (List.mem_of_mem_tail (List.mem_of_mem_tail hs))))
    have HHa : Hid (∀ p q u s : Int, ∀ R, b5 = false → ws.tail.tail.tail.tail = istr p :: istr q :: istr u :: istr s :: R → ¬ longI p → ¬ longI q → ¬ longI u → ¬ longI s → stF ws = (biasF R).map fun l => evSt st a1 n false p q u s l) := fun p q u s R hb ht hp hq hu hs => by
      obtain ⟨q1, q2, q3, q4⟩ := HH.out.1 hb
      rw [hc, ht] at q1
      conv => lhs; rw [q1]
      exact st_at q2 q3 q4 (numF_iff.2 ⟨hp, rfl⟩) (numF_iff.2 ⟨hq, rfl⟩) (numF_iff.2 ⟨hu, rfl⟩) (numF_iff.2 ⟨hs, rfl⟩)
    have HHb : Hid (b5 = false → (¬ ∃ p q u s : Int, ∃ r, ws.tail.tail.tail.tail = istr p :: istr q :: istr u :: istr s :: r ∧ ¬ longI p ∧ ¬ longI q ∧ ¬ longI u ∧ ¬ longI s) → stF ws = none) := fun hb hn => by
      obtain ⟨q1, q2, q3, q4⟩ := HH.out.1 hb
      rw [hc] at q1
      rw [q1]
      exact st_at_bad hn
    clear hc
    generalize ws.tail.tail.tail.tail = T at *
    go_wp2_with fail
    refine (number_any pb T b5 w6 HC9.out (HE.out.below HX9.out hB) (by omega) (fun s hs => HS4.out s (hs))).mono ?_
    rintro e w10 ⟨p, b6, hnI, rfl, hn1, hn2, hcn, hbt⟩
    have HM1 : Hid (NumSt T b5 p b6) := ⟨hnI, hn1, hn2⟩
    have HVm1 := Lib.hid (HV9.out.but hbt (by omega))
    have HXm1 := Lib.hid (below_but HX9.out hbt hBp HC9.out.lt)
    have HCm1 := Lib.hid hcn
    clear hnI hn1 hn2 hcn hbt
    go_wp2_with fail
    refine (number_any pb T.tail b6 w10 HCm1.out (HE.out.below HXm1.out hB) (by omega) (fun s hs => HS4.out s (List.mem_of_mem_tail hs))).mono ?_
    rintro e w11 ⟨q, b7, hnI, rfl, hn1, hn2, hcn, hbt⟩
    have HM2 : Hid (NumSt T.tail b6 q b7) := ⟨hnI, hn1, hn2⟩
    have HVm2 := Lib.hid (HVm1.out.but hbt (by omega))
    have HXm2 := Lib.hid (below_but HXm1.out hbt hBp HCm1.out.lt)
    have HCm2 := Lib.hid hcn
    clear hnI hn1 hn2 hcn hbt
    go_wp2_with fail
    refine (number_any pb T.tail.tail b7 w11 HCm2.out (HE.out.below HXm2.out hB) (by omega) (fun s hs => HS4.out s (List.mem_of_mem_tail (List.mem_of_mem_tail hs)))).mono ?_
    rintro e w12 ⟨u, b8, hnI, rfl, hn1, hn2, hcn, hbt⟩
    have HM3 : Hid (NumSt T.tail.tail b7 u b8) := ⟨hnI, hn1, hn2⟩
    have HVm3 := Lib.hid (HVm2.out.but hbt (by omega))
    have HXm3 := Lib.hid (below_but HXm2.out hbt hBp HCm2.out.lt)
    have HCm3 := Lib.hid hcn
    clear hnI hn1 hn2 hcn hbt
    go_wp2_with fail
    refine (number_any pb T.tail.tail.tail b8 w12 HCm3.out (HE.out.below HXm3.out hB) (by omega) (fun s hs => HS4.out s (List.mem_of_mem_tail (List.mem_of_mem_tail (List.mem_of_mem_tail hs))))).mono ?_
    rintro e w13 ⟨s, b9, hnI, rfl, hn1, hn2, hcn, hbt⟩
    have HM4 : Hid (NumSt T.tail.tail.tail b8 s b9) := ⟨hnI, hn1, hn2⟩
    have HVm4 := Lib.hid (HVm3.out.but hbt (by omega))
    have HXm4 := Lib.hid (below_but HXm3.out hbt hBp HCm3.out.lt)
    have HCm4 := Lib.hid hcn
    clear hnI hn1 hn2 hcn hbt
    have g8 := HVm4.out.facts.2.2.2.2.2.2.2.2.1
    have g9 := HVm4.out.facts.2.2.2.2.2.2.2.2.2.1
    have g10 := HVm4.out.facts.2.2.2.2.2.2.2.2.2.2.1
    have g11 := HVm4.out.facts.2.2.2.2.2.2.2.2.2.2.2.1
    have s8 := HVm4.out.soft.2.2.2.2.2.2.2.2.1
    have s9 := HVm4.out.soft.2.2.2.2.2.2.2.2.2.1
    have s10 := HVm4.out.soft.2.2.2.2.2.2.2.2.2.2.1
    have s11 := HVm4.out.soft.2.2.2.2.2.2.2.2.2.2.2.1
    go_wp2_with fail
    clear g8 g9 g10 g11 s8 s9 s10 s11
    obtain ⟨v7, hv7⟩ : ∃ v7, v7 = (((w13.setCell ⟨eb, 8, none⟩ (.int .i64 p)).setCell ⟨eb, 9, none⟩ (.int .i64 q)).setCell ⟨eb, 10, none⟩ (.int .i64 u)).setCell ⟨eb, 11, none⟩ (.int .i64 s) := ⟨_, rfl⟩
    rw [← hv7]
    have HCl : Hid (Cur v7 pb T.tail.tail.tail.tail b9) := by rw [hv7]; exact (((HCm4.out.setEb hpe 8 _).setEb hpe 9 _).setEb hpe 10 _).setEb hpe 11 _
    have HVl : Hid (EvAt v7 eb (evCells (evSt st a1 n false p q u s []) (.slice none 0 0) (.slice none 0 0))) := by rw [hv7]; exact (((HVm4.out.set 8 (by omega) _).set 9 (by omega) _).set 10 (by omega) _).set 11 (by omega) _
    have HXl : Hid (Below B w v7) := by rw [hv7]; exact (((HXm4.out.setCell (by simp; omega) _).setCell (by simp; omega) _).setCell (by simp; omega) _).setCell (by simp; omega) _
    have HLl : Hid (Left (stF ws) (evSt st a1 n false p q u s) T.tail.tail.tail.tail b9 []) := by
      refine ⟨fun hb => ?_, fun hb => ?_⟩
      · cases hq : b5 with
        | true => exact HH.out.2 hq
        | false => exact HHb.out hq (at_bad HM1.out HM2.out HM3.out HM4.out hq hb)
      · obtain ⟨z0, z1, z2, z3, z4, z5⟩ := at_ok HM1.out HM2.out HM3.out HM4.out hb
        exact HHa.out p q u s _ z0 z1 z2 z3 z4 z5
    have HSl : Hid (∀ s ∈ T.tail.tail.tail.tail, s.size ≤ 1000000) := fun s hs => HS4.out s (List.mem_of_mem_tail (List.mem_of_mem_tail (List.mem_of_mem_tail (List.mem_of_mem_tail hs))))
    have HGo : Hid (∀ l, (evSt st a1 n false p q u s l).Ok) := fun l => ⟨by unfold I64; simp [evSt], by simp [evSt, ByteArray.size], I64.zero, HSTI.out, HA1z.out, HN.out.1, HM1.out.1, HM2.out.1, HM3.out.1, HM4.out.1⟩
    clear hv7 HC9 HV9 HX9 HCm1 HVm1 HXm1 HCm2 HVm2 HXm2 HCm3 HVm3 HXm3 HCm4 HVm4 HXm4 HM1 HM2 HM3 HM4 HHa HHb HS4
    generalize T.tail.tail.tail.tail = R0 at *
    have HGc : Hid (∀ l ov, evCells (evSt st a1 n false p q u s l) (.slice none 0 0) ov = [.int .i64 4, .string ⟨#[]⟩, .slice none 0 0, .int .i64 0, .int .i64 st, .string a1, .int .i64 n, .bool false, .int .i64 p, .int .i64 q, .int .i64 u, .int .i64 s, ov]) := fun _ _ => rfl
    generalize hG : evSt st a1 n false p q u s = G at *
    have HGb : Hid (∀ l, (G l).bias = l) := by subst hG; exact fun _ => rfl
    clear hG
    have hR0 : R0.length ≤ 1000000 := by obtain ⟨_, _, _, _, _, q1, q2⟩ := curFacts HCl.out; omega
    go_loopg [] (R0.length) (fun k wr => StL B pb eb ws w G k wr)
    case atStart => exact ⟨R0, b9, [], _, rfl, HCl.out, HVl.out, OwnR.nil _ _, HXl.out, HLl.out, HSl.out, by simp, by simpa using hR0⟩
    case round =>
      obtain ⟨rest, bad, L, ov, hk, hcr, hvr, hor, hxr, hlr, hz, hi, hn⟩ := hrel
      have HLf := Lib.hid hlr
      have HCn := Lib.hid hcr
      have HVn := Lib.hid hvr
      have HOn := Lib.hid hor
      have HXn := Lib.hid hxr
      have HFin : Hid ((bad = true ∨ rest = []) → StRd B pb eb ws w (.returned (.tuple #[])) wr) := by
        intro hb
        refine ⟨rfl, hxr, G L, ov, rest, bad, hcr, hvr, ?_, hb, hlr.1, fun hbf => ?_⟩
        · obtain ⟨oa, on, oc, rfl⟩ := hor.slice; rfl
        · have hr : rest = [] := by rcases hb with hb | hb; rw [hbf] at hb; cases hb; exact hb
          subst hr hbf
          exact ⟨hlr.end_, HGo.out L, by rw [HGb.out]; exact BiasIn.of_own hor (by omega) hi⟩
      obtain ⟨ca, cc, c0, c1, f1, hcc, hcl⟩ := curFacts hcr
      clear hlr hcr hvr hor hxr hR0
      cases rest with
      | nil =>
        have c0 : wr.cell? ⟨pb, 0, none⟩ = some (.slice ca 0 cc) := c0
        go_wp2_with fail
        go_end0
        exact HFin.out (by simp)
      | cons a t =>
        obtain ⟨m, hm⟩ : ∃ m, m = (a :: t).length := ⟨_, rfl⟩
        rw [← hm] at c0 hcl
        have hm0 : (0 : Int) < (m : Int) := by rw [hm]; simp
        have Hm := Lib.hid hm
        clear hm
        cases bad with
        | true =>
          go_wp2_with fail
          go_end0
          exact HFin.out (by simp)
        | false =>
          clear HFin
          go_wp2_with fail
          clear c0 c1 f1
          refine (next_any pb (a :: t) false wr HCn.out).mono ?_
          rintro e w7 ⟨rfl, hc7, hbt7⟩
          have HV7 := Lib.hid (HVn.out.but hbt7 (by omega))
          have HX7 := Lib.hid (below_but HXn.out hbt7 hBp HCn.out.lt)
          have HO7 := Lib.hid (HOn.out.but hbt7 (by omega))
          have hc7 : Cur w7 pb t false := hc7
          have HC7 := Lib.hid hc7
          obtain ⟨ca, cc, c0, c1, f1, hcc, hcl⟩ := curFacts hc7
          obtain ⟨b9, hb9⟩ : ∃ b9, b9 = decide (a = kwBias) := ⟨_, rfl⟩
          have hbi : (a.toList == [98, 105, 97, 115]) = b9 := by
            have e : ([98, 105, 97, 115] : List UInt8) = kwBias.toList := by rw [Lib.toList_data]; rfl
            rw [hb9, e]
            by_cases q : a = kwBias
            · rw [q]; simp
            · rw [str_ne q]; simp [q]
          obtain ⟨b6, hb6⟩ : ∃ b6, b6 = !b9 := ⟨_, rfl⟩
          have HB6 : Hid (b6 = decide (a ≠ kwBias)) := by unfold Hid; rw [hb6, hb9]; simp
          have H6 := Lib.hid hb6
          clear hc7 hbt7 hb6 hb9
          go_wp2_with fail
          clear c0 c1 f1 hbi
          obtain ⟨v8, hv8⟩ : ∃ v8, v8 = w7.setCell ⟨pb, 1, none⟩ (.bool (!b9)) := ⟨_, rfl⟩
          rw [← hv8]
          rw [← H6.out] at hv8
          have HC8 : Hid (Cur v8 pb t b6) := by rw [hv8]; exact HC7.out.mark b6
          have HV8 : Hid (EvAt v8 eb (evCells (G L) (.slice none 0 0) ov)) := by rw [hv8]; exact HV7.out.setPb hpe 1 _
          have HX8 : Hid (Below B w v8) := by rw [hv8]; exact HX7.out.setCell (by simp; omega) _
          have HO8 : Hid (OwnR v8 w.heap.size ov L) := by rw [hv8]; exact HO7.out.setLow (by simp; omega) _
          have HLf : Hid (Left (stF ws) G (a :: t) false L) := HLf.out
          clear hv8 HC7 HV7 HX7 HO7
          have HCn0 : Hid (Cur v8.drew pb t b6) := HC8.out.kept fun k hk => rfl
          have HVn0 : Hid (EvAt v8.drew eb (evCells (G L) (.slice none 0 0) ov)) := HV8.out.drew
          have HXn0 : Hid (Below B w v8.drew) := HX8.out.drew
          have HOn0 : Hid (OwnR v8.drew w.heap.size ov L) := OwnR.below HO8.out (Below.refl _ _).drew
          have c12 := (HGc.out L ov ▸ HVn0.out).facts.2.2.2.2.2.2.2.2.2.2.2.2
          refine wp_region_held_drew (S := (fun _ => True)) (by kernel_rfl) trivial (fun hHeld => ?_)
          refine wpAnyH_takeD (i := 0) (d := some 94) (v := .pointer (some ⟨eb, 0, none⟩)) rfl rfl (by kernel_rfl) (by kernel_rfl) (by kernel_rfl) (fun _ _ _ h => h) (Or.inl ⟨by rfl, fun _ _ => by rfl⟩) (by assumption) ?_
          simp only [Act.put, List.setIfInBounds_toArray, List.set_cons_zero, List.set_cons_succ]
          refine wpAnyH_takeD (i := 1) (d := some 95) (v := .pointer (some ⟨eb, 0, none⟩)) rfl rfl (by kernel_rfl) (by kernel_rfl) (by kernel_rfl) (fun _ _ _ h => h) (Or.inl ⟨by rfl, fun _ _ => by rfl⟩) (by assumption) ?_
          simp only [Act.put, List.setIfInBounds_toArray, List.set_cons_zero, List.set_cons_succ]
          refine wpAnyH_takeD (i := 2) (d := some 96) (v := .pointer (some ⟨eb, 0, none⟩)) rfl rfl (by kernel_rfl) (by kernel_rfl) (by kernel_rfl) (fun _ _ _ h => h) (Or.inl ⟨by rfl, fun wx hx => by (go_simp)⟩) (by assumption) ?_
          simp only [Act.put, List.setIfInBounds_toArray, List.set_cons_zero, List.set_cons_succ]
          refine wpAnyH_takeD (i := 3) (d := some 97) (v := .pointer (some ⟨eb, 6, none⟩)) rfl rfl (by kernel_rfl) (by kernel_rfl) (by kernel_rfl) (fun _ _ _ h => h) (Or.inl ⟨by rfl, fun _ _ => by rfl⟩) (by assumption) ?_
          simp only [Act.put, List.setIfInBounds_toArray, List.set_cons_zero, List.set_cons_succ]
          refine wpAnyH_takeD (i := 4) (d := some 98) (v := .pointer (some ⟨eb, 12, none⟩)) rfl rfl (by kernel_rfl) (by kernel_rfl) (by kernel_rfl) (fun _ _ _ h => h) (Or.inl ⟨by rfl, fun _ _ => by rfl⟩) (by assumption) ?_
          simp only [Act.put, List.setIfInBounds_toArray, List.set_cons_zero, List.set_cons_succ]
          refine wpAnyH_takeD (i := 6) (d := some 100) (v := .pointer (some ⟨pb, 0, none⟩)) rfl rfl (by kernel_rfl) (by kernel_rfl) (by kernel_rfl) (fun _ _ _ h => h) (Or.inl ⟨by rfl, fun _ _ => by rfl⟩) (by assumption) ?_
          simp only [Act.put, List.setIfInBounds_toArray, List.set_cons_zero, List.set_cons_succ]
          refine wpAnyH_takeD (i := 8) (d := some 102) (v := .pointer (some ⟨pb, 0, none⟩)) rfl rfl (by kernel_rfl) (by kernel_rfl) (by kernel_rfl) (fun _ _ _ h => h) (Or.inl ⟨by rfl, fun _ _ => by rfl⟩) (by assumption) ?_
          simp only [Act.put, List.setIfInBounds_toArray, List.set_cons_zero, List.set_cons_succ]
          refine wpAnyH_ready (rs := [5, 7]) (by kernel_rfl) (by simp) ?_
          refine AllReadyH.cons rfl (fun K hK => ?_) (AllReadyH.cons rfl (fun K hK => ?_) AllReadyH.nil)
          · rw [if_pos (by rfl)]
            go_simp
            refine hK.out _ _ trivial (fun hHeld => ?_)
            clear hK K
            refine wpAnyH_ready (rs := [7]) (by kernel_rfl) (by simp) ?_
            refine AllReadyH.cons rfl (fun K hK => ?_) AllReadyH.nil
            clear c12
            rw [if_pos (by rfl)]
            go_simp
            refine (number_any pb t b6 v8.drew HCn0.out (HE.out.below HXn0.out hB) (by omega) (fun s hs => hz s (List.mem_cons_of_mem _ hs))).mono ?_
            rintro e w9 ⟨x, b7, hnI, rfl, hn1, hn2, hcn, hbt⟩
            refine hK.out _ _ trivial (fun hHeld => ?_)
            clear hK K
            have HNS0 : Hid (NumSt t b6 x b7) := ⟨hnI, hn1, hn2⟩
            have HVn1 := Lib.hid (HVn0.out.but hbt (by omega))
            have HXn1 := Lib.hid (below_but HXn0.out hbt hBp HCn0.out.lt)
            have HOn1 := Lib.hid (HOn0.out.but hbt (by omega))
            have HCn1 := Lib.hid hcn
            clear hnI hn1 hn2 hcn hbt
            have c12 := HVn1.out.facts.2.2.2.2.2.2.2.2.2.2.2.2
            refine wpAnyH_ready (rs := [9]) (by kernel_rfl) (by simp) ?_
            refine AllReadyH.cons rfl (fun K hK => ?_) AllReadyH.nil
            clear c12
            rw [if_pos (by rfl)]
            go_simp
            refine (number_any pb t.tail b7 w9 HCn1.out (HE.out.below HXn1.out hB) (by omega) (fun s hs => hz s (List.mem_cons_of_mem _ (List.mem_of_mem_tail hs)))).mono ?_
            rintro e w10 ⟨y, b8, hnI, rfl, hn1, hn2, hcn, hbt⟩
            refine hK.out _ _ trivial (fun hHeld => ?_)
            clear hK K
            have HNS1 : Hid (NumSt t.tail b7 y b8) := ⟨hnI, hn1, hn2⟩
            have HVn2 := Lib.hid (HVn1.out.but hbt (by omega))
            have HXn2 := Lib.hid (below_but HXn1.out hbt hBp HCn1.out.lt)
            have HOn2 := Lib.hid (HOn1.out.but hbt (by omega))
            have HCn2 := Lib.hid hcn
            clear hnI hn1 hn2 hcn hbt
            have c12 := HVn2.out.facts.2.2.2.2.2.2.2.2.2.2.2.2
            refine wpAnyH_takeD (i := 10) (d := some 104) (v := .agg #[.int .i64 x, .int .i64 y]) rfl rfl (by kernel_rfl) (by kernel_rfl) (by kernel_rfl) (fun _ _ _ h => h) (Or.inl ⟨by rfl, fun wx hx => by (go_simp)⟩) (by assumption) ?_
            simp only [Act.put, List.setIfInBounds_toArray, List.set_cons_zero, List.set_cons_succ]
            obtain ⟨v', w', hrun, hown', hB'⟩ := append_rd HOn2.out x y (by omega) (by have := HXn2.out.size; omega) 32
            have Hrun := Lib.hid hrun
            have Hown' := Lib.hid hown'
            have HBa := Lib.hid hB'
            clear hrun hown' hB'
            refine wpAnyH_ready (rs := [11]) (by kernel_rfl) (by simp) ?_
            refine AllReadyH.cons rfl (fun K hK => ?_) AllReadyH.nil
            rw [if_pos (by rfl)]
            go_simp
            refine hK.out _ _ (trivial) (fun hHeld => ?_)
            clear hK K
            refine wpAnyH_ready (rs := [12]) (by kernel_rfl) (by simp) ?_
            refine AllReadyH.cons rfl (fun K hK => ?_) AllReadyH.nil
            refine step_append_run rfl _ _ _ rfl _ _ _ _ rfl rfl Hrun.out ?_
            refine hK.out _ _ (trivial) (fun hHeld => ?_)
            clear hK K
            simp only [Act.put, List.setIfInBounds_toArray, List.set_cons_zero, List.set_cons_succ]
            have HCa : Hid (Cur w' pb t.tail.tail b8) := HCn2.out.kept fun k hk => HBa.out.block k (by omega)
            have HVa : Hid (EvAt w' eb (evCells (G L) (.slice none 0 0) ov)) := HVn2.out.of_block (HBa.out.block eb (by omega))
            have HXa : Hid (Below B w w') := HXn2.out.trans (HBa.out.mono (by omega))
            obtain ⟨oa, on, oc, rfl⟩ := Hown'.out.slice
            rw [HGc.out] at HVa
            have e12 := HVa.out.facts.2.2.2.2.2.2.2.2.2.2.2.2
            have s12 := HVa.out.soft.2.2.2.2.2.2.2.2.2.2.2.2
            refine wpAnyH_takeD (i := 13) (d := some 107) (v := .pointer (some ⟨eb, 0, none⟩)) rfl rfl (by kernel_rfl) (by kernel_rfl) (by kernel_rfl) (fun _ _ _ h => h) (Or.inl ⟨by rfl, fun wx hx => by (go_simp)⟩) (by assumption) ?_
            simp only [Act.put, List.setIfInBounds_toArray, List.set_cons_zero, List.set_cons_succ]
            refine wpAnyH_takeD (i := 14) (d := some 108) (v := .pointer (some ⟨eb, 6, none⟩)) rfl rfl (by kernel_rfl) (by kernel_rfl) (by kernel_rfl) (fun _ _ _ h => h) (Or.inl ⟨by rfl, fun _ _ => by rfl⟩) (by assumption) ?_
            simp only [Act.put, List.setIfInBounds_toArray, List.set_cons_zero, List.set_cons_succ]
            refine wpAnyH_takeD (i := 15) (d := some 109) (v := .pointer (some ⟨eb, 12, none⟩)) rfl rfl (by kernel_rfl) (by kernel_rfl) (by kernel_rfl) (fun _ _ _ h => h) (Or.inl ⟨by rfl, fun _ _ => by rfl⟩) (by assumption) ?_
            simp only [Act.put, List.setIfInBounds_toArray, List.set_cons_zero, List.set_cons_succ]
            refine wpAnyH_ready (rs := [16]) (by kernel_rfl) (by simp) ?_
            refine AllReadyH.cons rfl (fun K hK => ?_) AllReadyH.nil
            rw [if_pos (by rfl)]
            go_simp
            refine hK.out _ _ (trivial) (fun hHeld => ?_)
            clear hK K
            clear e12 s12
            refine wpAnyH_done (by kernel_rfl) ?_ _
            go_wp2_with fail
            go_roundg t.tail.tail.length
            case measure => (have hk2 : _ = t.length + 1 := hk); simp; omega
            case rel =>
              refine ⟨t.tail.tail, b8, L ++ [(x, y)], _, rfl, HCa.out.setEb hpe 12 _, ?_, Hown'.out.setLow (by simp; omega) _, HXa.out.setCell (by simp; omega) _, HLf.out.step (by rw [← HB6.out]; exact HNS0.out) HNS1.out, fun s hs => hz s (List.mem_cons_of_mem _ (List.mem_of_mem_tail (List.mem_of_mem_tail hs))), ?_, ?_⟩
              · rw [HGc.out]; exact HVa.out.set 12 (by omega) _
              · intro p hp
                rcases List.mem_append.1 hp with hp | hp
                · exact hi p hp
                · obtain rfl := List.mem_singleton.1 hp; exact ⟨HNS0.out.1, HNS1.out.1⟩
              · have := hn; simp at this ⊢; omega
          · clear c12
            rw [if_pos (by rfl)]
            go_simp
            refine (number_any pb t b6 v8.drew HCn0.out (HE.out.below HXn0.out hB) (by omega) (fun s hs => hz s (List.mem_cons_of_mem _ hs))).mono ?_
            rintro e w9 ⟨x, b7, hnI, rfl, hn1, hn2, hcn, hbt⟩
            refine hK.out _ _ trivial (fun hHeld => ?_)
            clear hK K
            have HNS0 : Hid (NumSt t b6 x b7) := ⟨hnI, hn1, hn2⟩
            have HVn1 := Lib.hid (HVn0.out.but hbt (by omega))
            have HXn1 := Lib.hid (below_but HXn0.out hbt hBp HCn0.out.lt)
            have HOn1 := Lib.hid (HOn0.out.but hbt (by omega))
            have HCn1 := Lib.hid hcn
            clear hnI hn1 hn2 hcn hbt
            have c12 := HVn1.out.facts.2.2.2.2.2.2.2.2.2.2.2.2
            refine wpAnyH_ready (rs := [5, 9]) (by kernel_rfl) (by simp) ?_
            refine AllReadyH.cons rfl (fun K hK => ?_) (AllReadyH.cons rfl (fun K hK => ?_) AllReadyH.nil)
            · rw [if_pos (by rfl)]
              go_simp
              refine hK.out _ _ trivial (fun hHeld => ?_)
              clear hK K
              refine wpAnyH_ready (rs := [9]) (by kernel_rfl) (by simp) ?_
              refine AllReadyH.cons rfl (fun K hK => ?_) AllReadyH.nil
              clear c12
              rw [if_pos (by rfl)]
              go_simp
              refine (number_any pb t.tail b7 w9 HCn1.out (HE.out.below HXn1.out hB) (by omega) (fun s hs => hz s (List.mem_cons_of_mem _ (List.mem_of_mem_tail hs)))).mono ?_
              rintro e w10 ⟨y, b8, hnI, rfl, hn1, hn2, hcn, hbt⟩
              refine hK.out _ _ trivial (fun hHeld => ?_)
              clear hK K
              have HNS1 : Hid (NumSt t.tail b7 y b8) := ⟨hnI, hn1, hn2⟩
              have HVn2 := Lib.hid (HVn1.out.but hbt (by omega))
              have HXn2 := Lib.hid (below_but HXn1.out hbt hBp HCn1.out.lt)
              have HOn2 := Lib.hid (HOn1.out.but hbt (by omega))
              have HCn2 := Lib.hid hcn
              clear hnI hn1 hn2 hcn hbt
              have c12 := HVn2.out.facts.2.2.2.2.2.2.2.2.2.2.2.2
              refine wpAnyH_takeD (i := 10) (d := some 104) (v := .agg #[.int .i64 x, .int .i64 y]) rfl rfl (by kernel_rfl) (by kernel_rfl) (by kernel_rfl) (fun _ _ _ h => h) (Or.inl ⟨by rfl, fun wx hx => by (go_simp)⟩) (by assumption) ?_
              simp only [Act.put, List.setIfInBounds_toArray, List.set_cons_zero, List.set_cons_succ]
              obtain ⟨v', w', hrun, hown', hB'⟩ := append_rd HOn2.out x y (by omega) (by have := HXn2.out.size; omega) 32
              have Hrun := Lib.hid hrun
              have Hown' := Lib.hid hown'
              have HBa := Lib.hid hB'
              clear hrun hown' hB'
              refine wpAnyH_ready (rs := [11]) (by kernel_rfl) (by simp) ?_
              refine AllReadyH.cons rfl (fun K hK => ?_) AllReadyH.nil
              rw [if_pos (by rfl)]
              go_simp
              refine hK.out _ _ (trivial) (fun hHeld => ?_)
              clear hK K
              refine wpAnyH_ready (rs := [12]) (by kernel_rfl) (by simp) ?_
              refine AllReadyH.cons rfl (fun K hK => ?_) AllReadyH.nil
              refine step_append_run rfl _ _ _ rfl _ _ _ _ rfl rfl Hrun.out ?_
              refine hK.out _ _ (trivial) (fun hHeld => ?_)
              clear hK K
              simp only [Act.put, List.setIfInBounds_toArray, List.set_cons_zero, List.set_cons_succ]
              have HCa : Hid (Cur w' pb t.tail.tail b8) := HCn2.out.kept fun k hk => HBa.out.block k (by omega)
              have HVa : Hid (EvAt w' eb (evCells (G L) (.slice none 0 0) ov)) := HVn2.out.of_block (HBa.out.block eb (by omega))
              have HXa : Hid (Below B w w') := HXn2.out.trans (HBa.out.mono (by omega))
              obtain ⟨oa, on, oc, rfl⟩ := Hown'.out.slice
              rw [HGc.out] at HVa
              have e12 := HVa.out.facts.2.2.2.2.2.2.2.2.2.2.2.2
              have s12 := HVa.out.soft.2.2.2.2.2.2.2.2.2.2.2.2
              refine wpAnyH_takeD (i := 13) (d := some 107) (v := .pointer (some ⟨eb, 0, none⟩)) rfl rfl (by kernel_rfl) (by kernel_rfl) (by kernel_rfl) (fun _ _ _ h => h) (Or.inl ⟨by rfl, fun wx hx => by (go_simp)⟩) (by assumption) ?_
              simp only [Act.put, List.setIfInBounds_toArray, List.set_cons_zero, List.set_cons_succ]
              refine wpAnyH_takeD (i := 14) (d := some 108) (v := .pointer (some ⟨eb, 6, none⟩)) rfl rfl (by kernel_rfl) (by kernel_rfl) (by kernel_rfl) (fun _ _ _ h => h) (Or.inl ⟨by rfl, fun _ _ => by rfl⟩) (by assumption) ?_
              simp only [Act.put, List.setIfInBounds_toArray, List.set_cons_zero, List.set_cons_succ]
              refine wpAnyH_takeD (i := 15) (d := some 109) (v := .pointer (some ⟨eb, 12, none⟩)) rfl rfl (by kernel_rfl) (by kernel_rfl) (by kernel_rfl) (fun _ _ _ h => h) (Or.inl ⟨by rfl, fun _ _ => by rfl⟩) (by assumption) ?_
              simp only [Act.put, List.setIfInBounds_toArray, List.set_cons_zero, List.set_cons_succ]
              refine wpAnyH_ready (rs := [16]) (by kernel_rfl) (by simp) ?_
              refine AllReadyH.cons rfl (fun K hK => ?_) AllReadyH.nil
              rw [if_pos (by rfl)]
              go_simp
              refine hK.out _ _ (trivial) (fun hHeld => ?_)
              clear hK K
              clear e12 s12
              refine wpAnyH_done (by kernel_rfl) ?_ _
              go_wp2_with fail
              go_roundg t.tail.tail.length
              case measure => (have hk2 : _ = t.length + 1 := hk); simp; omega
              case rel =>
                refine ⟨t.tail.tail, b8, L ++ [(x, y)], _, rfl, HCa.out.setEb hpe 12 _, ?_, Hown'.out.setLow (by simp; omega) _, HXa.out.setCell (by simp; omega) _, HLf.out.step (by rw [← HB6.out]; exact HNS0.out) HNS1.out, fun s hs => hz s (List.mem_cons_of_mem _ (List.mem_of_mem_tail (List.mem_of_mem_tail hs))), ?_, ?_⟩
                · rw [HGc.out]; exact HVa.out.set 12 (by omega) _
                · intro p hp
                  rcases List.mem_append.1 hp with hp | hp
                  · exact hi p hp
                  · obtain rfl := List.mem_singleton.1 hp; exact ⟨HNS0.out.1, HNS1.out.1⟩
                · have := hn; simp at this ⊢; omega
            · clear c12
              rw [if_pos (by rfl)]
              go_simp
              refine (number_any pb t.tail b7 w9 HCn1.out (HE.out.below HXn1.out hB) (by omega) (fun s hs => hz s (List.mem_cons_of_mem _ (List.mem_of_mem_tail hs)))).mono ?_
              rintro e w10 ⟨y, b8, hnI, rfl, hn1, hn2, hcn, hbt⟩
              refine hK.out _ _ trivial (fun hHeld => ?_)
              clear hK K
              have HNS1 : Hid (NumSt t.tail b7 y b8) := ⟨hnI, hn1, hn2⟩
              have HVn2 := Lib.hid (HVn1.out.but hbt (by omega))
              have HXn2 := Lib.hid (below_but HXn1.out hbt hBp HCn1.out.lt)
              have HOn2 := Lib.hid (HOn1.out.but hbt (by omega))
              have HCn2 := Lib.hid hcn
              clear hnI hn1 hn2 hcn hbt
              have c12 := HVn2.out.facts.2.2.2.2.2.2.2.2.2.2.2.2
              refine wpAnyH_takeD (i := 10) (d := some 104) (v := .agg #[.int .i64 x, .int .i64 y]) rfl rfl (by kernel_rfl) (by kernel_rfl) (by kernel_rfl) (fun _ _ _ h => h) (Or.inl ⟨by rfl, fun wx hx => by (go_simp)⟩) (by assumption) ?_
              simp only [Act.put, List.setIfInBounds_toArray, List.set_cons_zero, List.set_cons_succ]
              refine wpAnyH_ready (rs := [5, 11]) (by kernel_rfl) (by simp) ?_
              refine AllReadyH.cons rfl (fun K hK => ?_) (AllReadyH.cons rfl (fun K hK => ?_) AllReadyH.nil)
              · rw [if_pos (by rfl)]
                go_simp
                refine hK.out _ _ trivial (fun hHeld => ?_)
                clear hK K
                obtain ⟨v', w', hrun, hown', hB'⟩ := append_rd HOn2.out x y (by omega) (by have := HXn2.out.size; omega) 32
                have Hrun := Lib.hid hrun
                have Hown' := Lib.hid hown'
                have HBa := Lib.hid hB'
                clear hrun hown' hB'
                refine wpAnyH_ready (rs := [11]) (by kernel_rfl) (by simp) ?_
                refine AllReadyH.cons rfl (fun K hK => ?_) AllReadyH.nil
                rw [if_pos (by rfl)]
                go_simp
                refine hK.out _ _ (trivial) (fun hHeld => ?_)
                clear hK K
                refine wpAnyH_ready (rs := [12]) (by kernel_rfl) (by simp) ?_
                refine AllReadyH.cons rfl (fun K hK => ?_) AllReadyH.nil
                refine step_append_run rfl _ _ _ rfl _ _ _ _ rfl rfl Hrun.out ?_
                refine hK.out _ _ (trivial) (fun hHeld => ?_)
                clear hK K
                simp only [Act.put, List.setIfInBounds_toArray, List.set_cons_zero, List.set_cons_succ]
                have HCa : Hid (Cur w' pb t.tail.tail b8) := HCn2.out.kept fun k hk => HBa.out.block k (by omega)
                have HVa : Hid (EvAt w' eb (evCells (G L) (.slice none 0 0) ov)) := HVn2.out.of_block (HBa.out.block eb (by omega))
                have HXa : Hid (Below B w w') := HXn2.out.trans (HBa.out.mono (by omega))
                obtain ⟨oa, on, oc, rfl⟩ := Hown'.out.slice
                rw [HGc.out] at HVa
                have e12 := HVa.out.facts.2.2.2.2.2.2.2.2.2.2.2.2
                have s12 := HVa.out.soft.2.2.2.2.2.2.2.2.2.2.2.2
                refine wpAnyH_takeD (i := 13) (d := some 107) (v := .pointer (some ⟨eb, 0, none⟩)) rfl rfl (by kernel_rfl) (by kernel_rfl) (by kernel_rfl) (fun _ _ _ h => h) (Or.inl ⟨by rfl, fun wx hx => by (go_simp)⟩) (by assumption) ?_
                simp only [Act.put, List.setIfInBounds_toArray, List.set_cons_zero, List.set_cons_succ]
                refine wpAnyH_takeD (i := 14) (d := some 108) (v := .pointer (some ⟨eb, 6, none⟩)) rfl rfl (by kernel_rfl) (by kernel_rfl) (by kernel_rfl) (fun _ _ _ h => h) (Or.inl ⟨by rfl, fun _ _ => by rfl⟩) (by assumption) ?_
                simp only [Act.put, List.setIfInBounds_toArray, List.set_cons_zero, List.set_cons_succ]
                refine wpAnyH_takeD (i := 15) (d := some 109) (v := .pointer (some ⟨eb, 12, none⟩)) rfl rfl (by kernel_rfl) (by kernel_rfl) (by kernel_rfl) (fun _ _ _ h => h) (Or.inl ⟨by rfl, fun _ _ => by rfl⟩) (by assumption) ?_
                simp only [Act.put, List.setIfInBounds_toArray, List.set_cons_zero, List.set_cons_succ]
                refine wpAnyH_ready (rs := [16]) (by kernel_rfl) (by simp) ?_
                refine AllReadyH.cons rfl (fun K hK => ?_) AllReadyH.nil
                rw [if_pos (by rfl)]
                go_simp
                refine hK.out _ _ (trivial) (fun hHeld => ?_)
                clear hK K
                clear e12 s12
                refine wpAnyH_done (by kernel_rfl) ?_ _
                go_wp2_with fail
                go_roundg t.tail.tail.length
                case measure => (have hk2 : _ = t.length + 1 := hk); simp; omega
                case rel =>
                  refine ⟨t.tail.tail, b8, L ++ [(x, y)], _, rfl, HCa.out.setEb hpe 12 _, ?_, Hown'.out.setLow (by simp; omega) _, HXa.out.setCell (by simp; omega) _, HLf.out.step (by rw [← HB6.out]; exact HNS0.out) HNS1.out, fun s hs => hz s (List.mem_cons_of_mem _ (List.mem_of_mem_tail (List.mem_of_mem_tail hs))), ?_, ?_⟩
                  · rw [HGc.out]; exact HVa.out.set 12 (by omega) _
                  · intro p hp
                    rcases List.mem_append.1 hp with hp | hp
                    · exact hi p hp
                    · obtain rfl := List.mem_singleton.1 hp; exact ⟨HNS0.out.1, HNS1.out.1⟩
                  · have := hn; simp at this ⊢; omega
              · clear c12
                obtain ⟨v', w', hrun, hown', hB'⟩ := append_rd HOn2.out x y (by omega) (by have := HXn2.out.size; omega) 32
                have Hrun := Lib.hid hrun
                have Hown' := Lib.hid hown'
                have HBa := Lib.hid hB'
                clear hrun hown' hB'
                rw [if_pos (by rfl)]
                go_simp
                refine hK.out _ _ trivial (fun hHeld => ?_)
                clear hK K
                have c12 := cell_then ((Below.refl w10.heap.size w10).alloc (Nat.le_refl _) (.cells #[.int .i64 x, .int .i64 y] 51)) (HVn2.out.facts.2.2.2.2.2.2.2.2.2.2.2.2)
                refine wpAnyH_ready (rs := [5]) (by kernel_rfl) (by simp) ?_
                refine AllReadyH.cons rfl (fun K hK => ?_) AllReadyH.nil
                rw [if_pos (by rfl)]
                go_simp
                refine hK.out _ _ trivial (fun hHeld => ?_)
                clear hK K
                refine wpAnyH_ready (rs := [12]) (by kernel_rfl) (by simp) ?_
                refine AllReadyH.cons rfl (fun K hK => ?_) AllReadyH.nil
                refine step_append_run rfl _ _ _ rfl _ _ _ _ rfl rfl Hrun.out ?_
                refine hK.out _ _ (trivial) (fun hHeld => ?_)
                clear hK K
                simp only [Act.put, List.setIfInBounds_toArray, List.set_cons_zero, List.set_cons_succ]
                have HCa : Hid (Cur w' pb t.tail.tail b8) := HCn2.out.kept fun k hk => HBa.out.block k (by omega)
                have HVa : Hid (EvAt w' eb (evCells (G L) (.slice none 0 0) ov)) := HVn2.out.of_block (HBa.out.block eb (by omega))
                have HXa : Hid (Below B w w') := HXn2.out.trans (HBa.out.mono (by omega))
                obtain ⟨oa, on, oc, rfl⟩ := Hown'.out.slice
                rw [HGc.out] at HVa
                have e12 := HVa.out.facts.2.2.2.2.2.2.2.2.2.2.2.2
                have s12 := HVa.out.soft.2.2.2.2.2.2.2.2.2.2.2.2
                refine wpAnyH_takeD (i := 13) (d := some 107) (v := .pointer (some ⟨eb, 0, none⟩)) rfl rfl (by kernel_rfl) (by kernel_rfl) (by kernel_rfl) (fun _ _ _ h => h) (Or.inl ⟨by rfl, fun wx hx => by (go_simp)⟩) (by assumption) ?_
                simp only [Act.put, List.setIfInBounds_toArray, List.set_cons_zero, List.set_cons_succ]
                refine wpAnyH_takeD (i := 14) (d := some 108) (v := .pointer (some ⟨eb, 6, none⟩)) rfl rfl (by kernel_rfl) (by kernel_rfl) (by kernel_rfl) (fun _ _ _ h => h) (Or.inl ⟨by rfl, fun _ _ => by rfl⟩) (by assumption) ?_
                simp only [Act.put, List.setIfInBounds_toArray, List.set_cons_zero, List.set_cons_succ]
                refine wpAnyH_takeD (i := 15) (d := some 109) (v := .pointer (some ⟨eb, 12, none⟩)) rfl rfl (by kernel_rfl) (by kernel_rfl) (by kernel_rfl) (fun _ _ _ h => h) (Or.inl ⟨by rfl, fun _ _ => by rfl⟩) (by assumption) ?_
                simp only [Act.put, List.setIfInBounds_toArray, List.set_cons_zero, List.set_cons_succ]
                refine wpAnyH_ready (rs := [16]) (by kernel_rfl) (by simp) ?_
                refine AllReadyH.cons rfl (fun K hK => ?_) AllReadyH.nil
                rw [if_pos (by rfl)]
                go_simp
                refine hK.out _ _ (trivial) (fun hHeld => ?_)
                clear hK K
                clear e12 s12
                refine wpAnyH_done (by kernel_rfl) ?_ _
                go_wp2_with fail
                go_roundg t.tail.tail.length
                case measure => (have hk2 : _ = t.length + 1 := hk); simp; omega
                case rel =>
                  refine ⟨t.tail.tail, b8, L ++ [(x, y)], _, rfl, HCa.out.setEb hpe 12 _, ?_, Hown'.out.setLow (by simp; omega) _, HXa.out.setCell (by simp; omega) _, HLf.out.step (by rw [← HB6.out]; exact HNS0.out) HNS1.out, fun s hs => hz s (List.mem_cons_of_mem _ (List.mem_of_mem_tail (List.mem_of_mem_tail hs))), ?_, ?_⟩
                  · rw [HGc.out]; exact HVa.out.set 12 (by omega) _
                  · intro p hp
                    rcases List.mem_append.1 hp with hp | hp
                    · exact hi p hp
                    · obtain rfl := List.mem_singleton.1 hp; exact ⟨HNS0.out.1, HNS1.out.1⟩
                  · have := hn; simp at this ⊢; omega

end Go.Proofs.YtobaoekibnloiaaGreatDoor
/- script's station. Printed by gen_pst.py. -/
namespace Go.Proofs.YtobaoekibnloiaaGreatDoor
open Go Go.RowKit

set_option maxHeartbeats 8000000 in
set_option maxRecDepth 100000 in
theorem pst_other (B pb eb : Nat) (ws : List ByteArray) (w : World) (h : Cur w pb ws false) (hev : EvAt w eb [.int .i64 4, .string ⟨#[]⟩, .slice none 0 0, .int .i64 0, .int .i64 0, .string ⟨#[]⟩, .int .i64 0, .bool false, .int .i64 0, .int .i64 0, .int .i64 0, .int .i64 0, (.slice none 0 0)]) (hE : Env w) (hB : 8 ≤ B) (hBp : B ≤ pb) (hpe : pb < eb) (hsz : ∀ s ∈ ws, s.size ≤ 1000000) (hc1 : ws.tail.tail.tail.headD ByteArray.empty ≠ kwClosed) (hc2 : ws.tail.tail.tail.headD ByteArray.empty ≠ kwAt) :
    Calls Tryz.prog 37 #[.pointer (some ⟨pb, 0, none⟩), .pointer (some ⟨eb, 0, none⟩)] w (StRd B pb eb ws w) := by
  have hpw := h.lt
  have hew := hev.lt
  have HC := Lib.hid h
  have HV := Lib.hid hev
  have HE := Lib.hid hE
  have HZ := Lib.hid hsz
  have hs8 := hE.size
  clear h hev hE hsz
  go_enter Tryz.func37, Tryz.ntmps37
  go_wp2_with fail
  refine wp_region_held_drew (S := (fun _ => True)) (by kernel_rfl) trivial (fun hHeld => ?_)
  refine wpAnyH_takeD (i := 0) (d := some 4) (v := .pointer (some ⟨eb, 0, none⟩)) rfl rfl (by kernel_rfl) (by kernel_rfl) (by kernel_rfl) (fun _ _ _ h => h) (Or.inl ⟨by rfl, fun _ _ => by rfl⟩) (by assumption) ?_
  simp only [Act.put, List.setIfInBounds_toArray, List.set_cons_zero, List.set_cons_succ]
  refine wpAnyH_takeD (i := 2) (d := some 6) (v := .pointer (some ⟨pb, 0, none⟩)) rfl rfl (by kernel_rfl) (by kernel_rfl) (by kernel_rfl) (fun _ _ _ h => h) (Or.inl ⟨by rfl, fun _ _ => by rfl⟩) (by assumption) ?_
  simp only [Act.put, List.setIfInBounds_toArray, List.set_cons_zero, List.set_cons_succ]
  refine wpAnyH_takeD (i := 3) (d := some 7) (v := .pointer (some ⟨pb, 0, none⟩)) rfl rfl (by kernel_rfl) (by kernel_rfl) (by kernel_rfl) (fun _ _ _ h => h) (Or.inl ⟨by rfl, fun wx hx => by (go_simp)⟩) (by assumption) ?_
  simp only [Act.put, List.setIfInBounds_toArray, List.set_cons_zero, List.set_cons_succ]
  refine wpAnyH_takeD (i := 4) (d := some 8) (v := .pointer (some ⟨pb, 0, none⟩)) rfl rfl (by kernel_rfl) (by kernel_rfl) (by kernel_rfl) (fun _ _ _ h => h) (Or.inl ⟨by rfl, fun _ _ => by rfl⟩) (by assumption) ?_
  simp only [Act.put, List.setIfInBounds_toArray, List.set_cons_zero, List.set_cons_succ]
  refine wpAnyH_ready (rs := [1]) (by kernel_rfl) (by simp) ?_
  refine AllReadyH.cons rfl (fun K hK => ?_) AllReadyH.nil
  rw [if_pos (by rfl)]
  go_simp
  refine (skinds_at w.drew w.heap.size rfl).mono ?_
  rintro e w1 ⟨rfl, hb1, hH1, hk1⟩
  refine hK.out _ _ (trivial) (fun hHeld => ?_)
  clear hK K
  have hb1 := below_then ((Below.refl w.heap.size w).drew) hb1
  have HC1 := Lib.hid (HC.out.below hb1)
  have HV1 := Lib.hid (HV.out.below hb1)
  have HX1 := Lib.hid hb1
  have HK1 := Lib.hid hk1
  clear hb1 hk1
  refine wpAnyH_ready (rs := [5]) (by kernel_rfl) (by simp) ?_
  refine AllReadyH.cons rfl (fun K hK => ?_) AllReadyH.nil
  rw [if_pos (by rfl)]
  go_simp
  refine (next_any pb ws false w1 HC1.out).mono ?_
  rintro e w2 ⟨rfl, hc2, hb2⟩
  refine hK.out _ _ (trivial) (fun hHeld => ?_)
  clear hK K
  have HC2 := Lib.hid hc2
  have HV2 := Lib.hid (HV1.out.but hb2 (by omega))
  have HX2 : Hid (Below B w w2) := (HX1.out.mono (by omega)).trans ((hb2.mono (by have := HX1.out.size; omega)).below hBp)
  have hK2 : ∀ j, j < KL.length → w2.cell? ⟨w.heap.size, 0 + j, none⟩ = some (.string (KL.getD j ByteArray.empty)) := fun j hj => by rw [Nat.zero_add, hb2.cell (p := ⟨w.heap.size, j, none⟩) hH1 (by simp; omega)]; exact HK1.out j hj
  have HK2 := Lib.hid hK2
  clear hc2 hb2 hK2 hH1 HK1 HX1
  obtain ⟨a0, ha0⟩ : ∃ a0, a0 = ws.headD ByteArray.empty := ⟨_, rfl⟩
  rw [← ha0]
  have HA0 := Lib.hid ha0
  clear ha0
  refine wpAnyH_ready (rs := [6]) (by kernel_rfl) (by simp) ?_
  refine AllReadyH.cons rfl (fun K hK => ?_) AllReadyH.nil
  rw [if_pos (by rfl)]
  go_simp
  refine (index4 w.heap.size a0 w2 HK2.out).mono ?_
  rintro e w3 ⟨rfl, hw3⟩
  refine hK.out _ _ (trivial) (fun hHeld => ?_)
  clear hK K
  obtain rfl := hw3.symm
  obtain ⟨st, hst⟩ : ∃ st, st = (kindF a0).getD 0 := ⟨_, rfl⟩
  have hix := idx_kind a0
  rw [← hst] at hix
  change max (Lib.idxOfS KL a0) 0 = st at hix
  have HST := Lib.hid hst
  clear hst
  generalize Lib.idxOfS KL a0 = ix at *
  refine wpAnyH_takeD (i := 7) (d := some 11) (v := .int .i64 st) rfl rfl (by kernel_rfl) (by kernel_rfl) (by kernel_rfl) (fun _ _ _ h => h) (Or.inl ⟨by rfl, fun wx hx => by (go_simp)⟩) (by assumption) ?_
  simp only [Act.put, List.setIfInBounds_toArray, List.set_cons_zero, List.set_cons_succ]
  clear hix
  refine wpAnyH_takeD (i := 8) (d := some 12) (v := .pointer (some ⟨eb, 0, none⟩)) rfl rfl (by kernel_rfl) (by kernel_rfl) (by kernel_rfl) (fun _ _ _ h => h) (Or.inl ⟨by rfl, fun wx hx => by (go_simp)⟩) (by assumption) ?_
  simp only [Act.put, List.setIfInBounds_toArray, List.set_cons_zero, List.set_cons_succ]
  refine wpAnyH_takeD (i := 9) (d := some 13) (v := .pointer (some ⟨eb, 4, none⟩)) rfl rfl (by kernel_rfl) (by kernel_rfl) (by kernel_rfl) (fun _ _ _ h => h) (Or.inl ⟨by rfl, fun _ _ => by rfl⟩) (by assumption) ?_
  simp only [Act.put, List.setIfInBounds_toArray, List.set_cons_zero, List.set_cons_succ]
  have e4 := HV2.out.facts.2.2.2.2.1
  have s4 := HV2.out.soft.2.2.2.2.1
  refine wpAnyH_ready (rs := [10]) (by kernel_rfl) (by simp) ?_
  refine AllReadyH.cons rfl (fun K hK => ?_) AllReadyH.nil
  rw [if_pos (by rfl)]
  go_simp
  refine hK.out _ _ (trivial) (fun hHeld => ?_)
  clear hK K
  clear e4 s4
  refine wpAnyH_done (by kernel_rfl) ?_ _
  obtain ⟨v1, hv1⟩ : ∃ v1, v1 = w2.setCell ⟨eb, 4, none⟩ (.int .i64 st) := ⟨_, rfl⟩
  rw [← hv1]
  obtain ⟨b1, hb1⟩ : ∃ b1, b1 = (false || ws.isEmpty) := ⟨_, rfl⟩
  have HC3 : Hid (Cur v1 pb ws.tail b1) := by rw [hb1, hv1]; exact HC2.out.setEb hpe 4 _
  have HV3 : Hid (EvAt v1 eb [.int .i64 4, .string ⟨#[]⟩, .slice none 0 0, .int .i64 0, .int .i64 st, .string ⟨#[]⟩, .int .i64 0, .bool false, .int .i64 0, .int .i64 0, .int .i64 0, .int .i64 0, (.slice none 0 0)]) := by rw [hv1]; exact HV2.out.set 4 (by omega) _
  have HX3 : Hid (Below B w v1) := by rw [hv1]; exact HX2.out.setCell (by simp; omega) _
  have HB1 := Lib.hid hb1
  obtain ⟨ca, cc, c0, c1, f1, hcc, hcl⟩ := curFacts HC3.out
  have e4 := HV3.out.facts.2.2.2.2.1
  clear hb1 hv1 HC2 HV2 HX2 HC1 HV1 hHeld
  go_upto_region 1 with fail
  go_cut [] (fun wx => wx = v1.setCell ⟨pb, 1, none⟩ (.bool (b1 || st == 0)))
  case first =>
    go_wp2_with fail
    all_goals
      go_meet
      rename_i hq
      first | (rw [hq]; rfl) | (have hq2 : b1 = false := (by simpa using hq); rw [hq2]; rfl)
  case rest =>
    clear c0 c1 f1 hcc hcl e4
    obtain ⟨b2, hb2⟩ : ∃ b2, b2 = (b1 || st == 0) := ⟨_, rfl⟩
    rw [← hb2] at hcut
    have HC4 : Hid (Cur wc pb ws.tail b2) := by rw [hcut]; exact HC3.out.mark b2
    have HV4 : Hid (EvAt wc eb [.int .i64 4, .string ⟨#[]⟩, .slice none 0 0, .int .i64 0, .int .i64 st, .string ⟨#[]⟩, .int .i64 0, .bool false, .int .i64 0, .int .i64 0, .int .i64 0, .int .i64 0, (.slice none 0 0)]) := by rw [hcut]; exact HV3.out.setPb hpe 1 _
    have HX4 : Hid (Below B w wc) := by rw [hcut]; exact HX3.out.setCell (by simp; omega) _
    have HB2 := Lib.hid hb2
    clear hb2 hcut HC3 HV3 HX3
    go_wp2_with fail
    refine (name_any pb ws.tail b2 wc HC4.out (fun s hs => HZ.out s (List.mem_of_mem_tail hs))).mono ?_
    rintro e w4 ⟨b3, rfl, hb3, hc4, hbt4⟩
    have HV5 := Lib.hid (HV4.out.but hbt4 (by omega))
    have HX5 := Lib.hid (below_but HX4.out hbt4 hBp HC4.out.lt)
    have HC5 := Lib.hid hc4
    have HB3 := Lib.hid hb3
    clear hb3 hc4 hbt4
    obtain ⟨a1, ha1⟩ : ∃ a1, a1 = ws.tail.headD ByteArray.empty := ⟨_, rfl⟩
    rw [← ha1]
    have HA1 := Lib.hid ha1
    clear ha1
    have e5 := HV5.out.facts.2.2.2.2.2.1
    have s5 := HV5.out.soft.2.2.2.2.2.1
    go_wp2_with fail
    clear e5 s5
    obtain ⟨v5, hv5⟩ : ∃ v5, v5 = w4.setCell ⟨eb, 5, none⟩ (.string a1) := ⟨_, rfl⟩
    rw [← hv5]
    have HC6 : Hid (Cur v5 pb ws.tail.tail b3) := by rw [hv5]; exact HC5.out.setEb hpe 5 _
    have HV6 : Hid (EvAt v5 eb [.int .i64 4, .string ⟨#[]⟩, .slice none 0 0, .int .i64 0, .int .i64 st, .string a1, .int .i64 0, .bool false, .int .i64 0, .int .i64 0, .int .i64 0, .int .i64 0, (.slice none 0 0)]) := by rw [hv5]; exact HV5.out.set 5 (by omega) _
    have HX6 : Hid (Below B w v5) := by rw [hv5]; exact HX5.out.setCell (by simp; omega) _
    clear hv5 HC5 HV5 HX5 HC4 HV4 HX4
    refine (number_any pb ws.tail.tail b3 v5 HC6.out (HE.out.below HX6.out hB) (by omega) (fun s hs => HZ.out s (List.mem_of_mem_tail (List.mem_of_mem_tail hs)))).mono ?_
    rintro e w5 ⟨n, b4, hnI, rfl, hn1, hn2, hc5, hbt5⟩
    have HN : Hid (NumSt ws.tail.tail b3 n b4) := ⟨hnI, hn1, hn2⟩
    have HV7 := Lib.hid (HV6.out.but hbt5 (by omega))
    have HX7 := Lib.hid (below_but HX6.out hbt5 hBp HC6.out.lt)
    have HC7 := Lib.hid hc5
    clear hnI hn1 hn2 hc5 hbt5
    have e6 := HV7.out.facts.2.2.2.2.2.2.1
    have s6 := HV7.out.soft.2.2.2.2.2.2.1
    go_wp2_with fail
    clear e6 s6
    obtain ⟨v6, hv6⟩ : ∃ v6, v6 = w5.setCell ⟨eb, 6, none⟩ (.int .i64 n) := ⟨_, rfl⟩
    rw [← hv6]
    have HC8 : Hid (Cur v6 pb ws.tail.tail.tail b4) := by rw [hv6]; exact HC7.out.setEb hpe 6 _
    have HV8 : Hid (EvAt v6 eb [.int .i64 4, .string ⟨#[]⟩, .slice none 0 0, .int .i64 0, .int .i64 st, .string a1, .int .i64 n, .bool false, .int .i64 0, .int .i64 0, .int .i64 0, .int .i64 0, (.slice none 0 0)]) := by rw [hv6]; exact HV7.out.set 6 (by omega) _
    have HX8 : Hid (Below B w v6) := by rw [hv6]; exact HX7.out.setCell (by simp; omega) _
    clear hv6 HC6 HV6 HX6 HC7 HV7 HX7
    refine (next_any pb ws.tail.tail.tail b4 v6 HC8.out).mono ?_
    rintro e w6 ⟨rfl, hc6, hbt6⟩
    have HV9 := Lib.hid (HV8.out.but hbt6 (by omega))
    have HX9 := Lib.hid (below_but HX8.out hbt6 hBp HC8.out.lt)
    obtain ⟨b5, hb5⟩ : ∃ b5, b5 = (b4 || ws.tail.tail.tail.isEmpty) := ⟨_, rfl⟩
    rw [← hb5] at hc6
    have HB5 := Lib.hid hb5
    have HC9 := Lib.hid hc6
    have HH : Hid ((b5 = false → ws = a0 :: a1 :: ws.tail.tail.headD ByteArray.empty :: ws.tail.tail.tail.headD ByteArray.empty :: ws.tail.tail.tail.tail ∧ kindF a0 = some st ∧ nameOk a1 = true ∧ numF (ws.tail.tail.headD ByteArray.empty) = some n) ∧ (b5 = true → stF ws = none)) := by
      have h3 : b3 = false ↔ (ws.isEmpty || ((kindF (ws.headD ByteArray.empty)).getD 0 == 0)) = false ∧ nameOk (ws.tail.headD ByteArray.empty) = true := by
        have := HB3.out
        rw [HB2.out, HB1.out, HST.out, HA0.out] at this
        simpa using this
      refine ⟨fun h => ?_, fun h => ?_⟩
      · have q := head_ok h3 HN.out (by rw [← HB5.out]; exact h)
        rw [HST.out, HA0.out, HA1.out]; exact q
      · exact head_bad h3 HN.out (by rw [← HB5.out]; exact h)
    have HA1z : Hid (a1.size ≤ 1000000) := by
      unfold Hid
      rw [HA1.out]
      cases hq : ws.tail with
      | nil => exact Nat.zero_le _
      | cons z r => exact HZ.out z (List.mem_of_mem_tail (by rw [hq]; simp))
    have HSTI : Hid (I64 st) := by
      unfold Hid I64
      rw [HST.out]
      cases hq : kindF a0 with
      | none => simp
      | some k => have := kindF_iff.1 hq; simp; omega
    clear hb5 hc6 hbt6 HC8 HV8 HX8 HB1 HB2 HB3 HB5 HST
    obtain ⟨a3, ha3⟩ : ∃ a3, a3 = ws.tail.tail.tail.headD ByteArray.empty := ⟨_, rfl⟩
    rw [← ha3] at hc1 hc2 ⊢
    have hq1 : (a3.toList == [99, 108, 111, 115, 101, 100]) = false := by
      rw [show ([99, 108, 111, 115, 101, 100] : List UInt8) = kwClosed.toList by rw [Lib.toList_data]; rfl]; exact str_ne hc1
    have hq2 : (a3.toList == [97, 116]) = false := by
      rw [show ([97, 116] : List UInt8) = kwAt.toList by rw [Lib.toList_data]; rfl]; exact str_ne hc2
    have HF : Hid (stF ws = none) := by
      unfold Hid
      cases hq : b5 with
      | true => exact HH.out.2 hq
      | false =>
        obtain ⟨q1, _, _, _⟩ := HH.out.1 hq
        rw [← ha3] at q1
        rw [q1]; exact st_other hc1 hc2
    clear hc1 hc2 ha3
    obtain ⟨ca, cc, c0, c1, f1, hcc, hcl⟩ := curFacts HC9.out
    go_wp2_with fail
    clear c0 c1 f1 hcc hcl hq1 hq2
    obtain ⟨v7, hv7⟩ : ∃ v7, v7 = w6.setCell ⟨pb, 1, none⟩ (.bool true) := ⟨_, rfl⟩
    rw [← hv7]
    have HCl : Hid (Cur v7 pb ws.tail.tail.tail.tail true) := by rw [hv7]; exact HC9.out.mark true
    have HVl : Hid (EvAt v7 eb (evCells (evSt st a1 n false 0 0 0 0 []) (.slice none 0 0) (.slice none 0 0))) := by rw [hv7]; exact HV9.out.setPb hpe 1 _
    have HXl : Hid (Below B w v7) := by rw [hv7]; exact HX9.out.setCell (by simp; omega) _
    have HFin : Hid (StRd B pb eb ws w (.returned (.tuple #[])) v7) := ⟨rfl, HXl.out, evSt st a1 n false 0 0 0 0 [], .slice none 0 0, _, true, HCl.out, HVl.out, rfl, Or.inl rfl, fun _ => HF.out, fun h => by cases h⟩
    obtain ⟨ca, cc, c0, c1, f1, hcc, hcl⟩ := curFacts HCl.out
    generalize ws.tail.tail.tail.tail.length = m at *
    clear hv7
    go_loopg [] (0) (fun k wr => wr = v7)
    case atStart => rfl
    case round =>
      subst hrel
      go_wp2_with fail
      all_goals
        go_end0
        exact HFin.out

end Go.Proofs.YtobaoekibnloiaaGreatDoor
/- script's station, whatever its words. -/
namespace Go.Proofs.YtobaoekibnloiaaGreatDoor
open Go Go.RowKit

theorem pst_any (B pb eb : Nat) (ws : List ByteArray) (w : World) (h : Cur w pb ws false) (hev : EvAt w eb [.int .i64 4, .string ⟨#[]⟩, .slice none 0 0, .int .i64 0, .int .i64 0, .string ⟨#[]⟩, .int .i64 0, .bool false, .int .i64 0, .int .i64 0, .int .i64 0, .int .i64 0, .slice none 0 0]) (hE : Env w) (hB : 8 ≤ B) (hBp : B ≤ pb) (hpe : pb < eb) (hsz : ∀ s ∈ ws, s.size ≤ 1000000) :
    Calls Tryz.prog 37 #[.pointer (some ⟨pb, 0, none⟩), .pointer (some ⟨eb, 0, none⟩)] w (StRd B pb eb ws w) := by
  by_cases h1 : ws.tail.tail.tail.headD ByteArray.empty = kwClosed
  · exact pst_closed B pb eb ws w h hev hE hB hBp hpe hsz h1
  by_cases h2 : ws.tail.tail.tail.headD ByteArray.empty = kwAt
  · exact pst_at B pb eb ws w h hev hE hB hBp hpe hsz h2
  exact pst_other B pb eb ws w h hev hE hB hBp hpe hsz h1 h2
end Go.Proofs.YtobaoekibnloiaaGreatDoor
/- What a reader of a line returns. No walk. -/
namespace Go.Proofs.YtobaoekibnloiaaGreatDoor
open Go Go.RowKit

/-- What a reader of a line returns. -/
def LineIs (s : ByteArray) (w : World) (e : Ending) (w' : World) : Prop :=
  ∃ (y : Ev) (bv cv : Value) (err : Int), e = .returned (.tuple #[y.val bv cv, .int .i64 err]) ∧ (match lineF s with | some x => err = 0 ∧ y = x | none => err = 3 ∧ y = Ev.zero) ∧ EvParts w.heap.size w' y bv cv ∧ bv.oneCell' = true ∧ cv.oneCell' = true ∧ Below w.heap.size w w'
end Go.Proofs.YtobaoekibnloiaaGreatDoor
