/- Parse of the reference of element reads a text as the plain function does. No conditions. -/
import Derived.Test.YtanfbfmchhbgfaaDoorParseE
namespace Go.Proofs.YtanfbfmchhbgfaaDoor
open Go Go.RowKit

theorem fmt_len {c v : Int} (h : chk c v = 0) : 5 ≤ (fmtS c v).size ∧ (fmtS c v).size ≤ 7 := by
  obtain ⟨a, _, _, h4, h5, _, hf⟩ := fmt_shape h
  rw [hf]
  simp only [ByteArray.size, List.size_toArray, List.length_cons, List.length_append, decW_length]
  split <;> simp <;> omega

theorem rparse_short (s : ByteArray) (w : World) (h : s.size < 2 ∨ 8 < s.size) :
    Calls Tryd.prog 16 #[.string s] w fun r w' => r = .returned (parseAns s) ∧ Below w.heap.size w w' := by
  rw [parseAns_bad (parse_bad fun c v h1 h2 => by have := fmt_len h1; rw [h2] at this; omega)]
  have h0 : s.size < 2 ∨ (2 ≤ s.size ∧ 8 < s.size) := by omega
  clear h
  rcases h0 with h | ⟨h, h'⟩
  · go_enter Tryd.func16, Tryd.ntmps16
    go_wp2_with fail
    exact bodyPost_ret (v := .tuple #[zeroR, .int .i64 3]) (by simp [results, Tryd.results16, go_sem, zeroR]) rfl ⟨rfl, (Below.refl _ _).alloc (Nat.le_refl _) _⟩
  · go_enter Tryd.func16, Tryd.ntmps16
    go_wp2_with fail
    exact bodyPost_ret (v := .tuple #[zeroR, .int .i64 3]) (by simp [results, Tryd.results16, go_sem, zeroR]) rfl ⟨rfl, (Below.refl _ _).alloc (Nat.le_refl _) _⟩

set_option maxHeartbeats 1000000 in
theorem rparse_long (a : UInt8) (t : List UInt8) (w : World) (ht1 : 1 ≤ t.length) (ht2 : t.length ≤ 7) :
    Calls Tryd.prog 16 #[.string ⟨(a :: t).toArray⟩] w fun r w' => r = .returned (parseAns ⟨(a :: t).toArray⟩) ∧ Below w.heap.size w w' := by
  have hx1 : (⟨(a :: t).toArray⟩ : ByteArray).extract 0 1 = ⟨#[a]⟩ := by apply ByteArray.ext; simp [ByteArray.data_extract]
  have hx2 : (⟨(a :: t).toArray⟩ : ByteArray).extract 1 (t.length + 1) = ⟨t.toArray⟩ := by apply ByteArray.ext; simp [ByteArray.data_extract]
  have hsz : (⟨(a :: t).toArray⟩ : ByteArray).size = t.length + 1 := by simp [ByteArray.size]
  have hby := fun w1 => rbyl_any ⟨#[a]⟩ w1
  have Hby := Lib.hid hby
  clear hby
  generalize hs : (⟨(a :: t).toArray⟩ : ByteArray) = s at *
  have Hs := Lib.hid hs
  clear hs
  have hbe : Hid (byE ⟨#[a]⟩ = if byL ⟨#[a]⟩ = 0 then 9 else 0) := rfl
  have hbr := Lib.hid (byL_range ⟨#[a]⟩)
  generalize hc : byL ⟨#[a]⟩ = c at *
  have Hc := Lib.hid hc
  clear hc
  generalize byE ⟨#[a]⟩ = be at *
  obtain ⟨T, hT⟩ : ∃ T : ByteArray, T = ⟨t.toArray⟩ := ⟨_, rfl⟩
  rw [← hT] at hx2
  have hTs : T.size = t.length := by rw [hT]; simp [ByteArray.size]
  have hTl : T.data.toList = t := by rw [hT]
  have hbad : Hid ((c = 0 ∨ ∃ b ∈ Lib.trimPrefix t [45], isD b = false) → parseAns s = .tuple #[zeroR, .int .i64 3]) := by
    intro h
    refine parseAns_bad (parse_bad fun c' v' h1 h2 => ?_)
    obtain ⟨a', ha', hb', h4, h5, hp, hf⟩ := fmt_shape h1
    have he : a :: t = a' :: ((if v' < 0 then [45] else []) ++ decW (digits c').toNat v'.natAbs) := by
      have := h2; rw [hf, ← Hs.out] at this
      injection this with this
      exact (List.toArray_inj this).symm
    injection he with e1 e2
    obtain ⟨g1, g2⟩ := good_tail h1 e2
    subst e1
    have hcc := (chk_ok h1).2.2.2.2.2
    have hc' : c = c' := by rw [← Hc.out, hb']
    rcases h with h | ⟨b, hb, h⟩
    · omega
    · rw [g1] at hb; have := decW_isD _ _ _ hb; rw [h] at this; cases this
  by_cases hc0 : c = 0
  · have Hans := Lib.hid (hbad.out (Or.inl hc0))
    have hb9 : Hid (be = 9) := by have := hbe.out; rw [if_pos hc0] at this; exact this
    obtain rfl : be = 9 := hb9
    rw [Hans.out]
    clear hbe Hans hbad hbr hc0 hTl hT
    go_enter Tryd.func16, Tryd.ntmps16
    go_wp2_with fail
    refine (Hby.out _).mono ?_
    rintro r w1 ⟨rfl, hb⟩
    have q3 : w1.cell? ⟨w.heap.size, 0, none⟩ = some (.int .i64 0) := cell_then hb (by simp)
    have q4 : w1.cell? ⟨w.heap.size, 1, none⟩ = some (.int .i64 0) := cell_then hb (by simp)
    have q5 : w1.frozen? ⟨w.heap.size, 0, none⟩ = false := by rw [hb.frozen (by simp)]; simp
    have q6 : w1.frozen? ⟨w.heap.size, 1, none⟩ = false := by rw [hb.frozen (by simp)]; simp
    have hB := below_then ((Below.refl _ _).alloc (Nat.le_refl _) _) hb
    go_wp2_with fail
    exact bodyPost_ret (v := .tuple #[zeroR, .int .i64 3]) (by simp [results, Tryd.results16, go_sem, zeroR, q3, q4]) rfl ⟨rfl, (hB.setCell (by simp) _).setCell (by simp) _⟩
  · have hb0 : Hid (be = 0) := by have := hbe.out; rw [if_neg hc0] at this; exact this
    obtain rfl : be = 0 := hb0
    clear hbe
    have hcr : 1 ≤ c ∧ c ≤ 11 := by have := hbr.out; omega
    clear hbr
    have hT0 : t.head? = some T[0] := by
      have h1 : T.data.toList.head? = some (T.data.toList[0]'(by simp; omega)) := by rw [List.head?_eq_getElem?, List.getElem?_eq_getElem]
      exact (congrArg List.head? hTl.symm).trans h1
    have HT0 := Lib.hid hT0
    have HTl := Lib.hid hTl
    clear hT0 hTl hT
    by_cases hneg : T[0].toNat = 45
    · have h45 : T[0] = 45 := UInt8.toNat_inj.1 hneg
      have Hneg : Hid (Lib.hasPrefix t [45] = true) := by unfold Hid; rw [hasPrefix_45, HT0.out, h45]; rfl
      obtain ⟨D, hD⟩ : ∃ D : ByteArray, D = ⟨t.tail.toArray⟩ := ⟨_, rfl⟩
      have hds : Lib.trimPrefix t [45] = D.data.toList := by rw [hD, trimPrefix_45, HT0.out, h45]; rfl
      have hx3 : T.extract 1 t.length = D := by
        apply ByteArray.ext
        rw [hD]
        apply Array.toList_inj.1
        rw [ByteArray.data_extract]
        simp [HTl.out]
        exact List.take_of_length_le (by simp)
      rw [hds] at hbad
      have Hds := Lib.hid hds
      have hlen5 : D.size ≤ 7 := by rw [hD]; simp [ByteArray.size]; omega
      have hn1 : ((T[0].toNat : Int) == 45) = true := by rw [hneg]; rfl
      clear hds hD hneg h45
      go_enter Tryd.func16, Tryd.ntmps16
      go_wp2_with fail
      refine (Hby.out _).mono ?_
      rintro r w1 ⟨rfl, hb⟩
      have q3 : w1.cell? ⟨w.heap.size, 0, none⟩ = some (.int .i64 0) := cell_then hb (by simp)
      have q4 : w1.cell? ⟨w.heap.size, 1, none⟩ = some (.int .i64 0) := cell_then hb (by simp)
      have q5 : w1.frozen? ⟨w.heap.size, 0, none⟩ = false := by rw [hb.frozen (by simp)]; simp
      have q6 : w1.frozen? ⟨w.heap.size, 1, none⟩ = false := by rw [hb.frozen (by simp)]; simp
      have hB := below_then ((Below.refl _ _).alloc (Nat.le_refl _) _) hb
      clear hb
      go_wp2_with fail
      go_loopw [8, 9] (fun x i wr => ∃ k : Nat, k ≤ D.size ∧ i = .int .i64 k ∧ x = .int .i64 (valL (D.data.toList.take k) : Nat) ∧ wr.cell? ⟨w.heap.size, 0, none⟩ = some (.int .i64 0) ∧ wr.cell? ⟨w.heap.size, 1, none⟩ = some (.int .i64 0) ∧
          wr.frozen? ⟨w.heap.size, 0, none⟩ = false ∧ wr.frozen? ⟨w.heap.size, 1, none⟩ = false ∧ Hid (∀ b ∈ D.data.toList.take k, isD b = true) ∧ Below w.heap.size w wr) (fun _ i _ => (D.size - intOf i).toNat)
      case atStart => exact ⟨0, by omega, rfl, by simp [valL], q3, q4, q5, q6, by simp [Hid], hB⟩
      case round =>
        clear q3 q4 q5 q6 hB
        obtain ⟨k, hk, rfl, rfl, q3, q4, q5, q6, hdig, hB⟩ := hrel
        have hsz : w.heap.size < wr.heap.size := World.block_lt_of_cell? (a := ⟨w.heap.size, 0, none⟩) _ q3
        have hDl : D.data.toList.length = D.size := by simp
        have hval : valL (D.data.toList.take k) ≤ 9999999 := by
          have := valL_lt k (D.data.toList.take k) (by simp; omega) hdig.out
          have h10 : 10 ^ k ≤ 10 ^ 7 := Nat.pow_le_pow_right (by omega) (by omega)
          omega
        by_cases hlt : k < D.size
        · have htake : D.data.toList.take (k + 1) = D.data.toList.take k ++ [D[k]] := by rw [List.take_succ_eq_append_getElem (by omega)]; rfl
          have hmem : D[k] ∈ D.data.toList := by
            have : D.data.toList[k]'(by omega) ∈ D.data.toList := List.getElem_mem _
            exact this
          by_cases hbd : isD D[k] = true
          · have hb1 : 48 ≤ D[k].toNat ∧ D[k].toNat ≤ 57 := by simpa [isD] using hbd
            have hnew : Hid (valL (D.data.toList.take (k + 1)) = 10 * valL (D.data.toList.take k) + (D[k].toNat - 48)) := by unfold Hid; rw [htake, valL_snoc]
            have hdn : Hid (∀ b ∈ D.data.toList.take (k + 1), isD b = true) := by
              intro b hb; rw [htake, List.mem_append] at hb
              rcases hb with hb | hb
              · exact hdig.out b hb
              · simp at hb; rw [hb]; exact hbd
            obtain ⟨hb1, hb2⟩ := hb1
            clear htake hbd hdig hmem hDl
            generalize valL (D.data.toList.take k) = m at *
            go_wp2_with fail
            go_roundw
            case rel =>
              refine ⟨k + 1, by omega, by go_num, ?_, q3, q4, q5, q6, hdn, hB⟩
              rw [hnew.out]; congr 1; omega
            case measure => simp [intOf]; omega
          · have Hans := Lib.hid (hbad.out (Or.inr ⟨_, hmem, by simpa using hbd⟩))
            have hbn : D[k].toNat < 48 ∨ (48 ≤ D[k].toNat ∧ 57 < D[k].toNat) := by
              have : ¬ (48 ≤ D[k].toNat ∧ D[k].toNat ≤ 57) := by simpa [isD] using hbd
              omega
            clear htake hmem hbd hdig
            rcases hbn with hbn | ⟨hbn, hbn2⟩
            · go_wp2_with fail
              exact bodyPost_ret (v := .tuple #[zeroR, .int .i64 3]) (by simp [results, Tryd.results16, go_sem, q3, q4, zeroR]) rfl ⟨by rw [Hans.out], (hB.setCell (by simp) _).setCell (by simp) _⟩
            · go_wp2_with fail
              exact bodyPost_ret (v := .tuple #[zeroR, .int .i64 3]) (by simp [results, Tryd.results16, go_sem, q3, q4, zeroR]) rfl ⟨by rw [Hans.out], (hB.setCell (by simp) _).setCell (by simp) _⟩
        · obtain rfl : k = D.size := by omega
          have htk : D.data.toList.take D.size = D.data.toList := List.take_of_length_le (by omega)
          rw [htk] at hdig hval ⊢
          have hsl : s.data.toList = a :: t := by rw [← Hs.out]
          have hdg2 : ∀ b ∈ Lib.trimPrefix t [45], isD b = true := by rw [Hds.out]; exact hdig.out
          have hpa := parseR_at hsl Hc.out hc0 hdg2
          have hpv : parseV t = - (valL D.data.toList : Int) := by unfold parseV; rw [Hds.out, Hneg.out]; simp
          have hans : (chk c (parseV t) = 0 ∧ fmtS c (parseV t) = s → parseAns s = .tuple #[.agg #[.int .i64 c, .int .i64 (parseV t)], .int .i64 0]) ∧ (¬ (chk c (parseV t) = 0 ∧ fmtS c (parseV t) = s) → parseAns s = .tuple #[zeroR, .int .i64 3]) :=
            ⟨fun h => parseAns_good (hpa.1 h), fun h => parseAns_bad (hpa.2 h)⟩
          rw [hpv] at hans
          have Hans := Lib.hid hans
          clear hpv hpa hdg2 hsl hans hdig htk hDl hbad
          generalize valL D.data.toList = m at *
          go_wp2_with fail
          generalize - (m : Int) = v at *
          refine (rformat_any c v _).mono ?_
          rintro r w5 ⟨rfl, hb⟩
          have g0 : w5.cell? ⟨wr.heap.size, 0, none⟩ = some (.int .i64 c) := cell_then hb (by simp)
          have g1 : w5.cell? ⟨wr.heap.size, 1, none⟩ = some (.int .i64 v) := cell_then hb (by simp)
          have g2 : w5.cell? ⟨w.heap.size, 0, none⟩ = some (.int .i64 0) := cell_then hb (by simp [World.cell?_alloc_lt, hsz, q3])
          have g3 : w5.cell? ⟨w.heap.size, 1, none⟩ = some (.int .i64 0) := cell_then hb (by simp [World.cell?_alloc_lt, hsz, q4])
          have g4 : w5.frozen? ⟨w.heap.size, 0, none⟩ = false := by rw [hb.frozen (by simp; omega), World.frozen?_alloc_old _ _ _ (by simp; omega)]; exact q5
          have g5 : w5.frozen? ⟨w.heap.size, 1, none⟩ = false := by rw [hb.frozen (by simp; omega), World.frozen?_alloc_old _ _ _ (by simp; omega)]; exact q6
          have hB5 := below_then (hB.alloc (by omega) _) hb
          have hz5 : wr.heap.size < w5.heap.size := World.block_lt_of_cell? (a := ⟨wr.heap.size, 0, none⟩) _ g0
          clear hb q3 q4 q5 q6 hB
          by_cases hk0 : chk c v = 0
          · by_cases hf0 : fmtS c v = s
            · have Hr : Hid (parseAns s = .tuple #[.agg #[.int .i64 c, .int .i64 v], .int .i64 0]) := Hans.out.1 ⟨hk0, hf0⟩
              rw [hk0, hf0]
              clear hk0 hf0 Hans
              go_wp2_with fail
              exact bodyPost_ret (v := .tuple #[.agg #[.int .i64 c, .int .i64 v], .int .i64 0]) (by simp [results, Tryd.results16, go_sem, g2, g3]) rfl ⟨by rw [Hr.out], (hB5.setCell (by simp) _).setCell (by simp) _⟩
            · have Hr : Hid (parseAns s = .tuple #[zeroR, .int .i64 3]) := Hans.out.2 (fun h => hf0 h.2)
              have hfe := str_ne hf0
              have hfb := str_bne hf0
              rw [hk0]
              clear hk0 hf0 Hans
              generalize fmtS c v = fs at *
              go_wp2_with fail
              exact bodyPost_ret (v := .tuple #[zeroR, .int .i64 3]) (by simp [results, Tryd.results16, go_sem, g2, g3, zeroR]) rfl ⟨by rw [Hr.out], (hB5.setCell (by simp) _).setCell (by simp) _⟩
          · have Hr : Hid (parseAns s = .tuple #[zeroR, .int .i64 3]) := Hans.out.2 (fun h => hk0 h.1)
            have hk1 : (chk c v == 0) = false := by simpa using hk0
            have hk2 : (chk c v != 0) = true := by simpa using hk0
            clear hk0 Hans
            generalize fmtS c v = fs at *
            generalize chk c v = kk at *
            go_wp2_with fail
            exact bodyPost_ret (v := .tuple #[zeroR, .int .i64 3]) (by simp [results, Tryd.results16, go_sem, g2, g3, zeroR]) rfl ⟨by rw [Hr.out], (hB5.setCell (by simp) _).setCell (by simp) _⟩
    · have h45 : T[0] ≠ 45 := fun e => hneg (by rw [e]; rfl)
      have Hneg : Hid (Lib.hasPrefix t [45] = false) := by unfold Hid; rw [hasPrefix_45, HT0.out]; simpa using h45
      obtain ⟨D, hD⟩ : ∃ D : ByteArray, D = T := ⟨_, rfl⟩
      have hds : Lib.trimPrefix t [45] = D.data.toList := by rw [hD, HTl.out, trimPrefix_45, HT0.out]; simp [h45]
      rw [hds] at hbad
      have Hds := Lib.hid hds
      have hlen5 : D.size ≤ 7 := by rw [hD, hTs]; omega
      have hn1 : ((T[0].toNat : Int) == 45) = false := by simp; omega
      clear hds hneg h45
      subst hD
      go_enter Tryd.func16, Tryd.ntmps16
      go_wp2_with fail
      refine (Hby.out _).mono ?_
      rintro r w1 ⟨rfl, hb⟩
      have q3 : w1.cell? ⟨w.heap.size, 0, none⟩ = some (.int .i64 0) := cell_then hb (by simp)
      have q4 : w1.cell? ⟨w.heap.size, 1, none⟩ = some (.int .i64 0) := cell_then hb (by simp)
      have q5 : w1.frozen? ⟨w.heap.size, 0, none⟩ = false := by rw [hb.frozen (by simp)]; simp
      have q6 : w1.frozen? ⟨w.heap.size, 1, none⟩ = false := by rw [hb.frozen (by simp)]; simp
      have hB := below_then ((Below.refl _ _).alloc (Nat.le_refl _) _) hb
      clear hb
      go_wp2_with fail
      go_loopw [8, 9] (fun x i wr => ∃ k : Nat, k ≤ D.size ∧ i = .int .i64 k ∧ x = .int .i64 (valL (D.data.toList.take k) : Nat) ∧ wr.cell? ⟨w.heap.size, 0, none⟩ = some (.int .i64 0) ∧ wr.cell? ⟨w.heap.size, 1, none⟩ = some (.int .i64 0) ∧
          wr.frozen? ⟨w.heap.size, 0, none⟩ = false ∧ wr.frozen? ⟨w.heap.size, 1, none⟩ = false ∧ Hid (∀ b ∈ D.data.toList.take k, isD b = true) ∧ Below w.heap.size w wr) (fun _ i _ => (D.size - intOf i).toNat)
      case atStart => exact ⟨0, by omega, rfl, by simp [valL], q3, q4, q5, q6, by simp [Hid], hB⟩
      case round =>
        clear q3 q4 q5 q6 hB
        obtain ⟨k, hk, rfl, rfl, q3, q4, q5, q6, hdig, hB⟩ := hrel
        have hsz : w.heap.size < wr.heap.size := World.block_lt_of_cell? (a := ⟨w.heap.size, 0, none⟩) _ q3
        have hDl : D.data.toList.length = D.size := by simp
        have hval : valL (D.data.toList.take k) ≤ 9999999 := by
          have := valL_lt k (D.data.toList.take k) (by simp; omega) hdig.out
          have h10 : 10 ^ k ≤ 10 ^ 7 := Nat.pow_le_pow_right (by omega) (by omega)
          omega
        by_cases hlt : k < D.size
        · have htake : D.data.toList.take (k + 1) = D.data.toList.take k ++ [D[k]] := by rw [List.take_succ_eq_append_getElem (by omega)]; rfl
          have hmem : D[k] ∈ D.data.toList := by
            have : D.data.toList[k]'(by omega) ∈ D.data.toList := List.getElem_mem _
            exact this
          by_cases hbd : isD D[k] = true
          · have hb1 : 48 ≤ D[k].toNat ∧ D[k].toNat ≤ 57 := by simpa [isD] using hbd
            have hnew : Hid (valL (D.data.toList.take (k + 1)) = 10 * valL (D.data.toList.take k) + (D[k].toNat - 48)) := by unfold Hid; rw [htake, valL_snoc]
            have hdn : Hid (∀ b ∈ D.data.toList.take (k + 1), isD b = true) := by
              intro b hb; rw [htake, List.mem_append] at hb
              rcases hb with hb | hb
              · exact hdig.out b hb
              · simp at hb; rw [hb]; exact hbd
            obtain ⟨hb1, hb2⟩ := hb1
            clear htake hbd hdig hmem hDl
            generalize valL (D.data.toList.take k) = m at *
            go_wp2_with fail
            go_roundw
            case rel =>
              refine ⟨k + 1, by omega, by go_num, ?_, q3, q4, q5, q6, hdn, hB⟩
              rw [hnew.out]; congr 1; omega
            case measure => simp [intOf]; omega
          · have Hans := Lib.hid (hbad.out (Or.inr ⟨_, hmem, by simpa using hbd⟩))
            have hbn : D[k].toNat < 48 ∨ (48 ≤ D[k].toNat ∧ 57 < D[k].toNat) := by
              have : ¬ (48 ≤ D[k].toNat ∧ D[k].toNat ≤ 57) := by simpa [isD] using hbd
              omega
            clear htake hmem hbd hdig
            rcases hbn with hbn | ⟨hbn, hbn2⟩
            · go_wp2_with fail
              exact bodyPost_ret (v := .tuple #[zeroR, .int .i64 3]) (by simp [results, Tryd.results16, go_sem, q3, q4, zeroR]) rfl ⟨by rw [Hans.out], (hB.setCell (by simp) _).setCell (by simp) _⟩
            · go_wp2_with fail
              exact bodyPost_ret (v := .tuple #[zeroR, .int .i64 3]) (by simp [results, Tryd.results16, go_sem, q3, q4, zeroR]) rfl ⟨by rw [Hans.out], (hB.setCell (by simp) _).setCell (by simp) _⟩
        · obtain rfl : k = D.size := by omega
          have htk : D.data.toList.take D.size = D.data.toList := List.take_of_length_le (by omega)
          rw [htk] at hdig hval ⊢
          have hsl : s.data.toList = a :: t := by rw [← Hs.out]
          have hdg2 : ∀ b ∈ Lib.trimPrefix t [45], isD b = true := by rw [Hds.out]; exact hdig.out
          have hpa := parseR_at hsl Hc.out hc0 hdg2
          have hpv : parseV t = (valL D.data.toList : Int) := by unfold parseV; rw [Hds.out, Hneg.out]; simp
          have hans : (chk c (parseV t) = 0 ∧ fmtS c (parseV t) = s → parseAns s = .tuple #[.agg #[.int .i64 c, .int .i64 (parseV t)], .int .i64 0]) ∧ (¬ (chk c (parseV t) = 0 ∧ fmtS c (parseV t) = s) → parseAns s = .tuple #[zeroR, .int .i64 3]) :=
            ⟨fun h => parseAns_good (hpa.1 h), fun h => parseAns_bad (hpa.2 h)⟩
          rw [hpv] at hans
          have Hans := Lib.hid hans
          clear hpv hpa hdg2 hsl hans hdig htk hDl hbad
          generalize valL D.data.toList = m at *
          go_wp2_with fail
          generalize (m : Int) = v at *
          refine (rformat_any c v _).mono ?_
          rintro r w5 ⟨rfl, hb⟩
          have g0 : w5.cell? ⟨wr.heap.size, 0, none⟩ = some (.int .i64 c) := cell_then hb (by simp)
          have g1 : w5.cell? ⟨wr.heap.size, 1, none⟩ = some (.int .i64 v) := cell_then hb (by simp)
          have g2 : w5.cell? ⟨w.heap.size, 0, none⟩ = some (.int .i64 0) := cell_then hb (by simp [World.cell?_alloc_lt, hsz, q3])
          have g3 : w5.cell? ⟨w.heap.size, 1, none⟩ = some (.int .i64 0) := cell_then hb (by simp [World.cell?_alloc_lt, hsz, q4])
          have g4 : w5.frozen? ⟨w.heap.size, 0, none⟩ = false := by rw [hb.frozen (by simp; omega), World.frozen?_alloc_old _ _ _ (by simp; omega)]; exact q5
          have g5 : w5.frozen? ⟨w.heap.size, 1, none⟩ = false := by rw [hb.frozen (by simp; omega), World.frozen?_alloc_old _ _ _ (by simp; omega)]; exact q6
          have hB5 := below_then (hB.alloc (by omega) _) hb
          have hz5 : wr.heap.size < w5.heap.size := World.block_lt_of_cell? (a := ⟨wr.heap.size, 0, none⟩) _ g0
          clear hb q3 q4 q5 q6 hB
          by_cases hk0 : chk c v = 0
          · by_cases hf0 : fmtS c v = s
            · have Hr : Hid (parseAns s = .tuple #[.agg #[.int .i64 c, .int .i64 v], .int .i64 0]) := Hans.out.1 ⟨hk0, hf0⟩
              rw [hk0, hf0]
              clear hk0 hf0 Hans
              go_wp2_with fail
              exact bodyPost_ret (v := .tuple #[.agg #[.int .i64 c, .int .i64 v], .int .i64 0]) (by simp [results, Tryd.results16, go_sem, g2, g3]) rfl ⟨by rw [Hr.out], (hB5.setCell (by simp) _).setCell (by simp) _⟩
            · have Hr : Hid (parseAns s = .tuple #[zeroR, .int .i64 3]) := Hans.out.2 (fun h => hf0 h.2)
              have hfe := str_ne hf0
              have hfb := str_bne hf0
              rw [hk0]
              clear hk0 hf0 Hans
              generalize fmtS c v = fs at *
              go_wp2_with fail
              exact bodyPost_ret (v := .tuple #[zeroR, .int .i64 3]) (by simp [results, Tryd.results16, go_sem, g2, g3, zeroR]) rfl ⟨by rw [Hr.out], (hB5.setCell (by simp) _).setCell (by simp) _⟩
          · have Hr : Hid (parseAns s = .tuple #[zeroR, .int .i64 3]) := Hans.out.2 (fun h => hk0 h.1)
            have hk1 : (chk c v == 0) = false := by simpa using hk0
            have hk2 : (chk c v != 0) = true := by simpa using hk0
            clear hk0 Hans
            generalize fmtS c v = fs at *
            generalize chk c v = kk at *
            go_wp2_with fail
            exact bodyPost_ret (v := .tuple #[zeroR, .int .i64 3]) (by simp [results, Tryd.results16, go_sem, g2, g3, zeroR]) rfl ⟨by rw [Hr.out], (hB5.setCell (by simp) _).setCell (by simp) _⟩
end Go.Proofs.YtanfbfmchhbgfaaDoor
