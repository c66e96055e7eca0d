/- Parse of element reads a text as the plain function does. The text has fewer than 2^32 - 15 bytes. -/
import Derived.Test.YtanfbfmchhbgfaaDoorParse
namespace Go.Proofs.YtanfbfmchhbgfaaDoor
open Go Go.RowKit

theorem eparse_empty (w : World) :
    Calls Tryd.prog 14 #[.string ⟨#[]⟩] w fun r w' => r = .returned (parseAns ⟨#[]⟩) ∧ Below w.heap.size w w' := by
  rw [parseAns_bad (s := ⟨#[]⟩) rfl]
  go_enter Tryd.func14, Tryd.ntmps14
  go_wp2_with fail
  exact bodyPost_ret (v := .tuple #[zeroR, .int .i64 3]) (by simp [results, Tryd.results14, go_sem, zeroR]) rfl ⟨rfl, (Below.refl _ _).alloc (Nat.le_refl _) _⟩

set_option maxHeartbeats 1000000 in
theorem eparse_any (a : UInt8) (t : List UInt8) (w : World) (ht : t.length < 4294967280) (hG : Glo w) :
    Calls Tryd.prog 14 #[.string ⟨(a :: t).toArray⟩] w fun r w' => r = .returned (parseAns ⟨(a :: t).toArray⟩) ∧ Below w.heap.size w w' := by
  have hx1 : (⟨(a :: t).toArray⟩ : ByteArray).extract 0 1 = ⟨#[a]⟩ := by apply ByteArray.ext; simp [ByteArray.data_extract]
  have hx2 : (⟨(a :: t).toArray⟩ : ByteArray).extract 1 (t.length + 1) = ⟨t.toArray⟩ := by apply ByteArray.ext; simp [ByteArray.data_extract]
  have hsz : (⟨(a :: t).toArray⟩ : ByteArray).size = t.length + 1 := by simp [ByteArray.size]
  have hby := fun w1 (h : Glo w1) => byl_any ⟨#[a]⟩ w1 (by simp [ByteArray.size]) h
  have HG := Lib.hid hG
  have Hby := Lib.hid hby
  have hcut := Tryd.strings_CutPrefix ⟨t.toArray⟩ ⟨#[45]⟩
  rw [show (⟨t.toArray⟩ : ByteArray).data.toList = t by simp, show (⟨#[45]⟩ : ByteArray).data.toList = [45] by rfl] at hcut
  have Hcut := Lib.hid hcut
  clear hG hby hcut
  have hne : (⟨(a :: t).toArray⟩ : ByteArray).toList ≠ [] := by rw [ByteArray.toList_mk]; simp
  have hne1 : ((⟨(a :: t).toArray⟩ : ByteArray).toList == ([] : List UInt8)) = false := by rw [ByteArray.toList_mk]; simp
  have hne2 : (⟨(a :: t).toArray⟩ : ByteArray).toList.isEmpty = false := by rw [ByteArray.toList_mk]; rfl
  generalize hs : (⟨(a :: t).toArray⟩ : ByteArray) = s at *
  have Hs := Lib.hid hs
  clear hs
  have hbe : Hid (byE ⟨#[a]⟩ = if byL ⟨#[a]⟩ = 0 then 9 else 0) := rfl
  have hbr := Lib.hid (byL_range ⟨#[a]⟩)
  generalize hc : byL ⟨#[a]⟩ = c at *
  have Hc := Lib.hid hc
  clear hc
  generalize byE ⟨#[a]⟩ = be at *
  have hbad : Hid ((c = 0 ∨ 5 < (Lib.trimPrefix t [45]).length ∨ ∃ b ∈ Lib.trimPrefix t [45], isD b = false) → parseAns s = .tuple #[zeroR, .int .i64 3]) := by
    intro h
    refine parseAns_bad (parse_bad fun c' v' h1 h2 => ?_)
    obtain ⟨a', ha', hb', h4, h5, hp, hf⟩ := fmt_shape h1
    have he : a :: t = a' :: ((if v' < 0 then [45] else []) ++ decW (digits c').toNat v'.natAbs) := by
      have := h2; rw [hf, ← Hs.out] at this
      injection this with this
      exact (List.toArray_inj this).symm
    injection he with e1 e2
    obtain ⟨g1, g2⟩ := good_tail h1 e2
    subst e1
    have hcc := (chk_ok h1).2.2.2.2.2
    have hc' : c = c' := by rw [← Hc.out, hb']
    rcases h with h | h | ⟨b, hb, h⟩
    · omega
    · rw [g1, decW_length] at h; omega
    · rw [g1] at hb; have := decW_isD _ _ _ hb; rw [h] at this; cases this
  by_cases hc0 : c = 0
  · have Hans := Lib.hid (hbad.out (Or.inl hc0))
    have hb9 : Hid (be = 9) := by have := hbe.out; rw [if_pos hc0] at this; exact this
    obtain rfl : be = 9 := hb9
    rw [Hans.out]
    clear hbe Hans hbad hbr hc0
    go_enter Tryd.func14, Tryd.ntmps14
    go_wp2_with fail
    refine (Hby.out _ (HG.out.alloc _)).mono ?_
    rintro r w1 ⟨rfl, rfl⟩
    go_wp2_with fail
    refine (Hcut.out _).mono ?_
    rintro r w1 ⟨rfl, rfl⟩
    go_wp2_with fail
    exact bodyPost_ret (v := .tuple #[zeroR, .int .i64 3]) (by simp [results, Tryd.results14, go_sem, zeroR]) rfl ⟨rfl, (Below.refl _ _).alloc (Nat.le_refl _) _⟩
  · have hb0 : Hid (be = 0) := by have := hbe.out; rw [if_neg hc0] at this; exact this
    obtain rfl : be = 0 := hb0
    clear hbe
    have hcr : 1 ≤ c ∧ c ≤ 11 := by have := hbr.out; omega
    clear hbr
    by_cases hlen : 5 < (Lib.trimPrefix t [45]).length
    · have Hans := Lib.hid (hbad.out (Or.inr (Or.inl hlen)))
      rw [Hans.out]
      clear Hans hbad hcr
      generalize Lib.trimPrefix t [45] = ds at *
      generalize Lib.hasPrefix t [45] = neg at *
      go_enter Tryd.func14, Tryd.ntmps14
      go_wp2_with fail
      refine (Hby.out _ (HG.out.alloc _)).mono ?_
      rintro r w1 ⟨rfl, rfl⟩
      go_wp2_with fail
      refine (Hcut.out _).mono ?_
      rintro r w1 ⟨rfl, rfl⟩
      go_wp2_with fail
      exact bodyPost_ret (v := .tuple #[zeroR, .int .i64 3]) (by simp [results, Tryd.results14, go_sem, zeroR]) rfl ⟨rfl, (Below.refl _ _).alloc (Nat.le_refl _) _⟩
    · obtain ⟨D, hD⟩ : ∃ D : ByteArray, D = ⟨(Lib.trimPrefix t [45]).toArray⟩ := ⟨_, rfl⟩
      have hds : Lib.trimPrefix t [45] = D.data.toList := by rw [hD]
      rw [← hD] at Hcut
      rw [hds] at hlen hbad
      have Hds := Lib.hid hds
      clear hds hD
      generalize hneg : Lib.hasPrefix t [45] = neg at *
      have Hneg := Lib.hid hneg
      have hlen5 : D.size ≤ 5 := by have : D.size = D.data.toList.length := by simp
                                    omega
      clear hneg hlen
      go_enter Tryd.func14, Tryd.ntmps14
      go_wp2_with fail
      refine (Hby.out _ (HG.out.alloc _)).mono ?_
      rintro r w1 ⟨rfl, rfl⟩
      go_wp2_with fail
      refine (Hcut.out _).mono ?_
      rintro r w1 ⟨rfl, rfl⟩
      go_wp2_with fail
      go_loopw [39] (fun x wr => ∃ k : Nat, k ≤ D.size ∧ x = .int .i64 k ∧ wr.cell? ⟨w.heap.size + 1, 0, none⟩ = some (.int .i64 c) ∧ wr.cell? ⟨w.heap.size + 1, 1, none⟩ = some (.int .i64 (valL (D.data.toList.take k) : Nat)) ∧
          wr.frozen? ⟨w.heap.size + 1, 1, none⟩ = false ∧ wr.cell? ⟨w.heap.size, 0, none⟩ = some (.int .i64 0) ∧ wr.cell? ⟨w.heap.size, 1, none⟩ = some (.int .i64 0) ∧ wr.frozen? ⟨w.heap.size, 0, none⟩ = false ∧ wr.frozen? ⟨w.heap.size, 1, none⟩ = false ∧
          Hid (∀ b ∈ D.data.toList.take k, isD b = true) ∧ Hid (Glo wr) ∧ Below w.heap.size w wr) (fun x _ => (D.size - intOf x).toNat)
      case atStart =>
        have hB : Below w.heap.size w ((w.alloc (.cells #[.int .i64 0, .int .i64 0] 23)).alloc (.cells #[.int .i64 c, .int .i64 0] 23)) := ((Below.refl _ _).alloc (Nat.le_refl _) _).alloc (by simp) _
        refine ⟨0, by omega, rfl, ?_, ?_, ?_, ?_, ?_, ?_, ?_, by simp [Hid], (HG.out.alloc _).alloc _, hB⟩
        · simp
        · simp [valL]
        · simp
        · rw [World.cell?_alloc_old _ _ _ (by simp)]; simp
        · rw [World.cell?_alloc_old _ _ _ (by simp)]; simp
        · rw [World.frozen?_alloc_old _ _ _ (by simp)]; simp
        · rw [World.frozen?_alloc_old _ _ _ (by simp)]; simp
      case round =>
        obtain ⟨k, hk, rfl, q0, q1, q2, q3, q4, q5, q6, hdig, hGr, hB⟩ := hrel
        have hsz : w.heap.size + 1 < wr.heap.size := World.block_lt_of_cell? (a := ⟨w.heap.size + 1, 0, none⟩) _ q0
        have hDl : D.data.toList.length = D.size := by simp
        have hval : valL (D.data.toList.take k) ≤ 99999 := by
          have := valL_lt k (D.data.toList.take k) (by simp; omega) hdig.out
          have h10 : 10 ^ k ≤ 10 ^ 5 := Nat.pow_le_pow_right (by omega) (by omega)
          omega
        by_cases hlt : k < D.size
        · have htake : D.data.toList.take (k + 1) = D.data.toList.take k ++ [D[k]] := by rw [List.take_succ_eq_append_getElem (by omega)]; rfl
          have hmem : D[k] ∈ D.data.toList := by
            have : D.data.toList[k]'(by omega) ∈ D.data.toList := List.getElem_mem _
            exact this
          by_cases hbd : isD D[k] = true
          · have hb1 : 48 ≤ D[k].toNat ∧ D[k].toNat ≤ 57 := by simpa [isD] using hbd
            have hnew : Hid (valL (D.data.toList.take (k + 1)) = 10 * valL (D.data.toList.take k) + (D[k].toNat - 48)) := by unfold Hid; rw [htake, valL_snoc]
            have hdn : Hid (∀ b ∈ D.data.toList.take (k + 1), isD b = true) := by
              intro b hb; rw [htake, List.mem_append] at hb
              rcases hb with hb | hb
              · exact hdig.out b hb
              · simp at hb; rw [hb]; exact hbd
            obtain ⟨hb1, hb2⟩ := hb1
            clear htake hbd hdig hmem hDl
            generalize valL (D.data.toList.take k) = m at *
            go_wp2_with fail
            have x1 : IntKind.i64.wrap (10 * (m : Int)) = 10 * m := IntWalk.i64_in _ (by omega)
            have x2 : IntKind.u8.wrap ((D[k].toNat : Int) - 48) = (D[k].toNat : Int) - 48 := IntWalk.u8_in _ (by omega)
            have x3 : IntKind.i64.wrap ((D[k].toNat : Int) - 48) = (D[k].toNat : Int) - 48 := IntWalk.i64_in _ (by omega)
            have x4 : IntKind.i64.wrap (10 * (m : Int) + ((D[k].toNat : Int) - 48)) = 10 * m + ((D[k].toNat : Int) - 48) := IntWalk.i64_in _ (by omega)
            go_region
            clear x1 x2 x3 x4
            go_wp2_with fail
            go_roundw
            case rel =>
              have n1 : (⟨w.heap.size + 1, 1, none⟩ : Addr) ≠ ⟨w.heap.size + 1, 0, none⟩ := by intro h; injection h; omega
              have n2 : (⟨w.heap.size + 1, 1, none⟩ : Addr) ≠ ⟨w.heap.size, 0, none⟩ := by intro h; injection h; omega
              have n3 : (⟨w.heap.size + 1, 1, none⟩ : Addr) ≠ ⟨w.heap.size, 1, none⟩ := by intro h; injection h; omega
              refine ⟨k + 1, by omega, by go_num, ?_, ?_, ?_, ?_, ?_, ?_, ?_, hdn, (hGr.out.setCell (by have := hGr.out.size; have := HG.out.size; simp; omega) _).drew, (hB.setCell (by simp) _).drew⟩
              · rw [World.cell?_drew, World.cell?_setCell_other _ _ _ _ n1]; exact q0
              · rw [World.cell?_drew, World.cell?_setCell_same _ _ _ q1, hnew.out]
                congr 2; omega
              · rw [World.frozen?_drew, World.frozen?_setCell]; exact q2
              · rw [World.cell?_drew, World.cell?_setCell_other _ _ _ _ n2]; exact q3
              · rw [World.cell?_drew, World.cell?_setCell_other _ _ _ _ n3]; exact q4
              · rw [World.frozen?_drew, World.frozen?_setCell]; exact q5
              · rw [World.frozen?_drew, World.frozen?_setCell]; exact q6
            case measure => simp [intOf]; omega
          · have Hans := Lib.hid (hbad.out (Or.inr (Or.inr ⟨_, hmem, by simpa using hbd⟩)))
            have hbn : D[k].toNat < 48 ∨ (48 ≤ D[k].toNat ∧ 57 < D[k].toNat) := by
              have : ¬ (48 ≤ D[k].toNat ∧ D[k].toNat ≤ 57) := by simpa [isD] using hbd
              omega
            clear htake hmem hbd hdig
            rcases hbn with hbn | ⟨hbn, hbn2⟩
            · go_wp2_with fail
              exact bodyPost_ret (v := .tuple #[zeroR, .int .i64 3]) (by simp [results, Tryd.results14, go_sem, q3, q4, zeroR]) rfl ⟨by rw [Hans.out], (hB.setCell (by simp) _).setCell (by simp) _⟩
            · go_wp2_with fail
              exact bodyPost_ret (v := .tuple #[zeroR, .int .i64 3]) (by simp [results, Tryd.results14, go_sem, q3, q4, zeroR]) rfl ⟨by rw [Hans.out], (hB.setCell (by simp) _).setCell (by simp) _⟩
        · obtain rfl : k = D.size := by omega
          have htk : D.data.toList.take D.size = D.data.toList := List.take_of_length_le (by omega)
          rw [htk] at hdig q1 hval
          have hsl : s.data.toList = a :: t := by rw [← Hs.out]
          have hdg2 : ∀ b ∈ Lib.trimPrefix t [45], isD b = true := by rw [Hds.out]; exact hdig.out
          have hpa := parseR_at hsl Hc.out hc0 hdg2
          have hpv : parseV t = if neg = true then -(valL D.data.toList : Int) else (valL D.data.toList : Int) := by unfold parseV; rw [Hds.out, Hneg.out]
          have hans : (chk c (parseV t) = 0 ∧ fmtS c (parseV t) = s → parseAns s = .tuple #[.agg #[.int .i64 c, .int .i64 (parseV t)], .int .i64 0]) ∧ (¬ (chk c (parseV t) = 0 ∧ fmtS c (parseV t) = s) → parseAns s = .tuple #[zeroR, .int .i64 3]) :=
            ⟨fun h => parseAns_good (hpa.1 h), fun h => parseAns_bad (hpa.2 h)⟩
          rw [hpv] at hans
          clear hpv hpa hdg2 hsl
          generalize valL D.data.toList = m at *
          have n1 : (⟨w.heap.size + 1, 1, none⟩ : Addr) ≠ ⟨w.heap.size + 1, 0, none⟩ := by intro h; injection h; omega
          have n2 : (⟨w.heap.size + 1, 1, none⟩ : Addr) ≠ ⟨w.heap.size, 0, none⟩ := by intro h; injection h; omega
          have n3 : (⟨w.heap.size + 1, 1, none⟩ : Addr) ≠ ⟨w.heap.size, 1, none⟩ := by intro h; injection h; omega
          have N1 := Lib.hid n1
          have N2 := Lib.hid n2
          have N3 := Lib.hid n3
          have Hans := Lib.hid hans
          have hs1 := HG.out.size
          clear hans hdig htk n1 n2 n3 hDl hbad
          cases neg
          · have Hans : Hid _ := Lib.hid (by have := Hans.out; simp only [Bool.false_eq_true, if_false] at this; exact this)
            obtain ⟨v, hv⟩ : ∃ v : Int, v = m := ⟨_, rfl⟩
            rw [← hv] at Hans q1
            have Hv := Lib.hid hv
            clear hv
            go_wp2_with fail
            obtain ⟨wx, rfl⟩ : ∃ wx, wx = wr := ⟨_, rfl⟩
            have f0 := q0
            have f1 := q1
            have f2 := q3
            have f3 := q4
            have f4 := q5
            have f5 := q6
            have HGx := hGr
            have hBx := hB
            clear q0 q1 q2 q3 q4 q5 q6 hGr hB

            have hsx : w.heap.size + 1 < wx.heap.size := World.block_lt_of_cell? (a := ⟨w.heap.size + 1, 0, none⟩) _ f0
            refine (eformat_any c v wx HGx.out).mono ?_
            rintro r w5 ⟨rfl, hb⟩
            have g0 := cell_then hb f0
            have g1 := cell_then hb f1
            have g2 := cell_then hb f2
            have g3 := cell_then hb f3
            have g4 : w5.frozen? ⟨w.heap.size, 0, none⟩ = false := by rw [hb.frozen (by simp; omega)]; exact f4
            have g5 : w5.frozen? ⟨w.heap.size, 1, none⟩ = false := by rw [hb.frozen (by simp; omega)]; exact f5
            have hB5 := below_then hBx hb
            have hsz5 : w.heap.size + 1 < w5.heap.size := World.block_lt_of_cell? (a := ⟨w.heap.size + 1, 0, none⟩) _ g0
            clear hb f0 f1 f2 f3 f4 f5 hBx HGx
            by_cases hk0 : chk c v = 0
            · by_cases hf0 : fmtS c v = s
              · have Hr : Hid (parseAns s = .tuple #[.agg #[.int .i64 c, .int .i64 v], .int .i64 0]) := Hans.out.1 ⟨hk0, hf0⟩
                rw [hk0, hf0]
                clear hk0 hf0 Hans
                go_wp2_with fail
                exact bodyPost_ret (v := .tuple #[.agg #[.int .i64 c, .int .i64 v], .int .i64 0]) (by simp [results, Tryd.results14, go_sem, g2, g3]) rfl ⟨by rw [Hr.out], (hB5.setCell (by simp) _).setCell (by simp) _⟩
              · have Hr : Hid (parseAns s = .tuple #[zeroR, .int .i64 3]) := Hans.out.2 (fun h => hf0 h.2)
                have hfe := str_ne hf0
                have hfb := str_bne hf0
                rw [hk0]
                clear hk0 hf0 Hans
                generalize fmtS c v = fs at *
                go_wp2_with fail
                exact bodyPost_ret (v := .tuple #[zeroR, .int .i64 3]) (by simp [results, Tryd.results14, go_sem, g2, g3, zeroR]) rfl ⟨by rw [Hr.out], (hB5.setCell (by simp) _).setCell (by simp) _⟩
            · have Hr : Hid (parseAns s = .tuple #[zeroR, .int .i64 3]) := Hans.out.2 (fun h => hk0 h.1)
              have hk1 : (chk c v == 0) = false := by simpa using hk0
              have hk2 : (chk c v != 0) = true := by simpa using hk0
              clear hk0 Hans
              generalize fmtS c v = fs at *
              generalize chk c v = kk at *
              go_wp2_with fail
              exact bodyPost_ret (v := .tuple #[zeroR, .int .i64 3]) (by simp [results, Tryd.results14, go_sem, g2, g3, zeroR]) rfl ⟨by rw [Hr.out], (hB5.setCell (by simp) _).setCell (by simp) _⟩
          · have Hans : Hid _ := Lib.hid (by have := Hans.out; simp only [if_true] at this; exact this)
            have en : IntKind.i64.wrap (-(m : Int)) = -m := IntWalk.i64_in _ (by omega)
            go_wp2_with fail
            clear en
            have f0 : (wr.setCell ⟨w.heap.size + 1, 1, none⟩ (.int .i64 (-(m : Int)))).cell? ⟨w.heap.size + 1, 0, none⟩ = some (.int .i64 c) := by rw [World.cell?_setCell_other _ _ _ _ N1.out]; exact q0
            have f1 : (wr.setCell ⟨w.heap.size + 1, 1, none⟩ (.int .i64 (-(m : Int)))).cell? ⟨w.heap.size + 1, 1, none⟩ = some (.int .i64 (-(m : Int))) := World.cell?_setCell_same _ _ _ q1
            have f2 : (wr.setCell ⟨w.heap.size + 1, 1, none⟩ (.int .i64 (-(m : Int)))).cell? ⟨w.heap.size, 0, none⟩ = some (.int .i64 0) := by rw [World.cell?_setCell_other _ _ _ _ N2.out]; exact q3
            have f3 : (wr.setCell ⟨w.heap.size + 1, 1, none⟩ (.int .i64 (-(m : Int)))).cell? ⟨w.heap.size, 1, none⟩ = some (.int .i64 0) := by rw [World.cell?_setCell_other _ _ _ _ N3.out]; exact q4
            have f4 : (wr.setCell ⟨w.heap.size + 1, 1, none⟩ (.int .i64 (-(m : Int)))).frozen? ⟨w.heap.size, 0, none⟩ = false := by rw [World.frozen?_setCell]; exact q5
            have f5 : (wr.setCell ⟨w.heap.size + 1, 1, none⟩ (.int .i64 (-(m : Int)))).frozen? ⟨w.heap.size, 1, none⟩ = false := by rw [World.frozen?_setCell]; exact q6
            have HGx := Lib.hid (hGr.out.setCell (p := ⟨w.heap.size + 1, 1, none⟩) (by simp; omega) (.int .i64 (-(m : Int))))
            have hBx := hB.setCell (p := ⟨w.heap.size + 1, 1, none⟩) (by simp) (.int .i64 (-(m : Int)))
            clear q0 q1 q2 q3 q4 q5 q6 hGr hB
            generalize wr.setCell ⟨w.heap.size + 1, 1, none⟩ (.int .i64 (-(m : Int))) = wx at *
            generalize -(m : Int) = v at *

            have hsx : w.heap.size + 1 < wx.heap.size := World.block_lt_of_cell? (a := ⟨w.heap.size + 1, 0, none⟩) _ f0
            refine (eformat_any c v wx HGx.out).mono ?_
            rintro r w5 ⟨rfl, hb⟩
            have g0 := cell_then hb f0
            have g1 := cell_then hb f1
            have g2 := cell_then hb f2
            have g3 := cell_then hb f3
            have g4 : w5.frozen? ⟨w.heap.size, 0, none⟩ = false := by rw [hb.frozen (by simp; omega)]; exact f4
            have g5 : w5.frozen? ⟨w.heap.size, 1, none⟩ = false := by rw [hb.frozen (by simp; omega)]; exact f5
            have hB5 := below_then hBx hb
            have hsz5 : w.heap.size + 1 < w5.heap.size := World.block_lt_of_cell? (a := ⟨w.heap.size + 1, 0, none⟩) _ g0
            clear hb f0 f1 f2 f3 f4 f5 hBx HGx
            by_cases hk0 : chk c v = 0
            · by_cases hf0 : fmtS c v = s
              · have Hr : Hid (parseAns s = .tuple #[.agg #[.int .i64 c, .int .i64 v], .int .i64 0]) := Hans.out.1 ⟨hk0, hf0⟩
                rw [hk0, hf0]
                clear hk0 hf0 Hans
                go_wp2_with fail
                exact bodyPost_ret (v := .tuple #[.agg #[.int .i64 c, .int .i64 v], .int .i64 0]) (by simp [results, Tryd.results14, go_sem, g2, g3]) rfl ⟨by rw [Hr.out], (hB5.setCell (by simp) _).setCell (by simp) _⟩
              · have Hr : Hid (parseAns s = .tuple #[zeroR, .int .i64 3]) := Hans.out.2 (fun h => hf0 h.2)
                have hfe := str_ne hf0
                have hfb := str_bne hf0
                rw [hk0]
                clear hk0 hf0 Hans
                generalize fmtS c v = fs at *
                go_wp2_with fail
                exact bodyPost_ret (v := .tuple #[zeroR, .int .i64 3]) (by simp [results, Tryd.results14, go_sem, g2, g3, zeroR]) rfl ⟨by rw [Hr.out], (hB5.setCell (by simp) _).setCell (by simp) _⟩
            · have Hr : Hid (parseAns s = .tuple #[zeroR, .int .i64 3]) := Hans.out.2 (fun h => hk0 h.1)
              have hk1 : (chk c v == 0) = false := by simpa using hk0
              have hk2 : (chk c v != 0) = true := by simpa using hk0
              clear hk0 Hans
              generalize fmtS c v = fs at *
              generalize chk c v = kk at *
              go_wp2_with fail
              exact bodyPost_ret (v := .tuple #[zeroR, .int .i64 3]) (by simp [results, Tryd.results14, go_sem, g2, g3, zeroR]) rfl ⟨by rw [Hr.out], (hB5.setCell (by simp) _).setCell (by simp) _⟩
end Go.Proofs.YtanfbfmchhbgfaaDoor
