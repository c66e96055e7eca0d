/- ElementTexts answers true at every input. No conditions. -/
import Derived.Test.YtanfbfmchhbgfaaDoorNew
import Derived.Test.YtanfbfmchhbgfaaDoorAwake
import Derived.BigRegion
namespace Go.Proofs.YtanfbfmchhbgfaaDoor
open Go Go.RowKit

theorem eparse_all (s : ByteArray) (w : World) (hs : s.size < 4294967281) (hG : Glo w) :
    Calls Tryd.prog 14 #[.string s] w fun r w' => r = .returned (parseAns s) ∧ Below w.heap.size w w' := by
  obtain ⟨⟨l⟩⟩ := s
  match l with
  | [] => exact eparse_empty w
  | a :: t => exact eparse_any a t w (by simp [ByteArray.size] at hs; omega) hG
theorem rparse_all (s : ByteArray) (w : World) :
    Calls Tryd.prog 16 #[.string s] w fun r w' => r = .returned (parseAns s) ∧ Below w.heap.size w w' := by
  by_cases h : s.size < 2 ∨ 8 < s.size
  · exact rparse_short s w h
  · obtain ⟨⟨l⟩⟩ := s
    match l with
    | [] => exact absurd (Or.inl (by decide)) h
    | a :: t => exact rparse_long a t w (by simp [ByteArray.size] at h; omega) (by simp [ByteArray.size] at h; omega)

theorem IntsAt.later {w w' : World} {B : Nat} {v : Value} {zs : List Int} (h : IntsAt w B v zs) (hw : Below B w w') {C : Nat} (hC : B ≤ C) : IntsAt w' C v zs := by
  obtain ⟨a, len, cap, h1, h2, h3, h4, h5, h6, h7⟩ := h
  refine ⟨a, len, cap, h1, h2, h3, h4, h5, h6, fun i hi => ?_⟩
  obtain ⟨ab, ao, ha, hlt, hc⟩ := h7 i hi
  exact ⟨ab, ao, ha, by omega, by rw [hw.cell (by simpa using hlt)]; exact hc⟩

theorem getD_set_ne {l : List Int} {k j : Nat} {x : Int} (h : j ≠ k) : (l.set k x).getD j 0 = l.getD j 0 := by
  rw [List.getD_eq_getElem?_getD, List.getElem?_set_ne (Ne.symm h), List.getD_eq_getElem?_getD]

set_option maxRecDepth 100000 in
set_option maxHeartbeats 4000000 in
theorem texts_short (e0 v0 : Int) (S : ByteArray) (lv : Value) (zs : List Int) (at_ by_ : Int) (w : World) (hG : Glo w) (hl : IntsAt w w.heap.size lv zs) (hat : I64 at_) (_hby : 0 ≤ by_ ∧ by_ ≤ 255) (hS : S.size ≤ 60) :
    Calls Tryd.prog 3 #[.agg #[.int .i64 e0, .int .i64 v0], .string S, lv, .int .i64 at_, .int .u8 by_] w fun e w' => e = .returned (.bool true) ∧ Below w.heap.size w w' := by
  have hs0 := hG.size
  have hB0 : Below w.heap.size w (w.alloc (.cells #[.int .i64 e0, .int .i64 v0] 23)) := (Below.refl _ _).alloc (Nat.le_refl _) _
  have hnew := new_ok lv zs (w.alloc (.cells #[.int .i64 e0, .int .i64 v0] 23)) (hl.later hB0 (by simp))
  have Hnew := Lib.hid hnew
  have HG := Lib.hid hG
  have Hat := Lib.hid hat
  clear hnew hG hl hat
  go_enter Tryd.func3, Tryd.ntmps3
  go_wp2_with fail
  refine Hnew.out.mono ?_
  rintro r w1 ⟨rfl, hsrc, hb, hz1⟩
  have e0c : w1.cell? ⟨w.heap.size, 0, none⟩ = some (.int .i64 e0) := cell_then hb (by simp)
  have v0c : w1.cell? ⟨w.heap.size, 1, none⟩ = some (.int .i64 v0) := cell_then hb (by simp)
  have hB1 := below_then hB0 hb
  simp only [World.size_alloc] at hsrc hz1
  have hz1 : w.heap.size + 2 ≤ w1.heap.size := by omega
  have Hsrc := Lib.hid hsrc
  clear hb hB0 hsrc Hnew
  go_wp2_with fail
  refine (range_ok (w.heap.size + 1) (w.heap.size + 1) 1 11 w1 Hsrc.out (by omega) (by omega) (by omega)).mono ?_
  rintro r w2 ⟨c, hc1, hc2, rfl, hs2⟩
  go_wp2_with fail
  refine (some_ok (w.heap.size + 1) (w.heap.size + 1) c w2 hs2.1 ⟨hc1, hc2⟩).mono ?_
  rintro r w3 ⟨v, hv, rfl, hs3⟩
  have e0d : w3.cell? ⟨w.heap.size, 0, none⟩ = some (.int .i64 e0) := but_cell hs3.2 (by simp) (but_cell hs2.2 (by simp) e0c)
  have v0d : w3.cell? ⟨w.heap.size, 1, none⟩ = some (.int .i64 v0) := but_cell hs3.2 (by simp) (but_cell hs2.2 (by simp) v0c)
  have hbut : But w1.heap.size (w.heap.size + 1) w1 w3 := hs2.2.trans (hs3.2.mono hs2.2.size)
  have hB3 : Below w.heap.size w w3 := hB1.trans ((hbut.mono (by omega)).below (by omega))
  have HG3 := Lib.hid (HG.out.below hB3 hs0)
  have hz3 : w.heap.size + 1 < w3.heap.size := by have := hbut.size; omega
  have hz3' : w.heap.size < w3.heap.size := by omega
  clear e0c v0c hB1 hs2 hs3 hbut Hsrc hz1
  have Hv := Lib.hid hv
  clear hv
  go_wp2_with fail
  refine (eformat_any e0 v0 _ (HG3.out.alloc _)).mono ?_
  rintro r w4 ⟨rfl, hb⟩
  have e0e : w4.cell? ⟨w.heap.size, 0, none⟩ = some (.int .i64 e0) := cell_then hb (by rw [World.cell?_alloc_old _ _ _ (by simp; omega)]; exact e0d)
  have v0e : w4.cell? ⟨w.heap.size, 1, none⟩ = some (.int .i64 v0) := cell_then hb (by rw [World.cell?_alloc_old _ _ _ (by simp; omega)]; exact v0d)
  have c0e : w4.cell? ⟨w3.heap.size, 0, none⟩ = some (.int .i64 c) := cell_then hb (by simp)
  have c1e : w4.cell? ⟨w3.heap.size, 1, none⟩ = some (.int .i64 v) := cell_then hb (by simp)
  have HG4 := Lib.hid ((HG3.out.alloc (.cells #[.int .i64 c, .int .i64 v] 23)).below hb (by have := HG3.out.size; simp; omega))
  have hB4 := below_then (hB3.alloc (by omega) _) hb
  clear hb e0d v0d HG3 hB3
  generalize hfr : fmtS e0 v0 = FR at *
  generalize hkr : chk e0 v0 = KR at *
  have Hfr := Lib.hid hfr
  have Hkr := Lib.hid hkr
  clear hfr hkr
  go_wp2_with fail
  refine (rformat_any e0 v0 _).mono ?_
  rintro r w5 ⟨rfl, hb⟩
  rw [Hfr.out, Hkr.out]
  have c0f := cell_then hb c0e
  have c1f := cell_then hb c1e
  have HG5 := Lib.hid (HG4.out.below hb HG4.out.size)
  have hB5 := below_then hB4 hb
  have hz5 : w3.heap.size < w5.heap.size := World.block_lt_of_cell? (a := ⟨w3.heap.size, 0, none⟩) _ c0f
  clear hb e0e v0e c0e c1e HG4 hB4
  go_wp2_with fail
  refine (eformat_any c v _ HG5.out).mono ?_
  rintro r w6 ⟨rfl, hb⟩
  rw [Hv.out]
  have c0g := cell_then hb c0f
  have c1g := cell_then hb c1f
  have HG6 := Lib.hid (HG5.out.below hb HG5.out.size)
  have hB6 := below_then hB5 hb
  clear hb c0f c1f HG5 hB5 hz5
  have hpa : parseAns (fmtS c v) = .tuple #[.agg #[.int .i64 c, .int .i64 v], .int .i64 0] := parseAns_good (parse_fmt Hv.out)
  have hTl := fmt_len Hv.out
  generalize fmtS c v = T at *
  have Hpa := Lib.hid hpa
  clear hpa
  go_wp2_with fail
  refine (eparse_all T _ (by omega) HG6.out).mono ?_
  rintro r w7 ⟨rfl, hb⟩
  rw [Hpa.out]
  have c0h := cell_then hb c0g
  have c1h := cell_then hb c1g
  have HG7 := Lib.hid (HG6.out.below hb HG6.out.size)
  have hB7 := below_then hB6 hb
  have hz7 : w3.heap.size < w7.heap.size := World.block_lt_of_cell? (a := ⟨w3.heap.size, 0, none⟩) _ c0h
  clear hb c0g c1g HG6 hB6
  obtain ⟨w8, cap, hrun, hb8, hs8, hx8, hf8⟩ := conv_bytes (w7.alloc (.cells #[.int .i64 c, .int .i64 v] 23)) T
  have HG8 := Lib.hid ((HG7.out.alloc (.cells #[.int .i64 c, .int .i64 v] 23)).below hb8 (by have := HG7.out.size; simp; omega))
  have hB8 := below_then (hB7.alloc hB7.size _) hb8
  have hz8 : w7.heap.size + 1 < w8.heap.size := by have := hs8; simp at this; omega
  simp only [World.size_alloc] at hrun hx8 hf8
  have Hx8 := Lib.hid hx8
  have Hf8 := Lib.hid hf8
  obtain ⟨n, hn⟩ : ∃ n, T.size = n := ⟨_, rfl⟩
  obtain ⟨kk, hkk⟩ : ∃ kk : Nat, modOf at_ (n : Int) = kk := ⟨(modOf at_ (n : Int)).toNat, by have := @modOf_lt at_ (n : Int) (by omega); omega⟩
  have hkn : kk < n := by have := @modOf_lt at_ (n : Int) (by omega); omega
  have hmod := mod_any at_ (n : Int) w8 Hat.out (by unfold I64; omega)
  rw [hkk] at hmod
  have Hmod := Lib.hid hmod
  rw [hn] at hrun hx8 hf8 hTl
  have hck := hx8 kk hkn
  have hfk := hf8 kk hkn
  have Hn := Lib.hid hn
  have Hx8 := Lib.hid hx8
  clear hx8 hf8 hs8 hb8 hB7 HG7 hkk hmod hn
  generalize ((T.data.toList.getD kk 0).toNat : Int) = old at *
  go_wp2_with fail
  refine Hmod.out.mono ?_
  rintro r w9 ⟨rfl, rfl⟩
  go_wp2_with fail
  obtain ⟨X, hX⟩ : ∃ X, X = bits BinOp.xor IntKind.u8 old by_ := ⟨_, rfl⟩
  rw [← hX]
  have hxs : ∀ j, j < n → (w8.setCell ⟨w7.heap.size + 1, kk, none⟩ (.int .u8 X)).cell? ⟨w7.heap.size + 1, 0 + j, none⟩ = some (.int .u8 (((T.data.toList.map fun b => (b.toNat : Int)).set kk X).getD j 0)) := by
    intro j hj
    have hlT : T.data.toList.length = n := by have := Hn.out; simpa using this
    rw [Nat.zero_add]
    by_cases hjk : j = kk
    · subst hjk
      rw [World.cell?_setCell_same _ _ _ hck]
      simp [List.getD_eq_getElem?_getD, hlT, hj]
    · rw [World.cell?_setCell_other _ _ _ _ (by intro h; injection h; omega), Hx8.out j hj, getD_set_ne hjk]
      simp [List.getD_eq_getElem?_getD, hlT, hj]
  have hB9 : Below w.heap.size w (w8.setCell ⟨w7.heap.size + 1, kk, none⟩ (.int .u8 X)) := hB8.setCell (by simp; omega) _
  have HG9 := Lib.hid (HG8.out.setCell (p := ⟨w7.heap.size + 1, kk, none⟩) (by simp; omega) (.int .u8 X))
  have hlT : T.data.toList.length = n := by have := Hn.out; simpa using this
  generalize w8.setCell ⟨w7.heap.size + 1, kk, none⟩ (.int .u8 X) = w9 at *
  have hconv := run_convert_bytes_arg (P := Tryd.prog) w9.drew 35 5 Tryd.underlying35 Tryd.underlying5 (w7.heap.size + 1) 0 n cap ((T.data.toList.map fun b => (b.toNat : Int)).set kk X) (by simp [hlT]) (fun i hi => by rw [World.cell?_drew]; exact hxs i hi) 9 Tryd.underlying9
  have hZs : (strOfNums ((T.data.toList.map fun b => (b.toNat : Int)).set kk X)).size ≤ 7 := by rw [strOfNums_size]; simp [hlT]; omega
  generalize strOfNums ((T.data.toList.map fun b => (b.toNat : Int)).set kk X) = Z at *
  have hA : (T.extract 0 1).size ≤ 1 := by rw [ByteArray.size_extract]; omega
  have hBx : (T.extract 1 n).size ≤ 7 := by rw [ByteArray.size_extract]; omega
  have hCx : (T.extract 0 (n - 1)).size ≤ 7 := by rw [ByteArray.size_extract]; omega
  have hn := Hn.out
  have hn7 : (n : Int) ≤ 7 := by omega
  have hn5 : 5 ≤ (n : Int) := by omega
  have hnw : IntKind.i64.wrap ((n : Int) - 1) = (n : Int) - 1 := IntWalk.i64_in _ (by omega)
  have hnt : ((n : Int) - 1).toNat = n - 1 := by omega
  generalize hA' : T.extract 0 1 = A at *
  generalize hB' : T.extract 1 n = Bx at *
  generalize hC' : T.extract 0 (n - 1) = Cx at *
  clear hxs hX hlT hck hfk Hx8 Hf8 HG8 hB8 c0h c1h
  go_region
  go_wp2_with fail
  have hB10 : Below w.heap.size w (w9.alloc (.cells #[.string S, .string Z, .string (T ++ ⟨#[48]⟩), .string (A ++ ⟨#[48]⟩ ++ Bx), .string (A ++ ⟨#[45]⟩ ++ Bx), .string Cx, .string ⟨#[69, 45, 48, 48, 48, 48]⟩] 9)).drew := (hB9.alloc hB9.size _).drew
  have HG10 := Lib.hid ((HG9.out.alloc (.cells #[.string S, .string Z, .string (T ++ ⟨#[48]⟩), .string (A ++ ⟨#[48]⟩ ++ Bx), .string (A ++ ⟨#[45]⟩ ++ Bx), .string Cx, .string ⟨#[69, 45, 48, 48, 48, 48]⟩] 9)).drew)
  obtain ⟨ss, hss, hsl⟩ : ∃ ss : Nat → ByteArray, (∀ i, i < 7 → (w9.alloc (.cells #[.string S, .string Z, .string (T ++ ⟨#[48]⟩), .string (A ++ ⟨#[48]⟩ ++ Bx), .string (A ++ ⟨#[45]⟩ ++ Bx), .string Cx, .string ⟨#[69, 45, 48, 48, 48, 48]⟩] 9)).drew.cell? ⟨w9.heap.size, i, none⟩ = some (.string (ss i))) ∧ (∀ i, i < 7 → (ss i).size ≤ 70) := by
    refine ⟨fun i => [S, Z, T ++ ⟨#[48]⟩, A ++ ⟨#[48]⟩ ++ Bx, A ++ ⟨#[45]⟩ ++ Bx, Cx, ⟨#[69, 45, 48, 48, 48, 48]⟩].getD i ⟨#[]⟩, fun i hi => ?_, fun i hi => ?_⟩
    · have h7 : i = 0 ∨ i = 1 ∨ i = 2 ∨ i = 3 ∨ i = 4 ∨ i = 5 ∨ i = 6 := by omega
      rcases h7 with rfl | rfl | rfl | rfl | rfl | rfl | rfl <;> simp
    · have h7 : i = 0 ∨ i = 1 ∨ i = 2 ∨ i = 3 ∨ i = 4 ∨ i = 5 ∨ i = 6 := by omega
      have l1 : (⟨#[48]⟩ : ByteArray).size = 1 := rfl
      have l2 : (⟨#[45]⟩ : ByteArray).size = 1 := rfl
      have l3 : (⟨#[69, 45, 48, 48, 48, 48]⟩ : ByteArray).size = 6 := rfl
      rcases h7 with rfl | rfl | rfl | rfl | rfl | rfl | rfl <;> simp [ByteArray.size_append, l1, l2, l3] <;> omega
  have Hss := Lib.hid hss
  have Hsl := Lib.hid hsl
  clear hss hsl hconv hnw hnt hA' hB' hC' hn
  generalize (w9.alloc (.cells #[.string S, .string Z, .string (T ++ ⟨#[48]⟩), .string (A ++ ⟨#[48]⟩ ++ Bx), .string (A ++ ⟨#[45]⟩ ++ Bx), .string Cx, .string ⟨#[69, 45, 48, 48, 48, 48]⟩] 9)).drew = w10 at *
  go_loopw [115] (fun x wr => ∃ k : Nat, k ≤ 7 ∧ x = .int .i64 k ∧ Hid (∀ i, i < 7 → wr.cell? ⟨w9.heap.size, i, none⟩ = some (.string (ss i))) ∧ Hid (Glo wr) ∧ Below w.heap.size w wr) (fun x _ => (7 - intOf x).toNat)
  case atStart => exact ⟨0, by omega, rfl, Hss, HG10, hB10⟩
  case round =>
    obtain ⟨k, hk, rfl, hcs, hGr, hBr⟩ := hrel
    by_cases hlt : k < 7
    · have hck := hcs.out k hlt
      have hsk := Hsl.out k hlt
      have hzr : w9.heap.size < wr.heap.size := World.block_lt_of_cell? (a := ⟨w9.heap.size, k, none⟩) _ hck
      have Hck := Lib.hid (show parseAns (ss k) = .tuple #[.agg #[.int .i64 (parseR (ss k)).1, .int .i64 (parseR (ss k)).2.1], .int .i64 (parseR (ss k)).2.2] from rfl)
      generalize (parseR (ss k)).1 = p1 at *
      generalize (parseR (ss k)).2.1 = p2 at *
      generalize (parseR (ss k)).2.2 = p3 at *
      generalize ss k = x at *
      go_wp2_with fail
      refine (eparse_all x _ (by omega) hGr.out).mono ?_
      rintro r w11 ⟨rfl, hb⟩
      rw [Hck.out]
      have HG11 := Lib.hid (hGr.out.below hb hGr.out.size)
      have hB11 := below_then hBr hb
      have hcs11 : Hid (∀ i, i < 7 → w11.cell? ⟨w9.heap.size, i, none⟩ = some (.string (ss i))) := fun i hi => cell_then hb (hcs.out i hi)
      have hz11 : w9.heap.size < w11.heap.size := by have := hb.size; omega
      clear hb
      go_wp2_with fail
      refine (rparse_all x _).mono ?_
      rintro r w12 ⟨rfl, hb⟩
      rw [Hck.out]
      have a0 : w12.cell? ⟨w11.heap.size, 0, none⟩ = some (.int .i64 p1) := cell_then hb (by simp)
      have a1 : w12.cell? ⟨w11.heap.size, 1, none⟩ = some (.int .i64 p2) := cell_then hb (by simp)
      have HG12 := Lib.hid ((HG11.out.alloc (.cells #[.int .i64 p1, .int .i64 p2] 23)).below hb (by have := HG11.out.size; simp; omega))
      have hB12 := below_then (hB11.alloc hB11.size _) hb
      have hcs12 : Hid (∀ i, i < 7 → w12.cell? ⟨w9.heap.size, i, none⟩ = some (.string (ss i))) := fun i hi => cell_then hb (by rw [World.cell?_alloc_old _ _ _ (by simp; omega)]; exact hcs11.out i hi)
      have hz12 : w11.heap.size < w12.heap.size := World.block_lt_of_cell? (a := ⟨w11.heap.size, 0, none⟩) _ a0
      clear hb hcs11 HG11 hB11
      go_wp2_with fail
      go_roundw
      case rel =>
        refine ⟨k + 1, by omega, by go_num, fun i hi => ?_, HG12.out.alloc _, hB12.alloc hB12.size _⟩
        rw [World.cell?_alloc_old _ _ _ (by simp; omega)]; exact hcs12.out i hi
      case measure => simp [intOf]; omega
    · obtain rfl : k = 7 := by omega
      go_wp2_with fail
      refine (awake_any _ hGr.out).mono ?_
      rintro r w11 ⟨rfl, hb⟩
      go_wp2_with fail
      go_ret
      exact ⟨rfl, below_then hBr hb⟩
end Go.Proofs.YtanfbfmchhbgfaaDoor
