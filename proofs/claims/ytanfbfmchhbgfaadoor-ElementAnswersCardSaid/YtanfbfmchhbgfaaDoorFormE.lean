/- Format of element returns the text that the reference returns. No conditions. -/
import Derived.Test.YtanfbfmchhbgfaaDoorForm
import Derived.Lib.ConvBytes
import Derived.Laws.IdiomStrings
namespace Go.Proofs.YtanfbfmchhbgfaaDoor
open Go Go.RowKit

theorem decW_zero : ∀ d, decW d 0 = List.replicate d 48
  | 0 => rfl
  | d + 1 => by rw [decW_step, show 0 / 10 = 0 from rfl, decW_zero d, List.replicate_succ']; rfl

theorem bdrewN {B : Nat} {w w' : World} (h : Below B w w') (n : Nat) : Below B w (w'.drewN n) := ⟨h.os, h.tape, h.output, h.size, h.block⟩
theorem digit_nat (x : Nat) (h : x < 10) : (48 + UInt8.ofNat x).toNat = 48 + x := (by decide : ∀ y : Fin 10, (48 + UInt8.ofNat y.1).toNat = 48 + y.1) ⟨x, h⟩
theorem getD_at (d : Nat) (b : UInt8) (t : List UInt8) : (List.replicate d (48 : UInt8) ++ b :: t).getD d 0 = b := by
  simp [List.getD_eq_getElem?_getD]
theorem getD_off (d j : Nat) (b : UInt8) (t : List UInt8) (h : j ≠ d) : (List.replicate d (48 : UInt8) ++ b :: t).getD j 0 = (List.replicate (d + 1) 48 ++ t).getD j 0 := by
  simp only [List.getD_eq_getElem?_getD]
  rcases Nat.lt_or_ge j d with h1 | h1
  · rw [List.getElem?_append_left (by simpa using h1), List.getElem?_append_left (by simp; omega)]
    simp [h1, Nat.lt_succ_of_lt h1]
  · rw [List.getElem?_append_right (by simpa using h1), List.getElem?_append_right (by simp; omega)]
    obtain ⟨k, hk⟩ : ∃ k, j - d = k + 1 := ⟨j - d - 1, by omega⟩
    simp only [List.length_replicate, hk, List.getElem?_cons_succ]
    rw [show j - (d + 1) = k by omega]
theorem pow_div {m d : Nat} (h : m < 10 ^ (d + 1)) : m / 10 < 10 ^ d := by
  rw [Nat.pow_succ] at h; omega

theorem repeat_one (d : Nat) : Lib.repeatL [48] d = List.replicate d (48 : UInt8) := by
  have := Lib.repeatL_replicate 48 1 d
  rwa [Nat.mul_one] at this
theorem pow_ok {e : Int} (h : 1 ≤ e ∧ e ≤ 11) : -((10 ^ (digits e).toNat : Nat) : Int) < least e ∧ most e < ((10 ^ (digits e).toNat : Nat) : Int) :=
  eleven (P := fun e => -((10 ^ (digits e).toNat : Nat) : Int) < least e ∧ most e < ((10 ^ (digits e).toNat : Nat) : Int)) (by decide) (by decide) (by decide) (by decide) (by decide) (by decide) (by decide) (by decide) (by decide) (by decide) (by decide) e h

/-- What []byte(s) leaves: a new row with the bytes, which may be written. -/
theorem conv_bytes (w : World) (s : ByteArray) : ∃ (w' : World) (cap : Nat), (convert 9 35 (.string s)).run Tryd.prog w = .ok (.slice (some ⟨w.heap.size, 0, none⟩) s.size cap) w' ∧
    Below w.heap.size w w' ∧ w'.heap.size = w.heap.size + 1 ∧ (∀ j, j < s.size → w'.cell? ⟨w.heap.size, j, none⟩ = some (.int .u8 (s.data.toList.getD j 0).toNat)) ∧ (∀ j, j < s.size → w'.frozen? ⟨w.heap.size, j, none⟩ = false) := by
  refine ⟨_, _, Lib.run_convert_string_bytes w 9 35 5 s Tryd.underlying9 Tryd.underlying35 Tryd.underlying5, ?_, Lib.bytesWorld_size _ _ _, fun j hj => Lib.bytesWorld_cell _ _ _ j hj, ?_⟩
  · exact ⟨by simp [Lib.bytesWorld, World.freeze, World.alloc, World.drew, -World.alloc_eq, -World.drew_eq], by simp [Lib.bytesWorld, World.freeze, World.alloc, World.drew, -World.alloc_eq, -World.drew_eq], by simp [Lib.bytesWorld, World.freeze, World.alloc, World.drew, -World.alloc_eq, -World.drew_eq], by rw [Lib.bytesWorld_size]; omega, fun k hk => Lib.bytesWorld_at_old _ _ _ k hk⟩
  · intro j hj
    have hsz : s.size ≤ (Lib.bytesCells w 5 s).size := by simp [Lib.bytesCells]
    simp only [World.frozen?, Lib.bytesWorld_at_new]
    simp; omega

theorem eformat_good (e v : Int) (n : Nat) (w : World) (hG : Glo w) (h : chk e v = 0) (hn : n = v.natAbs) :
    Calls Tryd.prog 12 #[.agg #[.int .i64 e, .int .i64 v]] w fun r w' => r = .returned (.tuple #[.string (fmtS e v), .int .i64 0]) ∧ Below w.heap.size w w' := by
  have hl := least_le e
  have hd := fun w1 (h : Glo w1) => desc_any e w1 h.bnds
  have Hd := Lib.hid hd
  have hch := fun w1 (h : Glo w1) => check_any e v w1 h
  rw [h] at hch
  have Hch := Lib.hid hch
  obtain ⟨hde, hr1, hr2, hr3, hr4, he⟩ := chk_ok h
  have h1 : Hid (infoOf e = infoV (letter e) (least e) (most e) (digits e)) := rfl
  have h2 := Lib.hid hde
  have Hf : Hid (fmtS e v = letter e ++ (if v < 0 then ⟨#[45]⟩ else ⟨#[]⟩) ++ ⟨(decW (digits e).toNat n).toArray⟩) := by
    unfold Hid fmtS fmtL
    rw [if_pos h, hn]
    apply ByteArray.ext
    split <;> simp [ByteArray.data_append]
  obtain ⟨dg, hdg⟩ : ∃ dg : Nat, digits e = dg := ⟨(digits e).toNat, by omega⟩
  have hdp : Hid (n < 10 ^ dg) := by
    have hp := pow_ok he
    rw [hdg, Int.toNat_natCast] at hp
    unfold Hid
    generalize 10 ^ dg = p at *
    omega
  obtain ⟨c, hcL⟩ := letter_ok he
  rw [hcL] at h1 Hf
  rw [hdg] at hl h1 Hf
  rw [Int.toNat_natCast] at Hf
  have HG := Lib.hid hG
  have hn0 : n ≤ 11000 := by omega
  have hd5 : dg ≤ 5 := by omega
  clear hd hde h hdg hl hcL hr1 hr2 he hG hch
  generalize least e = lo at *
  generalize most e = hi at *
  go_enter Tryd.func12, Tryd.ntmps12
  go_wp2_with fail
  refine (Hch.out _ (HG.out.alloc _)).mono ?_
  rintro r w1 ⟨rfl, hb⟩
  obtain ⟨hc, hf⟩ := bcell hb
  have c0 : w1.cell? ⟨w.heap.size, 0, none⟩ = some (.int .i64 e) := by rw [hc _ _ (by simp)]; simp
  have c1 : w1.cell? ⟨w.heap.size, 1, none⟩ = some (.int .i64 v) := by rw [hc _ _ (by simp)]; simp
  have hz : w.heap.size < w1.heap.size := by have := hb.size; simp at this; omega
  have HG1 := Lib.hid ((HG.out.alloc (.cells #[.int .i64 e, .int .i64 v] 23)).below hb (by have := HG.out.size; simp; omega))
  have hB : Below w.heap.size w w1 := ((Below.refl _ _).alloc (Nat.le_refl _) _).trans (hb.mono (by simp))
  clear hc hf hb
  go_wp2_with fail
  refine (Hd.out _ HG1.out).mono ?_
  rintro r w2 ⟨rfl, hb⟩
  rw [h1.out, h2.out]
  unfold infoV
  have k1 := cell_then hb c1
  have hz2 : w.heap.size < w2.heap.size := by have := hb.size; omega
  have hB2 := below_then hB hb
  clear hb c0 c1 hB hz HG1
  go_wp2_with fail
  refine (Tryd.strings_Repeat ⟨#[48]⟩ dg _ (by omega) (by simp [ByteArray.size]; omega)).mono ?_
  rintro r w3 ⟨rfl, hb⟩
  have d0 : w3.cell? ⟨w2.heap.size, 0, none⟩ = some (.string ⟨#[c]⟩) := cell_then hb (by simp)
  have k2 : w3.cell? ⟨w.heap.size, 1, none⟩ = some (.int .i64 v) := cell_then hb (by simp [World.cell?_alloc_lt, hz2, k1])
  have hz3 : w2.heap.size < w3.heap.size := by have := hb.size; simp at this; omega
  have hB3 := below_then (hB2.alloc (by omega) _) hb
  clear hb k1 hB2
  obtain ⟨w4, cap, hrun, hb4, hs4, hx4, hf4⟩ := conv_bytes w3 ⟨(Lib.repeatL [48] dg).toArray⟩
  have d1 := cell_then hb4 d0
  have k3 := cell_then hb4 k2
  have hB4 := below_then hB3 hb4
  clear d0 k2 hB3 hb4
  have hsz : (ByteArray.mk (Lib.repeatL [48] dg).toArray).size = dg := by rw [repeat_one]; simp [ByteArray.size]
  rw [hsz] at hrun hx4 hf4
  have hx5 : ∀ j, j < dg → w4.cell? ⟨w3.heap.size, j, none⟩ = some (.int .u8 48) := by
    intro j hj; rw [hx4 j hj, repeat_one]; simp [List.getD_eq_getElem?_getD, hj]
  have Hx5 := Lib.hid hx5
  have Hf4 := Lib.hid hf4
  clear hx4 hsz hx5 hf4
  go_wp2_with fail
  have ev : IntKind.i64.wrap (-v) = -v := IntWalk.i64_in _ (by omega)
  have ed : IntKind.i64.wrap ((dg : Int) - 1) = dg - 1 := IntWalk.i64_in _ (by omega)
  go_quiet (fail)
  clear ev ed
  go_wp2_with fail
  go_loopw [8, 9] (fun i x wr => ∃ (d m : Nat) (t : List UInt8), d ≤ dg ∧ m ≤ 11000 ∧ Hid (m < 10 ^ d) ∧ i = .int .i64 ((d : Int) - 1) ∧ x = .int .i64 m ∧ Hid (decW dg n = decW d m ++ t) ∧
      wr.cell? ⟨w2.heap.size, 0, none⟩ = some (.string ⟨#[c]⟩) ∧ wr.cell? ⟨w.heap.size, 1, none⟩ = some (.int .i64 v) ∧ Hid (∀ j, j < dg → wr.cell? ⟨w3.heap.size, j, none⟩ = some (.int .u8 (((List.replicate d 48 ++ t).getD j 0).toNat))) ∧
      Hid (t.length + d = dg) ∧ Hid (∀ j, j < dg → wr.frozen? ⟨w3.heap.size, j, none⟩ = false) ∧ Below w.heap.size w wr) (fun _ x _ => (intOf x).toNat)
  case atStart =>
    refine ⟨dg, n, [], by omega, hn0, hdp, rfl, by rw [show max v (-v) = n by omega], by simp [Hid], d1, k3, ?_, by simp [Hid], Hf4.out, bdrewN hB4 _⟩
    intro j hj
    have := Hx5.out j hj
    simp only [World.cell?_drewN]
    rw [this]; simp [List.getD_eq_getElem?_getD, hj]
  case round =>
    obtain ⟨d, m, t, hd, hm, hmd, rfl, rfl, hdw, q0, q1, hx, ht, hfr, hBr⟩ := hrel
    by_cases hm0 : 0 < m
    · have hd1 : 1 ≤ d := by
        rcases Nat.eq_zero_or_pos d with rfl | h
        · have := hmd.out; simp at this; omega
        · omega
      obtain ⟨d, rfl⟩ : ∃ d', d = d' + 1 := ⟨d - 1, by omega⟩
      have hcell : wr.cell? ⟨w3.heap.size, d, none⟩ = some (.int .u8 (((List.replicate (d + 1) (48 : UInt8) ++ t).getD d 0).toNat)) := hx.out d (by omega)
      have hfrd := hfr.out d (by omega)
      have e1 : ((d + 1 : Nat) : Int) - 1 = d := by omega
      rw [e1]
      generalize (((List.replicate (d + 1) (48 : UInt8) ++ t).getD d 0).toNat : Int) = old at *
      clear e1
      go_wp2_with fail
      go_roundw
      case rel =>
        have hne : (⟨w3.heap.size, d, none⟩ : Addr) ≠ ⟨w2.heap.size, 0, none⟩ := by intro h; injection h; omega
        have hne2 : (⟨w3.heap.size, d, none⟩ : Addr) ≠ ⟨w.heap.size, 1, none⟩ := by intro h; injection h; omega
        refine ⟨d, m / 10, (48 + UInt8.ofNat (m % 10)) :: t, by omega, by omega, pow_div hmd.out, rfl, by go_num, ?_, ?_, ?_, ?_, ?_, ?_, hBr.setCell (by simp; omega) _⟩
        · unfold Hid; rw [hdw.out, decW_step, List.append_assoc]; rfl
        · rw [World.cell?_setCell_other _ _ _ _ hne]; exact q0
        · rw [World.cell?_setCell_other _ _ _ _ hne2]; exact q1
        · intro j hj
          by_cases hjd : j = d
          · subst hjd
            rw [World.cell?_setCell_same _ _ _ hcell, getD_at, digit_nat _ (by omega)]
            simp
          · rw [World.cell?_setCell_other _ _ _ _ (by intro h; injection h; omega), getD_off _ _ _ _ hjd]
            exact hx.out j hj
        · have := ht.out; simp [Hid]; omega
        · intro j hj; rw [World.frozen?_setCell]; exact hfr.out j hj
      case measure => simp [intOf]; omega
    · obtain rfl : m = 0 := by omega
      have hlen : (decW dg n).length = dg := decW_length dg n
      have hrep : decW dg n = List.replicate d 48 ++ t := by rw [hdw.out, decW_zero]
      have hback := run_convert_bytes_back (P := Tryd.prog) wr 35 9 5 ⟨w3.heap.size, 0, none⟩ cap (decW dg n) Tryd.underlying35 Tryd.underlying5 Tryd.underlying9
        (fun j hj => by
          rw [Go.WideShapes.add_plain, Nat.zero_add, hx.out j (by omega), ← hrep]
          simp [List.getD_eq_getElem?_getD, hj])
      rw [hlen] at hback
      have hdl : (decW dg n).length ≤ 5 := by omega
      clear hlen hrep hx hfr ht hdw hmd
      generalize decW dg n = ds at *
      by_cases hv : v < 0
      · have Hf' : Hid (fmtS e v = ⟨#[c]⟩ ++ ⟨#[45]⟩ ++ ⟨ds.toArray⟩) := by have := Hf.out; rwa [if_pos hv] at this
        go_wp2_with fail
        go_ret2
        exact ⟨by rw [Hf'.out]; rfl, hBr⟩
      · have Hf' : Hid (fmtS e v = ⟨#[c]⟩ ++ ⟨#[]⟩ ++ ⟨ds.toArray⟩) := by have := Hf.out; rwa [if_neg hv] at this
        go_wp2_with fail
        go_ret2
        exact ⟨by rw [Hf'.out]; rfl, hBr⟩

theorem eformat_bad (e v : Int) (w : World) (hG : Glo w) (h : chk e v ≠ 0) :
    Calls Tryd.prog 12 #[.agg #[.int .i64 e, .int .i64 v]] w fun r w' => r = .returned (.tuple #[.string ⟨#[]⟩, .int .i64 (chk e v)]) ∧ Below w.heap.size w w' := by
  have hch := fun w1 (h : Glo w1) => check_any e v w1 h
  have Hch := Lib.hid hch
  have HG := Lib.hid hG
  clear hch hG
  generalize chk e v = k at *
  have hk : (k == 0) = false := by simpa using h
  have hk2 : (k != 0) = true := by simpa using h
  clear h
  go_enter Tryd.func12, Tryd.ntmps12
  go_wp2_with fail
  refine (Hch.out _ (HG.out.alloc _)).mono ?_
  rintro r w1 ⟨rfl, hb⟩
  have hB : Below w.heap.size w w1 := ((Below.refl _ _).alloc (Nat.le_refl _) _).trans (hb.mono (by simp))
  go_wp2_with fail
  go_ret2
  exact ⟨rfl, hB⟩

theorem eformat_any (e v : Int) (w : World) (hG : Glo w) :
    Calls Tryd.prog 12 #[.agg #[.int .i64 e, .int .i64 v]] w fun r w' => r = .returned (.tuple #[.string (fmtS e v), .int .i64 (chk e v)]) ∧ Below w.heap.size w w' := by
  by_cases h : chk e v = 0
  · have := eformat_good e v v.natAbs w hG h rfl
    rwa [h]
  · have e1 : fmtS e v = ⟨#[]⟩ := by unfold fmtS; rw [if_neg h]
    rw [e1]
    exact eformat_bad e v w hG h
end Go.Proofs.YtanfbfmchhbgfaaDoor
