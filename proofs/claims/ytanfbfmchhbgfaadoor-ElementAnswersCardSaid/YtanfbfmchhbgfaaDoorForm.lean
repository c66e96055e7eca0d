/- Format of element and of its reference return one and the same text. No conditions. -/
import Derived.Test.YtanfbfmchhbgfaaDoorElem
import Derived.Test.YtanfbfmchhbgfaaDoorShelf
import Derived.Deep.RegionHeld3
import Derived.Deep.DeepCutAuto
namespace Go.Proofs.YtanfbfmchhbgfaaDoor
open Go Go.RowKit

/-- The text of a reading that is in its range. -/
def fmtL (e v : Int) : List UInt8 := (letter e).data.toList ++ (if v < 0 then [45] else []) ++ decW (digits e).toNat v.natAbs
def fmtS (e v : Int) : ByteArray := if chk e v = 0 then ⟨(fmtL e v).toArray⟩ else ⟨#[]⟩

theorem least_le (c : Int) : -1000 ≤ least c ∧ most c ≤ 11000 ∧ 0 ≤ digits c ∧ digits c ≤ 5 := by
  by_cases h : 1 ≤ c ∧ c ≤ 11
  · exact eleven (P := fun c => -1000 ≤ least c ∧ most c ≤ 11000 ∧ 0 ≤ digits c ∧ digits c ≤ 5) (by decide) (by decide) (by decide) (by decide) (by decide) (by decide) (by decide) (by decide) (by decide) (by decide) (by decide) c h
  · have : c ≠ 1 := by omega
    simp [least, most, digits, h, this]

theorem decW_length : ∀ k n, (decW k n).length = k
  | 0, _ => rfl
  | k + 1, n => by rw [decW_step, List.length_append, decW_length k]; rfl

theorem chk_ok {e v : Int} (h : chk e v = 0) : descE e = 0 ∧ least e ≤ v ∧ v ≤ most e ∧ -1000 ≤ v ∧ v ≤ 11000 ∧ 1 ≤ e ∧ e ≤ 11 := by
  have hl := least_le e
  unfold chk at h; unfold descE; split at h
  · split at h
    · omega
    · refine ⟨by rw [if_pos (by omega)], by omega, by omega, by omega, by omega, by omega, by omega⟩
  · omega
theorem letter_ok {e : Int} (h : 1 ≤ e ∧ e ≤ 11) : ∃ c, letter e = ⟨#[c]⟩ := by
  unfold letter; rw [if_pos h]; exact ⟨_, rfl⟩

theorem rformat_bad (e v : Int) (w : World) (h : chk e v ≠ 0) :
    Calls Tryd.prog 13 #[.agg #[.int .i64 e, .int .i64 v]] w fun r w' => r = .returned (.tuple #[.string ⟨#[]⟩, .int .i64 (chk e v)]) ∧ Below w.heap.size w w' := by
  have hd := fun w1 => rdesc_any e w1
  have Hd := Lib.hid hd
  have hin := in_any e v
  have Hin := Lib.hid hin
  have h1 : Hid (infoOf e = infoV (letter e) (least e) (most e) (digits e)) := rfl
  have hq : (descE e = 4 ∧ chk e v = 4) ∨ (descE e = 0 ∧ chk e v = 1 ∧ ¬ (least e ≤ v ∧ v ≤ most e)) := by
    unfold chk at *; unfold descE
    split
    · split at h
      · split at h
        · right; rename_i a b c; exact ⟨rfl, by rw [if_pos c], by omega⟩
        · omega
      · omega
    · left; exact ⟨rfl, rfl⟩
  clear hd hin h
  generalize letter e = L at *
  rcases hq with ⟨q1, q2⟩ | ⟨q1, q2, q3⟩
  · rw [q2]
    have h2 := Lib.hid q1
    clear q1 q2
    generalize least e = lo at *
    generalize most e = hi at *
    generalize digits e = dg at *
    go_enter Tryd.func13, Tryd.ntmps13
    go_wp2_with fail
    refine (Hd.out _).mono ?_
    rintro r w1 ⟨rfl, hb⟩
    rw [h1.out, h2.out]
    unfold infoV
    have hz : w.heap.size < w1.heap.size := by have := hb.size; simp at this; omega
    have hB : Below w.heap.size w w1 := ((Below.refl _ _).alloc (Nat.le_refl _) _).trans (hb.mono (by simp))
    clear hb
    go_wp2_with fail
    go_ret2
    exact ⟨rfl, hB.alloc (by omega) _⟩
  · rw [q2]
    have h2 := Lib.hid q1
    rw [show decide (least e ≤ v ∧ v ≤ most e) = false by simpa using q3] at Hin
    clear q1 q2 q3
    generalize least e = lo at *
    generalize most e = hi at *
    generalize digits e = dg at *
    go_enter Tryd.func13, Tryd.ntmps13
    go_wp2_with fail
    refine (Hd.out _).mono ?_
    rintro r w1 ⟨rfl, hb⟩
    rw [h1.out, h2.out]
    unfold infoV
    obtain ⟨hc, hf⟩ := bcell hb
    have c0 : w1.cell? ⟨w.heap.size, 0, none⟩ = some (.int .i64 e) := by rw [hc _ _ (by simp)]; simp
    have c1 : w1.cell? ⟨w.heap.size, 1, none⟩ = some (.int .i64 v) := by rw [hc _ _ (by simp)]; simp
    have hz : w.heap.size < w1.heap.size := by have := hb.size; simp at this; omega
    have hB : Below w.heap.size w w1 := ((Below.refl _ _).alloc (Nat.le_refl _) _).trans (hb.mono (by simp))
    clear hc hf hb
    go_wp2_with fail
    refine (Hin.out _).mono ?_
    rintro r w2 ⟨rfl, hb⟩
    have hB2 : Below w.heap.size w w2 := (hB.alloc (by omega) _).trans (hb.mono (by simp; omega))
    go_wp2_with fail
    go_ret2
    exact ⟨rfl, hB2⟩

theorem rformat_neg (e : Int) (n : Nat) (w : World) (h : chk e (-(n : Int)) = 0) (hn1 : 0 < n) :
    Calls Tryd.prog 13 #[.agg #[.int .i64 e, .int .i64 (-(n : Int))]] w fun r w' => r = .returned (.tuple #[.string (fmtS e (-(n : Int))), .int .i64 0]) ∧ Below w.heap.size w w' := by
  have hl := least_le e
  have hd := fun w1 => rdesc_any e w1
  have Hd := Lib.hid hd
  have hin := in_any e (-(n : Int))
  obtain ⟨hde, hr1, hr2, hr3, hr4, he⟩ := chk_ok h
  have hin' : ∀ w, Calls Tryd.prog 37 #[.agg #[.int .i64 e, .int .i64 (-(n : Int))]] w fun r w' => r = .returned (.bool true) ∧ Below w.heap.size w w' := by
    intro w; have := hin w; rwa [show decide (least e ≤ (-(n : Int)) ∧ (-(n : Int)) ≤ most e) = true by simp; omega] at this
  have Hin := Lib.hid hin'
  have h1 : Hid (infoOf e = infoV (letter e) (least e) (most e) (digits e)) := rfl
  have h2 := Lib.hid hde
  have Hf : Hid (fmtS e (-(n : Int)) = letter e ++ ⟨#[45]⟩ ++ ⟨(decW (digits e).toNat n).toArray⟩) := by
    unfold Hid fmtS fmtL
    rw [if_pos h, if_pos (by omega), show Int.natAbs (-(n : Int)) = n by omega]
    apply ByteArray.ext; simp [ByteArray.data_append]
  obtain ⟨dg, hdg⟩ : ∃ dg : Nat, digits e = dg := ⟨(digits e).toNat, by omega⟩
  have hds := digits_any n dg
  obtain ⟨c, hcL⟩ := letter_ok he
  rw [hcL] at h1 Hf
  rw [hdg] at hl h1 Hf
  rw [Int.toNat_natCast] at Hf
  have Hds := Lib.hid (fun w => hds w (by omega) (by omega))
  have hn0 : n ≤ 11000 := by omega
  have hd5 : dg ≤ 5 := by omega
  clear hd hin hin' hde h hdg hl hds hcL hr1 hr2 hr3 hr4 he
  generalize least e = lo at *
  generalize most e = hi at *
  have hdl : ((decW dg n).length ≤ 5) := by have : (decW dg n).length = dg := decW_length dg n; omega
  generalize decW dg n = ds at *
  go_enter Tryd.func13, Tryd.ntmps13
  go_wp2_with fail
  refine (Hd.out _).mono ?_
  rintro r w1 ⟨rfl, hb⟩
  rw [h1.out, h2.out]
  unfold infoV
  obtain ⟨hc, hf⟩ := bcell hb
  have c0 : w1.cell? ⟨w.heap.size, 0, none⟩ = some (.int .i64 e) := by rw [hc _ _ (by simp)]; simp
  have c1 : w1.cell? ⟨w.heap.size, 1, none⟩ = some (.int .i64 (-(n : Int))) := by rw [hc _ _ (by simp)]; simp
  have hz : w.heap.size < w1.heap.size := by have := hb.size; simp at this; omega
  have hB : Below w.heap.size w w1 := ((Below.refl _ _).alloc (Nat.le_refl _) _).trans (hb.mono (by simp))
  clear hc hf hb
  go_wp2_with fail
  refine (Hin.out _).mono ?_
  rintro r w2 ⟨rfl, hb⟩
  obtain ⟨hc, hf⟩ := bcell hb
  have k1 : w2.cell? ⟨w.heap.size, 1, none⟩ = some (.int .i64 (-(n : Int))) := by rw [hc _ _ (by simp; omega)]; simp [World.cell?_alloc_lt, hz, c1]
  have d0 : w2.cell? ⟨w1.heap.size, 0, none⟩ = some (.string ⟨#[c]⟩) := by rw [hc _ _ (by simp)]; simp
  have d3 : w2.cell? ⟨w1.heap.size, 3, none⟩ = some (.int .i64 dg) := by rw [hc _ _ (by simp)]; simp
  have hz2 : w1.heap.size < w2.heap.size := by have := hb.size; simp at this; omega
  have hB2 : Below w.heap.size w w2 := (hB.alloc (by omega) _).trans (hb.mono (by simp; omega))
  clear hc hf hb c0 c1 hB
  go_wp2_with fail
  have hdl' : ¬ 9223372036854775807 < 2 + ds.length := by omega
  have en : IntKind.i64.wrap (n : Int) = n := IntWalk.i64_in _ (by omega)
  go_region_held3 (fun w' => w'.cell? ⟨w.heap.size, 1, none⟩ = some (.int .i64 (-(n : Int))) ∧ w'.cell? ⟨w1.heap.size, 0, none⟩ = some (.string ⟨#[c]⟩) ∧ w'.cell? ⟨w1.heap.size, 3, none⟩ = some (.int .i64 dg) ∧ Below w.heap.size w w')
    (first | exact ⟨k1, d0, d3, hB2.drew⟩ | (go_split_ands; exact ⟨cell_then hb (by assumption), cell_then hb (by assumption), cell_then hb (by assumption), below_then (by assumption) hb⟩))
    (first | (go_at_call 38; ((with_reducible refine (Hds.out _).mono ?_); rintro e w' ⟨rfl, hb⟩)))
  clear en
  go_wp2_with fail
  go_ret2
  exact ⟨by rw [Hf.out]; rfl, by obtain ⟨_, _, _, q⟩ := (by assumption : _ ∧ _ ∧ _ ∧ Below _ _ _); exact q⟩

theorem rformat_pos (e : Int) (n : Nat) (w : World) (h : chk e (n : Int) = 0)  :
    Calls Tryd.prog 13 #[.agg #[.int .i64 e, .int .i64 (n : Int)]] w fun r w' => r = .returned (.tuple #[.string (fmtS e (n : Int)), .int .i64 0]) ∧ Below w.heap.size w w' := by
  have hl := least_le e
  have hd := fun w1 => rdesc_any e w1
  have Hd := Lib.hid hd
  have hin := in_any e (n : Int)
  obtain ⟨hde, hr1, hr2, hr3, hr4, he⟩ := chk_ok h
  have hin' : ∀ w, Calls Tryd.prog 37 #[.agg #[.int .i64 e, .int .i64 (n : Int)]] w fun r w' => r = .returned (.bool true) ∧ Below w.heap.size w w' := by
    intro w; have := hin w; rwa [show decide (least e ≤ (n : Int) ∧ (n : Int) ≤ most e) = true by simp; omega] at this
  have Hin := Lib.hid hin'
  have h1 : Hid (infoOf e = infoV (letter e) (least e) (most e) (digits e)) := rfl
  have h2 := Lib.hid hde
  have Hf : Hid (fmtS e (n : Int) = letter e ++ ⟨(decW (digits e).toNat n).toArray⟩) := by
    unfold Hid fmtS fmtL
    rw [if_pos h, if_neg (by omega), show Int.natAbs (n : Int) = n by omega]
    apply ByteArray.ext; simp [ByteArray.data_append]
  obtain ⟨dg, hdg⟩ : ∃ dg : Nat, digits e = dg := ⟨(digits e).toNat, by omega⟩
  have hds := digits_any n dg
  obtain ⟨c, hcL⟩ := letter_ok he
  rw [hcL] at h1 Hf
  rw [hdg] at hl h1 Hf
  rw [Int.toNat_natCast] at Hf
  have Hds := Lib.hid (fun w => hds w (by omega) (by omega))
  have hn0 : n ≤ 11000 := by omega
  have hd5 : dg ≤ 5 := by omega
  clear hd hin hin' hde h hdg hl hds hcL hr1 hr2 hr3 hr4 he
  generalize least e = lo at *
  generalize most e = hi at *
  have hdl : ((decW dg n).length ≤ 5) := by have : (decW dg n).length = dg := decW_length dg n; omega
  generalize decW dg n = ds at *
  go_enter Tryd.func13, Tryd.ntmps13
  go_wp2_with fail
  refine (Hd.out _).mono ?_
  rintro r w1 ⟨rfl, hb⟩
  rw [h1.out, h2.out]
  unfold infoV
  obtain ⟨hc, hf⟩ := bcell hb
  have c0 : w1.cell? ⟨w.heap.size, 0, none⟩ = some (.int .i64 e) := by rw [hc _ _ (by simp)]; simp
  have c1 : w1.cell? ⟨w.heap.size, 1, none⟩ = some (.int .i64 (n : Int)) := by rw [hc _ _ (by simp)]; simp
  have hz : w.heap.size < w1.heap.size := by have := hb.size; simp at this; omega
  have hB : Below w.heap.size w w1 := ((Below.refl _ _).alloc (Nat.le_refl _) _).trans (hb.mono (by simp))
  clear hc hf hb
  go_wp2_with fail
  refine (Hin.out _).mono ?_
  rintro r w2 ⟨rfl, hb⟩
  obtain ⟨hc, hf⟩ := bcell hb
  have k1 : w2.cell? ⟨w.heap.size, 1, none⟩ = some (.int .i64 (n : Int)) := by rw [hc _ _ (by simp; omega)]; simp [World.cell?_alloc_lt, hz, c1]
  have d0 : w2.cell? ⟨w1.heap.size, 0, none⟩ = some (.string ⟨#[c]⟩) := by rw [hc _ _ (by simp)]; simp
  have d3 : w2.cell? ⟨w1.heap.size, 3, none⟩ = some (.int .i64 dg) := by rw [hc _ _ (by simp)]; simp
  have hz2 : w1.heap.size < w2.heap.size := by have := hb.size; simp at this; omega
  have hB2 : Below w.heap.size w w2 := (hB.alloc (by omega) _).trans (hb.mono (by simp; omega))
  clear hc hf hb c0 c1 hB
  go_wp2_with fail
  have hdl' : ¬ 9223372036854775807 < 1 + ds.length := by omega
  have en : IntKind.i64.wrap (n : Int) = n := IntWalk.i64_in _ (by omega)
  go_region_held3 (fun w' => w'.cell? ⟨w.heap.size, 1, none⟩ = some (.int .i64 (n : Int)) ∧ w'.cell? ⟨w1.heap.size, 0, none⟩ = some (.string ⟨#[c]⟩) ∧ w'.cell? ⟨w1.heap.size, 3, none⟩ = some (.int .i64 dg) ∧ Below w.heap.size w w')
    (first | exact ⟨k1, d0, d3, hB2.drew⟩ | (go_split_ands; exact ⟨cell_then hb (by assumption), cell_then hb (by assumption), cell_then hb (by assumption), below_then (by assumption) hb⟩))
    (first | (go_at_call 38; ((with_reducible refine (Hds.out _).mono ?_); rintro e w' ⟨rfl, hb⟩)))
  clear en
  go_wp2_with fail
  go_ret2
  exact ⟨by rw [Hf.out]; rfl, by obtain ⟨_, _, _, q⟩ := (by assumption : _ ∧ _ ∧ _ ∧ Below _ _ _); exact q⟩

theorem rformat_any (e v : Int) (w : World) :
    Calls Tryd.prog 13 #[.agg #[.int .i64 e, .int .i64 v]] w fun r w' => r = .returned (.tuple #[.string (fmtS e v), .int .i64 (chk e v)]) ∧ Below w.heap.size w w' := by
  by_cases h : chk e v = 0
  · rw [h]
    by_cases hv : v < 0
    · obtain ⟨n, rfl⟩ : ∃ n : Nat, v = -(n : Int) := ⟨(-v).toNat, by omega⟩
      exact rformat_neg e n w h (by omega)
    · obtain ⟨n, rfl⟩ : ∃ n : Nat, v = (n : Int) := ⟨v.toNat, by omega⟩
      exact rformat_pos e n w h
  · have : fmtS e v = ⟨#[]⟩ := by unfold fmtS; rw [if_neg h]
    rw [this]
    exact rformat_bad e v w h
end Go.Proofs.YtanfbfmchhbgfaaDoor
