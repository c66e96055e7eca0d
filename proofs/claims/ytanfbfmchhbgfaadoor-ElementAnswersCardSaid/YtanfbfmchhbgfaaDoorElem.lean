/- check of element and in of its reference return what their plain counterparts say. No conditions. -/
import Derived.Test.YtanfbfmchhbgfaaDoorBase
import Derived.Test.YtanfbfmchhbgfaaDoorRDesc
import Derived.Laws.BytesArg
namespace Go.Proofs.YtanfbfmchhbgfaaDoor
open Go Go.RowKit

/-- What a call of this package reads of the package-level variables. -/
def Glo (w : World) : Prop := (∀ i, i < 22 → w.cell? ⟨0, i, none⟩ = some (.int .i64 (bnds.getD i 0))) ∧ ∃ m : Int, w.cell? ⟨1, 0, none⟩ = some (.int .i64 m)
theorem Glo.bnds {w : World} (h : Glo w) : Bnds w := h.1
theorem Glo.size {w : World} (h : Glo w) : 1 < w.heap.size := by
  obtain ⟨_, m, hm⟩ := h
  exact World.block_lt_of_cell? (a := ⟨1, 0, none⟩) _ hm
theorem Glo.of_same {w w' : World} (h : Glo w) (h0 : w'.heap[0]? = w.heap[0]?) (h1 : w'.heap[1]? = w.heap[1]?) : Glo w' := by
  obtain ⟨hb, m, hm⟩ := h
  refine ⟨fun i hi => ?_, m, ?_⟩
  · have e : w'.cell? ⟨0, i, none⟩ = w.cell? ⟨0, i, none⟩ := World.cell?_of_block (w := w) h0
    rw [e]; exact hb i hi
  · have e : w'.cell? ⟨1, 0, none⟩ = w.cell? ⟨1, 0, none⟩ := World.cell?_of_block (w := w) h1
    rw [e]; exact hm
theorem Glo.below {w w' : World} {C : Nat} (h : Glo w) (hw : Below C w w') (hC : 1 < C) : Glo w' := h.of_same (hw.block 0 (by omega)) (hw.block 1 hC)
theorem Glo.but {w w' : World} {C c : Nat} (h : Glo w) (hw : But C c w w') (hC : 1 < C) (hc : 1 < c) : Glo w' := h.of_same (hw.block 0 (by omega) (by omega)) (hw.block 1 hC (by omega))
theorem Glo.alloc {w : World} (h : Glo w) (o : Obj) : Glo (w.alloc o) := h.below ((Below.refl w.heap.size w).alloc (Nat.le_refl _) o) h.size
theorem Glo.drew {w : World} (h : Glo w) : Glo w.drew := h.of_same rfl rfl
theorem Glo.drewN {w : World} (h : Glo w) (n : Nat) : Glo (w.drewN n) := h.of_same rfl rfl
theorem Glo.setCell {w : World} (h : Glo w) {p : Addr} (hp : 1 < p.block) (u : Value) : Glo (w.setCell p u) :=
  h.of_same (Below.heap_setCell _ _ _ _ (by omega)) (Below.heap_setCell _ _ _ _ (by omega))

def chk (e v : Int) : Int := if 1 ≤ e ∧ e ≤ 11 then (if v < least e ∨ most e < v then 1 else 0) else 4

/-- What is known of the cells of the first new block and of the row behind a call of Describe. -/
theorem check_any (e v : Int) (w : World) (hG : Glo w) :
    Calls Tryd.prog 35 #[.agg #[.int .i64 e, .int .i64 v]] w fun r w' => r = .returned (.int .i64 (chk e v)) ∧ Below w.heap.size w w' := by
  have hd := fun w1 (h : Glo w1) => desc_any e w1 h.bnds
  have Hd := Lib.hid hd
  have HG := Lib.hid hG
  clear hd hG
  have step : ∀ (lo hi dg de : Int) (L : ByteArray), Hid (infoOf e = infoV L lo hi dg) → Hid (descE e = de) → (Hid (chk e v = if de = 0 then (if v < lo ∨ hi < v then 1 else 0) else 4)) →
      (de = 0 ∨ de = 4) →
      Calls Tryd.prog 35 #[.agg #[.int .i64 e, .int .i64 v]] w fun r w' => r = .returned (.int .i64 (chk e v)) ∧ Below w.heap.size w w' := by
    intro lo hi dg de L h1 h2 h3 h4
    go_enter Tryd.func35, Tryd.ntmps35
    go_wp2_with fail
    refine (Hd.out _ (HG.out.alloc _)).mono ?_
    rintro r w1 ⟨rfl, hb⟩
    rw [h1.out, h2.out]
    unfold infoV
    obtain ⟨hc, hf⟩ := bcell hb
    have c0 : w1.cell? ⟨w.heap.size, 0, none⟩ = some (.int .i64 e) := by rw [hc _ _ (by simp)]; simp
    have c1 : w1.cell? ⟨w.heap.size, 1, none⟩ = some (.int .i64 v) := by rw [hc _ _ (by simp)]; simp
    have hz : w.heap.size < w1.heap.size := by have := hb.size; simp at this; omega
    have hB : Below w.heap.size w w1 := ((Below.refl _ _).alloc (Nat.le_refl _) _).trans (hb.mono (by simp))
    clear hc hf hb
    rcases h4 with rfl | rfl
    · by_cases q1 : v < lo
      · go_wp2_with fail
        go_ret
        exact ⟨by rw [h3.out]; simp [q1], (hB.alloc (by omega) _)⟩
      · by_cases q2 : hi < v
        · go_wp2_with fail
          go_ret
          exact ⟨by rw [h3.out]; simp [q2], (hB.alloc (by omega) _)⟩
        · go_wp2_with fail
          go_ret
          exact ⟨by rw [h3.out]; simp [q1, q2], (hB.alloc (by omega) _)⟩
    · go_wp2_with fail
      go_ret
      exact ⟨by rw [h3.out]; simp, (hB.alloc (by omega) _)⟩
  by_cases he : 1 ≤ e ∧ e ≤ 11
  · exact step (least e) (most e) (digits e) 0 (letter e) rfl (by unfold Hid; simp [descE, he]) (by unfold Hid; simp [chk, he]) (Or.inl rfl)
  · exact step (least e) (most e) (digits e) 4 (letter e) rfl (by unfold Hid; simp [descE, he]) (by unfold Hid; simp [chk, he]) (Or.inr rfl)

theorem in_any (e v : Int) (w : World) :
    Calls Tryd.prog 37 #[.agg #[.int .i64 e, .int .i64 v]] w fun r w' => r = .returned (.bool (decide (least e ≤ v ∧ v ≤ most e))) ∧ Below w.heap.size w w' := by
  have hd := fun w1 => rdesc_any e w1
  have Hd := Lib.hid hd
  clear hd
  have step : ∀ (lo hi dg de : Int) (L : ByteArray), Hid (infoOf e = infoV L lo hi dg) → Hid (descE e = de) →
      Calls Tryd.prog 37 #[.agg #[.int .i64 e, .int .i64 v]] w fun r w' => r = .returned (.bool (decide (lo ≤ v ∧ v ≤ hi))) ∧ Below w.heap.size w w' := by
    intro lo hi dg de L h1 h2
    go_enter Tryd.func37, Tryd.ntmps37
    go_wp2_with fail
    refine (Hd.out _).mono ?_
    rintro r w1 ⟨rfl, hb⟩
    rw [h1.out, h2.out]
    unfold infoV
    obtain ⟨hc, hf⟩ := bcell hb
    have c0 : w1.cell? ⟨w.heap.size, 0, none⟩ = some (.int .i64 e) := by rw [hc _ _ (by simp)]; simp
    have c1 : w1.cell? ⟨w.heap.size, 1, none⟩ = some (.int .i64 v) := by rw [hc _ _ (by simp)]; simp
    have hz : w.heap.size < w1.heap.size := by have := hb.size; simp at this; omega
    have hB : Below w.heap.size w w1 := ((Below.refl _ _).alloc (Nat.le_refl _) _).trans (hb.mono (by simp))
    clear hc hf hb
    by_cases q1 : lo ≤ v
    · by_cases q2 : v ≤ hi
      · go_wp2_with fail
        go_ret
        exact ⟨by simp [q1, q2], (hB.alloc (by omega) _)⟩
      · go_wp2_with fail
        go_ret
        exact ⟨by simp; omega, (hB.alloc (by omega) _)⟩
    · go_wp2_with fail
      go_ret
      exact ⟨by simp; omega, (hB.alloc (by omega) _)⟩
  exact step _ _ _ _ _ rfl rfl

/-- The last digits of a number, with leading zeros. -/
def decW : Nat → Nat → List UInt8
  | 0, _ => []
  | w + 1, n => decW w (n / 10) ++ [48 + UInt8.ofNat (n % 10)]

theorem bytes_append (a b : List UInt8) : (⟨a.toArray⟩ ++ ⟨b.toArray⟩ : ByteArray) = ⟨(a ++ b).toArray⟩ := by
  apply ByteArray.ext; simp [ByteArray.data_append]
theorem decW_step (k m : Nat) : decW (k + 1) m = decW k (m / 10) ++ [48 + UInt8.ofNat (m % 10)] := rfl

/-- string([]byte{x}). -/
theorem conv_one (w : World) (x : Int) : (convert 35 9 (.slice (some ⟨w.heap.size, 0, none⟩) 1 1)).run Tryd.prog (w.alloc (.cells #[.int .u8 x] 5)) = .ok (.string ⟨#[UInt8.ofNat x.toNat]⟩) (w.alloc (.cells #[.int .u8 x] 5)) :=
  run_convert_bytes_arg (P := Tryd.prog) (w.alloc (.cells #[.int .u8 x] 5)) 35 5 Tryd.underlying35 Tryd.underlying5 w.heap.size 0 1 1 [x] rfl
    (fun i hi => by obtain rfl : i = 0 := by omega
                    simp) 9 Tryd.underlying9

set_option maxRecDepth 100000 in
theorem digits_any (n width : Nat) (w : World) (hn : n ≤ 20000) (hw : width ≤ 1000) :
    Calls Tryd.prog 38 #[.int .i64 n, .int .i64 width] w fun r w' => r = .returned (.string ⟨(decW width n).toArray⟩) ∧ Below w.heap.size w w' := by
  have hconv := conv_one
  go_enter Tryd.func38, Tryd.ntmps38
  go_wp2
  go_loopw [0, 5, 6] (fun x s i wr => ∃ (k m : Nat) (t : List UInt8), k ≤ width ∧ m ≤ 20000 ∧ x = .int .i64 m ∧ i = .int .i64 k ∧ s = .string ⟨t.toArray⟩ ∧ Hid (decW width n = decW (width - k) m ++ t) ∧ t.length ≤ k ∧ Below w.heap.size w wr) (fun _ _ i _ => width - (intOf i).toNat)
  case atStart => exact ⟨0, n, [], by omega, hn, rfl, rfl, rfl, by simp [Hid], by simp, Below.refl _ _⟩
  case round =>
    obtain ⟨k, m, t, hk, hm, rfl, rfl, rfl, hd, ht, hB⟩ := hrel
    by_cases hlt : k < width
    · go_wp2
      go_roundw
      case rel =>
        refine ⟨k + 1, m / 10, (48 + UInt8.ofNat (m % 10)) :: t, by omega, by omega, by go_num, by go_num, ?_, ?_, by simp; omega, hB.alloc hB.size _⟩
        · exact congrArg Value.string (bytes_append [48 + UInt8.ofNat (m % 10)] t)
        · unfold Hid
          rw [hd.out, show width - k = (width - (k + 1)) + 1 by omega, decW_step, List.append_assoc]
          rfl
      case measure => simp [intOf]; omega
    · obtain rfl : k = width := by omega
      go_wp2
      go_ret
      have := hd.out
      rw [Nat.sub_self] at this
      exact ⟨by rw [this]; rfl, hB⟩
end Go.Proofs.YtanfbfmchhbgfaaDoor
