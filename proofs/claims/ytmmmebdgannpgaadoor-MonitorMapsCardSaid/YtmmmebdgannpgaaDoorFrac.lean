/- Fraction of the monitor, and the law's sanity check. No conditions. -/
import Derived.Test.YtmmmebdgannpgaaDoorMap
import Derived.Deep.RegionHeld3
namespace Go.Proofs.YtmmmebdgannpgaaDoor
open Go Go.RowKit

theorem Tab.drew {w : World} (h : Tab w) : Tab w.drew := h.below (Below.refl _ _).drew
theorem Tab.alloc {w : World} (h : Tab w) (o : Obj) : Tab (w.alloc o) := h.below ((Below.refl _ _).alloc (Nat.le_refl _) o)
theorem bytes_append (a b : List UInt8) : (⟨a.toArray⟩ ++ ⟨b.toArray⟩ : ByteArray) = ⟨(a ++ b).toArray⟩ := by
  apply ByteArray.ext; simp [ByteArray.data_append]

set_option maxRecDepth 100000 in
theorem frac_any (p q : Int) (hp : I64 p) (hq : I64 q) (h1 : q ≠ 1) (w : World) (hT : Tab w) :
    Calls Tryd.prog 6 #[.agg #[.int .i64 p, .int .i64 q]] w fun e w' => e = .returned (.string ⟨(Lib.itoa p ++ 47 :: Lib.itoa q).toArray⟩) ∧ Below w.heap.size w w' := by
  have hb1 : (q == 1) = false := by simpa using h1
  have I0 := Lib.hid (fun w' (h : Tab w') => itoa_any p hp w' h)
  have I1 := Lib.hid (fun w' (h : Tab w') => itoa_any q hq w' h)
  have h0 : (w.alloc (.cells #[.int .i64 p, .int .i64 q] 29)).cell? ⟨w.heap.size, 0, none⟩ = some (.int .i64 p) := by simp
  have h1' : (w.alloc (.cells #[.int .i64 p, .int .i64 q] 29)).cell? ⟨w.heap.size, 1, none⟩ = some (.int .i64 q) := by simp
  have HT := Lib.hid (hT.alloc (.cells #[.int .i64 p, .int .i64 q] 29))
  have HB := Lib.hid ((Below.refl w.heap.size w).alloc (Nat.le_refl _) (.cells #[.int .i64 p, .int .i64 q] 29))
  have Hap : Hid ((⟨(Lib.itoa p).toArray⟩ ++ ⟨#[47]⟩ ++ ⟨(Lib.itoa q).toArray⟩ : ByteArray) = ⟨(Lib.itoa p ++ 47 :: Lib.itoa q).toArray⟩) := by
    have : (⟨#[47]⟩ : ByteArray) = ⟨([47] : List UInt8).toArray⟩ := rfl
    unfold Hid
    rw [this, bytes_append, bytes_append, List.append_assoc]; rfl
  have hsp : (⟨(Lib.itoa p).toArray⟩ : ByteArray).size ≤ 21 := by have := Lib.itoa_length_le p hp.1 hp.2; simpa [ByteArray.size] using this
  have hsq : (⟨(Lib.itoa q).toArray⟩ : ByteArray).size ≤ 21 := by have := Lib.itoa_length_le q hq.1 hq.2; simpa [ByteArray.size] using this
  clear h1 hp hq hT
  generalize (⟨(Lib.itoa p ++ 47 :: Lib.itoa q).toArray⟩ : ByteArray) = r at *
  generalize (⟨(Lib.itoa p).toArray⟩ : ByteArray) = sp at *
  generalize (⟨(Lib.itoa q).toArray⟩ : ByteArray) = sq at *
  have s1 : (⟨#[47]⟩ : ByteArray).size = 1 := rfl
  have a1 : ∀ w', (Op.stringOp .add sp ⟨#[47]⟩).run Tryd.prog w' = .ok (.string (sp ++ ⟨#[47]⟩)) w' := fun w' => run_string_add_sum _ _ _ (by omega)
  have a2 : ∀ w', (Op.stringOp .add (sp ++ ⟨#[47]⟩) sq).run Tryd.prog w' = .ok (.string (sp ++ ⟨#[47]⟩ ++ sq)) w' := fun w' => run_string_add_sum _ _ _ (by rw [ByteArray.size_append]; omega)
  go_enter Tryd.func6, Tryd.ntmps6
  go_wp2_with fail
  generalize w.alloc (.cells #[.int .i64 p, .int .i64 q] 29) = w0 at *
  go_region_held3 (fun w' => w'.cell? ⟨w.heap.size, 0, none⟩ = some (.int .i64 p) ∧ w'.cell? ⟨w.heap.size, 1, none⟩ = some (.int .i64 q) ∧ Tab w' ∧ Below w.heap.size w w')
    (first | assumption | exact ⟨h0, h1', HT.out.drew, HB.out.drew⟩ | (go_split_ands; exact ⟨cell_then hb (by assumption), cell_then hb (by assumption), Tab.below (by assumption) hb, below_then (by assumption) hb⟩))
    (first | (go_at_call 9; ((with_reducible refine (I0.out _ (by go_split_ands; assumption)).mono ?_); rintro e w' ⟨rfl, hb⟩)) | (go_at_call 9; ((with_reducible refine (I1.out _ (by go_split_ands; assumption)).mono ?_); rintro e w' ⟨rfl, hb⟩)))
  all_goals
    go_wp2_with fail
    go_ret
    exact ⟨by rw [← Hap.out]; rfl, by go_split_ands; assumption⟩

set_option maxRecDepth 100000 in
set_option maxHeartbeats 1000000 in
theorem awake_any (w : World) (hT : Tab w) : Calls Tryd.prog 4 #[] w fun e w' => e = .returned (.bool true) ∧ Below w.heap.size w w' := by
  have F := Lib.hid (frac_any 3 4 (by unfold I64; omega) (by unfold I64; omega) (by omega) w hT)
  rw [show (⟨(Lib.itoa 3 ++ 47 :: Lib.itoa 4).toArray⟩ : ByteArray) = ⟨#[51, 47, 52]⟩ by kernel_rfl] at F
  have HT := Lib.hid hT
  have hmk : ∀ w : World, (Instr.makeSlice 22 (.int .i64 12) (.int .i64 12)).run Tryd.prog w = .ok (.slice (some ⟨w.heap.size, 0, none⟩) 12 12) (w.alloc (.cells #[.int .i64 0, .int .i64 0, .int .i64 0, .int .i64 0, .int .i64 0, .int .i64 0, .int .i64 0, .int .i64 0, .int .i64 0, .int .i64 0, .int .i64 0, .int .i64 0] 3)) := fun _ => by kernel_rfl
  clear hT
  go_enter Tryd.func4, Tryd.ntmps4
  go_wp2_with fail
  refine F.out.mono ?_
  rintro e w1 ⟨rfl, hb⟩
  go_wp2_with fail
  have HT1 := Lib.hid (HT.out.below hb)
  have HB1 : Hid (Below w1.heap.size w1 (w1.alloc (.cells #[.int .i64 0, .int .i64 0, .int .i64 0, .int .i64 0, .int .i64 0, .int .i64 0, .int .i64 0, .int .i64 0, .int .i64 0, .int .i64 0, .int .i64 0, .int .i64 0] 3))) := (Below.refl _ _).alloc (Nat.le_refl _) _
  have HI : Hid (IntsIn (w1.alloc (.cells #[.int .i64 0, .int .i64 0, .int .i64 0, .int .i64 0, .int .i64 0, .int .i64 0, .int .i64 0, .int .i64 0, .int .i64 0, .int .i64 0, .int .i64 0, .int .i64 0] 3)).heap.size (w1.alloc (.cells #[.int .i64 0, .int .i64 0, .int .i64 0, .int .i64 0, .int .i64 0, .int .i64 0, .int .i64 0, .int .i64 0, .int .i64 0, .int .i64 0, .int .i64 0, .int .i64 0] 3)) (.slice (some ⟨w1.heap.size, 0, none⟩) 12 12) (List.replicate 12 0)) := by
    refine .inr ⟨w1.heap.size, 0, 12, rfl, by simp, by omega, by simp, fun j hj => ?_⟩
    simp at hj
    have : j = 0 ∨ j = 1 ∨ j = 2 ∨ j = 3 ∨ j = 4 ∨ j = 5 ∨ j = 6 ∨ j = 7 ∨ j = 8 ∨ j = 9 ∨ j = 10 ∨ j = 11 := by omega
    rcases this with rfl | rfl | rfl | rfl | rfl | rfl | rfl | rfl | rfl | rfl | rfl | rfl <;> simp
  have M := Lib.hid (map_any _ _ _ (HT1.out.below HB1.out) HI.out (fun z hz => by rw [List.mem_replicate] at hz; rw [hz.2]; unfold I64; omega) (by simp))
  clear HI
  refine M.out.mono ?_
  rintro e w2 ⟨v, rfl, hown, hb2⟩
  obtain ⟨g, cap, rfl⟩ : ∃ g cap, v = .slice (some ⟨g, 0, none⟩) 2 cap := by
    rcases hown.2 with ⟨_, h0⟩ | ⟨g, cap, cur, e, _⟩
    · simp at h0
    · exact ⟨g, cap, e⟩
  have HB2 := Lib.hid (below_then hb (below_then HB1.out hb2))
  clear hown hb2 hb
  go_wp2_with fail
  go_ret
  exact ⟨rfl, HB2.out⟩
end Go.Proofs.YtmmmebdgannpgaaDoor
