/- awake answers true, and ElementLetters answers true at every code. No conditions. -/
import Derived.Test.YtanfbfmchhbgfaaDoorSome
namespace Go.Proofs.YtanfbfmchhbgfaaDoor
open Go Go.RowKit

theorem fmt_a : fmtS 1 10132 = ⟨#[80, 49, 48, 49, 51, 50]⟩ := by kernel_rfl
theorem fmt_b : fmtS 4 (-57) = ⟨#[69, 45, 48, 48, 53, 55]⟩ := by kernel_rfl
theorem ans_b : parseAns ⟨#[69, 45, 48, 48, 53, 55]⟩ = .tuple #[.agg #[.int .i64 4, .int .i64 (-57)], .int .i64 0] := by
  rw [← fmt_b]; exact parseAns_good (parse_fmt (by kernel_rfl))

theorem awake_any (w : World) (hG : Glo w) : Calls Tryd.prog 8 #[] w fun e w' => e = .returned (.bool true) ∧ Below w.heap.size w w' := by
  have h1 := fun w1 (h : Glo w1) => eformat_any 1 10132 w1 h
  have h2 := fun w1 (h : Glo w1) => eformat_any 4 (-57) w1 h
  have h3 := fun w1 (h : Glo w1) => eparse_any 69 [45, 48, 48, 53, 55] w1 (by decide) h
  rw [fmt_a, show chk 1 10132 = 0 by kernel_rfl] at h1
  rw [fmt_b, show chk 4 (-57) = 0 by kernel_rfl] at h2
  rw [show (⟨(69 :: [45, 48, 48, 53, 55] : List UInt8).toArray⟩ : ByteArray) = ⟨#[69, 45, 48, 48, 53, 55]⟩ by rfl, ans_b] at h3
  have H1 := Lib.hid h1
  have H2 := Lib.hid h2
  have H3 := Lib.hid h3
  have HG := Lib.hid hG
  clear h1 h2 h3 hG
  go_enter Tryd.func8, Tryd.ntmps8
  go_wp2_with fail
  refine (H1.out _ HG.out).mono ?_
  rintro r w1 ⟨rfl, hb1⟩
  have HG1 := Lib.hid (HG.out.below hb1 HG.out.size)
  go_wp2_with fail
  refine (H2.out _ HG1.out).mono ?_
  rintro r w2 ⟨rfl, hb2⟩
  have HG2 := Lib.hid (HG1.out.below hb2 HG1.out.size)
  have hb2' := below_then hb1 hb2
  clear hb1 hb2
  go_wp2_with fail
  refine (H3.out _ HG2.out).mono ?_
  rintro r w3 ⟨rfl, hb3⟩
  have hb3' := below_then hb2' hb3
  have hz := hb3'.size
  clear hb3 hb2'
  go_wp2_with fail
  go_ret
  exact ⟨rfl, hb3'.alloc hz _⟩

theorem letters_facts {c : Int} (h : 1 ≤ c ∧ c ≤ 11) : chk c (least c) = 0 ∧ chk c (most c) = 0 ∧ least c < most c ∧ ((fmtS c (least c)).size : Int) = 1 + (if least c < 0 then 1 else 0) + digits c ∧ ((fmtS c (most c)).size : Int) = 1 + digits c ∧ 4 ≤ digits c ∧ digits c ≤ 5 :=
  eleven (P := fun c => chk c (least c) = 0 ∧ chk c (most c) = 0 ∧ least c < most c ∧ ((fmtS c (least c)).size : Int) = 1 + (if least c < 0 then 1 else 0) + digits c ∧ ((fmtS c (most c)).size : Int) = 1 + digits c ∧ 4 ≤ digits c ∧ digits c ≤ 5)
    (by decide +kernel) (by decide +kernel) (by decide +kernel) (by decide +kernel) (by decide +kernel) (by decide +kernel) (by decide +kernel) (by decide +kernel) (by decide +kernel) (by decide +kernel) (by decide +kernel) c h

set_option maxHeartbeats 1000000 in
theorem letters_any (code : Int) (w : World) (hc : I64 code) (hG : Glo w) :
    Calls Tryd.prog 4 #[.int .i64 code] w fun e w' => e = .returned (.bool true) ∧ Below w.heap.size w w' := by
  have hm := @modOf_lt code 11 (by omega)
  have h0 := fun w1 => mod_any code 11 w1 hc (by unfold I64; omega)
  have H0 := Lib.hid h0
  obtain ⟨c, hcd⟩ : ∃ c, c = 1 + modOf code 11 := ⟨_, rfl⟩
  have hcr : 1 ≤ c ∧ c ≤ 11 := by omega
  obtain ⟨k1, k2, k3, k4, k5, k6, k7⟩ := letters_facts hcr
  have h1 := fun w1 (h : Glo w1) => desc_any c w1 h.bnds
  have hi1 : Hid (infoOf c = infoV (letter c) (least c) (most c) (digits c)) := rfl
  have hde : Hid (descE c = 0) := by unfold Hid descE; rw [if_pos hcr]
  have h2 := fun w1 (h : Glo w1) => byl_any (letter c) w1 (by rw [letter_size hcr]; decide) h
  have he2 : byE (letter c) = 0 := by unfold byE; rw [byL_letter c hcr, if_neg (by omega)]
  rw [byL_letter c hcr, he2] at h2
  have h3 := fun w1 (h : Glo w1) => eformat_any c (least c) w1 h
  have h4 := fun w1 (h : Glo w1) => eformat_any c (most c) w1 h
  rw [k1] at h3
  rw [k2] at h4
  have h5 := fun w1 (h : Glo w1) => awake_any w1 h
  have H1 := Lib.hid h1
  have H2 := Lib.hid h2
  have H3 := Lib.hid h3
  have H4 := Lib.hid h4
  have H5 := Lib.hid h5
  have HG := Lib.hid hG
  have K4 := Lib.hid k4
  have K5 := Lib.hid k5
  clear h0 h1 h2 h3 h4 h5 hG k1 k2 k4 k5 he2
  have HC := Lib.hid hcd
  clear hcd
  generalize fmtS c (least c) = fa at *
  generalize fmtS c (most c) = fb at *
  generalize letter c = L at *
  generalize least c = lo at *
  generalize most c = hi at *
  generalize digits c = dg at *
  generalize modOf code 11 = m at *
  go_enter Tryd.func4, Tryd.ntmps4
  go_wp2_with fail
  refine (H0.out _).mono ?_
  rintro r w1 ⟨rfl, rfl⟩
  go_wp2_with fail
  rw [← HC.out]
  refine (H1.out _ HG.out).mono ?_
  rintro r w1 ⟨rfl, hb1⟩
  rw [hi1.out, hde.out]
  unfold infoV
  have HG1 := Lib.hid (HG.out.below hb1 HG.out.size)
  go_wp2_with fail
  refine (H2.out _ (HG1.out.alloc _)).mono ?_
  rintro r w2 ⟨rfl, rfl⟩
  go_wp2_with fail
  refine (H3.out _ (HG1.out.alloc _)).mono ?_
  rintro r w2 ⟨rfl, hb2⟩
  have HG2 := Lib.hid ((HG1.out.alloc (.cells #[.string L, .int .i64 lo, .int .i64 hi, .int .i64 dg] 39)).below hb2 (by have := HG1.out.size; simp; omega))
  have q1 : w2.cell? ⟨w1.heap.size, 1, none⟩ = some (.int .i64 lo) := cell_then hb2 (by simp)
  have q2 : w2.cell? ⟨w1.heap.size, 2, none⟩ = some (.int .i64 hi) := cell_then hb2 (by simp)
  have q3 : w2.cell? ⟨w1.heap.size, 3, none⟩ = some (.int .i64 dg) := cell_then hb2 (by simp)
  have hB2 := below_then (hb1.alloc hb1.size _) hb2
  clear hb1 hb2
  go_wp2_with fail
  refine (H4.out _ HG2.out).mono ?_
  rintro r w3 ⟨rfl, hb3⟩
  have HG3 := Lib.hid (HG2.out.below hb3 HG2.out.size)
  have p1 := cell_then hb3 q1
  have p2 := cell_then hb3 q2
  have p3 := cell_then hb3 q3
  have hB3 := below_then hB2 hb3
  clear hb3 hB2 q1 q2 q3
  by_cases hlo : lo < 0
  · have s1 : (fa.size : Int) = 1 + 1 + dg := by have := K4.out; rw [if_pos hlo] at this; omega
    have e1 : ((fa.size : Int) == 1 + 1 + dg) = true := by simp [s1]
    have e2 : ((fb.size : Int) == 1 + dg) = true := by simp [K5.out]
    have e1' : ((fa.size : Int) == 2 + dg) = true := by simp [s1]
    clear s1
    go_wp2_with fail
    refine (H5.out _ HG3.out).mono ?_
    rintro r w4 ⟨rfl, hb⟩
    go_wp2_with fail
    go_ret
    exact ⟨rfl, below_then hB3 hb⟩
  · have s1 : (fa.size : Int) = 1 + dg := by have := K4.out; rw [if_neg hlo] at this; omega
    have e1 : ((fa.size : Int) == 1 + dg) = true := by simp [s1]
    have e2 : ((fb.size : Int) == 1 + dg) = true := by simp [K5.out]
    clear s1
    go_wp2_with fail
    refine (H5.out _ HG3.out).mono ?_
    rintro r w4 ⟨rfl, hb⟩
    go_wp2_with fail
    go_ret
    exact ⟨rfl, below_then hB3 hb⟩
end Go.Proofs.YtanfbfmchhbgfaaDoor
