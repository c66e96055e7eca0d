/- Part 13 of the proof: laws on memory and what functions of the program return. No conditions but those that each theorem names. -/
import Derived.Test.YtkpgciimhjkajaaGreatDoorR12
set_option linter.unusedVariables false
set_option linter.unusedSimpArgs false
/- The reference: Check of settings, of precisions, of schemes. -/
namespace Go.Proofs.YtkpgciimhjkajaaGreatDoor
open Go Go.RowKit
theorem wl_index {ops : Array Oper} {rest : List Oper} {o : Oper} {a : Act} {w : World} {Q : Exit → Act → World → Prop} (hgd : o.guard = none) (x y : Operand) (ho : o.op = .index 97 x y) (v u i : Value) (hx : a.eval x = u) (hy : a.eval y = i)
    (hrun : ∀ w, (Instr.index 97 u i).run Tryz.prog w = .ok v w) (h : wpList Tryz.prog ops Q rest (a.put o.dst v) w) : wpList Tryz.prog ops Q (o :: rest) a w := by
  refine wpList_plain hgd fun K hK => ?_
  unfold Oper.wp execOp
  simp only [ho, Sem.run_bind, Sem.run_pure, Result.andThen_ok, hx, hy, hrun w]
  exact hK _ _ h
set_option maxHeartbeats 4000000 in
theorem rprior_any (S : List Value) (f0 st pe wi de sm an we ro wk sp fr sl mv dp : Int) (h : SeOk S f0 st pe wi de sm an we ro wk sp fr sl mv dp) (w : World) :
    Calls Tryz.prog 33 #[.agg S.toArray] w fun e w' => e = .returned (.agg #[.int .i64 f0, .int .i64 sm, .int .i64 an]) ∧ Below w.heap.size w w' := by
  have hR : RowAt ((w.alloc (.cells S.toArray 29)).alloc (.cells #[.int .i64 0, .int .i64 0, .int .i64 0] 85)) w.heap.size S := (RowAt.new w S (by rw [h.len]; omega) _ rfl).alloc _
  have c0 := hR.at 0 h.c0
  have c5 := hR.at 5 h.c5
  have c6 := hR.at 6 h.c6
  have hP : RowAt ((w.alloc (.cells S.toArray 29)).alloc (.cells #[.int .i64 f0, .int .i64 sm, .int .i64 an] 85)) (w.heap.size + 1) [.int .i64 f0, .int .i64 sm, .int .i64 an] := RowAt.new _ [.int .i64 f0, .int .i64 sm, .int .i64 an] (by simp) _ (by simp)
  have HE : Hid (RowAt ((w.alloc (.cells S.toArray 29)).alloc (.cells #[.int .i64 f0, .int .i64 sm, .int .i64 an] 85)) (w.heap.size + 1) [.int .i64 f0, .int .i64 sm, .int .i64 an] ∧ Below w.heap.size w ((w.alloc (.cells S.toArray 29)).alloc (.cells #[.int .i64 f0, .int .i64 sm, .int .i64 an] 85))) := ⟨hP, ((Below.refl w.heap.size w).alloc (Nat.le_refl _) _).alloc (by simp) _⟩
  clear hR hP h
  go_enter Tryz.func33, Tryz.ntmps33
  go_wp2_with fail
  exact ret_row rfl _ [.int .i64 f0, .int .i64 sm, .int .i64 an] HE.out.1 ⟨by kernel_rfl, _, Tryz.underlying85, rfl⟩ rfl rfl ⟨rfl, HE.out.2⟩
set_option maxHeartbeats 4000000 in
theorem rprec_any (f0 sm an : Int) (w : World) : Calls Tryz.prog 32 #[.agg #[.int .i64 f0, .int .i64 sm, .int .i64 an]] w fun e w' => e = .returned (errN (okP f0 sm an)) ∧ Below w.heap.size w w' := by
  have hR : RowAt (w.alloc (.cells #[.int .i64 f0, .int .i64 sm, .int .i64 an] 85)) w.heap.size [.int .i64 f0, .int .i64 sm, .int .i64 an] := RowAt.new w [.int .i64 f0, .int .i64 sm, .int .i64 an] (by simp) _ rfl
  have c0 := hR.at 0 rfl
  have c1 := hR.at 1 rfl
  have c2 := hR.at 2 rfl
  have HB : Hid (Below w.heap.size w (w.alloc (.cells #[.int .i64 f0, .int .i64 sm, .int .i64 an] 85))) := (Below.refl _ _).alloc (Nat.le_refl _) _
  clear hR
  by_cases a1 : f0 < 1
  · have HO : Hid (okP f0 sm an = false) := by unfold Hid okP inR; simp; omega
    go_enter Tryz.func32, Tryz.ntmps32
    go_wp2_with fail
    go_ret
    exact ⟨by rw [HO.out]; rfl, HB.out⟩
  by_cases a2 : f0 > 8
  · have HO : Hid (okP f0 sm an = false) := by unfold Hid okP inR; simp; omega
    go_enter Tryz.func32, Tryz.ntmps32
    go_wp2_with fail
    go_ret
    exact ⟨by rw [HO.out]; rfl, HB.out⟩
  by_cases a3 : sm < 0
  · have HO : Hid (okP f0 sm an = false) := by unfold Hid okP inR; simp; omega
    go_enter Tryz.func32, Tryz.ntmps32
    go_wp2_with fail
    go_ret
    exact ⟨by rw [HO.out]; rfl, HB.out⟩
  by_cases a4 : sm > 1000000
  · have HO : Hid (okP f0 sm an = false) := by unfold Hid okP inR; simp; omega
    go_enter Tryz.func32, Tryz.ntmps32
    go_wp2_with fail
    go_ret
    exact ⟨by rw [HO.out]; rfl, HB.out⟩
  by_cases a5 : an < 1
  · have HO : Hid (okP f0 sm an = false) := by unfold Hid okP inR; simp; omega
    go_enter Tryz.func32, Tryz.ntmps32
    go_wp2_with fail
    go_ret
    exact ⟨by rw [HO.out]; rfl, HB.out⟩
  by_cases a6 : an > 1000000
  · have HO : Hid (okP f0 sm an = false) := by unfold Hid okP inR; simp; omega
    go_enter Tryz.func32, Tryz.ntmps32
    go_wp2_with fail
    go_ret
    exact ⟨by rw [HO.out]; rfl, HB.out⟩
  · have HO : Hid (okP f0 sm an = true) := by unfold Hid okP inR; simp; omega
    go_enter Tryz.func32, Tryz.ntmps32
    go_wp2_with fail
    go_ret
    exact ⟨by rw [HO.out]; rfl, HB.out⟩
set_option maxRecDepth 100000 in
set_option maxHeartbeats 4000000 in
theorem rscheme_any (a b c : Int) (w : World) : Calls Tryz.prog 35 #[.agg #[.int .i64 a, .int .i64 b, .int .i64 c]] w fun e w' => e = .returned (errB (outB [a, b, c] 1 4)) ∧ Below w.heap.size w w' := by
  have hR : RowAt (w.alloc (.cells #[.int .i64 a, .int .i64 b, .int .i64 c] 24)) w.heap.size [.int .i64 a, .int .i64 b, .int .i64 c] := RowAt.new w [.int .i64 a, .int .i64 b, .int .i64 c] (by simp) _ rfl
  have c0 := hR.at 0 rfl
  have c1 := hR.at 1 rfl
  have c2 := hR.at 2 rfl
  have HB : Hid (Below w.heap.size w (w.alloc (.cells #[.int .i64 a, .int .i64 b, .int .i64 c] 24))) := (Below.refl _ _).alloc (Nat.le_refl _) _
  clear hR
  obtain ⟨w1, hw1⟩ : ∃ u, u = w.alloc (.cells #[.int .i64 a, .int .i64 b, .int .i64 c] 24) := ⟨_, rfl⟩
  rw [← hw1] at HB
  have Hw1 := Lib.hid hw1
  rw [← hw1] at c0 c1 c2
  clear hw1
  go_enter Tryz.func35, Tryz.ntmps35
  go_upto_region 1 with fail
  rw [← Hw1.out]
  go_wp2_with fail
  go_loopw [12] (fun kv wr => wr = w1 ∧ (kv = .int .i64 0 ∨ (kv = .int .i64 1 ∧ Hid (outV 1 4 a = false)) ∨ (kv = .int .i64 2 ∧ Hid (outV 1 4 a = false ∧ outV 1 4 b = false)) ∨ (kv = .int .i64 3 ∧ Hid (outV 1 4 a = false ∧ outV 1 4 b = false ∧ outV 1 4 c = false)))) (fun kv _ => (1000 - intOf kv).toNat)
  case atStart => exact ⟨rfl, Or.inl rfl⟩
  case round =>
    obtain ⟨rfl, rfl | ⟨rfl, hs⟩ | ⟨rfl, hs⟩ | ⟨rfl, hs⟩⟩ := hrel
    · by_cases x1 : a < 1
      · have HT : Hid (outB [a, b, c] 1 4 = true) := by have h : outV 1 4 a = true := (by simp [outV]; omega); unfold Hid; simp [outB, h]
        go_wp2_with (refine wl_index rfl _ _ rfl _ _ _ rfl rfl (ix3_0 a b c) ?_)
        go_ret
        exact ⟨by rw [HT.out]; rfl, HB.out⟩
      by_cases x2 : a > 4
      · have HT : Hid (outB [a, b, c] 1 4 = true) := by have h : outV 1 4 a = true := (by simp [outV]; omega); unfold Hid; simp [outB, h]
        go_wp2_with (refine wl_index rfl _ _ rfl _ _ _ rfl rfl (ix3_0 a b c) ?_)
        go_ret
        exact ⟨by rw [HT.out]; rfl, HB.out⟩
      have hn : outV 1 4 a = false := by simp [outV]; omega
      have HN : Hid (outV 1 4 a = false) := hn
      clear hn
      go_wp2_with (refine wl_index rfl _ _ rfl _ _ _ rfl rfl (ix3_0 a b c) ?_)
      exact ⟨⟨by trivial, Or.inr (Or.inl ⟨rfl, HN⟩)⟩, by simp [intOf]⟩
    · by_cases x1 : b < 1
      · have HT : Hid (outB [a, b, c] 1 4 = true) := by have h : outV 1 4 b = true := (by simp [outV]; omega); unfold Hid; simp [outB, h]
        go_wp2_with (refine wl_index rfl _ _ rfl _ _ _ rfl rfl (ix3_1 a b c) ?_)
        go_ret
        exact ⟨by rw [HT.out]; rfl, HB.out⟩
      by_cases x2 : b > 4
      · have HT : Hid (outB [a, b, c] 1 4 = true) := by have h : outV 1 4 b = true := (by simp [outV]; omega); unfold Hid; simp [outB, h]
        go_wp2_with (refine wl_index rfl _ _ rfl _ _ _ rfl rfl (ix3_1 a b c) ?_)
        go_ret
        exact ⟨by rw [HT.out]; rfl, HB.out⟩
      have hn : outV 1 4 b = false := by simp [outV]; omega
      have HN : Hid (outV 1 4 a = false ∧ outV 1 4 b = false) := ⟨hs.out, hn⟩
      clear hn
      go_wp2_with (refine wl_index rfl _ _ rfl _ _ _ rfl rfl (ix3_1 a b c) ?_)
      exact ⟨⟨by trivial, Or.inr (Or.inr (Or.inl ⟨rfl, HN⟩))⟩, by simp [intOf]⟩
    · by_cases x1 : c < 1
      · have HT : Hid (outB [a, b, c] 1 4 = true) := by have h : outV 1 4 c = true := (by simp [outV]; omega); unfold Hid; simp [outB, h]
        go_wp2_with (refine wl_index rfl _ _ rfl _ _ _ rfl rfl (ix3_2 a b c) ?_)
        go_ret
        exact ⟨by rw [HT.out]; rfl, HB.out⟩
      by_cases x2 : c > 4
      · have HT : Hid (outB [a, b, c] 1 4 = true) := by have h : outV 1 4 c = true := (by simp [outV]; omega); unfold Hid; simp [outB, h]
        go_wp2_with (refine wl_index rfl _ _ rfl _ _ _ rfl rfl (ix3_2 a b c) ?_)
        go_ret
        exact ⟨by rw [HT.out]; rfl, HB.out⟩
      have hn : outV 1 4 c = false := by simp [outV]; omega
      have HN : Hid (outV 1 4 a = false ∧ outV 1 4 b = false ∧ outV 1 4 c = false) := ⟨hs.out.1, hs.out.2, hn⟩
      clear hn
      go_wp2_with (refine wl_index rfl _ _ rfl _ _ _ rfl rfl (ix3_2 a b c) ?_)
      exact ⟨⟨by trivial, Or.inr (Or.inr (Or.inr ⟨rfl, HN⟩))⟩, by simp [intOf]⟩
    · have HT : Hid (outB [a, b, c] 1 4 = false) := by obtain ⟨h1, h2, h3⟩ := hs.out; unfold Hid; simp [outB, h1, h2, h3]
      clear hs
      go_wp2_with fail
      go_ret
      exact ⟨by rw [HT.out]; rfl, HB.out⟩
set_option maxRecDepth 100000 in
set_option maxHeartbeats 16000000 in
theorem rcycheck_any (S : List Value) (f0 st pe wi de sm an we ro wk sp fr sl mv dp : Int) (h : SeOk S f0 st pe wi de sm an we ro wk sp fr sl mv dp) (w : World) :
    Calls Tryz.prog 10 #[.agg S.toArray] w fun e w' => e = .returned (errN (okS f0 st pe wi de sm an we ro wk sp fr sl mv dp)) ∧ Below w.heap.size w w' := by
  have hR : RowAt (w.alloc (.cells S.toArray 29)) w.heap.size S := RowAt.new w S (by rw [h.len]; omega) _ rfl
  obtain ⟨w1, hw1⟩ : ∃ u, u = w.alloc (.cells S.toArray 29) := ⟨_, rfl⟩
  rw [← hw1] at hR
  have hb1 : Below w.heap.size w w1 := by rw [hw1]; exact (Below.refl _ _).alloc (Nat.le_refl _) _
  have HPr := Lib.hid (rprior_any S f0 st pe wi de sm an we ro wk sp fr sl mv dp h w1)
  have HPc := Lib.hid (fun w' => rprec_any f0 sm an w')
  have HR := Lib.hid hR
  have HS := Lib.hid h
  have HB1 := Lib.hid hb1
  have Hw1 := Lib.hid hw1
  clear hR hb1 hw1
  unfold okS okC
  obtain ⟨b1, hb1⟩ : ∃ b, b = inR st 0 52595999 := ⟨_, rfl⟩
  have HW1 : Hid (∀ w, Calls Tryz.prog 34 #[.int .i64 st, .int .i64 0, .int .i64 52595999] w fun e w' => e = .returned (.bool b1) ∧ w' = w) := by rw [hb1]; exact fun w => rwithin_any st 0 52595999 w
  obtain ⟨b2, hb2⟩ : ∃ b, b = inR pe 1 100000 := ⟨_, rfl⟩
  have HW2 : Hid (∀ w, Calls Tryz.prog 34 #[.int .i64 pe, .int .i64 1, .int .i64 100000] w fun e w' => e = .returned (.bool b2) ∧ w' = w) := by rw [hb2]; exact fun w => rwithin_any pe 1 100000 w
  obtain ⟨b3, hb3⟩ : ∃ b, b = inR wi 0 100000 := ⟨_, rfl⟩
  have HW3 : Hid (∀ w, Calls Tryz.prog 34 #[.int .i64 wi, .int .i64 0, .int .i64 100000] w fun e w' => e = .returned (.bool b3) ∧ w' = w) := by rw [hb3]; exact fun w => rwithin_any wi 0 100000 w
  obtain ⟨b4, hb4⟩ : ∃ b, b = inR de 0 100000 := ⟨_, rfl⟩
  have HW4 : Hid (∀ w, Calls Tryz.prog 34 #[.int .i64 de, .int .i64 0, .int .i64 100000] w fun e w' => e = .returned (.bool b4) ∧ w' = w) := by rw [hb4]; exact fun w => rwithin_any de 0 100000 w
  obtain ⟨b5, hb5⟩ : ∃ b, b = inR we 1 100 := ⟨_, rfl⟩
  have HW5 : Hid (∀ w, Calls Tryz.prog 34 #[.int .i64 we, .int .i64 1, .int .i64 100] w fun e w' => e = .returned (.bool b5) ∧ w' = w) := by rw [hb5]; exact fun w => rwithin_any we 1 100 w
  obtain ⟨b6, hb6⟩ : ∃ b, b = inR ro 0 40 := ⟨_, rfl⟩
  have HW6 : Hid (∀ w, Calls Tryz.prog 34 #[.int .i64 ro, .int .i64 0, .int .i64 40] w fun e w' => e = .returned (.bool b6) ∧ w' = w) := by rw [hb6]; exact fun w => rwithin_any ro 0 40 w
  obtain ⟨b7, hb7⟩ : ∃ b, b = inR wk 1 16 := ⟨_, rfl⟩
  have HW7 : Hid (∀ w, Calls Tryz.prog 34 #[.int .i64 wk, .int .i64 1, .int .i64 16] w fun e w' => e = .returned (.bool b7) ∧ w' = w) := by rw [hb7]; exact fun w => rwithin_any wk 1 16 w
  obtain ⟨b8, hb8⟩ : ∃ b, b = inR sp 0 400 := ⟨_, rfl⟩
  have HW8 : Hid (∀ w, Calls Tryz.prog 34 #[.int .i64 sp, .int .i64 0, .int .i64 400] w fun e w' => e = .returned (.bool b8) ∧ w' = w) := by rw [hb8]; exact fun w => rwithin_any sp 0 400 w
  obtain ⟨b9, hb9⟩ : ∃ b, b = inR dp 0 4194304 := ⟨_, rfl⟩
  have HW9 : Hid (∀ w, Calls Tryz.prog 34 #[.int .i64 dp, .int .i64 0, .int .i64 4194304] w fun e w' => e = .returned (.bool b9) ∧ w' = w) := by rw [hb9]; exact fun w => rwithin_any dp 0 4194304 w
  rw [← hb1, ← hb2, ← hb3, ← hb4, ← hb5, ← hb6, ← hb7, ← hb8, ← hb9]
  clear hb1 hb2 hb3 hb4 hb5 hb6 hb7 hb8 hb9
  obtain ⟨b0, hb0⟩ : ∃ b, b = okP f0 sm an := ⟨_, rfl⟩
  rw [← hb0] at HPc ⊢
  clear hb0 h
  go_enter Tryz.func10, Tryz.ntmps10
  go_upto_region 1 with fail
  rw [← Hw1.out]
  go_wp2_with (refine row_load rfl _ rfl _ rfl _ HR.out (by rw [HS.out.len]; exact rowT_se) ?_)
  refine HPr.out.mono ?_
  rintro e w2 ⟨rfl, hb2⟩
  have HR2 := Lib.hid (HR.out.below hb2)
  have HB2 := Lib.hid (below_then HB1.out hb2)
  clear hb2 HPr HR HB1
  go_wp2_with fail
  refine (HPc.out _).mono ?_
  rintro e w3 ⟨he, hb3⟩
  have HR3 := Lib.hid (HR2.out.below hb3)
  have HB3 := Lib.hid (below_then HB2.out hb3)
  clear hb3 HPc HR2 HB2
  cases b0 with
  | false =>
    obtain rfl : e = .returned (.int .i64 1) := he
    go_wp2_with fail
    go_ret
    exact ⟨by simp [errN], HB3.out⟩
  | true =>
    obtain rfl : e = .returned (.int .i64 0) := he
    have k1 := HR3.out.at 1 HS.out.c1
    have k2 := HR3.out.at 2 HS.out.c2
    have k3 := HR3.out.at 3 HS.out.c3
    have k4 := HR3.out.at 4 HS.out.c4
    have k7 := HR3.out.at 7 HS.out.c7
    have k8 := HR3.out.at 8 HS.out.c8
    have k9 := HR3.out.at 9 HS.out.c9
    have k10 := HR3.out.at 10 HS.out.c10
    have k11 := HR3.out.at 11 HS.out.c11
    have k12 := HR3.out.at 12 HS.out.c12
    have k13 := HR3.out.at 13 HS.out.c13
    have k14 := HR3.out.at 14 HS.out.c14
    have HSc := Lib.hid (rscheme_any fr sl mv w3)
    have HB2 := HB3
    clear HB3
    cases b1 with
    | false =>
      go_wp2_with fail
      refine (HW1.out _).mono ?_
      rintro e w' ⟨rfl, rfl⟩
      go_wp2_with fail
      go_ret
      exact ⟨by simp [errN], HB2.out⟩
    | true =>
      cases b2 with
      | false =>
        go_wp2_with fail
        refine (HW1.out _).mono ?_
        rintro e w' ⟨rfl, rfl⟩
        go_wp2_with fail
        refine (HW2.out _).mono ?_
        rintro e w' ⟨rfl, rfl⟩
        go_wp2_with fail
        go_ret
        exact ⟨by simp [errN], HB2.out⟩
      | true =>
        cases b3 with
        | false =>
          go_wp2_with fail
          refine (HW1.out _).mono ?_
          rintro e w' ⟨rfl, rfl⟩
          go_wp2_with fail
          refine (HW2.out _).mono ?_
          rintro e w' ⟨rfl, rfl⟩
          go_wp2_with fail
          refine (HW3.out _).mono ?_
          rintro e w' ⟨rfl, rfl⟩
          go_wp2_with fail
          go_ret
          exact ⟨by simp [errN], HB2.out⟩
        | true =>
          cases b4 with
          | false =>
            go_wp2_with fail
            refine (HW1.out _).mono ?_
            rintro e w' ⟨rfl, rfl⟩
            go_wp2_with fail
            refine (HW2.out _).mono ?_
            rintro e w' ⟨rfl, rfl⟩
            go_wp2_with fail
            refine (HW3.out _).mono ?_
            rintro e w' ⟨rfl, rfl⟩
            go_wp2_with fail
            refine (HW4.out _).mono ?_
            rintro e w' ⟨rfl, rfl⟩
            go_wp2_with fail
            go_ret
            exact ⟨by simp [errN], HB2.out⟩
          | true =>
            cases b5 with
            | false =>
              go_wp2_with fail
              refine (HW1.out _).mono ?_
              rintro e w' ⟨rfl, rfl⟩
              go_wp2_with fail
              refine (HW2.out _).mono ?_
              rintro e w' ⟨rfl, rfl⟩
              go_wp2_with fail
              refine (HW3.out _).mono ?_
              rintro e w' ⟨rfl, rfl⟩
              go_wp2_with fail
              refine (HW4.out _).mono ?_
              rintro e w' ⟨rfl, rfl⟩
              go_wp2_with fail
              refine (HW5.out _).mono ?_
              rintro e w' ⟨rfl, rfl⟩
              go_wp2_with fail
              go_ret
              exact ⟨by simp [errN], HB2.out⟩
            | true =>
              cases b6 with
              | false =>
                go_wp2_with fail
                refine (HW1.out _).mono ?_
                rintro e w' ⟨rfl, rfl⟩
                go_wp2_with fail
                refine (HW2.out _).mono ?_
                rintro e w' ⟨rfl, rfl⟩
                go_wp2_with fail
                refine (HW3.out _).mono ?_
                rintro e w' ⟨rfl, rfl⟩
                go_wp2_with fail
                refine (HW4.out _).mono ?_
                rintro e w' ⟨rfl, rfl⟩
                go_wp2_with fail
                refine (HW5.out _).mono ?_
                rintro e w' ⟨rfl, rfl⟩
                go_wp2_with fail
                refine (HW6.out _).mono ?_
                rintro e w' ⟨rfl, rfl⟩
                go_wp2_with fail
                go_ret
                exact ⟨by simp [errN], HB2.out⟩
              | true =>
                cases b7 with
                | false =>
                  go_wp2_with fail
                  refine (HW1.out _).mono ?_
                  rintro e w' ⟨rfl, rfl⟩
                  go_wp2_with fail
                  refine (HW2.out _).mono ?_
                  rintro e w' ⟨rfl, rfl⟩
                  go_wp2_with fail
                  refine (HW3.out _).mono ?_
                  rintro e w' ⟨rfl, rfl⟩
                  go_wp2_with fail
                  refine (HW4.out _).mono ?_
                  rintro e w' ⟨rfl, rfl⟩
                  go_wp2_with fail
                  refine (HW5.out _).mono ?_
                  rintro e w' ⟨rfl, rfl⟩
                  go_wp2_with fail
                  refine (HW6.out _).mono ?_
                  rintro e w' ⟨rfl, rfl⟩
                  go_wp2_with fail
                  refine (HW7.out _).mono ?_
                  rintro e w' ⟨rfl, rfl⟩
                  go_wp2_with fail
                  go_ret
                  exact ⟨by simp [errN], HB2.out⟩
                | true =>
                  cases b8 with
                  | false =>
                    go_wp2_with fail
                    refine (HW1.out _).mono ?_
                    rintro e w' ⟨rfl, rfl⟩
                    go_wp2_with fail
                    refine (HW2.out _).mono ?_
                    rintro e w' ⟨rfl, rfl⟩
                    go_wp2_with fail
                    refine (HW3.out _).mono ?_
                    rintro e w' ⟨rfl, rfl⟩
                    go_wp2_with fail
                    refine (HW4.out _).mono ?_
                    rintro e w' ⟨rfl, rfl⟩
                    go_wp2_with fail
                    refine (HW5.out _).mono ?_
                    rintro e w' ⟨rfl, rfl⟩
                    go_wp2_with fail
                    refine (HW6.out _).mono ?_
                    rintro e w' ⟨rfl, rfl⟩
                    go_wp2_with fail
                    refine (HW7.out _).mono ?_
                    rintro e w' ⟨rfl, rfl⟩
                    go_wp2_with fail
                    refine (HW8.out _).mono ?_
                    rintro e w' ⟨rfl, rfl⟩
                    go_wp2_with fail
                    go_ret
                    exact ⟨by simp [errN], HB2.out⟩
                  | true =>
                    cases b9 with
                    | false =>
                      go_wp2_with fail
                      refine (HW1.out _).mono ?_
                      rintro e w' ⟨rfl, rfl⟩
                      go_wp2_with fail
                      refine (HW2.out _).mono ?_
                      rintro e w' ⟨rfl, rfl⟩
                      go_wp2_with fail
                      refine (HW3.out _).mono ?_
                      rintro e w' ⟨rfl, rfl⟩
                      go_wp2_with fail
                      refine (HW4.out _).mono ?_
                      rintro e w' ⟨rfl, rfl⟩
                      go_wp2_with fail
                      refine (HW5.out _).mono ?_
                      rintro e w' ⟨rfl, rfl⟩
                      go_wp2_with fail
                      refine (HW6.out _).mono ?_
                      rintro e w' ⟨rfl, rfl⟩
                      go_wp2_with fail
                      refine (HW7.out _).mono ?_
                      rintro e w' ⟨rfl, rfl⟩
                      go_wp2_with fail
                      refine (HW8.out _).mono ?_
                      rintro e w' ⟨rfl, rfl⟩
                      go_wp2_with fail
                      refine (HW9.out _).mono ?_
                      rintro e w' ⟨rfl, rfl⟩
                      go_wp2_with fail
                      go_ret
                      exact ⟨by simp [errN], HB2.out⟩
                    | true =>
                      go_wp2_with fail
                      refine (HW1.out _).mono ?_
                      rintro e w' ⟨rfl, rfl⟩
                      go_wp2_with fail
                      refine (HW2.out _).mono ?_
                      rintro e w' ⟨rfl, rfl⟩
                      go_wp2_with fail
                      refine (HW3.out _).mono ?_
                      rintro e w' ⟨rfl, rfl⟩
                      go_wp2_with fail
                      refine (HW4.out _).mono ?_
                      rintro e w' ⟨rfl, rfl⟩
                      go_wp2_with fail
                      refine (HW5.out _).mono ?_
                      rintro e w' ⟨rfl, rfl⟩
                      go_wp2_with fail
                      refine (HW6.out _).mono ?_
                      rintro e w' ⟨rfl, rfl⟩
                      go_wp2_with fail
                      refine (HW7.out _).mono ?_
                      rintro e w' ⟨rfl, rfl⟩
                      go_wp2_with fail
                      refine (HW8.out _).mono ?_
                      rintro e w' ⟨rfl, rfl⟩
                      go_wp2_with fail
                      refine (HW9.out _).mono ?_
                      rintro e w' ⟨rfl, rfl⟩
                      go_wp2_with fail
                      refine HSc.out.mono ?_
                      rintro e w4 ⟨rfl, hb4⟩
                      have HB4 := Lib.hid (below_then HB2.out hb4)
                      clear hb4
                      go_wp2_with fail
                      go_ret
                      exact ⟨by cases outB [fr, sl, mv] 1 4 <;> simp [errN, errB], HB4.out⟩
set_option maxRecDepth 100000 in
set_option maxHeartbeats 16000000 in
theorem rtime_any (S : List Value) (f0 st pe wi de sm an we ro wk sp fr sl mv dp : Int) (h : SeOk S f0 st pe wi de sm an we ro wk sp fr sl mv dp) (num : Int) (w : World) :
    Calls Tryz.prog 19 #[.agg S.toArray, .int .i64 num] w fun e w' => e = .returned (.tuple #[.int .i64 (tmV (okS f0 st pe wi de sm an we ro wk sp fr sl mv dp) st pe num).1, .int .i64 (tmV (okS f0 st pe wi de sm an we ro wk sp fr sl mv dp) st pe num).2]) ∧ Below w.heap.size w w' := by
  have hR : RowAt (w.alloc (.cells S.toArray 29)) w.heap.size S := RowAt.new w S (by rw [h.len]; omega) _ rfl
  obtain ⟨w1, hw1⟩ : ∃ u, u = w.alloc (.cells S.toArray 29) := ⟨_, rfl⟩
  rw [← hw1] at hR
  have hb1 : Below w.heap.size w w1 := by rw [hw1]; exact (Below.refl _ _).alloc (Nat.le_refl _) _
  have HCk := Lib.hid (rcycheck_any S f0 st pe wi de sm an we ro wk sp fr sl mv dp h w1)
  have HR := Lib.hid hR
  have HS := Lib.hid h
  have HB1 := Lib.hid hb1
  have Hw1 := Lib.hid hw1
  clear hR hb1 hw1 h
  obtain ⟨ok, hok⟩ : ∃ b, b = okS f0 st pe wi de sm an we ro wk sp fr sl mv dp := ⟨_, rfl⟩
  rw [← hok] at HCk ⊢
  have HOk := Lib.hid hok
  clear hok
  obtain ⟨b, hb⟩ : ∃ b, b = inR num 1 10000 := ⟨_, rfl⟩
  have HW : Hid (∀ w, Calls Tryz.prog 34 #[.int .i64 num, .int .i64 1, .int .i64 10000] w fun e w' => e = .returned (.bool b) ∧ w' = w) := by rw [hb]; exact fun w => rwithin_any num 1 10000 w
  unfold tmV
  rw [← hb]
  have HBn := Lib.hid hb
  clear hb
  go_enter Tryz.func19, Tryz.ntmps19
  go_upto_region 1 with fail
  rw [← Hw1.out]
  go_wp2_with (refine row_load rfl _ rfl _ rfl _ HR.out (by rw [HS.out.len]; exact rowT_se) ?_)
  refine HCk.out.mono ?_
  rintro e w2 ⟨he, hb2⟩
  have HR2 := Lib.hid (HR.out.below hb2)
  have HB2 := Lib.hid (below_then HB1.out hb2)
  clear hb2 HCk HR HB1
  cases ok with
  | false =>
    obtain rfl : e = .returned (.int .i64 1) := he
    go_wp2_with fail
    go_ret2
    exact ⟨by simp, HB2.out⟩
  | true =>
    obtain rfl : e = .returned (.int .i64 0) := he
    go_wp2_with fail
    refine (HW.out _).mono ?_
    rintro e w3 ⟨rfl, rfl⟩
    cases b with
    | false =>
      go_wp2_with fail
      go_ret2
      exact ⟨by simp, HB2.out⟩
    | true =>
      have hb := okS_bnd HOk.out.symm
      have hn : 1 ≤ num ∧ num ≤ 10000 := by have := HBn.out; unfold inR at this; exact of_decide_eq_true this.symm
      obtain ⟨m1, m2⟩ := tm_mul hn hb.2.2.1
      obtain ⟨_, ⟨s1, s2⟩, ⟨p1, p2⟩, _⟩ := hb
      obtain ⟨n1, n2⟩ := hn
      have k1 := HR2.out.at 1 HS.out.c1
      have k2 := HR2.out.at 2 HS.out.c2
      go_wp2_with fail
      all_goals go_ret2
      all_goals refine ⟨?_, HB2.out⟩
      all_goals first
        | simp
        | omega
set_option maxRecDepth 100000 in
set_option maxHeartbeats 16000000 in
theorem rwindow_any (S : List Value) (f0 st pe wi de sm an we ro wk sp fr sl mv dp : Int) (h : SeOk S f0 st pe wi de sm an we ro wk sp fr sl mv dp) (num cut : Int) (w : World) :
    Calls Tryz.prog 21 #[.agg S.toArray, .int .i64 num, .int .i64 cut] w fun e w' => (∃ p q r s, wnV (okS f0 st pe wi de sm an we ro wk sp fr sl mv dp) st pe wi num cut = (p, q, r, s) ∧ e = .returned (.tuple #[.agg #[.int .i64 p, .int .i64 q, .int .i64 r], .int .i64 s])) ∧ Below w.heap.size w w' := by
  obtain ⟨w1, hw1⟩ : ∃ u, u = (w.alloc (.cells S.toArray 29)).alloc (.cells #[.int .i64 0, .int .i64 0, .int .i64 0] 68) := ⟨_, rfl⟩
  have hR : RowAt w1 w.heap.size S := by rw [hw1]; exact (RowAt.new w S (by rw [h.len]; omega) _ rfl).alloc _
  have hP : RowAt w1 (w.heap.size + 1) [.int .i64 0, .int .i64 0, .int .i64 0] := by rw [hw1]; exact RowAt.new _ [.int .i64 0, .int .i64 0, .int .i64 0] (by simp) _ (by simp)
  have hb1 : Below w.heap.size w w1 := by rw [hw1]; exact ((Below.refl _ _).alloc (Nat.le_refl _) _).alloc (by simp) _
  have HTm := Lib.hid (rtime_any S f0 st pe wi de sm an we ro wk sp fr sl mv dp h num w1)
  have HR := Lib.hid (And.intro hR hP)
  have HS := Lib.hid h
  have HB1 := Lib.hid hb1
  have Hw1 := Lib.hid hw1
  clear hR hb1 hw1 h hP
  obtain ⟨ok, hok⟩ : ∃ b, b = okS f0 st pe wi de sm an we ro wk sp fr sl mv dp := ⟨_, rfl⟩
  rw [← hok] at HTm ⊢
  have HOk := Lib.hid hok
  clear hok
  obtain ⟨V, hV⟩ : ∃ V, V = wnV ok st pe wi num cut := ⟨_, rfl⟩
  rw [← hV]
  have HV := Lib.hid hV
  clear hV
  obtain ⟨b, hb⟩ : ∃ b, b = inR cut 0 52595999 := ⟨_, rfl⟩
  have HW : Hid (∀ w, Calls Tryz.prog 34 #[.int .i64 cut, .int .i64 0, .int .i64 52595999] w fun e w' => e = .returned (.bool b) ∧ w' = w) := by rw [hb]; exact fun w => rwithin_any cut 0 52595999 w
  have HBi := Lib.hid hb
  clear hb
  go_enter Tryz.func21, Tryz.ntmps21
  go_upto_region 1 with fail
  rw [← Hw1.out]
  go_wp2_with (refine row_load rfl _ rfl _ rfl _ HR.out.1 (by rw [HS.out.len]; exact rowT_se) ?_)
  refine HTm.out.mono ?_
  rintro e w2 ⟨he, hb2⟩
  have hR2 := HR.out.1.below hb2
  have hP2 := HR.out.2.below hb2
  have HB2 := Lib.hid (below_then HB1.out hb2)
  have k3 := hR2.at 3 HS.out.c3
  have r0 := hP2.at 0 rfl
  have r1 := hP2.at 1 rfl
  have r2 := hP2.at 2 rfl
  have g0 := hP2.2.2 0 (by simp)
  have g1 := hP2.2.2 1 (by simp)
  have g2 := hP2.2.2 2 (by simp)
  have HP2 := Lib.hid (fun a0 a1 a2 => set3 (a0 := a0) (a1 := a1) (a2 := a2) hP2 _ rfl w.heap.size (by omega))
  clear hb2 HTm HR HB1 hR2 hP2
  unfold tmV at he
  by_cases hc : (ok && inR num 1 10000 && decide (st + (num - 1) * pe ≤ 52595999)) = true
  · rw [if_pos hc] at he
    obtain rfl := he
    have hok : ok = true := by simp only [Bool.and_eq_true] at hc; exact hc.1.1
    have hbd := okS_bnd (by rw [← HOk.out]; exact hok)
    have ht0 : st + (num - 1) * pe ≤ 52595999 := by simp only [Bool.and_eq_true, decide_eq_true_eq] at hc; exact hc.2
    have hn : 1 ≤ num ∧ num ≤ 10000 := by simp only [Bool.and_eq_true] at hc; unfold inR at hc; exact of_decide_eq_true hc.1.2
    have hm := tm_mul hn hbd.2.2.1
    have hc2 : (ok && inR num 1 10000 && decide (st + (num - 1) * pe ≤ 52595999)) = true := hc
    obtain ⟨_, ⟨s1, s2⟩, _, ⟨i1, i2⟩, _⟩ := hbd
    obtain ⟨t, ht⟩ : ∃ t, t = st + (num - 1) * pe := ⟨_, rfl⟩
    have HV1 : Hid (V = if b = true then (max (t - wi) 0, min (t + wi) 52595999, cut, 0) else (0, 0, 0, 1)) := by
      have h1 := HV.out
      unfold wnV at h1
      rw [hc2, ← HBi.out, ← ht] at h1
      rw [h1]
      cases b <;> rfl
    have t0 : 0 ≤ t := by omega
    have t1 : t ≤ 52595999 := by omega
    rw [← ht]
    clear hc hc2 hok hn hm s1 s2 ht ht0 HV
    go_wp2_with fail
    refine (HW.out _).mono ?_
    rintro e w3 ⟨rfl, rfl⟩
    cases b with
    | false =>
      go_wp2_with fail
      have HE := HP2.out (.int .i64 0) (.int .i64 0) (.int .i64 0)
      exact ret_row2 rfl _ [.int .i64 0, .int .i64 0, .int .i64 0] _ HE.1 rowT_wn rfl rfl rfl ⟨⟨0, 0, 0, 1, by rw [HV1.out]; rfl, rfl⟩, HB2.out.trans HE.2.2⟩
    | true =>
      go_wp2_with fail
      have HE := HP2.out (.int .i64 (max 0 (t - wi))) (.int .i64 (min 52595999 (t + wi))) (.int .i64 cut)
      exact ret_row2 rfl _ [.int .i64 (max 0 (t - wi)), .int .i64 (min 52595999 (t + wi)), .int .i64 cut] _ HE.1 rowT_wn rfl rfl rfl ⟨⟨_, _, _, _, by rw [HV1.out, Int.max_comm 0, Int.min_comm 52595999]; rfl, rfl⟩, HB2.out.trans HE.2.2⟩
  · rw [if_neg hc] at he
    obtain rfl := he
    have HV1 : Hid (V = (0, 0, 0, 1)) := by
      have h1 := HV.out
      unfold wnV at h1
      have h2 : ¬ (ok && inR num 1 10000 && decide (st + (num - 1) * pe ≤ 52595999) && inR cut 0 52595999) = true := fun h => hc (by rw [Bool.and_eq_true] at h; exact h.1)
      exact Lib.hid (h1.trans (if_neg h2))
    clear hc HV
    go_wp2_with fail
    have HE := HP2.out (.int .i64 0) (.int .i64 0) (.int .i64 0)
    exact ret_row2 rfl _ [.int .i64 0, .int .i64 0, .int .i64 0] _ HE.1 rowT_wn rfl rfl rfl ⟨⟨0, 0, 0, 1, HV1.out, rfl⟩, HB2.out.trans HE.2.2⟩
end Go.Proofs.YtkpgciimhjkajaaGreatDoor
/- The reference's flux: Check, Degrees. -/
namespace Go.Proofs.YtkpgciimhjkajaaGreatDoor
open Go Go.RowKit
set_option maxHeartbeats 16000000 in
set_option maxRecDepth 100000 in
theorem rcheck_any (n : Nat) (hn : Fq n) (dv fv : Value) (D F : List Int) (base : Nat) (w : World) (hok : SOk n D F) (hd : OwnI w base dv D) (hf : OwnI w base fv F) :
    Calls Tryz.prog 69 #[stv n dv fv] w fun e w' => e = .returned (.int .i64 0) ∧ Below w.heap.size w w' := by
  obtain ⟨da, dc, rfl⟩ := hd.slice
  obtain ⟨fa, fc, rfl⟩ := hf.slice
  have HCn := Lib.hid (fun w' => rnodes_any n hn w')
  have HFq : Hid (∀ w, Calls Tryz.prog 51 #[.int .i64 n] w fun e w' => e = .returned (.bool true) ∧ w' = w) := by
    have h1 : decide (1 ≤ (n : Int) ∧ (n : Int) ≤ 8) = true := by have : 1 ≤ n ∧ n ≤ 8 := hn; simp; omega
    intro w; rw [← h1]; exact rfreq_any n w
  have HOD := Lib.hid (outB_no hok.dr)
  have HOF := Lib.hid hok.fr
  have HDl := Lib.hid hok.dl
  have HFl := Lib.hid hok.fl
  obtain ⟨ND, hND⟩ : ∃ x, x = D.length := ⟨_, rfl⟩
  obtain ⟨NF, hNF⟩ : ∃ x, x = F.length := ⟨_, rfl⟩
  obtain ⟨w1, hw1⟩ : ∃ u, u = w.alloc (.cells #[.int .i64 (n : Int), .slice da ND dc, .slice fa NF fc] 36) := ⟨_, rfl⟩
  have hb1 : Below w.heap.size w w1 := by rw [hw1]; exact (Below.refl _ _).alloc (Nat.le_refl _) _
  have HEd := Lib.hid (edges_n n hn w1)
  rw [← hND] at hd ⊢
  rw [← hNF] at hf ⊢
  rw [← hND] at HDl
  rw [← hNF] at HFl
  have HR1 : Hid (RowAt w1 w.heap.size [.int .i64 (n : Int), .slice da ND dc, .slice fa NF fc]) := by rw [hw1]; exact RowAt.new _ [.int .i64 (n : Int), .slice da ND dc, .slice fa NF fc] (by simp) _ rfl
  have HD1 := Lib.hid (hd.below hb1)
  have HF1 := Lib.hid (hf.below hb1)
  have HB1 := Lib.hid hb1
  have Hw1 := Lib.hid hw1
  obtain ⟨B, hB⟩ : ∃ x, x = w.heap.size := ⟨_, rfl⟩
  clear hd hf hok hb1 hw1 hND hNF hn
  unfold stv
  have c0 := HR1.out.at 0 rfl
  go_enter Tryz.func69, Tryz.ntmps69
  go_upto_region 1 with fail
  rw [← Hw1.out]
  rw [← hB] at HR1 c0 ⊢
  clear hB Hw1
  go_wp2_with fail
  refine (HFq.out _).mono ?_
  rintro e w0 ⟨rfl, rfl⟩
  go_wp2_with fail
  refine HEd.out.mono ?_
  rintro e w2 ⟨ev, rfl, hE, hb2⟩
  obtain ⟨ea, ec, rfl⟩ := hE.slice
  go_upto_region 4 with fail
  have HR2 := Lib.hid (HR1.out.below hb2)
  have HD2 := Lib.hid (HD1.out.below hb2)
  have HF2 := Lib.hid (HF1.out.below hb2)
  have HB2 := Lib.hid (below_then HB1.out hb2)
  obtain ⟨NE, hNE⟩ : ∃ x, x = (edgesN n).length := ⟨_, rfl⟩
  rw [← hNE] at HFl ⊢
  obtain ⟨NC, hNC⟩ : ∃ x, x = 10 * n * n + 2 := ⟨_, rfl⟩
  rw [← hNC] at HDl HCn
  have hq1 := HDl.out
  have hq2 := HFl.out
  clear hE hb2 c0 hNE hNC HEd HR1 HD1 HF1 HB1
  subst hq1 hq2
  refine wp_region_seqL (by kernel_rfl) (fun w' => RowAt w' B [.int .i64 (n : Int), .slice da ND dc, .slice fa NF fc]) 24 [(0, 0), (1, 1), (2, 0), (3, 0), (4, 1), (5, 2), (6, 0), (7, 0), (8, 0), (9, 1), (10, 0), (11, 0), (12, 0), (13, 0), (14, 0), (15, 0), (16, 0), (17, 1), (18, 2), (19, 0), (20, 0), (21, 0), (22, 0), (23, 1), (24, 2), (25, 0), (26, 0)] (by kernel_rfl) (HR2.out.drew) ?_
  refine sl_q (d := some 15) rfl rfl rfl (.pointer (some ⟨B, 1, none⟩)) (fun w => by go_simp) ?_
  simp only [ap_s, ap_n, ls_z, ls_s]
  refine sl_s (d := some 16) rfl rfl rfl (.slice da ND dc) (fun w hw => by have c := hw.at 1 rfl; simp [execOp, Act.eval, go_sem, c]) ?_
  simp only [ap_s, ap_n, ls_z, ls_s]
  refine sl_q (d := some 17) rfl rfl rfl (.int .i64 (ND : Int)) (fun w => by simp [execOp, Act.eval, go_sem]) ?_
  simp only [ap_s, ap_n, ls_z, ls_s]
  refine sl_q (d := some 18) rfl rfl rfl (.pointer (some ⟨B, 0, none⟩)) (fun w => by go_simp) ?_
  simp only [ap_s, ap_n, ls_z, ls_s]
  refine sl_s (d := some 19) rfl rfl rfl (.int .i64 (n : Int)) (fun w hw => by have c := hw.at 0 rfl; simp [execOp, Act.eval, go_sem, c]) ?_
  simp only [ap_s, ap_n, ls_z, ls_s]
  refine sl_call (d := some 20) rfl rfl rfl ⟨_, Tryz.func26, by kernel_rfl, by kernel_rfl⟩ _ _ _ rfl rfl [.int .i64 (n : Int)] rfl (HCn.out _) ?_
  rintro e w5 ⟨rfl, rfl⟩
  refine ⟨_, rfl, fun _ => HR2.out.drew, ?_⟩
  simp only [ap_s, ap_n, ls_z, ls_s]
  refine sl_q (d := some 21) rfl rfl rfl (.bool false) (fun w => by simp [execOp, Act.eval, go_sem]) ?_
  simp only [ap_s, ap_n, ls_z, ls_s]
  refine sl_q (d := some 22) rfl rfl rfl (.bool false) (fun w => rfl) ?_
  simp only [ap_s, ap_n, ls_z, ls_s]
  refine sl_q (d := some 23) rfl rfl rfl (.pointer (some ⟨B, 2, none⟩)) (fun w => by go_simp) ?_
  simp only [ap_s, ap_n, ls_z, ls_s]
  refine sl_s (d := some 24) rfl rfl rfl (.slice fa NF fc) (fun w hw => by have c := hw.at 2 rfl; simp [execOp, Act.eval, go_sem, c]) ?_
  simp only [ap_s, ap_n, ls_z, ls_s]
  refine sl_q (d := some 25) rfl rfl rfl (.int .i64 (NF : Int)) (fun w => by simp [execOp, Act.eval, go_sem]) ?_
  simp only [ap_s, ap_n, ls_z, ls_s]
  refine sl_q (d := some 26) rfl rfl rfl (.slice ea NF ec) (fun w => rfl) ?_
  simp only [ap_s, ap_n, ls_z, ls_s]
  refine sl_q (d := some 27) rfl rfl rfl (.int .i64 (NF : Int)) (fun w => by simp [execOp, Act.eval, go_sem]) ?_
  simp only [ap_s, ap_n, ls_z, ls_s]
  refine sl_q (d := some 28) rfl rfl rfl (.bool false) (fun w => by simp [execOp, Act.eval, go_sem]) ?_
  simp only [ap_s, ap_n, ls_z, ls_s]
  refine sl_q (d := some 29) rfl rfl rfl (.bool false) (fun w => by simp [execOp, Act.eval, go_sem]) ?_
  simp only [ap_s, ap_n, ls_z, ls_s]
  refine sl_q (d := some 30) rfl rfl rfl (.bool false) (fun w => rfl) ?_
  simp only [ap_s, ap_n, ls_z, ls_s]
  refine sl_q (d := some 31) rfl rfl rfl (.pointer (some ⟨B, 1, none⟩)) (fun w => by go_simp) ?_
  simp only [ap_s, ap_n, ls_z, ls_s]
  refine sl_s (d := some 32) rfl rfl rfl (.slice da ND dc) (fun w hw => by have c := hw.at 1 rfl; simp [execOp, Act.eval, go_sem, c]) ?_
  simp only [ap_s, ap_n, ls_z, ls_s]
  refine sl_call (d := some 33) rfl rfl rfl ⟨_, Tryz.func86, by kernel_rfl, by kernel_rfl⟩ _ _ _ rfl rfl [.slice da ND dc] rfl (rdepths_any _ D base _ HD2.out.drew) ?_
  rw [HOD.out]
  rintro e w5 ⟨rfl, rfl⟩
  refine ⟨_, rfl, fun _ => HR2.out.drew, ?_⟩
  simp only [ap_s, ap_n, ls_z, ls_s]
  refine sl_q (d := some 34) rfl rfl rfl (.bool false) (fun w => by simp [execOp, Act.eval, go_sem]) ?_
  simp only [ap_s, ap_n, ls_z, ls_s]
  refine sl_q (d := some 35) rfl rfl rfl (.bool false) (fun w => by simp [execOp, Act.eval, go_sem]) ?_
  simp only [ap_s, ap_n, ls_z, ls_s]
  refine sl_q (d := some 36) rfl rfl rfl (.bool false) (fun w => rfl) ?_
  simp only [ap_s, ap_n, ls_z, ls_s]
  refine sl_q (d := some 37) rfl rfl rfl (.pointer (some ⟨B, 2, none⟩)) (fun w => by go_simp) ?_
  simp only [ap_s, ap_n, ls_z, ls_s]
  refine sl_s (d := some 38) rfl rfl rfl (.slice fa NF fc) (fun w hw => by have c := hw.at 2 rfl; simp [execOp, Act.eval, go_sem, c]) ?_
  simp only [ap_s, ap_n, ls_z, ls_s]
  refine sl_call (d := some 39) rfl rfl rfl ⟨_, Tryz.func87, by kernel_rfl, by kernel_rfl⟩ _ _ _ rfl rfl [.slice fa NF fc, .int .i64 16777216] rfl (rsmall_any _ F base _ HF2.out.drew HOF.out) ?_
  rintro e w5 ⟨rfl, rfl⟩
  refine ⟨_, rfl, (fun h => by cases h), ?_⟩
  simp only [ap_s, ap_n, ls_z, ls_s]
  refine sl_q (d := some 40) rfl rfl rfl (.bool false) (fun w => by simp [execOp, Act.eval, go_sem]) ?_
  simp only [ap_s, ap_n, ls_z, ls_s]
  refine sl_q (d := some 41) rfl rfl rfl (.bool false) (fun w => by simp [execOp, Act.eval, go_sem]) ?_
  simp only [ap_s, ap_n, ls_z, ls_s]
  refine sl_end ?_
  have HEnd := Lib.hid (below_then HB2.out (Below.refl _ _).drew)
  clear HCn HOD HOF HR2 HD2 HF2 HB2
  go_wp2_with fail
  go_ret
  exact ⟨rfl, HEnd.out⟩
end Go.Proofs.YtkpgciimhjkajaaGreatDoor
/- The reference's flux: Degrees. -/
namespace Go.Proofs.YtkpgciimhjkajaaGreatDoor
open Go Go.RowKit
theorem edgesN_pos {n : Nat} (h : Fq n) : 0 < (edgesN n).length := by
  have hn1 : 1 ≤ n := h.1
  have hr : ∃ t, t ∈ rawN n := ⟨upT n 0 0 0, List.mem_flatMap.2 ⟨0, by simp, List.mem_flatMap.2 ⟨0, List.mem_range.2 (by omega), List.mem_flatMap.2 ⟨0, List.mem_range.2 (by omega), List.mem_cons_self ..⟩⟩⟩⟩
  obtain ⟨t, ht⟩ := hr
  have hc := (cellsN_perm n).mem_iff.2 ht
  have he : (t.1, t.2.1) ∈ edgesN n := by
    rw [edgesN_eq h]
    unfold edP
    rw [cpt_mem, List.mem_mergeSort]
    exact List.mem_flatMap.2 ⟨t, hc, List.mem_cons_self ..⟩
  exact List.length_pos_of_mem he
def EAt (w : World) (g : Nat) (E : List Ed) : Prop := ∀ i, (h : i < E.length) → w.cell? ⟨g, i * 2, none⟩ = some (.int .i64 (E[i].1 : Int)) ∧ w.cell? ⟨g, i * 2 + 1, none⟩ = some (.int .i64 (E[i].2 : Int))
theorem EAt.of_block {w w' : World} {g : Nat} {E : List Ed} (h : EAt w g E) (hb : w'.heap[g]? = w.heap[g]?) : EAt w' g E := fun i hi => by
  have h1 : w'.cell? ⟨g, i * 2, none⟩ = w.cell? ⟨g, i * 2, none⟩ := World.cell?_of_block (w := w) hb
  have h2 : w'.cell? ⟨g, i * 2 + 1, none⟩ = w.cell? ⟨g, i * 2 + 1, none⟩ := World.cell?_of_block (w := w) hb
  rw [h1, h2]; exact h i hi
theorem OwnE2.eat {w : World} {base : Nat} {v : Value} {E : List Ed} (h : OwnE2 w base v E) (h0 : 0 < E.length) : ∃ g cap, v = .slice (some ⟨g, 0, none⟩) E.length cap ∧ base ≤ g ∧ g < w.heap.size ∧ E.length ≤ cap ∧ cap ≤ 9223372036854775807 ∧ EAt w g E := by
  obtain ⟨g, cap, rfl, h1, h2, h3, h4⟩ := h.at h0
  have h5 : EAt w g E := fun i hi => ⟨by have := h4 i hi 0 _ rfl; rwa [Nat.add_zero] at this, h4 i hi 1 _ rfl⟩
  exact ⟨g, cap, rfl, h1, World.block_lt_of_cell? (a := ⟨g, 0 * 2, none⟩) _ (h5 0 h0).1, h2, h3, h5⟩
theorem fin_take {E : List Ed} {c : Nat} (h : c < E.length) : (List.finRange E.length).take (c + 1) = (List.finRange E.length).take c ++ [⟨c, h⟩] := by
  rw [List.take_add_one]; simp [h]
theorem fin_all (E : List Ed) : (List.finRange E.length).take E.length = List.finRange E.length := List.take_of_length_le (by simp)
structure Dg (X eg : Nat) (E : List Ed) (D : List Int) (N : Nat) (w wr : World) : Prop where
  blk : BlkI wr X D N
  eat : EAt wr eg E
  be : Below w.heap.size w wr
set_option maxRecDepth 100000 in
set_option maxHeartbeats 8000000 in
theorem rdegrees_any (n : Nat) (hn : Fq n) (w : World) :
    Calls Tryz.prog 94 #[.int .i64 n] w fun e w' => ∃ v, e = .returned (.tuple #[v, .int .i64 0]) ∧ OwnI w' w.heap.size v (degN n) ∧ Below w.heap.size w w' := by
  have hn8 : 1 ≤ n ∧ n ≤ 8 := hn
  have HFq : Hid (∀ w, Calls Tryz.prog 51 #[.int .i64 n] w fun e w' => e = .returned (.bool true) ∧ w' = w) := by
    have h1 : decide (1 ≤ (n : Int) ∧ (n : Int) ≤ 8) = true := by simp; omega
    intro w; rw [← h1]; exact rfreq_any n w
  obtain ⟨N, hN⟩ : ∃ N, N = 10 * n * n + 2 := ⟨_, rfl⟩
  have hNb : 2 ≤ N ∧ N ≤ 1000 := by
    have := Nat.mul_le_mul (Nat.mul_le_mul_left 10 hn8.2) hn8.2
    omega
  have HCo := Lib.hid (rnodes_any n hn w)
  rw [← hN] at HCo
  have Hmk := Lib.hid (run_make_row' (P := Tryz.prog) 34 3 (.int .i64 0) 8 Tryz.underlying34 iinfoN rfl .i64 .i64 N (by omega) (by omega))
  obtain ⟨w1, hw1⟩ : ∃ u, u = w.alloc (.cells (madeCells #[.int .i64 0] N) 3) := ⟨_, rfl⟩
  have hb1 : Below w.heap.size w w1 := by rw [hw1]; exact (Below.refl _ _).alloc (Nat.le_refl _) _
  have HX1 : Hid (BlkI w1 w.heap.size (List.replicate N 0) N) := by rw [hw1]; exact BlkI.new w N
  have HEd := Lib.hid (edges_n n hn w1)
  have hE1 := edgesN_ok hn
  rw [← hN] at hE1
  have HE1 := Lib.hid (And.intro hE1 (And.intro (edgesN_le hn) (edgesN_pos hn)))
  have HDn : Hid (degN n = degF (edgesN n) (List.replicate N 0) (List.finRange _)) := by unfold Hid degN; rw [hN]
  have HN := Lib.hid hN
  have HNb := Lib.hid hNb
  have HB1 := Lib.hid hb1
  have Hw1 := Lib.hid hw1
  obtain ⟨E, hE⟩ : ∃ E, E = edgesN n := ⟨_, rfl⟩
  rw [← hE] at HEd HE1 HDn
  clear hE hb1 hw1 hN hE1 hNb hn8
  go_enter Tryz.func94, Tryz.ntmps94
  go_wp2_with fail
  refine (HFq.out _).mono ?_
  rintro e w0 ⟨rfl, rfl⟩
  go_wp2_with fail
  refine HCo.out.mono ?_
  rintro e w0 ⟨rfl, rfl⟩
  have hmk := Hmk.out
  go_upto_region 4 with fail
  rw [← Hw1.out]
  clear hmk
  go_wp2_with fail
  refine HEd.out.mono ?_
  rintro e w2 ⟨ev, rfl, hE, hb2⟩
  obtain ⟨eg, ecap, rfl, he1, he2, he3, he4, he5⟩ := hE.eat HE1.out.2.2
  have HS0 : Hid (Dg w0.heap.size eg E (degF E (List.replicate N 0) ((List.finRange E.length).take 0)) N w0 w2) := ⟨HX1.out.of_block (hb2.block _ HX1.out.lt), he5, below_then HB1.out hb2⟩
  have Heg : Hid (w0.heap.size < eg ∧ eg < w2.heap.size) := by unfold Hid; have := HX1.out.lt; exact ⟨by omega, he2⟩
  obtain ⟨M, hM⟩ : ∃ M, M = E.length := ⟨_, rfl⟩
  rw [← hM] at he3 ⊢
  have HM := Lib.hid hM
  have hM9 : M ≤ 9000 := by rw [hM]; exact HE1.out.2.1
  obtain ⟨X, hX⟩ : ∃ x, x = w0.heap.size := ⟨_, rfl⟩
  rw [← hX] at HS0 Heg ⊢
  have HXX := Lib.hid hX
  clear hE hb2 he1 he2 he5 hM HX1 HB1 HEd hX Hw1
  go_wp2_with fail
  go_loopw [7] (fun kv wr => ∃ c : Nat, c ≤ M ∧ kv = .int .i64 c ∧ Hid (Dg X eg E (degF E (List.replicate N 0) ((List.finRange E.length).take c)) N w0 wr)) (fun kv _ => (100000 - intOf kv).toNat)
  case atStart => exact ⟨0, by omega, rfl, HS0⟩
  case round =>
    clear HS0
    obtain ⟨c, hc, rfl, hs⟩ := hrel
    by_cases hlt : c < M
    · have c0 : (c : Int) < (M : Int) := by omega
      have hcl : c < E.length := by rw [← HM.out]; exact hlt
      have hbn := degF_bnd E (fun e he => (HE1.out.1 e he).1) ((List.finRange E.length).take c) (List.replicate N 0)
      have hsn := degF_snoc E (List.replicate N 0) ((List.finRange E.length).take c) ⟨c, hcl⟩
      rw [← fin_take hcl] at hsn
      have he := HE1.out.1 _ (List.getElem_mem hcl)
      obtain ⟨hec1, hec2⟩ := hs.out.eat c hcl
      have hHs := hs.out
      have hlN : (degF E (List.replicate N 0) ((List.finRange E.length).take c)).length = N := by rw [degF_length]; simp
      simp only [] at hsn
      generalize degF E (List.replicate N 0) ((List.finRange E.length).take c) = D at *
      generalize hD2 : degF E (List.replicate N 0) ((List.finRange E.length).take (c + 1)) = D2 at *
      obtain ⟨xn, hxn⟩ : ∃ x, x = E[c].1 := ⟨_, rfl⟩
      obtain ⟨yn, hyn⟩ : ∃ x, x = E[c].2 := ⟨_, rfl⟩
      rw [← hxn, ← hyn] at he hsn
      rw [← hxn] at hec1
      rw [← hyn] at hec2
      have hbx := (hbn xn (by intro e he; simp; exact (HE1.out.1 e he).2))
      have hby := (hbn yn (by intro e he; simp; exact (HE1.out.1 e he).2))
      have hrx : (List.replicate N (0 : Int)).getD xn 0 = 0 := by simp [List.getD_eq_getElem?_getD, List.getElem?_replicate]; split <;> rfl
      have hry : (List.replicate N (0 : Int)).getD yn 0 = 0 := by simp [List.getD_eq_getElem?_getD, List.getElem?_replicate]; split <;> rfl
      have hlt2 : ((List.finRange E.length).take c).length ≤ 9000 := by rw [List.length_take, List.length_finRange, ← HM.out]; omega
      rw [hrx] at hbx
      rw [hry] at hby
      have hxl : xn < D.length := by omega
      have hyl : yn < D.length := by omega
      have hgx : D.getD xn 0 = D[xn] := by rw [List.getD_eq_getElem?_getD, List.getElem?_eq_getElem hxl]; rfl
      have hgy : D.getD yn 0 = D[yn] := by rw [List.getD_eq_getElem?_getD, List.getElem?_eq_getElem hyl]; rfl
      rw [hgx] at hbx
      rw [hgy] at hby
      have hbe : bump (bump D xn) yn = (D.set xn (D[xn] + 1)).set yn (D[yn] + 1) := by
        rw [bump_set hxl, bump_set (by rw [List.length_set]; exact hyl), List.getElem_set_ne (by omega)]
      have hbe2 : D2 = (D.set xn (D[xn] + 1)).set yn (D[yn] + 1) := hsn.trans hbe
      have hD := hHs.blk
      have cx := hD.at xn hxl
      have fx := hD.free xn
      have hD1 := hD.set xn hxl (D[xn] + 1)
      have cy := hD1.at yn (by rw [List.length_set]; exact hyl)
      rw [List.getElem_set_ne (by omega)] at cy
      have fy := hD1.free yn
      have hD2' := hD1.set yn (by rw [List.length_set]; exact hyl) (D[yn] + 1)
      rw [← hbe2] at hD2'
      have heX : eg ≠ X := by have := Heg.out; omega
      have ho : ∀ (V : World) (j : Nat) (v : Value) (k : Nat), k ≠ X → (V.setCell ⟨X, j, none⟩ v).heap[k]? = V.heap[k]? := fun V j v k hk => Below.heap_setCell _ _ _ _ (by simpa using hk)
      have hEa1 : EAt (wr.setCell ⟨X, xn, none⟩ (.int .i64 (D[xn] + 1))) eg E := hHs.eat.of_block (ho _ _ _ _ heX)
      have hEa2 := hEa1.of_block (ho (wr.setCell ⟨X, xn, none⟩ (.int .i64 (D[xn] + 1))) yn (.int .i64 (D[yn] + 1)) eg heX)
      have hX0 : w0.heap.size ≤ X := by rw [HXX.out]; exact Nat.le_refl _
      have HEnd : Hid (Dg X eg E D2 N w0 _) := ⟨hD2', hEa2, (hHs.be.setCell (p := ⟨X, xn, none⟩) hX0 (.int .i64 (D[xn] + 1))).setCell (p := ⟨X, yn, none⟩) hX0 (.int .i64 (D[yn] + 1))⟩
      rw [← hD2] at HEnd
      have hec21 := (hEa1 c hcl).2
      rw [← hyn] at hec21
      have hx1 : (xn : Int) < (N : Int) := by omega
      have hy1 : (yn : Int) < (N : Int) := by omega
      have hd1 : 0 ≤ D[xn] ∧ D[xn] ≤ 18000 := by omega
      have hd2 : 0 ≤ D[yn] ∧ D[yn] ≤ 18000 := by omega
      generalize D[xn] = d1 at *
      generalize D[yn] = d2 at *
      obtain ⟨d10, d11⟩ := hd1
      obtain ⟨d20, d21⟩ := hd2
      have hNm : N ≤ 1000 := HNb.out.2
      clear hxn hyn hbx hby hbn hsn hrx hry hgx hgy hbe hbe2 hD hD1 hD2' ho hlN he heX hEa1 hEa2 hHs hX0 hD2 hlt2 hec2 hs hcl
      go_wp2_with fail
      refine ⟨⟨c + 1, by omega, by go_num, HEnd⟩, ?_⟩
      simp [intOf]; omega
    · obtain rfl : c = M := by omega
      have hH := hs.out
      have hO : OwnI wr w0.heap.size (.slice (some ⟨X, 0, none⟩) N N) (degN n) := by
        have h := hH.blk.own (base := w0.heap.size) (by rw [HXX.out]; exact Nat.le_refl _) (by have := HNb.out; omega)
        rw [degF_length, List.length_replicate, HM.out, fin_all, ← HDn.out] at h
        exact h
      have HEnd := Lib.hid (And.intro hO hH.be)
      clear hs hH hO
      go_wp2_with fail
      go_ret2
      exact ⟨_, rfl, HEnd.out.1, HEnd.out.2⟩
end Go.Proofs.YtkpgciimhjkajaaGreatDoor
/- The reference's flux: Amounts. -/
namespace Go.Proofs.YtkpgciimhjkajaaGreatDoor
open Go Go.RowKit Go.Shelf
attribute [local go_sem] Oper.semAt_some
structure M2 (W : World) (base : Nat) (av bv : Value) (al bl : List Int) : Prop where
  oa : OwnI W base av al
  ob : OwnI W base bv bl
  ap : ∀ g, av.ownBlock = some g → bv.ownBlock ≠ some g
  lo : base ≤ W.heap.size
theorem M2.swap {W : World} {base : Nat} {av bv : Value} {al bl : List Int} (h : M2 W base av bv al bl) : M2 W base bv av bl al := ⟨h.ob, h.oa, fun g h1 h2 => h.ap g h2 h1, h.lo⟩
theorem M2.drew {W : World} {base : Nat} {av bv : Value} {al bl : List Int} (h : M2 W base av bv al bl) : M2 W.drew base av bv al bl := ⟨h.oa.drew, h.ob.drew, h.ap, h.lo⟩
theorem M2.app {W : World} {base : Nat} {av bv : Value} {al bl : List Int} (h : M2 W base av bv al bl) (T ty : TypeId) (hT : Tryz.prog.underlying T = some (.slice 3)) (x : Int) (hn : al.length ≤ 1000000) :
    ∃ (a : Option Addr) (n c : Nat) (w' : World), (Builtin.append_ #[T, T] ty #[av, .slice (some ⟨W.heap.size, 0, none⟩) 1 1]).run Tryz.prog (W.alloc (.cells #[.int .i64 x] 3)) = .ok (.slice a n c) w' ∧ M2 w' base (.slice a n c) bv (al ++ [x]) bl ∧ Below base W w' := by
  have hb : Below W.heap.size W (W.alloc (.cells #[.int .i64 x] 3)) := (Below.refl _ _).alloc (Nat.le_refl _) _
  have hl : base ≤ (W.alloc (.cells #[.int .i64 x] 3)).heap.size := Nat.le_trans h.lo hb.size
  obtain ⟨a, n, c, w', h1, h2, h3, h4⟩ := append_atI T ty hT (h.oa.below hb) W.heap.size x (heap_alloc_new _ _) hn hl
  have hbw : Below base (W.alloc (.cells #[.int .i64 x] 3)) w' := (Below.refl _ _).grown h3 hl (fun j hj => (h.oa.lt j hj).1)
  refine ⟨a, n, c, w', h1, ⟨h2, (h.ob.below hb).of_grown h3 (fun r hr => h.ap r hr), fun g hg hb' => ?_, Nat.le_trans hl hbw.size⟩, (hb.mono h.lo).trans hbw⟩
  rcases h4 g hg with h6 | h6
  · exact h.ap g h6 hb'
  · have := (h.ob.lt g hb').2; have := hb.size; omega
structure S14 (sb cb eg dg gg fg n xn yn i : Nat) (dv fv : Value) (fr sl mv d1 d2 g1 g2 f1 : Int) (w : World) : Prop where
  s : RowAt w sb [.int .i64 (n : Int), dv, fv]
  c : RowAt w cb [.int .i64 fr, .int .i64 sl, .int .i64 mv]
  e1 : w.cell? ⟨eg, i * 2, none⟩ = some (.int .i64 (xn : Int))
  e2 : w.cell? ⟨eg, i * 2 + 1, none⟩ = some (.int .i64 (yn : Int))
  d1 : w.cell? ⟨dg, xn, none⟩ = some (.int .i64 d1)
  d2 : w.cell? ⟨dg, yn, none⟩ = some (.int .i64 d2)
  g1 : w.cell? ⟨gg, xn, none⟩ = some (.int .i64 g1)
  g2 : w.cell? ⟨gg, yn, none⟩ = some (.int .i64 g2)
  f1 : w.cell? ⟨fg, i, none⟩ = some (.int .i64 f1)
theorem S14.below {sb cb eg dg gg fg n xn yn i : Nat} {dv fv : Value} {fr sl mv d1 d2 g1 g2 f1 : Int} {w w' : World} (h : S14 sb cb eg dg gg fg n xn yn i dv fv fr sl mv d1 d2 g1 g2 f1 w) (hb : Below w.heap.size w w') : S14 sb cb eg dg gg fg n xn yn i dv fv fr sl mv d1 d2 g1 g2 f1 w' :=
  ⟨h.s.below hb, h.c.below hb, cell_then hb h.e1, cell_then hb h.e2, cell_then hb h.d1, cell_then hb h.d2, cell_then hb h.g1, cell_then hb h.g2, cell_then hb h.f1⟩
structure Am (w5 wr : World) (av bv : Value) (al bl : List Int) : Prop where
  m : M2 wr w5.heap.size av bv al bl
  be : Below w5.heap.size w5 wr
theorem amtN_take {n : Nat} {mv : Int} {D F : List Int} {c : Nat} (h : c < (edgesN n).length) : (amtN n mv D F).take (c + 1) = (amtN n mv D F).take c ++ [amtI n mv D F ⟨c, h⟩] := by
  unfold amtN
  rw [← List.map_take, ← List.map_take, fin_take h, List.map_append]; rfl
set_option maxRecDepth 100000 in
set_option maxHeartbeats 16000000 in
theorem ramounts_any (n : Nat) (hn : Fq n) (fr sl mv : Int) (hsc : outB [fr, sl, mv] 1 4 = false) (dv fv : Value) (D F : List Int) (B0 : Nat) (w : World) (hok : SOk n D F) (hd : OwnI w B0 dv D) (hf : OwnI w B0 fv F) :
    Calls Tryz.prog 76 #[.agg #[.int .i64 fr, .int .i64 sl, .int .i64 mv], stv n dv fv] w fun e w' => ∃ av bv bl, e = .returned (.tuple #[av, bv, .int .i64 0]) ∧ OwnI w' w.heap.size av (amtN n mv D F) ∧ OwnI w' w.heap.size bv bl ∧ Below w.heap.size w w' := by
  have hpos := edgesN_pos hn
  have hM9 := edgesN_le hn
  obtain ⟨N, hN⟩ : ∃ N, N = 10 * n * n + 2 := ⟨_, rfl⟩
  have hDl : D.length = N := by rw [hN]; exact hok.dl
  have hFl : F.length = (edgesN n).length := hok.fl
  have hGl : (degN n).length = N := by unfold degN; rw [degF_length, List.length_replicate, hN]
  have hE1 := edgesN_ok hn
  rw [← hN] at hE1
  have hgb := degF_bnd (edgesN n) (fun e he => (hE1 e he).1) (List.finRange _) (List.replicate (10 * n * n + 2) 0)
  have hN0 : 0 < N := by omega
  obtain ⟨dg, dc, rfl, hd1, hd2, hd3, hd4, hd5⟩ := hd.iat (by omega)
  obtain ⟨fg, fc, rfl, hf1, hf2, hf3, hf4, hf5⟩ := hf.iat (by omega)
  rw [hDl] at hd3 hd ⊢
  rw [hFl] at hf3 hf ⊢
  obtain ⟨w1, hw1⟩ : ∃ u, u = (w.alloc (.cells #[.int .i64 fr, .int .i64 sl, .int .i64 mv] 24)).alloc (.cells #[.int .i64 (n : Int), .slice (some ⟨dg, 0, none⟩) N dc, .slice (some ⟨fg, 0, none⟩) (edgesN n).length fc] 36) := ⟨_, rfl⟩
  have hb1 : Below w.heap.size w w1 := by rw [hw1]; exact ((Below.refl _ _).alloc (Nat.le_refl _) _).alloc (by simp) _
  have hC1 : RowAt w1 w.heap.size [.int .i64 fr, .int .i64 sl, .int .i64 mv] := by rw [hw1]; exact (RowAt.new _ [.int .i64 fr, .int .i64 sl, .int .i64 mv] (by simp) _ rfl).alloc _
  have hS1 : RowAt w1 (w.heap.size + 1) [.int .i64 (n : Int), .slice (some ⟨dg, 0, none⟩) N dc, .slice (some ⟨fg, 0, none⟩) (edgesN n).length fc] := by rw [hw1]; exact RowAt.new _ [.int .i64 (n : Int), .slice (some ⟨dg, 0, none⟩) N dc, .slice (some ⟨fg, 0, none⟩) (edgesN n).length fc] (by simp) _ (by simp)
  have HSc := Lib.hid (fun w' => rscheme_any fr sl mv w')
  have HMv : Hid (1 ≤ mv ∧ mv ≤ 4) := by unfold Hid; simp [outB, outV] at hsc; omega
  rw [hsc, show errB false = (.int .i64 0 : Value) from rfl] at HSc
  have HCk := Lib.hid (fun w' (h1 : OwnI w' B0 (.slice (some ⟨dg, 0, none⟩) N dc) D) (h2 : OwnI w' B0 (.slice (some ⟨fg, 0, none⟩) (edgesN n).length fc) F) => rcheck_any n hn _ _ D F B0 w' hok h1 h2)
  unfold stv at HCk
  have HEd := Lib.hid (fun w' => edges_n n hn w')
  have HDe := Lib.hid (fun w' => rdegrees_any n hn w')
  have HO1 := Lib.hid (And.intro (hd.below hb1) (hf.below hb1))
  have HR1 := Lib.hid (And.intro hC1 hS1)
  have HI1 := Lib.hid (And.intro (hd5.of_block (hb1.block _ hd2)) (And.intro (hf5.of_block (hb1.block _ hf2)) (And.intro (show dg < w1.heap.size from Nat.lt_of_lt_of_le hd2 hb1.size) (show fg < w1.heap.size from Nat.lt_of_lt_of_le hf2 hb1.size))))
  have HB1 := Lib.hid hb1
  have Hw1 := Lib.hid hw1
  have HGb := Lib.hid hgb
  have HE1 := Lib.hid hE1
  have HL := Lib.hid (And.intro hDl (And.intro hFl (And.intro hGl hN0)))
  have HOk := Lib.hid hok
  have HNN := Lib.hid hN
  have HPos := Lib.hid hpos
  unfold stv
  clear hd hf hok hsc hb1 hC1 hS1 hw1 hgb hE1 hDl hFl hGl hN hd1 hd2 hd5 hf1 hf2 hf5 hN0
  obtain ⟨M, hM⟩ : ∃ M, M = (edgesN n).length := ⟨_, rfl⟩
  rw [← hM] at hM9 hf3 HCk HO1 HR1 Hw1 ⊢
  have HM := Lib.hid hM
  clear hM hpos
  go_enter Tryz.func76, Tryz.ntmps76
  go_upto_region 1 with fail
  rw [← Hw1.out]
  have c0 := HR1.out.1.at 0 rfl
  have c1 := HR1.out.1.at 1 rfl
  have c2 := HR1.out.1.at 2 rfl
  go_wp2_with fail
  refine (HSc.out _).mono ?_
  rintro e w2 ⟨rfl, hb2⟩
  have HO2 := Lib.hid (And.intro (HO1.out.1.below hb2) (HO1.out.2.below hb2))
  have HR2 := Lib.hid (And.intro (HR1.out.1.below hb2) (HR1.out.2.below hb2))
  have HB2 := Lib.hid (below_then HB1.out hb2)
  have HB2' := Lib.hid hb2
  have s0 := HR2.out.2.at 0 rfl
  have s1 := HR2.out.2.at 1 rfl
  have s2 := HR2.out.2.at 2 rfl
  clear hb2 c0 c1 c2 HO1 HR1 HB1
  go_wp2_with fail
  refine (HCk.out _ HO2.out.1 HO2.out.2).mono ?_
  rintro e w3 ⟨rfl, hb3⟩
  have HR3 := Lib.hid (And.intro (HR2.out.1.below hb3) (HR2.out.2.below hb3))
  have HB3 := Lib.hid (below_then HB2.out hb3)
  have HB3' := Lib.hid (below_then HB2'.out hb3)
  have t0 := HR3.out.2.at 0 rfl
  clear hb3 s0 s1 s2 HO2 HR2 HB2 HB2'
  go_wp2_with fail
  refine (HEd.out _).mono ?_
  rintro e w4 ⟨ev, rfl, hE, hb4⟩
  obtain ⟨eg, ecap, rfl, he1, he2, he3, he4, he5⟩ := hE.eat HPos.out
  rw [← HM.out] at he3 ⊢
  have HR4 := Lib.hid (And.intro (HR3.out.1.below hb4) (HR3.out.2.below hb4))
  have HB4 := Lib.hid (below_then HB3.out hb4)
  have HB4' := Lib.hid (below_then HB3'.out hb4)
  have HEa4 := Lib.hid (And.intro he5 he2)
  have u0 := HR4.out.2.at 0 rfl
  clear hb4 t0 HR3 HB3 HB3' hE he1 he2 he5
  go_wp2_with fail
  refine (HDe.out _).mono ?_
  rintro e w5 ⟨gv, rfl, hG, hb5⟩
  obtain ⟨gg, gc, rfl, hg1, hg2, hg3, hg4, hg5⟩ := hG.iat (by rw [HL.out.2.2.1]; exact HL.out.2.2.2)
  rw [HL.out.2.2.1] at hg3 ⊢
  have HR5 := Lib.hid (And.intro (HR4.out.1.below hb5) (HR4.out.2.below hb5))
  have HB5 := Lib.hid (below_then HB4.out hb5)
  have HB5' := Lib.hid (below_then HB4'.out hb5)
  have HEa5 := Lib.hid (And.intro (HEa4.out.1.of_block (hb5.block _ HEa4.out.2)) (Nat.lt_of_lt_of_le HEa4.out.2 hb5.size))
  have HG5 := Lib.hid (And.intro hg5 hg2)
  have HI5 := Lib.hid (And.intro (HI1.out.1.of_block (HB5'.out.block _ HI1.out.2.2.1)) (And.intro (HI1.out.2.1.of_block (HB5'.out.block _ HI1.out.2.2.2)) (And.intro (Nat.lt_of_lt_of_le HI1.out.2.2.1 HB5'.out.size) (Nat.lt_of_lt_of_le HI1.out.2.2.2 HB5'.out.size))))
  clear hb5 u0 HR4 HB4 HB4' HB5' HEa4 hG hg1 hg2 hg5 HI1
  have HS0 : Hid (Am w5 w5 (.slice none 0 0) (.slice none 0 0) ((amtN n mv D F).take 0) []) := ⟨⟨OwnI.nil _ _, OwnI.nil _ _, fun g h => by simp [Value.ownBlock] at h, Nat.le_refl _⟩, Below.refl _ _⟩
  go_wp2_with fail
  go_loopw [13, 14, 15] (fun av bv kv wr => ∃ c : Nat, c ≤ M ∧ kv = .int .i64 c ∧ ∃ xa xn xc ya yn yc, av = .slice xa xn xc ∧ bv = .slice ya yn yc ∧ Hid (∃ bl, Am w5 wr (.slice xa xn xc) (.slice ya yn yc) ((amtN n mv D F).take c) bl ∧ bl.length = c)) (fun _ _ kv _ => (100000 - intOf kv).toNat)
  case atStart => exact ⟨0, by omega, rfl, _, _, _, _, _, _, rfl, rfl, _, HS0.out, rfl⟩
  case round =>
    clear HS0
    obtain ⟨c, hc, rfl, xa, xl, xc, ya, yl, yc, rfl, rfl, hs⟩ := hrel
    by_cases hlt : c < M
    · have c0 : (c : Int) < (M : Int) := by omega
      have hcl : c < (edgesN n).length := by rw [← HM.out]; exact hlt
      obtain ⟨bl, hA, hbl⟩ := hs.out
      have he := HE1.out _ (List.getElem_mem hcl)
      have hec := (HEa5.out.1.of_block (hA.be.block _ HEa5.out.2)) c hcl
      obtain ⟨hec1, hec2⟩ := hec
      have hIx : ((edgesN n)[c].1 < N ∧ (edgesN n)[c].2 < N) := by omega
      have hgx := (HGb.out (edgesN n)[c].1 (by intro e he; simp; have := (HE1.out e he).2; have := HNN.out; omega)).2.2 ⟨⟨c, hcl⟩, List.mem_finRange _, Or.inl rfl⟩
      have hgy := (HGb.out (edgesN n)[c].2 (by intro e he; simp; have := (HE1.out e he).2; have := HNN.out; omega)).2.2 ⟨⟨c, hcl⟩, List.mem_finRange _, Or.inr rfl⟩
      have hz : ∀ b, (List.replicate (10 * n * n + 2) (0 : Int)).getD b 0 = 0 := fun b => by simp [List.getD_eq_getElem?_getD, List.getElem?_replicate]; split <;> rfl
      rw [hz] at hgx hgy
      have hAm : amtI n mv D F ⟨c, hcl⟩ = amt1 (shrI (F.getD c 0) mv) (qAt D (degN n) (edgesN n)[c].1) (qAt D (degN n) (edgesN n)[c].2) := rfl
      have htk := amtN_take (mv := mv) (D := D) (F := F) hcl
      rw [hAm] at htk
      generalize (edgesN n)[c].1 = xn at *
      generalize (edgesN n)[c].2 = yn at *
      have hxl : xn < D.length := by rw [HL.out.1]; omega
      have hyl : yn < D.length := by rw [HL.out.1]; omega
      have hxg : xn < (degN n).length := by rw [HL.out.2.2.1]; omega
      have hyg : yn < (degN n).length := by rw [HL.out.2.2.1]; omega
      have hfl : c < F.length := by rw [HL.out.2.1]; exact hcl
      have hcd1 := (HI5.out.1.of_block (hA.be.block _ HI5.out.2.2.1)) xn hxl
      have hcd2 := (HI5.out.1.of_block (hA.be.block _ HI5.out.2.2.1)) yn hyl
      have hcf := (HI5.out.2.1.of_block (hA.be.block _ HI5.out.2.2.2)) c hfl
      have hcg1 := (HG5.out.1.of_block (hA.be.block _ HG5.out.2)) xn hxg
      have hcg2 := (HG5.out.1.of_block (hA.be.block _ HG5.out.2)) yn hyg
      have gd : ∀ (L : List Int) (i : Nat) (h : i < L.length), L.getD i 0 = L[i] := fun L i h => by rw [List.getD_eq_getElem?_getD, List.getElem?_eq_getElem h]; rfl
      have hbd1 := HOk.out.dr _ (List.getElem_mem hxl)
      have hbd2 := HOk.out.dr _ (List.getElem_mem hyl)
      have hbf := HOk.out.fr _ (List.getElem_mem hfl)
      unfold qAt at htk
      rw [gd _ _ hxl, gd _ _ hyl, gd _ _ hxg, gd _ _ hyg, gd _ _ hfl] at htk
      have hgx' : 1 ≤ (degN n)[xn] := by rw [← gd _ _ hxg]; unfold degN; omega
      have hgy' : 1 ≤ (degN n)[yn] := by rw [← gd _ _ hyg]; unfold degN; omega
      generalize D[xn] = d1 at *
      generalize D[yn] = d2 at *
      generalize (degN n)[xn] = g1 at *
      generalize (degN n)[yn] = g2 at *
      generalize F[c] = f1 at *
      have HS14 : Hid (S14 (w.heap.size + 1) w.heap.size eg dg gg fg n xn yn c (.slice (some ⟨dg, 0, none⟩) N dc) (.slice (some ⟨fg, 0, none⟩) M fc) fr sl mv d1 d2 g1 g2 f1 wr) :=
        ⟨HR5.out.2.below hA.be, HR5.out.1.below hA.be, hec1, hec2, hcd1, hcd2, hcg1, hcg2, hcf⟩
      have hwt := shrI_bnd (s := mv) hbf.1 hbf.2
      have hla := tdiv_bnd hbd1.1 hbd1.2 hgx'
      have hlb := tdiv_bnd hbd2.1 hbd2.2 hgy'
      have hmx : ∀ x, shrI x mv = x.fdiv (2 ^ (min mv.toNat 64)) := fun x => rfl
      have HMx := Lib.hid hmx
      obtain ⟨wt, hwe⟩ : ∃ x, x = shrI f1 mv := ⟨_, rfl⟩
      obtain ⟨la, hle⟩ : ∃ x, x = d1.tdiv g1 := ⟨_, rfl⟩
      obtain ⟨lb, hlbe⟩ : ∃ x, x = d2.tdiv g2 := ⟨_, rfl⟩
      rw [← hwe, ← hle, ← hlbe] at htk
      rw [← hwe] at hwt
      rw [← hle] at hla
      rw [← hlbe] at hlb
      have HIx : Hid ((xn : Int) < (N : Int) ∧ (yn : Int) < (N : Int) ∧ (c : Int) < (M : Int)) := ⟨by omega, by omega, c0⟩
      have HWe : Hid (shrI f1 mv = wt ∧ d1.tdiv g1 = la ∧ d2.tdiv g2 = lb) := ⟨hwe.symm, hle.symm, hlbe.symm⟩
      have HGe : Hid (¬ g1 = 0 ∧ ¬ g2 = 0) := ⟨by omega, by omega⟩
      have HWr : Hid (IntKind.i64.wrap la = la ∧ IntKind.i64.wrap lb = lb) := ⟨IntWalk.i64_in la (by omega), IntWalk.i64_in lb (by omega)⟩
      have HTk := Lib.hid htk
      have HA := Lib.hid (And.intro hA hbl)
      have hlc : ((amtN n mv D F).take c).length = c := by rw [List.length_take]; unfold amtN; rw [List.length_map, List.length_finRange]; omega
      have HLc := Lib.hid hlc
      clear hcl hs hA hbl he hec1 hec2 hIx hgx hgy hz hAm htk hxl hyl hxg hyg hfl hcd1 hcd2 hcf hcg1 hcg2 gd hbd1 hbd2 hbf hgx' hgy' hmx hwe hle hlbe hlc
      go_upto_region 14 with fail
      refine wp_region_seq (by kernel_rfl) (S14 (w.heap.size + 1) w.heap.size eg dg gg fg n xn yn c (.slice (some ⟨dg, 0, none⟩) N dc) (.slice (some ⟨fg, 0, none⟩) M fc) fr sl mv d1 d2 g1 g2 f1) [(0, true), (1, true), (2, true), (3, true), (4, true), (5, true), (6, true), (7, true), (8, true), (9, true), (10, true)] (by kernel_rfl) (HS14.out.below (Below.refl _ _).drew) ?_
      refine seq_q (d := some 48) rfl rfl rfl (.pointer (some ⟨w.heap.size + 1, 2, none⟩)) (fun w hw => by go_simp) ?_
      simp only [ap_s, ap_n, ls_z, ls_s]
      refine seq_q (d := some 49) rfl rfl rfl (.slice (some ⟨fg, 0, none⟩) M fc) (fun w hw => by have c := hw.s.at 2 rfl; simp [execOp, Act.eval, go_sem, c]) ?_
      simp only [ap_s, ap_n, ls_z, ls_s]
      refine seq_q (d := some 50) rfl rfl rfl (.int .i64 (c : Int)) (fun w hw => rfl) ?_
      simp only [ap_s, ap_n, ls_z, ls_s]
      refine seq_q (d := some 51) rfl rfl rfl (.pointer (some ⟨fg, c, none⟩)) (fun w hw => by obtain ⟨i1, i2, i3⟩ := HIx.out; simp [execOp, Act.eval, go_sem, i1, i2, i3]) ?_
      simp only [ap_s, ap_n, ls_z, ls_s]
      refine seq_q (d := some 52) rfl rfl rfl (.int .i64 f1) (fun w hw => by have c := hw.f1; simp [execOp, Act.eval, go_sem, c]) ?_
      simp only [ap_s, ap_n, ls_z, ls_s]
      refine seq_q (d := some 53) rfl rfl rfl (.pointer (some ⟨w.heap.size, 2, none⟩)) (fun w hw => by go_simp) ?_
      simp only [ap_s, ap_n, ls_z, ls_s]
      refine seq_q (d := some 54) rfl rfl rfl (.int .i64 mv) (fun w hw => by have c := hw.c.at 2 rfl; simp [execOp, Act.eval, go_sem, c]) ?_
      simp only [ap_s, ap_n, ls_z, ls_s]
      refine seq_q (d := some 55) rfl rfl rfl (.int .u64 mv) (fun w hw => by have h : IntKind.u64.wrap mv = mv := (by rw [IntKind.wrap_u64]; have := HMv.out; omega); simp [execOp, Act.eval, go_sem, h]) ?_
      simp only [ap_s, ap_n, ls_z, ls_s]
      refine seq_q (d := some 56) rfl rfl rfl (.int .i64 wt) (fun w hw => by have h1 := HMx.out f1; have h2 : ¬ mv < 0 := (by have := HMv.out; omega); rw [HWe.out.1] at h1; simp [execOp, Act.eval, go_sem, Op.shift, h1, h2]) ?_
      simp only [ap_s, ap_n, ls_z, ls_s]
      refine seq_q (d := some 16) rfl rfl rfl (.int .i64 wt) (fun w hw => rfl) ?_
      simp only [ap_s, ap_n, ls_z, ls_s]
      refine seq_q (d := some 17) rfl rfl rfl (.int .i64 0) (fun w hw => rfl) ?_
      simp only [ap_s, ap_n, ls_z, ls_s]
      refine seq_end ?_
      go_upto_region 15 with fail
      refine wp_region_seq (by kernel_rfl) (S14 (w.heap.size + 1) w.heap.size eg dg gg fg n xn yn c (.slice (some ⟨dg, 0, none⟩) N dc) (.slice (some ⟨fg, 0, none⟩) M fc) fr sl mv d1 d2 g1 g2 f1) [(0, true), (1, true), (2, true), (3, true), (4, true), (5, true), (6, true), (7, true), (8, true), (9, true), (10, true), (11, true), (12, true), (13, true), (14, true), (15, true), (16, true), (17, true), (18, true), (19, true), (20, true), (21, true), (22, true), (23, true), (24, true), (25, true), (26, true), (27, true), (28, true), (29, true), (30, true), (31, true), (32, true), (33, true), (34, true), (35, true), (36, true), (37, true)] (by kernel_rfl) ((HS14.out.below (Below.refl _ _).drew).below (Below.refl _ _).drew) ?_
      refine seq_q (d := some 57) rfl rfl rfl (.pointer (some ⟨w.heap.size + 1, 1, none⟩)) (fun w hw => by go_simp) ?_
      simp only [ap_s, ap_n, ls_z, ls_s]
      refine seq_q (d := some 58) rfl rfl rfl (.slice (some ⟨dg, 0, none⟩) N dc) (fun w hw => by have c := hw.s.at 1 rfl; simp [execOp, Act.eval, go_sem, c]) ?_
      simp only [ap_s, ap_n, ls_z, ls_s]
      refine seq_q (d := some 59) rfl rfl rfl (.slice (some ⟨eg, 0, none⟩) M ecap) (fun w hw => rfl) ?_
      simp only [ap_s, ap_n, ls_z, ls_s]
      refine seq_q (d := some 60) rfl rfl rfl (.int .i64 (c : Int)) (fun w hw => rfl) ?_
      simp only [ap_s, ap_n, ls_z, ls_s]
      refine seq_q (d := some 61) rfl rfl rfl (.pointer (some ⟨eg, c * 2, none⟩)) (fun w hw => by obtain ⟨i1, i2, i3⟩ := HIx.out; simp [execOp, Act.eval, go_sem, i1, i2, i3]) ?_
      simp only [ap_s, ap_n, ls_z, ls_s]
      refine seq_q (d := some 62) rfl rfl rfl (.pointer (some ⟨eg, c * 2, none⟩)) (fun w hw => by simp [execOp, Act.eval, go_sem]) ?_
      simp only [ap_s, ap_n, ls_z, ls_s]
      refine seq_q (d := some 63) rfl rfl rfl (.int .i64 (xn : Int)) (fun w hw => by have c := hw.e1; simp [execOp, Act.eval, go_sem, c]) ?_
      simp only [ap_s, ap_n, ls_z, ls_s]
      refine seq_q (d := some 64) rfl rfl rfl (.pointer (some ⟨dg, xn, none⟩)) (fun w hw => by obtain ⟨i1, i2, i3⟩ := HIx.out; simp [execOp, Act.eval, go_sem, i1, i2, i3]) ?_
      simp only [ap_s, ap_n, ls_z, ls_s]
      refine seq_q (d := some 65) rfl rfl rfl (.int .i64 d1) (fun w hw => by have c := hw.d1; simp [execOp, Act.eval, go_sem, c]) ?_
      simp only [ap_s, ap_n, ls_z, ls_s]
      refine seq_q (d := some 66) rfl rfl rfl (.slice (some ⟨gg, 0, none⟩) N gc) (fun w hw => rfl) ?_
      simp only [ap_s, ap_n, ls_z, ls_s]
      refine seq_q (d := some 67) rfl rfl rfl (.slice (some ⟨eg, 0, none⟩) M ecap) (fun w hw => rfl) ?_
      simp only [ap_s, ap_n, ls_z, ls_s]
      refine seq_q (d := some 68) rfl rfl rfl (.int .i64 (c : Int)) (fun w hw => rfl) ?_
      simp only [ap_s, ap_n, ls_z, ls_s]
      refine seq_q (d := some 69) rfl rfl rfl (.pointer (some ⟨eg, c * 2, none⟩)) (fun w hw => by obtain ⟨i1, i2, i3⟩ := HIx.out; simp [execOp, Act.eval, go_sem, i1, i2, i3]) ?_
      simp only [ap_s, ap_n, ls_z, ls_s]
      refine seq_q (d := some 70) rfl rfl rfl (.pointer (some ⟨eg, c * 2, none⟩)) (fun w hw => by simp [execOp, Act.eval, go_sem]) ?_
      simp only [ap_s, ap_n, ls_z, ls_s]
      refine seq_q (d := some 71) rfl rfl rfl (.int .i64 (xn : Int)) (fun w hw => by have c := hw.e1; simp [execOp, Act.eval, go_sem, c]) ?_
      simp only [ap_s, ap_n, ls_z, ls_s]
      refine seq_q (d := some 72) rfl rfl rfl (.pointer (some ⟨gg, xn, none⟩)) (fun w hw => by obtain ⟨i1, i2, i3⟩ := HIx.out; simp [execOp, Act.eval, go_sem, i1, i2, i3]) ?_
      simp only [ap_s, ap_n, ls_z, ls_s]
      refine seq_q (d := some 73) rfl rfl rfl (.int .i64 g1) (fun w hw => by have c := hw.g1; simp [execOp, Act.eval, go_sem, c]) ?_
      simp only [ap_s, ap_n, ls_z, ls_s]
      refine seq_q (d := some 74) rfl rfl rfl (.int .i64 la) (fun w hw => by obtain ⟨k1, k2⟩ := HGe.out; obtain ⟨k3, k4, k5⟩ := HWe.out; obtain ⟨k6, k7⟩ := HWr.out; simp [execOp, Act.eval, go_sem, k1, k2, k4, k5, k6, k7]) ?_
      simp only [ap_s, ap_n, ls_z, ls_s]
      refine seq_q (d := some 75) rfl rfl rfl (.pointer (some ⟨w.heap.size + 1, 1, none⟩)) (fun w hw => by go_simp) ?_
      simp only [ap_s, ap_n, ls_z, ls_s]
      refine seq_q (d := some 76) rfl rfl rfl (.slice (some ⟨dg, 0, none⟩) N dc) (fun w hw => by have c := hw.s.at 1 rfl; simp [execOp, Act.eval, go_sem, c]) ?_
      simp only [ap_s, ap_n, ls_z, ls_s]
      refine seq_q (d := some 77) rfl rfl rfl (.slice (some ⟨eg, 0, none⟩) M ecap) (fun w hw => rfl) ?_
      simp only [ap_s, ap_n, ls_z, ls_s]
      refine seq_q (d := some 78) rfl rfl rfl (.int .i64 (c : Int)) (fun w hw => rfl) ?_
      simp only [ap_s, ap_n, ls_z, ls_s]
      refine seq_q (d := some 79) rfl rfl rfl (.pointer (some ⟨eg, c * 2, none⟩)) (fun w hw => by obtain ⟨i1, i2, i3⟩ := HIx.out; simp [execOp, Act.eval, go_sem, i1, i2, i3]) ?_
      simp only [ap_s, ap_n, ls_z, ls_s]
      refine seq_q (d := some 80) rfl rfl rfl (.pointer (some ⟨eg, c * 2 + 1, none⟩)) (fun w hw => by simp [execOp, Act.eval, go_sem]) ?_
      simp only [ap_s, ap_n, ls_z, ls_s]
      refine seq_q (d := some 81) rfl rfl rfl (.int .i64 (yn : Int)) (fun w hw => by have c := hw.e2; simp [execOp, Act.eval, go_sem, c]) ?_
      simp only [ap_s, ap_n, ls_z, ls_s]
      refine seq_q (d := some 82) rfl rfl rfl (.pointer (some ⟨dg, yn, none⟩)) (fun w hw => by obtain ⟨i1, i2, i3⟩ := HIx.out; simp [execOp, Act.eval, go_sem, i1, i2, i3]) ?_
      simp only [ap_s, ap_n, ls_z, ls_s]
      refine seq_q (d := some 83) rfl rfl rfl (.int .i64 d2) (fun w hw => by have c := hw.d2; simp [execOp, Act.eval, go_sem, c]) ?_
      simp only [ap_s, ap_n, ls_z, ls_s]
      refine seq_q (d := some 84) rfl rfl rfl (.slice (some ⟨gg, 0, none⟩) N gc) (fun w hw => rfl) ?_
      simp only [ap_s, ap_n, ls_z, ls_s]
      refine seq_q (d := some 85) rfl rfl rfl (.slice (some ⟨eg, 0, none⟩) M ecap) (fun w hw => rfl) ?_
      simp only [ap_s, ap_n, ls_z, ls_s]
      refine seq_q (d := some 86) rfl rfl rfl (.int .i64 (c : Int)) (fun w hw => rfl) ?_
      simp only [ap_s, ap_n, ls_z, ls_s]
      refine seq_q (d := some 87) rfl rfl rfl (.pointer (some ⟨eg, c * 2, none⟩)) (fun w hw => by obtain ⟨i1, i2, i3⟩ := HIx.out; simp [execOp, Act.eval, go_sem, i1, i2, i3]) ?_
      simp only [ap_s, ap_n, ls_z, ls_s]
      refine seq_q (d := some 88) rfl rfl rfl (.pointer (some ⟨eg, c * 2 + 1, none⟩)) (fun w hw => by simp [execOp, Act.eval, go_sem]) ?_
      simp only [ap_s, ap_n, ls_z, ls_s]
      refine seq_q (d := some 89) rfl rfl rfl (.int .i64 (yn : Int)) (fun w hw => by have c := hw.e2; simp [execOp, Act.eval, go_sem, c]) ?_
      simp only [ap_s, ap_n, ls_z, ls_s]
      refine seq_q (d := some 90) rfl rfl rfl (.pointer (some ⟨gg, yn, none⟩)) (fun w hw => by obtain ⟨i1, i2, i3⟩ := HIx.out; simp [execOp, Act.eval, go_sem, i1, i2, i3]) ?_
      simp only [ap_s, ap_n, ls_z, ls_s]
      refine seq_q (d := some 91) rfl rfl rfl (.int .i64 g2) (fun w hw => by have c := hw.g2; simp [execOp, Act.eval, go_sem, c]) ?_
      simp only [ap_s, ap_n, ls_z, ls_s]
      refine seq_q (d := some 92) rfl rfl rfl (.int .i64 lb) (fun w hw => by obtain ⟨k1, k2⟩ := HGe.out; obtain ⟨k3, k4, k5⟩ := HWe.out; obtain ⟨k6, k7⟩ := HWr.out; simp [execOp, Act.eval, go_sem, k1, k2, k4, k5, k6, k7]) ?_
      simp only [ap_s, ap_n, ls_z, ls_s]
      refine seq_q (d := some 18) rfl rfl rfl (.int .i64 la) (fun w hw => rfl) ?_
      simp only [ap_s, ap_n, ls_z, ls_s]
      refine seq_q (d := some 19) rfl rfl rfl (.int .i64 lb) (fun w hw => rfl) ?_
      simp only [ap_s, ap_n, ls_z, ls_s]
      refine seq_end ?_
      have HB' : Hid (Below w5.heap.size w5 wr.drew.drew) := HA.out.1.be.drew.drew
      have hm := HA.out.1.m.drew.drew
      by_cases b1 : la < wt
      · obtain ⟨a1, n1, c1, w6, hr1, hm1, hb1⟩ := hm.app 34 34 Tryz.underlying34 (la) (by rw [HLc.out]; omega)
        obtain ⟨a2, n2, c2, w7, hr2, hm2, hb2⟩ := hm1.swap.app 106 106 Tryz.underlying106 (1) (by rw [HA.out.2]; omega)
        have HEnd : Hid (∃ bl, Am w5 w7 (.slice a1 n1 c1) (.slice a2 n2 c2) ((amtN n mv D F).take (c + 1)) bl ∧ bl.length = c + 1) := ⟨_, ⟨by rw [HTk.out, amt1, if_pos b1]; exact hm2.swap, (HB'.out.trans hb1).trans hb2⟩, by rw [List.length_append, HA.out.2]; rfl⟩
        have Hr1 := Lib.hid hr1
        have Hr2 := Lib.hid hr2
        clear hm hr1 hr2 hm1 hm2 hb1 hb2 HA HB' HS14 HTk HMx
        go_wp2_with (first
          | (refine wpList_append_run rfl _ _ _ rfl _ _ _ _ rfl rfl Hr1.out ?_)
          | (refine wpList_append_run rfl _ _ _ rfl _ _ _ _ rfl rfl Hr2.out ?_))
        refine ⟨⟨c + 1, by omega, by go_num, _, _, _, _, _, _, rfl, rfl, HEnd⟩, ?_⟩
        simp [intOf]; omega
      by_cases b2 : wt < -lb
      · obtain ⟨a1, n1, c1, w6, hr1, hm1, hb1⟩ := hm.app 34 34 Tryz.underlying34 (-lb) (by rw [HLc.out]; omega)
        obtain ⟨a2, n2, c2, w7, hr2, hm2, hb2⟩ := hm1.swap.app 106 106 Tryz.underlying106 (-1) (by rw [HA.out.2]; omega)
        have HEnd : Hid (∃ bl, Am w5 w7 (.slice a1 n1 c1) (.slice a2 n2 c2) ((amtN n mv D F).take (c + 1)) bl ∧ bl.length = c + 1) := ⟨_, ⟨by rw [HTk.out, amt1, if_neg b1, if_pos b2]; exact hm2.swap, (HB'.out.trans hb1).trans hb2⟩, by rw [List.length_append, HA.out.2]; rfl⟩
        have Hr1 := Lib.hid hr1
        have Hr2 := Lib.hid hr2
        clear hm hr1 hr2 hm1 hm2 hb1 hb2 HA HB' HS14 HTk HMx
        go_wp2_with (first
          | (refine wpList_append_run rfl _ _ _ rfl _ _ _ _ rfl rfl Hr1.out ?_)
          | (refine wpList_append_run rfl _ _ _ rfl _ _ _ _ rfl rfl Hr2.out ?_))
        refine ⟨⟨c + 1, by omega, by go_num, _, _, _, _, _, _, rfl, rfl, HEnd⟩, ?_⟩
        simp [intOf]; omega
      · obtain ⟨a1, n1, c1, w6, hr1, hm1, hb1⟩ := hm.app 34 34 Tryz.underlying34 (wt) (by rw [HLc.out]; omega)
        obtain ⟨a2, n2, c2, w7, hr2, hm2, hb2⟩ := hm1.swap.app 106 106 Tryz.underlying106 (0) (by rw [HA.out.2]; omega)
        have HEnd : Hid (∃ bl, Am w5 w7 (.slice a1 n1 c1) (.slice a2 n2 c2) ((amtN n mv D F).take (c + 1)) bl ∧ bl.length = c + 1) := ⟨_, ⟨by rw [HTk.out, amt1, if_neg b1, if_neg b2]; exact hm2.swap, (HB'.out.trans hb1).trans hb2⟩, by rw [List.length_append, HA.out.2]; rfl⟩
        have Hr1 := Lib.hid hr1
        have Hr2 := Lib.hid hr2
        clear hm hr1 hr2 hm1 hm2 hb1 hb2 HA HB' HS14 HTk HMx
        go_wp2_with (first
          | (refine wpList_append_run rfl _ _ _ rfl _ _ _ _ rfl rfl Hr1.out ?_)
          | (refine wpList_append_run rfl _ _ _ rfl _ _ _ _ rfl rfl Hr2.out ?_))
        refine ⟨⟨c + 1, by omega, by go_num, _, _, _, _, _, _, rfl, rfl, HEnd⟩, ?_⟩
        simp [intOf]; omega
    · obtain rfl : c = M := by omega
      obtain ⟨bl, hA, hbl⟩ := hs.out
      have hO := hA.m.oa
      rw [HM.out, List.take_of_length_le (by unfold amtN; simp)] at hO
      have HEnd := Lib.hid (And.intro (hO.mono HB5.out.size) (And.intro (hA.m.ob.mono HB5.out.size) (HB5.out.trans (hA.be.mono HB5.out.size))))
      clear hs hA hO hbl
      go_wp2_with fail
      go_ret3
      exact ⟨_, _, _, rfl, HEnd.out.1, HEnd.out.2.1, HEnd.out.2.2⟩
end Go.Proofs.YtkpgciimhjkajaaGreatDoor
/- The reference's model: Slopes. -/
namespace Go.Proofs.YtkpgciimhjkajaaGreatDoor
open Go Go.RowKit
structure S9 (sb eg dg n xn yn i : Nat) (dv fv : Value) (d1 d2 : Int) (w : World) : Prop where
  s : RowAt w sb [.int .i64 (n : Int), dv, fv]
  e1 : w.cell? ⟨eg, i * 2, none⟩ = some (.int .i64 (xn : Int))
  e2 : w.cell? ⟨eg, i * 2 + 1, none⟩ = some (.int .i64 (yn : Int))
  d1 : w.cell? ⟨dg, xn, none⟩ = some (.int .i64 d1)
  d2 : w.cell? ⟨dg, yn, none⟩ = some (.int .i64 d2)
theorem S9.below {sb eg dg n xn yn i : Nat} {dv fv : Value} {d1 d2 : Int} {w w' : World} (h : S9 sb eg dg n xn yn i dv fv d1 d2 w) (hb : Below w.heap.size w w') : S9 sb eg dg n xn yn i dv fv d1 d2 w' :=
  ⟨h.s.below hb, cell_then hb h.e1, cell_then hb h.e2, cell_then hb h.d1, cell_then hb h.d2⟩
set_option maxRecDepth 100000 in
set_option maxHeartbeats 16000000 in
theorem rslopes_any (n : Nat) (hn : Fq n) (dv fv : Value) (D F : List Int) (B0 : Nat) (w : World) (hok : SOk n D F) (hd : OwnI w B0 dv D) (hf : OwnI w B0 fv F) :
    Calls Tryz.prog 75 #[stv n dv fv] w fun e w' => ∃ v, e = .returned (.tuple #[v, .int .i64 0]) ∧ OwnI w' w.heap.size v (slN n D) ∧ Below w.heap.size w w' := by
  obtain ⟨w1, hw1⟩ : ∃ u, u = w.alloc (.cells #[.int .i64 (n : Int), dv, fv] 36) := ⟨_, rfl⟩
  have hb1 : Below w.heap.size w w1 := by rw [hw1]; exact (Below.refl _ _).alloc (Nat.le_refl _) _
  have hS1 : RowAt w1 w.heap.size [.int .i64 (n : Int), dv, fv] := by rw [hw1]; exact RowAt.new _ [.int .i64 (n : Int), dv, fv] (by simp) _ rfl
  have HCk := Lib.hid (rcheck_any n hn dv fv D F B0 w1 hok (hd.below hb1) (hf.below hb1))
  have HFix := Lib.hid (And.intro hn hok)
  have HD1 := Lib.hid (hd.below hb1)
  have HB1 := Lib.hid hb1
  have Hw1 := Lib.hid hw1
  have HS1 := Lib.hid hS1
  clear hn hok hb1 hw1
  obtain ⟨da, dn, dc, rfl⟩ : ∃ a m c, dv = .slice a m c := by obtain ⟨a, c, h⟩ := hd.slice; exact ⟨a, _, c, h⟩
  obtain ⟨fa, fn, fc, rfl⟩ : ∃ a m c, fv = .slice a m c := by obtain ⟨a, c, h⟩ := hf.slice; exact ⟨a, _, c, h⟩
  have c0 := hS1.at 0 rfl
  have c1 := hS1.at 1 rfl
  have c2 := hS1.at 2 rfl
  clear hd hf hS1
  unfold stv
  go_enter Tryz.func75, Tryz.ntmps75
  go_upto_region 1 with fail
  rw [← Hw1.out]
  go_wp2_with fail
  clear c0 c1 c2
  refine HCk.out.mono ?_
  rintro e w2 ⟨rfl, hb2⟩
  have HS2 := Lib.hid (HS1.out.below hb2)
  have HB2 := Lib.hid (below_then HB1.out hb2)
  have HD2 := Lib.hid (HD1.out.below hb2)
  have HEd := Lib.hid (edges_n n HFix.out.1 w2)
  have c0 := HS2.out.at 0 rfl
  clear hb2 HS1 HB1 HD1 HCk
  go_wp2_with fail
  refine HEd.out.mono ?_
  rintro e w3 ⟨ev, rfl, hE, hb3⟩
  obtain ⟨g, ec, rfl, _, hg3, hcp, hcm, hEA⟩ := hE.eat (edgesN_pos HFix.out.1)
  obtain ⟨en, hen⟩ : ∃ x, x = (edgesN n).length := ⟨_, rfl⟩
  rw [← hen] at hcp ⊢
  have HS3 := Lib.hid (HS2.out.below hb3)
  have HB3 := Lib.hid (below_then HB2.out hb3)
  have HD3 := Lib.hid (HD2.out.below hb3)
  have HE := Lib.hid (And.intro hEA (And.intro hen hg3))
  clear hb3 HS2 HB2 HD2 HEd c0 hE hen hEA hg3
  go_wp2_with fail
  go_loopw [7, 8] (fun av kv wr => ∃ (c : Nat) (v : Value), v = av ∧ c ≤ en ∧ kv = .int .i64 c ∧ Hid (OwnI wr w3.heap.size v ((slN n D).take c) ∧ Below w3.heap.size w3 wr)) (fun _ kv _ => (10000 - intOf kv).toNat)
  case atStart => exact ⟨0, _, rfl, by omega, rfl, OwnI.nil _ _, Below.refl _ _⟩
  case round =>
    obtain ⟨c, v, rfl, hc, rfl, hs⟩ := hrel
    by_cases hlt : c < en
    · have c0 : (c : Int) < (en : Int) := by omega
      have hcl : c < (edgesN n).length := by rw [← HE.out.2.1]; exact hlt
      have c9 : (c : Int) ≤ 9000 := by have := edgesN_le HFix.out.1; omega
      have hE2 := edgesN_ok HFix.out.1 _ (List.getElem_mem hcl)
      have HStp := Lib.hid (slN_take (D := D) hcl)
      obtain ⟨xn, hxn⟩ : ∃ x, x = (edgesN n)[c].1 := ⟨_, rfl⟩
      obtain ⟨yn, hyn⟩ : ∃ x, x = (edgesN n)[c].2 := ⟨_, rfl⟩
      rw [← hxn, ← hyn] at HStp
      have hg3 := HE.out.2.2
      have hx : wr.cell? ⟨g, c * 2, none⟩ = some (.int .i64 (xn : Int)) := by rw [hs.out.2.cell (p := ⟨g, c * 2, none⟩) hg3, hxn]; exact (HE.out.1 c hcl).1
      have hy : wr.cell? ⟨g, c * 2 + 1, none⟩ = some (.int .i64 (yn : Int)) := by rw [hs.out.2.cell (p := ⟨g, c * 2 + 1, none⟩) hg3, hyn]; exact (HE.out.1 c hcl).2
      rw [← hxn, ← hyn] at hE2
      have hdl := HFix.out.2.dl
      obtain ⟨dg, _, ed, _, hdg, hdcp, hdm, hDa⟩ := HD3.out.iat (by omega)
      obtain ⟨rfl, hdn, hdc⟩ : da = some ⟨dg, 0, none⟩ ∧ dn = D.length ∧ _ := by injection ed with e1 e2 e3; exact ⟨e1, e2, e3⟩
      subst hdc
      have hxl : xn < D.length := by omega
      have hyl : yn < D.length := by omega
      have hgd : ∀ (l : List Int) (k : Nat) (h : k < l.length), l.getD k 0 = l[k] := fun l k h => by rw [List.getD_eq_getElem?_getD, List.getElem?_eq_getElem h]; rfl
      rw [hgd _ _ hxl, hgd _ _ hyl] at HStp
      have b1 := HFix.out.2.dr _ (List.getElem_mem hxl)
      have b2 := HFix.out.2.dr _ (List.getElem_mem hyl)
      have q1 : wr.cell? ⟨dg, xn, none⟩ = some (.int .i64 D[xn]) := by rw [hs.out.2.cell (p := ⟨dg, xn, none⟩) hdg]; exact hDa xn hxl
      have q2 : wr.cell? ⟨dg, yn, none⟩ = some (.int .i64 D[yn]) := by rw [hs.out.2.cell (p := ⟨dg, yn, none⟩) hdg]; exact hDa yn hyl
      have HIx : Hid ((xn : Int) < (dn : Int) ∧ (yn : Int) < (dn : Int) ∧ (c : Int) < (en : Int)) := ⟨by omega, by omega, c0⟩
      have HBd : Hid (IntKind.i64.wrap (D[xn] - D[yn]) = D[xn] - D[yn]) := IntWalk.i64_in _ (by omega)
      have HLt : Hid (((slN n D).take c).length ≤ 1000000) := by unfold Hid; rw [List.length_take]; omega
      have Hdn := Lib.hid hdn
      have HO6 := Lib.hid (And.intro hs.out.1 hs.out.2)
      have HS6 : Hid (S9 w.heap.size g dg n xn yn c (.slice (some ⟨dg, 0, none⟩) dn dc) (.slice fa fn fc) D[xn] D[yn] wr) :=
        ⟨HS3.out.of_block (HO6.out.2.block _ HS3.out.lt), hx, hy, q1, q2⟩
      obtain ⟨v2, w9, hrun, hO9, hb9⟩ := append_i (HO6.out.1.below (Below.refl _ _).drew) (D[xn] - D[yn]) (by have := HLt.out; omega) (Nat.le_trans HO6.out.2.size (Nat.le_refl _)) 34
      rw [← HStp.out] at hO9
      have HApp := Lib.hid hrun
      have HEnd := Lib.hid (And.intro hO9 ((HO6.out.2.drew).trans hb9))
      generalize D[xn] = d1 at *
      generalize D[yn] = d2 at *
      clear hxn hyn hdn ed hrun hO9 hb9 q1 q2 b1 b2 hgd hxl hyl hdcp hdm hDa hdg hdl hx hy hg3 hE2 hs hcl HO6
      go_upto_region 9 with fail
      refine wp_region_seqL (by kernel_rfl) (S9 w.heap.size g dg n xn yn c (.slice (some ⟨dg, 0, none⟩) dn dc) (.slice fa fn fc) d1 d2) 21 [(0, 0), (1, 0), (2, 1), (3, 0), (4, 0), (5, 0), (6, 0), (7, 1), (8, 0), (9, 1), (10, 0), (11, 1), (12, 0), (13, 0), (14, 0), (15, 0), (16, 1), (17, 0), (18, 1), (19, 0), (20, 2), (21, 2), (22, 0)] (by kernel_rfl) (HS6.out.below (Below.refl _ _).drew) ?_
      refine sl_q (d := some 26) rfl rfl rfl (v) (fun w => rfl) ?_
      simp only [ap_s, ap_n, ls_z, ls_s]
      refine sl_q (d := some 27) rfl rfl rfl (.pointer (some ⟨w.heap.size, 1, none⟩)) (fun w => by go_simp) ?_
      simp only [ap_s, ap_n, ls_z, ls_s]
      refine sl_s (d := some 28) rfl rfl rfl (.slice (some ⟨dg, 0, none⟩) dn dc) (fun w hw => by have c := hw.s.at 1 rfl; simp [execOp, Act.eval, go_sem, c]) ?_
      simp only [ap_s, ap_n, ls_z, ls_s]
      refine sl_q (d := some 29) rfl rfl rfl (.slice (some ⟨g, 0, none⟩) en ec) (fun w => rfl) ?_
      simp only [ap_s, ap_n, ls_z, ls_s]
      refine sl_q (d := some 30) rfl rfl rfl (.int .i64 (c : Int)) (fun w => rfl) ?_
      simp only [ap_s, ap_n, ls_z, ls_s]
      refine sl_q (d := some 31) rfl rfl rfl (.pointer (some ⟨g, c * 2, none⟩)) (fun w => by obtain ⟨i1, i2, i3⟩ := HIx.out; simp [execOp, Act.eval, go_sem, i1, i2, i3]) ?_
      simp only [ap_s, ap_n, ls_z, ls_s]
      refine sl_q (d := some 32) rfl rfl rfl (.pointer (some ⟨g, c * 2, none⟩)) (fun w => by simp [execOp, Act.eval, go_sem]) ?_
      simp only [ap_s, ap_n, ls_z, ls_s]
      refine sl_s (d := some 33) rfl rfl rfl (.int .i64 (xn : Int)) (fun w hw => by have c := hw.e1; simp [execOp, Act.eval, go_sem, c]) ?_
      simp only [ap_s, ap_n, ls_z, ls_s]
      refine sl_q (d := some 34) rfl rfl rfl (.pointer (some ⟨dg, xn, none⟩)) (fun w => by obtain ⟨i1, i2, i3⟩ := HIx.out; simp [execOp, Act.eval, go_sem, i1, i2, i3]) ?_
      simp only [ap_s, ap_n, ls_z, ls_s]
      refine sl_s (d := some 35) rfl rfl rfl (.int .i64 d1) (fun w hw => by have c := hw.d1; simp [execOp, Act.eval, go_sem, c]) ?_
      simp only [ap_s, ap_n, ls_z, ls_s]
      refine sl_q (d := some 36) rfl rfl rfl (.pointer (some ⟨w.heap.size, 1, none⟩)) (fun w => by go_simp) ?_
      simp only [ap_s, ap_n, ls_z, ls_s]
      refine sl_s (d := some 37) rfl rfl rfl (.slice (some ⟨dg, 0, none⟩) dn dc) (fun w hw => by have c := hw.s.at 1 rfl; simp [execOp, Act.eval, go_sem, c]) ?_
      simp only [ap_s, ap_n, ls_z, ls_s]
      refine sl_q (d := some 38) rfl rfl rfl (.slice (some ⟨g, 0, none⟩) en ec) (fun w => rfl) ?_
      simp only [ap_s, ap_n, ls_z, ls_s]
      refine sl_q (d := some 39) rfl rfl rfl (.int .i64 (c : Int)) (fun w => rfl) ?_
      simp only [ap_s, ap_n, ls_z, ls_s]
      refine sl_q (d := some 40) rfl rfl rfl (.pointer (some ⟨g, c * 2, none⟩)) (fun w => by obtain ⟨i1, i2, i3⟩ := HIx.out; simp [execOp, Act.eval, go_sem, i1, i2, i3]) ?_
      simp only [ap_s, ap_n, ls_z, ls_s]
      refine sl_q (d := some 41) rfl rfl rfl (.pointer (some ⟨g, c * 2 + 1, none⟩)) (fun w => by simp [execOp, Act.eval, go_sem]) ?_
      simp only [ap_s, ap_n, ls_z, ls_s]
      refine sl_s (d := some 42) rfl rfl rfl (.int .i64 (yn : Int)) (fun w hw => by have c := hw.e2; simp [execOp, Act.eval, go_sem, c]) ?_
      simp only [ap_s, ap_n, ls_z, ls_s]
      refine sl_q (d := some 43) rfl rfl rfl (.pointer (some ⟨dg, yn, none⟩)) (fun w => by obtain ⟨i1, i2, i3⟩ := HIx.out; simp [execOp, Act.eval, go_sem, i1, i2, i3]) ?_
      simp only [ap_s, ap_n, ls_z, ls_s]
      refine sl_s (d := some 44) rfl rfl rfl (.int .i64 d2) (fun w hw => by have c := hw.d2; simp [execOp, Act.eval, go_sem, c]) ?_
      simp only [ap_s, ap_n, ls_z, ls_s]
      refine sl_q (d := some 45) rfl rfl rfl (.int .i64 (d1 - d2)) (fun w => by have c := HBd.out; simp [execOp, Act.eval, go_sem, c]) ?_
      simp only [ap_s, ap_n, ls_z, ls_s]
      refine sl_run (d := some 46) rfl rfl rfl (.slice (some ⟨wr.drew.heap.size, 0, none⟩) 1 1) (wr.drew.alloc (.cells #[.int .i64 (d1 - d2)] 3)) (by simp [execOp, Act.eval, go_sem, Instr.buildSlice]) (fun _ => (HS6.out.below (Below.refl _ _).drew).below ((Below.refl _ _).alloc (Nat.le_refl _) _)) ?_
      simp only [ap_s, ap_n, ls_z, ls_s]
      refine sl_run (d := some 47) rfl rfl rfl v2 w9 (run_append _ _ _ rfl _ _ rfl rfl HApp.out) (fun h => by cases h) ?_
      simp only [ap_s, ap_n, ls_z, ls_s]
      refine sl_q (d := some 7) rfl rfl rfl (v2) (fun w => rfl) ?_
      simp only [ap_s, ap_n, ls_z, ls_s]
      refine sl_end ?_
      go_wp2_with fail
      go_roundw
      case rel => exact ⟨c + 1, v2, rfl, by omega, by go_num, HEnd⟩
      case measure => simp [intOf]; omega
    · obtain rfl : c = en := by omega
      have HT : Hid (OwnI wr w3.heap.size v (slN n D) ∧ Below w3.heap.size w3 wr) := by
        have h := hs.out
        rw [HE.out.2.1, List.take_of_length_le (by simp [slN])] at h
        exact h
      clear hs
      go_wp2_with fail
      go_ret2
      exact ⟨v, rfl, HT.out.1.mono HB3.out.size, below_then HB3.out HT.out.2⟩
end Go.Proofs.YtkpgciimhjkajaaGreatDoor
