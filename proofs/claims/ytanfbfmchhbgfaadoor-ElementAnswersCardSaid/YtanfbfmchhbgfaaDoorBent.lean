/- bent of the law, and Text and Pick of synoptickeep: what they return is bounded, and only the reader and new memory is written. No conditions. -/
import Derived.Test.YtanfbfmchhbgfaaDoorRds
import Derived.Deep.RegionHeld3
namespace Go.Proofs.YtanfbfmchhbgfaaDoor
open Go Go.RowKit

/-- One of some strings. -/
def StrOf (ss : List ByteArray) (B b : Nat) (w : World) (e : Ending) (w' : World) : Prop := ∃ s ∈ ss, e = .returned (.string s) ∧ St w B b w'
theorem text_any (B b c : Nat) (ss : List ByteArray) (w : World) (h : ∃ l, SrcIs w B b l) (hc : c ≠ b) (h0 : 1 ≤ ss.length) (h1 : ss.length ≤ 1000) (hel : ∀ i, i < ss.length → w.cell? ⟨c, i, none⟩ = some (.string (ss.getD i ⟨#[]⟩))) :
    Calls Tryd.prog 31 #[.pointer (some ⟨b, 0, none⟩), .slice (some ⟨c, 0, none⟩) ss.length ss.length] w (StrOf ss B b w) := by
  have Hn := Lib.hid (n_ok B b ss.length w h (by omega) (by omega))
  have Hel := Lib.hid hel
  have Hss : Hid (∀ k, k < ss.length → ss.getD k ⟨#[]⟩ ∈ ss) := by
    intro k hk
    have : ss.getD k ⟨#[]⟩ = ss[k] := by simp [List.getD_eq_getElem?_getD, hk]
    rw [this]; exact List.getElem_mem _
  generalize hn : ss.length = n at *
  clear hn h hel
  go_enter Tryd.func31, Tryd.ntmps31
  go_wp2_with fail
  refine Hn.out.mono ?_
  rintro e w' ⟨k, hk0, hk1, rfl, hs⟩
  obtain ⟨j, rfl⟩ : ∃ j : Nat, k = j := ⟨k.toNat, by omega⟩
  have hj : j < n := by omega
  have g := but_cell hs.2 (by simpa using hc) (Hel.out j hj)
  have Hs := Lib.hid hs
  have Hm := Lib.hid (Hss.out j hj)
  generalize ss.getD j ⟨#[]⟩ = s at *
  clear hs
  go_wp2_with fail
  go_ret
  exact ⟨s, Hm.out, rfl, Hs.out⟩
/-- One of some ints. -/
def IntOf (zs : List Int) (B b : Nat) (w : World) (e : Ending) (w' : World) : Prop := ∃ z ∈ zs, e = .returned (.int .i64 z) ∧ St w B b w'
theorem pick_any (B b c : Nat) (zs : List Int) (w : World) (h : ∃ l, SrcIs w B b l) (hc : c ≠ b) (h0 : 1 ≤ zs.length) (h1 : zs.length ≤ 1000) (hel : ∀ i, i < zs.length → w.cell? ⟨c, i, none⟩ = some (.int .i64 (zs.getD i 0))) :
    Calls Tryd.prog 34 #[.pointer (some ⟨b, 0, none⟩), .slice (some ⟨c, 0, none⟩) zs.length zs.length] w (IntOf zs B b w) := by
  have Hn := Lib.hid (n_ok B b zs.length w h (by omega) (by omega))
  have Hel := Lib.hid hel
  have Hss : Hid (∀ k, k < zs.length → zs.getD k 0 ∈ zs) := by
    intro k hk
    have : zs.getD k 0 = zs[k] := by simp [List.getD_eq_getElem?_getD, hk]
    rw [this]; exact List.getElem_mem _
  generalize hn : zs.length = n at *
  clear hn h hel
  go_enter Tryd.func34, Tryd.ntmps34
  go_wp2_with fail
  refine Hn.out.mono ?_
  rintro e w' ⟨k, hk0, hk1, rfl, hs⟩
  obtain ⟨j, rfl⟩ : ∃ j : Nat, k = j := ⟨k.toNat, by omega⟩
  have hj : j < n := by omega
  have g := but_cell hs.2 (by simpa using hc) (Hel.out j hj)
  have Hs := Lib.hid hs
  have Hm := Lib.hid (Hss.out j hj)
  generalize zs.getD j 0 = s at *
  clear hs
  go_wp2_with fail
  go_ret
  exact ⟨s, Hm.out, rfl, Hs.out⟩

/-- A new list of at most twelve readings. -/
def NewBent (B b : Nat) (w : World) (e : Ending) (w' : World) : Prop := ∃ (v : Value) (rs : List (Int × Int)), e = .returned v ∧ Own w' w.heap.size v rs ∧ rs.length ≤ 12 ∧ St w B b w'

theorem rcells_set0 : ∀ (rs : List (Int × Int)) (j : Nat) (x : Int) (h : j < rs.length), (rcells rs).set (j * 2) (.int .i64 x) = rcells (rs.set j (x, rs[j].2))
  | r :: l, 0, x, _ => rfl
  | r :: l, j + 1, x, h => by
    have ih := rcells_set0 l j x (by simpa using h)
    simp only [rcells, List.set_cons_succ, List.getElem_cons_succ, show (j + 1) * 2 = j * 2 + 1 + 1 by omega]
    rw [ih]
theorem rcells_set1 : ∀ (rs : List (Int × Int)) (j : Nat) (x : Int) (h : j < rs.length), (rcells rs).set (j * 2 + 1) (.int .i64 x) = rcells (rs.set j (rs[j].1, x))
  | r :: l, 0, x, _ => rfl
  | r :: l, j + 1, x, h => by
    have ih := rcells_set1 l j x (by simpa using h)
    simp only [rcells, List.set_cons_succ, List.getElem_cons_succ, show (j + 1) * 2 + 1 = j * 2 + 1 + 1 + 1 by omega]
    rw [ih]

/-- v is a slice of the call's own that holds m readings, whichever. -/
def OwnM (w : World) (base : Nat) (v : Value) (m : Nat) : Prop := ∃ rs, rs.length = m ∧ Own w base v rs
theorem OwnM.set0 {w : World} {base g cap m j : Nat} (h : OwnM w base (.slice (some ⟨g, 0, none⟩) m cap) m) (hj : j < m) (x : Int) : OwnM (w.setCell ⟨g, j * 2, none⟩ (.int .i64 x)) base (.slice (some ⟨g, 0, none⟩) m cap) m := by
  obtain ⟨rs, rfl, h⟩ := h
  have := (World.ownsRow.stored h (j * 2) (.int .i64 x)).1
  rw [rcells_set0 rs j x hj] at this
  refine ⟨rs.set j (x, rs[j].2), List.length_set, ?_⟩
  unfold Own
  rw [List.length_set]; exact this
theorem OwnM.set1 {w : World} {base g cap m j : Nat} (h : OwnM w base (.slice (some ⟨g, 0, none⟩) m cap) m) (hj : j < m) (x : Int) : OwnM (w.setCell ⟨g, j * 2 + 1, none⟩ (.int .i64 x)) base (.slice (some ⟨g, 0, none⟩) m cap) m := by
  obtain ⟨rs, rfl, h⟩ := h
  have := (World.ownsRow.stored h (j * 2 + 1) (.int .i64 x)).1
  rw [rcells_set1 rs j x hj] at this
  refine ⟨rs.set j (rs[j].1, x), List.length_set, ?_⟩
  unfold Own
  rw [List.length_set]; exact this
theorem OwnM.drew {w : World} {base m : Nat} {v : Value} (h : OwnM w base v m) : OwnM w.drew base v m := by
  obtain ⟨rs, e, h⟩ := h
  exact ⟨rs, e, h.drew⟩
theorem OwnM.at {w : World} {base g cap m : Nat} (h : OwnM w base (.slice (some ⟨g, 0, none⟩) m cap) m) {j : Nat} (hj : j < m) :
    ∃ x y : Int, w.cell? ⟨g, j * 2, none⟩ = some (.int .i64 x) ∧ w.cell? ⟨g, j * 2 + 1, none⟩ = some (.int .i64 y) ∧ w.frozen? ⟨g, j * 2, none⟩ = false ∧ w.frozen? ⟨g, j * 2 + 1, none⟩ = false := by
  obtain ⟨rs, rfl, h⟩ := h
  obtain ⟨r0, r1⟩ := rcells_at rs j hj
  refine ⟨rs[j].1, rs[j].2, ?_, ?_, World.ownsRow.frozenAt h _, World.ownsRow.frozenAt h _⟩
  · rw [World.ownsRow.cellAt h (j * 2) (by omega), show j * 2 = 2 * j by omega]; exact r0
  · rw [World.ownsRow.cellAt h (j * 2 + 1) (by omega), show j * 2 + 1 = 2 * j + 1 by omega]; exact r1
theorem Own.form0 {w : World} {base : Nat} {v : Value} {rs : List (Int × Int)} (h : Own w base v rs) : ∃ a c, v = .slice a rs.length c := by
  obtain ⟨_, h2⟩ := h
  rcases h2 with ⟨e, h2⟩ | ⟨g, cap, cur, e, _⟩
  · exact ⟨none, 0, by rw [e, h2]⟩
  · exact ⟨_, cap, e⟩

/-- append([]api.Reading{}, l...), a copy. -/
theorem copy_rds {w : World} {v : Value} {rs : List (Int × Int)} (hx : RdsAt w v rs) (hnc : ∀ len cap, v = .slice none len cap → cap = 0) (hn : rs.length ≤ 1000000000) :
    ∃ (v' : Value) (w' : World), (Builtin.append_ #[45, 45] 45 #[.slice (some ⟨w.heap.size, 0, none⟩) 0 0, v]).run Tryd.prog (w.alloc (.cells #[] 23)) = .ok v' w' ∧ Own w' w.heap.size v' rs ∧ Below w.heap.size w w' := by
  have hB : Below w.heap.size w (w.alloc (.cells #[] 23)) := (Below.refl _ _).alloc (Nat.le_refl _) _
  have h0 := own_empty w (Nat.le_refl _) rfl
  have hx' := hx.below hB
  obtain ⟨a, len, cap, rfl, hl, hmax, hel⟩ := hx
  cases a with
  | none =>
    have hl0 : len = 0 := by
      rcases Nat.eq_zero_or_pos len with q | q
      · exact q
      · obtain ⟨ab, ao, e, _⟩ := hel 0 q; cases e
    subst hl0
    obtain rfl := hnc 0 cap rfl
    obtain rfl : rs = [] := List.eq_nil_of_length_eq_zero hl
    obtain ⟨i0, hi, hz0, hz1, hz2⟩ := info_parts rinfo
    exact ⟨_, _, run_append_owned_none (P := Tryd.prog) _ w.heap.size 45 45 23 i0 2 Tryd.underlying45 hi _ 0 _ h0, h0, hB⟩
  | some A =>
    obtain ⟨v', w', h1, h2, _, h4⟩ := append_rds h0 hx' (by simp; omega) (by simp) 45
    exact ⟨v', w', h1, by rw [List.nil_append] at h2; exact h2, hB.trans h4⟩

set_option maxRecDepth 100000 in
set_option maxHeartbeats 2000000 in
theorem bent_ok (B b : Nat) (v : Value) (rs : List (Int × Int)) (w : World) (h : ∃ l, SrcIs w B b l) (hv : RdsAt w v rs) (hnc : ∀ len cap, v = .slice none len cap → cap = 0) (hn : rs.length ≤ 11) :
    Calls Tryd.prog 24 #[.pointer (some ⟨b, 0, none⟩), v] w (NewBent B b w) := by
  have hbw : b < w.heap.size := by obtain ⟨l, hl⟩ := h; exact hl.lt
  have Hs0 : Hid (St w B b w) := ⟨h, But.refl _ _ _⟩
  obtain ⟨o1, w1, hrun, hown, hB1⟩ := copy_rds hv hnc (by omega)
  obtain ⟨a, len, cap, rfl, hl, _⟩ := hv
  have Hrun := Lib.hid hrun
  have Hown := Lib.hid hown
  have HB1 := Lib.hid hB1
  have Hs1 := Lib.hid (Hs0.out.grown hB1 hbw (Nat.le_refl _))
  have Hn := Lib.hid hn
  clear hrun hB1 hnc h
  have hsz := HB1.out.size
  rcases Nat.eq_zero_or_pos rs.length with h0 | h0
  · obtain rfl : rs = [] := List.eq_nil_of_length_eq_zero h0
    obtain ⟨oa, oc, rfl⟩ := hown.form0
    simp only [List.length_nil] at hown Hrun Hown ⊢
    clear hown h0 hl
    go_enter Tryd.func24, Tryd.ntmps24
    go_wp2_with (at_builtin; refine wpList_append_run rfl _ _ _ rfl _ _ _ _ rfl rfl Hrun.out ?_)
    refine (range_ok B b (-1) 13 w1 Hs1.out.1 (by omega) (by omega) (by omega)).mono ?_
    rintro e w2 ⟨x, hx0, hx1, rfl, hs⟩
    have Hs2 := Lib.hid (Hs1.out.then _ hs.1.choose_spec hs.2)
    have Hown2 := Lib.hid (Hown.out.but hs.2 hbw)
    have hsz2 : w.heap.size ≤ w2.heap.size := Hs2.out.size
    clear hs
    go_wp2_with fail
    refine (n_ok B b 12000 w2 Hs2.out.1 (by omega) (by omega)).mono ?_
    rintro e w3 ⟨y, hy0, hy1, rfl, hs⟩
    have Hs3 := Lib.hid (Hs2.out.then _ hs.1.choose_spec hs.2)
    have Hown3 := Lib.hid (Hown2.out.but hs.2 hbw)
    have hsz3 : w.heap.size ≤ w3.heap.size := Hs3.out.size
    clear hs
    obtain ⟨v', w', hrun', hown', _, hB'⟩ := append_one Hown3.out (by simp) hsz3 x y 45
    have Hrun' := Lib.hid hrun'
    have Hown' := Lib.hid hown'
    have HB' := Lib.hid hB'
    clear hrun' hown' hB' Hrun
    go_wp2_with (at_builtin; refine wpList_append_run rfl _ _ _ rfl _ _ _ _ rfl rfl Hrun'.out ?_)
    go_ret
    exact ⟨_, _, rfl, Hown'.out, by simp, Hs3.out.grown HB'.out hbw (Nat.le_refl _)⟩
  · obtain ⟨g, c1, rfl, hc1, hc2, hc3, hc4⟩ := hown.form h0
    generalize hm : rs.length = m at *
    have Hm := Lib.hid hm
    have hm0 : ((m : Int) == 0) = false := by simp; omega
    clear hown hl hm
    go_enter Tryd.func24, Tryd.ntmps24
    go_wp2_with (at_builtin; refine wpList_append_run rfl _ _ _ rfl _ _ _ _ rfl rfl Hrun.out ?_)
    refine (n_ok B b m w1 Hs1.out.1 (by omega) (by omega)).mono ?_
    rintro e w2 ⟨x, hx0, hx1, rfl, hs⟩
    obtain ⟨j, rfl⟩ : ∃ j : Nat, x = j := ⟨x.toNat, by omega⟩
    have hj : j < m := by omega
    have Hs2 := Lib.hid (Hs1.out.then _ hs.1.choose_spec hs.2)
    have Hown2 := Lib.hid (Hown.out.but hs.2 hbw)
    have hsz2 : w.heap.size ≤ w2.heap.size := Hs2.out.size
    clear hs
    go_wp2_with fail
    refine (n_ok B b 4 w2 Hs2.out.1 (by omega) (by omega)).mono ?_
    rintro e w3 ⟨y, hy0, hy1, rfl, hs⟩
    have Hs3 := Lib.hid (Hs2.out.then _ hs.1.choose_spec hs.2)
    have Hown3 := Lib.hid (Hown2.out.but hs.2 hbw)
    have hsz3 : w.heap.size ≤ w3.heap.size := Hs3.out.size
    clear hs
    have hy : y = 0 ∨ y = 1 ∨ y = 2 ∨ y = 3 := by omega
    have hgb : g ≠ b := by omega
    have hBg : B ≤ g := by have := Hs3.out.le; omega
    have Hom3 : Hid (OwnM w3 w.heap.size (.slice (some ⟨g, 0, none⟩) m c1) m) := ⟨rs, Hm.out, Hown3.out⟩
    rcases hy with rfl | rfl | rfl | rfl
    · go_wp2_with fail
      refine (range_ok B b (-1) 13 w3 Hs3.out.1 (by omega) (by omega) (by omega)).mono ?_
      rintro e w4 ⟨x, hx0, hx1, rfl, hs⟩
      have Hs4 := Lib.hid (Hs3.out.then _ hs.1.choose_spec hs.2)
      have Hom4 : Hid (OwnM w4 w.heap.size (.slice (some ⟨g, 0, none⟩) m c1) m) := ⟨rs, Hm.out, Hown3.out.but hs.2 hbw⟩
      obtain ⟨p, q, k0, k1, f0, f1⟩ := Hom4.out.at hj
      clear hs
      go_wp2_with fail
      go_ret
      obtain ⟨rs', hl', ho'⟩ := Hom4.out.set0 hj x
      exact ⟨_, rs', rfl, ho', by omega, Hs4.out.setCell (p := ⟨g, j * 2, none⟩) hc3 hgb hBg _⟩
    · go_wp2_with fail
      refine (pick_any B b w3.heap.size [-1001, -1000, 0, 1000, 1001, 11000, 11001] _ (Hs3.out.alloc _).1 (by omega) (by simp) (by simp) (fun i hi => by
        have : i = 0 ∨ i = 1 ∨ i = 2 ∨ i = 3 ∨ i = 4 ∨ i = 5 ∨ i = 6 := by simp at hi; omega
        rcases this with rfl | rfl | rfl | rfl | rfl | rfl | rfl <;> simp)).mono ?_
      rintro e w4 ⟨x, _, rfl, hs⟩
      have Hs4 := Lib.hid ((Hs3.out.alloc _).then _ hs.1.choose_spec hs.2)
      have Hom4 : Hid (OwnM w4 w.heap.size (.slice (some ⟨g, 0, none⟩) m c1) m) := ⟨rs, Hm.out, (Hown3.out.alloc _).but hs.2 hbw⟩
      obtain ⟨p, q, k0, k1, f0, f1⟩ := Hom4.out.at hj
      clear hs
      go_wp2_with fail
      go_ret
      obtain ⟨rs', hl', ho'⟩ := Hom4.out.set1 hj x
      exact ⟨_, rs', rfl, ho', by omega, Hs4.out.setCell (p := ⟨g, j * 2 + 1, none⟩) hc3 hgb hBg _⟩
    · obtain ⟨p, q, k0, k1, f0, f1⟩ := Hom3.out.at hj
      obtain ⟨v', w', hrun', hown', _, hB'⟩ := append_one Hown3.out (by rw [Hm.out]; omega) hsz3 p q 45
      have Hrun' := Lib.hid hrun'
      have Hown' := Lib.hid hown'
      have HB' := Lib.hid hB'
      clear hrun' hown' hB' Hrun
      go_wp2_with (at_builtin; refine wpList_append_run rfl _ _ _ rfl _ _ _ _ rfl rfl Hrun'.out ?_)
      go_ret
      exact ⟨_, _, rfl, Hown'.out, by simp [Hm.out]; omega, Hs3.out.grown HB'.out hbw (Nat.le_refl _)⟩
    · obtain ⟨p, q, k0, k1, f0, f1⟩ := Hom3.out.at hj
      obtain ⟨p0, q0, l0, l1, g0, g1⟩ := Hom3.out.at (j := 0) (by omega)
      have Hfin : Hid (∀ x y x' y', NewBent B b w (.returned (.slice (some ⟨g, 0, none⟩) m c1)) ((((w3.drew.setCell ⟨g, j * 2, none⟩ (.int .i64 x)).setCell ⟨g, j * 2 + 1, none⟩ (.int .i64 y)).setCell ⟨g, 0, none⟩ (.int .i64 x')).setCell ⟨g, 1, none⟩ (.int .i64 y'))) := by
        intro x y x' y'
        obtain ⟨rs', hl', ho'⟩ := (((Hom3.out.drew.set0 hj x).set1 hj y).set0 (j := 0) (by omega) x').set1 (j := 0) (by omega) y'
        exact ⟨_, rs', rfl, ho', by omega, (((Hs3.out.drew.setCell (p := ⟨g, j * 2, none⟩) hc3 hgb hBg _).setCell (p := ⟨g, j * 2 + 1, none⟩) hc3 hgb hBg _).setCell (p := ⟨g, 0, none⟩) hc3 hgb hBg _).setCell (p := ⟨g, 1, none⟩) hc3 hgb hBg _⟩
      simp only [Nat.zero_mul, Nat.zero_add] at l0 l1 g0 g1
      have e2 : (0 : Int) ≤ (j : Int) := by omega
      have e3 : (j : Int) < m := by omega
      have e4 : (0 : Int) < m := by omega
      rcases Nat.eq_zero_or_pos j with rfl | hj0
      · simp only [Nat.zero_mul, Nat.zero_add] at k0 k1 f0 f1
        obtain ⟨rfl, rfl⟩ : p = p0 ∧ q = q0 := by
          rw [k0] at l0; rw [k1] at l1
          simpa using And.intro l0 l1
        clear k0 k1 f0 f1
        go_wp2_with fail
        go_region
        all_goals
          clear e2 e3 e4
          go_wp2_with fail
          go_ret
          have := Hfin.out p q p q
          simp only [Nat.zero_mul, Nat.zero_add] at this
          exact this
      · have a1 : ¬ (j * 2 = 0) := by omega
        have a2 : ¬ (0 = j * 2) := by omega
        have a3 : ¬ (j * 2 = 1) := by omega
        have a4 : ¬ (1 = j * 2) := by omega
        have a5 : ¬ (j * 2 + 1 = 1) := by omega
        have a6 : ¬ (1 = j * 2 + 1) := by omega
        go_wp2_with fail
        go_region
        all_goals
          clear e2 e3 e4 a1 a2 a3 a4 a5 a6
          go_wp2_with fail
          go_ret
          exact Hfin.out p0 q0 p q
end Go.Proofs.YtanfbfmchhbgfaaDoor
