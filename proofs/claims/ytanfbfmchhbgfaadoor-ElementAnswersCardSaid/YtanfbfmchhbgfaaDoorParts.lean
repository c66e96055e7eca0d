/- ElementParts answers true at every input. No conditions. -/
import Derived.Test.YtanfbfmchhbgfaaDoorWith
import Derived.Test.YtanfbfmchhbgfaaDoorAwake
import Derived.Test.YtanfbfmchhbgfaaDoorTexts
namespace Go.Proofs.YtanfbfmchhbgfaaDoor
open Go Go.RowKit

theorem hasE_false {bad : Int} {rs : List (Int × Int)} (h : ∀ r ∈ rs, chk r.1 r.2 = 0) (hb : bad ≠ 0) : hasE bad rs = false := by
  unfold hasE; rw [List.any_eq_false]; intro r hr; rw [h r hr]; simpa using hb.symm
theorem GoodL.val {k : Int} {rs : List (Int × Int)} (h : GoodL k rs) : valE rs = 0 := by
  have hc : ∀ r ∈ rs, chk r.1 r.2 = 0 := fun r hr => (h.1 r hr).1
  have ha : ascB rs = true := ascB_true (fun i h1 h2 => by
    rw [getD_mem h2, getD_mem (show i - 1 < rs.length by omega)]
    exact List.pairwise_iff_getElem.1 h.2 (i - 1) i (by omega) h2 (by omega))
  unfold valE
  rw [hasE_false hc (by decide), hasE_false hc (by decide), ha]; rfl
theorem GoodL.wo {k : Int} {rs : List (Int × Int)} (h : GoodL k rs) (zs : List Int) : GoodL k (wo zs rs) :=
  ⟨fun r hr => h.1 r ((List.mem_filter.1 hr).1), h.2.filter _⟩

theorem fo_wo (zs : List Int) (rs : List (Int × Int)) (c : Int) : fo (wo zs rs) c = (fo rs c && !zs.contains c) := by
  unfold fo wo
  rw [Bool.eq_iff_iff, Bool.and_eq_true, List.any_eq_true, List.any_eq_true]
  constructor
  · rintro ⟨r, hr, he⟩
    rw [List.mem_filter] at hr
    have : r.1 = c := by simpa using he
    subst this
    exact ⟨⟨r, hr.1, by simp⟩, hr.2⟩
  · rintro ⟨⟨r, hr, he⟩, hn⟩
    have : r.1 = c := by simpa using he
    subst this
    exact ⟨r, List.mem_filter.2 ⟨hr, hn⟩, by simp⟩
theorem fv_wo (zs : List Int) (rs : List (Int × Int)) (c : Int) (h : zs.contains c = false) : fv (wo zs rs) c = fv rs c := by
  unfold fv wo
  congr 2
  induction rs with
  | nil => rfl
  | cons r l ih =>
    by_cases he : r.1 = c
    · subst he
      simp only [List.filter_cons, h]
      simp
    · have hb : (r.1 == c) = false := by simpa using he
      simp only [List.filter_cons]
      cases hz : zs.contains r.1
      · simp only [Bool.not_false, if_true, List.find?_cons, hb]; exact ih
      · simp only [Bool.not_true, Bool.false_eq_true, if_false, List.find?_cons, hb]; exact ih

theorem iinfo : (Tryd.prog.info? 3).map (fun i => (i.zero, i.size, i.bytes)) = some (some (.int .i64 0), 1, 8) := by kernel_rfl

theorem ownsInts {w : World} {base : Nat} {v : Value} {zs : List Int} (h : w.ownsRow base 3 1 v zs.length (zs.map (Value.int .i64))) (hn : zs.length ≤ 1000000000000000) : IntsR w v zs := by
  have h' := h
  obtain ⟨h1, h2⟩ := h
  rcases h2 with ⟨e, h0⟩ | ⟨g, cap, cur, e, _⟩
  · exact ⟨none, 0, 0, e, h0, by omega, fun _ => rfl, fun i hi => by omega⟩
  · refine ⟨_, zs.length, cap, e, rfl, hn, (fun h => by cases h), fun i hi => ⟨g, 0, rfl, ?_⟩⟩
    rw [e] at h'
    have := World.ownsRow.cellAt h' i (by omega)
    rw [Nat.zero_add, this]
    simp [List.getD_eq_getElem?_getD, hi]

/-- append([]int{x, y}, codes...). -/
theorem append_two {w : World} {cv : Value} {cs : List Int} (h : IntsR w cv cs) (hn : cs.length ≤ 1000000000) (x y : Int) (ty : TypeId) :
    ∃ (v' : Value) (w' : World), (Builtin.append_ #[24, 24] ty #[.slice (some ⟨w.heap.size, 0, none⟩) 2 2, cv]).run Tryd.prog (w.alloc (.cells #[.int .i64 x, .int .i64 y] 3)) = .ok v' w' ∧
      IntsR w' v' (x :: y :: cs) ∧ Below w.heap.size w w' := by
  obtain ⟨i0, hi, hz0, hz1, hz2⟩ := info_parts iinfo
  have hlit := World.ownsRow_lit (base := w.heap.size) (e := 3) (size := 1) w #[.int .i64 x, .int .i64 y] 2 (Nat.le_refl _) (by unfold maxLen; omega) rfl
  have hB := (Below.refl w.heap.size w).alloc (Nat.le_refl _) (.cells #[.int .i64 x, .int .i64 y] 3)
  have h' := h.below hB
  obtain ⟨a, len, cap, rfl, hl, hmax, hnc, hel⟩ := h'
  cases a with
  | none =>
    have h0 : len = 0 := by
      rcases Nat.eq_zero_or_pos len with q | q
      · exact q
      · obtain ⟨ab, ao, e, _⟩ := hel 0 q; cases e
    subst h0
    obtain rfl : cs = [] := List.eq_nil_of_length_eq_zero hl
    refine ⟨_, _, ?_, ownsInts (zs := [x, y]) (base := w.heap.size) hlit (by simp), hB⟩
    obtain rfl := hnc rfl
    exact run_append_owned_none (P := Tryd.prog) _ w.heap.size 24 ty 3 i0 1 Tryd.underlying24 hi _ 2 _ hlit
  | some ad =>
    have hnews : ∀ j u, (cs.map (Value.int .i64))[j]? = some u → (w.alloc (.cells #[.int .i64 x, .int .i64 y] 3)).cell? (ad.add j) = some u := by
      intro j u hj
      rw [List.getElem?_map, Option.map_eq_some_iff] at hj
      obtain ⟨z, hz, rfl⟩ := hj
      have hjl := (List.getElem?_eq_some_iff.1 hz).1
      obtain ⟨ab, ao, e, q⟩ := hel j (by omega)
      obtain rfl := Option.some.inj e
      rw [Go.WideShapes.add_plain, q]
      simp [List.getD_eq_getElem?_getD, hz]
    obtain ⟨v', w', h1, h2, h3, _⟩ := run_append_own (P := Tryd.prog) (w.alloc (.cells #[.int .i64 x, .int .i64 y] 3)) w.heap.size 24 ty 3 i0 (.int .i64 0) 1 8 Tryd.underlying24 hi hz0 hz1 hz2 rfl (by decide)
      _ 2 _ hlit ad len cap (cs.map (Value.int .i64)) (by simp [hl]) hnews (by simp [Value.oneCell']) (by unfold maxLen; omega) (by omega) (by simp)
    refine ⟨v', w', h1, ownsInts (zs := x :: y :: cs) (base := w.heap.size) ?_ (by simp; omega), hB.grown h3 (by simp) (fun k hk => ?_)⟩
    · have e1 : 2 + len = (x :: y :: cs).length := by simp; omega
      rw [e1] at h2
      exact h2
    · simp [Value.ownBlock] at hk; omega

set_option maxRecDepth 100000 in
set_option maxHeartbeats 4000000 in
theorem parts_short (lv cv : Value) (zs cs : List Int) (w : World) (hG : Glo w) (hl : IntsAt w w.heap.size lv zs) (hc : IntsR w cv cs) (hn : cs.length ≤ 60) :
    Calls Tryd.prog 7 #[lv, cv] w fun e w' => e = .returned (.bool true) ∧ Below w.heap.size w w' := by
  have hs0 := hG.size
  have hnew := new_ok lv zs w hl
  have Hnew := Lib.hid hnew
  have HG := Lib.hid hG
  have Hc := Lib.hid hc
  have hcs := hc
  obtain ⟨ca, clen, ccap, rfl, hcl, _, _, _⟩ := hcs
  have hclen : clen ≤ 60 := by omega
  have Hn := Lib.hid hn
  clear hnew hG hl hc hcl hn
  go_enter Tryd.func7, Tryd.ntmps7
  go_wp2_with fail
  refine Hnew.out.mono ?_
  rintro r w1 ⟨rfl, hsrc, hb1, hz1⟩
  have hz1 : w.heap.size + 1 ≤ w1.heap.size := by omega
  have Hsrc := Lib.hid hsrc
  clear hsrc Hnew
  go_wp2_with fail
  refine (list_ok w.heap.size w.heap.size w1 Hsrc.out).mono ?_
  rintro r w2 ⟨v, rs, rfl, hown, hgood, hrl, hst⟩
  have Hown := Lib.hid hown
  have Hgood := Lib.hid hgood
  have Hst2 := Lib.hid hst
  clear hown hgood hst
  go_wp2_with fail
  refine (range_ok w.heap.size w.heap.size 1 11 w2 Hst2.out.1 (by omega) (by omega) (by omega)).mono ?_
  rintro r w3 ⟨c1, hc1, hc2, rfl, hs3⟩
  have Hst3 := Lib.hid (Hst2.out.then _ hs3.1.choose_spec hs3.2)
  have Hown3 := Lib.hid (Hown.out.but hs3.2 (by omega))
  clear hs3
  go_wp2_with fail
  refine (range_ok w.heap.size w.heap.size 1 11 w3 Hst3.out.1 (by omega) (by omega) (by omega)).mono ?_
  rintro r w4 ⟨c2, hc3, hc4, rfl, hs4⟩
  have Hst4 := Lib.hid (Hst3.out.then _ hs4.1.choose_spec hs4.2)
  have Hown4 := Lib.hid (Hown3.out.but hs4.2 (by omega))
  clear hs4
  have hB4 : Below w.heap.size w w4 := hb1.trans ((Hst4.out.2.mono (by omega)).below (Nat.le_refl _))
  have hsz4 := hB4.size
  obtain ⟨sv, w5, hrun, hsv, hB5⟩ := append_two (Hc.out.below hB4) (by have := Hn.out; omega) c1 c2 24
  have Hrun := Lib.hid hrun
  have Hsv := Lib.hid hsv
  have Hown5 := Lib.hid (Hown4.out.below hB5)
  have hBw5 := below_then hB4 hB5
  have HG5 := Lib.hid (HG.out.below hBw5 hs0)
  clear hrun hsv hb1 Hown4 Hown3 Hst3
  go_wp2_with (at_builtin; refine wpList_append_run rfl _ _ _ rfl _ _ _ _ rfl rfl Hrun.out ?_)
  have hrd5 := Hown5.out.rds (by omega)
  have hzl : Hid (∀ c, (c1 :: c2 :: cs).contains c = (c1 :: c2 :: cs).contains c) := fun _ => rfl
  generalize hzs' : c1 :: c2 :: cs = zz at *
  refine (without_any v rs sv zz w5 hrd5 (by omega) Hsv.out).mono ?_
  rintro r w6 ⟨yv, rfl, hownY, hB6⟩
  have hgoodY := Hgood.out.wo zz
  have hylen : (wo zz rs).length ≤ 11 := by
    unfold wo
    have := List.length_filter_le (fun r : Int × Int => !zz.contains r.1) rs
    omega
  have HrdY := Lib.hid (hownY.rds (by omega))
  have Hrd6 := Lib.hid (hrd5.below hB6)
  have Hsv6 := Lib.hid (Hsv.out.below hB6)
  have HG6 := Lib.hid (HG5.out.below hB6 HG5.out.size)
  have hBw6 := below_then hBw5 hB6
  have HgY := Lib.hid hgoodY.val
  have HgX := Lib.hid Hgood.out.val
  clear hzl hownY hB6 hgoodY hylen hrd5 hB5 hB4 hsz4
  go_wp2_with fail
  have hv1 := validate_any v rs w6 HG6.out Hrd6.out
  rw [HgX.out] at hv1
  refine hv1.mono ?_
  rintro r w7 ⟨rfl, hB7⟩
  have Hrd7 := Lib.hid (Hrd6.out.below hB7)
  have HrdY7 := Lib.hid (HrdY.out.below hB7)
  have Hsv7 := Lib.hid (Hsv6.out.below hB7)
  have HG7 := Lib.hid (HG6.out.below hB7 HG6.out.size)
  have hBw7 := below_then hBw6 hB7
  clear hB7
  go_wp2_with fail
  have hv2 := validate_any yv (wo zz rs) w7 HG7.out HrdY7.out
  rw [HgY.out] at hv2
  refine hv2.mono ?_
  rintro r w8 ⟨rfl, hB8⟩
  have Hrd8 := Lib.hid (Hrd7.out.below hB8)
  have HrdY8 := Lib.hid (HrdY7.out.below hB8)
  have Hsv8 := Lib.hid (Hsv7.out.below hB8)
  have HG8 := Lib.hid (HG7.out.below hB8 HG7.out.size)
  have hBw8 := below_then hBw7 hB8
  have Hfo := Lib.hid (fo_wo zz rs)
  have Hfv := Lib.hid (fv_wo zz rs)
  clear hB8
  generalize wo zz rs = ys at *
  go_wp2_with fail
  go_loopw [9] (fun c wr => ∃ k : Nat, k ≤ 11 ∧ c = .int .i64 ((k : Int) + 1) ∧ Hid (RdsAt wr v rs) ∧ Hid (RdsAt wr yv ys) ∧ Hid (IntsR wr sv zz) ∧ Hid (Glo wr) ∧ Below w.heap.size w wr) (fun c _ => (12 - intOf c).toNat)
  case atStart => exact ⟨0, by omega, rfl, Hrd8, HrdY8, Hsv8, HG8, hBw8⟩
  case round =>
    obtain ⟨k, hk, rfl, hr, hy, hs, hg, hB⟩ := hrel
    by_cases hlt : k < 11
    · have Hfoc := Lib.hid (Hfo.out ((k : Int) + 1))
      have Hfvc := Lib.hid (Hfv.out ((k : Int) + 1))
      have F1 := Lib.hid (fun w1 (h : RdsAt w1 v rs) => find_any v rs ((k : Int) + 1) w1 h)
      have F2 := Lib.hid (fun w1 (h : RdsAt w1 yv ys) => find_any yv ys ((k : Int) + 1) w1 h)
      have F3 := Lib.hid (fun w1 (h : IntsR w1 sv zz) => in_list sv zz ((k : Int) + 1) w1 h)
      generalize fo rs ((k : Int) + 1) = ox at *
      generalize fo ys ((k : Int) + 1) = oy at *
      generalize fv rs ((k : Int) + 1) = vx at *
      generalize fv ys ((k : Int) + 1) = vy at *
      generalize zz.contains ((k : Int) + 1) = ct at *
      have hcase : (ox = false ∧ oy = false) ∨ (ox = true ∧ ct = true ∧ oy = false) ∨ (ox = true ∧ ct = false ∧ oy = true ∧ vy = vx) := by
        have h1 := Hfoc.out
        have h2 := Hfvc.out
        cases ox
        · left; exact ⟨rfl, by simpa using h1⟩
        · right
          cases ct
          · right; exact ⟨rfl, rfl, by simpa using h1, h2 rfl⟩
          · left; exact ⟨rfl, rfl, by simpa using h1⟩
      clear Hfoc Hfvc
      rcases hcase with ⟨rfl, rfl⟩ | ⟨rfl, rfl, rfl⟩ | ⟨rfl, rfl, rfl, rfl⟩
      · go_wp2_with fail
        refine (F1.out _ hr.out).mono ?_
        rintro r w9 ⟨rfl, hb⟩
        have hr9 := Lib.hid (hr.out.below hb)
        have hy9 := Lib.hid (hy.out.below hb)
        have hs9 := Lib.hid (hs.out.below hb)
        have hg9 := Lib.hid (hg.out.below hb hg.out.size)
        have hB9 := below_then hB hb
        clear hb
        go_wp2_with fail
        refine (F2.out _ hy9.out).mono ?_
        rintro r w10 ⟨rfl, hb⟩
        have hr10 := Lib.hid (hr9.out.below hb)
        have hy10 := Lib.hid (hy9.out.below hb)
        have hs10 := Lib.hid (hs9.out.below hb)
        have hg10 := Lib.hid (hg9.out.below hb hg9.out.size)
        have hB10 := below_then hB9 hb
        clear hb
        go_wp2_with fail
        go_roundw
        case rel => exact ⟨k + 1, by omega, by go_num, hr10, hy10, hs10, hg10, hB10⟩
        case measure => simp [intOf]; omega
      · go_wp2_with fail
        refine (F1.out _ hr.out).mono ?_
        rintro r w9 ⟨rfl, hb⟩
        have hr9 := Lib.hid (hr.out.below hb)
        have hy9 := Lib.hid (hy.out.below hb)
        have hs9 := Lib.hid (hs.out.below hb)
        have hg9 := Lib.hid (hg.out.below hb hg.out.size)
        have hB9 := below_then hB hb
        clear hb
        go_wp2_with fail
        refine (F2.out _ hy9.out).mono ?_
        rintro r w10 ⟨rfl, hb⟩
        have hr10 := Lib.hid (hr9.out.below hb)
        have hy10 := Lib.hid (hy9.out.below hb)
        have hs10 := Lib.hid (hs9.out.below hb)
        have hg10 := Lib.hid (hg9.out.below hb hg9.out.size)
        have hB10 := below_then hB9 hb
        clear hb
        go_wp2_with fail
        refine (F3.out _ hs10.out).mono ?_
        rintro r w11 ⟨rfl, rfl⟩
        go_wp2_with fail
        go_roundw
        case rel => exact ⟨k + 1, by omega, by go_num, hr10, hy10, hs10, hg10, hB10⟩
        case measure => simp [intOf]; omega
      · go_wp2_with fail
        refine (F1.out _ hr.out).mono ?_
        rintro r w9 ⟨rfl, hb⟩
        have hr9 := Lib.hid (hr.out.below hb)
        have hy9 := Lib.hid (hy.out.below hb)
        have hs9 := Lib.hid (hs.out.below hb)
        have hg9 := Lib.hid (hg.out.below hb hg.out.size)
        have hB9 := below_then hB hb
        clear hb
        go_wp2_with fail
        refine (F2.out _ hy9.out).mono ?_
        rintro r w10 ⟨rfl, hb⟩
        have hr10 := Lib.hid (hr9.out.below hb)
        have hy10 := Lib.hid (hy9.out.below hb)
        have hs10 := Lib.hid (hs9.out.below hb)
        have hg10 := Lib.hid (hg9.out.below hb hg9.out.size)
        have hB10 := below_then hB9 hb
        clear hb
        go_wp2_with fail
        refine (F3.out _ hs10.out).mono ?_
        rintro r w11 ⟨rfl, rfl⟩
        go_wp2_with fail
        go_roundw
        case rel => exact ⟨k + 1, by omega, by go_num, hr10, hy10, hs10, hg10, hB10⟩
        case measure => simp [intOf]; omega
    · obtain rfl : k = 11 := by omega
      go_wp2_with fail
      refine (awake_any _ hg.out).mono ?_
      rintro r w9 ⟨rfl, hb⟩
      go_wp2_with fail
      go_ret
      exact ⟨rfl, below_then hB hb⟩
end Go.Proofs.YtanfbfmchhbgfaaDoor
