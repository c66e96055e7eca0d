/- Order of synoptickeep gives the numbers 0 to n - 1 in some order. n is at most 1000. -/
import Derived.Test.YtanfbfmchhbgfaaDoorParts
import Derived.ArgAppend
namespace Go.Proofs.YtanfbfmchhbgfaaDoor
open Go Go.RowKit

/-- v is a slice of the call's own, from block base on, that holds the ints. -/
def OwnI (w : World) (base : Nat) (v : Value) (zs : List Int) : Prop := w.ownsRow base 3 1 v zs.length (zs.map (Value.int .i64))
theorem OwnI.of_same {w w' : World} {base : Nat} {v : Value} {zs : List Int} (h : OwnI w base v zs) (hb : ∀ k, base ≤ k → k < w.heap.size → w'.heap[k]? = w.heap[k]?) : OwnI w' base v zs := by
  obtain ⟨h1, h2⟩ := h
  refine ⟨h1, ?_⟩
  rcases h2 with h2 | ⟨g, cap, cur, e, hg, hh, h3, h4, h5, h6⟩
  · exact Or.inl h2
  · have hlt : g < w.heap.size := by
      rcases Nat.lt_or_ge g w.heap.size with q | q
      · exact q
      · rw [Array.getElem?_eq_none q] at hh; cases hh
    exact Or.inr ⟨g, cap, cur, e, hg, by rw [hb g hg hlt]; exact hh, h3, h4, h5, h6⟩
theorem OwnI.below {w w' : World} {base : Nat} {v : Value} {zs : List Int} (h : OwnI w base v zs) (hb : Below w.heap.size w w') : OwnI w' base v zs := h.of_same (fun k _ hk => hb.block k hk)
theorem OwnI.but {w w' : World} {base b : Nat} {v : Value} {zs : List Int} (h : OwnI w base v zs) (hb : But w.heap.size b w w') (hbb : b < base) : OwnI w' base v zs := h.of_same (fun k h1 hk => hb.block k hk (by omega))
theorem OwnI.mono {w : World} {base base' : Nat} {v : Value} {zs : List Int} (h : OwnI w base v zs) (hb : base' ≤ base) : OwnI w base' v zs := by
  obtain ⟨h1, h2⟩ := h
  exact ⟨h1, h2.imp id (fun ⟨g, cap, cur, e, hg, r⟩ => ⟨g, cap, cur, e, Nat.le_trans hb hg, r⟩)⟩
theorem OwnI.nil (w : World) (base : Nat) : OwnI w base (.slice none 0 0) [] := World.ownsRow_nil w base _ 1

theorem ints_one (zs : List Int) : ∀ u ∈ zs.map (Value.int .i64), u.oneCell' = true := by
  intro u hu; rw [List.mem_map] at hu; obtain ⟨z, _, rfl⟩ := hu; rfl

/-- The round of Order, where the slice is not nil: rest := append([]int{i}, out[k:]...); out = append(out[:k:k], rest...). -/
theorem order_some {w : World} {base g len cap : Nat} {zs : List Int} (h : OwnI w base (.slice (some ⟨g, 0, none⟩) len cap) zs) (hb : base ≤ w.heap.size) (hlen : zs.length = len) (hn : len ≤ 1000) (k : Nat) (hk : k ≤ len) (i : Int)
    (A : Addr) (hA : (cap = k ∧ A = ⟨g, 0, none⟩) ∨ A = ⟨g, k, none⟩) :
    ∃ (v1 v2 : Value) (w1 w2 : World),
      (Builtin.append_ #[24, 24] 24 #[.slice (some ⟨w.heap.size, 0, none⟩) 1 1, .slice (some A) (len - k) (cap - k)]).run Tryd.prog (w.alloc (.cells #[.int .i64 i] 3)) = .ok v1 w1 ∧
      (Builtin.append_ #[24, 24] 24 #[.slice (some ⟨g, 0, none⟩) k k, v1]).run Tryd.prog w1 = .ok v2 w2 ∧
      OwnI w2 base v2 (zs.take k ++ i :: zs.drop k) ∧ Below base w w2 := by
  obtain ⟨i0, hi, hz0, hz1, hz2⟩ := info_parts iinfo
  have hlc : len ≤ cap := by
    obtain ⟨_, h2⟩ := h
    rcases h2 with ⟨e, _⟩ | ⟨g', cap', cur, e, _, _, h3, _⟩
    · cases e
    · have : cap = cap' := by simpa using congrArg (fun v => match v with | Value.slice _ _ c => c | _ => 0) e
      omega
  have hcell : ∀ j z, zs[j]? = some z → w.cell? ⟨g, j, none⟩ = some (.int .i64 z) := by
    intro j z hz
    have hj := (List.getElem?_eq_some_iff.1 hz).1
    have h' := h
    unfold OwnI at h'
    rw [hlen] at h'
    rw [World.ownsRow.cellAt h' j (by omega), List.getElem?_map, hz]; rfl
  have hlit := World.ownsRow_lit (base := w.heap.size) (e := 3) (size := 1) w #[.int .i64 i] 1 (Nat.le_refl _) (by unfold maxLen; omega) rfl
  have hB0 := (Below.refl w.heap.size w).alloc (Nat.le_refl _) (.cells #[.int .i64 i] 3)
  have hnews : ∀ j u, ((zs.drop k).map (Value.int .i64))[j]? = some u → (w.alloc (.cells #[.int .i64 i] 3)).cell? (A.add j) = some u := by
    intro j u hj
    rw [List.getElem?_map, Option.map_eq_some_iff] at hj
    obtain ⟨z, hz, rfl⟩ := hj
    have hjl := (List.getElem?_eq_some_iff.1 hz).1
    rw [List.length_drop] at hjl
    rw [List.getElem?_drop] at hz
    rcases hA with ⟨e1, _⟩ | rfl
    · omega
    · rw [Go.WideShapes.add_plain]
      exact cell_then hB0 (hcell _ _ hz)
  obtain ⟨v1, w1, r1, o1, g1, n1⟩ := run_append_own (P := Tryd.prog) (w.alloc (.cells #[.int .i64 i] 3)) w.heap.size 24 24 3 i0 (.int .i64 0) 1 8 Tryd.underlying24 hi hz0 hz1 hz2 rfl (by decide)
    _ 1 _ hlit A (len - k) (cap - k) ((zs.drop k).map (Value.int .i64)) (by simp [hlen]) hnews (ints_one _) (by unfold maxLen; omega) (by omega) (by simp)
  have hB1 : Below w.heap.size w w1 := hB0.grown g1 (by simp) (fun q hq => by simp [Value.ownBlock] at hq; omega)
  have hl1 : 1 + (len - k) = (i :: zs.drop k).length := by simp [hlen]; omega
  have o1' : w1.ownsRow w.heap.size 3 1 v1 (i :: zs.drop k).length ((i :: zs.drop k).map (Value.int .i64)) := by rw [← hl1]; exact o1
  obtain ⟨ga, c1, hv1⟩ : ∃ ga c1, v1 = .slice (some ⟨ga, 0, none⟩) (1 + (len - k)) c1 := by
    rcases o1.2 with ⟨_, h0⟩ | ⟨ga, c1, cur, e, _⟩
    · omega
    · exact ⟨ga, c1, e⟩
  have hnews2 : ∀ j u, ((i :: zs.drop k).map (Value.int .i64))[j]? = some u → w1.cell? ((⟨ga, 0, none⟩ : Addr).add j) = some u := by
    intro j u hj
    have hjl := (List.getElem?_eq_some_iff.1 hj).1
    rw [Go.WideShapes.add_plain, Nat.zero_add]
    rw [hv1] at o1
    have := World.ownsRow.cellAt o1 j (by simp at hjl; omega)
    rw [this]
    exact hj
  have holds : ∀ j u, ((zs.take k).map (Value.int .i64))[j]? = some u → w1.cell? ((⟨g, 0, none⟩ : Addr).add j) = some u := by
    intro j u hj
    rw [List.getElem?_map, Option.map_eq_some_iff] at hj
    obtain ⟨z, hz, rfl⟩ := hj
    have hjk : j < k := by have := (List.getElem?_eq_some_iff.1 hz).1; rw [List.length_take] at this; omega
    rw [List.getElem?_take_of_lt hjk] at hz
    rw [Go.WideShapes.add_plain, Nat.zero_add]
    exact cell_then hB1 (hcell _ _ hz)
  obtain ⟨v2, w2, r2, o2, g2⟩ := run_append_arg_grows (P := Tryd.prog) w1 24 24 3 i0 (.int .i64 0) 1 8 Tryd.underlying24 hi hz0 hz1 hz2 rfl (by decide)
    ⟨g, 0, none⟩ k k ((zs.take k).map (Value.int .i64)) (by simp; omega) holds ⟨ga, 0, none⟩ (1 + (len - k)) c1 ((i :: zs.drop k).map (Value.int .i64)) (by simp [hlen]; omega) hnews2 (by omega) (by unfold maxLen; omega) (by omega)
  refine ⟨v1, v2, w1, w2, r1, by rw [hv1]; exact r2, ?_, ?_⟩
  · have e2 : k + (1 + (len - k)) = (zs.take k ++ i :: zs.drop k).length := by simp [hlen]; omega
    rw [e2, ← List.map_append] at o2
    exact OwnI.mono o2 (by have := hB1.size; omega)
  · exact (hB1.mono hb).grown g2 (by have := hB1.size; omega) (fun q hq => by cases hq)

/-- The first round, where the slice is nil. -/
theorem order_none {w : World} {base : Nat} (hb : base ≤ w.heap.size) (i : Int) :
    ∃ (v1 v2 : Value) (w1 w2 : World),
      (Builtin.append_ #[24, 24] 24 #[.slice (some ⟨w.heap.size, 0, none⟩) 1 1, .slice none 0 0]).run Tryd.prog (w.alloc (.cells #[.int .i64 i] 3)) = .ok v1 w1 ∧
      (Builtin.append_ #[24, 24] 24 #[.slice none 0 0, v1]).run Tryd.prog w1 = .ok v2 w2 ∧
      OwnI w2 base v2 [i] ∧ Below base w w2 := by
  obtain ⟨i0, hi, hz0, hz1, hz2⟩ := info_parts iinfo
  have hlit := World.ownsRow_lit (base := w.heap.size) (e := 3) (size := 1) w #[.int .i64 i] 1 (Nat.le_refl _) (by unfold maxLen; omega) rfl
  have hB0 := (Below.refl w.heap.size w).alloc (Nat.le_refl _) (.cells #[.int .i64 i] 3)
  have r1 := run_append_owned_none (P := Tryd.prog) _ w.heap.size 24 24 3 i0 1 Tryd.underlying24 hi _ 1 _ hlit
  obtain ⟨v2, w2, r2, o2, g2, _⟩ := run_append_own (P := Tryd.prog) (w.alloc (.cells #[.int .i64 i] 3)) base 24 24 3 i0 (.int .i64 0) 1 8 Tryd.underlying24 hi hz0 hz1 hz2 rfl (by decide)
    (.slice none 0 0) 0 [] (World.ownsRow_nil _ _ _ 1) ⟨w.heap.size, 0, none⟩ 1 1 [.int .i64 i] rfl (World.news_of_block (cs := #[.int .i64 i]) (t := 3) (fr := (0, 0)) (heap_alloc_new w _)) (by simp [Value.oneCell']) (by unfold maxLen; omega) (by omega) (by simp; omega)
  exact ⟨_, v2, _, w2, r1, r2, o2, (hB0.mono hb).grown g2 (by simp; omega) (fun q hq => by cases hq)⟩

/-- A new list of the numbers 0 to n - 1 in some order. -/
def NewOrder (n : Nat) (B b : Nat) (w : World) (e : Ending) (w' : World) : Prop := ∃ (v : Value) (zs : List Int), e = .returned v ∧ OwnI w' w.heap.size v zs ∧ zs.Perm ((List.range n).map Int.ofNat) ∧ St w B b w'

theorem perm_step {zs : List Int} {k : Nat} (h : zs.Perm ((List.range k).map Int.ofNat)) (j : Nat) : (zs.take j ++ (k : Int) :: zs.drop j).Perm ((List.range (k + 1)).map Int.ofNat) := by
  rw [List.range_succ, List.map_append]
  refine (List.perm_middle).trans ?_
  rw [List.take_append_drop]
  refine ((h.cons (k : Int))).trans ?_
  exact (List.perm_append_singleton (k : Int) _).symm

theorem OwnI.form {w : World} {base : Nat} {v : Value} {zs : List Int} (h : OwnI w base v zs) (h0 : 0 < zs.length) : ∃ g cap : Nat, v = .slice (some ⟨g, 0, none⟩) zs.length cap ∧ zs.length ≤ cap ∧ cap ≤ 9223372036854775807 := by
  obtain ⟨_, h2⟩ := h
  rcases h2 with ⟨_, h2⟩ | ⟨g, cap, cur, e, _, _, h3, h4, _⟩
  · omega
  · exact ⟨g, cap, e, h3, by unfold maxLen at h4; omega⟩

set_option maxRecDepth 100000 in
theorem order_ok (B b n : Nat) (w : World) (h : ∃ l, SrcIs w B b l) (hn : n ≤ 1000) : Calls Tryd.prog 20 #[.pointer (some ⟨b, 0, none⟩), .int .i64 n] w (NewOrder n B b w) := by
  have hbw : b < w.heap.size := by obtain ⟨l, hl⟩ := h; exact hl.lt
  have Hs0 : Hid (St w B b w) := ⟨h, But.refl _ _ _⟩
  clear h
  go_enter Tryd.func20, Tryd.ntmps20
  go_wp2_with fail
  go_loopw [5, 6] (fun v c wr => ∃ (k : Nat) (zs : List Int), k ≤ n ∧ c = .int .i64 k ∧ Hid (OwnI wr w.heap.size v zs) ∧ Hid (zs.Perm ((List.range k).map Int.ofNat)) ∧ Hid (zs.length = k) ∧ Hid (k = 0 → v = .slice none 0 0) ∧ Hid (St w B b wr)) (fun _ c _ => (n - intOf c).toNat)
  case atStart => exact ⟨0, [], by omega, rfl, OwnI.nil _ _, List.Perm.refl _, rfl, fun _ => rfl, Hs0⟩
  case round =>
    obtain ⟨k, zs, hk, rfl, hown, hperm, hlen, hnil, hst⟩ := hrel
    have hsz := hst.out.size
    by_cases hlt : k < n
    · rcases Nat.eq_zero_or_pos k with rfl | hpos
      · obtain rfl := hnil.out rfl
        go_wp2_with fail
        refine (n_ok B b 1 wr hst.out.1 (by omega) (by omega)).mono ?_
        rintro r w1 ⟨x, hx0, hx1, rfl, hs1⟩
        obtain rfl : x = 0 := by omega
        have hst1 := Lib.hid (hst.out.then _ hs1.1.choose_spec hs1.2)
        have hsz1 : w.heap.size ≤ w1.heap.size := hst1.out.size
        clear hs1
        obtain ⟨v1, v2, w2, w3, r1, r2, o3, b3⟩ := order_none (base := w.heap.size) hsz1 0
        have Hr1 := Lib.hid r1
        have Hr2 := Lib.hid r2
        have Ho := Lib.hid o3
        have Hst := Lib.hid (hst1.out.grown b3 hbw (Nat.le_refl _))
        clear r1 r2 o3 b3
        go_wp2_with (at_builtin; first | (refine wpList_append_run rfl (.tmp 20) (.tmp 23) 24 rfl _ _ _ _ rfl rfl Hr1.out ?_) | (refine wpList_append_run rfl (.tmp 28) (.tmp 29) 24 rfl _ _ _ _ rfl rfl Hr2.out ?_))
        go_roundw
        case rel => exact ⟨1, [0], by omega, by go_num, Ho, List.Perm.refl _, rfl, by intro h; omega, Hst⟩
        case measure => simp [intOf]; omega
      · obtain ⟨g, cap, rfl, hc1, hc2⟩ := hown.out.form (by rw [hlen.out]; exact hpos)
        rw [hlen.out] at hown hc1 ⊢
        go_wp2_with fail
        refine (n_ok B b ((k : Int) + 1) wr hst.out.1 (by omega) (by omega)).mono ?_
        rintro r w1 ⟨x, hx0, hx1, rfl, hs1⟩
        obtain ⟨j, rfl⟩ : ∃ j : Nat, x = j := ⟨x.toNat, by omega⟩
        have hj : j ≤ k := by omega
        have hst1 := Lib.hid (hst.out.then _ hs1.1.choose_spec hs1.2)
        have hown1 := Lib.hid (hown.out.but hs1.2 hbw)
        have hsz1 : w.heap.size ≤ w1.heap.size := hst1.out.size
        clear hs1
        have fin : ∀ A, ((cap = j ∧ A = (⟨g, 0, none⟩ : Addr)) ∨ A = ⟨g, j, none⟩) → Hid (∃ (v1 v2 : Value) (w2 w3 : World),
      (Builtin.append_ #[24, 24] 24 #[.slice (some ⟨w1.heap.size, 0, none⟩) 1 1, .slice (some A) (k - j) (cap - j)]).run Tryd.prog (w1.alloc (.cells #[.int .i64 k] 3)) = .ok v1 w2 ∧
      (Builtin.append_ #[24, 24] 24 #[.slice (some ⟨g, 0, none⟩) j j, v1]).run Tryd.prog w2 = .ok v2 w3 ∧
      OwnI w3 w.heap.size v2 (zs.take j ++ (k : Int) :: zs.drop j) ∧ Below w.heap.size w1 w3) := fun A hA => order_some hown1.out hsz1 hlen.out (by omega) j hj k A hA
        by_cases hcj : cap = j
        · obtain rfl : j = cap := hcj.symm
          obtain rfl : j = k := by omega
          obtain ⟨v1, v2, w2, w3, r1, r2, o3, b3⟩ := (fin ⟨g, 0, none⟩ (Or.inl ⟨rfl, rfl⟩)).out
          simp only [Nat.sub_self] at r1
          have Hr1 := Lib.hid r1
          have Hr2 := Lib.hid r2
          have Ho := Lib.hid o3
          have Hst := Lib.hid (hst1.out.grown b3 hbw (Nat.le_refl _))
          clear r1 r2 o3 b3 fin
          go_wp2_with (at_builtin; first | (refine wpList_append_run rfl (.tmp 20) (.tmp 23) 24 rfl _ _ _ _ rfl rfl Hr1.out ?_) | (refine wpList_append_run rfl (.tmp 28) (.tmp 29) 24 rfl _ _ _ _ rfl rfl Hr2.out ?_))
          go_roundw
          case rel => exact ⟨j + 1, _, by omega, by go_num, Ho, perm_step hperm.out _, by unfold Hid; simp [hlen.out] <;> omega, by intro h; omega, Hst⟩
          case measure => simp [intOf]; omega
        · obtain ⟨v1, v2, w2, w3, r1, r2, o3, b3⟩ := (fin ⟨g, j, none⟩ (Or.inr rfl)).out
          have Hr1 := Lib.hid r1
          have Hr2 := Lib.hid r2
          have Ho := Lib.hid o3
          have Hst := Lib.hid (hst1.out.grown b3 hbw (Nat.le_refl _))
          have hjc : j < cap := by omega
          clear r1 r2 o3 b3 fin hcj
          go_wp2_with (at_builtin; first | (refine wpList_append_run rfl (.tmp 20) (.tmp 23) 24 rfl _ _ _ _ rfl rfl Hr1.out ?_) | (refine wpList_append_run rfl (.tmp 28) (.tmp 29) 24 rfl _ _ _ _ rfl rfl Hr2.out ?_))
          go_roundw
          case rel => exact ⟨k + 1, _, by omega, by go_num, Ho, perm_step hperm.out _, by unfold Hid; simp [hlen.out] <;> omega, by intro h; omega, Hst⟩
          case measure => simp [intOf]; omega
    · obtain rfl : k = n := by omega
      go_wp2_with fail
      go_ret
      exact ⟨_, zs, rfl, hown.out, hperm.out, hst.out⟩
end Go.Proofs.YtanfbfmchhbgfaaDoor
