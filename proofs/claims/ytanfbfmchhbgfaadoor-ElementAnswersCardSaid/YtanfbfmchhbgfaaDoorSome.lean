/- Some of the reference of element returns a valid reading of its element, whatever the reader holds. No conditions but that there is such an element. -/
import Derived.Test.YtanfbfmchhbgfaaDoorKeep
import Derived.Test.YtanfbfmchhbgfaaDoorParseR
import Derived.Deep.RegionWith
namespace Go.Proofs.YtanfbfmchhbgfaaDoor
open Go Go.RowKit

/-- Since world w0 nothing has turned but the reader in block b. -/
def St (w0 : World) (B b : Nat) (w : World) : Prop := (∃ l, SrcIs w B b l) ∧ But w0.heap.size b w0 w
theorem St.size {w0 w : World} {B b : Nat} (h : St w0 B b w) : w0.heap.size ≤ w.heap.size := h.2.size
theorem St.lt {w0 w : World} {B b : Nat} (h : St w0 B b w) : b < w.heap.size := by obtain ⟨⟨l, hl⟩, _⟩ := h; exact hl.lt
theorem St.le {w0 w : World} {B b : Nat} (h : St w0 B b w) : B ≤ b := by obtain ⟨⟨l, hl⟩, _⟩ := h; exact hl.le
theorem St.alloc {w0 w : World} {B b : Nat} (h : St w0 B b w) (o : Obj) : St w0 B b (w.alloc o) := by
  obtain ⟨⟨l, hl⟩, hb⟩ := h
  exact ⟨⟨l, hl.alloc o⟩, hb.alloc hb.size o⟩
theorem St.drewN {w0 w : World} {B b : Nat} (h : St w0 B b w) (n : Nat) : St w0 B b (w.drewN n) := by
  obtain ⟨⟨l, hl⟩, hb⟩ := h
  exact ⟨⟨l, hl.drewN n⟩, hb.drewN n⟩
theorem St.drew {w0 w : World} {B b : Nat} (h : St w0 B b w) : St w0 B b w.drew := by
  obtain ⟨⟨l, hl⟩, hb⟩ := h
  exact ⟨⟨l, hl.drew⟩, hb.drew⟩
theorem St.below {w0 w w' : World} {B b : Nat} (h : St w0 B b w) (hw : Below w.heap.size w w') : St w0 B b w' := by
  obtain ⟨⟨l, hl⟩, hb⟩ := h
  exact ⟨⟨l, hl.below hw hl.lt⟩, hb.trans (But.of_below (hw.mono hb.size))⟩
theorem St.setCell {w0 w : World} {B b : Nat} (h : St w0 B b w) {p : Addr} (hp : w0.heap.size ≤ p.block) (hn : p.block ≠ b) (hB : B ≤ p.block) (u : Value) : St w0 B b (w.setCell p u) := by
  obtain ⟨⟨l, hl⟩, hb⟩ := h
  exact ⟨⟨l, hl.setCell hn hB u⟩, hb.setCell (Or.inl hp) u⟩
/-- Behind a call that has written the reader. -/
theorem St.then {w0 w w' : World} {B b : Nat} (h : St w0 B b w) (l : List Int) (hs : SrcIs w' B b l) (hb : But w.heap.size b w w') : St w0 B b w' :=
  ⟨⟨l, hs⟩, h.2.trans (hb.mono h.2.size)⟩
theorem St.re {w0 w : World} {B b : Nat} (h : St w0 B b w) : St w B b w := ⟨h.1, But.refl _ _ _⟩
theorem St.glo {w0 w : World} {B b : Nat} (h : St w0 B b w) (hG : Glo w0) (hb : 1 < b) : Glo w := hG.but h.2 hG.size hb

/-- A call that returns a number of a range, and writes the reader at most. -/
def IntIn (lo hi : Int) (B b : Nat) (w : World) (e : Ending) (w' : World) : Prop := ∃ x : Int, lo ≤ x ∧ x ≤ hi ∧ e = .returned (.int .i64 x) ∧ St w B b w'

theorem n_ok (B b : Nat) (n : Int) (w : World) (h : ∃ l, SrcIs w B b l) (h1 : 1 ≤ n) (h2 : n ≤ 1000000000) :
    Calls Tryd.prog 22 #[.pointer (some ⟨b, 0, none⟩), .int .i64 n] w (IntIn 0 (n - 1) B b w) := by
  obtain ⟨l, hl⟩ := h
  refine (n_any B b l n w hl (by unfold I64; omega)).mono ?_
  rintro e w' ⟨rfl, hs, hb⟩
  have hm := @modOf_lt (l.headD 0) n h1
  exact ⟨_, hm.1, by omega, rfl, ⟨_, hs⟩, hb⟩
theorem range_ok (B b : Nat) (lo hi : Int) (w : World) (h : ∃ l, SrcIs w B b l) (hlo : -1000000000 ≤ lo) (hhi : hi ≤ 1000000000) (hle : lo ≤ hi) :
    Calls Tryd.prog 11 #[.pointer (some ⟨b, 0, none⟩), .int .i64 lo, .int .i64 hi] w (IntIn lo hi B b w) := by
  obtain ⟨l, hl⟩ := h
  refine (range_any B b l lo hi w hl hlo hhi hle).mono ?_
  rintro e w' ⟨rfl, hs, hb⟩
  have hm := @modOf_lt (l.headD 0) (hi - lo + 1) (by omega)
  exact ⟨_, by omega, by omega, rfl, ⟨_, hs⟩, hb⟩

theorem but_cell {wx w' : World} {b : Nat} {a : Addr} {v : Value} (hb : But wx.heap.size b wx w') (hn : a.block ≠ b) (h : wx.cell? a = some v) : w'.cell? a = some v := by
  rw [hb.cell (World.block_lt_of_cell? _ _ h) hn]; exact h

/-- Pick of two numbers is one of the two. -/
def TwoOf (x y : Int) (B b : Nat) (w : World) (e : Ending) (w' : World) : Prop := ∃ z : Int, (z = x ∨ z = y) ∧ e = .returned (.int .i64 z) ∧ St w B b w'
theorem pick_two (B b c : Nat) (x y : Int) (w : World) (h : ∃ l, SrcIs w B b l) (hc : c ≠ b) (h0 : w.cell? ⟨c, 0, none⟩ = some (.int .i64 x)) (h1 : w.cell? ⟨c, 1, none⟩ = some (.int .i64 y)) :
    Calls Tryd.prog 34 #[.pointer (some ⟨b, 0, none⟩), .slice (some ⟨c, 0, none⟩) 2 2] w (TwoOf x y B b w) := by
  have hn := n_ok B b 2 w h (by omega) (by omega)
  have Hn := Lib.hid hn
  have Hh := Lib.hid h
  clear hn h
  go_enter Tryd.func34, Tryd.ntmps34
  go_wp2_with fail
  refine Hn.out.mono ?_
  rintro e w' ⟨k, hk0, hk1, rfl, hs⟩
  have g0 := but_cell hs.2 (by simpa using hc) h0
  have g1 := but_cell hs.2 (by simpa using hc) h1
  have hk : k = 0 ∨ k = 1 := by omega
  rcases hk with rfl | rfl
  · go_wp2_with fail
    go_ret
    exact ⟨x, Or.inl rfl, rfl, hs⟩
  · go_wp2_with fail
    go_ret
    exact ⟨y, Or.inr rfl, rfl, hs⟩

/-- A valid reading of the element c. -/
def Valid1 (c : Int) (B b : Nat) (w : World) (e : Ending) (w' : World) : Prop := ∃ v : Int, chk c v = 0 ∧ e = .returned (.agg #[.int .i64 c, .int .i64 v]) ∧ St w B b w'

theorem mid_ok {c : Int} (h : 1 ≤ c ∧ c ≤ 11) : least c ≤ (least c + most c) / 2 - 40 ∧ (least c + most c) / 2 + 40 ≤ most c ∧ 0 ≤ least c + most c ∧ least c ≤ most c ∧ -1000 ≤ least c ∧ most c ≤ 11000 ∧ least c ≤ 10000 :=
  eleven (P := fun c => least c ≤ (least c + most c) / 2 - 40 ∧ (least c + most c) / 2 + 40 ≤ most c ∧ 0 ≤ least c + most c ∧ least c ≤ most c ∧ -1000 ≤ least c ∧ most c ≤ 11000 ∧ least c ≤ 10000) (by decide) (by decide) (by decide) (by decide) (by decide) (by decide) (by decide) (by decide) (by decide) (by decide) (by decide) c h

set_option maxHeartbeats 4000000 in
theorem some_ok (B b : Nat) (c : Int) (w : World) (h : ∃ l, SrcIs w B b l) (hc : 1 ≤ c ∧ c ≤ 11) :
    Calls Tryd.prog 10 #[.pointer (some ⟨b, 0, none⟩), .int .i64 c] w (Valid1 c B b w) := by
  have hd := fun w1 => rdesc_any c w1
  have Hd := Lib.hid hd
  have hm := mid_ok hc
  have h1 : Hid (infoOf c = infoV (letter c) (least c) (most c) (digits c)) := rfl
  have hchk : Hid (∀ v, least c ≤ v → v ≤ most c → chk c v = 0) := by
    intro v a1 a2; unfold chk; rw [if_pos hc, if_neg (by omega)]
  have hr := fun w1 (h : ∃ l, SrcIs w1 B b l) => range_ok B b (least c) (most c) w1 h (by omega) (by omega) (by omega)
  have Hr := Lib.hid hr
  have hn := fun w1 (h : ∃ l, SrcIs w1 B b l) => n_ok B b 5 w1 h (by omega) (by omega)
  have Hn := Lib.hid hn
  have hq := fun w1 (h : ∃ l, SrcIs w1 B b l) => range_ok B b (-40) 40 w1 h (by omega) (by omega) (by omega)
  have Hq := Lib.hid hq
  have hbw : b < w.heap.size := by obtain ⟨l, hl⟩ := h; exact hl.lt
  have hBb : B ≤ b := by obtain ⟨l, hl⟩ := h; exact hl.le
  have Hs0 : Hid (St w B b w) := ⟨h, But.refl _ _ _⟩
  clear hd hr hn hq h
  generalize hde : descE c = de at *
  generalize letter c = L at *
  generalize digits c = dg at *
  generalize least c = lo at *
  generalize most c = hi at *
  have Hde := Lib.hid hde
  clear hde
  go_enter Tryd.func10, Tryd.ntmps10
  go_wp2_with fail
  refine (Hd.out _).mono ?_
  rintro r w1 ⟨rfl, hb⟩
  rw [h1.out, Hde.out]
  unfold infoV
  have q0 : w1.cell? ⟨w.heap.size, 0, none⟩ = some (.int .i64 0) := cell_then hb (by simp)
  have q1 : w1.cell? ⟨w.heap.size, 1, none⟩ = some (.int .i64 0) := cell_then hb (by simp)
  have f0 : w1.frozen? ⟨w.heap.size, 0, none⟩ = false := by rw [hb.frozen (by simp)]; simp
  have f1 : w1.frozen? ⟨w.heap.size, 1, none⟩ = false := by rw [hb.frozen (by simp)]; simp
  have Hs1 := Lib.hid ((Hs0.out.alloc (.cells #[.int .i64 0, .int .i64 0] 23)).below hb)
  have hz1 : w.heap.size < w1.heap.size := World.block_lt_of_cell? (a := ⟨w.heap.size, 0, none⟩) _ q0
  clear hb
  go_wp2_with fail
  refine (Hr.out _ (Hs1.out.alloc _).1).mono ?_
  rintro r w2 ⟨v, hv1, hv2, rfl, hs⟩
  have Hs2 := Lib.hid ((Hs1.out.alloc (.cells #[.string L, .int .i64 lo, .int .i64 hi, .int .i64 dg] 39)).then _ hs.1.choose_spec hs.2)
  have e1 : w2.cell? ⟨w1.heap.size, 1, none⟩ = some (.int .i64 lo) := but_cell hs.2 (by simp; omega) (by simp)
  have e2 : w2.cell? ⟨w1.heap.size, 2, none⟩ = some (.int .i64 hi) := but_cell hs.2 (by simp; omega) (by simp)
  have p0 : w2.cell? ⟨w.heap.size, 0, none⟩ = some (.int .i64 0) := but_cell hs.2 (by simp; omega) (by simp [World.cell?_alloc_lt, hz1, q0])
  have p1 : w2.cell? ⟨w.heap.size, 1, none⟩ = some (.int .i64 0) := but_cell hs.2 (by simp; omega) (by simp [World.cell?_alloc_lt, hz1, q1])
  have g0 : w2.frozen? ⟨w.heap.size, 0, none⟩ = false := by rw [hs.2.frozen (by simp; omega) (by simp; omega), World.frozen?_alloc_old _ _ _ (by simp; omega)]; exact f0
  have g1 : w2.frozen? ⟨w.heap.size, 1, none⟩ = false := by rw [hs.2.frozen (by simp; omega) (by simp; omega), World.frozen?_alloc_old _ _ _ (by simp; omega)]; exact f1
  have hz2 : w1.heap.size < w2.heap.size := World.block_lt_of_cell? (a := ⟨w1.heap.size, 1, none⟩) _ e1
  clear hs q0 q1 f0 f1
  go_wp2_with fail
  refine (Hn.out _ (Hs2.out.alloc _).1).mono ?_
  rintro r w3 ⟨k, hk0, hk1, rfl, hs⟩
  have Hs3 := Lib.hid ((Hs2.out.alloc (.cells #[.int .i64 c, .int .i64 v] 23)).then _ hs.1.choose_spec hs.2)
  have i1 : w3.cell? ⟨w1.heap.size, 1, none⟩ = some (.int .i64 lo) := but_cell hs.2 (by simp; omega) (by simp [World.cell?_alloc_lt, hz2, e1])
  have i2 : w3.cell? ⟨w1.heap.size, 2, none⟩ = some (.int .i64 hi) := but_cell hs.2 (by simp; omega) (by simp [World.cell?_alloc_lt, hz2, e2])
  have p0' : w3.cell? ⟨w.heap.size, 0, none⟩ = some (.int .i64 0) := but_cell hs.2 (by simp; omega) (by rw [World.cell?_alloc_old _ _ _ (by simp; omega)]; exact p0)
  have p1' : w3.cell? ⟨w.heap.size, 1, none⟩ = some (.int .i64 0) := but_cell hs.2 (by simp; omega) (by rw [World.cell?_alloc_old _ _ _ (by simp; omega)]; exact p1)
  have g0' : w3.frozen? ⟨w.heap.size, 0, none⟩ = false := by rw [hs.2.frozen (by simp; omega) (by simp; omega), World.frozen?_alloc_old _ _ _ (by simp; omega)]; exact g0
  have g1' : w3.frozen? ⟨w.heap.size, 1, none⟩ = false := by rw [hs.2.frozen (by simp; omega) (by simp; omega), World.frozen?_alloc_old _ _ _ (by simp; omega)]; exact g1
  have j0 : w3.cell? ⟨w2.heap.size, 0, none⟩ = some (.int .i64 c) := but_cell hs.2 (by simp; omega) (by simp)
  have j1 : w3.cell? ⟨w2.heap.size, 1, none⟩ = some (.int .i64 v) := but_cell hs.2 (by simp; omega) (by simp)
  have jf : w3.frozen? ⟨w2.heap.size, 1, none⟩ = false := by rw [hs.2.frozen (by simp) (by simp; omega)]; simp
  have hz3 : w2.heap.size < w3.heap.size := World.block_lt_of_cell? (a := ⟨w2.heap.size, 0, none⟩) _ j0
  clear hs p0 p1 g0 g1 e1 e2
  have hk : k = 0 ∨ k = 1 ∨ k = 2 ∨ (3 ≤ k ∧ k ≤ 4) := by omega
  rcases hk with rfl | rfl | rfl | hk
  · go_wp2_with fail
    refine (pick_two B b w3.heap.size lo hi _ (Hs3.out.alloc _).1 (by omega) (by simp) (by simp)).mono ?_
    rintro r w4 ⟨z, hzz, rfl, hs⟩
    have Hs4 := Lib.hid ((Hs3.out.alloc (.cells #[.int .i64 lo, .int .i64 hi] 3)).then _ hs.1.choose_spec hs.2)
    have r0 : w4.cell? ⟨w.heap.size, 0, none⟩ = some (.int .i64 0) := but_cell hs.2 (by simp; omega) (by rw [World.cell?_alloc_old _ _ _ (by simp; omega)]; exact p0')
    have r1 : w4.cell? ⟨w.heap.size, 1, none⟩ = some (.int .i64 0) := but_cell hs.2 (by simp; omega) (by rw [World.cell?_alloc_old _ _ _ (by simp; omega)]; exact p1')
    have rf0 : w4.frozen? ⟨w.heap.size, 0, none⟩ = false := by rw [hs.2.frozen (by simp; omega) (by simp; omega), World.frozen?_alloc_old _ _ _ (by simp; omega)]; exact g0'
    have rf1 : w4.frozen? ⟨w.heap.size, 1, none⟩ = false := by rw [hs.2.frozen (by simp; omega) (by simp; omega), World.frozen?_alloc_old _ _ _ (by simp; omega)]; exact g1'
    have s0 : w4.cell? ⟨w2.heap.size, 0, none⟩ = some (.int .i64 c) := but_cell hs.2 (by simp; omega) (by rw [World.cell?_alloc_old _ _ _ (by simp; omega)]; exact j0)
    have s1 : w4.cell? ⟨w2.heap.size, 1, none⟩ = some (.int .i64 v) := but_cell hs.2 (by simp; omega) (by rw [World.cell?_alloc_old _ _ _ (by simp; omega)]; exact j1)
    have sf : w4.frozen? ⟨w2.heap.size, 1, none⟩ = false := by rw [hs.2.frozen (by simp; omega) (by simp; omega), World.frozen?_alloc_old _ _ _ (by simp; omega)]; exact jf
    clear hs p0' p1' g0' g1' j0 j1 jf i1 i2
    go_wp2_with fail
    exact bodyPost_ret (v := .agg #[.int .i64 c, .int .i64 z]) (by simp [results, Tryd.results10, go_sem, r0, r1]) rfl ⟨z, hchk.out z (by omega) (by omega), rfl, ((Hs4.out.setCell (p := ⟨w2.heap.size, 1, none⟩) (by simp; omega) (by simp; omega) (by simp; omega) _).setCell (p := ⟨w.heap.size, 0, none⟩) (by simp) (by simp; omega) (by simp; omega) _).setCell (p := ⟨w.heap.size, 1, none⟩) (by simp) (by simp; omega) (by simp; omega) _⟩
  · have y1 : IntKind.i64.wrap (lo + hi) = lo + hi := IntWalk.i64_in _ (by omega)
    have y2 : IntKind.i64.wrap ((lo + hi).tdiv 2) = (lo + hi) / 2 := IntWalk.i64_quo _ _ (by omega)
    go_wp2_with fail
    have z3 : ∃ l, SrcIs w3.drew B b l := Hs3.out.drew.1
    have Z3 := Lib.hid z3
    clear z3
    go_region_with (first | (go_at_call 11; ((with_reducible refine (Hq.out _ Z3.out).mono ?_); rintro r w4 ⟨u, hu1, hu2, rfl, hs⟩; have m1 : w4.cell? ⟨w1.heap.size, 1, none⟩ = some (.int .i64 lo) := but_cell hs.2 (by simp; omega) i1; have m2 : w4.cell? ⟨w1.heap.size, 2, none⟩ = some (.int .i64 hi) := but_cell hs.2 (by simp; omega) i2; have m3 : w4.cell? ⟨w2.heap.size, 1, none⟩ = some (.int .i64 v) := but_cell hs.2 (by simp; omega) j1; have m4 : w4.frozen? ⟨w2.heap.size, 1, none⟩ = false := (by rw [hs.2.frozen (by simp; omega) (by simp; omega)]; exact jf); have y3 : IntKind.i64.wrap ((lo + hi) / 2 + u) = (lo + hi) / 2 + u := IntWalk.i64_in _ (by omega))))
    all_goals
      have r0 : w4.cell? ⟨w.heap.size, 0, none⟩ = some (.int .i64 0) := but_cell hs.2 (by simp; omega) p0'
      have r1 : w4.cell? ⟨w.heap.size, 1, none⟩ = some (.int .i64 0) := but_cell hs.2 (by simp; omega) p1'
      have rf0 : w4.frozen? ⟨w.heap.size, 0, none⟩ = false := by rw [hs.2.frozen (by simp; omega) (by simp; omega)]; exact g0'
      have rf1 : w4.frozen? ⟨w.heap.size, 1, none⟩ = false := by rw [hs.2.frozen (by simp; omega) (by simp; omega)]; exact g1'
      have s0 : w4.cell? ⟨w2.heap.size, 0, none⟩ = some (.int .i64 c) := but_cell hs.2 (by simp; omega) j0
      have s1 : w4.cell? ⟨w2.heap.size, 1, none⟩ = some (.int .i64 v) := but_cell hs.2 (by simp; omega) j1
      have Hs4 := Lib.hid (Hs3.out.drew.then _ hs.1.choose_spec hs.2)
      clear y1 y2
      have b1 : lo ≤ (lo + hi) / 2 + u := by omega
      have b2 : (lo + hi) / 2 + u ≤ hi := by omega
      generalize (lo + hi) / 2 + u = x at *
      go_wp2_with fail
      exact bodyPost_ret (v := .agg #[.int .i64 c, .int .i64 x]) (by simp [results, Tryd.results10, go_sem, r0, r1]) rfl ⟨x, hchk.out x (by omega) (by omega), rfl, ((Hs4.out.setCell (p := ⟨w2.heap.size, 1, none⟩) (by simp; omega) (by simp; omega) (by simp; omega) _).setCell (p := ⟨w.heap.size, 0, none⟩) (by simp) (by simp; omega) (by simp; omega) _).setCell (p := ⟨w.heap.size, 1, none⟩) (by simp) (by simp; omega) (by simp; omega) _⟩
  · have y1 : IntKind.i64.wrap (lo + hi) = lo + hi := IntWalk.i64_in _ (by omega)
    have y2 : IntKind.i64.wrap ((lo + hi).tdiv 2) = (lo + hi) / 2 := IntWalk.i64_quo _ _ (by omega)
    go_wp2_with fail
    have z3 : ∃ l, SrcIs w3.drew B b l := Hs3.out.drew.1
    have Z3 := Lib.hid z3
    clear z3
    go_region_with (first | (go_at_call 11; ((with_reducible refine (Hq.out _ Z3.out).mono ?_); rintro r w4 ⟨u, hu1, hu2, rfl, hs⟩; have m1 : w4.cell? ⟨w1.heap.size, 1, none⟩ = some (.int .i64 lo) := but_cell hs.2 (by simp; omega) i1; have m2 : w4.cell? ⟨w1.heap.size, 2, none⟩ = some (.int .i64 hi) := but_cell hs.2 (by simp; omega) i2; have m3 : w4.cell? ⟨w2.heap.size, 1, none⟩ = some (.int .i64 v) := but_cell hs.2 (by simp; omega) j1; have m4 : w4.frozen? ⟨w2.heap.size, 1, none⟩ = false := (by rw [hs.2.frozen (by simp; omega) (by simp; omega)]; exact jf); have y3 : IntKind.i64.wrap ((lo + hi) / 2 + u) = (lo + hi) / 2 + u := IntWalk.i64_in _ (by omega))))
    all_goals
      have r0 : w4.cell? ⟨w.heap.size, 0, none⟩ = some (.int .i64 0) := but_cell hs.2 (by simp; omega) p0'
      have r1 : w4.cell? ⟨w.heap.size, 1, none⟩ = some (.int .i64 0) := but_cell hs.2 (by simp; omega) p1'
      have rf0 : w4.frozen? ⟨w.heap.size, 0, none⟩ = false := by rw [hs.2.frozen (by simp; omega) (by simp; omega)]; exact g0'
      have rf1 : w4.frozen? ⟨w.heap.size, 1, none⟩ = false := by rw [hs.2.frozen (by simp; omega) (by simp; omega)]; exact g1'
      have s0 : w4.cell? ⟨w2.heap.size, 0, none⟩ = some (.int .i64 c) := but_cell hs.2 (by simp; omega) j0
      have s1 : w4.cell? ⟨w2.heap.size, 1, none⟩ = some (.int .i64 v) := but_cell hs.2 (by simp; omega) j1
      have Hs4 := Lib.hid (Hs3.out.drew.then _ hs.1.choose_spec hs.2)
      clear y1 y2
      have b1 : lo ≤ (lo + hi) / 2 + u := by omega
      have b2 : (lo + hi) / 2 + u ≤ hi := by omega
      generalize (lo + hi) / 2 + u = x at *
      go_wp2_with fail
      exact bodyPost_ret (v := .agg #[.int .i64 c, .int .i64 x]) (by simp [results, Tryd.results10, go_sem, r0, r1]) rfl ⟨x, hchk.out x (by omega) (by omega), rfl, ((Hs4.out.setCell (p := ⟨w2.heap.size, 1, none⟩) (by simp; omega) (by simp; omega) (by simp; omega) _).setCell (p := ⟨w.heap.size, 0, none⟩) (by simp) (by simp; omega) (by simp; omega) _).setCell (p := ⟨w.heap.size, 1, none⟩) (by simp) (by simp; omega) (by simp; omega) _⟩
  · go_wp2_with fail
    exact bodyPost_ret (v := .agg #[.int .i64 c, .int .i64 v]) (by simp [results, Tryd.results10, go_sem, p0', p1']) rfl ⟨v, hchk.out v hv1 hv2, rfl, (Hs3.out.setCell (p := ⟨w.heap.size, 0, none⟩) (by simp) (by simp; omega) (by simp; omega) _).setCell (p := ⟨w.heap.size, 1, none⟩) (by simp) (by simp; omega) (by simp; omega) _⟩
end Go.Proofs.YtanfbfmchhbgfaaDoor
