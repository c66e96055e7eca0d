/- Part 4 of the proof: laws on memory and what functions of the program return. No conditions but those that each theorem names. -/
import Derived.Test.YtobaoekibnloiaaGreatDoorR03
import Derived.Deep.DeepCutAuto
import Derived.Deep.CutBlock
import Derived.Deep.Light
import Derived.BigRegion
import Derived.Laws.BytesArg
set_option linter.unusedVariables false
set_option linter.unusedSimpArgs false
/- The law's event. -/
namespace Go.Proofs.YtobaoekibnloiaaGreatDoor
open Go Go.RowKit

def PlOk (x : Ev) : Prop := ¬ longI x.face ∧ ¬ longI x.pa ∧ ¬ longI x.pb ∧ ¬ longI x.pc
/-- What the law's event returns. -/
def EventIs (B b : Nat) (w : World) (e : Ending) (w' : World) : Prop :=
  ∃ (x : Ev) (bv cv : Value), e = .returned (x.val bv cv) ∧ EvParts w.heap.size w' x bv cv ∧ x.Within 12 2 ∧ PlOk x ∧ bv.oneCell' = true ∧ cv.oneCell' = true ∧ St w B b w'
/-- The event that is being made. -/
def EvS (w : World) (B b eb : Nat) (wx : World) : Prop :=
  ∃ (x : Ev) (bv cv : Value), EvAt wx eb (evCells x bv cv) ∧ EvParts (eb + 1) wx x bv cv ∧ x.Within 12 2 ∧ PlOk x ∧ bv.oneCell' = true ∧ cv.oneCell' = true ∧ St w B b wx ∧ EvAt wx w.heap.size (evCells Ev.zero (.slice none 0 0) (.slice none 0 0))
theorem ev_st {w v wz : World} {B b : Nat} (h : St w B b v) (ha : Apart w.heap.size v wz) (hb : b < w.heap.size) : St w B b wz :=
  ⟨h.1.of_same (ha.2.2.2.2 b (by omega)) (fun k hk _ => ha.2.2.2.2 k (by have := h.1.le; omega)), h.2.trans ⟨ha.1, ha.2.1, ha.2.2.1, Nat.le_of_eq ha.2.2.2.1.symm, fun k hk _ => ha.2.2.2.2 k (by omega)⟩⟩
/-- The station's event under way. -/
def StS (w : World) (B b eb : Nat) (w' : World) : Prop := ∃ (st : Int) (nm : ByteArray), I64 st ∧ nm.size ≤ 5 ∧ EvAt w' eb (evCells { Ev.zero with kind := 4, station := st, name := nm } (.slice none 0 0) (.slice none 0 0)) ∧ EvAt w' w.heap.size (evCells Ev.zero (.slice none 0 0) (.slice none 0 0)) ∧ St w B b w'
/-- Blocks but for two hold what they held. -/
def Kept2 (b eb : Nat) (w1 w2 : World) : Prop := w1.heap.size ≤ w2.heap.size ∧ ∀ k, k < w1.heap.size → k ≠ b → k ≠ eb → w2.heap[k]? = w1.heap[k]?
theorem Kept2.refl (b eb : Nat) (w : World) : Kept2 b eb w w := ⟨Nat.le_refl _, fun _ _ _ _ => rfl⟩
theorem Kept2.of_but {b eb : Nat} {w w' : World} (h : But w.heap.size b w w') : Kept2 b eb w w' := ⟨h.size, fun k hk hn _ => h.block k hk hn⟩
theorem Kept2.of_below {b eb : Nat} {w w' : World} (h : Below w.heap.size w w') : Kept2 b eb w w' := ⟨h.size, fun k hk _ _ => h.block k hk⟩
theorem Kept2.set (b eb i : Nat) (w : World) (u : Value) : Kept2 b eb w (w.setCell ⟨eb, i, none⟩ u) := ⟨by simp [World.setCell], fun k _ _ hn => Below.heap_setCell _ _ _ _ (by simp; exact hn)⟩
theorem Kept2.cell {b eb : Nat} {w w' : World} (h : Kept2 b eb w w') {a : Addr} {v : Value} (hn : a.block ≠ b) (hn2 : a.block ≠ eb) (hc : w.cell? a = some v) : w'.cell? a = some v := by
  rw [World.cell?_of_block (w := w) (h.2 _ (World.block_lt_of_cell? _ _ hc) hn hn2)]; exact hc
/-- The station's event, its biases under way: what is fixed of it. -/
structure StF (x : Ev) : Prop where
  kind : x.kind = 4
  text : x.text = ⟨#[]⟩
  bytes : x.bytes = []
  n : x.n = 0
  station : I64 x.station
  name : x.name.size ≤ 5
  start : I64 x.start
  place : (0 ≤ x.face ∧ x.face ≤ 20) ∧ (0 ≤ x.pa ∧ x.pa ≤ 840) ∧ (0 ≤ x.pb ∧ x.pb ≤ 840) ∧ (0 ≤ x.pc ∧ x.pc ≤ 840)
  bias : ∀ p ∈ x.bias, I64 p.1 ∧ I64 p.2
theorem StF.ok {x : Ev} (h : StF x) : x.Ok := by
  obtain ⟨h1, h2, h3, h4, h5, h6, h7, ⟨h8, h9, h10, h11⟩, _⟩ := h
  exact ⟨by rw [h1]; unfold I64; omega, by rw [h2]; simp [ByteArray.size], by rw [h4]; exact I64.zero, h5, by omega, h7, by unfold I64; omega, by unfold I64; omega, by unfold I64; omega, by unfold I64; omega⟩
theorem StF.pl {x : Ev} (h : StF x) : PlOk x := by
  obtain ⟨h8, h9, h10, h11⟩ := h.place
  unfold PlOk longI; omega
def StW (w : World) (B b eb k : Nat) (w' : World) : Prop := ∃ (x : Ev) (cv : Value), StF x ∧ x.bias.length ≤ k ∧ cv.oneCell' = true ∧ OwnR w' (eb + 1) cv x.bias ∧ EvAt w' eb (evCells x (.slice none 0 0) cv) ∧ EvAt w' w.heap.size (evCells Ev.zero (.slice none 0 0) (.slice none 0 0)) ∧ St w B b w'
theorem St.set {w w' : World} {B b eb : Nat} (h : St w B b w') (h1 : w.heap.size < eb) (h2 : b < eb) (i : Nat) (u : Value) : St w B b (w'.setCell ⟨eb, i, none⟩ u) :=
  h.setCell (by simp; omega) (by simp; omega) (by have := h.1.le; simp; omega) _
theorem OwnR.set {w : World} {eb i : Nat} {v u : Value} {l : List (Int × Int)} (h : OwnR w (eb + 1) v l) : OwnR (w.setCell ⟨eb, i, none⟩ u) (eb + 1) v l :=
  ownsRow_of_same h fun k hk _ => Below.heap_setCell _ _ _ _ (by simp; omega)
/-- What the slots of region 11 hold. -/
def F11 (b eb : Nat) (k : Nat) (v : Value) (w : World) : Prop := match k with
  | 0 => v = .pointer (some ⟨b, 0, none⟩)
  | 1 => ∃ z : Int, 0 ≤ z ∧ z < 3 ∧ v = .int .i64 z
  | 2 => ∃ z : Int, I64 z ∧ v = .int .i64 z
  | 3 => ∃ g : Nat, g ≠ b ∧ g ≠ eb ∧ v = .slice (some ⟨g, 0, none⟩) 5 5 ∧ ∀ m : Nat, m < 5 → ∃ s : ByteArray, s.size ≤ 5 ∧ w.cell? ⟨g, m, none⟩ = some (.string s)
  | 4 => v = .pointer (some ⟨b, 0, none⟩)
  | 5 => ∃ m : Nat, m < 5 ∧ v = .int .i64 m
  | 6 => ∃ g m : Nat, g ≠ b ∧ g ≠ eb ∧ v = .pointer (some ⟨g, m, none⟩) ∧ ∃ s : ByteArray, s.size ≤ 5 ∧ w.cell? ⟨g, m, none⟩ = some (.string s)
  | 7 => ∃ s : ByteArray, s.size ≤ 5 ∧ v = .string s
  | 8 => v = .pointer (some ⟨eb, 4, none⟩)
  | 10 => v = .pointer (some ⟨eb, 5, none⟩)
  | _ => True
theorem F11_kept {b eb : Nat} (k : Nat) (v : Value) (w w' : World) (h : F11 b eb k v w) (hk : Kept2 b eb w w') : F11 b eb k v w' := by
  unfold F11 at h ⊢
  split at h <;> try exact h
  · obtain ⟨g, h1, h2, h3, h4⟩ := h
    refine ⟨g, h1, h2, h3, fun m hm => ?_⟩
    obtain ⟨s, hs, hc⟩ := h4 m hm
    exact ⟨s, hs, hk.cell h1 h2 hc⟩
  · obtain ⟨g, m, h1, h2, h3, s, hs, hc⟩ := h
    exact ⟨g, m, h1, h2, h3, s, hs, hk.cell h1 h2 hc⟩
theorem StW.but {w w1 w2 : World} {B b eb k : Nat} (h : StW w B b eb k w1) (h1 : w.heap.size < eb) (h2 : b < eb) (hb : w.heap.size ≠ b) (hst : St w1 B b w2) : StW w B b eb k w2 := by
  obtain ⟨x, cv, hf, hl, ho, hw, he, hz, hs⟩ := h
  exact ⟨x, cv, hf, hl, ho, ownsRow_but hw hst.2 (by omega), he.but hst.2 (by omega), hz.but hst.2 hb, hs.then hst⟩
/-- What the slots of region 18 hold. -/
def F18 (b eb : Nat) (x : Ev) (cv : Value) (k : Nat) (v : Value) (w : World) : Prop := match k with
  | 0 => v = .pointer (some ⟨eb, 6, none⟩)
  | 1 => v = .pointer (some ⟨eb, 12, none⟩)
  | 2 => v = cv
  | 3 => v = .pointer (some ⟨b, 0, none⟩)
  | 4 => ∃ z : Int, I64 z ∧ v = .int .i64 z
  | 5 => v = .pointer (some ⟨b, 0, none⟩)
  | 6 => ∃ z : Int, I64 z ∧ v = .int .i64 z
  | 7 => ∃ p q : Int, I64 p ∧ I64 q ∧ v = .agg #[.int .i64 p, .int .i64 q]
  | 8 => ∃ (p q : Int) (g : Nat), I64 p ∧ I64 q ∧ v = .slice (some ⟨g, 0, none⟩) 1 1 ∧ g ≠ b ∧ g ≠ eb ∧ some g ≠ cv.ownBlock ∧ w.cell? ⟨g, 0, none⟩ = some (.int .i64 p) ∧ w.cell? ⟨g, 1, none⟩ = some (.int .i64 q)
  | 9 => ∃ p q : Int, I64 p ∧ I64 q ∧ v.oneCell' = true ∧ OwnR w (eb + 1) v (x.bias ++ [(p, q)])
  | 10 => v = .pointer (some ⟨eb, 6, none⟩)
  | 11 => v = .pointer (some ⟨eb, 12, none⟩)
  | _ => True
theorem F18_kept {b eb : Nat} (hbe : b < eb) {x : Ev} {cv : Value} (k : Nat) (v : Value) (w w' : World) (h : F18 b eb x cv k v w) (hk : Kept2 b eb w w') : F18 b eb x cv k v w' := by
  unfold F18 at h ⊢
  split at h <;> try exact h
  · obtain ⟨p, q, g, h1, h2, h3, h4, h5, h6, h7, h8⟩ := h
    exact ⟨p, q, g, h1, h2, h3, h4, h5, h6, hk.cell h4 h5 h7, hk.cell h4 h5 h8⟩
  · obtain ⟨p, q, h1, h2, h3, h4⟩ := h
    exact ⟨p, q, h1, h2, h3, ownsRow_of_same h4 fun k hk1 hk2 => hk.2 k hk2 (by omega) (by omega)⟩
theorem F18_grown {b eb : Nat} {x : Ev} {cv : Value} (k : Nat) (hk9 : k ≠ 9) (v : Value) (w w' : World) (h : F18 b eb x cv k v w) (hk : w.grownBy w' cv.ownBlock) : F18 b eb x cv k v w' := by
  unfold F18 at h ⊢
  split at h <;> try exact h
  · obtain ⟨p, q, g, h1, h2, h3, h4, h5, h6, h7, h8⟩ := h
    exact ⟨p, q, g, h1, h2, h3, h4, h5, h6, hk.cell h7 h6, hk.cell h8 h6⟩
  · exact absurd rfl hk9
def C18 (w : World) (B b eb : Nat) (x : Ev) (cv : Value) (q : Bool) (w' : World) : Prop := (q = false → OwnR w' (eb + 1) cv x.bias) ∧ EvAt w' eb (evCells x (.slice none 0 0) cv) ∧ EvAt w' w.heap.size (evCells Ev.zero (.slice none 0 0) (.slice none 0 0)) ∧ St w B b w'
def S18 (w : World) (B b eb k : Nat) (x : Ev) (cv : Value) (d : Nat → Bool) (w' : World) : Prop := if d 12 = true then StW w B b eb k w' else C18 w B b eb x cv (d 9) w'
theorem S18_get {w w' : World} {B b eb k : Nat} {x : Ev} {cv : Value} {d : Nat → Bool} (h : S18 w B b eb k x cv d w') (h12 : d 12 = false) : C18 w B b eb x cv (d 9) w' := by
  unfold S18 at h; rw [if_neg (by rw [h12]; simp)] at h; exact h
theorem S18_put {w w' : World} {B b eb k : Nat} {x : Ev} {cv : Value} {d : Nat → Bool} (i : Nat) (hi : (12 == i) = false) (h9 : (9 == i) = false) (h12 : d 12 = false) (h : C18 w B b eb x cv (d 9) w') : S18 w B b eb k x cv (fun k => k == i || d k) w' := by
  unfold S18; simp only [hi, h12, h9, Bool.false_or]; exact h
set_option maxHeartbeats 8000000 in
set_option maxRecDepth 100000 in
theorem event_any (B b : Nat) (w : World) (h : CodesIs w B b) :
    Calls Tryz.prog 9 #[.pointer (some ⟨b, 0, none⟩)] w (EventIs B b w) := by
  have hlt := h.lt
  have hs0 := (St.start h).alloc (.cells (evCells Ev.zero (.slice none 0 0) (.slice none 0 0)).toArray 36)
  have EA : Hid (EvAt (w.alloc (.cells (evCells Ev.zero (.slice none 0 0) (.slice none 0 0)).toArray 36)) w.heap.size (evCells Ev.zero (.slice none 0 0) (.slice none 0 0))) := EvAt.new _ _ rfl _
  simp only [evCells, Ev.zero] at EA hs0
  have HS0 := Lib.hid hs0
  clear h hs0
  go_enter Tryz.func9, Tryz.ntmps9
  go_wp2_with fail
  refine (next_ok B b 6 _ HS0.out.1 (by omega) (by omega)).mono ?_
  rintro e w1 ⟨z, hz0, hz1, rfl, hst⟩
  have HS1 := Lib.hid (HS0.out.then hst)
  have EA1 := Lib.hid (EA.out.but hst.2 (by omega))
  have EN : Hid (EvAt (w1.alloc (.cells (evCells Ev.zero (.slice none 0 0) (.slice none 0 0)).toArray 36)) w1.heap.size (evCells Ev.zero (.slice none 0 0) (.slice none 0 0))) := EvAt.new _ _ rfl _
  simp only [evCells, Ev.zero] at EN
  have Hlt1 : Hid (w.heap.size < w1.heap.size) := EA1.out.lt
  have HS2 := Lib.hid (HS1.out.alloc (.cells (evCells Ev.zero (.slice none 0 0) (.slice none 0 0)).toArray 36))
  have EA2 := Lib.hid (EA1.out.alloc (.cells (evCells Ev.zero (.slice none 0 0) (.slice none 0 0)).toArray 36))
  simp only [evCells, Ev.zero] at HS2 EA2
  clear hst EA
  go_upto_region 2 with (refine ev_store rfl _ _ rfl _ rfl _ (evCells { Ev.zero with kind := 1 + z } (.slice none 0 0) (.slice none 0 0)) rfl EN.out rfl (evCells_one _ rfl rfl) ?_; intro w3 E3 H3)
  obtain ⟨eb, heb⟩ : ∃ eb, eb = w1.heap.size := ⟨_, rfl⟩
  have HEb : Hid (eb = w1.heap.size) := heb
  have Hne : Hid (w.heap.size < eb) := by unfold Hid; rw [heb]; exact Hlt1.out
  have Hnb : Hid (b < eb) := by unfold Hid; rw [heb]; exact HS1.out.lt
  have HS3 : Hid (St w B b w3) := ⟨HS2.out.1.of_same (H3.2.2.2.2 b (by have := HS1.out.lt; omega)) (fun k _ hk => H3.2.2.2.2 k (by have := HS1.out.1.le; have := HS1.out.lt; omega)), HS2.out.2.trans ⟨H3.1, H3.2.1, H3.2.2.1, Nat.le_of_eq H3.2.2.2.1.symm, fun k hk _ => H3.2.2.2.2 k (by have := Hlt1.out; omega)⟩⟩
  have EA3 : Hid (EvAt w3 w.heap.size (evCells Ev.zero (.slice none 0 0) (.slice none 0 0))) := EA2.out.apart H3 (by have := Hlt1.out; omega)
  have E3' : Hid (EvAt w3 eb (evCells { Ev.zero with kind := 1 + z } (.slice none 0 0) (.slice none 0 0))) := by rw [heb]; exact E3
  rw [← heb]
  clear E3 H3 EN HS2 EA2 EA1 HS1 HS0 heb
  have e0 : w3.cell? ⟨eb, 0, none⟩ = some (.int .i64 (1 + z)) := E3'.out.2.1 0 (by omega)
  go_upto_block 0 with fail
  go_cut [] (fun wx => EvS w B b eb wx)
  case first =>
    have hzz : z = 0 ∨ z = 1 ∨ z = 2 ∨ z = 3 ∨ z = 4 ∨ z = 5 := by omega
    have ZP : ∀ (k : Int) (wx : World), I64 k → EvParts (eb + 1) wx { Ev.zero with kind := k } (.slice none 0 0) (.slice none 0 0) := fun k wx hk => { zero_parts (eb + 1) wx with ok := { (zero_parts (eb + 1) wx).ok with kind := hk } }
    have HZP := Lib.hid ZP
    clear ZP
    rcases hzz with rfl | rfl | rfl | rfl | rfl | rfl
    · obtain ⟨wl, hwl⟩ : ∃ wl, wl = w3.alloc (.cells #[.string ⟨#[]⟩, .string ⟨#[75, 87, 66, 67, 32, 48, 49, 48, 54, 48, 48, 10]⟩, .string ⟨#[0, 255]⟩, .string ⟨#[97]⟩] 9) := ⟨_, rfl⟩
      have HS3l : Hid (St w B b wl) := by rw [hwl]; exact HS3.out.alloc _
      have HEl : Hid (EvAt wl eb (evCells { Ev.zero with kind := 1 } (.slice none 0 0) (.slice none 0 0))) := by rw [hwl]; exact E3'.out.alloc _
      have HZl : Hid (EvAt wl w.heap.size (evCells Ev.zero (.slice none 0 0) (.slice none 0 0))) := by rw [hwl]; exact EA3.out.alloc _
      have Hcl : Hid (∀ m : Nat, m < 4 → ∃ s : ByteArray, s.size ≤ 12 ∧ wl.cell? ⟨w3.heap.size, m, none⟩ = some (.string s)) := by
        intro m hm
        rw [hwl]
        have : m = 0 ∨ m = 1 ∨ m = 2 ∨ m = 3 := by omega
        rcases this with rfl | rfl | rfl | rfl
        · exact ⟨⟨#[]⟩, by decide, by simp⟩
        · exact ⟨⟨#[75, 87, 66, 67, 32, 48, 49, 48, 54, 48, 48, 10]⟩, by decide, by simp⟩
        · exact ⟨⟨#[0, 255]⟩, by decide, by simp⟩
        · exact ⟨⟨#[97]⟩, by decide, by simp⟩
      have Hnl : Hid (w3.heap.size ≠ b) := by have := HS3.out.lt; unfold Hid; omega
      have HWl := Lib.hid hwl
      clear hwl E3' EA3 HS3
      go_wp2_with fail
      rw [← HWl.out]
      refine (next_ok B b 4 wl HS3l.out.1 (by omega) (by omega)).mono ?_
      rintro e w4 ⟨i, hi0, hi1, rfl, hst4⟩
      obtain ⟨m, rfl⟩ : ∃ m : Nat, i = m := ⟨i.toNat, by omega⟩
      obtain ⟨s, hs, hc⟩ := Hcl.out m (by omega)
      have hc4 := but_cell hst4.2 Hnl.out hc
      have HS4 := Lib.hid (HS3l.out.then hst4)
      have HE4 := Lib.hid (HEl.out.but hst4.2 (by have := Hnb.out; omega))
      have HZ4 := Lib.hid (HZl.out.but hst4.2 (by omega))
      have Hsz := Lib.hid hs
      have q0 : w4.cell? ⟨eb, 1, none⟩ = some (.string ⟨#[]⟩) := HE4.out.2.1 1 (by omega)
      have q1 := HE4.out.2.2 1 (by omega)
      have m0 : (0 : Int) ≤ (m : Int) := by omega
      have m1 : (m : Int) < 4 := by omega
      clear hst4 hc hs hi0 hi1
      go_wp2_with fail
      clear q0 q1 hc4
      go_meet
      refine ⟨{ Ev.zero with kind := 1, text := s }, .slice none 0 0, .slice none 0 0, HE4.out.set 1 (by omega) _, ?_, ⟨by have := Hsz.out; show s.size ≤ 12; omega, by simp [Ev.zero], by simp [Ev.zero, ByteArray.size], by simp [Ev.zero]⟩, by simp [PlOk, Ev.zero, longI], rfl, rfl, HS4.out.setCell (by have := Hne.out; simp; omega) (by have := Hnb.out; simp; omega) (by have := HS4.out.1.le; have := Hnb.out; simp; omega) _, HZ4.out.other (by have := Hne.out; simp; omega) _⟩
      have h := HZP.out 1 (w4.setCell ⟨eb, 1, none⟩ (.string s)) (by unfold I64; omega)
      exact ⟨{ h.ok with text := by have := Hsz.out; show s.size ≤ 1000000; omega }, h.bytes, h.bias⟩
    · obtain ⟨wl, hwl⟩ : ∃ wl, wl = w3.alloc (.cells #[.string ⟨#[]⟩, .string ⟨#[83, 89, 78, 66]⟩, .string ⟨#[0, 255]⟩] 9) := ⟨_, rfl⟩
      have HS3l : Hid (St w B b wl) := by rw [hwl]; exact HS3.out.alloc _
      have HEl : Hid (EvAt wl eb (evCells { Ev.zero with kind := 2 } (.slice none 0 0) (.slice none 0 0))) := by rw [hwl]; exact E3'.out.alloc _
      have HZl : Hid (EvAt wl w.heap.size (evCells Ev.zero (.slice none 0 0) (.slice none 0 0))) := by rw [hwl]; exact EA3.out.alloc _
      have Hcl : Hid (∀ m : Nat, m < 3 → ∃ s : ByteArray, s.size ≤ 12 ∧ wl.cell? ⟨w3.heap.size, m, none⟩ = some (.string s)) := by
        intro m hm
        rw [hwl]
        have : m = 0 ∨ m = 1 ∨ m = 2 := by omega
        rcases this with rfl | rfl | rfl
        · exact ⟨⟨#[]⟩, by decide, by simp⟩
        · exact ⟨⟨#[83, 89, 78, 66]⟩, by decide, by simp⟩
        · exact ⟨⟨#[0, 255]⟩, by decide, by simp⟩
      have Hnl : Hid (w3.heap.size ≠ b) := by have := HS3.out.lt; unfold Hid; omega
      have HWl := Lib.hid hwl
      clear hwl E3' EA3 HS3
      go_wp2_with fail
      rw [← HWl.out]
      refine (next_ok B b 3 wl HS3l.out.1 (by omega) (by omega)).mono ?_
      rintro e w4 ⟨i, hi0, hi1, rfl, hst4⟩
      obtain ⟨m, rfl⟩ : ∃ m : Nat, i = m := ⟨i.toNat, by omega⟩
      obtain ⟨s, hs, hc⟩ := Hcl.out m (by omega)
      have hc4 := but_cell hst4.2 Hnl.out hc
      have HS4 := Lib.hid (HS3l.out.then hst4)
      have HE4 := Lib.hid (HEl.out.but hst4.2 (by have := Hnb.out; omega))
      have HZ4 := Lib.hid (HZl.out.but hst4.2 (by omega))
      have Hsz := Lib.hid hs
      obtain ⟨w6, cap, hcv, hb6, hby⟩ := conv_f w4 s (by omega) (eb + 1) HE4.out.lt
      have HBy := Lib.hid hby
      have HB6 := Lib.hid hb6
      have HS6 := Lib.hid (HS4.out.below hb6)
      have HE6 := Lib.hid (HE4.out.below hb6)
      have HZ6 := Lib.hid (HZ4.out.below hb6)
      have q0 : w6.cell? ⟨eb, 2, none⟩ = some (.slice none 0 0) := HE6.out.2.1 2 (by omega)
      have q1 := HE6.out.2.2 2 (by omega)
      have m0 : (0 : Int) ≤ (m : Int) := by omega
      have m1 : (m : Int) < 3 := by omega
      clear hst4 hc hs hi0 hi1 hby hb6
      go_wp2_with fail
      clear q0 q1 hc4 hcv
      go_meet
      have hl : s.data.toList.length = s.size := Array.length_toList
      rw [← hl] at HBy ⊢
      refine ⟨{ Ev.zero with kind := 2, bytes := s.data.toList }, .slice (some ⟨w4.heap.size, 0, none⟩) s.data.toList.length cap, .slice none 0 0, HE6.out.set 2 (by omega) _, ?_, ⟨by simp [Ev.zero, ByteArray.size], by have := Hsz.out; show s.data.toList.length ≤ 12; omega, by simp [Ev.zero, ByteArray.size], by simp [Ev.zero]⟩, by simp [PlOk, Ev.zero, longI], rfl, rfl, HS6.out.setCell (by have := Hne.out; simp; omega) (by have := Hnb.out; simp; omega) (by have := HS6.out.1.le; have := Hnb.out; simp; omega) _, HZ6.out.other (by have := Hne.out; simp; omega) _⟩
      have h := HZP.out 2 (w6.setCell ⟨eb, 2, none⟩ (.slice (some ⟨w4.heap.size, 0, none⟩) s.data.toList.length cap)) (by unfold I64; omega)
      exact ⟨{ h.ok with }, HBy.out.kept (b := eb) (fun k _ hn _ => Below.heap_setCell _ _ _ _ (by simp; exact hn)) (Or.inl (by omega)), h.bias⟩
    · go_wp2_with fail
      refine (int_ok B b w3 HS3.out.1).mono ?_
      rintro e w4 ⟨n, hn, rfl, hst4⟩
      have Hn := Lib.hid hn
      have HS4 := Lib.hid (HS3.out.then hst4)
      have HE4 := Lib.hid (E3'.out.but hst4.2 (by have := Hnb.out; omega))
      have HZ4 := Lib.hid (EA3.out.but hst4.2 (by omega))
      have q0 : w4.cell? ⟨eb, 3, none⟩ = some (.int .i64 0) := HE4.out.2.1 3 (by omega)
      have q1 := HE4.out.2.2 3 (by omega)
      clear hst4 hn E3' EA3 HS3
      go_wp2_with fail
      clear q0 q1
      go_meet
      refine ⟨{ Ev.zero with kind := 3, n := n }, .slice none 0 0, .slice none 0 0, HE4.out.set 3 (by omega) _, ?_, ⟨by simp [Ev.zero, ByteArray.size], by simp [Ev.zero], by simp [Ev.zero, ByteArray.size], by simp [Ev.zero]⟩, by simp [PlOk, Ev.zero, longI], rfl, rfl, HS4.out.setCell (by have := Hne.out; simp; omega) (by have := Hnb.out; simp; omega) (by have := HS4.out.1.le; have := Hnb.out; simp; omega) _, HZ4.out.other (by have := Hne.out; simp; omega) _⟩
      have h := HZP.out 3 (w4.setCell ⟨eb, 3, none⟩ (.int .i64 n)) (by unfold I64; omega)
      exact ⟨{ h.ok with n := Hn.out }, h.bytes, h.bias⟩
    · go_upto_region 11 with fail
      refine wp_region_slots (by kernel_rfl) 104 rfl (by kernel_rfl) (by kernel_rfl) 36 10 (by kernel_rfl) (fun _ w' => StS w B b eb w') (F11 b eb) ?hS0 ?hop ?hend
      case hS0 => exact ⟨0, ⟨#[]⟩, I64.zero, by simp [ByteArray.size], E3'.out.drew, EA3.out.drew, HS3.out.drew⟩
      case hop =>
        have Hb3 : Hid (b ≠ eb) := by have := Hnb.out; unfold Hid; omega
        clear e0 HZP HS3 EA3 E3'
        refine ⟨?_, ?_, ?_, ?_, ?_, ?_, ?_, ?_, ?_, ?_, ?_, ?_, trivial⟩
        all_goals intro d a wx hd hcl hS hA haft K hK
        · have h0 := same_slot hA 0 (by kernel_rfl)
          exact hop_val rfl _ (by show Result.ok (Next.value (a.tmps.getD 0 undef)) wx = _; rw [h0]; rfl) (hK _ _ rfl (fun _ _ _ h => h) hS)
        · have f0 : a.tmps.getD 36 undef = .pointer (some ⟨b, 0, none⟩) := (haft ⟨0, .data⟩ (by simp) rfl).2 _ rfl
          obtain ⟨st, nm, h1, h2, he, hz, hs⟩ := hS
          refine hop_call rfl Tryz.func7 (by kernel_rfl) (by kernel_rfl) _ _ rfl #[.pointer (some ⟨b, 0, none⟩), .int .i64 3] (by simp only [List.map_toArray, List.map_cons, List.map_nil, Act.eval, f0]) _ (next_ok B b 3 wx hs.1 (by omega) (by omega)) ?_
          rintro e wy ⟨z, z0, z1, rfl, hst⟩
          exact ⟨_, rfl, hK _ _ ⟨z, z0, by omega, rfl⟩ (fun k u _ h => F11_kept k u _ _ h (Kept2.of_but hst.2)) ⟨st, nm, h1, h2, he.but hst.2 (by have := Hb3.out; omega), hz.but hst.2 (by omega), hs.then hst⟩⟩
        · obtain ⟨z, z0, z1, f1⟩ := (haft ⟨1, .data⟩ (by simp) rfl).2 _ rfl
          have f1 : a.tmps.getD 37 undef = .int .i64 z := f1
          refine hop_val rfl (.int .i64 (1 + z)) (w' := wx) ?_ (hK _ _ ⟨1 + z, by unfold I64; omega, rfl⟩ (fun _ _ _ h => h) hS)
          simp [execOp, Act.eval, f1, go_sem, -Array.getD_eq_getD_getElem?]
          exact IntWalk.i64_in _ (by omega)
        · have hB : Below wx.heap.size wx (wx.alloc (.cells #[.string ⟨#[65, 66, 49, 50, 51]⟩, .string ⟨#[120]⟩, .string ⟨#[]⟩, .string ⟨#[97, 32, 98]⟩, .string ⟨#[126, 33]⟩] 9)) := (Below.refl _ _).alloc (Nat.le_refl _) _
          obtain ⟨st, nm, h1, h2, he, hz, hs⟩ := hS
          have hgb := he.lt
          have hgc := hs.lt
          refine hop_val rfl (.slice (some ⟨wx.heap.size, 0, none⟩) 5 5) (w' := wx.alloc (.cells #[.string ⟨#[65, 66, 49, 50, 51]⟩, .string ⟨#[120]⟩, .string ⟨#[]⟩, .string ⟨#[97, 32, 98]⟩, .string ⟨#[126, 33]⟩] 9)) ?_ (hK _ _ ⟨wx.heap.size, by omega, by omega, rfl, ?_⟩ (fun k u _ h => F11_kept k u _ _ h (Kept2.of_below hB)) ⟨st, nm, h1, h2, he.below hB, hz.below hB, hs.alloc _⟩)
          · simp [execOp, Act.eval, go_sem, -Array.getD_eq_getD_getElem?]
          · intro m hm
            have : m = 0 ∨ m = 1 ∨ m = 2 ∨ m = 3 ∨ m = 4 := by omega
            rcases this with rfl | rfl | rfl | rfl | rfl
            · exact ⟨⟨#[65, 66, 49, 50, 51]⟩, by decide, by simp⟩
            · exact ⟨⟨#[120]⟩, by decide, by simp⟩
            · exact ⟨⟨#[]⟩, by decide, by simp⟩
            · exact ⟨⟨#[97, 32, 98]⟩, by decide, by simp⟩
            · exact ⟨⟨#[126, 33]⟩, by decide, by simp⟩
        · have h0 := same_slot hA 0 (by kernel_rfl)
          exact hop_val rfl _ (by show Result.ok (Next.value (a.tmps.getD 0 undef)) wx = _; rw [h0]; rfl) (hK _ _ rfl (fun _ _ _ h => h) hS)
        · have f0 : a.tmps.getD 40 undef = .pointer (some ⟨b, 0, none⟩) := (haft ⟨4, .data⟩ (by simp) rfl).2 _ rfl
          obtain ⟨st, nm, h1, h2, he, hz, hs⟩ := hS
          refine hop_call rfl Tryz.func7 (by kernel_rfl) (by kernel_rfl) _ _ rfl #[.pointer (some ⟨b, 0, none⟩), .int .i64 5] (by simp only [List.map_toArray, List.map_cons, List.map_nil, Act.eval, f0]) _ (next_ok B b 5 wx hs.1 (by omega) (by omega)) ?_
          rintro e wy ⟨z, z0, z1, rfl, hst⟩
          obtain ⟨m, rfl⟩ : ∃ m : Nat, z = m := ⟨z.toNat, by omega⟩
          exact ⟨_, rfl, hK _ _ ⟨m, by omega, rfl⟩ (fun k u _ h => F11_kept k u _ _ h (Kept2.of_but hst.2)) ⟨st, nm, h1, h2, he.but hst.2 (by have := Hb3.out; omega), hz.but hst.2 (by omega), hs.then hst⟩⟩
        · obtain ⟨g, g1, g2, f3, hc⟩ := (haft ⟨3, .data⟩ (by simp) rfl).2 _ rfl
          have f3 : a.tmps.getD 39 undef = .slice (some ⟨g, 0, none⟩) 5 5 := f3
          obtain ⟨m, hm, f5⟩ := (haft ⟨5, .data⟩ (by simp) rfl).2 _ rfl
          have f5 : a.tmps.getD 41 undef = .int .i64 m := f5
          have m0 : (0 : Int) ≤ (m : Int) := by omega
          have m1 : (m : Int) < 5 := by omega
          refine hop_val rfl (.pointer (some ⟨g, m, none⟩)) (w' := wx) ?_ (hK _ _ ⟨g, m, g1, g2, rfl, hc m hm⟩ (fun _ _ _ h => h) hS)
          simp [execOp, Act.eval, f3, f5, go_sem, -Array.getD_eq_getD_getElem?]
          intro h; omega
        · obtain ⟨g, m, g1, g2, f6, s, hs, hc⟩ := (haft ⟨6, .data⟩ (by simp) rfl).2 _ rfl
          have f6 : a.tmps.getD 42 undef = .pointer (some ⟨g, m, none⟩) := f6
          refine hop_val rfl (.string s) (w' := wx) ?_ (hK _ _ ⟨s, hs, rfl⟩ (fun _ _ _ h => h) hS)
          simp [execOp, Act.eval, f6, hc, go_sem, -Array.getD_eq_getD_getElem?]
        · have h3 : a.tmps.getD 3 undef = .pointer (some ⟨eb, 0, none⟩) := same_slot hA 3 (by kernel_rfl)
          refine hop_val rfl (.pointer (some ⟨eb, 4, none⟩)) (w' := wx) ?_ (hK _ _ rfl (fun _ _ _ h => h) hS)
          simp [execOp, Act.eval, h3, go_sem, -Array.getD_eq_getD_getElem?]
        · obtain ⟨z, hz, f2⟩ := (haft ⟨2, .data⟩ (by simp) rfl).2 _ rfl
          have f2 : a.tmps.getD 38 undef = .int .i64 z := f2
          have f8 : a.tmps.getD 44 undef = .pointer (some ⟨eb, 4, none⟩) := (haft ⟨8, .data⟩ (by simp) rfl).2 _ rfl
          obtain ⟨st, nm, h1, h2, he, hz0, hs⟩ := hS
          have q0 : wx.cell? ⟨eb, 4, none⟩ = some (.int .i64 st) := he.2.1 4 (by omega)
          have q1 := he.2.2 4 (by omega)
          refine hop_none rfl (w' := wx.setCell ⟨eb, 4, none⟩ (.int .i64 z)) ?_ (hK undef _ trivial (fun k u _ h => F11_kept k u _ _ h (Kept2.set _ _ _ _ _)) ⟨z, nm, hz, h2, he.set 4 (by omega) _, hz0.other (by have := Hne.out; simp; omega) _, hs.setCell (by have := Hne.out; simp; omega) (by have := Hnb.out; simp; omega) (by have := hs.1.le; have := Hnb.out; simp; omega) _⟩)
          simp [execOp, Act.eval, f2, f8, q0, q1, go_sem, -Array.getD_eq_getD_getElem?]
        · have h3 : a.tmps.getD 3 undef = .pointer (some ⟨eb, 0, none⟩) := same_slot hA 3 (by kernel_rfl)
          refine hop_val rfl (.pointer (some ⟨eb, 5, none⟩)) (w' := wx) ?_ (hK _ _ rfl (fun _ _ _ h => h) hS)
          simp [execOp, Act.eval, h3, go_sem, -Array.getD_eq_getD_getElem?]
        · obtain ⟨s, hz, f2⟩ := (haft ⟨7, .data⟩ (by simp) rfl).2 _ rfl
          have f2 : a.tmps.getD 43 undef = .string s := f2
          have f8 : a.tmps.getD 45 undef = .pointer (some ⟨eb, 5, none⟩) := (haft ⟨10, .data⟩ (by simp) rfl).2 _ rfl
          obtain ⟨st, nm, h1, h2, he, hz0, hs⟩ := hS
          have q0 : wx.cell? ⟨eb, 5, none⟩ = some (.string nm) := he.2.1 5 (by omega)
          have q1 := he.2.2 5 (by omega)
          refine hop_none rfl (w' := wx.setCell ⟨eb, 5, none⟩ (.string s)) ?_ (hK undef _ trivial (fun k u _ h => F11_kept k u _ _ h (Kept2.set _ _ _ _ _)) ⟨st, s, h1, hz, he.set 5 (by omega) _, hz0.other (by have := Hne.out; simp; omega) _, hs.setCell (by have := Hne.out; simp; omega) (by have := Hnb.out; simp; omega) (by have := hs.1.le; have := Hnb.out; simp; omega) _⟩)
          simp [execOp, Act.eval, f2, f8, q0, q1, go_sem, -Array.getD_eq_getD_getElem?]
      case hend =>
        intro u w4 d hd hS hF
        clear hF hd d
        obtain ⟨st, nm, hst, hnm, he, hz, hs⟩ := hS
        have HE4 := Lib.hid he
        have HZ4 := Lib.hid hz
        have HS4 := Lib.hid hs
        have Hx := Lib.hid (And.intro hst hnm)
        clear he hz hs hst hnm e0 E3' EA3 HS3
        simp only [mixL]
        go_wp2_with fail
        refine (int_ok B b w4 HS4.out.1).mono ?_
        rintro e w5 ⟨n, hn, rfl, hst5⟩
        have Hn := Lib.hid hn
        have HS5 := Lib.hid (HS4.out.then hst5)
        have HE5 := Lib.hid (HE4.out.but hst5.2 (by have := Hnb.out; omega))
        have HZ5 := Lib.hid (HZ4.out.but hst5.2 (by omega))
        clear hst5 hn HS4 HE4 HZ4
        go_wp2_with fail
        refine (next_ok B b 3 w5 HS5.out.1 (by omega) (by omega)).mono ?_
        rintro e w6 ⟨z, z0, z1, rfl, hst6⟩
        have HS6 := Lib.hid (HS5.out.then hst6)
        have HE6 := Lib.hid (HE5.out.but hst6.2 (by have := Hnb.out; omega))
        have HZ6 := Lib.hid (HZ5.out.but hst6.2 (by omega))
        clear hst6 HS5 HE5 HZ5
        have q6 : w6.cell? ⟨eb, 6, none⟩ = some (.int .i64 0) := HE6.out.2.1 6 (by omega)
        have q7 : w6.cell? ⟨eb, 7, none⟩ = some (.bool false) := HE6.out.2.1 7 (by omega)
        have r6 := HE6.out.2.2 6 (by omega)
        have r7 := HE6.out.2.2 7 (by omega)
        go_upto_region 13 with fail
        obtain ⟨c, hc⟩ : ∃ c, c = (z == 2) := ⟨_, rfl⟩
        rw [← hc]
        clear hc
        obtain ⟨w7, hw7⟩ : ∃ w7, w7 = (w6.setCell ⟨eb, 6, none⟩ (.int .i64 n)).setCell ⟨eb, 7, none⟩ (.bool c) := ⟨_, rfl⟩
        rw [← hw7]
        have HW7 : Hid (StW w B b eb 0 w7) := by
          rw [hw7]
          refine ⟨{ Ev.zero with kind := 4, station := st, name := nm, start := n, closed := c }, .slice none 0 0, ⟨rfl, rfl, rfl, rfl, Hx.out.1, Hx.out.2, Hn.out, by simp [Ev.zero], by simp [Ev.zero]⟩, by simp [Ev.zero], rfl, OwnR.nil _ _, (HE6.out.set 6 (by omega) _).set 7 (by omega) _, ((HZ6.out.other (by have := Hne.out; simp; omega) _).other (by have := Hne.out; simp; omega) _), (HS6.out.set Hne.out Hnb.out _ _).set Hne.out Hnb.out _ _⟩
        clear hw7 q6 q7 r6 r7 HE6 HZ6 HS6 Hx Hn
        go_cut [63] (fun v wx => (∃ q, v = .bool q) ∧ StW w B b eb 0 wx)
        case first =>
          obtain ⟨x, cv, hf, hl, ho, hw, he, hz, hs⟩ := HW7.out
          have q0 : w7.cell? ⟨eb, 7, none⟩ = some (.bool x.closed) := he.2.1 7 (by omega)
          have HX := Lib.hid (And.intro hf (And.intro hl ho))
          have HE := Lib.hid he
          have HZ := Lib.hid hz
          have HS := Lib.hid hs
          have HO := Lib.hid hw
          clear hf hl ho hw he hz hs
          cases hcl : x.closed
          · rw [hcl] at q0
            have Hcl := Lib.hid hcl
            clear hcl
            go_wp2_with fail
            go_meet
            exact ⟨⟨true, rfl⟩, HW7.out⟩
          · rw [hcl] at q0
            have Hcl := Lib.hid hcl
            clear hcl
            go_wp2_with fail
            refine (next_ok B b 5 w7 HS.out.1 (by omega) (by omega)).mono ?_
            rintro e w8 ⟨y, y0, y1, rfl, hst⟩
            have Hst := Lib.hid hst
            clear hst q0
            go_wp2_with fail
            go_meet
            exact ⟨⟨_, rfl⟩, x, cv, HX.out.1, HX.out.2.1, HX.out.2.2, ownsRow_but HO.out Hst.out.2 (by have := Hnb.out; omega), HE.out.but Hst.out.2 (by have := Hnb.out; omega), HZ.out.but Hst.out.2 (by omega), HS.out.then Hst.out⟩
        case rest =>
          obtain ⟨⟨q, rfl⟩, hw⟩ := hcut
          have HW := Lib.hid hw
          clear hw
          go_upto_if 63 with fail
          go_cut [] (fun wx => StW w B b eb 0 wx)
          case first =>
            cases q
            · go_wp2_with fail
              go_meet
              exact HW.out
            · obtain ⟨x, cv, hf, hl, ho, hw, he, hz, hs⟩ := HW.out
              have HX := Lib.hid (And.intro hf (And.intro hl ho))
              have HE := Lib.hid he
              have HZ := Lib.hid hz
              have HS := Lib.hid hs
              have HO := Lib.hid hw
              clear hf hl ho hw he hz hs
              go_wp2_with fail
              refine (place_ok B b wc HS.out.1).mono ?_
              rintro e w8 ⟨f, p, q, r, f0, f1, p0, p1, q0, q1, r0, r1, rfl, hst⟩
              have HP := Lib.hid (And.intro (And.intro f0 f1) (And.intro (And.intro p0 p1) (And.intro (And.intro q0 q1) (And.intro r0 r1))))
              have HS8 := Lib.hid (HS.out.then hst)
              have HE8 := Lib.hid (HE.out.but hst.2 (by have := Hnb.out; omega))
              have HZ8 := Lib.hid (HZ.out.but hst.2 (by omega))
              have HO8 : Hid (OwnR w8 (eb + 1) cv x.bias) := ownsRow_but HO.out hst.2 (by have := Hnb.out; omega)
              clear hst f0 f1 p0 p1 q0 q1 r0 r1 HS HE HZ HO
              have c8 : w8.cell? ⟨eb, 8, none⟩ = some (.int .i64 x.face) := HE8.out.2.1 8 (by omega)
              have c9 : w8.cell? ⟨eb, 9, none⟩ = some (.int .i64 x.pa) := HE8.out.2.1 9 (by omega)
              have c10 : w8.cell? ⟨eb, 10, none⟩ = some (.int .i64 x.pb) := HE8.out.2.1 10 (by omega)
              have c11 : w8.cell? ⟨eb, 11, none⟩ = some (.int .i64 x.pc) := HE8.out.2.1 11 (by omega)
              have d8 := HE8.out.2.2 8 (by omega)
              have d9 := HE8.out.2.2 9 (by omega)
              have d10 := HE8.out.2.2 10 (by omega)
              have d11 := HE8.out.2.2 11 (by omega)
              go_wp2_with fail
              go_meet
              have hX := HX.out
              exact ⟨{ x with face := f, pa := p, pb := q, pc := r }, cv, ⟨hX.1.kind, hX.1.text, hX.1.bytes, hX.1.n, hX.1.station, hX.1.name, hX.1.start, HP.out, hX.1.bias⟩, hX.2.1, hX.2.2, HO8.out.set.set.set.set, (((HE8.out.set 8 (by omega) _).set 9 (by omega) _).set 10 (by omega) _).set 11 (by omega) _,
                (((HZ8.out.other (by have := Hne.out; simp; omega) _).other (by have := Hne.out; simp; omega) _).other (by have := Hne.out; simp; omega) _).other (by have := Hne.out; simp; omega) _, (((HS8.out.set Hne.out Hnb.out _ _).set Hne.out Hnb.out _ _).set Hne.out Hnb.out _ _).set Hne.out Hnb.out _ _⟩
          case rest =>
            obtain ⟨xs, cvs, hfs, hls, hos, hws, hes, hzs, hss⟩ := hcut
            have HW := Lib.hid (show StW w B b eb 0 wc from ⟨xs, cvs, hfs, hls, hos, hws, hes, hzs, hss⟩)
            have HSs := Lib.hid hss
            clear hfs hls hos hws hes hzs hss
            go_wp2_with fail
            refine (next_ok B b 3 wc HSs.out.1 (by omega) (by omega)).mono ?_
            rintro e w9 ⟨n9, n0, n1, rfl, hst9⟩
            have HW9 := Lib.hid (HW.out.but Hne.out Hnb.out (by omega) hst9)
            clear hst9 HSs HW
            obtain ⟨m9, rfl⟩ : ∃ m : Nat, n9 = m := ⟨n9.toNat, by omega⟩
            go_wp2_with fail
            go_loopw [4] (fun v wr => ∃ m : Nat, v = .int .i64 m ∧ m ≤ 2 ∧ StW w B b eb (2 - m) wr) (fun v _ => (intOf v).toNat)
            case atStart =>
              obtain ⟨x, cv, hf, hl, ho, hw, he, hz, hs⟩ := HW9.out
              exact ⟨m9, rfl, by omega, x, cv, hf, by omega, ho, hw, he, hz, hs⟩
            case round =>
              obtain ⟨m, rfl, hm, hw⟩ := hrel
              have HW := Lib.hid hw
              clear hw
              by_cases hlt : 0 < m
              · go_upto_region 18 with fail
                obtain ⟨x, cv, hf, hl, ho, hO, he, hz, hs⟩ := HW.out
                have HX := Lib.hid (And.intro hf (And.intro hl ho))
                have HC := Lib.hid (show C18 w B b eb x cv false wr from ⟨fun _ => hO, he, hz, hs⟩)
                have Hown : Hid (∀ g, cv.ownBlock = some g → g < wr.heap.size) := fun g hg => (World.ownsRow.lt hO g hg).2
                have Hm := Lib.hid (And.intro hm hlt)
                clear hf hl ho hO he hz hs HW hm hlt
                refine wp_region_slots (by kernel_rfl) 104 rfl (by kernel_rfl) (by kernel_rfl) 74 12 (by kernel_rfl) (S18 w B b eb (2 - m + 1) x cv) (F18 b eb x cv) ?hS0 ?hop ?hend
                case hS0 => exact ⟨fun h => ownsRow_below (HC.out.1 h) (Below.refl _ _).drew, HC.out.2.1.drew, HC.out.2.2.1.drew, HC.out.2.2.2.drew⟩
                case hop =>
                  clear HZP HW9
                  refine ⟨?_, ?_, ?_, ?_, ?_, ?_, ?_, ?_, ?_, ?_, ?_, ?_, ?_, trivial⟩
                  all_goals intro d a wx hd hcl hS hA haft K hK
                  · have h12 : d 12 = false := by
                      cases h : d 12 with
                      | false => rfl
                      | true => have h2 := hcl 12 _ rfl h ⟨0, .phase⟩ (by simp) rfl; rw [hd] at h2; cases h2
                    have hC := S18_get hS h12
                    have h3 : a.tmps.getD 3 undef = .pointer (some ⟨eb, 0, none⟩) := same_slot hA 3 (by kernel_rfl)
                    refine hop_val rfl (.pointer (some ⟨eb, 6, none⟩)) (w' := wx) ?_ (hK _ _ (rfl) (fun _ _ _ h => h) (S18_put 0 rfl rfl h12 hC))
                    simp [execOp, Act.eval, h3, go_sem, -Array.getD_eq_getD_getElem?]
                  · have h12 : d 12 = false := by
                      cases h : d 12 with
                      | false => rfl
                      | true => have h2 := hcl 12 _ rfl h ⟨1, .phase⟩ (by simp) rfl; rw [hd] at h2; cases h2
                    have hC := S18_get hS h12
                    have f0 : a.tmps.getD 74 undef = .pointer (some ⟨eb, 6, none⟩) := (haft ⟨0, .data⟩ (by simp) rfl).2 _ rfl
                    refine hop_val rfl (.pointer (some ⟨eb, 12, none⟩)) (w' := wx) ?_ (hK _ _ (rfl) (fun _ _ _ h => h) (S18_put 1 rfl rfl h12 hC))
                    simp [execOp, Act.eval, f0, go_sem, -Array.getD_eq_getD_getElem?]
                  · have h12 : d 12 = false := by
                      cases h : d 12 with
                      | false => rfl
                      | true => have h2 := hcl 12 _ rfl h ⟨2, .phase⟩ (by simp) rfl; rw [hd] at h2; cases h2
                    have hC := S18_get hS h12
                    have f1 : a.tmps.getD 75 undef = .pointer (some ⟨eb, 12, none⟩) := (haft ⟨1, .data⟩ (by simp) rfl).2 _ rfl
                    have q0 : wx.cell? ⟨eb, 12, none⟩ = some cv := hC.2.1.2.1 12 (by omega)
                    refine hop_val rfl (cv) (w' := wx) ?_ (hK _ _ (rfl) (fun _ _ _ h => h) (S18_put 2 rfl rfl h12 hC))
                    simp [execOp, Act.eval, f1, q0, go_sem, -Array.getD_eq_getD_getElem?]
                  · have h12 : d 12 = false := by
                      cases h : d 12 with
                      | false => rfl
                      | true => have h2 := hcl 12 _ rfl h ⟨3, .phase⟩ (by simp) rfl; rw [hd] at h2; cases h2
                    have hC := S18_get hS h12
                    have h0 : a.tmps.getD 0 undef = .pointer (some ⟨b, 0, none⟩) := same_slot hA 0 (by kernel_rfl)
                    refine hop_val rfl (.pointer (some ⟨b, 0, none⟩)) (w' := wx) ?_ (hK _ _ (rfl) (fun _ _ _ h => h) (S18_put 3 rfl rfl h12 hC))
                    simp [execOp, Act.eval, h0, go_sem, -Array.getD_eq_getD_getElem?]
                  · have h12 : d 12 = false := by
                      cases h : d 12 with
                      | false => rfl
                      | true => have h2 := hcl 12 _ rfl h ⟨4, .phase⟩ (by simp) rfl; rw [hd] at h2; cases h2
                    have hC := S18_get hS h12
                    have f0 : a.tmps.getD 77 undef = .pointer (some ⟨b, 0, none⟩) := (haft ⟨3, .data⟩ (by simp) rfl).2 _ rfl
                    refine hop_call rfl Tryz.func7 (by kernel_rfl) (by kernel_rfl) _ _ rfl #[.pointer (some ⟨b, 0, none⟩), .int .i64 12] (by simp only [List.map_toArray, List.map_cons, List.map_nil, Act.eval, f0]) _ (next_ok B b 12 wx hC.2.2.2.1 (by omega) (by omega)) ?_
                    rintro e wy ⟨z, z0, z1, rfl, hst⟩
                    exact ⟨_, rfl, hK _ _ (⟨z, by unfold I64; omega, rfl⟩) (fun k u _ h => F18_kept Hnb.out k u _ _ h (Kept2.of_but hst.2)) (S18_put 4 rfl rfl h12 ⟨fun hq => ownsRow_but (hC.1 hq) hst.2 (by have := Hnb.out; omega), hC.2.1.but hst.2 (by have := Hnb.out; omega), hC.2.2.1.but hst.2 (by omega), hC.2.2.2.then hst⟩)⟩
                  · have h12 : d 12 = false := by
                      cases h : d 12 with
                      | false => rfl
                      | true => have h2 := hcl 12 _ rfl h ⟨5, .phase⟩ (by simp) rfl; rw [hd] at h2; cases h2
                    have hC := S18_get hS h12
                    have h0 : a.tmps.getD 0 undef = .pointer (some ⟨b, 0, none⟩) := same_slot hA 0 (by kernel_rfl)
                    refine hop_val rfl (.pointer (some ⟨b, 0, none⟩)) (w' := wx) ?_ (hK _ _ (rfl) (fun _ _ _ h => h) (S18_put 5 rfl rfl h12 hC))
                    simp [execOp, Act.eval, h0, go_sem, -Array.getD_eq_getD_getElem?]
                  · have h12 : d 12 = false := by
                      cases h : d 12 with
                      | false => rfl
                      | true => have h2 := hcl 12 _ rfl h ⟨6, .phase⟩ (by simp) rfl; rw [hd] at h2; cases h2
                    have hC := S18_get hS h12
                    have f0 : a.tmps.getD 79 undef = .pointer (some ⟨b, 0, none⟩) := (haft ⟨5, .data⟩ (by simp) rfl).2 _ rfl
                    refine hop_call rfl Tryz.func20 (by kernel_rfl) (by kernel_rfl) _ _ rfl #[.pointer (some ⟨b, 0, none⟩)] (by simp only [List.map_toArray, List.map_cons, List.map_nil, Act.eval, f0]) _ (int_ok B b wx hC.2.2.2.1) ?_
                    rintro e wy ⟨z, hz, rfl, hst⟩
                    exact ⟨_, rfl, hK _ _ (⟨z, hz, rfl⟩) (fun k u _ h => F18_kept Hnb.out k u _ _ h (Kept2.of_but hst.2)) (S18_put 6 rfl rfl h12 ⟨fun hq => ownsRow_but (hC.1 hq) hst.2 (by have := Hnb.out; omega), hC.2.1.but hst.2 (by have := Hnb.out; omega), hC.2.2.1.but hst.2 (by omega), hC.2.2.2.then hst⟩)⟩
                  · have h12 : d 12 = false := by
                      cases h : d 12 with
                      | false => rfl
                      | true => have h2 := hcl 12 _ rfl h ⟨7, .phase⟩ (by simp) rfl; rw [hd] at h2; cases h2
                    have hC := S18_get hS h12
                    obtain ⟨p, hp, f4⟩ := (haft ⟨4, .data⟩ (by simp) rfl).2 _ rfl
                    have f4 : a.tmps.getD 78 undef = .int .i64 p := f4
                    obtain ⟨q, hq, f6⟩ := (haft ⟨6, .data⟩ (by simp) rfl).2 _ rfl
                    have f6 : a.tmps.getD 80 undef = .int .i64 q := f6
                    refine hop_val rfl (.agg #[.int .i64 p, .int .i64 q]) (w' := wx) ?_ (hK _ _ (⟨p, q, hp, hq, rfl⟩) (fun _ _ _ h => h) (S18_put 7 rfl rfl h12 hC))
                    simp [execOp, Act.eval, f4, f6, go_sem, -Array.getD_eq_getD_getElem?]
                  · have h12 : d 12 = false := by
                      cases h : d 12 with
                      | false => rfl
                      | true => have h2 := hcl 12 _ rfl h ⟨8, .phase⟩ (by simp) rfl; rw [hd] at h2; cases h2
                    have hC := S18_get hS h12
                    obtain ⟨p, q, hp, hq, f7⟩ := (haft ⟨7, .data⟩ (by simp) rfl).2 _ rfl
                    have f7 : a.tmps.getD 81 undef = .agg #[.int .i64 p, .int .i64 q] := f7
                    have hB : Below wx.heap.size wx (wx.alloc (.cells #[.int .i64 p, .int .i64 q] 51)) := (Below.refl _ _).alloc (Nat.le_refl _) _
                    have hgb := hC.2.1.lt
                    have hgc := hC.2.2.2.lt
                    have h9 : d 9 = false := by
                      cases h : d 9 with
                      | false => rfl
                      | true => have h2 := hcl 9 _ rfl h ⟨8, .data⟩ (by simp) rfl; rw [hd] at h2; cases h2
                    have hgo : some wx.heap.size ≠ cv.ownBlock := fun e => by have := (World.ownsRow.lt (hC.1 h9) _ e.symm).2; omega
                    refine hop_val rfl (.slice (some ⟨wx.heap.size, 0, none⟩) 1 1) (w' := wx.alloc (.cells #[.int .i64 p, .int .i64 q] 51)) ?_ (hK _ _ ⟨p, q, wx.heap.size, hp, hq, rfl, by omega, by omega, hgo, by simp, by simp⟩ (fun k u _ h => F18_kept Hnb.out k u _ _ h (Kept2.of_below hB)) (S18_put 8 rfl rfl h12 ⟨fun h => ownsRow_below (hC.1 h) hB, hC.2.1.below hB, hC.2.2.1.below hB, hC.2.2.2.alloc _⟩))
                    simp [execOp, Act.eval, f7, go_sem, -Array.getD_eq_getD_getElem?]
                  · have h12 : d 12 = false := by
                      cases h : d 12 with
                      | false => rfl
                      | true => have h2 := hcl 12 _ rfl h ⟨9, .phase⟩ (by simp) rfl; rw [hd] at h2; cases h2
                    have hC := S18_get hS h12
                    have f2 : a.tmps.getD 76 undef = cv := (haft ⟨2, .data⟩ (by simp) rfl).2 _ rfl
                    obtain ⟨p, q, g, hp, hq, f8, g1, g2, g3, g4, g5⟩ := (haft ⟨8, .data⟩ (by simp) rfl).2 _ rfl
                    have f8 : a.tmps.getD 82 undef = .slice (some ⟨g, 0, none⟩) 1 1 := f8
                    have hO := hC.1 hd
                    have hlt := hC.2.1.lt
                    obtain ⟨v', w', hrun, hown, hbl, hgr⟩ := append_at 32 51 Tryz.underlying32 rinfo rfl (by decide) hO ⟨g, 0, none⟩ 1 1 [.int .i64 p, .int .i64 q] rfl (by
                      intro j u hj
                      rcases j with _ | _ | j
                      · simp at hj; subst hj; exact g4
                      · simp at hj; subst hj; exact g5
                      · simp at hj) (by simp [Value.oneCell']) (by have := HX.out.2.1; omega) (by omega) (by decide) (by omega) 32
                    have hown' : OwnR w' (eb + 1) v' (x.bias ++ [(p, q)]) := by unfold OwnR; rw [rcells_append, List.length_append]; exact hown
                    refine step_append_run rfl _ _ _ rfl _ _ v' w' f2 f8 hrun (hK _ _ ⟨p, q, hp, hq, ?_, hown'⟩ (fun k u hk h => F18_grown k (fun e => by rw [e, hd] at hk; cases hk) u _ _ h hgr) ?_)
                    · obtain ⟨_, _, _, e⟩ := hown'.slice; rw [e]; rfl
                    · unfold S18
                      rw [if_neg (by simp [h12])]
                      exact ⟨fun h => by simp at h, hC.2.1.of_block (hbl.block _ (by omega)), hC.2.2.1.of_block (hbl.block _ (by have := Hne.out; omega)), hC.2.2.2.grown hbl (by have := Hnb.out; omega) (by have := Hne.out; omega)⟩
                  · have h12 : d 12 = false := by
                      cases h : d 12 with
                      | false => rfl
                      | true => have h2 := hcl 11 _ rfl (hcl 12 _ rfl h ⟨11, .data⟩ (by simp) rfl) ⟨10, .data⟩ (by simp) rfl; rw [hd] at h2; cases h2
                    have hC := S18_get hS h12
                    have h3 : a.tmps.getD 3 undef = .pointer (some ⟨eb, 0, none⟩) := same_slot hA 3 (by kernel_rfl)
                    refine hop_val rfl (.pointer (some ⟨eb, 6, none⟩)) (w' := wx) ?_ (hK _ _ (rfl) (fun _ _ _ h => h) (S18_put 10 rfl rfl h12 hC))
                    simp [execOp, Act.eval, h3, go_sem, -Array.getD_eq_getD_getElem?]
                  · have h12 : d 12 = false := by
                      cases h : d 12 with
                      | false => rfl
                      | true => have h2 := hcl 12 _ rfl h ⟨11, .data⟩ (by simp) rfl; rw [hd] at h2; cases h2
                    have hC := S18_get hS h12
                    have f0 : a.tmps.getD 84 undef = .pointer (some ⟨eb, 6, none⟩) := (haft ⟨10, .data⟩ (by simp) rfl).2 _ rfl
                    refine hop_val rfl (.pointer (some ⟨eb, 12, none⟩)) (w' := wx) ?_ (hK _ _ (rfl) (fun _ _ _ h => h) (S18_put 11 rfl rfl h12 hC))
                    simp [execOp, Act.eval, f0, go_sem, -Array.getD_eq_getD_getElem?]
                  · have hC := S18_get hS hd
                    obtain ⟨p, q, hp, hq, h1, hO⟩ := (haft ⟨9, .data⟩ (by simp) rfl).2 _ rfl
                    obtain ⟨v, f9⟩ : ∃ v, a.tmps.getD 83 undef = v := ⟨_, rfl⟩
                    have h1 : v.oneCell' = true := by rw [← f9]; exact h1
                    have hO : OwnR wx (eb + 1) v (x.bias ++ [(p, q)]) := by rw [← f9]; exact hO
                    have f11 : a.tmps.getD 85 undef = .pointer (some ⟨eb, 12, none⟩) := (haft ⟨11, .data⟩ (by simp) rfl).2 _ rfl
                    have q0 : wx.cell? ⟨eb, 12, none⟩ = some cv := hC.2.1.2.1 12 (by omega)
                    have q1 := hC.2.1.2.2 12 (by omega)
                    obtain ⟨va, vn, vc, rfl⟩ := hO.slice
                    refine hop_none rfl (w' := wx.setCell ⟨eb, 12, none⟩ (.slice va vn vc)) ?_ (hK undef _ trivial (fun k u _ h => F18_kept Hnb.out k u _ _ h (Kept2.set _ _ _ _ _)) ?_)
                    · simp [execOp, Act.eval, f9, f11, q0, q1, go_sem, -Array.getD_eq_getD_getElem?]
                    · unfold S18
                      rw [if_pos (by simp)]
                      have hX := HX.out
                      refine ⟨{ x with bias := x.bias ++ [(p, q)] }, .slice va vn vc, ⟨hX.1.kind, hX.1.text, hX.1.bytes, hX.1.n, hX.1.station, hX.1.name, hX.1.start, hX.1.place, ?_⟩, by have := hX.2.1; simp; omega, rfl, hO.set, hC.2.1.set 12 (by omega) _, hC.2.2.1.other (by have := Hne.out; simp; omega) _, hC.2.2.2.set Hne.out Hnb.out _ _⟩
                      intro y hy
                      rcases List.mem_append.1 hy with hy | hy
                      · exact hX.1.bias y hy
                      · obtain rfl := List.mem_singleton.1 hy; exact ⟨hp, hq⟩
                case hend =>
                  intro u w4 d hd hS hF
                  have h12 := hd 12 (by decide)
                  unfold S18 at hS
                  rw [if_pos h12] at hS
                  clear hF hd h12 d
                  have HW := Lib.hid hS
                  clear hS
                  have m0 : (0 : Int) < (m : Int) := by have := Hm.out.2; omega
                  have m1 : (m : Int) ≤ 2 := by have := Hm.out.1; omega
                  simp only [mixL]
                  go_wp2_with fail
                  go_roundw
                  case rel =>
                    have hm := Hm.out
                    obtain ⟨x, cv, hf, hl, hr⟩ := HW.out
                    exact ⟨m - 1, by rw [Int.ofNat_sub (by omega)]; rfl, by omega, x, cv, hf, by omega, hr⟩
                  case measure => simp [intOf]; have := Hm.out; omega
              · obtain rfl : m = 0 := by omega
                go_wp2_with fail
                go_meet
                obtain ⟨x, cv, hf, hl, ho, hO, he, hz, hs⟩ := HW.out
                refine ⟨x, .slice none 0 0, cv, he, ⟨hf.ok, by rw [hf.bytes]; exact BytesF.nil _ _, BiasIn.of_own hO (by omega) hf.bias⟩, ⟨by rw [hf.text]; simp [ByteArray.size], by rw [hf.bytes]; simp, by have := hf.name; omega, by omega⟩, hf.pl, rfl, ho, hs, hz⟩
    · go_wp2_with fail
      refine (int_ok B b w3 HS3.out.1).mono ?_
      rintro e w4 ⟨n, hn, rfl, hst4⟩
      have Hn := Lib.hid hn
      have HS4 := Lib.hid (HS3.out.then hst4)
      have HE4 := Lib.hid (E3'.out.but hst4.2 (by have := Hnb.out; omega))
      have HZ4 := Lib.hid (EA3.out.but hst4.2 (by omega))
      have q0 : w4.cell? ⟨eb, 3, none⟩ = some (.int .i64 0) := HE4.out.2.1 3 (by omega)
      have q1 := HE4.out.2.2 3 (by omega)
      clear hst4 hn E3' EA3 HS3
      go_wp2_with fail
      clear q0 q1
      go_meet
      refine ⟨{ Ev.zero with kind := 5, n := n }, .slice none 0 0, .slice none 0 0, HE4.out.set 3 (by omega) _, ?_, ⟨by simp [Ev.zero, ByteArray.size], by simp [Ev.zero], by simp [Ev.zero, ByteArray.size], by simp [Ev.zero]⟩, by simp [PlOk, Ev.zero, longI], rfl, rfl, HS4.out.setCell (by have := Hne.out; simp; omega) (by have := Hnb.out; simp; omega) (by have := HS4.out.1.le; have := Hnb.out; simp; omega) _, HZ4.out.other (by have := Hne.out; simp; omega) _⟩
      have h := HZP.out 5 (w4.setCell ⟨eb, 3, none⟩ (.int .i64 n)) (by unfold I64; omega)
      exact ⟨{ h.ok with n := Hn.out }, h.bytes, h.bias⟩
    · go_wp2_with fail
      go_meet
      exact ⟨{ Ev.zero with kind := 6 }, .slice none 0 0, .slice none 0 0, E3'.out, HZP.out 6 _ (by unfold I64; omega), ⟨by simp [Ev.zero, ByteArray.size], by simp [Ev.zero], by simp [Ev.zero, ByteArray.size], by simp [Ev.zero]⟩, by simp [PlOk, Ev.zero, longI], rfl, rfl, HS3.out, EA3.out⟩
  case rest =>
    obtain ⟨x, bv, cv, he, hp, hw, hpl, hb1, hc1, hs, hz⟩ := hcut
    have Hone := Lib.hid (And.intro hb1 hc1)
    have HW := Lib.hid hw
    have HPl := Lib.hid hpl
    have HS := Lib.hid hs
    have HE4 := Lib.hid he
    have HZ4 := Lib.hid hz
    have HP4 := Lib.hid hp
    clear hb1 hc1 hw hpl hs he hz hp e0 EA3 E3' HS3
    go_wp2_with fail
    refine (next_ok B b 24 wc HS.out.1 (by omega) (by omega)).mono ?_
    rintro e w5 ⟨i, hi0, hi1, rfl, hst5⟩
    have HS5 := Lib.hid (HS.out.then hst5)
    have HE5 := Lib.hid (HE4.out.but hst5.2 (by have := Hnb.out; omega))
    have HZ5 := Lib.hid (HZ4.out.but hst5.2 (by omega))
    have HP5 := Lib.hid (HP4.out.kept (Kept.of_but hst5.2) (Or.inl (by have := Hnb.out; omega)))
    clear hst5 HS HE4 HZ4 HP4
    by_cases h21 : i = 21
    · subst h21
      have q0 : w5.cell? ⟨eb, 3, none⟩ = some (.int .i64 x.n) := HE5.out.2.1 3 (by omega)
      have q1 := HE5.out.2.2 3 (by omega)
      go_upto_region 28 with fail
      clear q0 q1
      obtain ⟨v5, hv5⟩ : ∃ v5, v5 = w5.setCell ⟨eb, 3, none⟩ (.int .i64 1) := ⟨_, rfl⟩
      rw [← hv5]
      have HVe : Hid (EvAt v5 eb (evCells ({ x with n := 1 }) bv cv)) := by rw [hv5]; exact HE5.out.set 3 (by omega) _
      have HVr : Hid (EvAt v5 w.heap.size (evCells Ev.zero (.slice none 0 0) (.slice none 0 0))) := by rw [hv5]; exact HZ5.out.other (by have := Hne.out; simp; omega) _
      have HSv : Hid (St w B b v5) := by rw [hv5]; exact HS5.out.setCell (by have := Hne.out; simp; omega) (by have := Hnb.out; simp; omega) (by have := HS5.out.1.le; have := Hnb.out; simp; omega) _
      have HPv : Hid (EvParts (eb + 1) v5 ({ x with n := 1 }) bv cv) := by
        rw [hv5]
        have h := HP5.out.kept (b := eb) (w' := w5.setCell ⟨eb, 3, none⟩ (.int .i64 1)) (fun k _ hn _ => Below.heap_setCell _ _ _ _ (by simp; exact hn)) (Or.inl (by omega))
        exact ⟨{ h.ok with n := by unfold I64; simp }, h.bytes, h.bias⟩
      clear hv5 HE5 HZ5 HS5 HP5
      go_wp2_with (first
        | (refine ev_load rfl _ rfl _ rfl _ HVe.out ?_)
        | (refine ev_store rfl _ _ rfl _ rfl _ (evCells ({ x with n := 1 }) (bv) cv) rfl HVr.out rfl (evCells_one _ Hone.out.1 Hone.out.2) ?_; intro wz EZ HZ))
      refine ret_one rfl _ _ EZ rfl rfl ?_
      exact ⟨{ x with n := 1 }, bv, cv, rfl, (HZ.parts (HPv.out) (by have := Hne.out; omega)).mono (by have := Hne.out; omega), HW.out, HPl.out, Hone.out.1, Hone.out.2, ev_st HSv.out HZ hlt⟩
    by_cases h22 : i = 22
    · subst h22
      have q0 : w5.cell? ⟨eb, 5, none⟩ = some (.string x.name) := HE5.out.2.1 5 (by omega)
      have q1 := HE5.out.2.2 5 (by omega)
      go_upto_region 28 with fail
      clear q0 q1
      obtain ⟨v5, hv5⟩ : ∃ v5, v5 = w5.setCell ⟨eb, 5, none⟩ (.string ⟨#[81]⟩) := ⟨_, rfl⟩
      rw [← hv5]
      have HVe : Hid (EvAt v5 eb (evCells ({ x with name := ⟨#[81]⟩ }) bv cv)) := by rw [hv5]; exact HE5.out.set 5 (by omega) _
      have HVr : Hid (EvAt v5 w.heap.size (evCells Ev.zero (.slice none 0 0) (.slice none 0 0))) := by rw [hv5]; exact HZ5.out.other (by have := Hne.out; simp; omega) _
      have HSv : Hid (St w B b v5) := by rw [hv5]; exact HS5.out.setCell (by have := Hne.out; simp; omega) (by have := Hnb.out; simp; omega) (by have := HS5.out.1.le; have := Hnb.out; simp; omega) _
      have HPv : Hid (EvParts (eb + 1) v5 ({ x with name := ⟨#[81]⟩ }) bv cv) := by
        rw [hv5]
        have h := HP5.out.kept (b := eb) (w' := w5.setCell ⟨eb, 5, none⟩ (.string ⟨#[81]⟩)) (fun k _ hn _ => Below.heap_setCell _ _ _ _ (by simp; exact hn)) (Or.inl (by omega))
        exact ⟨{ h.ok with name := by simp [ByteArray.size] }, h.bytes, h.bias⟩
      clear hv5 HE5 HZ5 HS5 HP5
      go_wp2_with (first
        | (refine ev_load rfl _ rfl _ rfl _ HVe.out ?_)
        | (refine ev_store rfl _ _ rfl _ rfl _ (evCells ({ x with name := ⟨#[81]⟩ }) (bv) cv) rfl HVr.out rfl (evCells_one _ Hone.out.1 Hone.out.2) ?_; intro wz EZ HZ))
      refine ret_one rfl _ _ EZ rfl rfl ?_
      exact ⟨{ x with name := ⟨#[81]⟩ }, bv, cv, rfl, (HZ.parts (HPv.out) (by have := Hne.out; omega)).mono (by have := Hne.out; omega), ⟨HW.out.1, HW.out.2.1, by simp [ByteArray.size], HW.out.2.2.2⟩, HPl.out, Hone.out.1, Hone.out.2, ev_st HSv.out HZ hlt⟩
    by_cases h20 : i = 20
    · subst h20
      go_wp2_with fail
      refine (int_ok B b w5 HS5.out.1).mono ?_
      rintro e w6 ⟨n, hn6, rfl, hst6⟩
      have Hn6 := Lib.hid hn6
      have HS6 := Lib.hid (HS5.out.then hst6)
      have HE6 := Lib.hid (HE5.out.but hst6.2 (by have := Hnb.out; omega))
      have HZ6 := Lib.hid (HZ5.out.but hst6.2 (by omega))
      have HP6 := Lib.hid (HP5.out.kept (Kept.of_but hst6.2) (Or.inl (by have := Hnb.out; omega)))
      clear hst6 hn6 HS5 HE5 HZ5 HP5
      have q0 : w6.cell? ⟨eb, 0, none⟩ = some (.int .i64 x.kind) := HE6.out.2.1 0 (by omega)
      have q1 := HE6.out.2.2 0 (by omega)
      go_upto_region 28 with fail
      clear q0 q1
      obtain ⟨v5, hv5⟩ : ∃ v5, v5 = w6.setCell ⟨eb, 0, none⟩ (.int .i64 n) := ⟨_, rfl⟩
      rw [← hv5]
      have HVe : Hid (EvAt v5 eb (evCells ({ x with kind := n }) bv cv)) := by rw [hv5]; exact HE6.out.set 0 (by omega) _
      have HVr : Hid (EvAt v5 w.heap.size (evCells Ev.zero (.slice none 0 0) (.slice none 0 0))) := by rw [hv5]; exact HZ6.out.other (by have := Hne.out; simp; omega) _
      have HSv : Hid (St w B b v5) := by rw [hv5]; exact HS6.out.setCell (by have := Hne.out; simp; omega) (by have := Hnb.out; simp; omega) (by have := HS6.out.1.le; have := Hnb.out; simp; omega) _
      have HPv : Hid (EvParts (eb + 1) v5 ({ x with kind := n }) bv cv) := by
        rw [hv5]
        have h := HP6.out.kept (b := eb) (w' := w6.setCell ⟨eb, 0, none⟩ (.int .i64 n)) (fun k _ hn _ => Below.heap_setCell _ _ _ _ (by simp; exact hn)) (Or.inl (by omega))
        exact ⟨{ h.ok with kind := Hn6.out }, h.bytes, h.bias⟩
      clear hv5 HE6 HZ6 HS6 HP6
      go_wp2_with (first
        | (refine ev_load rfl _ rfl _ rfl _ HVe.out ?_)
        | (refine ev_store rfl _ _ rfl _ rfl _ (evCells ({ x with kind := n }) (bv) cv) rfl HVr.out rfl (evCells_one _ Hone.out.1 Hone.out.2) ?_; intro wz EZ HZ))
      refine ret_one rfl _ _ EZ rfl rfl ?_
      exact ⟨{ x with kind := n }, bv, cv, rfl, (HZ.parts (HPv.out) (by have := Hne.out; omega)).mono (by have := Hne.out; omega), HW.out, HPl.out, Hone.out.1, Hone.out.2, ev_st HSv.out HZ hlt⟩
    by_cases h23 : i = 23
    · subst h23
      have q0 : w5.cell? ⟨eb, 2, none⟩ = some bv := HE5.out.2.1 2 (by omega)
      have q1 := HE5.out.2.2 2 (by omega)
      have hbl : eb < w5.heap.size := HE5.out.lt
      go_upto_region 28 with fail
      clear q0 q1
      have Hbl := Lib.hid hbl
      obtain ⟨w6, hw6⟩ : ∃ w6, w6 = w5.setCell ⟨eb, 2, none⟩ (.slice (some ⟨w5.heap.size, 0, none⟩) 1 1) := ⟨_, rfl⟩
      rw [← hw6]
      have hz6 : w6.heap.size = w5.heap.size := by rw [hw6]; simp [World.setCell]
      have HE6 : Hid (EvAt w6 eb (evCells ({ x with bytes := [7] }) (.slice (some ⟨w5.heap.size, 0, none⟩) 1 1) cv)) := by rw [hw6]; exact HE5.out.set 2 (by omega) _
      have HZ6 : Hid (EvAt w6 w.heap.size (evCells Ev.zero (.slice none 0 0) (.slice none 0 0))) := by rw [hw6]; exact HZ5.out.other (by have := Hne.out; simp; omega) _
      have HS6 : Hid (St w B b w6) := by rw [hw6]; exact HS5.out.setCell (by have := Hne.out; simp; omega) (by have := Hnb.out; simp; omega) (by have := HS5.out.1.le; have := Hnb.out; simp; omega) _
      have HP6 : Hid (EvParts (eb + 1) w6 x bv cv) := by
        rw [hw6]; exact HP5.out.kept (b := eb) (fun k _ hn _ => Below.heap_setCell _ _ _ _ (by simp; exact hn)) (Or.inl (by omega))
      obtain ⟨v5, hv5⟩ : ∃ v5, v5 = w6.alloc (.cells #[.int .u8 7] 5) := ⟨_, rfl⟩
      rw [← hv5]
      have hb6 : Below w6.heap.size w6 v5 := by rw [hv5]; exact (Below.refl _ _).alloc (Nat.le_refl _) _
      have HVe := Lib.hid (HE6.out.below hb6)
      have HVr := Lib.hid (HZ6.out.below hb6)
      have HSv := Lib.hid (HS6.out.below hb6)
      have HPv : Hid (EvParts (eb + 1) v5 ({ x with bytes := [7] }) (.slice (some ⟨w5.heap.size, 0, none⟩) 1 1) cv) := by
        have h := HP6.out.below hb6
        exact ⟨{ h.ok with }, ⟨some ⟨w5.heap.size, 0, none⟩, 1, rfl, by simp, fun i hi => ⟨w5.heap.size, 0, rfl, by have := Hbl.out; omega, by
          have : i = 0 := by simpa using hi
          subst this; rw [hv5, ← hz6]; simp, _, _, by rw [hv5, ← hz6]; exact heap_alloc_new w6 _⟩⟩, h.bias⟩
      clear hv5 hw6 hz6 hb6 hbl HE5 HZ5 HS5 HP5 HE6 HZ6 HS6 HP6
      go_wp2_with (first
        | (refine ev_load rfl _ rfl _ rfl _ HVe.out ?_)
        | (refine ev_store rfl _ _ rfl _ rfl _ (evCells ({ x with bytes := [7] }) (.slice (some ⟨w5.heap.size, 0, none⟩) 1 1) cv) rfl HVr.out rfl (evCells_one _ rfl Hone.out.2) ?_; intro wz EZ HZ))
      refine ret_one rfl _ _ EZ rfl rfl ?_
      exact ⟨{ x with bytes := [7] }, .slice (some ⟨w5.heap.size, 0, none⟩) 1 1, cv, rfl, (HZ.parts (HPv.out) (by have := Hne.out; omega)).mono (by have := Hne.out; omega), ⟨HW.out.1, by simp, HW.out.2.2⟩, HPl.out, rfl, Hone.out.2, ev_st HSv.out HZ hlt⟩
    have f20 : (i == 20) = false := by simpa using h20
    have f21 : (i == 21) = false := by simpa using h21
    have f22 : (i == 22) = false := by simpa using h22
    have f23 : (i == 23) = false := by simpa using h23
    clear h20 h21 h22 h23
    have HVe := HE5
    have HVr := HZ5
    go_wp2_with (first
      | (refine ev_load rfl _ rfl _ rfl _ HVe.out ?_)
      | (refine ev_store rfl _ _ rfl _ rfl _ (evCells (x) (bv) cv) rfl HVr.out rfl (evCells_one _ Hone.out.1 Hone.out.2) ?_; intro wz EZ HZ))
    refine ret_one rfl _ _ EZ rfl rfl ?_
    exact ⟨x, bv, cv, rfl, (HZ.parts (HP5.out) (by have := Hne.out; omega)).mono (by have := Hne.out; omega), HW.out, HPl.out, Hone.out.1, Hone.out.2, ev_st HS5.out HZ hlt⟩
end Go.Proofs.YtobaoekibnloiaaGreatDoor
/- The errors of an event that is to be written: what the functions that ask return. No walk. -/
namespace Go.Proofs.YtobaoekibnloiaaGreatDoor
open Go Go.RowKit

def CheckIs (x : Ev) (w : World) (e : Ending) (w' : World) : Prop := e = .returned (.int .i64 (errOf x)) ∧ Below w.heap.size w w'
theorem one_below (w : World) (o : Obj) : Below w.heap.size w (w.alloc o) := (Below.refl _ _).alloc (Nat.le_refl _) _
theorem errOf_4 {x : Ev} (h : kindBad x) : errOf x = 4 := by unfold errOf; rw [if_pos h]
theorem errOf_3 {x : Ev} (h : ¬ kindBad x) (h2 : x.kind = 4 ∧ nameOk x.name = false) : errOf x = 3 := by unfold errOf; rw [if_neg h, if_pos h2]
theorem errOf_1 {x : Ev} (h : ¬ kindBad x) (h2 : ¬ (x.kind = 4 ∧ nameOk x.name = false)) (h3 : ∃ n ∈ nums x, longI n) : errOf x = 1 := by unfold errOf; rw [if_neg h, if_neg h2, if_pos h3]
theorem errOf_7 {x : Ev} (h : ¬ kindBad x) (h2 : ¬ (x.kind = 4 ∧ nameOk x.name = false)) (h3 : ¬ ∃ n ∈ nums x, longI n) (h4 : stateBad x) : errOf x = 7 := by unfold errOf; rw [if_neg h, if_neg h2, if_neg h3, if_pos h4]
theorem errOf_0 {x : Ev} (h : ¬ kindBad x) (h2 : ¬ (x.kind = 4 ∧ nameOk x.name = false)) (h3 : ¬ ∃ n ∈ nums x, longI n) (h4 : ¬ stateBad x) : errOf x = 0 := by unfold errOf; rw [if_neg h, if_neg h2, if_neg h3, if_neg h4]
/-- The parts of the event with the fields that its kind uses. -/
theorem only_parts {B : Nat} {w : World} {x : Ev} {bv cv : Value} (h : EvParts B w x bv cv) : EvParts B w (only x) (if x.kind = 2 then bv else .slice none 0 0) (if x.kind = 4 then cv else .slice none 0 0) := by
  obtain ⟨⟨o1, o2, o3, o4, o5, o6, o7, o8, o9, o10⟩, hb, hc⟩ := h
  have hz : (⟨#[]⟩ : ByteArray).size ≤ 1000000 := by simp [ByteArray.size]
  unfold only
  split
  · next h => (try rw [if_neg (by omega : ¬ x.kind = 2)]); (try rw [if_neg (by omega : ¬ x.kind = 4)]); exact ⟨⟨o1, o2, I64.zero, I64.zero, hz, I64.zero, I64.zero, I64.zero, I64.zero, I64.zero⟩, BytesF.nil _ _, BiasIn.nil _ _⟩
  · split
    · next h => (try rw [if_pos h]); (try rw [if_neg (by omega : ¬ x.kind = 4)]); exact ⟨⟨o1, hz, I64.zero, I64.zero, hz, I64.zero, I64.zero, I64.zero, I64.zero, I64.zero⟩, hb, BiasIn.nil _ _⟩
    · split
      · next h => (try rw [if_neg (by omega : ¬ x.kind = 2)]); (try rw [if_neg (by omega : ¬ x.kind = 4)]); exact ⟨⟨o1, hz, o3, I64.zero, hz, I64.zero, I64.zero, I64.zero, I64.zero, I64.zero⟩, BytesF.nil _ _, BiasIn.nil _ _⟩
      · split
        · next h => (try rw [if_neg (by omega : ¬ x.kind = 2)]); (try rw [if_pos h]); exact ⟨⟨o1, hz, I64.zero, o4, o5, o6, o7, o8, o9, o10⟩, BytesF.nil _ _, hc⟩
        · next h1 h2 h3 h4 => (try rw [if_neg h2]); (try rw [if_neg h4]); exact ⟨⟨o1, hz, I64.zero, I64.zero, hz, I64.zero, I64.zero, I64.zero, I64.zero, I64.zero⟩, BytesF.nil _ _, BiasIn.nil _ _⟩

end Go.Proofs.YtobaoekibnloiaaGreatDoor
/- The reference's refuse, of events that are no stations. Printed by gen_rref.py. -/
namespace Go.Proofs.YtobaoekibnloiaaGreatDoor
open Go Go.RowKit

def RefIs (er : Int) (w : World) (e : Ending) (w' : World) : Prop := e = .returned (.int .i64 er) ∧ Below w.heap.size w w'
theorem ref_below (w : World) (o1 o2 : Obj) : Below w.heap.size w ((w.alloc o1).alloc o2) := ((Below.refl _ _).alloc (Nat.le_refl _) o1).alloc (by simp) o2
theorem nil_list (s : ByteArray) : s = ⟨#[]⟩ ↔ s.toList = [] := by
  have e := @Lib.toList_data s
  rw [e]
  cases s with | mk d => simp
theorem only_1 (t : ByteArray) (bs : List UInt8) (n st : Int) (nm : ByteArray) (s : Int) (c : Bool) (f a b d : Int) (l : List (Int × Int)) : ((⟨1, t, bs, n, st, nm, s, c, f, a, b, d, l⟩ : Ev) = only ⟨1, t, bs, n, st, nm, s, c, f, a, b, d, l⟩) ↔ (bs.length = 0 ∧ n = 0 ∧ st = 0 ∧ nm.toList = [] ∧ s = 0 ∧ c = false ∧ f = 0 ∧ a = 0 ∧ b = 0 ∧ d = 0 ∧ l.length = 0) := by
  simp [only, Ev.zero, nil_list]
theorem err_1 (t : ByteArray) (bs : List UInt8) (n st : Int) (nm : ByteArray) (s : Int) (c : Bool) (f a b d : Int) (l : List (Int × Int)) : ((bs.length = 0 ∧ n = 0 ∧ st = 0 ∧ nm.toList = [] ∧ s = 0 ∧ c = false ∧ f = 0 ∧ a = 0 ∧ b = 0 ∧ d = 0 ∧ l.length = 0) → errOf ⟨1, t, bs, n, st, nm, s, c, f, a, b, d, l⟩ = 0) ∧ (¬ (bs.length = 0 ∧ n = 0 ∧ st = 0 ∧ nm.toList = [] ∧ s = 0 ∧ c = false ∧ f = 0 ∧ a = 0 ∧ b = 0 ∧ d = 0 ∧ l.length = 0) → errOf ⟨1, t, bs, n, st, nm, s, c, f, a, b, d, l⟩ = 7) := by
  have h1 : ¬ kindBad ⟨1, t, bs, n, st, nm, s, c, f, a, b, d, l⟩ := by simp [kindBad]
  have h2 : ¬ ((1 : Int) = 4 ∧ nameOk nm = false) := by simp
  have h3 : ¬ ∃ z ∈ nums ⟨1, t, bs, n, st, nm, s, c, f, a, b, d, l⟩, longI z := by simp [nums]
  have h4 := only_1 t bs n st nm s c f a b d l
  refine ⟨fun h => errOf_0 h1 h2 h3 ?_, fun h => errOf_7 h1 h2 h3 (Or.inr fun e => h (h4.1 e))⟩
  rintro (⟨h5, _⟩ | h5)
  · exact absurd h5 (by simp)
  · exact h5 (h4.2 h)

set_option maxHeartbeats 8000000 in
set_option maxRecDepth 100000 in
theorem refuse_1 (t : ByteArray) (bs : List UInt8) (n st : Int) (nm : ByteArray) (s : Int) (c : Bool) (f a b d : Int) (l : List (Int × Int)) (ba ca : Option Addr) (bc cc : Nat) (w : World) (er : Int)
    (he : ((bs.length = 0 ∧ n = 0 ∧ st = 0 ∧ nm.toList = [] ∧ s = 0 ∧ c = false ∧ f = 0 ∧ a = 0 ∧ b = 0 ∧ d = 0 ∧ l.length = 0) → er = 0) ∧ (¬ (bs.length = 0 ∧ n = 0 ∧ st = 0 ∧ nm.toList = [] ∧ s = 0 ∧ c = false ∧ f = 0 ∧ a = 0 ∧ b = 0 ∧ d = 0 ∧ l.length = 0) → er = 7)) :
    Calls Tryz.prog 38 #[Ev.val ⟨1, t, bs, n, st, nm, s, c, f, a, b, d, l⟩ (.slice ba bs.length bc) (.slice ca l.length cc)] w (RefIs er w) := by
  unfold Ev.val evCells
  simp only
  have E := Lib.hid he
  clear he
  generalize bs.length = bl at *
  generalize l.length = ll at *
  go_enter Tryz.func38, Tryz.ntmps38
  go_wp2_with fail
  all_goals
    go_ret
    refine ⟨?_, ref_below _ _ _⟩
    have E := E.out
    go_light
    by_cases hC : (bl = 0 ∧ n = 0 ∧ st = 0 ∧ nm.toList = [] ∧ s = 0 ∧ c = false ∧ f = 0 ∧ a = 0 ∧ b = 0 ∧ d = 0 ∧ ll = 0)
    · rw [E.1 hC]
      first | rfl | (exfalso; clear E; simp_all)
    · rw [E.2 hC]
      first | rfl | (exfalso; clear E; simp_all)
theorem only_2 (t : ByteArray) (bs : List UInt8) (n st : Int) (nm : ByteArray) (s : Int) (c : Bool) (f a b d : Int) (l : List (Int × Int)) : ((⟨2, t, bs, n, st, nm, s, c, f, a, b, d, l⟩ : Ev) = only ⟨2, t, bs, n, st, nm, s, c, f, a, b, d, l⟩) ↔ (t.toList = [] ∧ n = 0 ∧ st = 0 ∧ nm.toList = [] ∧ s = 0 ∧ c = false ∧ f = 0 ∧ a = 0 ∧ b = 0 ∧ d = 0 ∧ l.length = 0) := by
  simp [only, Ev.zero, nil_list]
theorem err_2 (t : ByteArray) (bs : List UInt8) (n st : Int) (nm : ByteArray) (s : Int) (c : Bool) (f a b d : Int) (l : List (Int × Int)) : ((t.toList = [] ∧ n = 0 ∧ st = 0 ∧ nm.toList = [] ∧ s = 0 ∧ c = false ∧ f = 0 ∧ a = 0 ∧ b = 0 ∧ d = 0 ∧ l.length = 0) → errOf ⟨2, t, bs, n, st, nm, s, c, f, a, b, d, l⟩ = 0) ∧ (¬ (t.toList = [] ∧ n = 0 ∧ st = 0 ∧ nm.toList = [] ∧ s = 0 ∧ c = false ∧ f = 0 ∧ a = 0 ∧ b = 0 ∧ d = 0 ∧ l.length = 0) → errOf ⟨2, t, bs, n, st, nm, s, c, f, a, b, d, l⟩ = 7) := by
  have h1 : ¬ kindBad ⟨2, t, bs, n, st, nm, s, c, f, a, b, d, l⟩ := by simp [kindBad]
  have h2 : ¬ ((2 : Int) = 4 ∧ nameOk nm = false) := by simp
  have h3 : ¬ ∃ z ∈ nums ⟨2, t, bs, n, st, nm, s, c, f, a, b, d, l⟩, longI z := by simp [nums]
  have h4 := only_2 t bs n st nm s c f a b d l
  refine ⟨fun h => errOf_0 h1 h2 h3 ?_, fun h => errOf_7 h1 h2 h3 (Or.inr fun e => h (h4.1 e))⟩
  rintro (⟨h5, _⟩ | h5)
  · exact absurd h5 (by simp)
  · exact h5 (h4.2 h)

set_option maxHeartbeats 8000000 in
set_option maxRecDepth 100000 in
theorem refuse_2 (t : ByteArray) (bs : List UInt8) (n st : Int) (nm : ByteArray) (s : Int) (c : Bool) (f a b d : Int) (l : List (Int × Int)) (ba ca : Option Addr) (bc cc : Nat) (w : World) (er : Int)
    (he : ((t.toList = [] ∧ n = 0 ∧ st = 0 ∧ nm.toList = [] ∧ s = 0 ∧ c = false ∧ f = 0 ∧ a = 0 ∧ b = 0 ∧ d = 0 ∧ l.length = 0) → er = 0) ∧ (¬ (t.toList = [] ∧ n = 0 ∧ st = 0 ∧ nm.toList = [] ∧ s = 0 ∧ c = false ∧ f = 0 ∧ a = 0 ∧ b = 0 ∧ d = 0 ∧ l.length = 0) → er = 7)) :
    Calls Tryz.prog 38 #[Ev.val ⟨2, t, bs, n, st, nm, s, c, f, a, b, d, l⟩ (.slice ba bs.length bc) (.slice ca l.length cc)] w (RefIs er w) := by
  unfold Ev.val evCells
  simp only
  have E := Lib.hid he
  clear he
  generalize bs.length = bl at *
  generalize l.length = ll at *
  go_enter Tryz.func38, Tryz.ntmps38
  go_wp2_with fail
  all_goals
    go_ret
    refine ⟨?_, ref_below _ _ _⟩
    have E := E.out
    go_light
    by_cases hC : (t.toList = [] ∧ n = 0 ∧ st = 0 ∧ nm.toList = [] ∧ s = 0 ∧ c = false ∧ f = 0 ∧ a = 0 ∧ b = 0 ∧ d = 0 ∧ ll = 0)
    · rw [E.1 hC]
      first | rfl | (exfalso; clear E; simp_all)
    · rw [E.2 hC]
      first | rfl | (exfalso; clear E; simp_all)
theorem only_6 (t : ByteArray) (bs : List UInt8) (n st : Int) (nm : ByteArray) (s : Int) (c : Bool) (f a b d : Int) (l : List (Int × Int)) : ((⟨6, t, bs, n, st, nm, s, c, f, a, b, d, l⟩ : Ev) = only ⟨6, t, bs, n, st, nm, s, c, f, a, b, d, l⟩) ↔ (t.toList = [] ∧ bs.length = 0 ∧ n = 0 ∧ st = 0 ∧ nm.toList = [] ∧ s = 0 ∧ c = false ∧ f = 0 ∧ a = 0 ∧ b = 0 ∧ d = 0 ∧ l.length = 0) := by
  simp [only, Ev.zero, nil_list]
theorem err_6 (t : ByteArray) (bs : List UInt8) (n st : Int) (nm : ByteArray) (s : Int) (c : Bool) (f a b d : Int) (l : List (Int × Int)) : ((t.toList = [] ∧ bs.length = 0 ∧ n = 0 ∧ st = 0 ∧ nm.toList = [] ∧ s = 0 ∧ c = false ∧ f = 0 ∧ a = 0 ∧ b = 0 ∧ d = 0 ∧ l.length = 0) → errOf ⟨6, t, bs, n, st, nm, s, c, f, a, b, d, l⟩ = 0) ∧ (¬ (t.toList = [] ∧ bs.length = 0 ∧ n = 0 ∧ st = 0 ∧ nm.toList = [] ∧ s = 0 ∧ c = false ∧ f = 0 ∧ a = 0 ∧ b = 0 ∧ d = 0 ∧ l.length = 0) → errOf ⟨6, t, bs, n, st, nm, s, c, f, a, b, d, l⟩ = 7) := by
  have h1 : ¬ kindBad ⟨6, t, bs, n, st, nm, s, c, f, a, b, d, l⟩ := by simp [kindBad]
  have h2 : ¬ ((6 : Int) = 4 ∧ nameOk nm = false) := by simp
  have h3 : ¬ ∃ z ∈ nums ⟨6, t, bs, n, st, nm, s, c, f, a, b, d, l⟩, longI z := by simp [nums]
  have h4 := only_6 t bs n st nm s c f a b d l
  refine ⟨fun h => errOf_0 h1 h2 h3 ?_, fun h => errOf_7 h1 h2 h3 (Or.inr fun e => h (h4.1 e))⟩
  rintro (⟨h5, _⟩ | h5)
  · exact absurd h5 (by simp)
  · exact h5 (h4.2 h)

set_option maxHeartbeats 8000000 in
set_option maxRecDepth 100000 in
theorem refuse_6 (t : ByteArray) (bs : List UInt8) (n st : Int) (nm : ByteArray) (s : Int) (c : Bool) (f a b d : Int) (l : List (Int × Int)) (ba ca : Option Addr) (bc cc : Nat) (w : World) (er : Int)
    (he : ((t.toList = [] ∧ bs.length = 0 ∧ n = 0 ∧ st = 0 ∧ nm.toList = [] ∧ s = 0 ∧ c = false ∧ f = 0 ∧ a = 0 ∧ b = 0 ∧ d = 0 ∧ l.length = 0) → er = 0) ∧ (¬ (t.toList = [] ∧ bs.length = 0 ∧ n = 0 ∧ st = 0 ∧ nm.toList = [] ∧ s = 0 ∧ c = false ∧ f = 0 ∧ a = 0 ∧ b = 0 ∧ d = 0 ∧ l.length = 0) → er = 7)) :
    Calls Tryz.prog 38 #[Ev.val ⟨6, t, bs, n, st, nm, s, c, f, a, b, d, l⟩ (.slice ba bs.length bc) (.slice ca l.length cc)] w (RefIs er w) := by
  unfold Ev.val evCells
  simp only
  have E := Lib.hid he
  clear he
  generalize bs.length = bl at *
  generalize l.length = ll at *
  go_enter Tryz.func38, Tryz.ntmps38
  go_wp2_with fail
  all_goals
    go_ret
    refine ⟨?_, ref_below _ _ _⟩
    have E := E.out
    go_light
    by_cases hC : (t.toList = [] ∧ bl = 0 ∧ n = 0 ∧ st = 0 ∧ nm.toList = [] ∧ s = 0 ∧ c = false ∧ f = 0 ∧ a = 0 ∧ b = 0 ∧ d = 0 ∧ ll = 0)
    · rw [E.1 hC]
      first | rfl | (exfalso; clear E; simp_all)
    · rw [E.2 hC]
      first | rfl | (exfalso; clear E; simp_all)
end Go.Proofs.YtobaoekibnloiaaGreatDoor
/- The reference's Same, of two equal events. -/
namespace Go.Proofs.YtobaoekibnloiaaGreatDoor
open Go Go.RowKit

theorem BytesF.conv {B : Nat} {w : World} {a : Option Addr} {c : Nat} {l : List UInt8} (h : BytesF B w (.slice a l.length c) l) : (convert 22 9 (.slice a l.length c)).run Tryz.prog w = .ok (.string (mkB l)) w := by
  obtain ⟨a', c', e, hl, hc⟩ := h
  obtain ⟨rfl, rfl⟩ : a = a' ∧ c = c' := by simpa using e
  cases a with
  | none =>
    have h0 : l.length = 0 := by
      rcases Nat.eq_zero_or_pos l.length with h | h
      · exact h
      · obtain ⟨ab, ao, e, _⟩ := hc 0 h; cases e
    obtain rfl : l = [] := List.eq_nil_of_length_eq_zero h0
    exact run_convert_bytes_nil w 22 5 Tryz.underlying22 Tryz.underlying5 _ _ 9 Tryz.underlying9
  | some a =>
    refine run_convert_bytes_back (P := Tryz.prog) w 22 9 5 a c l Tryz.underlying22 Tryz.underlying5 Tryz.underlying9 (fun j hj => ?_)
    obtain ⟨ab, ao, e, _, hcell, _⟩ := hc j hj
    obtain rfl := Option.some.inj e
    rw [Go.WideShapes.add_plain, hcell]
    simp [List.getD_eq_getElem?_getD, hj]
theorem below4 (w : World) (o1 o2 o3 o4 : Obj) : Below w.heap.size w (((((w.alloc o1).alloc o2).alloc o3).alloc o4).drew) :=
  (((((Below.refl _ _).alloc (Nat.le_refl _) o1).alloc (by simp) o2).alloc (by simp; omega) o3).alloc (by simp; omega) o4).drew
/-- Reads as the pairs, wherever they lie. -/
theorem BiasIn.cellsAt {B : Nat} {w : World} {a : Option Addr} {c : Nat} {l : List (Int × Int)} (h : BiasIn B w (.slice a l.length c) l) {i : Nat} (hi : i < l.length) : ∃ ab ao : Nat, a = some ⟨ab, ao, none⟩ ∧ w.cell? ⟨ab, ao + i * 2, none⟩ = some (.int .i64 (l.getD i (0, 0)).1) ∧ w.cell? ⟨ab, ao + i * 2 + 1, none⟩ = some (.int .i64 (l.getD i (0, 0)).2) := by
  obtain ⟨a', c', e, _, _, h4⟩ := h
  obtain ⟨rfl, rfl⟩ : a = a' ∧ c = c' := by simpa using e
  obtain ⟨ab, ao, e, _, h0, h1, _⟩ := h4 i hi
  exact ⟨ab, ao, e, h0, h1⟩
theorem cell4a (w : World) (o1 o2 : Obj) (c3 : Array Value) (t3 : TypeId) (o4 : Obj) (i : Nat) : (((((w.alloc o1).alloc o2).alloc (.cells c3 t3)).alloc o4).drew).cell? ⟨w.heap.size + 1 + 1, i, none⟩ = c3[i]? := by
  generalize hu : (w.alloc o1).alloc o2 = u
  have e : w.heap.size + 1 + 1 = u.heap.size := by rw [← hu]; simp
  rw [e]
  simp
theorem cell4b (w : World) (o1 o2 o3 : Obj) (c4 : Array Value) (t4 : TypeId) (i : Nat) : (((((w.alloc o1).alloc o2).alloc o3).alloc (.cells c4 t4)).drew).cell? ⟨w.heap.size + 1 + 1 + 1, i, none⟩ = c4[i]? := by
  generalize hu : ((w.alloc o1).alloc o2).alloc o3 = u
  have e : w.heap.size + 1 + 1 + 1 = u.heap.size := by rw [← hu]; simp
  rw [e]
  simp
theorem mkB_ne {a b : List UInt8} (h : a ≠ b) : mkB a ≠ mkB b := fun e => h (by have := congrArg (fun s : ByteArray => s.data.toList) e; simpa [mkB] using this)

set_option maxHeartbeats 8000000 in
set_option maxRecDepth 100000 in
theorem rsame_raw (k n st s f a b d : Int) (t nm : ByteArray) (c : Bool) (bs : List UInt8) (l : List (Int × Int)) (pa pd qa qd : Option Addr) (pc pe qc qe : Nat) (w : World) (hx : BytesF 0 w (.slice pa bs.length pc) bs) (hy : BytesF 0 w (.slice qa bs.length qc) bs) (hl : BiasIn 0 w (.slice pd l.length pe) l) (hm : BiasIn 0 w (.slice qd l.length qe) l) :
    Calls Tryz.prog 17 #[.agg #[.int .i64 k, .string t, .slice pa bs.length pc, .int .i64 n, .int .i64 st, .string nm, .int .i64 s, .bool c, .int .i64 f, .int .i64 a, .int .i64 b, .int .i64 d, .slice pd l.length pe], .agg #[.int .i64 k, .string t, .slice qa bs.length qc, .int .i64 n, .int .i64 st, .string nm, .int .i64 s, .bool c, .int .i64 f, .int .i64 a, .int .i64 b, .int .i64 d, .slice qd l.length qe]] w fun e w' => e = .returned (.bool true) ∧ Below w.heap.size w w' := by
  have hcx : ∀ o1 o2 o3 o4, (convert 22 9 (.slice pa bs.length pc)).run Tryz.prog (((((w.alloc o1).alloc o2).alloc o3).alloc o4).drew) = .ok (.string (mkB bs)) (((((w.alloc o1).alloc o2).alloc o3).alloc o4).drew) := fun o1 o2 o3 o4 => (hx.below (below4 w o1 o2 o3 o4)).conv
  have hcy : ∀ o1 o2 o3 o4, (convert 22 9 (.slice qa bs.length qc)).run Tryz.prog (((((w.alloc o1).alloc o2).alloc o3).alloc o4).drew) = .ok (.string (mkB bs)) (((((w.alloc o1).alloc o2).alloc o3).alloc o4).drew) := fun o1 o2 o3 o4 => (hy.below (below4 w o1 o2 o3 o4)).conv
  have Hl := Lib.hid hl
  have Hm := Lib.hid hm
  have hll : l.length ≤ 2000000 := by obtain ⟨_, _, _, h, _⟩ := hl; exact h
  have Hlen : Hid (l.length = l.length) := rfl
  clear hx hy hl hm
  obtain ⟨len, hlen⟩ : ∃ len, len = l.length := ⟨_, rfl⟩
  rw [← hlen] at hll ⊢
  have HL := Lib.hid hlen
  clear hlen Hlen
  go_enter Tryz.func17, Tryz.ntmps17
  go_wp2_with fail
  go_region
  · go_wp2_with fail
    have HB0 := Lib.hid (below4 w (.cells #[.int .i64 k, .string t, .slice pa bs.length pc, .int .i64 n, .int .i64 st, .string nm, .int .i64 s, .bool c, .int .i64 f, .int .i64 a, .int .i64 b, .int .i64 d, .slice pd len pe] 36) (.cells #[.int .i64 k, .string t, .slice qa bs.length qc, .int .i64 n, .int .i64 st, .string nm, .int .i64 s, .bool c, .int .i64 f, .int .i64 a, .int .i64 b, .int .i64 d, .slice qd len qe] 36) (.cells #[.int .i64 s, .bool c, .int .i64 f, .int .i64 a, .int .i64 b, .int .i64 d, .slice pd len pe] 34) (.cells #[.int .i64 s, .bool c, .int .i64 f, .int .i64 a, .int .i64 b, .int .i64 d, .slice qd len qe] 34))
    clear hcx hcy
    go_loopw [7] (fun x wr => ∃ j : Nat, j ≤ len ∧ x = .int .i64 j ∧ wr.cell? ⟨w.heap.size + 1 + 1, 6, none⟩ = some (.slice pd len pe) ∧ wr.cell? ⟨w.heap.size + 1 + 1 + 1, 6, none⟩ = some (.slice qd len qe) ∧ Below w.heap.size w wr) (fun x _ => (len - intOf x).toNat)
    case atStart => exact ⟨0, by omega, rfl, cell4a _ _ _ _ _ _ _, cell4b _ _ _ _ _ _ _, HB0.out⟩
    case round =>
      obtain ⟨j, hj, rfl, c5, c6, hBr⟩ := hrel
      by_cases hlt : j < len
      · obtain ⟨ab, ao, rfl, p0, p1⟩ := Hl.out.cellsAt (i := j) (by have := HL.out; omega)
        obtain ⟨db, eo, rfl, q0, q1⟩ := Hm.out.cellsAt (i := j) (by have := HL.out; omega)
        have p0' := cell_then hBr p0
        have p1' := cell_then hBr p1
        have q0' := cell_then hBr q0
        have q1' := cell_then hBr q1
        clear p0 p1 q0 q1
        generalize (l.getD j (0, 0)).1 = u at *
        generalize (l.getD j (0, 0)).2 = v at *
        have i0 : (0 : Int) ≤ (j : Int) := by omega
        have i1 : (j : Int) < (len : Int) := by omega
        go_wp2_with fail
        go_quiet (fail)
        go_wp2_with fail
        go_roundw
        case rel => exact ⟨j + 1, by omega, by go_num, by simpa using c5, by simpa using c6, bdrewN hBr _⟩
        case measure => simp [intOf]; omega
      · obtain rfl : j = len := by omega
        go_wp2_with fail
        go_ret
        exact ⟨rfl, hBr⟩
  · go_wp2_with fail
    have HB0 := Lib.hid (below4 w (.cells #[.int .i64 k, .string t, .slice pa bs.length pc, .int .i64 n, .int .i64 st, .string nm, .int .i64 s, .bool c, .int .i64 f, .int .i64 a, .int .i64 b, .int .i64 d, .slice pd len pe] 36) (.cells #[.int .i64 k, .string t, .slice qa bs.length qc, .int .i64 n, .int .i64 st, .string nm, .int .i64 s, .bool c, .int .i64 f, .int .i64 a, .int .i64 b, .int .i64 d, .slice qd len qe] 36) (.cells #[.int .i64 s, .bool c, .int .i64 f, .int .i64 a, .int .i64 b, .int .i64 d, .slice qd len qe] 34) (.cells #[.int .i64 s, .bool c, .int .i64 f, .int .i64 a, .int .i64 b, .int .i64 d, .slice pd len pe] 34))
    clear hcx hcy
    go_loopw [7] (fun x wr => ∃ j : Nat, j ≤ len ∧ x = .int .i64 j ∧ wr.cell? ⟨w.heap.size + 1 + 1, 6, none⟩ = some (.slice qd len qe) ∧ wr.cell? ⟨w.heap.size + 1 + 1 + 1, 6, none⟩ = some (.slice pd len pe) ∧ Below w.heap.size w wr) (fun x _ => (len - intOf x).toNat)
    case atStart => exact ⟨0, by omega, rfl, cell4a _ _ _ _ _ _ _, cell4b _ _ _ _ _ _ _, HB0.out⟩
    case round =>
      obtain ⟨j, hj, rfl, c5, c6, hBr⟩ := hrel
      by_cases hlt : j < len
      · obtain ⟨ab, ao, rfl, p0, p1⟩ := Hl.out.cellsAt (i := j) (by have := HL.out; omega)
        obtain ⟨db, eo, rfl, q0, q1⟩ := Hm.out.cellsAt (i := j) (by have := HL.out; omega)
        have p0' := cell_then hBr p0
        have p1' := cell_then hBr p1
        have q0' := cell_then hBr q0
        have q1' := cell_then hBr q1
        clear p0 p1 q0 q1
        generalize (l.getD j (0, 0)).1 = u at *
        generalize (l.getD j (0, 0)).2 = v at *
        have i0 : (0 : Int) ≤ (j : Int) := by omega
        have i1 : (j : Int) < (len : Int) := by omega
        go_wp2_with fail
        go_quiet (fail)
        go_wp2_with fail
        go_roundw
        case rel => exact ⟨j + 1, by omega, by go_num, by simpa using c5, by simpa using c6, bdrewN hBr _⟩
        case measure => simp [intOf]; omega
      · obtain rfl : j = len := by omega
        go_wp2_with fail
        go_ret
        exact ⟨rfl, hBr⟩
/-- Equal events are the same to the reference. -/
theorem rsame_any (x : Ev) (bv cv dv ev : Value) (w : World) (hx : EvParts 0 w x bv cv) (hy : EvParts 0 w x dv ev) :
    Calls Tryz.prog 17 #[x.val bv cv, x.val dv ev] w fun e w' => e = .returned (.bool true) ∧ Below w.heap.size w w' := by
  have h1 := hx.bytes
  have h2 := hx.bias
  have h3 := hy.bytes
  have h4 := hy.bias
  obtain ⟨ba, bc, rfl, _⟩ := hx.bytes
  obtain ⟨ca, cc, rfl, _⟩ := hx.bias
  obtain ⟨da, dc, rfl, _⟩ := hy.bytes
  obtain ⟨ea, ec, rfl, _⟩ := hy.bias
  exact rsame_raw _ _ _ _ _ _ _ _ _ _ _ _ _ ba ca da ea bc cc dc ec w h1 h3 h2 h4
end Go.Proofs.YtobaoekibnloiaaGreatDoor
/- slices.ContainsFunc over long, and slices.Equal of biases. -/
namespace Go.Proofs.YtobaoekibnloiaaGreatDoor
open Go Go.RowKit

/-- v is a slice that holds the ints. -/
def IntsIn (w : World) (v : Value) (zs : List Int) : Prop :=
  ∃ (a : Option Addr) (cap : Nat), v = .slice a zs.length cap ∧ zs.length ≤ 100000000 ∧ (∀ z ∈ zs, I64 z) ∧ ∀ i, i < zs.length → ∃ ab ao : Nat, a = some ⟨ab, ao, none⟩ ∧ w.cell? ⟨ab, ao + i, none⟩ = some (.int .i64 (zs.getD i 0))
theorem IntsIn.below {w w' : World} {v : Value} {zs : List Int} (h : IntsIn w v zs) (hb : Below w.heap.size w w') : IntsIn w' v zs := by
  obtain ⟨a, cap, h1, h2, h3, h4⟩ := h
  refine ⟨a, cap, h1, h2, h3, fun i hi => ?_⟩
  obtain ⟨ab, ao, e, hc⟩ := h4 i hi
  exact ⟨ab, ao, e, cell_then hb hc⟩
theorem IntsIn.of_own {w : World} {base : Nat} {v : Value} {zs : List Int} (h : OwnI w base v zs) (hl : zs.length ≤ 100000000) (hi : ∀ z ∈ zs, I64 z) : IntsIn w v zs := by
  have h' := h
  obtain ⟨h1, h2⟩ := h
  rcases h2 with ⟨e, h0⟩ | ⟨g, cap, cur, e, hg, hh, hc, _⟩
  · exact ⟨none, 0, by rw [e, h0], hl, hi, fun i hi => by omega⟩
  · refine ⟨_, cap, e, hl, hi, fun i hi => ⟨g, 0, rfl, ?_⟩⟩
    have := own_cells h' e (j := i) (u := .int .i64 zs[i]) (by simp [hi])
    rw [Nat.zero_add, this]; simp [List.getD_eq_getElem?_getD, hi]
/-- The place of the first long number, -1 if there is none. -/
def LongAt (zs : List Int) (r : Int) : Prop := (r = -1 ∧ ∀ z ∈ zs, ¬ longI z) ∨ (0 ≤ r ∧ ∃ z ∈ zs, longI z)

set_option maxHeartbeats 2000000 in
set_option maxRecDepth 100000 in
theorem indexf_any (v : Value) (zs : List Int) (w : World) (hE : Env w) (h : IntsIn w v zs) :
    Calls Tryz.prog 69 #[v, .func (.func 49) #[] #[]] w fun e w' => ∃ r, LongAt zs r ∧ I64 r ∧ e = .returned (.int .i64 r) ∧ Below w.heap.size w w' := by
  obtain ⟨a, cap, rfl, hl, hI, hc⟩ := h
  obtain ⟨n, hn⟩ : ∃ n, n = zs.length := ⟨_, rfl⟩
  rw [← hn] at hl ⊢
  have Hn := Lib.hid hn
  have HI := Lib.hid hI
  have Hc := Lib.hid hc
  have HE := Lib.hid hE
  have Hfin : Hid (∀ r wx, LongAt zs r → I64 r → Below w.heap.size w wx → ∃ r', LongAt zs r' ∧ I64 r' ∧ Ending.returned (.int .i64 r) = .returned (.int .i64 r') ∧ Below w.heap.size w wx) := fun r wx h1 h2 h3 => ⟨r, h1, h2, rfl, h3⟩
  clear hn hI hc hE
  go_enter Tryz.func69, Tryz.ntmps69
  go_wp2_with fail
  go_loopw [8] (fun x wr => ∃ j : Nat, j ≤ n ∧ x = .int .i64 j ∧ Hid (∀ i, i < j → ¬ longI (zs.getD i 0)) ∧ Below w.heap.size w wr) (fun x _ => (n - intOf x).toNat)
  case atStart => exact ⟨0, by omega, rfl, fun i hi => by omega, Below.refl _ _⟩
  case round =>
    obtain ⟨j, hj, rfl, hno, hBr⟩ := hrel
    by_cases hlt : j < n
    · have hj' : j < zs.length := by have := Hn.out; omega
      obtain ⟨ab, ao, rfl, hcell⟩ := Hc.out j hj'
      have hcell' := cell_then hBr hcell
      have hmem : zs.getD j 0 ∈ zs := by
        have : zs.getD j 0 = zs[j] := by simp [List.getD_eq_getElem?_getD, hj']
        rw [this]; exact List.getElem_mem hj'
      have hz := HI.out _ hmem
      have Hmem := Lib.hid hmem
      have Hz := Lib.hid hz
      have HL := Lib.hid (long_any (zs.getD j 0) hz wr (HE.out.below (hBr.mono HE.out.size) (Nat.le_refl _)))
      obtain ⟨q, hq⟩ : ∃ q, q = decide (longI (zs.getD j 0)) := ⟨_, rfl⟩
      rw [← hq] at HL
      have Hq := Lib.hid hq
      have i0 : (0 : Int) ≤ (j : Int) := by omega
      have i1 : (j : Int) < (n : Int) := by omega
      clear hcell hmem hz hq
      generalize hu : zs.getD j 0 = u at *
      have Hu := Lib.hid hu
      clear hu
      go_wp2_with fail
      refine HL.out.mono ?_
      rintro e w1 ⟨rfl, hb⟩
      have hB1 := below_then hBr hb
      cases q with
      | true =>
        go_wp2_with fail
        go_ret
        exact Hfin.out _ _ (Or.inr ⟨by omega, u, Hmem.out, of_decide_eq_true Hq.out.symm⟩) (by unfold I64; omega) hB1
      | false =>
        go_wp2_with fail
        go_roundw
        case rel =>
          refine ⟨j + 1, by omega, by go_num, fun i hi => ?_, hB1⟩
          by_cases hij : i = j
          · subst hij; rw [Hu.out]; exact of_decide_eq_false Hq.out.symm
          · exact hno.out i (by omega)
        case measure => simp [intOf]; omega
    · obtain rfl : j = n := by omega
      go_wp2_with fail
      go_ret
      refine Hfin.out _ _ (Or.inl ⟨rfl, fun z hz => ?_⟩) (by unfold I64; omega) hBr
      obtain ⟨i, hi, rfl⟩ := List.getElem_of_mem hz
      have := hno.out i (by have := Hn.out; omega)
      simpa [List.getD_eq_getElem?_getD, hi] using this

open Classical in
theorem containsf_any (v : Value) (zs : List Int) (w : World) (hE : Env w) (h : IntsIn w v zs) :
    Calls Tryz.prog 47 #[v, .func (.func 49) #[] #[]] w fun e w' => e = .returned (.bool (decide (∃ z ∈ zs, longI z))) ∧ Below w.heap.size w w' := by
  have H := Lib.hid (indexf_any v zs w hE h)
  obtain ⟨a, cap, rfl, hl, _⟩ := h
  obtain ⟨q, hq⟩ : ∃ q, q = decide (∃ z ∈ zs, longI z) := ⟨_, rfl⟩
  rw [← hq]
  have Hq := Lib.hid hq
  clear hq hl hE
  generalize zs.length = n at *
  go_enter Tryz.func47, Tryz.ntmps47
  go_wp2_with fail
  refine H.out.mono ?_
  rintro e w1 ⟨r, hr, hI, rfl, hb⟩
  have hr1 : decide (0 ≤ r) = q := by
    rw [Hq.out]
    rcases hr with ⟨e, h⟩ | ⟨h0, h⟩
    · rw [decide_eq_false (show ¬ 0 ≤ r by omega), decide_eq_false]; rintro ⟨z, hz, hl⟩; exact h z hz hl
    · rw [decide_eq_true h0, decide_eq_true h]
  clear hr hI
  go_wp2_with fail
  go_ret
  exact ⟨by rw [← hr1]; rfl, hb⟩
end Go.Proofs.YtobaoekibnloiaaGreatDoor
/- slices.Equal of biases. -/
namespace Go.Proofs.YtobaoekibnloiaaGreatDoor
open Go Go.RowKit

set_option maxHeartbeats 2000000 in
set_option maxRecDepth 100000 in
theorem equal_any (va vb : Value) (l m : List (Int × Int)) (w : World) (ha : BiasIn 0 w va l) (hb : BiasIn 0 w vb m) :
    Calls Tryz.prog 71 #[va, vb] w fun e w' => e = .returned (.bool (decide (l = m))) ∧ Below w.heap.size w w' := by
  have Ha := Lib.hid ha
  have Hb := Lib.hid hb
  obtain ⟨a, ac, rfl, hl, _⟩ := ha
  obtain ⟨b, bc, rfl, hm, _⟩ := hb
  have Hres : Hid (∀ q wx, q = decide (l = m) → Below w.heap.size w wx → (Ending.returned (.bool q) = .returned (.bool (decide (l = m))) ∧ Below w.heap.size w wx)) := fun q wx h1 h2 => ⟨by rw [h1], h2⟩
  by_cases hne : l.length = m.length
  · obtain ⟨n, hn⟩ : ∃ n, n = l.length := ⟨_, rfl⟩
    rw [← hne] at Hb ⊢
    rw [← hn] at hl Ha Hb ⊢
    have Hn := Lib.hid hn
    have Hne := Lib.hid hne
    clear hn hne hm
    go_enter Tryz.func71, Tryz.ntmps71
    go_wp2_with fail
    go_loopw [13] (fun x wr => ∃ j : Nat, j ≤ n ∧ x = .int .i64 j ∧ Hid (∀ i, i < j → l.getD i (0, 0) = m.getD i (0, 0)) ∧ Below w.heap.size w wr) (fun x _ => (n - intOf x).toNat)
    case atStart => exact ⟨0, by omega, rfl, fun i hi => by omega, Below.refl _ _⟩
    case round =>
      obtain ⟨j, hj, rfl, hno, hBr⟩ := hrel
      by_cases hlt : j < n
      · obtain ⟨ab, ao, e1, p0, p1⟩ := (show ∃ ab ao : Nat, a = some ⟨ab, ao, none⟩ ∧ w.cell? ⟨ab, ao + j * 2, none⟩ = some (.int .i64 (l.getD j (0, 0)).1) ∧ w.cell? ⟨ab, ao + j * 2 + 1, none⟩ = some (.int .i64 (l.getD j (0, 0)).2) from by
          have h := Ha.out; rw [Hn.out] at h; exact h.cellsAt (by have := Hn.out; omega))
        obtain ⟨db, eo, e2, q0, q1⟩ := (show ∃ ab ao : Nat, b = some ⟨ab, ao, none⟩ ∧ w.cell? ⟨ab, ao + j * 2, none⟩ = some (.int .i64 (m.getD j (0, 0)).1) ∧ w.cell? ⟨ab, ao + j * 2 + 1, none⟩ = some (.int .i64 (m.getD j (0, 0)).2) from by
          have h := Hb.out; rw [Hn.out, Hne.out] at h; exact h.cellsAt (by have := Hn.out; have := Hne.out; omega))
        subst e1 e2
        have p0' := cell_then hBr p0
        have p1' := cell_then hBr p1
        have q0' := cell_then hBr q0
        have q1' := cell_then hBr q1
        clear p0 p1 q0 q1
        have i0 : (0 : Int) ≤ (j : Int) := by omega
        have i1 : (j : Int) < (n : Int) := by omega
        have Hdiff : Hid (l.getD j (0, 0) ≠ m.getD j (0, 0) → decide (l = m) = false) := by
          intro hd; rw [decide_eq_false]; intro e; apply hd; rw [e]
        generalize hu : l.getD j (0, 0) = u at *
        generalize hv : m.getD j (0, 0) = v at *
        have Hu := Lib.hid hu
        have Hv := Lib.hid hv
        clear hu hv
        obtain ⟨u0, u1⟩ := u
        obtain ⟨v0, v1⟩ := v
        simp only at p0' p1' q0' q1'
        by_cases hd : u0 = v0 ∧ u1 = v1
        · obtain ⟨rfl, rfl⟩ := hd
          go_wp2_with fail
          go_quiet (fail)
          go_wp2_with fail
          go_roundw
          case rel =>
            refine ⟨j + 1, by omega, by go_num, fun i hi => ?_, bdrewN hBr _⟩
            by_cases hij : i = j
            · subst hij; rw [Hu.out, Hv.out]
            · exact hno.out i (by omega)
          case measure => simp [intOf]; omega
        · have Hdf := Lib.hid (Hdiff.out (by simpa using hd))
          by_cases h0 : u0 = v0
          · subst h0
            have h1 : u1 ≠ v1 := fun e => hd ⟨rfl, e⟩
            have h1b : (u1 == v1) = false := by simpa using h1
            have h1c : (u1 != v1) = true := by simpa using h1
            clear hd
            go_wp2_with fail
            go_quiet (fail)
            go_wp2_with fail
            go_ret
            exact Hres.out _ _ Hdf.out.symm (bdrewN hBr _)
          · have h1b : (u0 == v0) = false := by simpa using h0
            have h1c : (u0 != v0) = true := by simpa using h0
            clear hd
            go_wp2_with fail
            go_quiet (fail)
            go_wp2_with fail
            go_ret
            exact Hres.out _ _ Hdf.out.symm (bdrewN hBr _)
      · obtain rfl : j = n := by omega
        have Heq : Hid (l = m) := by
          have hll := Hn.out
          have hml := Hne.out
          refine List.ext_getElem hml fun i h1 h2 => ?_
          have := hno.out i (by omega)
          simpa [List.getD_eq_getElem?_getD, h1, h2] using this
        go_wp2_with fail
        go_ret
        exact Hres.out _ _ (by rw [decide_eq_true Heq.out]) hBr
  · have Hd : Hid (decide (l = m) = false) := by unfold Hid; rw [decide_eq_false]; intro e; exact hne (by rw [e])
    have hne1 : ((l.length : Int) != (m.length : Int)) = true := by simp; omega
    have hne2 : ((l.length : Int) == (m.length : Int)) = false := by simp; omega
    generalize l.length = n at *
    generalize m.length = k at *
    go_enter Tryz.func71, Tryz.ntmps71
    go_wp2_with fail
    go_ret
    exact Hres.out _ _ Hd.out.symm (Below.refl _ _)
end Go.Proofs.YtobaoekibnloiaaGreatDoor
/- script's numbers. -/
namespace Go.Proofs.YtobaoekibnloiaaGreatDoor
open Go Go.RowKit

theorem append_ints {w : World} {base : Nat} {v : Value} {l : List Int} (h : OwnI w base v l) (zs : List Int) (hn : l.length ≤ 1000000000) (hz : zs.length ≤ 1000000000) (hb : base ≤ w.heap.size) (ty : TypeId) :
    ∃ (v' : Value) (w' : World), (Builtin.append_ #[68, 68] ty #[v, .slice (some ⟨w.heap.size, 0, none⟩) zs.length zs.length]).run Tryz.prog (w.alloc (.cells (zs.map (Value.int .i64)).toArray 3)) = .ok v' w' ∧
      OwnI w' base v' (l ++ zs) ∧ Below base w w' := by
  have h1 := append_new 68 3 Tryz.underlying68 iinfo rfl (by decide) h (zs.map (Value.int .i64)) zs.length (by simp) (by intro u hu; obtain ⟨z, _, rfl⟩ := List.mem_map.1 hu; rfl) hn hz (by decide) hb ty
  unfold OwnI
  rw [List.map_append, List.length_append]
  exact h1
theorem own_lit (w : World) (base : Nat) (zs : List Int) (hb : base ≤ w.heap.size) (hl : zs.length ≤ 1000000) : OwnI (w.alloc (.cells (zs.map (Value.int .i64)).toArray 3)) base (.slice (some ⟨w.heap.size, 0, none⟩) zs.length zs.length) zs := by
  refine ⟨by simp, Or.inr ⟨w.heap.size, zs.length, (zs.map (Value.int .i64)).toArray, rfl, hb, ?_, Nat.le_refl _, by unfold maxLen; omega, by simp, by rw [Nat.mul_one]; simp [List.take_of_length_le]⟩⟩
  exact heap_alloc_new w _
def NumsAre (x : Ev) (w : World) (e : Ending) (w' : World) : Prop := ∃ v, e = .returned v ∧ IntsIn w' v (nums x) ∧ Below w.heap.size w w'
theorem getD_mem {rs : List (Int × Int)} {k : Nat} (h : k < rs.length) : rs.getD k (0, 0) = rs[k] := by simp [List.getD_eq_getElem?_getD, h]
/-- The numbers of biases. -/
def biasN (l : List (Int × Int)) : List Int := l.flatMap fun p => [p.1, p.2]
theorem biasN_snoc (l : List (Int × Int)) (p : Int × Int) : biasN (l ++ [p]) = biasN l ++ [p.1, p.2] := by simp [biasN]
theorem biasN_length : ∀ (l : List (Int × Int)), (biasN l).length = 2 * l.length
  | [] => rfl
  | p :: r => by show (p.1 :: p.2 :: biasN r).length = _; simp [biasN_length r]; omega

set_option maxHeartbeats 4000000 in
set_option maxRecDepth 100000 in
theorem numbers_one (x : Ev) (bv cv : Value) (w : World) (hp : EvParts 0 w x bv cv) (h : x.kind = 3 ∨ x.kind = 5) :
    Calls Tryz.prog 48 #[x.val bv cv] w (NumsAre x w) := by
  have hn := hp.ok.n
  obtain ⟨ba, bc, rfl, _⟩ := hp.bytes
  obtain ⟨ca, cc, rfl, _⟩ := hp.bias
  clear hp
  obtain ⟨k, t, bs, n, st, nm, s, c, f, a, b, d, l⟩ := x
  simp only at h hn
  have Hn := Lib.hid hn
  clear hn
  unfold Ev.val evCells
  rcases h with rfl | rfl
  all_goals
    go_enter Tryz.func48, Tryz.ntmps48
    go_wp2_with fail
    go_ret
    refine ⟨_, rfl, ?_, ((Below.refl _ _).alloc (Nat.le_refl _) _).alloc (by simp) _⟩
    refine ⟨_, 1, rfl, by simp [nums], by simp [nums]; exact Hn.out, fun i hi => ⟨_, 0, rfl, ?_⟩⟩
    obtain rfl : i = 0 := by simp [nums] at hi; omega
    simp [nums]

set_option maxHeartbeats 4000000 in
set_option maxRecDepth 100000 in
theorem numbers_none (x : Ev) (bv cv : Value) (w : World) (hp : EvParts 0 w x bv cv) (h3 : x.kind ≠ 3) (h4 : x.kind ≠ 4) (h5 : x.kind ≠ 5) :
    Calls Tryz.prog 48 #[x.val bv cv] w (NumsAre x w) := by
  obtain ⟨ba, bc, rfl, _⟩ := hp.bytes
  obtain ⟨ca, cc, rfl, _⟩ := hp.bias
  clear hp
  have Hnil : Hid (nums x = []) := by unfold Hid nums; rw [if_neg (by omega), if_neg h4]
  have e3 : (x.kind == 3) = false := by simpa using h3
  have e4 : (x.kind == 4) = false := by simpa using h4
  have e5 : (x.kind == 5) = false := by simpa using h5
  clear h3 h4 h5
  unfold Ev.val evCells
  go_enter Tryz.func48, Tryz.ntmps48
  go_wp2_with fail
  go_ret
  exact ⟨_, rfl, ⟨none, 0, by rw [Hnil.out]; rfl, by rw [Hnil.out]; simp, by rw [Hnil.out]; simp, fun i hi => by rw [Hnil.out] at hi; simp at hi⟩, (Below.refl _ _).alloc (Nat.le_refl _) _⟩

set_option maxHeartbeats 4000000 in
set_option maxRecDepth 100000 in
theorem numbers_st (x : Ev) (bv cv : Value) (w : World) (hp : EvParts 0 w x bv cv) (h : x.kind = 4) :
    Calls Tryz.prog 48 #[x.val bv cv] w (NumsAre x w) := by
  have hbi := hp.bias
  have hok := hp.ok
  obtain ⟨ba, bc, rfl, _⟩ := hp.bytes
  obtain ⟨ca, cc, rfl, hll, hlI, _⟩ := hp.bias
  clear hp
  obtain ⟨k, t, bs, n, st, nm, s, c, f, a, b, d, l⟩ := x
  simp only at h hbi hll hlI
  subst h
  have Hbi := Lib.hid hbi
  have HI : Hid (∀ z ∈ nums ⟨4, t, bs, n, st, nm, s, c, f, a, b, d, l⟩, I64 z) := by
    intro z hz
    have h1 := hok.start
    have h2 := hok.face
    have h3 := hok.pa
    have h4 := hok.pb
    have h5 := hok.pc
    simp only at h1 h2 h3 h4 h5
    cases c
    · simp [nums] at hz
      rcases hz with rfl | rfl | rfl | rfl | rfl | ⟨p, q, hm, rfl | rfl⟩
      · exact h1
      · exact h2
      · exact h3
      · exact h4
      · exact h5
      · exact (hlI _ hm).1
      · exact (hlI _ hm).2
    · simp [nums] at hz
      rcases hz with rfl | ⟨p, q, hm, rfl | rfl⟩
      · exact h1
      · exact (hlI _ hm).1
      · exact (hlI _ hm).2
  clear hbi hok hlI
  obtain ⟨len, hlen⟩ : ∃ len, len = l.length := ⟨_, rfl⟩
  rw [← hlen] at hll
  have Hlen := Lib.hid hlen
  have hce : Ev.val ⟨4, t, bs, n, st, nm, s, c, f, a, b, d, l⟩ (.slice ba bs.length bc) (.slice ca l.length cc) = .agg #[.int .i64 4, .string t, .slice ba bs.length bc, .int .i64 n, .int .i64 st, .string nm, .int .i64 s, .bool c, .int .i64 f, .int .i64 a, .int .i64 b, .int .i64 d, .slice ca len cc] := by rw [hlen]; rfl
  rw [hce]
  clear hce hlen
  cases c with
  | true =>
    have HB0 : Hid (Below w.heap.size w ((w.alloc (.cells #[.int .i64 4, .string t, .slice ba bs.length bc, .int .i64 n, .int .i64 st, .string nm, .int .i64 s, .bool true, .int .i64 f, .int .i64 a, .int .i64 b, .int .i64 d, .slice ca len cc] 36)).alloc (.cells #[.int .i64 s] 3))) := ((Below.refl _ _).alloc (Nat.le_refl _) _).alloc (by simp) _
    have H0 : Hid (OwnI ((w.alloc (.cells #[.int .i64 4, .string t, .slice ba bs.length bc, .int .i64 n, .int .i64 st, .string nm, .int .i64 s, .bool true, .int .i64 f, .int .i64 a, .int .i64 b, .int .i64 d, .slice ca len cc] 36)).alloc (.cells #[.int .i64 s] 3)) w.heap.size (.slice (some ⟨w.heap.size + 1, 0, none⟩) 1 1) ([s] ++ biasN (l.take 0))) := by
      have h := own_lit (w.alloc (.cells #[.int .i64 4, .string t, .slice ba bs.length bc, .int .i64 n, .int .i64 st, .string nm, .int .i64 s, .bool true, .int .i64 f, .int .i64 a, .int .i64 b, .int .i64 d, .slice ca len cc] 36)) w.heap.size [s] (by simp) (by simp)
      rw [show (w.alloc (.cells #[.int .i64 4, .string t, .slice ba bs.length bc, .int .i64 n, .int .i64 st, .string nm, .int .i64 s, .bool true, .int .i64 f, .int .i64 a, .int .i64 b, .int .i64 d, .slice ca len cc] 36)).heap.size = w.heap.size + 1 by simp] at h
      exact h
    go_enter Tryz.func48, Tryz.ntmps48
    go_wp2_with fail
    have Hcells := Lib.hid (fun j => @BiasIn.cellsAt 0 w ca cc l Hbi.out j)
    go_loopw [3, 43] (fun lv x wr => ∃ (j : Nat) (ov : Value), ov = lv ∧ j ≤ len ∧ x = .int .i64 j ∧ Hid (OwnI wr w.heap.size ov ([s] ++ biasN (l.take j))) ∧ Below w.heap.size w wr) (fun _ x _ => (len - intOf x).toNat)
    case atStart => exact ⟨0, _, rfl, by omega, rfl, H0.out, HB0.out⟩
    case round =>
      obtain ⟨j, ov, rfl, hj, rfl, hown, hBr⟩ := hrel
      by_cases hlt : j < len
      · have hjl : j < l.length := by have := Hlen.out; omega
        obtain ⟨ab, ao, rfl, p0, p1⟩ := Hcells.out j hjl
        have p0' := cell_then hBr p0
        have p1' := cell_then hBr p1
        have Htk : Hid (biasN (l.take (j + 1)) = biasN (l.take j) ++ [(l.getD j (0, 0)).1, (l.getD j (0, 0)).2]) := by
          unfold Hid
          rw [List.take_succ_eq_append_getElem hjl, biasN_snoc, getD_mem hjl]
        have hlen2 : ([s] ++ biasN (l.take j)).length ≤ 100000000 := by
          rw [List.length_append, biasN_length, List.length_take]; simp only [List.length_cons, List.length_nil]; omega
        clear p0 p1
        generalize (l.getD j (0, 0)).1 = u at *
        generalize (l.getD j (0, 0)).2 = v at *
        have hal := OwnI.below hown.out ((Below.refl wr.heap.size wr).alloc (Nat.le_refl _) (.cells #[.int .i64 u, .int .i64 v] 51))
        have hba : Below w.heap.size w (wr.alloc (.cells #[.int .i64 u, .int .i64 v] 51)) := hBr.alloc hBr.size _
        obtain ⟨v', w', hrun, hown', hB'⟩ := append_ints hal [u, v] (by omega) (by simp) hba.size 68
        have e1 : (wr.alloc (.cells #[.int .i64 u, .int .i64 v] 51)).heap.size = wr.heap.size + 1 := by simp
        rw [e1] at hrun
        have Hrun := Lib.hid hrun
        have Hown' := Lib.hid hown'
        have HB' := Lib.hid (hba.trans hB')
        clear hrun hown' hB' hal hba hlen2 e1
        have i0 : (0 : Int) ≤ (j : Int) := by omega
        have i1 : (j : Int) < (len : Int) := by omega
        go_wp2_with (at_builtin; refine wpList_append_run rfl _ _ _ rfl _ _ _ _ rfl rfl Hrun.out ?_)
        go_roundw
        case rel => exact ⟨j + 1, v', rfl, by omega, by go_num, by unfold Hid; rw [Htk.out, ← List.append_assoc]; exact Hown'.out, HB'.out⟩
        case measure => simp [intOf]; omega
      · obtain rfl : j = len := by omega
        have Hnum : Hid (nums ⟨4, t, bs, n, st, nm, s, true, f, a, b, d, l⟩ = [s] ++ biasN (l.take j)) := by
          unfold Hid
          rw [Hlen.out, List.take_length]; simp [nums, biasN]
        have hlen2 : ([s] ++ biasN (l.take j)).length ≤ 100000000 := by
          rw [List.length_append, biasN_length, List.length_take]; simp only [List.length_cons, List.length_nil]; omega
        have HF := Lib.hid (IntsIn.of_own hown.out hlen2 (by rw [← Hnum.out]; exact HI.out))
        obtain ⟨oa, on, oc, rfl⟩ := hown.out.slice
        clear hlen2
        go_wp2_with fail
        go_ret
        exact ⟨_, rfl, by rw [Hnum.out]; exact HF.out, hBr⟩
  | false =>
    have HB0 : Hid (Below w.heap.size w (((w.alloc (.cells #[.int .i64 4, .string t, .slice ba bs.length bc, .int .i64 n, .int .i64 st, .string nm, .int .i64 s, .bool false, .int .i64 f, .int .i64 a, .int .i64 b, .int .i64 d, .slice ca len cc] 36)).alloc (.cells #[.int .i64 s] 3)).alloc (.cells #[.int .i64 f, .int .i64 a, .int .i64 b, .int .i64 d] 31))) := (((Below.refl _ _).alloc (Nat.le_refl _) _).alloc (by simp) _).alloc (by simp; omega) _
    have H0a : OwnI (((w.alloc (.cells #[.int .i64 4, .string t, .slice ba bs.length bc, .int .i64 n, .int .i64 st, .string nm, .int .i64 s, .bool false, .int .i64 f, .int .i64 a, .int .i64 b, .int .i64 d, .slice ca len cc] 36)).alloc (.cells #[.int .i64 s] 3)).alloc (.cells #[.int .i64 f, .int .i64 a, .int .i64 b, .int .i64 d] 31)) (w.heap.size + 1) (.slice (some ⟨w.heap.size + 1, 0, none⟩) 1 1) [s] := by
      have h := own_lit (w.alloc (.cells #[.int .i64 4, .string t, .slice ba bs.length bc, .int .i64 n, .int .i64 st, .string nm, .int .i64 s, .bool false, .int .i64 f, .int .i64 a, .int .i64 b, .int .i64 d, .slice ca len cc] 36)) (w.heap.size + 1) [s] (by simp) (by simp)
      rw [show (w.alloc (.cells #[.int .i64 4, .string t, .slice ba bs.length bc, .int .i64 n, .int .i64 st, .string nm, .int .i64 s, .bool false, .int .i64 f, .int .i64 a, .int .i64 b, .int .i64 d, .slice ca len cc] 36)).heap.size = w.heap.size + 1 by simp] at h
      exact h.below ((Below.refl _ _).alloc (Nat.le_refl _) _)
    obtain ⟨va, wa, hrun, hown', hB'⟩ := append_ints H0a [f, a, b, d] (by simp) (by simp) (by simp) 68
    rw [show (((w.alloc (.cells #[.int .i64 4, .string t, .slice ba bs.length bc, .int .i64 n, .int .i64 st, .string nm, .int .i64 s, .bool false, .int .i64 f, .int .i64 a, .int .i64 b, .int .i64 d, .slice ca len cc] 36)).alloc (.cells #[.int .i64 s] 3)).alloc (.cells #[.int .i64 f, .int .i64 a, .int .i64 b, .int .i64 d] 31)).heap.size = w.heap.size + 1 + 1 + 1 by simp] at hrun
    have Hrun0 := Lib.hid hrun
    have HB0 : Hid (Below w.heap.size w wa) := HB0.out.trans (hB'.mono (Nat.le_succ _))
    have H0 : Hid (OwnI wa w.heap.size va ([s, f, a, b, d] ++ biasN (l.take 0))) := ownsRow_mono hown' (Nat.le_succ _)
    have hbx : wa.cell? ⟨w.heap.size, 12, none⟩ = some (.slice ca len cc) := by
      rw [hB'.cell (by simp), World.cell?_alloc_lt _ _ _ (by simp <;> omega), World.cell?_alloc_lt _ _ _ (by simp)]
      simp
    have Hca := Lib.hid (HB0.out)
    clear hrun hown' hB' H0a
    go_enter Tryz.func48, Tryz.ntmps48
    go_wp2_with (at_builtin; refine wpList_append_run rfl _ _ _ rfl _ _ _ _ rfl rfl Hrun0.out ?_)
    have Hcells := Lib.hid (fun j => @BiasIn.cellsAt 0 w ca cc l Hbi.out j)
    go_loopw [3, 43] (fun lv x wr => ∃ (j : Nat) (ov : Value), ov = lv ∧ j ≤ len ∧ x = .int .i64 j ∧ Hid (OwnI wr w.heap.size ov ([s, f, a, b, d] ++ biasN (l.take j))) ∧ Below w.heap.size w wr) (fun _ x _ => (len - intOf x).toNat)
    case atStart => exact ⟨0, _, rfl, by omega, rfl, H0.out, HB0.out⟩
    case round =>
      obtain ⟨j, ov, rfl, hj, rfl, hown, hBr⟩ := hrel
      by_cases hlt : j < len
      · have hjl : j < l.length := by have := Hlen.out; omega
        obtain ⟨ab, ao, rfl, p0, p1⟩ := Hcells.out j hjl
        have p0' := cell_then hBr p0
        have p1' := cell_then hBr p1
        have Htk : Hid (biasN (l.take (j + 1)) = biasN (l.take j) ++ [(l.getD j (0, 0)).1, (l.getD j (0, 0)).2]) := by
          unfold Hid
          rw [List.take_succ_eq_append_getElem hjl, biasN_snoc, getD_mem hjl]
        have hlen2 : ([s, f, a, b, d] ++ biasN (l.take j)).length ≤ 100000000 := by
          rw [List.length_append, biasN_length, List.length_take]; simp only [List.length_cons, List.length_nil]; omega
        clear p0 p1
        generalize (l.getD j (0, 0)).1 = u at *
        generalize (l.getD j (0, 0)).2 = v at *
        have hal := OwnI.below hown.out ((Below.refl wr.heap.size wr).alloc (Nat.le_refl _) (.cells #[.int .i64 u, .int .i64 v] 51))
        have hba : Below w.heap.size w (wr.alloc (.cells #[.int .i64 u, .int .i64 v] 51)) := hBr.alloc hBr.size _
        obtain ⟨v', w', hrun, hown', hB'⟩ := append_ints hal [u, v] (by omega) (by simp) hba.size 68
        have e1 : (wr.alloc (.cells #[.int .i64 u, .int .i64 v] 51)).heap.size = wr.heap.size + 1 := by simp
        rw [e1] at hrun
        have Hrun := Lib.hid hrun
        have Hown' := Lib.hid hown'
        have HB' := Lib.hid (hba.trans hB')
        clear hrun hown' hB' hal hba hlen2 e1
        have i0 : (0 : Int) ≤ (j : Int) := by omega
        have i1 : (j : Int) < (len : Int) := by omega
        go_wp2_with (at_builtin; refine wpList_append_run rfl _ _ _ rfl _ _ _ _ rfl rfl Hrun.out ?_)
        go_roundw
        case rel => exact ⟨j + 1, v', rfl, by omega, by go_num, by unfold Hid; rw [Htk.out, ← List.append_assoc]; exact Hown'.out, HB'.out⟩
        case measure => simp [intOf]; omega
      · obtain rfl : j = len := by omega
        have Hnum : Hid (nums ⟨4, t, bs, n, st, nm, s, false, f, a, b, d, l⟩ = [s, f, a, b, d] ++ biasN (l.take j)) := by
          unfold Hid
          rw [Hlen.out, List.take_length]; simp [nums, biasN]
        have hlen2 : ([s, f, a, b, d] ++ biasN (l.take j)).length ≤ 100000000 := by
          rw [List.length_append, biasN_length, List.length_take]; simp only [List.length_cons, List.length_nil]; omega
        have HF := Lib.hid (IntsIn.of_own hown.out hlen2 (by rw [← Hnum.out]; exact HI.out))
        obtain ⟨oa, on, oc, rfl⟩ := hown.out.slice
        clear hlen2
        go_wp2_with fail
        go_ret
        exact ⟨_, rfl, by rw [Hnum.out]; exact HF.out, hBr⟩

theorem numbers_any (x : Ev) (bv cv : Value) (w : World) (hp : EvParts 0 w x bv cv) :
    Calls Tryz.prog 48 #[x.val bv cv] w (NumsAre x w) := by
  by_cases h3 : x.kind = 3
  · exact numbers_one x bv cv w hp (Or.inl h3)
  by_cases h5 : x.kind = 5
  · exact numbers_one x bv cv w hp (Or.inr h5)
  by_cases h4 : x.kind = 4
  · exact numbers_st x bv cv w hp h4
  exact numbers_none x bv cv w hp h3 h4 h5
end Go.Proofs.YtobaoekibnloiaaGreatDoor
/- script's Same. -/
namespace Go.Proofs.YtobaoekibnloiaaGreatDoor
open Go Go.RowKit

theorem below2 (w : World) (o1 o2 : Obj) : Below w.heap.size w ((w.alloc o1).alloc o2) := ((Below.refl _ _).alloc (Nat.le_refl _) o1).alloc (by simp) o2
end Go.Proofs.YtobaoekibnloiaaGreatDoor
