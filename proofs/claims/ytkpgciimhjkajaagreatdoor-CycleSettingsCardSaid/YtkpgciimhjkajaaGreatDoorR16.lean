/- Part 16 of the proof: laws on memory and what functions of the program return. No conditions but those that each theorem names. -/
import Derived.Test.YtkpgciimhjkajaaGreatDoorR15
import Derived.Great.BuildSlice
set_option linter.unusedVariables false
set_option linter.unusedSimpArgs false
/- The choices of synopticfield: Settings. -/
namespace Go.Proofs.YtkpgciimhjkajaaGreatDoor
open Go Go.RowKit
theorem inL (w : World) (l : List Int) (lo hi : Int) (h : ∀ z ∈ l, lo ≤ z ∧ z ≤ hi) : InR (w.alloc (.cells (ics l).toArray 3)) w.heap.size l.length lo hi := by
  intro i hi
  have hh : (w.alloc (.cells (ics l).toArray 3)).heap[w.heap.size]? = some (.cells (ics l).toArray 3 (0, 0)) := heap_alloc_new w _
  have hm := h _ (List.getElem_mem hi)
  refine ⟨l[i], hm.1, hm.2, ?_⟩
  simp only [World.cell?, hh]
  rw [if_neg (by simp)]
  simp [ics, hi]
inductive Sp
  | lit (n : Nat) (lo hi : Int)
  | bp
  | nx (n : Nat)
  | ix (lo hi : Int)
  | iv (lo hi : Int)
  | sch
  | set
  | box
  | tr
def Sp.F (b γ : Nat) : Sp → Value → World → Prop
  | .lit n lo hi, v, w => 0 < n ∧ ∃ LB : Nat, v = .slice (some ⟨LB, 0, none⟩) n n ∧ LB ≠ b ∧ LB ≠ γ ∧ InR w LB n lo hi
  | .bp, v, _ => v = .pointer (some ⟨b, 0, none⟩)
  | .nx n, v, _ => ∃ j : Nat, j < n ∧ v = .int .i64 j
  | .ix lo hi, v, w => ∃ (LB o : Nat) (z : Int), v = .pointer (some ⟨LB, o, none⟩) ∧ LB ≠ b ∧ LB ≠ γ ∧ lo ≤ z ∧ z ≤ hi ∧ w.cell? ⟨LB, o, none⟩ = some (.int .i64 z)
  | .iv lo hi, v, _ => ∃ z : Int, v = .int .i64 z ∧ lo ≤ z ∧ z ≤ hi
  | .sch, v, _ => ∃ p q r : Int, v = .agg #[.int .i64 p, .int .i64 q, .int .i64 r]
  | .set, v, _ => ∃ S : List Value, v = .agg S.toArray ∧ SeG S
  | .box, v, _ => v = .pointer (some ⟨γ, 0, none⟩)
  | .tr, _, _ => True
def SameX (b γ : Nat) (w w' : World) : Prop := ∀ k, k < w.heap.size → k ≠ b → k ≠ γ → w'.heap[k]? = w.heap[k]?
theorem Sp.kept {b γ : Nat} {w w' : World} (h : SameX b γ w w') (s : Sp) (v : Value) (hF : s.F b γ v w) : s.F b γ v w' := by
  have hc : ∀ {LB o : Nat} {z : Value}, LB ≠ b → LB ≠ γ → w.cell? ⟨LB, o, none⟩ = some z → w'.cell? ⟨LB, o, none⟩ = some z := fun h1 h2 h3 => by
    rw [World.cell?_of_block (w := w) (h _ (World.block_lt_of_cell? _ _ h3) h1 h2)]; exact h3
  cases s with
  | lit n lo hi =>
    obtain ⟨hn, LB, e, h1, h2, hi'⟩ := hF
    exact ⟨hn, LB, e, h1, h2, fun i hi => by obtain ⟨z, z0, z1, hz⟩ := hi' i hi; exact ⟨z, z0, z1, hc h1 h2 hz⟩⟩
  | ix lo hi =>
    obtain ⟨LB, o, z, e, h1, h2, z0, z1, hz⟩ := hF
    exact ⟨LB, o, z, e, h1, h2, z0, z1, hc h1 h2 hz⟩
  | _ => exact hF
theorem Sp.alloc {b γ : Nat} {w : World} {o : Obj} {s : Sp} {v : Value} (hs : s ≠ .box) (hF : s.F b γ v w) : s.F b w.heap.size v (w.alloc o) := by
  have hc : ∀ {LB k : Nat} {z : Value}, w.cell? ⟨LB, k, none⟩ = some z → LB < w.heap.size ∧ (w.alloc o).cell? ⟨LB, k, none⟩ = some z := fun h3 => by
    have hl := World.block_lt_of_cell? _ _ h3
    exact ⟨hl, by rw [World.cell?_of_block (w := w) (Below.heap_alloc _ _ _ hl)]; exact h3⟩
  cases s with
  | lit n lo hi =>
    obtain ⟨hn, LB, e, h1, h2, hi'⟩ := hF
    obtain ⟨z, _, _, hz⟩ := hi' 0 hn
    have := (hc hz).1
    exact ⟨hn, LB, e, h1, by omega, fun i hi => by obtain ⟨z, z0, z1, hz⟩ := hi' i hi; exact ⟨z, z0, z1, (hc hz).2⟩⟩
  | ix lo hi =>
    obtain ⟨LB, o, z, e, h1, h2, z0, z1, hz⟩ := hF
    have := (hc hz).1
    exact ⟨LB, o, z, e, h1, by omega, z0, z1, (hc hz).2⟩
  | box => exact absurd rfl hs
  | _ => exact hF
theorem same_alloc {b γ : Nat} (w : World) (o : Obj) : SameX b γ w (w.alloc o) := fun k hk _ _ => Below.heap_alloc _ _ _ hk
theorem same_st {b γ B : Nat} {w w' : World} (h : St w B b w') : SameX b γ w w' := fun k hk hn _ => h.2.block k hk hn
theorem same_apart {b γ : Nat} {w w' : World} (h : ApartR γ w w') : SameX b γ w w' := fun k _ _ hn => h.2.2.2.2 k hn
structure SS (w0 : World) (B b : Nat) (γ : Nat) (d : Nat → Bool) (w : World) : Prop where
  st : St w0 B b w
  b0 : b < w0.heap.size
  gl' : γ < w.heap.size
  row : d 44 = true → w0.heap.size ≤ γ ∧ γ ≠ b ∧ ∃ row, RowAt w γ row ∧ row.length = 56 ∧ (d 45 = true → SeG row)
theorem SS.codes {w0 w : World} {B b γ : Nat} {d : Nat → Bool} (h : SS w0 B b γ d w) : CodesIs w B b := h.st.1
theorem SS.gl {w0 w : World} {B b γ : Nat} {d : Nat → Bool} (h : SS w0 B b γ d w) : γ < w.heap.size ∧ b < w.heap.size := ⟨h.gl', h.st.lt⟩
theorem SS.st' {w0 w w' : World} {B b γ : Nat} {d : Nat → Bool} {i : Nat} (hi : i ≠ 44 ∧ i ≠ 45) (h : SS w0 B b γ d w) (hs : St w B b w') : SS w0 B b γ (fun k => k == i || d k) w' := by
  have e1 : (44 == i) = false := by simp; omega
  have e2 : (45 == i) = false := by simp; omega
  refine ⟨h.st.then hs, h.b0, Nat.lt_of_lt_of_le h.gl' hs.size, fun hd => ?_⟩
  simp only [e1, Bool.false_or] at hd
  obtain ⟨h1, h2, row, h3, h4, h5⟩ := h.row hd
  refine ⟨h1, h2, row, h3.but hs.2 h2, h4, fun hd5 => ?_⟩
  simp only [e2, Bool.false_or] at hd5
  exact h5 hd5
theorem SS.box {w0 w : World} {B b γ : Nat} {d : Nat → Bool} {t : TypeId} (h : SS w0 B b γ d w) (hd : d 44 = false) (h45 : d 45 = true → False) (Z : List Value) (hZ : Z.length = 56) : SS w0 B b w.heap.size (fun k => k == 44 || d k) (w.alloc (.cells Z.toArray t)) := by
  refine ⟨h.st.alloc _, h.b0, by simp, fun _ => ⟨h.st.size, by have := h.st.lt; omega, Z, RowAt.new w Z (by omega) t rfl, hZ, fun hd5 => ?_⟩⟩
  have hd5 : d 45 = true := hd5
  exact (h45 hd5).elim
theorem SS.put {w0 w w' : World} {B b γ : Nat} {d : Nat → Bool} {S : List Value} (h : SS w0 B b γ d w) (hd : d 44 = true) (hr : RowAt w' γ S) (ha : ApartR γ w w') (hS : SeG S) : SS w0 B b γ (fun k => k == 45 || d k) w' := by
  obtain ⟨h1, h2, _⟩ := h.row hd
  exact ⟨h.st.grown (ha.below h1) h.b0 (Nat.le_refl _), h.b0, hr.lt, fun _ => ⟨h1, h2, S, hr, hS.1.len, fun _ => hS⟩⟩
theorem set_ok {x0 x1 x2 x3 x4 x5 x6 x7 x8 x9 x10 p q r x12 : Int} {Z : List Value} (h : ∃ n : Nat, (n = 1 ∨ n = 2) ∧ x0 = (n : Int)) (hl : Z.length = 41) (h1 : ∀ v ∈ Z, v.oneCell' = true) :
    SeG (.int .i64 x0 :: .int .i64 x1 :: .int .i64 x2 :: .int .i64 x3 :: .int .i64 x4 :: .int .i64 x5 :: .int .i64 x6 :: .int .i64 x7 :: .int .i64 x8 :: .int .i64 x9 :: .int .i64 x10 :: .int .i64 p :: .int .i64 q :: .int .i64 r :: .int .i64 x12 :: Z) := by
  obtain ⟨n, hn, rfl⟩ := h
  refine ⟨⟨_, _, _, _, _, _, _, _, _, _, _, _, _, _, _, ⟨by simp [hl], fun v hv => ?_, rfl, rfl, rfl, rfl, rfl, rfl, rfl, rfl, rfl, rfl, rfl, rfl, rfl, rfl, rfl⟩⟩, n, hn, rfl⟩
  simp only [List.mem_cons] at hv
  rcases hv with rfl | rfl | rfl | rfl | rfl | rfl | rfl | rfl | rfl | rfl | rfl | rfl | rfl | rfl | rfl | hv
  all_goals first | rfl | exact h1 _ hv
def spS : Nat → Sp
  | 0 => .lit 4 1 2
  | 1 => .bp
  | 2 => .nx 4
  | 3 => .ix 1 2
  | 4 => .iv 1 2
  | 5 => .lit 5 0 400
  | 6 => .bp
  | 7 => .nx 5
  | 8 => .ix 0 400
  | 9 => .iv 0 400
  | 10 => .lit 4 0 300
  | 11 => .bp
  | 12 => .nx 4
  | 13 => .ix 0 300
  | 14 => .iv 0 300
  | 15 => .lit 3 0 50000
  | 16 => .bp
  | 17 => .nx 3
  | 18 => .ix 0 50000
  | 19 => .iv 0 50000
  | 20 => .lit 3 1 200000
  | 21 => .bp
  | 22 => .nx 3
  | 23 => .ix 1 200000
  | 24 => .iv 1 200000
  | 25 => .bp
  | 26 => .nx 100
  | 27 => .iv 1 100
  | 28 => .bp
  | 29 => .nx 5
  | 30 => .bp
  | 31 => .nx 16
  | 32 => .iv 1 16
  | 33 => .bp
  | 34 => .nx 4
  | 35 => .bp
  | 36 => .sch
  | 37 => .lit 5 0 10000
  | 38 => .bp
  | 39 => .nx 5
  | 40 => .ix 0 10000
  | 41 => .iv 0 10000
  | 42 => .iv 0 2560000
  | 43 => .set
  | 44 => .box
  | _ => .tr
theorem spS_box {k : Nat} (h : k ≠ 44) : spS k ≠ .box := by
  unfold spS
  split <;> first | exact absurd rfl h | (intro e; cases e)
structure SQ (w0 : World) (B b : Nat) (γ : Nat) (w : World) : Prop where
  st : St w0 B b w
  b0 : b < w0.heap.size
  lo : w0.heap.size < γ
  row : ∃ row, RowAt w γ row ∧ SeG row
  res : ∃ Z, RowAt w w0.heap.size Z ∧ Z.length = 56
theorem SQ.codes {w0 w : World} {B b γ : Nat} (h : SQ w0 B b γ w) : CodesIs w B b := h.st.1
theorem SQ.gl {w0 w : World} {B b γ : Nat} (h : SQ w0 B b γ w) : γ < w.heap.size ∧ b < w.heap.size := by
  obtain ⟨row, hr, _⟩ := h.row
  exact ⟨hr.lt, h.st.lt⟩
theorem SQ.st' {w0 w w' : World} {B b γ : Nat} (h : SQ w0 B b γ w) (hs : St w B b w') : SQ w0 B b γ w' := by
  obtain ⟨row, hr, hg⟩ := h.row
  obtain ⟨Z, hz, hl⟩ := h.res
  have := h.b0; have := h.lo
  exact ⟨h.st.then hs, h.b0, h.lo, ⟨row, hr.but hs.2 (by omega), hg⟩, ⟨Z, hz.but hs.2 (by omega), hl⟩⟩
theorem SQ.put {w0 w w' : World} {B b γ : Nat} {row : List Value} (h : SQ w0 B b γ w) (hr : RowAt w' γ row) (ha : ApartR γ w w') (hS : SeG row) : SQ w0 B b γ w' := by
  obtain ⟨Z, hz, hl⟩ := h.res
  have := h.lo
  exact ⟨h.st.grown (ha.below (Nat.le_of_lt h.lo)) h.b0 (Nat.le_refl _), h.b0, h.lo, ⟨row, hr, hS⟩, ⟨Z, hz.apart ha (by omega), hl⟩⟩
theorem SQ.set {w0 w : World} {B b γ : Nat} (h : SQ w0 B b γ w) (k : Nat) (hk : 15 ≤ k) (z : Int) (hk2 : k < 56) : SQ w0 B b γ (w.setCell ⟨γ, k, none⟩ (.int .i64 z)) := by
  obtain ⟨row, hr, hg⟩ := h.row
  have ha : ApartR γ w (w.setCell ⟨γ, k, none⟩ (.int .i64 z)) := apartR_setCells γ [.int .i64 z] k w
  exact h.put (hr.set k (by rw [hg.1.len]; exact hk2) _) ha (hg.setL (cs := [.int .i64 z]) k hk (by intro v hv; simp at hv; rw [hv]; rfl))
def spT : Nat → Sp
  | 0 => .lit 3 4 1000
  | 1 => .bp
  | 2 => .nx 3
  | 3 => .ix 4 1000
  | 4 => .iv 4 1000
  | 5 => .bp
  | 6 => .nx 3
  | 7 => .iv 1 3
  | _ => .tr
def ctlV (x y : Int) : List Value := [.int .i64 x, .int .i64 0, .int .i64 0, .int .i64 0, .int .i64 0, .int .i64 0, .int .i64 0, .int .i64 0, .int .i64 0, .int .i64 0, .int .i64 0, .int .i64 0, .int .i64 0, .int .i64 0, .int .i64 0, .int .i64 0, .int .i64 0, .int .i64 0, .int .i64 0, .int .i64 0, .int .i64 0, .int .i64 0, .int .i64 0, .int .i64 0, .int .i64 0, .int .i64 40, .int .i64 0, .int .i64 0, .int .i64 0, .int .i64 0, .int .i64 0, .int .i64 0, .int .i64 0, .int .i64 0, .int .i64 0, .int .i64 0, .int .i64 0, .int .i64 0, .int .i64 y, .int .i64 50, .int .i64 20]
theorem ctlV_one (x y : Int) : ∀ v ∈ ctlV x y, v.oneCell' = true := by
  intro v hv
  unfold ctlV at hv
  simp only [List.mem_cons, List.mem_nil_iff, or_false] at hv
  rcases hv with rfl | rfl | rfl | rfl | rfl | rfl | rfl | rfl | rfl | rfl | rfl | rfl | rfl | rfl | rfl | rfl | rfl | rfl | rfl | rfl | rfl | rfl | rfl | rfl | rfl | rfl | rfl | rfl | rfl | rfl | rfl | rfl | rfl | rfl | rfl | rfl | rfl | rfl | rfl | rfl | rfl <;> rfl
theorem ctlV_len (x y : Int) : (ctlV x y).length = 41 := rfl
def FT (b γ k : Nat) (v : Value) (w : World) : Prop := match k with
  | 8 => ∃ x y : Int, v = .agg (ctlV x y).toArray
  | 9 => v = .pointer (some ⟨γ, 15, none⟩)
  | k => (spT k).F b γ v w
theorem FT.kept {b γ : Nat} {w w' : World} (h : SameX b γ w w') (k : Nat) (v : Value) (hF : FT b γ k v w) : FT b γ k v w' := by
  unfold FT at hF ⊢
  split at hF
  · exact hF
  · exact hF
  · exact Sp.kept h _ _ hF
theorem rowT_ct : RowT 27 41 := ⟨by kernel_rfl, _, Tryz.underlying27, rfl⟩
def SetIs (B b : Nat) (w : World) (e : Ending) (w' : World) : Prop := ∃ S, e = .returned (.agg S.toArray) ∧ SeG S ∧ St w B b w'
set_option maxHeartbeats 16000000 in
set_option maxRecDepth 100000 in
theorem settings_a (B b : Nat) (w : World) (h : CodesIs w B b) : Calls Tryz.prog 6 #[.pointer (some ⟨b, 0, none⟩)] w (SetIs B b w) := by
  have hbw : Hid (b < w.heap.size) := h.lt
  have HS0 := Lib.hid h
  clear h
  go_enter Tryz.func6, Tryz.ntmps6
  go_upto_region 1 with fail
  obtain ⟨wq, hwq⟩ : ∃ u, u = w.alloc (.cells #[.int .i64 0, .int .i64 0, .int .i64 0, .int .i64 0, .int .i64 0, .int .i64 0, .int .i64 0, .int .i64 0, .int .i64 0, .int .i64 0, .int .i64 0, .int .i64 0, .int .i64 0, .int .i64 0, .int .i64 0, .int .i64 0, .int .i64 0, .int .i64 0, .int .i64 0, .int .i64 0, .int .i64 0, .int .i64 0, .int .i64 0, .int .i64 0, .int .i64 0, .int .i64 0, .int .i64 0, .int .i64 0, .int .i64 0, .int .i64 0, .int .i64 0, .int .i64 0, .int .i64 0, .int .i64 0, .int .i64 0, .int .i64 0, .int .i64 0, .int .i64 0, .int .i64 0, .int .i64 0, .int .i64 0, .int .i64 0, .int .i64 0, .int .i64 0, .int .i64 0, .int .i64 0, .int .i64 0, .int .i64 0, .int .i64 0, .int .i64 0, .int .i64 0, .int .i64 0, .int .i64 0, .int .i64 0, .int .i64 0, .int .i64 0] 29) := ⟨_, rfl⟩
  have HSt : Hid (St w B b wq) := by rw [hwq]; exact (St.start HS0.out).alloc _
  have HR : Hid (RowAt wq w.heap.size [.int .i64 0, .int .i64 0, .int .i64 0, .int .i64 0, .int .i64 0, .int .i64 0, .int .i64 0, .int .i64 0, .int .i64 0, .int .i64 0, .int .i64 0, .int .i64 0, .int .i64 0, .int .i64 0, .int .i64 0, .int .i64 0, .int .i64 0, .int .i64 0, .int .i64 0, .int .i64 0, .int .i64 0, .int .i64 0, .int .i64 0, .int .i64 0, .int .i64 0, .int .i64 0, .int .i64 0, .int .i64 0, .int .i64 0, .int .i64 0, .int .i64 0, .int .i64 0, .int .i64 0, .int .i64 0, .int .i64 0, .int .i64 0, .int .i64 0, .int .i64 0, .int .i64 0, .int .i64 0, .int .i64 0, .int .i64 0, .int .i64 0, .int .i64 0, .int .i64 0, .int .i64 0, .int .i64 0, .int .i64 0, .int .i64 0, .int .i64 0, .int .i64 0, .int .i64 0, .int .i64 0, .int .i64 0, .int .i64 0, .int .i64 0]) := by rw [hwq]; exact RowAt.new w [.int .i64 0, .int .i64 0, .int .i64 0, .int .i64 0, .int .i64 0, .int .i64 0, .int .i64 0, .int .i64 0, .int .i64 0, .int .i64 0, .int .i64 0, .int .i64 0, .int .i64 0, .int .i64 0, .int .i64 0, .int .i64 0, .int .i64 0, .int .i64 0, .int .i64 0, .int .i64 0, .int .i64 0, .int .i64 0, .int .i64 0, .int .i64 0, .int .i64 0, .int .i64 0, .int .i64 0, .int .i64 0, .int .i64 0, .int .i64 0, .int .i64 0, .int .i64 0, .int .i64 0, .int .i64 0, .int .i64 0, .int .i64 0, .int .i64 0, .int .i64 0, .int .i64 0, .int .i64 0, .int .i64 0, .int .i64 0, .int .i64 0, .int .i64 0, .int .i64 0, .int .i64 0, .int .i64 0, .int .i64 0, .int .i64 0, .int .i64 0, .int .i64 0, .int .i64 0, .int .i64 0, .int .i64 0, .int .i64 0, .int .i64 0] (by simp) _ rfl
  rw [← hwq]
  clear hwq HS0
  refine wp_region_slotsG b (by kernel_rfl) 83 rfl (by kernel_rfl) (by kernel_rfl) 3 45 (by kernel_rfl) (SS wq B b) (fun γ k v w => (spS k).F b γ v w) ?hS0 ?hop ?hend
  case hS0 => exact ⟨(St.start HSt.out.1).drew, HSt.out.1.lt, HSt.out.1.lt, fun h => by cases h⟩
  case hop =>
    refine ⟨?_, ?_, ?_, ?_, ?_, ?_, ?_, ?_, ?_, ?_, ?_, ?_, ?_, ?_, ?_, ?_, ?_, ?_, ?_, ?_, ?_, ?_, ?_, ?_, ?_, ?_, ?_, ?_, ?_, ?_, ?_, ?_, ?_, ?_, ?_, ?_, ?_, ?_, ?_, ?_, ?_, ?_, ?_, ?_, ?_, ?_, trivial⟩
    all_goals intro γ d ac wx hd hcl hS hA haft K hK
    · have hg := hS.gl
      refine hop_val rfl (.slice (some ⟨wx.heap.size, 0, none⟩) 4 4) (w' := wx.alloc (.cells #[.int .i64 1, .int .i64 1, .int .i64 1, .int .i64 2] 3)) ?_ (hK γ _ _ ⟨by decide, wx.heap.size, rfl, by omega, by omega, inL wx [1, 1, 1, 2] 1 2 (by decide)⟩ (fun k u _ h => Sp.kept (same_alloc wx _) _ u h) (hS.st' (i := 0) (by decide) ((St.start hS.codes).alloc _)))
      simp [execOp, Act.eval, Instr.buildSlice, go_sem, -Array.getD_eq_getD_getElem?]
    · have f0 : ac.tmps.getD 0 undef = .pointer (some ⟨b, 0, none⟩) := same_slot hA 0 (by kernel_rfl)
      refine hop_val rfl (.pointer (some ⟨b, 0, none⟩)) (w' := wx) ?_ (hK γ _ _ rfl (fun k u _ h => h) (hS.st' (i := 1) (by decide) (St.start hS.codes)))
      simp [execOp, Act.eval, f0, go_sem, -Array.getD_eq_getD_getElem?]
    · have f1 : ac.tmps.getD 5 undef = .pointer (some ⟨b, 0, none⟩) := (haft ⟨1, .data⟩ (by simp) rfl).2 _ rfl
      refine hop_call rfl Tryz.func22 (by kernel_rfl) (by kernel_rfl) _ _ rfl #[.pointer (some ⟨b, 0, none⟩), .int .i64 4] (by simp only [List.map_toArray, List.map_cons, List.map_nil, Act.eval, f1]) _ (next_ok B b 4 wx hS.codes (by omega) (by omega)) ?_
      rintro e w' ⟨x, x0, x1, rfl, hs'⟩
      obtain ⟨j, rfl⟩ := Int.eq_ofNat_of_zero_le x0
      exact ⟨_, rfl, hK γ _ _ ⟨j, by omega, rfl⟩ (fun k u _ h => Sp.kept (same_st hs') _ u h) (hS.st' (i := 2) (by decide) hs')⟩
    · obtain ⟨_, LB, e0, hn, hng, hi⟩ := (haft ⟨0, .data⟩ (by simp) rfl).2 _ rfl
      obtain ⟨j, hj, e2⟩ := (haft ⟨2, .data⟩ (by simp) rfl).2 _ rfl
      have f1 : ac.tmps.getD 4 undef = .slice (some ⟨LB, 0, none⟩) 4 4 := e0
      have f2 : ac.tmps.getD 6 undef = .int .i64 j := e2
      obtain ⟨z, z0, z1, hz⟩ := hi j hj
      have j0 : (j : Int) < 4 := by omega
      refine hop_val rfl (.pointer (some ⟨LB, j, none⟩)) (w' := wx) ?_ (hK γ _ _ ⟨LB, j, z, rfl, hn, hng, z0, z1, hz⟩ (fun k u _ h => h) (hS.st' (i := 3) (by decide) (St.start hS.codes)))
      simp [execOp, Act.eval, f1, f2, j0, go_sem, -Array.getD_eq_getD_getElem?]
    · obtain ⟨LB, o, z, e3, hn, hng, z0, z1, hz⟩ := (haft ⟨3, .data⟩ (by simp) rfl).2 _ rfl
      have f1 : ac.tmps.getD 7 undef = .pointer (some ⟨LB, o, none⟩) := e3
      refine hop_val rfl (.int .i64 z) (w' := wx) ?_ (hK γ _ _ ⟨z, rfl, z0, z1⟩ (fun k u _ h => h) (hS.st' (i := 4) (by decide) (St.start hS.codes)))
      simp [execOp, Act.eval, f1, hz, go_sem, -Array.getD_eq_getD_getElem?]
    · have hg := hS.gl
      refine hop_val rfl (.slice (some ⟨wx.heap.size, 0, none⟩) 5 5) (w' := wx.alloc (.cells #[.int .i64 180, .int .i64 240, .int .i64 400, .int .i64 60, .int .i64 0] 3)) ?_ (hK γ _ _ ⟨by decide, wx.heap.size, rfl, by omega, by omega, inL wx [180, 240, 400, 60, 0] 0 400 (by decide)⟩ (fun k u _ h => Sp.kept (same_alloc wx _) _ u h) (hS.st' (i := 5) (by decide) ((St.start hS.codes).alloc _)))
      simp [execOp, Act.eval, Instr.buildSlice, go_sem, -Array.getD_eq_getD_getElem?]
    · have f0 : ac.tmps.getD 0 undef = .pointer (some ⟨b, 0, none⟩) := same_slot hA 0 (by kernel_rfl)
      refine hop_val rfl (.pointer (some ⟨b, 0, none⟩)) (w' := wx) ?_ (hK γ _ _ rfl (fun k u _ h => h) (hS.st' (i := 6) (by decide) (St.start hS.codes)))
      simp [execOp, Act.eval, f0, go_sem, -Array.getD_eq_getD_getElem?]
    · have f1 : ac.tmps.getD 10 undef = .pointer (some ⟨b, 0, none⟩) := (haft ⟨6, .data⟩ (by simp) rfl).2 _ rfl
      refine hop_call rfl Tryz.func22 (by kernel_rfl) (by kernel_rfl) _ _ rfl #[.pointer (some ⟨b, 0, none⟩), .int .i64 5] (by simp only [List.map_toArray, List.map_cons, List.map_nil, Act.eval, f1]) _ (next_ok B b 5 wx hS.codes (by omega) (by omega)) ?_
      rintro e w' ⟨x, x0, x1, rfl, hs'⟩
      obtain ⟨j, rfl⟩ := Int.eq_ofNat_of_zero_le x0
      exact ⟨_, rfl, hK γ _ _ ⟨j, by omega, rfl⟩ (fun k u _ h => Sp.kept (same_st hs') _ u h) (hS.st' (i := 7) (by decide) hs')⟩
    · obtain ⟨_, LB, e0, hn, hng, hi⟩ := (haft ⟨5, .data⟩ (by simp) rfl).2 _ rfl
      obtain ⟨j, hj, e2⟩ := (haft ⟨7, .data⟩ (by simp) rfl).2 _ rfl
      have f1 : ac.tmps.getD 9 undef = .slice (some ⟨LB, 0, none⟩) 5 5 := e0
      have f2 : ac.tmps.getD 11 undef = .int .i64 j := e2
      obtain ⟨z, z0, z1, hz⟩ := hi j hj
      have j0 : (j : Int) < 5 := by omega
      refine hop_val rfl (.pointer (some ⟨LB, j, none⟩)) (w' := wx) ?_ (hK γ _ _ ⟨LB, j, z, rfl, hn, hng, z0, z1, hz⟩ (fun k u _ h => h) (hS.st' (i := 8) (by decide) (St.start hS.codes)))
      simp [execOp, Act.eval, f1, f2, j0, go_sem, -Array.getD_eq_getD_getElem?]
    · obtain ⟨LB, o, z, e3, hn, hng, z0, z1, hz⟩ := (haft ⟨8, .data⟩ (by simp) rfl).2 _ rfl
      have f1 : ac.tmps.getD 12 undef = .pointer (some ⟨LB, o, none⟩) := e3
      refine hop_val rfl (.int .i64 z) (w' := wx) ?_ (hK γ _ _ ⟨z, rfl, z0, z1⟩ (fun k u _ h => h) (hS.st' (i := 9) (by decide) (St.start hS.codes)))
      simp [execOp, Act.eval, f1, hz, go_sem, -Array.getD_eq_getD_getElem?]
    · have hg := hS.gl
      refine hop_val rfl (.slice (some ⟨wx.heap.size, 0, none⟩) 4 4) (w' := wx.alloc (.cells #[.int .i64 30, .int .i64 90, .int .i64 0, .int .i64 300] 3)) ?_ (hK γ _ _ ⟨by decide, wx.heap.size, rfl, by omega, by omega, inL wx [30, 90, 0, 300] 0 300 (by decide)⟩ (fun k u _ h => Sp.kept (same_alloc wx _) _ u h) (hS.st' (i := 10) (by decide) ((St.start hS.codes).alloc _)))
      simp [execOp, Act.eval, Instr.buildSlice, go_sem, -Array.getD_eq_getD_getElem?]
    · have f0 : ac.tmps.getD 0 undef = .pointer (some ⟨b, 0, none⟩) := same_slot hA 0 (by kernel_rfl)
      refine hop_val rfl (.pointer (some ⟨b, 0, none⟩)) (w' := wx) ?_ (hK γ _ _ rfl (fun k u _ h => h) (hS.st' (i := 11) (by decide) (St.start hS.codes)))
      simp [execOp, Act.eval, f0, go_sem, -Array.getD_eq_getD_getElem?]
    · have f1 : ac.tmps.getD 15 undef = .pointer (some ⟨b, 0, none⟩) := (haft ⟨11, .data⟩ (by simp) rfl).2 _ rfl
      refine hop_call rfl Tryz.func22 (by kernel_rfl) (by kernel_rfl) _ _ rfl #[.pointer (some ⟨b, 0, none⟩), .int .i64 4] (by simp only [List.map_toArray, List.map_cons, List.map_nil, Act.eval, f1]) _ (next_ok B b 4 wx hS.codes (by omega) (by omega)) ?_
      rintro e w' ⟨x, x0, x1, rfl, hs'⟩
      obtain ⟨j, rfl⟩ := Int.eq_ofNat_of_zero_le x0
      exact ⟨_, rfl, hK γ _ _ ⟨j, by omega, rfl⟩ (fun k u _ h => Sp.kept (same_st hs') _ u h) (hS.st' (i := 12) (by decide) hs')⟩
    · obtain ⟨_, LB, e0, hn, hng, hi⟩ := (haft ⟨10, .data⟩ (by simp) rfl).2 _ rfl
      obtain ⟨j, hj, e2⟩ := (haft ⟨12, .data⟩ (by simp) rfl).2 _ rfl
      have f1 : ac.tmps.getD 14 undef = .slice (some ⟨LB, 0, none⟩) 4 4 := e0
      have f2 : ac.tmps.getD 16 undef = .int .i64 j := e2
      obtain ⟨z, z0, z1, hz⟩ := hi j hj
      have j0 : (j : Int) < 4 := by omega
      refine hop_val rfl (.pointer (some ⟨LB, j, none⟩)) (w' := wx) ?_ (hK γ _ _ ⟨LB, j, z, rfl, hn, hng, z0, z1, hz⟩ (fun k u _ h => h) (hS.st' (i := 13) (by decide) (St.start hS.codes)))
      simp [execOp, Act.eval, f1, f2, j0, go_sem, -Array.getD_eq_getD_getElem?]
    · obtain ⟨LB, o, z, e3, hn, hng, z0, z1, hz⟩ := (haft ⟨13, .data⟩ (by simp) rfl).2 _ rfl
      have f1 : ac.tmps.getD 17 undef = .pointer (some ⟨LB, o, none⟩) := e3
      refine hop_val rfl (.int .i64 z) (w' := wx) ?_ (hK γ _ _ ⟨z, rfl, z0, z1⟩ (fun k u _ h => h) (hS.st' (i := 14) (by decide) (St.start hS.codes)))
      simp [execOp, Act.eval, f1, hz, go_sem, -Array.getD_eq_getD_getElem?]
    · have hg := hS.gl
      refine hop_val rfl (.slice (some ⟨wx.heap.size, 0, none⟩) 3 3) (w' := wx.alloc (.cells #[.int .i64 50000, .int .i64 0, .int .i64 1000] 3)) ?_ (hK γ _ _ ⟨by decide, wx.heap.size, rfl, by omega, by omega, inL wx [50000, 0, 1000] 0 50000 (by decide)⟩ (fun k u _ h => Sp.kept (same_alloc wx _) _ u h) (hS.st' (i := 15) (by decide) ((St.start hS.codes).alloc _)))
      simp [execOp, Act.eval, Instr.buildSlice, go_sem, -Array.getD_eq_getD_getElem?]
    · have f0 : ac.tmps.getD 0 undef = .pointer (some ⟨b, 0, none⟩) := same_slot hA 0 (by kernel_rfl)
      refine hop_val rfl (.pointer (some ⟨b, 0, none⟩)) (w' := wx) ?_ (hK γ _ _ rfl (fun k u _ h => h) (hS.st' (i := 16) (by decide) (St.start hS.codes)))
      simp [execOp, Act.eval, f0, go_sem, -Array.getD_eq_getD_getElem?]
    · have f1 : ac.tmps.getD 20 undef = .pointer (some ⟨b, 0, none⟩) := (haft ⟨16, .data⟩ (by simp) rfl).2 _ rfl
      refine hop_call rfl Tryz.func22 (by kernel_rfl) (by kernel_rfl) _ _ rfl #[.pointer (some ⟨b, 0, none⟩), .int .i64 3] (by simp only [List.map_toArray, List.map_cons, List.map_nil, Act.eval, f1]) _ (next_ok B b 3 wx hS.codes (by omega) (by omega)) ?_
      rintro e w' ⟨x, x0, x1, rfl, hs'⟩
      obtain ⟨j, rfl⟩ := Int.eq_ofNat_of_zero_le x0
      exact ⟨_, rfl, hK γ _ _ ⟨j, by omega, rfl⟩ (fun k u _ h => Sp.kept (same_st hs') _ u h) (hS.st' (i := 17) (by decide) hs')⟩
    · obtain ⟨_, LB, e0, hn, hng, hi⟩ := (haft ⟨15, .data⟩ (by simp) rfl).2 _ rfl
      obtain ⟨j, hj, e2⟩ := (haft ⟨17, .data⟩ (by simp) rfl).2 _ rfl
      have f1 : ac.tmps.getD 19 undef = .slice (some ⟨LB, 0, none⟩) 3 3 := e0
      have f2 : ac.tmps.getD 21 undef = .int .i64 j := e2
      obtain ⟨z, z0, z1, hz⟩ := hi j hj
      have j0 : (j : Int) < 3 := by omega
      refine hop_val rfl (.pointer (some ⟨LB, j, none⟩)) (w' := wx) ?_ (hK γ _ _ ⟨LB, j, z, rfl, hn, hng, z0, z1, hz⟩ (fun k u _ h => h) (hS.st' (i := 18) (by decide) (St.start hS.codes)))
      simp [execOp, Act.eval, f1, f2, j0, go_sem, -Array.getD_eq_getD_getElem?]
    · obtain ⟨LB, o, z, e3, hn, hng, z0, z1, hz⟩ := (haft ⟨18, .data⟩ (by simp) rfl).2 _ rfl
      have f1 : ac.tmps.getD 22 undef = .pointer (some ⟨LB, o, none⟩) := e3
      refine hop_val rfl (.int .i64 z) (w' := wx) ?_ (hK γ _ _ ⟨z, rfl, z0, z1⟩ (fun k u _ h => h) (hS.st' (i := 19) (by decide) (St.start hS.codes)))
      simp [execOp, Act.eval, f1, hz, go_sem, -Array.getD_eq_getD_getElem?]
    · have hg := hS.gl
      refine hop_val rfl (.slice (some ⟨wx.heap.size, 0, none⟩) 3 3) (w' := wx.alloc (.cells #[.int .i64 1000, .int .i64 200000, .int .i64 1] 3)) ?_ (hK γ _ _ ⟨by decide, wx.heap.size, rfl, by omega, by omega, inL wx [1000, 200000, 1] 1 200000 (by decide)⟩ (fun k u _ h => Sp.kept (same_alloc wx _) _ u h) (hS.st' (i := 20) (by decide) ((St.start hS.codes).alloc _)))
      simp [execOp, Act.eval, Instr.buildSlice, go_sem, -Array.getD_eq_getD_getElem?]
    · have f0 : ac.tmps.getD 0 undef = .pointer (some ⟨b, 0, none⟩) := same_slot hA 0 (by kernel_rfl)
      refine hop_val rfl (.pointer (some ⟨b, 0, none⟩)) (w' := wx) ?_ (hK γ _ _ rfl (fun k u _ h => h) (hS.st' (i := 21) (by decide) (St.start hS.codes)))
      simp [execOp, Act.eval, f0, go_sem, -Array.getD_eq_getD_getElem?]
    · have f1 : ac.tmps.getD 25 undef = .pointer (some ⟨b, 0, none⟩) := (haft ⟨21, .data⟩ (by simp) rfl).2 _ rfl
      refine hop_call rfl Tryz.func22 (by kernel_rfl) (by kernel_rfl) _ _ rfl #[.pointer (some ⟨b, 0, none⟩), .int .i64 3] (by simp only [List.map_toArray, List.map_cons, List.map_nil, Act.eval, f1]) _ (next_ok B b 3 wx hS.codes (by omega) (by omega)) ?_
      rintro e w' ⟨x, x0, x1, rfl, hs'⟩
      obtain ⟨j, rfl⟩ := Int.eq_ofNat_of_zero_le x0
      exact ⟨_, rfl, hK γ _ _ ⟨j, by omega, rfl⟩ (fun k u _ h => Sp.kept (same_st hs') _ u h) (hS.st' (i := 22) (by decide) hs')⟩
    · obtain ⟨_, LB, e0, hn, hng, hi⟩ := (haft ⟨20, .data⟩ (by simp) rfl).2 _ rfl
      obtain ⟨j, hj, e2⟩ := (haft ⟨22, .data⟩ (by simp) rfl).2 _ rfl
      have f1 : ac.tmps.getD 24 undef = .slice (some ⟨LB, 0, none⟩) 3 3 := e0
      have f2 : ac.tmps.getD 26 undef = .int .i64 j := e2
      obtain ⟨z, z0, z1, hz⟩ := hi j hj
      have j0 : (j : Int) < 3 := by omega
      refine hop_val rfl (.pointer (some ⟨LB, j, none⟩)) (w' := wx) ?_ (hK γ _ _ ⟨LB, j, z, rfl, hn, hng, z0, z1, hz⟩ (fun k u _ h => h) (hS.st' (i := 23) (by decide) (St.start hS.codes)))
      simp [execOp, Act.eval, f1, f2, j0, go_sem, -Array.getD_eq_getD_getElem?]
    · obtain ⟨LB, o, z, e3, hn, hng, z0, z1, hz⟩ := (haft ⟨23, .data⟩ (by simp) rfl).2 _ rfl
      have f1 : ac.tmps.getD 27 undef = .pointer (some ⟨LB, o, none⟩) := e3
      refine hop_val rfl (.int .i64 z) (w' := wx) ?_ (hK γ _ _ ⟨z, rfl, z0, z1⟩ (fun k u _ h => h) (hS.st' (i := 24) (by decide) (St.start hS.codes)))
      simp [execOp, Act.eval, f1, hz, go_sem, -Array.getD_eq_getD_getElem?]
    · have f0 : ac.tmps.getD 0 undef = .pointer (some ⟨b, 0, none⟩) := same_slot hA 0 (by kernel_rfl)
      refine hop_val rfl (.pointer (some ⟨b, 0, none⟩)) (w' := wx) ?_ (hK γ _ _ rfl (fun k u _ h => h) (hS.st' (i := 25) (by decide) (St.start hS.codes)))
      simp [execOp, Act.eval, f0, go_sem, -Array.getD_eq_getD_getElem?]
    · have f1 : ac.tmps.getD 29 undef = .pointer (some ⟨b, 0, none⟩) := (haft ⟨25, .data⟩ (by simp) rfl).2 _ rfl
      refine hop_call rfl Tryz.func22 (by kernel_rfl) (by kernel_rfl) _ _ rfl #[.pointer (some ⟨b, 0, none⟩), .int .i64 100] (by simp only [List.map_toArray, List.map_cons, List.map_nil, Act.eval, f1]) _ (next_ok B b 100 wx hS.codes (by omega) (by omega)) ?_
      rintro e w' ⟨x, x0, x1, rfl, hs'⟩
      obtain ⟨j, rfl⟩ := Int.eq_ofNat_of_zero_le x0
      exact ⟨_, rfl, hK γ _ _ ⟨j, by omega, rfl⟩ (fun k u _ h => Sp.kept (same_st hs') _ u h) (hS.st' (i := 26) (by decide) hs')⟩
    · obtain ⟨j, hj, e2⟩ := (haft ⟨26, .data⟩ (by simp) rfl).2 _ rfl
      have f1 : ac.tmps.getD 30 undef = .int .i64 j := e2
      have hw : IntKind.i64.wrap (1 + (j : Int)) = 1 + (j : Int) := IntWalk.i64_in _ (by omega)
      refine hop_val rfl (.int .i64 (1 + (j : Int))) (w' := wx) ?_ (hK γ _ _ ⟨_, rfl, by omega, by omega⟩ (fun k u _ h => h) (hS.st' (i := 27) (by decide) (St.start hS.codes)))
      simp [execOp, Act.eval, f1, hw, go_sem, -Array.getD_eq_getD_getElem?]
    · have f0 : ac.tmps.getD 0 undef = .pointer (some ⟨b, 0, none⟩) := same_slot hA 0 (by kernel_rfl)
      refine hop_val rfl (.pointer (some ⟨b, 0, none⟩)) (w' := wx) ?_ (hK γ _ _ rfl (fun k u _ h => h) (hS.st' (i := 28) (by decide) (St.start hS.codes)))
      simp [execOp, Act.eval, f0, go_sem, -Array.getD_eq_getD_getElem?]
    · have f1 : ac.tmps.getD 32 undef = .pointer (some ⟨b, 0, none⟩) := (haft ⟨28, .data⟩ (by simp) rfl).2 _ rfl
      refine hop_call rfl Tryz.func22 (by kernel_rfl) (by kernel_rfl) _ _ rfl #[.pointer (some ⟨b, 0, none⟩), .int .i64 5] (by simp only [List.map_toArray, List.map_cons, List.map_nil, Act.eval, f1]) _ (next_ok B b 5 wx hS.codes (by omega) (by omega)) ?_
      rintro e w' ⟨x, x0, x1, rfl, hs'⟩
      obtain ⟨j, rfl⟩ := Int.eq_ofNat_of_zero_le x0
      exact ⟨_, rfl, hK γ _ _ ⟨j, by omega, rfl⟩ (fun k u _ h => Sp.kept (same_st hs') _ u h) (hS.st' (i := 29) (by decide) hs')⟩
    · have f0 : ac.tmps.getD 0 undef = .pointer (some ⟨b, 0, none⟩) := same_slot hA 0 (by kernel_rfl)
      refine hop_val rfl (.pointer (some ⟨b, 0, none⟩)) (w' := wx) ?_ (hK γ _ _ rfl (fun k u _ h => h) (hS.st' (i := 30) (by decide) (St.start hS.codes)))
      simp [execOp, Act.eval, f0, go_sem, -Array.getD_eq_getD_getElem?]
    · have f1 : ac.tmps.getD 34 undef = .pointer (some ⟨b, 0, none⟩) := (haft ⟨30, .data⟩ (by simp) rfl).2 _ rfl
      refine hop_call rfl Tryz.func22 (by kernel_rfl) (by kernel_rfl) _ _ rfl #[.pointer (some ⟨b, 0, none⟩), .int .i64 16] (by simp only [List.map_toArray, List.map_cons, List.map_nil, Act.eval, f1]) _ (next_ok B b 16 wx hS.codes (by omega) (by omega)) ?_
      rintro e w' ⟨x, x0, x1, rfl, hs'⟩
      obtain ⟨j, rfl⟩ := Int.eq_ofNat_of_zero_le x0
      exact ⟨_, rfl, hK γ _ _ ⟨j, by omega, rfl⟩ (fun k u _ h => Sp.kept (same_st hs') _ u h) (hS.st' (i := 31) (by decide) hs')⟩
    · obtain ⟨j, hj, e2⟩ := (haft ⟨31, .data⟩ (by simp) rfl).2 _ rfl
      have f1 : ac.tmps.getD 35 undef = .int .i64 j := e2
      have hw : IntKind.i64.wrap (1 + (j : Int)) = 1 + (j : Int) := IntWalk.i64_in _ (by omega)
      refine hop_val rfl (.int .i64 (1 + (j : Int))) (w' := wx) ?_ (hK γ _ _ ⟨_, rfl, by omega, by omega⟩ (fun k u _ h => h) (hS.st' (i := 32) (by decide) (St.start hS.codes)))
      simp [execOp, Act.eval, f1, hw, go_sem, -Array.getD_eq_getD_getElem?]
    · have f0 : ac.tmps.getD 0 undef = .pointer (some ⟨b, 0, none⟩) := same_slot hA 0 (by kernel_rfl)
      refine hop_val rfl (.pointer (some ⟨b, 0, none⟩)) (w' := wx) ?_ (hK γ _ _ rfl (fun k u _ h => h) (hS.st' (i := 33) (by decide) (St.start hS.codes)))
      simp [execOp, Act.eval, f0, go_sem, -Array.getD_eq_getD_getElem?]
    · have f1 : ac.tmps.getD 37 undef = .pointer (some ⟨b, 0, none⟩) := (haft ⟨33, .data⟩ (by simp) rfl).2 _ rfl
      refine hop_call rfl Tryz.func22 (by kernel_rfl) (by kernel_rfl) _ _ rfl #[.pointer (some ⟨b, 0, none⟩), .int .i64 4] (by simp only [List.map_toArray, List.map_cons, List.map_nil, Act.eval, f1]) _ (next_ok B b 4 wx hS.codes (by omega) (by omega)) ?_
      rintro e w' ⟨x, x0, x1, rfl, hs'⟩
      obtain ⟨j, rfl⟩ := Int.eq_ofNat_of_zero_le x0
      exact ⟨_, rfl, hK γ _ _ ⟨j, by omega, rfl⟩ (fun k u _ h => Sp.kept (same_st hs') _ u h) (hS.st' (i := 34) (by decide) hs')⟩
    · have f0 : ac.tmps.getD 0 undef = .pointer (some ⟨b, 0, none⟩) := same_slot hA 0 (by kernel_rfl)
      refine hop_val rfl (.pointer (some ⟨b, 0, none⟩)) (w' := wx) ?_ (hK γ _ _ rfl (fun k u _ h => h) (hS.st' (i := 35) (by decide) (St.start hS.codes)))
      simp [execOp, Act.eval, f0, go_sem, -Array.getD_eq_getD_getElem?]
    · have f1 : ac.tmps.getD 39 undef = .pointer (some ⟨b, 0, none⟩) := (haft ⟨35, .data⟩ (by simp) rfl).2 _ rfl
      refine hop_call rfl Tryz.func23 (by kernel_rfl) (by kernel_rfl) _ _ rfl #[.pointer (some ⟨b, 0, none⟩)] (by simp only [List.map_toArray, List.map_cons, List.map_nil, Act.eval, f1]) _ (scheme_ok B b wx hS.codes) ?_
      rintro e w' ⟨p, q, r, rfl, hs'⟩
      exact ⟨_, rfl, hK γ _ _ ⟨p, q, r, rfl⟩ (fun k u _ h => Sp.kept (same_st hs') _ u h) (hS.st' (i := 36) (by decide) hs')⟩
    · have hg := hS.gl
      refine hop_val rfl (.slice (some ⟨wx.heap.size, 0, none⟩) 5 5) (w' := wx.alloc (.cells #[.int .i64 10000, .int .i64 10000, .int .i64 10000, .int .i64 9900, .int .i64 0] 3)) ?_ (hK γ _ _ ⟨by decide, wx.heap.size, rfl, by omega, by omega, inL wx [10000, 10000, 10000, 9900, 0] 0 10000 (by decide)⟩ (fun k u _ h => Sp.kept (same_alloc wx _) _ u h) (hS.st' (i := 37) (by decide) ((St.start hS.codes).alloc _)))
      simp [execOp, Act.eval, Instr.buildSlice, go_sem, -Array.getD_eq_getD_getElem?]
    · have f0 : ac.tmps.getD 0 undef = .pointer (some ⟨b, 0, none⟩) := same_slot hA 0 (by kernel_rfl)
      refine hop_val rfl (.pointer (some ⟨b, 0, none⟩)) (w' := wx) ?_ (hK γ _ _ rfl (fun k u _ h => h) (hS.st' (i := 38) (by decide) (St.start hS.codes)))
      simp [execOp, Act.eval, f0, go_sem, -Array.getD_eq_getD_getElem?]
    · have f1 : ac.tmps.getD 42 undef = .pointer (some ⟨b, 0, none⟩) := (haft ⟨38, .data⟩ (by simp) rfl).2 _ rfl
      refine hop_call rfl Tryz.func22 (by kernel_rfl) (by kernel_rfl) _ _ rfl #[.pointer (some ⟨b, 0, none⟩), .int .i64 5] (by simp only [List.map_toArray, List.map_cons, List.map_nil, Act.eval, f1]) _ (next_ok B b 5 wx hS.codes (by omega) (by omega)) ?_
      rintro e w' ⟨x, x0, x1, rfl, hs'⟩
      obtain ⟨j, rfl⟩ := Int.eq_ofNat_of_zero_le x0
      exact ⟨_, rfl, hK γ _ _ ⟨j, by omega, rfl⟩ (fun k u _ h => Sp.kept (same_st hs') _ u h) (hS.st' (i := 39) (by decide) hs')⟩
    · obtain ⟨_, LB, e0, hn, hng, hi⟩ := (haft ⟨37, .data⟩ (by simp) rfl).2 _ rfl
      obtain ⟨j, hj, e2⟩ := (haft ⟨39, .data⟩ (by simp) rfl).2 _ rfl
      have f1 : ac.tmps.getD 41 undef = .slice (some ⟨LB, 0, none⟩) 5 5 := e0
      have f2 : ac.tmps.getD 43 undef = .int .i64 j := e2
      obtain ⟨z, z0, z1, hz⟩ := hi j hj
      have j0 : (j : Int) < 5 := by omega
      refine hop_val rfl (.pointer (some ⟨LB, j, none⟩)) (w' := wx) ?_ (hK γ _ _ ⟨LB, j, z, rfl, hn, hng, z0, z1, hz⟩ (fun k u _ h => h) (hS.st' (i := 40) (by decide) (St.start hS.codes)))
      simp [execOp, Act.eval, f1, f2, j0, go_sem, -Array.getD_eq_getD_getElem?]
    · obtain ⟨LB, o, z, e3, hn, hng, z0, z1, hz⟩ := (haft ⟨40, .data⟩ (by simp) rfl).2 _ rfl
      have f1 : ac.tmps.getD 44 undef = .pointer (some ⟨LB, o, none⟩) := e3
      refine hop_val rfl (.int .i64 z) (w' := wx) ?_ (hK γ _ _ ⟨z, rfl, z0, z1⟩ (fun k u _ h => h) (hS.st' (i := 41) (by decide) (St.start hS.codes)))
      simp [execOp, Act.eval, f1, hz, go_sem, -Array.getD_eq_getD_getElem?]
    · obtain ⟨z, e2, z0, z1⟩ := (haft ⟨41, .data⟩ (by simp) rfl).2 _ rfl
      have f1 : ac.tmps.getD 45 undef = .int .i64 z := e2
      have hw : IntKind.i64.wrap (z * 256) = z * 256 := IntWalk.i64_in _ (by omega)
      refine hop_val rfl (.int .i64 (z * 256)) (w' := wx) ?_ (hK γ _ _ ⟨_, rfl, by omega, by omega⟩ (fun k u _ h => h) (hS.st' (i := 42) (by decide) (St.start hS.codes)))
      simp [execOp, Act.eval, f1, hw, go_sem, -Array.getD_eq_getD_getElem?]
    · obtain ⟨x0, e0, l0, u0⟩ := (haft ⟨4, .data⟩ (by simp) rfl).2 _ rfl
      have g0 : ac.tmps.getD 8 undef = .int .i64 x0 := e0
      obtain ⟨x3, e3, l3, u3⟩ := (haft ⟨9, .data⟩ (by simp) rfl).2 _ rfl
      have g3 : ac.tmps.getD 13 undef = .int .i64 x3 := e3
      obtain ⟨x4, e4, l4, u4⟩ := (haft ⟨14, .data⟩ (by simp) rfl).2 _ rfl
      have g4 : ac.tmps.getD 18 undef = .int .i64 x4 := e4
      obtain ⟨x5, e5, l5, u5⟩ := (haft ⟨19, .data⟩ (by simp) rfl).2 _ rfl
      have g5 : ac.tmps.getD 23 undef = .int .i64 x5 := e5
      obtain ⟨x6, e6, l6, u6⟩ := (haft ⟨24, .data⟩ (by simp) rfl).2 _ rfl
      have g6 : ac.tmps.getD 28 undef = .int .i64 x6 := e6
      obtain ⟨x7, e7, l7, u7⟩ := (haft ⟨27, .data⟩ (by simp) rfl).2 _ rfl
      have g7 : ac.tmps.getD 31 undef = .int .i64 x7 := e7
      obtain ⟨x8, h8, e8⟩ := (haft ⟨29, .data⟩ (by simp) rfl).2 _ rfl
      have g8 : ac.tmps.getD 33 undef = .int .i64 x8 := e8
      obtain ⟨x9, e9, l9, u9⟩ := (haft ⟨32, .data⟩ (by simp) rfl).2 _ rfl
      have g9 : ac.tmps.getD 36 undef = .int .i64 x9 := e9
      obtain ⟨x10, h10, e10⟩ := (haft ⟨34, .data⟩ (by simp) rfl).2 _ rfl
      have g10 : ac.tmps.getD 38 undef = .int .i64 x10 := e10
      obtain ⟨p, q, r, e11⟩ := (haft ⟨36, .data⟩ (by simp) rfl).2 _ rfl
      have g11 : ac.tmps.getD 40 undef = .agg #[.int .i64 p, .int .i64 q, .int .i64 r] := e11
      obtain ⟨x12, e12, l12, u12⟩ := (haft ⟨42, .data⟩ (by simp) rfl).2 _ rfl
      have g12 : ac.tmps.getD 46 undef = .int .i64 x12 := e12
      refine hop_val rfl (.agg #[.int .i64 x0, .int .i64 240, .int .i64 360, .int .i64 x3, .int .i64 x4, .int .i64 x5, .int .i64 x6, .int .i64 x7, .int .i64 x8, .int .i64 x9, .int .i64 x10, .int .i64 p, .int .i64 q, .int .i64 r, .int .i64 x12, .int .i64 0, .int .i64 0, .int .i64 0, .int .i64 0, .int .i64 0, .int .i64 0, .int .i64 0, .int .i64 0, .int .i64 0, .int .i64 0, .int .i64 0, .int .i64 0, .int .i64 0, .int .i64 0, .int .i64 0, .int .i64 0, .int .i64 0, .int .i64 0, .int .i64 0, .int .i64 0, .int .i64 0, .int .i64 0, .int .i64 0, .int .i64 0, .int .i64 0, .int .i64 0, .int .i64 0, .int .i64 0, .int .i64 0, .int .i64 0, .int .i64 0, .int .i64 0, .int .i64 0, .int .i64 0, .int .i64 0, .int .i64 0, .int .i64 0, .int .i64 0, .int .i64 0, .int .i64 0, .int .i64 0]) (w' := wx) ?_ (hK γ _ _ ⟨[.int .i64 x0, .int .i64 240, .int .i64 360, .int .i64 x3, .int .i64 x4, .int .i64 x5, .int .i64 x6, .int .i64 x7, .int .i64 x8, .int .i64 x9, .int .i64 x10, .int .i64 p, .int .i64 q, .int .i64 r, .int .i64 x12, .int .i64 0, .int .i64 0, .int .i64 0, .int .i64 0, .int .i64 0, .int .i64 0, .int .i64 0, .int .i64 0, .int .i64 0, .int .i64 0, .int .i64 0, .int .i64 0, .int .i64 0, .int .i64 0, .int .i64 0, .int .i64 0, .int .i64 0, .int .i64 0, .int .i64 0, .int .i64 0, .int .i64 0, .int .i64 0, .int .i64 0, .int .i64 0, .int .i64 0, .int .i64 0, .int .i64 0, .int .i64 0, .int .i64 0, .int .i64 0, .int .i64 0, .int .i64 0, .int .i64 0, .int .i64 0, .int .i64 0, .int .i64 0, .int .i64 0, .int .i64 0, .int .i64 0, .int .i64 0, .int .i64 0], rfl, set_ok (Or.elim (show x0 = 1 ∨ x0 = 2 by omega) (fun h => ⟨1, Or.inl rfl, h⟩) (fun h => ⟨2, Or.inr rfl, h⟩)) rfl (by decide)⟩ (fun k u _ h => h) (hS.st' (i := 43) (by decide) (St.start hS.codes)))
      simp [execOp, Act.eval, g0, g3, g4, g5, g6, g7, g8, g9, g10, g11, g12, go_sem, -Array.getD_eq_getD_getElem?]
    · have hg := hS.gl
      refine hop_val rfl (.pointer (some ⟨wx.heap.size, 0, none⟩)) (w' := wx.alloc (.cells #[.int .i64 0, .int .i64 0, .int .i64 0, .int .i64 0, .int .i64 0, .int .i64 0, .int .i64 0, .int .i64 0, .int .i64 0, .int .i64 0, .int .i64 0, .int .i64 0, .int .i64 0, .int .i64 0, .int .i64 0, .int .i64 0, .int .i64 0, .int .i64 0, .int .i64 0, .int .i64 0, .int .i64 0, .int .i64 0, .int .i64 0, .int .i64 0, .int .i64 0, .int .i64 0, .int .i64 0, .int .i64 0, .int .i64 0, .int .i64 0, .int .i64 0, .int .i64 0, .int .i64 0, .int .i64 0, .int .i64 0, .int .i64 0, .int .i64 0, .int .i64 0, .int .i64 0, .int .i64 0, .int .i64 0, .int .i64 0, .int .i64 0, .int .i64 0, .int .i64 0, .int .i64 0, .int .i64 0, .int .i64 0, .int .i64 0, .int .i64 0, .int .i64 0, .int .i64 0, .int .i64 0, .int .i64 0, .int .i64 0, .int .i64 0] 29)) ?_ (hK wx.heap.size _ _ rfl (fun k u hk h => Sp.alloc (show spS k ≠ .box from spS_box (by rintro rfl; rw [hd] at hk; cases hk)) h) (hS.box hd (fun h => by have := hcl 45 _ rfl h ⟨44, .data⟩ (by simp) rfl; rw [hd] at this; cases this) [.int .i64 0, .int .i64 0, .int .i64 0, .int .i64 0, .int .i64 0, .int .i64 0, .int .i64 0, .int .i64 0, .int .i64 0, .int .i64 0, .int .i64 0, .int .i64 0, .int .i64 0, .int .i64 0, .int .i64 0, .int .i64 0, .int .i64 0, .int .i64 0, .int .i64 0, .int .i64 0, .int .i64 0, .int .i64 0, .int .i64 0, .int .i64 0, .int .i64 0, .int .i64 0, .int .i64 0, .int .i64 0, .int .i64 0, .int .i64 0, .int .i64 0, .int .i64 0, .int .i64 0, .int .i64 0, .int .i64 0, .int .i64 0, .int .i64 0, .int .i64 0, .int .i64 0, .int .i64 0, .int .i64 0, .int .i64 0, .int .i64 0, .int .i64 0, .int .i64 0, .int .i64 0, .int .i64 0, .int .i64 0, .int .i64 0, .int .i64 0, .int .i64 0, .int .i64 0, .int .i64 0, .int .i64 0, .int .i64 0, .int .i64 0] rfl))
      simp [execOp, Act.eval, go_sem, -Array.getD_eq_getD_getElem?]
    · obtain ⟨S, e1, hSe⟩ := (haft ⟨43, .data⟩ (by simp) rfl).2 _ rfl
      have d44 := (haft ⟨44, .data⟩ (by simp) rfl).1
      have f1 : ac.tmps.getD 47 undef = .agg S.toArray := e1
      have f2 : ac.tmps.getD 3 undef = .pointer (some ⟨γ, 0, none⟩) := (haft ⟨44, .data⟩ (by simp) rfl).2 _ rfl
      obtain ⟨hg0, hgb, row, hr, hrl, _⟩ := hS.row d44
      refine hop_row_store rfl _ _ rfl γ f2 row S f1 hr (by rw [hSe.1.len, hrl]) (by rw [hrl]; exact rowT_se) hSe.1.one ?_
      intro w' h1 h2
      exact hK γ _ _ trivial (fun k u _ h => Sp.kept (same_apart h2) _ u h) (hS.put d44 h1 h2 hSe)
  case hend =>
    intro γ u wd d hd hS hF
    obtain ⟨h1, h2, S, hr, hl, hgo⟩ := hS.row (hd 44 (by simp))
    have hg := hgo (hd 45 (by simp))
    have hu : u 3 = .pointer (some ⟨γ, 0, none⟩) := hF 44 _ rfl
    simp only [mixL]
    rw [hu]
    clear hu hF
    have HQ : Hid (SQ w B b γ wd) := by
      have h3 := HR.out
      have hlt : w.heap.size < wq.heap.size := h3.lt
      have hb := hbw.out
      exact ⟨HSt.out.then hS.st, hbw.out, by omega, ⟨S, hr, hg⟩, ⟨[.int .i64 0, .int .i64 0, .int .i64 0, .int .i64 0, .int .i64 0, .int .i64 0, .int .i64 0, .int .i64 0, .int .i64 0, .int .i64 0, .int .i64 0, .int .i64 0, .int .i64 0, .int .i64 0, .int .i64 0, .int .i64 0, .int .i64 0, .int .i64 0, .int .i64 0, .int .i64 0, .int .i64 0, .int .i64 0, .int .i64 0, .int .i64 0, .int .i64 0, .int .i64 0, .int .i64 0, .int .i64 0, .int .i64 0, .int .i64 0, .int .i64 0, .int .i64 0, .int .i64 0, .int .i64 0, .int .i64 0, .int .i64 0, .int .i64 0, .int .i64 0, .int .i64 0, .int .i64 0, .int .i64 0, .int .i64 0, .int .i64 0, .int .i64 0, .int .i64 0, .int .i64 0, .int .i64 0, .int .i64 0, .int .i64 0, .int .i64 0, .int .i64 0, .int .i64 0, .int .i64 0, .int .i64 0, .int .i64 0, .int .i64 0], h3.but hS.st.2 (by omega), rfl⟩⟩
    clear hS hr hl hg h1 h2 hgo hd d HSt HR
    go_upto_region 2 with fail
    refine wp_region_slots (by kernel_rfl) 83 rfl (by kernel_rfl) (by kernel_rfl) 48 10 (by kernel_rfl) (fun _ w' => SQ w B b γ w') (FT b γ) ?hS1 ?hop1 ?hend1
    case hS1 => exact HQ.out.st' (St.start HQ.out.codes).drew
    case hop1 =>
      refine ⟨?_, ?_, ?_, ?_, ?_, ?_, ?_, ?_, ?_, ?_, ?_, trivial⟩
      all_goals intro d ac wx hd hcl hS hA haft K hK
      · have hg := hS.gl
        refine hop_val rfl (.slice (some ⟨wx.heap.size, 0, none⟩) 3 3) (w' := wx.alloc (.cells #[.int .i64 1000, .int .i64 100, .int .i64 4] 3)) ?_ (hK _ _ ⟨by decide, wx.heap.size, rfl, by omega, by omega, inL wx [1000, 100, 4] 4 1000 (by decide)⟩ (fun k u _ h => FT.kept (same_alloc wx _) _ u h) (hS.st' ((St.start hS.codes).alloc _)))
        simp [execOp, Act.eval, Instr.buildSlice, go_sem, -Array.getD_eq_getD_getElem?]
      · have f0 : ac.tmps.getD 0 undef = .pointer (some ⟨b, 0, none⟩) := same_slot hA 0 (by kernel_rfl)
        refine hop_val rfl (.pointer (some ⟨b, 0, none⟩)) (w' := wx) ?_ (hK _ _ rfl (fun k u _ h => h) (hS.st' (St.start hS.codes)))
        simp [execOp, Act.eval, f0, go_sem, -Array.getD_eq_getD_getElem?]
      · have f1 : ac.tmps.getD 49 undef = .pointer (some ⟨b, 0, none⟩) := (haft ⟨1, .data⟩ (by simp) rfl).2 _ rfl
        refine hop_call rfl Tryz.func22 (by kernel_rfl) (by kernel_rfl) _ _ rfl #[.pointer (some ⟨b, 0, none⟩), .int .i64 3] (by simp only [List.map_toArray, List.map_cons, List.map_nil, Act.eval, f1]) _ (next_ok B b 3 wx hS.codes (by omega) (by omega)) ?_
        rintro e w' ⟨x, x0, x1, rfl, hs'⟩
        obtain ⟨j, rfl⟩ := Int.eq_ofNat_of_zero_le x0
        exact ⟨_, rfl, hK _ _ ⟨j, by omega, rfl⟩ (fun k u _ h => FT.kept (same_st hs') _ u h) (hS.st' hs')⟩
      · obtain ⟨_, LB, e0, hn, hng, hi⟩ := (haft ⟨0, .data⟩ (by simp) rfl).2 _ rfl
        obtain ⟨j, hj, e2⟩ := (haft ⟨2, .data⟩ (by simp) rfl).2 _ rfl
        have f1 : ac.tmps.getD 48 undef = .slice (some ⟨LB, 0, none⟩) 3 3 := e0
        have f2 : ac.tmps.getD 50 undef = .int .i64 j := e2
        obtain ⟨z, z0, z1, hz⟩ := hi j hj
        have j0 : (j : Int) < 3 := by omega
        refine hop_val rfl (.pointer (some ⟨LB, j, none⟩)) (w' := wx) ?_ (hK _ _ ⟨LB, j, z, rfl, hn, hng, z0, z1, hz⟩ (fun k u _ h => h) (hS.st' (St.start hS.codes)))
        simp [execOp, Act.eval, f1, f2, j0, go_sem, -Array.getD_eq_getD_getElem?]
      · obtain ⟨LB, o, z, e3, hn, hng, z0, z1, hz⟩ := (haft ⟨3, .data⟩ (by simp) rfl).2 _ rfl
        have f1 : ac.tmps.getD 51 undef = .pointer (some ⟨LB, o, none⟩) := e3
        refine hop_val rfl (.int .i64 z) (w' := wx) ?_ (hK _ _ ⟨z, rfl, z0, z1⟩ (fun k u _ h => h) (hS.st' (St.start hS.codes)))
        simp [execOp, Act.eval, f1, hz, go_sem, -Array.getD_eq_getD_getElem?]
      · have f0 : ac.tmps.getD 0 undef = .pointer (some ⟨b, 0, none⟩) := same_slot hA 0 (by kernel_rfl)
        refine hop_val rfl (.pointer (some ⟨b, 0, none⟩)) (w' := wx) ?_ (hK _ _ rfl (fun k u _ h => h) (hS.st' (St.start hS.codes)))
        simp [execOp, Act.eval, f0, go_sem, -Array.getD_eq_getD_getElem?]
      · have f1 : ac.tmps.getD 53 undef = .pointer (some ⟨b, 0, none⟩) := (haft ⟨5, .data⟩ (by simp) rfl).2 _ rfl
        refine hop_call rfl Tryz.func22 (by kernel_rfl) (by kernel_rfl) _ _ rfl #[.pointer (some ⟨b, 0, none⟩), .int .i64 3] (by simp only [List.map_toArray, List.map_cons, List.map_nil, Act.eval, f1]) _ (next_ok B b 3 wx hS.codes (by omega) (by omega)) ?_
        rintro e w' ⟨x, x0, x1, rfl, hs'⟩
        obtain ⟨j, rfl⟩ := Int.eq_ofNat_of_zero_le x0
        exact ⟨_, rfl, hK _ _ ⟨j, by omega, rfl⟩ (fun k u _ h => FT.kept (same_st hs') _ u h) (hS.st' hs')⟩
      · obtain ⟨j, hj, e2⟩ := (haft ⟨6, .data⟩ (by simp) rfl).2 _ rfl
        have f1 : ac.tmps.getD 54 undef = .int .i64 j := e2
        have hw : IntKind.i64.wrap (1 + (j : Int)) = 1 + (j : Int) := IntWalk.i64_in _ (by omega)
        refine hop_val rfl (.int .i64 (1 + (j : Int))) (w' := wx) ?_ (hK _ _ ⟨_, rfl, by omega, by omega⟩ (fun k u _ h => h) (hS.st' (St.start hS.codes)))
        simp [execOp, Act.eval, f1, hw, go_sem, -Array.getD_eq_getD_getElem?]
      · obtain ⟨x, e1, l1, u1⟩ := (haft ⟨4, .data⟩ (by simp) rfl).2 _ rfl
        obtain ⟨y, e2, l2, u2⟩ := (haft ⟨7, .data⟩ (by simp) rfl).2 _ rfl
        have g1 : ac.tmps.getD 52 undef = .int .i64 x := e1
        have g2 : ac.tmps.getD 55 undef = .int .i64 y := e2
        refine hop_val rfl (.agg (ctlV x y).toArray) (w' := wx) ?_ (hK _ _ ⟨x, y, rfl⟩ (fun k u _ h => h) (hS.st' (St.start hS.codes)))
        simp [execOp, Act.eval, g1, g2, ctlV, go_sem, -Array.getD_eq_getD_getElem?]
      · have f3 : ac.tmps.getD 3 undef = .pointer (some ⟨γ, 0, none⟩) := same_slot hA 3 (by kernel_rfl)
        refine hop_val rfl (.pointer (some ⟨γ, 15, none⟩)) (w' := wx) ?_ (hK _ _ rfl (fun k u _ h => h) (hS.st' (St.start hS.codes)))
        simp [execOp, Act.eval, f3, go_sem, -Array.getD_eq_getD_getElem?]
      · obtain ⟨x, y, e8⟩ := (haft ⟨8, .data⟩ (by simp) rfl).2 _ rfl
        have f1 : ac.tmps.getD 56 undef = .agg (ctlV x y).toArray := e8
        have f2 : ac.tmps.getD 57 undef = .pointer (some ⟨γ, 15, none⟩) := (haft ⟨9, .data⟩ (by simp) rfl).2 _ rfl
        obtain ⟨row, hr, hg⟩ := hS.row
        refine hop_row_storeM rfl _ _ rfl γ 15 f2 row (ctlV x y) f1 hr (by rw [hg.1.len, ctlV_len]; decide) (by rw [ctlV_len]; exact rowT_ct) (ctlV_one x y) ?_
        intro w' h2 h3
        exact hK _ _ trivial (fun k u _ h => FT.kept (same_apart h3) _ u h) (hS.put h2 h3 (hg.setL 15 (by decide) (ctlV_one x y)))
    case hend1 =>
      intro u2 we d hd hS _
      have HQ2 := Lib.hid hS
      clear hS hd d HQ
      simp only [mixL]
      have HL3 : Hid (InR (we.alloc (.cells #[.int .i64 0, .int .i64 100, .int .i64 1000] 3)) we.heap.size 3 0 1000) := inL we [0, 100, 1000] 0 1000 (by decide)
      have HA3 : Hid (SQ w B b γ (we.alloc (.cells #[.int .i64 0, .int .i64 100, .int .i64 1000] 3))) := HQ2.out.st' ((St.start HQ2.out.codes).alloc _)
      have HN3 : Hid (we.heap.size ≠ b ∧ we.heap.size ≠ γ) := by have := HQ2.out.gl; unfold Hid; omega
      clear HQ2
      go_wp2_with fail
      refine (next_ok B b 3 _ HA3.out.codes (by omega) (by omega)).mono ?_
      rintro e wt3 ⟨j, j0, j1, rfl, hs⟩
      obtain ⟨j, rfl⟩ := Int.eq_ofNat_of_zero_le j0
      obtain ⟨z, z0, z1, hz⟩ := HL3.out.kept (KeptBut.st hs) HN3.out.1 j (by omega)
      have HQ3 := Lib.hid (HA3.out.st' hs)
      obtain ⟨row, hr, hg⟩ := HQ3.out.row
      obtain ⟨cv, hcv⟩ : ∃ v, row[17]? = some v := ⟨_, List.getElem?_eq_getElem (by rw [hg.1.len]; decide)⟩
      have cc := hr.at 17 hcv
      have cf := hr.2.2 17 (by rw [hg.1.len]; decide)
      have HE3 := Lib.hid (HQ3.out.set 17 (by decide) z (by decide))
      clear hr hg hcv hs HL3 HA3 HQ3
      go_upto_region 4 with fail
      obtain ⟨wu3, hwu⟩ : ∃ u, u = wt3.setCell ⟨γ, 17, none⟩ (.int .i64 z) := ⟨_, rfl⟩
      rw [← hwu] at HE3 ⊢
      clear hwu cc cf hz HN3
      have HL4 : Hid (InR (wu3.alloc (.cells #[.int .i64 0, .int .i64 300] 3)) wu3.heap.size 2 0 300) := inL wu3 [0, 300] 0 300 (by decide)
      have HA4 : Hid (SQ w B b γ (wu3.alloc (.cells #[.int .i64 0, .int .i64 300] 3))) := HE3.out.st' ((St.start HE3.out.codes).alloc _)
      have HN4 : Hid (wu3.heap.size ≠ b ∧ wu3.heap.size ≠ γ) := by have := HE3.out.gl; unfold Hid; omega
      clear HE3
      go_wp2_with fail
      refine (next_ok B b 2 _ HA4.out.codes (by omega) (by omega)).mono ?_
      rintro e wt4 ⟨j, j0, j1, rfl, hs⟩
      obtain ⟨j, rfl⟩ := Int.eq_ofNat_of_zero_le j0
      obtain ⟨z, z0, z1, hz⟩ := HL4.out.kept (KeptBut.st hs) HN4.out.1 j (by omega)
      have HQ4 := Lib.hid (HA4.out.st' hs)
      obtain ⟨row, hr, hg⟩ := HQ4.out.row
      obtain ⟨cv, hcv⟩ : ∃ v, row[29]? = some v := ⟨_, List.getElem?_eq_getElem (by rw [hg.1.len]; decide)⟩
      have cc := hr.at 29 hcv
      have cf := hr.2.2 29 (by rw [hg.1.len]; decide)
      have HE4 := Lib.hid (HQ4.out.set 29 (by decide) z (by decide))
      clear hr hg hcv hs HL4 HA4 HQ4
      go_upto_region 5 with fail
      obtain ⟨wu4, hwu⟩ : ∃ u, u = wt4.setCell ⟨γ, 29, none⟩ (.int .i64 z) := ⟨_, rfl⟩
      rw [← hwu] at HE4 ⊢
      clear hwu cc cf hz HN4
      have HL5 : Hid (InR (wu4.alloc (.cells #[.int .i64 0, .int .i64 30, .int .i64 200] 3)) wu4.heap.size 3 0 200) := inL wu4 [0, 30, 200] 0 200 (by decide)
      have HA5 : Hid (SQ w B b γ (wu4.alloc (.cells #[.int .i64 0, .int .i64 30, .int .i64 200] 3))) := HE4.out.st' ((St.start HE4.out.codes).alloc _)
      have HN5 : Hid (wu4.heap.size ≠ b ∧ wu4.heap.size ≠ γ) := by have := HE4.out.gl; unfold Hid; omega
      clear HE4
      go_wp2_with fail
      refine (next_ok B b 3 _ HA5.out.codes (by omega) (by omega)).mono ?_
      rintro e wt5 ⟨j, j0, j1, rfl, hs⟩
      obtain ⟨j, rfl⟩ := Int.eq_ofNat_of_zero_le j0
      obtain ⟨z, z0, z1, hz⟩ := HL5.out.kept (KeptBut.st hs) HN5.out.1 j (by omega)
      have HQ5 := Lib.hid (HA5.out.st' hs)
      obtain ⟨row, hr, hg⟩ := HQ5.out.row
      obtain ⟨cv, hcv⟩ : ∃ v, row[42]? = some v := ⟨_, List.getElem?_eq_getElem (by rw [hg.1.len]; decide)⟩
      have cc := hr.at 42 hcv
      have cf := hr.2.2 42 (by rw [hg.1.len]; decide)
      have HE5 := Lib.hid (HQ5.out.set 42 (by decide) z (by decide))
      clear hr hg hcv hs HL5 HA5 HQ5
      go_upto_region 6 with fail
      obtain ⟨wu5, hwu⟩ : ∃ u, u = wt5.setCell ⟨γ, 42, none⟩ (.int .i64 z) := ⟨_, rfl⟩
      rw [← hwu] at HE5 ⊢
      clear hwu cc cf hz HN5
      obtain ⟨row, hr, hg⟩ := HE5.out.row
      obtain ⟨Z, hz, hzl⟩ := HE5.out.res
      have hlo := Lib.hid HE5.out.lo
      have HF := Lib.hid HE5.out.st
      have HG := Lib.hid (And.intro hg (And.intro hr (And.intro hz hzl)))
      clear hr hg hz hzl HE5
      go_wp2_with (first
        | (refine row_load rfl _ rfl _ rfl _ HG.out.2.1 (by rw [HG.out.1.1.len]; exact rowT_se) ?_)
        | (refine row_store rfl _ _ rfl _ rfl _ row rfl HG.out.2.2.1 (by rw [HG.out.1.1.len, HG.out.2.2.2]) (by rw [HG.out.2.2.2]; exact rowT_se) HG.out.1.1.one ?_; intro w8 e8 h8))
      exact ret_row rfl _ _ e8 (by rw [HG.out.1.1.len]; exact rowT_se) rfl rfl ⟨row, rfl, HG.out.1, HF.out.grown (h8.below (Nat.le_refl _)) hbw.out (Nat.le_refl _)⟩
end Go.Proofs.YtkpgciimhjkajaaGreatDoor
/- The law: settings in which one thing is changed. -/
namespace Go.Proofs.YtkpgciimhjkajaaGreatDoor
open Go Go.RowKit
structure SP (w0 : World) (B b y LB : Nat) (w : World) : Prop where
  st : St w0 B b w
  b0 : b < w0.heap.size
  ye : y = w0.heap.size
  lb : w0.heap.size + 1 < LB ∧ LB < w.heap.size
  row : ∃ row, RowAt w y row ∧ SeA row
  ptr : ∀ j, j < 14 → ∃ k : Nat, k < 56 ∧ w.cell? ⟨LB, j, none⟩ = some (.pointer (some ⟨y, k, none⟩))
  res : ∃ Z, RowAt w (w0.heap.size + 1) Z ∧ Z.length = 56
theorem SP.codes {w0 w : World} {B b y LB : Nat} (h : SP w0 B b y LB w) : CodesIs w B b := h.st.1
theorem SP.gl {w0 w : World} {B b y LB : Nat} (h : SP w0 B b y LB w) : y < w.heap.size ∧ b < w.heap.size := by
  obtain ⟨row, hr, _⟩ := h.row
  exact ⟨hr.lt, h.st.lt⟩
theorem SP.st' {w0 w w' : World} {B b y LB : Nat} (h : SP w0 B b y LB w) (hs : St w B b w') : SP w0 B b y LB w' := by
  obtain ⟨row, hr, hg⟩ := h.row
  obtain ⟨Z, hz, hl⟩ := h.res
  have := h.b0; have := h.lb; have := h.ye
  exact ⟨h.st.then hs, h.b0, h.ye, ⟨h.lb.1, Nat.lt_of_lt_of_le h.lb.2 hs.size⟩, ⟨row, hr.but hs.2 (by omega), hg⟩, fun j hj => by
    obtain ⟨k, hk, hc⟩ := h.ptr j hj
    exact ⟨k, hk, but_cell hs.2 (by simp; omega) hc⟩, ⟨Z, hz.but hs.2 (by omega), hl⟩⟩
theorem SP.set {w0 w : World} {B b y LB : Nat} (h : SP w0 B b y LB w) (k : Nat) (z : Int) (hk : k < 56) : SP w0 B b y LB (w.setCell ⟨y, k, none⟩ (.int .i64 z)) := by
  obtain ⟨row, hr, hg⟩ := h.row
  obtain ⟨Z, hz, hl⟩ := h.res
  have ha : ApartR y w (w.setCell ⟨y, k, none⟩ (.int .i64 z)) := apartR_setCells y [.int .i64 z] k w
  have := h.lb; have := h.ye
  have h4 := ha.2.2.2.1
  refine ⟨h.st.grown (ha.below (Nat.le_of_eq h.ye.symm)) h.b0 (Nat.le_refl _), h.b0, h.ye, ⟨h.lb.1, by omega⟩, ⟨_, hr.set k (by rw [hg.len]; exact hk) _, hg.set k z⟩, fun j hj => ?_, ⟨Z, hz.apart ha (by omega), hl⟩⟩
  obtain ⟨k', hk', hc⟩ := h.ptr j hj
  exact ⟨k', hk', by rw [World.cell?_of_block (w := w) (ha.2.2.2.2 LB (by omega))]; exact hc⟩
def FP (b y LB k : Nat) (v : Value) (w : World) : Prop := match k with
  | 0 => v = .slice (some ⟨LB, 0, none⟩) 14 14
  | 2 => v = .slice (some ⟨LB, 0, none⟩) 14 14
  | 3 => v = .int .i64 14
  | 5 => ∃ j : Nat, j < 14 ∧ v = .pointer (some ⟨LB, j, none⟩)
  | 6 => ∃ k : Nat, k < 56 ∧ v = .pointer (some ⟨y, k, none⟩)
  | 12 => ∃ k : Nat, k < 56 ∧ v = .pointer (some ⟨y, k, none⟩)
  | 1 => Sp.bp.F b y v w
  | 8 => Sp.bp.F b y v w
  | 4 => (Sp.nx 14).F b y v w
  | 7 => (Sp.lit 7 (-9223372036854775808) 1152921504606846976).F b y v w
  | 9 => (Sp.nx 7).F b y v w
  | 10 => (Sp.ix (-9223372036854775808) 1152921504606846976).F b y v w
  | 11 => (Sp.iv (-9223372036854775808) 1152921504606846976).F b y v w
  | _ => True
theorem FP.kept {b y LB : Nat} {w w' : World} (h : SameX b y w w') (k : Nat) (v : Value) (hF : FP b y LB k v w) : FP b y LB k v w' := by
  unfold FP at hF ⊢
  split at hF
  all_goals first | exact hF | exact Sp.kept h _ _ hF
theorem ptrL (w : World) (l : List Nat) (y : Nat) (t : TypeId) : ∀ j, j < l.length → ∃ k : Nat, k ∈ l ∧ (w.alloc (.cells (l.map fun k => Value.pointer (some ⟨y, k, none⟩)).toArray t)).cell? ⟨w.heap.size, j, none⟩ = some (.pointer (some ⟨y, k, none⟩)) := by
  intro j hj
  have hh : (w.alloc (.cells (l.map fun k => Value.pointer (some ⟨y, k, none⟩)).toArray t)).heap[w.heap.size]? = some (.cells (l.map fun k => Value.pointer (some ⟨y, k, none⟩)).toArray t (0, 0)) := heap_alloc_new w _
  refine ⟨l[j], List.getElem_mem hj, ?_⟩
  simp only [World.cell?, hh]
  rw [if_neg (by simp)]
  simp [hj]
def SpoIs (B b : Nat) (w : World) (e : Ending) (w' : World) : Prop := ∃ S, e = .returned (.agg S.toArray) ∧ SeA S ∧ St w B b w'
set_option maxHeartbeats 16000000 in
set_option maxRecDepth 100000 in
theorem spoil_ok (B b : Nat) (S : List Value) (hS : SeA S) (w : World) (h : CodesIs w B b) : Calls Tryz.prog 8 #[.pointer (some ⟨b, 0, none⟩), .agg S.toArray] w (SpoIs B b w) := by
  have hbw : Hid (b < w.heap.size) := h.lt
  have HC := Lib.hid h
  have HSe := Lib.hid hS
  clear h hS
  obtain ⟨w1, hw1⟩ : ∃ u, u = (w.alloc (.cells S.toArray 29)).alloc (.cells #[.int .i64 0, .int .i64 0, .int .i64 0, .int .i64 0, .int .i64 0, .int .i64 0, .int .i64 0, .int .i64 0, .int .i64 0, .int .i64 0, .int .i64 0, .int .i64 0, .int .i64 0, .int .i64 0, .int .i64 0, .int .i64 0, .int .i64 0, .int .i64 0, .int .i64 0, .int .i64 0, .int .i64 0, .int .i64 0, .int .i64 0, .int .i64 0, .int .i64 0, .int .i64 0, .int .i64 0, .int .i64 0, .int .i64 0, .int .i64 0, .int .i64 0, .int .i64 0, .int .i64 0, .int .i64 0, .int .i64 0, .int .i64 0, .int .i64 0, .int .i64 0, .int .i64 0, .int .i64 0, .int .i64 0, .int .i64 0, .int .i64 0, .int .i64 0, .int .i64 0, .int .i64 0, .int .i64 0, .int .i64 0, .int .i64 0, .int .i64 0, .int .i64 0, .int .i64 0, .int .i64 0, .int .i64 0, .int .i64 0, .int .i64 0] 29) := ⟨_, rfl⟩
  have hst1 : St w B b w1 := by rw [hw1]; exact ((St.start HC.out).alloc _).alloc _
  have hr1 : RowAt w1 w.heap.size S := by rw [hw1]; exact (RowAt.new w S (by rw [HSe.out.len]; decide) _ rfl).alloc _
  have hz1 : RowAt w1 (w.heap.size + 1) [.int .i64 0, .int .i64 0, .int .i64 0, .int .i64 0, .int .i64 0, .int .i64 0, .int .i64 0, .int .i64 0, .int .i64 0, .int .i64 0, .int .i64 0, .int .i64 0, .int .i64 0, .int .i64 0, .int .i64 0, .int .i64 0, .int .i64 0, .int .i64 0, .int .i64 0, .int .i64 0, .int .i64 0, .int .i64 0, .int .i64 0, .int .i64 0, .int .i64 0, .int .i64 0, .int .i64 0, .int .i64 0, .int .i64 0, .int .i64 0, .int .i64 0, .int .i64 0, .int .i64 0, .int .i64 0, .int .i64 0, .int .i64 0, .int .i64 0, .int .i64 0, .int .i64 0, .int .i64 0, .int .i64 0, .int .i64 0, .int .i64 0, .int .i64 0, .int .i64 0, .int .i64 0, .int .i64 0, .int .i64 0, .int .i64 0, .int .i64 0, .int .i64 0, .int .i64 0, .int .i64 0, .int .i64 0, .int .i64 0, .int .i64 0] := by rw [hw1]; exact RowAt.new (w.alloc (.cells S.toArray 29)) [.int .i64 0, .int .i64 0, .int .i64 0, .int .i64 0, .int .i64 0, .int .i64 0, .int .i64 0, .int .i64 0, .int .i64 0, .int .i64 0, .int .i64 0, .int .i64 0, .int .i64 0, .int .i64 0, .int .i64 0, .int .i64 0, .int .i64 0, .int .i64 0, .int .i64 0, .int .i64 0, .int .i64 0, .int .i64 0, .int .i64 0, .int .i64 0, .int .i64 0, .int .i64 0, .int .i64 0, .int .i64 0, .int .i64 0, .int .i64 0, .int .i64 0, .int .i64 0, .int .i64 0, .int .i64 0, .int .i64 0, .int .i64 0, .int .i64 0, .int .i64 0, .int .i64 0, .int .i64 0, .int .i64 0, .int .i64 0, .int .i64 0, .int .i64 0, .int .i64 0, .int .i64 0, .int .i64 0, .int .i64 0, .int .i64 0, .int .i64 0, .int .i64 0, .int .i64 0, .int .i64 0, .int .i64 0, .int .i64 0, .int .i64 0] (by decide) _ (World.size_alloc _ _)
  have hs1 : w1.heap.size = w.heap.size + 1 + 1 := by rw [hw1]; simp
  have Hw1 := Lib.hid hw1
  clear hw1
  obtain ⟨w2, hw2⟩ : ∃ u, u = w1.alloc (.cells #[.pointer (some ⟨w.heap.size, 0, none⟩), .pointer (some ⟨w.heap.size, 1, none⟩), .pointer (some ⟨w.heap.size, 2, none⟩), .pointer (some ⟨w.heap.size, 3, none⟩), .pointer (some ⟨w.heap.size, 4, none⟩), .pointer (some ⟨w.heap.size, 5, none⟩), .pointer (some ⟨w.heap.size, 6, none⟩), .pointer (some ⟨w.heap.size, 7, none⟩), .pointer (some ⟨w.heap.size, 8, none⟩), .pointer (some ⟨w.heap.size, 9, none⟩), .pointer (some ⟨w.heap.size, 10, none⟩), .pointer (some ⟨w.heap.size, 13, none⟩), .pointer (some ⟨w.heap.size, 14, none⟩), .pointer (some ⟨w.heap.size, 54, none⟩)] 81) := ⟨_, rfl⟩
  have hst2 : St w1 B b w2 := by rw [hw2]; exact (St.start hst1.1).alloc _
  have HP : Hid (SP w B b w.heap.size w1.heap.size w2) := by
    have hb := hbw.out
    refine ⟨hst1.then hst2, hb, rfl, ⟨by omega, by rw [hw2, World.size_alloc]; omega⟩, ⟨S, hr1.but hst2.2 (by omega), HSe.out⟩, fun j hj => ?_, ⟨_, hz1.but hst2.2 (by omega), rfl⟩⟩
    obtain ⟨k, hk, hc⟩ := ptrL w1 [0, 1, 2, 3, 4, 5, 6, 7, 8, 9, 10, 13, 14, 54] w.heap.size 81 j hj
    refine ⟨k, ?_, by rw [hw2]; exact hc⟩
    simp only [List.mem_cons, List.mem_nil_iff, or_false] at hk
    omega
  have Hw2 := Lib.hid hw2
  clear hw2 hst2 hst1 hr1 hz1 hs1
  go_enter Tryz.func8, Tryz.ntmps8
  go_upto_region 1 with fail
  rw [← Hw1.out]
  go_upto_region 2 with fail
  rw [← Hw2.out]
  obtain ⟨LB, hLB⟩ : ∃ x, x = w1.heap.size := ⟨_, rfl⟩
  obtain ⟨y, hy⟩ : ∃ x, x = w.heap.size := ⟨_, rfl⟩
  rw [← hLB] at HP ⊢
  have Hy := Lib.hid hy
  rw [← hy] at HP ⊢
  clear hLB Hw2 Hw1 hy
  refine wp_region_slots (by kernel_rfl) 37 rfl (by kernel_rfl) (by kernel_rfl) 23 13 (by kernel_rfl) (fun _ w' => SP w B b y LB w') (FP b y LB) ?hS0 ?hop ?hend
  case hS0 => exact HP.out.st' (St.start HP.out.codes).drew
  case hop =>
    refine ⟨?_, ?_, ?_, ?_, ?_, ?_, ?_, ?_, ?_, ?_, ?_, ?_, ?_, ?_, trivial⟩
    all_goals intro d ac wx hd hcl hS hA haft K hK
    · have f5 : ac.tmps.getD 5 undef = .slice (some ⟨LB, 0, none⟩) 14 14 := same_slot hA 5 (by kernel_rfl)
      refine hop_val rfl (.slice (some ⟨LB, 0, none⟩) 14 14) (w' := wx) ?_ (hK _ _ (rfl) (fun k u _ h => h) (hS.st' (St.start hS.codes)))
      simp [execOp, Act.eval, f5, go_sem, -Array.getD_eq_getD_getElem?]
    · have f0 : ac.tmps.getD 0 undef = .pointer (some ⟨b, 0, none⟩) := same_slot hA 0 (by kernel_rfl)
      refine hop_val rfl (.pointer (some ⟨b, 0, none⟩)) (w' := wx) ?_ (hK _ _ (rfl) (fun k u _ h => h) (hS.st' (St.start hS.codes)))
      simp [execOp, Act.eval, f0, go_sem, -Array.getD_eq_getD_getElem?]
    · have f5 : ac.tmps.getD 5 undef = .slice (some ⟨LB, 0, none⟩) 14 14 := same_slot hA 5 (by kernel_rfl)
      refine hop_val rfl (.slice (some ⟨LB, 0, none⟩) 14 14) (w' := wx) ?_ (hK _ _ (rfl) (fun k u _ h => h) (hS.st' (St.start hS.codes)))
      simp [execOp, Act.eval, f5, go_sem, -Array.getD_eq_getD_getElem?]
    · have f1 : ac.tmps.getD 25 undef = .slice (some ⟨LB, 0, none⟩) 14 14 := (haft ⟨2, .data⟩ (by simp) rfl).2 _ rfl
      refine hop_val rfl (.int .i64 14) (w' := wx) ?_ (hK _ _ (rfl) (fun k u _ h => h) (hS.st' (St.start hS.codes)))
      simp [execOp, Act.eval, f1, go_sem, -Array.getD_eq_getD_getElem?]
    · have f1 : ac.tmps.getD 24 undef = .pointer (some ⟨b, 0, none⟩) := (haft ⟨1, .data⟩ (by simp) rfl).2 _ rfl
      have f2 : ac.tmps.getD 26 undef = .int .i64 14 := (haft ⟨3, .data⟩ (by simp) rfl).2 _ rfl
      refine hop_call rfl Tryz.func22 (by kernel_rfl) (by kernel_rfl) _ _ rfl #[.pointer (some ⟨b, 0, none⟩), .int .i64 14] (by simp only [List.map_toArray, List.map_cons, List.map_nil, Act.eval, f1, f2]) _ (next_ok B b 14 wx hS.codes (by omega) (by omega)) ?_
      rintro e w' ⟨x, x0, x1, rfl, hs'⟩
      obtain ⟨j, rfl⟩ := Int.eq_ofNat_of_zero_le x0
      exact ⟨_, rfl, hK _ _ ⟨j, by omega, rfl⟩ (fun k u _ h => FP.kept (same_st hs') _ u h) (hS.st' hs')⟩
    · have f1 : ac.tmps.getD 23 undef = .slice (some ⟨LB, 0, none⟩) 14 14 := (haft ⟨0, .data⟩ (by simp) rfl).2 _ rfl
      obtain ⟨j, hj, e2⟩ := (haft ⟨4, .data⟩ (by simp) rfl).2 _ rfl
      have f2 : ac.tmps.getD 27 undef = .int .i64 j := e2
      have j0 : (j : Int) < 14 := by omega
      refine hop_val rfl (.pointer (some ⟨LB, j, none⟩)) (w' := wx) ?_ (hK _ _ ⟨j, hj, rfl⟩ (fun k u _ h => h) (hS.st' (St.start hS.codes)))
      simp [execOp, Act.eval, f1, f2, j0, go_sem, -Array.getD_eq_getD_getElem?]
    · obtain ⟨j, hj, e2⟩ := (haft ⟨5, .data⟩ (by simp) rfl).2 _ rfl
      have f1 : ac.tmps.getD 28 undef = .pointer (some ⟨LB, j, none⟩) := e2
      obtain ⟨k, hk, hc⟩ := hS.ptr j hj
      refine hop_val rfl (.pointer (some ⟨y, k, none⟩)) (w' := wx) ?_ (hK _ _ ⟨k, hk, rfl⟩ (fun k u _ h => h) (hS.st' (St.start hS.codes)))
      simp [execOp, Act.eval, f1, hc, go_sem, -Array.getD_eq_getD_getElem?]
    · have hg := hS.gl
      refine hop_val rfl (.slice (some ⟨wx.heap.size, 0, none⟩) 7 7) (w' := wx.alloc (.cells #[.int .i64 (-1), .int .i64 0, .int .i64 1, .int .i64 41, .int .i64 100001, .int .i64 1152921504606846976, .int .i64 (-9223372036854775808)] 3)) ?_ (hK _ _ ⟨by decide, wx.heap.size, rfl, by omega, by omega, inL wx [(-1), 0, 1, 41, 100001, 1152921504606846976, (-9223372036854775808)] (-9223372036854775808) 1152921504606846976 (by decide)⟩ (fun k u _ h => FP.kept (same_alloc wx _) _ u h) (hS.st' ((St.start hS.codes).alloc _)))
      simp [execOp, Act.eval, Instr.buildSlice, go_sem, -Array.getD_eq_getD_getElem?]
    · have f0 : ac.tmps.getD 0 undef = .pointer (some ⟨b, 0, none⟩) := same_slot hA 0 (by kernel_rfl)
      refine hop_val rfl (.pointer (some ⟨b, 0, none⟩)) (w' := wx) ?_ (hK _ _ (rfl) (fun k u _ h => h) (hS.st' (St.start hS.codes)))
      simp [execOp, Act.eval, f0, go_sem, -Array.getD_eq_getD_getElem?]
    · have f1 : ac.tmps.getD 31 undef = .pointer (some ⟨b, 0, none⟩) := (haft ⟨8, .data⟩ (by simp) rfl).2 _ rfl
      refine hop_call rfl Tryz.func22 (by kernel_rfl) (by kernel_rfl) _ _ rfl #[.pointer (some ⟨b, 0, none⟩), .int .i64 7] (by simp only [List.map_toArray, List.map_cons, List.map_nil, Act.eval, f1]) _ (next_ok B b 7 wx hS.codes (by omega) (by omega)) ?_
      rintro e w' ⟨x, x0, x1, rfl, hs'⟩
      obtain ⟨j, rfl⟩ := Int.eq_ofNat_of_zero_le x0
      exact ⟨_, rfl, hK _ _ ⟨j, by omega, rfl⟩ (fun k u _ h => FP.kept (same_st hs') _ u h) (hS.st' hs')⟩
    · obtain ⟨_, LA, e0, hn, hng, hi⟩ := (haft ⟨7, .data⟩ (by simp) rfl).2 _ rfl
      obtain ⟨j, hj, e2⟩ := (haft ⟨9, .data⟩ (by simp) rfl).2 _ rfl
      have f1 : ac.tmps.getD 30 undef = .slice (some ⟨LA, 0, none⟩) 7 7 := e0
      have f2 : ac.tmps.getD 32 undef = .int .i64 j := e2
      obtain ⟨z, z0, z1, hz⟩ := hi j hj
      have j0 : (j : Int) < 7 := by omega
      refine hop_val rfl (.pointer (some ⟨LA, j, none⟩)) (w' := wx) ?_ (hK _ _ ⟨LA, j, z, rfl, hn, hng, z0, z1, hz⟩ (fun k u _ h => h) (hS.st' (St.start hS.codes)))
      simp [execOp, Act.eval, f1, f2, j0, go_sem, -Array.getD_eq_getD_getElem?]
    · obtain ⟨LA, o, z, e3, hn, hng, z0, z1, hz⟩ := (haft ⟨10, .data⟩ (by simp) rfl).2 _ rfl
      have f1 : ac.tmps.getD 33 undef = .pointer (some ⟨LA, o, none⟩) := e3
      refine hop_val rfl (.int .i64 z) (w' := wx) ?_ (hK _ _ ⟨z, rfl, z0, z1⟩ (fun k u _ h => h) (hS.st' (St.start hS.codes)))
      simp [execOp, Act.eval, f1, hz, go_sem, -Array.getD_eq_getD_getElem?]
    · obtain ⟨k, hk, e2⟩ := (haft ⟨6, .data⟩ (by simp) rfl).2 _ rfl
      have f1 : ac.tmps.getD 29 undef = .pointer (some ⟨y, k, none⟩) := e2
      refine hop_val rfl (.pointer (some ⟨y, k, none⟩)) (w' := wx) ?_ (hK _ _ ⟨k, hk, rfl⟩ (fun k u _ h => h) (hS.st' (St.start hS.codes)))
      simp [execOp, Act.eval, f1, go_sem, -Array.getD_eq_getD_getElem?]
    · obtain ⟨k, hk, e2⟩ := (haft ⟨12, .data⟩ (by simp) rfl).2 _ rfl
      obtain ⟨z, e3, _, _⟩ := (haft ⟨11, .data⟩ (by simp) rfl).2 _ rfl
      have f1 : ac.tmps.getD 35 undef = .pointer (some ⟨y, k, none⟩) := e2
      have f2 : ac.tmps.getD 34 undef = .int .i64 z := e3
      obtain ⟨row, hr, hg⟩ := hS.row
      obtain ⟨cv, hcv⟩ : ∃ v, row[k]? = some v := ⟨_, List.getElem?_eq_getElem (by rw [hg.len]; exact hk)⟩
      have cc := hr.at k hcv
      have cf := hr.2.2 k (by rw [hg.len]; exact hk)
      refine hop_none rfl (w' := wx.setCell ⟨y, k, none⟩ (.int .i64 z)) ?_ (hK undef _ trivial (fun k' u _ h => FP.kept (same_apart (apartR_setCells y [.int .i64 z] k wx)) _ u h) (hS.set k z hk))
      simp [execOp, Act.eval, f1, f2, cc, cf, go_sem, -Array.getD_eq_getD_getElem?]
  case hend =>
    intro u2 we d hd hS _
    obtain ⟨row, hr, hg⟩ := hS.row
    obtain ⟨Z, hz, hl⟩ := hS.res
    have HG := Lib.hid (And.intro hg (And.intro hr (And.intro hz hl)))
    have HF := Lib.hid hS.st
    clear hS hd d HP hr hg hz hl
    simp only [mixL]
    rw [Hy.out] at HG ⊢
    go_wp2_with (first
      | (refine row_load rfl _ rfl _ rfl _ HG.out.2.1 (by rw [HG.out.1.len]; exact rowT_se) ?_)
      | (refine row_store rfl _ _ rfl _ rfl _ row rfl HG.out.2.2.1 (by rw [HG.out.1.len, HG.out.2.2.2]) (by rw [HG.out.2.2.2]; exact rowT_se) HG.out.1.one ?_; intro w8 e8 h8))
    exact ret_row rfl _ _ e8 (by rw [HG.out.1.len]; exact rowT_se) rfl rfl ⟨row, rfl, HG.out.1, HF.out.grown (h8.below (Nat.le_succ _)) hbw.out (Nat.le_refl _)⟩
end Go.Proofs.YtkpgciimhjkajaaGreatDoor
/- New of synopticfield: a reader of the first choices of a list that came in. -/
namespace Go.Proofs.YtkpgciimhjkajaaGreatDoor
open Go Go.RowKit
def U8At (w : World) (B : Nat) (v : Value) : Prop :=
  ∃ (a : Option Addr) (len cap : Nat), v = .slice a len cap ∧ len ≤ cap ∧ cap ≤ 9223372036854775807 ∧
    ∀ i, i < len → ∃ ab ao : Nat, a = some ⟨ab, ao, none⟩ ∧ ab < B ∧ ∃ z : Int, 0 ≤ z ∧ z ≤ 255 ∧ w.cell? ⟨ab, ao + i, none⟩ = some (.int .u8 z)
theorem U8At.below {w w' : World} {B : Nat} {v : Value} (h : U8At w B v) (hb : Below w.heap.size w w') : U8At w' B v := by
  obtain ⟨a, len, cap, e, h1, h2, h3⟩ := h
  refine ⟨a, len, cap, e, h1, h2, fun i hi => ?_⟩
  obtain ⟨ab, ao, ha, hB, z, z0, z1, hc⟩ := h3 i hi
  refine ⟨ab, ao, ha, hB, z, z0, z1, ?_⟩
  rw [hb.cell (World.block_lt_of_cell? _ _ hc)]; exact hc
def NewCodes (B : Nat) (w : World) (e : Ending) (w' : World) : Prop := e = .returned (.pointer (some ⟨w.heap.size, 0, none⟩)) ∧ CodesIs w' B w.heap.size ∧ Below w.heap.size w w' ∧ w'.heap.size = w.heap.size + 1
set_option maxHeartbeats 1000000 in
theorem cnew_ok (v : Value) (m : Nat) (B : Nat) (w : World) (hB : B ≤ w.heap.size) (hm : m ≤ 1000) (h : U8At w B v) : Calls Tryz.prog 5 #[v, .int .i64 m] w (NewCodes B w) := by
  obtain ⟨a, len, cap, rfl, hlc, hc, hel⟩ := h
  have Hel := Lib.hid hel
  have fin : ∀ (k : Nat), k ≤ len → k ≤ 1000 → NewCodes B w (.returned (.pointer (some ⟨w.heap.size, 0, none⟩))) (w.alloc (.cells #[.slice a k cap, .int .i64 0] 73)) := by
    intro k hk hk2
    have hb : Below w.heap.size w (w.alloc (.cells #[.slice a k cap, .int .i64 0] 73)) := (Below.refl _ _).alloc (Nat.le_refl _) _
    refine ⟨rfl, ⟨a, k, cap, 0, hB, by simp, by simp, by simp, by omega, hk2, fun i _ hi => ?_⟩, hb, by simp⟩
    obtain ⟨ab, ao, ha, hlt, z, z0, z1, hcell⟩ := Hel.out i (by omega)
    refine ⟨ab, ao, ha, hlt, z, z0, z1, ?_⟩
    rw [hb.cell (World.block_lt_of_cell? _ _ hcell), hcell]
  have Hfin := Lib.hid fin
  clear fin hel
  by_cases hlt : m < len
  · have hlt' : (m : Int) < (len : Int) := by omega
    go_enter Tryz.func5, Tryz.ntmps5
    go_wp2_with fail
    go_ret
    exact Hfin.out m (by omega) hm
  · go_enter Tryz.func5, Tryz.ntmps5
    go_wp2_with fail
    go_ret
    exact Hfin.out len (Nat.le_refl _) (by omega)
end Go.Proofs.YtkpgciimhjkajaaGreatDoor
/- The law: its parts. -/
namespace Go.Proofs.YtkpgciimhjkajaaGreatDoor
open Go Go.RowKit
theorem run_build_rows {P : Program} (w : World) (T t : TypeId) (n : Nat) (vs : List (List Value)) (hu : P.underlying T = some (.slice t)) (hs : (P.info? t).map (·.size) = some n) (hz : ((P.info? t).bind (·.zero)).isSome = true)
    (hn : 0 < n) (hl : ∀ S ∈ vs, S.length = n) (h0 : 0 < vs.length) (hsm : vs.length * n ≤ 2 ^ 24) (parts : Array (Nat × Value)) (hp : parts.toList = ((vs.map fun S => Value.agg S.toArray).zipIdx 0).map fun x => (x.2, x.1)) :
    (Instr.buildSlice T vs.length parts).run P w = .ok (.slice (some ⟨w.heap.size, 0, none⟩) vs.length vs.length) (w.alloc (.cells vs.flatten.toArray t)) := by
  cases hie : P.info? t with
  | none => simp [hie] at hs
  | some ie =>
    simp only [hie, Option.map_some, Option.some.injEq, Option.bind_some] at hs hz
    obtain ⟨z, hzz⟩ := Option.isSome_iff_exists.1 hz
    subst hs
    refine run_buildSlice w T t vs.length parts _ ie z hu hie hzz (by omega) (by have := Nat.mul_pos h0 hn; omega) ?_
    rw [hp]
    have h := Great.fill_whole hn (vs.map fun S => Value.agg S.toArray) ((Array.range (vs.length * ie.size)).map (z.cells[· % z.cells.size]!)) (fun v hv => by
      obtain ⟨S, hS, rfl⟩ := List.mem_map.1 hv
      show S.toArray.size = _
      rw [List.size_toArray]; exact hl S hS) (by simp)
    rw [h]
    congr 1
    congr 1
    rw [List.flatMap_map, List.flatMap_def]
    congr 1
    simp [Value.cells]
theorem range_flat {w : World} {b n : Nat} : ∀ (vs : List (List Value)) (o : Nat), (∀ S ∈ vs, S.length = n) → (∀ j v, vs.flatten[j]? = some v → w.cell? ⟨b, o + j, none⟩ = some v) → ∀ i, (hi : i < vs.length) → w.rangeAt b (o + i * n) vs[i]
  | [], _, _, _, i, hi => by simp at hi
  | S :: r, o, hl, h, i, hi => by
    have hS := hl S List.mem_cons_self
    cases i with
    | zero =>
      intro j v hj
      rw [Nat.zero_mul, Nat.add_zero]
      refine h j v ?_
      simp only [List.getElem_cons_zero] at hj
      rw [List.flatten_cons, List.getElem?_append_left (List.getElem?_eq_some_iff.1 hj).1]
      exact hj
    | succ i =>
      have ih := range_flat r (o + n) (fun S hS => hl S (List.mem_cons_of_mem _ hS)) (fun j v hj => by
        have := h (n + j) v (by rw [List.flatten_cons, List.getElem?_append_right (by omega), hS]; rw [Nat.add_sub_cancel_left]; exact hj)
        rw [Nat.add_assoc]; exact this) i (by simpa using hi)
      have e : o + (i + 1) * n = o + n + i * n := by rw [Nat.add_mul, Nat.one_mul]; omega
      rw [e]
      simpa using ih
theorem RowAt.flat {w : World} {b n : Nat} {vs : List (List Value)} (h : RowAt w b vs.flatten) (hl : ∀ S ∈ vs, S.length = n) (i : Nat) (hi : i < vs.length) : w.rangeAt b (i * n) vs[i] := by
  have := range_flat (w := w) (b := b) vs 0 hl (fun j v hj => by
    rw [Nat.zero_add, h.2.1 j (List.getElem?_eq_some_iff.1 hj).1]; exact hj) i hi
  rwa [Nat.zero_add] at this
def fN (ok : Bool) (f0 : Int) : Nat := if ok = true then f0.toNat else 0
def fD (ok : Bool) (f0 dp : Int) : List Int := if ok = true then List.replicate (10 * f0.toNat * f0.toNat + 2) dp else []
def fF (ok : Bool) (f0 : Int) : List Int := if ok = true then List.replicate (edgesN f0.toNat).length 0 else []
def eQ (ok : Bool) : Int := if ok = true then 0 else 1
theorem fst_out {ok : Bool} {f0 dp : Int} {e : Ending} {w w' : World} (h : fstPr ok f0 dp e w w') : ∃ dv fv, e = .returned (.tuple #[.agg (cycV (fN ok f0 : Nat) dv fv).toArray, .int .i64 (eQ ok)]) ∧ OwnI w' 0 dv (fD ok f0 dp) ∧ OwnI w' 0 fv (fF ok f0) := by
  cases ok with
  | false => exact ⟨_, _, h.1 rfl, OwnI.nil _ _, OwnI.nil _ _⟩
  | true =>
    obtain ⟨n, dv, fv, rfl, _, he, h1, h2⟩ := h.2 rfl
    refine ⟨dv, fv, ?_, h1.mono (Nat.zero_le _), h2.mono (Nat.zero_le _)⟩
    rw [he]; rfl
def bN (ok : Bool) (n : Nat) : Option (List Int × List Int) → Nat
  | some _ => if ok = true then n else 0
  | none => 0
def bD (ok : Bool) : Option (List Int × List Int) → List Int
  | some p => if ok = true then p.1 else []
  | none => []
def bF (ok : Bool) : Option (List Int × List Int) → List Int
  | some p => if ok = true then p.2 else []
  | none => []
def bQ (ok : Bool) : Option (List Int × List Int) → Int
  | some _ => if ok = true then 0 else 1
  | none => if ok = true then 7 else 1
theorem bg_out {ok : Bool} {n : Nat} {r : Option (List Int × List Int)} {e : Ending} {w w' : World} (h : bgPr ok n r e w w') : ∃ dv fv, e = .returned (.tuple #[stv (bN ok n r) dv fv, .int .i64 (bQ ok r)]) ∧ OwnI w' 0 dv (bD ok r) ∧ OwnI w' 0 fv (bF ok r) := by
  cases ok with
  | false =>
    have he := h.1 rfl
    cases r <;> exact ⟨_, _, he, OwnI.nil _ _, OwnI.nil _ _⟩
  | true =>
    obtain ⟨h1, h2⟩ := h.2 rfl
    cases r with
    | none => exact ⟨_, _, h1 rfl, OwnI.nil _ _, OwnI.nil _ _⟩
    | some p =>
      obtain ⟨dv, fv, he, h3, h4⟩ := h2 p.1 p.2 rfl
      exact ⟨dv, fv, he, h3.mono (Nat.zero_le _), h4.mono (Nat.zero_le _)⟩
theorem bg_out0 {ok : Bool} {n : Nat} {r : Option (List Int × List Int)} {e : Ending} {w' : World} (h : bgP0 ok n r e w') : ∃ dv fv, e = .returned (.tuple #[stv (bN ok n r) dv fv, .int .i64 (bQ ok r)]) ∧ OwnI w' 0 dv (bD ok r) ∧ OwnI w' 0 fv (bF ok r) := by
  cases ok with
  | false =>
    have he := h.1 rfl
    cases r <;> exact ⟨_, _, he, OwnI.nil _ _, OwnI.nil _ _⟩
  | true =>
    obtain ⟨h1, h2⟩ := h.2 rfl
    cases r with
    | none => exact ⟨_, _, h1 rfl, OwnI.nil _ _, OwnI.nil _ _⟩
    | some p =>
      obtain ⟨dv, fv, he, h3, h4⟩ := h2 p.1 p.2 rfl
      exact ⟨dv, fv, he, h3, h4⟩
theorem mod_any (x n : Int) (h1 : 1 ≤ n) (h2 : n ≤ 1000000) (hx : -9223372036854775808 ≤ x ∧ x ≤ 9223372036854775807) (w : World) : Calls Tryz.prog 17 #[.int .i64 x, .int .i64 n] w fun e w' => ∃ y : Int, e = .returned (.int .i64 y) ∧ w' = w := by
  have hn0 : n ≠ 0 := by omega
  have hr : IntKind.i64.wrap (x.tmod n) = x.tmod n := IntWalk.i64_in _ (by
    have a1 := Int.tmod_lt_of_pos x (show 0 < n by omega)
    have a2 : -n < x.tmod n := by
      have h := Int.tmod_lt_of_pos (-x) (show 0 < n by omega)
      rw [Int.neg_tmod] at h; omega
    omega)
  have hb : -n < x.tmod n ∧ x.tmod n < n := by
    have a1 := Int.tmod_lt_of_pos x (show 0 < n by omega)
    have a2 : -n < x.tmod n := by
      have h := Int.tmod_lt_of_pos (-x) (show 0 < n by omega)
      rw [Int.neg_tmod] at h; omega
    omega
  obtain ⟨m, hm⟩ : ∃ m, m = x.tmod n := ⟨_, rfl⟩
  rw [← hm] at hr hb
  by_cases hneg : m < 0
  · have hr2 : IntKind.i64.wrap (m + n) = m + n := IntWalk.i64_in _ (by omega)
    go_enter Tryz.func17, Tryz.ntmps17
    go_upto_region 4 with fail
    rw [← hm]
    clear hm
    go_wp2_with fail
    go_ret
    first | exact ⟨_, rfl, rfl⟩ | exact ⟨⟨_, rfl⟩, rfl⟩
  · go_enter Tryz.func17, Tryz.ntmps17
    go_upto_region 4 with fail
    rw [← hm]
    clear hm
    go_wp2_with fail
    go_ret
    first | exact ⟨_, rfl, rfl⟩ | exact ⟨⟨_, rfl⟩, rfl⟩
set_option maxRecDepth 100000 in
set_option maxHeartbeats 4000000 in
theorem awake_any (w : World) : Calls Tryz.prog 4 #[] w fun e w' => e = .returned (.bool true) ∧ Below w.heap.size w w' := by
  have HT := Lib.hid (ptime_any [.int .i64 1, .int .i64 600, .int .i64 360, .int .i64 0, .int .i64 0, .int .i64 0, .int .i64 1, .int .i64 1, .int .i64 0, .int .i64 1, .int .i64 0, .int .i64 1, .int .i64 1, .int .i64 1, .int .i64 0, .int .i64 0, .int .i64 0, .int .i64 0, .int .i64 0, .int .i64 0, .int .i64 0, .int .i64 0, .int .i64 0, .int .i64 0, .int .i64 0, .int .i64 0, .int .i64 0, .int .i64 0, .int .i64 0, .int .i64 0, .int .i64 0, .int .i64 0, .int .i64 0, .int .i64 0, .int .i64 0, .int .i64 0, .int .i64 0, .int .i64 0, .int .i64 0, .int .i64 0, .int .i64 0, .int .i64 0, .int .i64 0, .int .i64 0, .int .i64 0, .int .i64 0, .int .i64 0, .int .i64 0, .int .i64 0, .int .i64 0, .int .i64 0, .int .i64 0, .int .i64 0, .int .i64 0, .int .i64 0, .int .i64 0] 1 600 360 0 0 0 1 1 0 1 0 1 1 1 0 ⟨rfl, by decide, rfl, rfl, rfl, rfl, rfl, rfl, rfl, rfl, rfl, rfl, rfl, rfl, rfl, rfl, rfl⟩ 3 w)
  rw [show tmV (okS 1 600 360 0 0 0 1 1 0 1 0 1 1 1 0) 600 360 3 = (1320, 0) by decide +kernel] at HT
  go_enter Tryz.func4, Tryz.ntmps4
  go_wp2_with fail
  refine HT.out.mono ?_
  rintro e w1 ⟨rfl, hb⟩
  have HB := Lib.hid hb
  clear hb HT
  go_wp2_with fail
  go_ret
  exact ⟨rfl, HB.out⟩
end Go.Proofs.YtkpgciimhjkajaaGreatDoor
