/- Part 2 of the proof: laws on memory and what functions of the program return. No conditions but those that each theorem names. -/
import Derived.Test.YtkpgciimhjkajaaGreatDoorR01
import Derived.Maps.Own
import Derived.DeepKeys4
import Derived.LoopN
set_option linter.unusedVariables false
set_option linter.unusedSimpArgs false
/- The grids of the frequencies from 1 to 8, in plain words. No program. -/
namespace Go.Proofs.YtkpgciimhjkajaaGreatDoor
def pt (n f i j : Nat) : Pl := ⟨f, ((i * (840 / n) : Nat) : Int), ((j * (840 / n) : Nat) : Int), (((n - i - j) * (840 / n) : Nat) : Int)⟩
def isNm (p : Pl) : Bool := p == norP p
def rowN (n f i : Nat) : List Pl := (List.range (n + 1 - i)).map (pt n f i)
def faceN (n f : Nat) : List Pl := (List.range (n + 1)).flatMap (rowN n f)
def nodesN (n : Nat) : List Pl := (List.range 20).flatMap fun f => (faceN n f).filter isNm
def idxN (l : List Pl) (p : Pl) : Nat := (fnd l (norP p) 10 0 l.length).1
def okPt (l : List Pl) (p : Pl) : Bool := decide (idxN l p < l.length) && (l.getD (idxN l p) ⟨0, 0, 0, 0⟩ == norP p)
def okFace (l : List Pl) (n f : Nat) : Bool := (faceN n f).all (okPt l)
def okNodes (n : Nat) : Bool := (nodesN n).length == 10 * n * n + 2 && (List.range 20).all (okFace (nodesN n) n)
def dif (l : List Pl) : Bool := match l with
  | [] => true
  | p :: r => r.all (fun q => q != p) && dif r
def okDif (n : Nat) : Bool := (List.range 20).all fun f => dif ((faceN n f).map norP)
theorem ok_n1 : okNodes 1 = true := by decide +kernel
theorem ok_n2 : okNodes 2 = true := by decide +kernel
theorem ok_n3 : okNodes 3 = true := by decide +kernel
theorem ok_n4 : okNodes 4 = true := by decide +kernel
theorem ok_n5 : okNodes 5 = true := by decide +kernel
theorem ok_n6 : okNodes 6 = true := by decide +kernel
theorem ok_n7 : okNodes 7 = true := by decide +kernel
theorem ok_n8 : okNodes 8 = true := by decide +kernel
theorem ok_d1 : okDif 1 = true := by decide +kernel
theorem ok_d2 : okDif 2 = true := by decide +kernel
theorem ok_d3 : okDif 3 = true := by decide +kernel
theorem ok_d4 : okDif 4 = true := by decide +kernel
theorem ok_d5 : okDif 5 = true := by decide +kernel
theorem ok_d6 : okDif 6 = true := by decide +kernel
theorem ok_d7 : okDif 7 = true := by decide +kernel
theorem ok_d8 : okDif 8 = true := by decide +kernel
def Fq (n : Nat) : Prop := 1 ≤ n ∧ n ≤ 8
theorem Fq.cases {n : Nat} (h : Fq n) : n = 1 ∨ n = 2 ∨ n = 3 ∨ n = 4 ∨ n = 5 ∨ n = 6 ∨ n = 7 ∨ n = 8 := by unfold Fq at h; omega
theorem ok_nodes {n : Nat} (h : Fq n) : okNodes n = true := by
  rcases h.cases with rfl | rfl | rfl | rfl | rfl | rfl | rfl | rfl
  · exact ok_n1
  · exact ok_n2
  · exact ok_n3
  · exact ok_n4
  · exact ok_n5
  · exact ok_n6
  · exact ok_n7
  · exact ok_n8
theorem ok_dif {n : Nat} (h : Fq n) : okDif n = true := by
  rcases h.cases with rfl | rfl | rfl | rfl | rfl | rfl | rfl | rfl
  · exact ok_d1
  · exact ok_d2
  · exact ok_d3
  · exact ok_d4
  · exact ok_d5
  · exact ok_d6
  · exact ok_d7
  · exact ok_d8
theorem Fq.unit {n : Nat} (h : Fq n) : n * (840 / n) = 840 := by
  rcases h.cases with rfl | rfl | rfl | rfl | rfl | rfl | rfl | rfl <;> rfl
theorem nodesN_length {n : Nat} (h : Fq n) : (nodesN n).length = 10 * n * n + 2 := by
  have := ok_nodes h
  simp only [okNodes, Bool.and_eq_true, beq_iff_eq] at this
  exact this.1
theorem pt_mem {n f i j : Nat} (hi : i ≤ n) (hj : i + j ≤ n) : pt n f i j ∈ faceN n f := by
  unfold faceN rowN
  exact List.mem_flatMap.2 ⟨i, List.mem_range.2 (by omega), List.mem_map.2 ⟨j, List.mem_range.2 (by omega), rfl⟩⟩
theorem idxN_ok {n f i j : Nat} (h : Fq n) (hf : f < 20) (hj : i + j ≤ n) : idxN (nodesN n) (pt n f i j) < (nodesN n).length ∧ (nodesN n).getD (idxN (nodesN n) (pt n f i j)) ⟨0, 0, 0, 0⟩ = norP (pt n f i j) := by
  have h1 := ok_nodes h
  simp only [okNodes, Bool.and_eq_true, List.all_eq_true] at h1
  have h2 := h1.2 f (List.mem_range.2 hf)
  unfold okFace at h2
  have h3 := List.all_eq_true.1 h2 _ (pt_mem (f := f) (show i ≤ n by omega) hj)
  simp only [okPt, Bool.and_eq_true, decide_eq_true_eq, beq_iff_eq] at h3
  exact h3
theorem dif_inj : ∀ (l : List Pl), dif l = true → ∀ (a b : Nat) (ha : a < l.length) (hb : b < l.length), l[a] = l[b] → a = b
  | [], _, a, _, ha, _, _ => by simp at ha
  | p :: r, h, a, b, ha, hb, e => by
    simp only [dif, Bool.and_eq_true, List.all_eq_true, bne_iff_ne] at h
    rcases a with _ | a <;> rcases b with _ | b
    · rfl
    · exact absurd e.symm (h.1 _ (List.getElem_mem _))
    · exact absurd e (h.1 _ (List.getElem_mem _))
    · simp only [List.getElem_cons_succ] at e
      rw [dif_inj r h.2 a b (by simpa using ha) (by simpa using hb) e]
theorem dif_ne {l : List Pl} {g : Pl → Pl} (h : dif (l.map g) = true) {p q : Pl} (hp : p ∈ l) (hq : q ∈ l) (e : g p = g q) : p = q := by
  obtain ⟨a, ha, rfl⟩ := List.getElem_of_mem hp
  obtain ⟨b, hb, rfl⟩ := List.getElem_of_mem hq
  have := dif_inj _ h a b (by simpa using ha) (by simpa using hb) (by simpa using e)
  subst this; rfl
theorem pt_inj {n f i j k m : Nat} (h : Fq n) (e : pt n f i j = pt n f k m) : i = k ∧ j = m := by
  have hd : 0 < 840 / n := by rcases h.cases with rfl | rfl | rfl | rfl | rfl | rfl | rfl | rfl <;> decide
  simp only [pt, Pl.mk.injEq] at e
  obtain ⟨_, e1, e2, _⟩ := e
  exact ⟨Nat.eq_of_mul_eq_mul_right hd (by exact_mod_cast e1), Nat.eq_of_mul_eq_mul_right hd (by exact_mod_cast e2)⟩
theorem idxN_ne {n f i j k m : Nat} (h : Fq n) (hf : f < 20) (hj : i + j ≤ n) (hm : k + m ≤ n) (hne : ¬ (i = k ∧ j = m)) : idxN (nodesN n) (pt n f i j) ≠ idxN (nodesN n) (pt n f k m) := by
  intro e
  have h1 := (idxN_ok h hf hj).2
  have h2 := (idxN_ok h hf hm).2
  rw [e, h2] at h1
  have h3 := ok_dif h
  simp only [okDif, List.all_eq_true] at h3
  exact hne (pt_inj h (dif_ne (h3 f (List.mem_range.2 hf)) (pt_mem (by omega) hj) (pt_mem (by omega) hm) h1.symm))
end Go.Proofs.YtkpgciimhjkajaaGreatDoor
/- The nodes in the middle of a face, and the nodes on the first faces and rows. No program. -/
namespace Go.Proofs.YtkpgciimhjkajaaGreatDoor
def okIn (n : Nat) : Bool := (List.range 20).all fun f => (faceN n f).all fun p => p.a == 0 || p.b == 0 || p.c == 0 || norP p == p
theorem ok_i1 : okIn 1 = true := by decide +kernel
theorem ok_i2 : okIn 2 = true := by decide +kernel
theorem ok_i3 : okIn 3 = true := by decide +kernel
theorem ok_i4 : okIn 4 = true := by decide +kernel
theorem ok_i5 : okIn 5 = true := by decide +kernel
theorem ok_i6 : okIn 6 = true := by decide +kernel
theorem ok_i7 : okIn 7 = true := by decide +kernel
theorem ok_i8 : okIn 8 = true := by decide +kernel
theorem ok_in {n : Nat} (h : Fq n) : okIn n = true := by
  rcases h.cases with rfl | rfl | rfl | rfl | rfl | rfl | rfl | rfl
  · exact ok_i1
  · exact ok_i2
  · exact ok_i3
  · exact ok_i4
  · exact ok_i5
  · exact ok_i6
  · exact ok_i7
  · exact ok_i8
theorem Fq.pos {n : Nat} (h : Fq n) : 0 < 840 / n := by rcases h.cases with rfl | rfl | rfl | rfl | rfl | rfl | rfl | rfl <;> decide
theorem Fq.rest {n i j : Nat} (h : Fq n) (hj : i + j ≤ n) : i * (840 / n) + j * (840 / n) + (n - i - j) * (840 / n) = 840 := by
  rw [← Nat.add_mul, ← Nat.add_mul, show i + j + (n - i - j) = n by omega]; exact h.unit
theorem pt_ok {n f i j : Nat} (h : Fq n) (hf : f < 20) (hj : i + j ≤ n) : 0 ≤ (pt n f i j).f ∧ (pt n f i j).f < 20 ∧ 0 ≤ (pt n f i j).a ∧ 0 ≤ (pt n f i j).b ∧ 0 ≤ (pt n f i j).c ∧ (pt n f i j).a + (pt n f i j).b + (pt n f i j).c = 840 := by
  have := h.rest hj
  refine ⟨Int.natCast_nonneg _, by show (f : Int) < 20; omega, Int.natCast_nonneg _, Int.natCast_nonneg _, Int.natCast_nonneg _, ?_⟩
  show ((i * (840 / n) : Nat) : Int) + ((j * (840 / n) : Nat) : Int) + (((n - i - j) * (840 / n) : Nat) : Int) = 840
  omega
theorem in_norm {n f i j : Nat} (h : Fq n) (hf : f < 20) (hj : i + j ≤ n) (ha : 0 < (pt n f i j).a) (hb : 0 < (pt n f i j).b) (hc : 0 < (pt n f i j).c) : isNm (pt n f i j) = true := by
  have h1 := ok_in h
  simp only [okIn, List.all_eq_true] at h1
  have h2 := h1 f (List.mem_range.2 hf) _ (pt_mem (f := f) (show i ≤ n by omega) hj)
  simp only [Bool.or_eq_true, beq_iff_eq] at h2
  unfold isNm
  rcases h2 with ((h2 | h2) | h2) | h2
  · omega
  · omega
  · omega
  · rw [h2]; exact beq_self_eq_true _
def ndTo (n k i j : Nat) : List Pl := ((List.range k).flatMap fun f => (faceN n f).filter isNm) ++ (((List.range i).flatMap (rowN n k)).filter isNm ++ ((List.range j).map (pt n k i)).filter isNm)
theorem ndTo_step (n k i j : Nat) : ndTo n k i (j + 1) = ndTo n k i j ++ if isNm (pt n k i j) = true then [pt n k i j] else [] := by
  unfold ndTo
  rw [List.range_succ, List.map_append, List.filter_append, List.append_assoc, List.append_assoc]
  simp [List.filter_cons]
theorem ndTo_row {n k i j : Nat} (hj : j = n + 1 - i) : ndTo n k i j = ndTo n k (i + 1) 0 := by
  subst hj
  unfold ndTo
  rw [List.range_succ, List.flatMap_append, List.filter_append]
  simp [rowN]
theorem ndTo_face {n k i : Nat} (hi : i = n + 1) : ndTo n k i 0 = ndTo n (k + 1) 0 0 := by
  subst hi
  have e : List.range (k + 1) = List.range k ++ [k] := List.range_succ
  unfold ndTo
  rw [e, List.flatMap_append]
  simp only [faceN, List.range_zero, List.map_nil, List.filter_nil, List.append_nil, List.flatMap_nil, List.flatMap_cons]
theorem ndTo_end (n : Nat) : ndTo n 20 0 0 = nodesN n := by simp [ndTo, nodesN]
theorem ndTo_len {n k i j : Nat} (hn : n ≤ 8) (hk : k ≤ 20) (hi : i ≤ n + 1) (hj : j ≤ n + 1) : (ndTo n k i j).length ≤ 2000 := by
  have h1 : ∀ k i, i ≤ 9 → ((List.range i).flatMap (rowN n k)).length ≤ 9 * i := by
    intro k i
    induction i with
    | zero => intro _; simp
    | succ i ih => intro hi; rw [List.range_succ, List.flatMap_append, List.length_append]; have := ih (by omega); simp [rowN] at this ⊢; omega
  have h2 : ∀ k, ((List.range k).flatMap fun f => (faceN n f).filter isNm).length ≤ 81 * k := by
    intro k
    induction k with
    | zero => simp
    | succ k ih =>
      rw [List.range_succ, List.flatMap_append, List.length_append]
      have h3 : ((faceN n k).filter isNm).length ≤ (faceN n k).length := List.length_filter_le _ _
      have h4 := h1 k (n + 1) (by omega)
      have h5 : (faceN n k).length ≤ 81 := by unfold faceN; omega
      simp only [List.flatMap_cons, List.flatMap_nil, List.append_nil]
      omega
  have h3 := h2 k
  have h4 := h1 k i (by omega)
  have h5 : (((List.range i).flatMap (rowN n k)).filter isNm).length ≤ ((List.range i).flatMap (rowN n k)).length := List.length_filter_le _ _
  have h6 : (((List.range j).map (pt n k i)).filter isNm).length ≤ j := by have := List.length_filter_le isNm ((List.range j).map (pt n k i)); simpa using this
  unfold ndTo
  rw [List.length_append, List.length_append]
  omega
end Go.Proofs.YtkpgciimhjkajaaGreatDoor
/- Gates: an arm of a walk is tried at its own operation alone. No program. -/
namespace Go.Proofs.YtkpgciimhjkajaaGreatDoor
open Go Go.RowKit
theorem gate_st {P : Program} {ops : Array Oper} {Q : Exit → Act → World → Prop} {d : Option Tmp} {T : TypeId} {x y : Operand} {ty : TypeId} {ps : String} {af : Array Edge} {g : Option (Nat × Bool)} {rest : List Oper} {a : Act} {w : World} (h : wpList P ops Q (⟨d, .store T x y, ty, ps, af, g⟩ :: rest) a w) : wpList P ops Q (⟨d, .store T x y, ty, ps, af, g⟩ :: rest) a w := h
theorem gate_stw {P : Program} {K : Act → World → Prop} {Q : Exit → Act → World → Prop} {d : Option Tmp} {T : TypeId} {x y : Operand} {ty : TypeId} {ps : String} {af : Array Edge} {g : Option (Nat × Bool)} {a : Act} {w : World} (h : Oper.wp P ⟨d, .store T x y, ty, ps, af, g⟩ a w K Q) : Oper.wp P ⟨d, .store T x y, ty, ps, af, g⟩ a w K Q := h
theorem gate_ld {P : Program} {ops : Array Oper} {Q : Exit → Act → World → Prop} {d : Option Tmp} {T : TypeId} {x : Operand} {ty : TypeId} {ps : String} {af : Array Edge} {g : Option (Nat × Bool)} {rest : List Oper} {a : Act} {w : World} (h : wpList P ops Q (⟨d, .load T x, ty, ps, af, g⟩ :: rest) a w) : wpList P ops Q (⟨d, .load T x, ty, ps, af, g⟩ :: rest) a w := h
theorem gate_ldw {P : Program} {K : Act → World → Prop} {Q : Exit → Act → World → Prop} {d : Option Tmp} {T : TypeId} {x : Operand} {ty : TypeId} {ps : String} {af : Array Edge} {g : Option (Nat × Bool)} {a : Act} {w : World} (h : Oper.wp P ⟨d, .load T x, ty, ps, af, g⟩ a w K Q) : Oper.wp P ⟨d, .load T x, ty, ps, af, g⟩ a w K Q := h
end Go.Proofs.YtkpgciimhjkajaaGreatDoor
/- The reference's nodes of a grid of any frequency. No conditions but those that each theorem names. -/
namespace Go.Proofs.YtkpgciimhjkajaaGreatDoor
open Go Go.RowKit
theorem pt_Ok {n f i j : Nat} (h : Fq n) (hf : f < 20) (hj : i + j ≤ n) : (pt n f i j).Ok := by
  obtain ⟨h1, h2, h3, h4, h5, h6⟩ := pt_ok h hf hj
  unfold Pl.Ok
  omega
theorem mem_nodesN {n : Nat} {p : Pl} (h : p ∈ nodesN n) : ∃ f i j, f < 20 ∧ i + j ≤ n ∧ p = pt n f i j ∧ norP p = p := by
  unfold nodesN at h
  obtain ⟨f, hf, h⟩ := List.mem_flatMap.1 h
  obtain ⟨h1, h2⟩ := List.mem_filter.1 h
  unfold faceN rowN at h1
  obtain ⟨i, hi, h1⟩ := List.mem_flatMap.1 h1
  obtain ⟨j, hj, rfl⟩ := List.mem_map.1 h1
  rw [List.mem_range] at hf hi hj
  exact ⟨f, i, j, hf, by omega, rfl, by unfold isNm at h2; exact (beq_iff_eq.1 h2).symm⟩
theorem getD_mem {α : Type} {l : List α} {i : Nat} {d : α} (h : i < l.length) : l.getD i d ∈ l := by
  rw [List.getD_eq_getElem?_getD, List.getElem?_eq_getElem h]; exact List.getElem_mem h
theorem pt_adr {n f i j : Nat} (h : Fq n) (hf : f < 20) (hj : i + j ≤ n) : AdrOk (pt n f i j) := by
  refine ⟨pt_Ok h hf hj, fun e => ?_⟩
  obtain ⟨h1, h2⟩ := idxN_ok h hf hj
  have h3 : norP (pt n f i j) = ⟨0, 0, 0, 0⟩ := by unfold norP; rw [e]; rfl
  rw [h3] at h2
  have h4 := getD_mem (d := (⟨0, 0, 0, 0⟩ : Pl)) h1
  rw [h2] at h4
  obtain ⟨g, a, b, hg, hab, e2, _⟩ := mem_nodesN h4
  have h5 := pt_ok h hg hab
  rw [← e2] at h5
  have h6 := h5.2.2.2.2.2
  simp at h6
theorem count_n (n : Nat) (h : Fq n) (w : World) : Calls Tryz.prog 43 #[.int .i64 n] w fun e w' => e = .returned (.int .i64 ((10 * n * n + 2 : Nat) : Int)) ∧ w = w' := by
  rcases h.cases with rfl | rfl | rfl | rfl | rfl | rfl | rfl | rfl <;>
  (go_enter Tryz.func43, Tryz.ntmps43
   go_wp2_with fail
   go_ret
   exact ⟨rfl, rfl⟩)
structure NdT (w : World) (n k i j : Nat) (v : Value) (wr : World) : Prop where
  own : OwnP wr w.heap.size v (ndTo n k i j)
  below : Below w.heap.size w wr
def MulV (h j : Nat) (v : Value) : Prop := v = .int .i64 ((j * h : Nat) : Int)
theorem mul_le_840 {n h i : Nat} (e : n * h = 840) (h0 : 0 < h) : i * h ≤ 840 ↔ i ≤ n := by
  rw [← e]; exact ⟨fun a => Nat.le_of_mul_le_mul_right a h0, fun a => Nat.mul_le_mul_right _ a⟩
theorem add_le_840 {n h i j : Nat} (e : n * h = 840) (h0 : 0 < h) : i * h + j * h ≤ 840 ↔ i + j ≤ n := by
  rw [← Nat.add_mul]; exact mul_le_840 e h0
set_option maxHeartbeats 16000000 in
set_option maxRecDepth 100000 in
theorem nodes_n (n : Nat) (hn : Fq n) (w : World) :
    Calls Tryz.prog 78 #[.int .i64 n] w fun e w' => ∃ v, e = .returned (.tuple #[v, .int .i64 0]) ∧ OwnP w' w.heap.size v (nodesN n) ∧ Below w.heap.size w w' := by
  have HC := Lib.hid (fun w' => count_n n hn w')
  have HF := Lib.hid hn
  have hn8 : 1 ≤ n ∧ n ≤ 8 := hn
  have hN2 : Hid (((10 * n * n + 2 : Nat) : Int) ≠ 0) := by unfold Hid; omega
  obtain ⟨N2, hNe⟩ : ∃ N2 : Int, N2 = ((10 * n * n + 2 : Nat) : Int) := ⟨_, rfl⟩
  rw [← hNe] at HC hN2
  obtain ⟨h, hh⟩ : ∃ h, h = 840 / n := ⟨_, rfl⟩
  have hq0 : (840 : Int) / (n : Int) = (h : Int) := by rw [hh]; rfl
  have HU : Hid (n * h = 840 ∧ 0 < h) := by rw [hh]; exact ⟨hn.unit, hn.pos⟩
  have hh1 : 1 ≤ h ∧ h ≤ 840 := by rw [hh]; exact ⟨hn.pos, by have := Nat.div_le_self 840 n; omega⟩
  have HPt : Hid (∀ k i j, i + j ≤ n → pt n k i j = ⟨(k : Int), ((i * h : Nat) : Int), ((j * h : Nat) : Int), 840 - ((i * h : Nat) : Int) - ((j * h : Nat) : Int)⟩) := by
    intro k i j hij
    have := hn.rest hij
    rw [← hh] at this
    unfold pt
    rw [← hh]
    congr 1
    omega
  clear hh hNe hn
  go_enter Tryz.func78, Tryz.ntmps78
  go_wp2_with fail
  refine (HC.out _).mono ?_
  rintro e w1 ⟨rfl, rfl⟩
  have hN3 := hN2.out
  have hN0 : (N2 == 0) = false := by simpa using hN3
  go_wp2_with fail
  simp only [hq0]
  go_loopw [5, 6] (fun lv kv wr => ∃ (k : Nat) (ov : Value), ov = lv ∧ kv = .int .i64 k ∧ k ≤ 20 ∧ Hid (NdT w n k 0 0 ov wr)) (fun _ kv _ => (20 - intOf kv).toNat)
  case atStart => exact ⟨0, _, rfl, rfl, by omega, OwnP.nil _ _, Below.refl _ _⟩
  case round =>
    obtain ⟨k, ov, rfl, rfl, hk, hs⟩ := hrel
    by_cases hlt : k < 20
    · have k0 : (k : Int) < 20 := by omega
      obtain ⟨wout, rfl⟩ : ∃ wout : World, wout = wr := ⟨_, rfl⟩
      go_wp2_with fail
      go_loopw [5, 7] (fun lv av wr => ∃ (i : Nat) (ov : Value), ov = lv ∧ MulV h i av ∧ i ≤ n + 1 ∧ Hid (NdT w n k i 0 ov wr)) (fun _ av _ => (3000 - intOf av).toNat)
      case atStart => exact ⟨0, _, rfl, by simp [MulV], by omega, hs⟩
      case round =>
        clear hs
        obtain ⟨i, ov, rfl, hav, hi, hs⟩ := hrel
        unfold MulV at hav
        subst hav
        obtain ⟨wout2, rfl⟩ : ∃ wout2 : World, wout2 = wr := ⟨_, rfl⟩
        have HA : Hid ((i * h ≤ 840 ↔ i ≤ n) ∧ (i + 1) * h = i * h + h) := ⟨mul_le_840 HU.out.1 HU.out.2, Nat.succ_mul _ _⟩
        obtain ⟨A, hA⟩ : ∃ A, A = i * h := ⟨_, rfl⟩
        rw [← hA] at HA ⊢
        have HAe := Lib.hid hA
        clear hA
        by_cases hin : i ≤ n
        · have hA8 : A ≤ 840 := HA.out.1.2 hin
          have hA9 : (A : Int) ≤ 840 := by omega
          go_wp2_with fail
          go_loopw [5, 8] (fun lv bv wr => ∃ (j : Nat) (ov : Value), ov = lv ∧ MulV h j bv ∧ j ≤ n + 1 - i ∧ Hid (NdT w n k i j ov wr)) (fun _ bv _ => (3000 - intOf bv).toNat)
          case atStart => exact ⟨0, _, rfl, by simp [MulV], by omega, hs⟩
          case round =>
            clear hs
            obtain ⟨j, ov, rfl, hbv, hj, hs⟩ := hrel
            unfold MulV at hbv
            subst hbv
            have HB : Hid ((A + j * h ≤ 840 ↔ i + j ≤ n) ∧ (j + 1) * h = j * h + h ∧ pt n k i j = pt n k i j) := ⟨by rw [HAe.out]; exact add_le_840 HU.out.1 HU.out.2, Nat.succ_mul _ _, rfl⟩
            by_cases hjn : i + j ≤ n
            · have HP0 := Lib.hid (HPt.out k i j hjn)
              rw [← HAe.out] at HP0
              obtain ⟨B, hB⟩ : ∃ B, B = j * h := ⟨_, rfl⟩
              rw [← hB] at HB HP0 ⊢
              have hB8 : A + B ≤ 840 := HB.out.1.2 hjn
              have hB9 : (A : Int) + (B : Int) ≤ 840 := by omega
              obtain ⟨q, hq⟩ : ∃ q, q = isNm (pt n k i j) := ⟨_, rfl⟩
              have HN := Lib.hid (fun w' => isNormal_any k A B (840 - (A : Int) - (B : Int)) (HP0.out ▸ pt_adr HF.out hlt hjn) q (by rw [hq, HP0.out]; rfl) w')
              have HQ : Hid (0 < (A : Int) → 0 < (B : Int) → 0 < 840 - (A : Int) - (B : Int) → q = true) := by
                intro a b c
                rw [hq]; exact in_norm HF.out hlt hjn (by rw [HP0.out]; exact a) (by rw [HP0.out]; exact b) (by rw [HP0.out]; exact c)
              unfold Pl.val at HN
              simp only at HN
              have HAd : Hid (ndTo n k i (j + 1) = ndTo n k i j ++ if q = true then [⟨(k : Int), (A : Int), (B : Int), 840 - (A : Int) - (B : Int)⟩] else []) := by unfold Hid; rw [hq, ← HP0.out]; exact ndTo_step n k i j
              have HLn : Hid ((ndTo n k i j).length ≤ 2000) := ndTo_len hn8.2 (by omega) (by omega) (by omega)
              have HP : Hid (RowAt (wr.alloc (.cells #[.int .i64 (k : Int), .int .i64 (A : Int), .int .i64 (B : Int), .int .i64 (840 - (A : Int) - (B : Int))] 122)) wr.heap.size (Pl.cells ⟨k, A, B, 840 - (A : Int) - (B : Int)⟩)) := RowAt.new _ (Pl.cells ⟨k, A, B, 840 - (A : Int) - (B : Int)⟩) (by simp [Pl.cells]) _ rfl
              have HS1 : Hid (NdT w n k i j ov (wr.alloc (.cells #[.int .i64 (k : Int), .int .i64 (A : Int), .int .i64 (B : Int), .int .i64 (840 - (A : Int) - (B : Int))] 122))) := ⟨hs.out.own.below ((Below.refl _ _).alloc (Nat.le_refl _) _), hs.out.below.alloc hs.out.below.size _⟩
              simp only [Pl.cells] at HP
              have HR : Hid (∀ x : Int, x = 840 - (A : Int) - (B : Int) → x = 840 - (A : Int) - (B : Int)) := fun _ e => e
              clear hs hq HP0
              have HB3 : Hid (((((j + 1) * h : Nat) : Int)) = (B : Int) + (h : Int)) := by unfold Hid; have := HB.out.2.1; omega
              clear hB
              go_upto_region 15 with fail
              obtain ⟨wn, hwn⟩ : ∃ wn, wn = wr.alloc (.cells #[.int .i64 (k : Int), .int .i64 (A : Int), .int .i64 (B : Int), .int .i64 (840 - (A : Int) - (B : Int))] 122) := ⟨_, rfl⟩
              rw [← hwn] at HP HS1 ⊢
              clear hwn
              have c0 := HP.out.at 0 rfl
              have c1 := HP.out.at 1 rfl
              have c2 := HP.out.at 2 rfl
              have c3 := HP.out.at 3 rfl
              by_cases hA0 : 0 < (A : Int)
              · by_cases hB0 : 0 < (B : Int)
                · by_cases hC0 : 0 < 840 - (A : Int) - (B : Int)
                  · have hqt := HQ.out hA0 hB0 hC0
                    subst hqt
                    have HAp : Hid (∃ (v' : Value) (w' : World), (Builtin.append_ #[140, 140] 140 #[ov, .slice (some ⟨wn.heap.size, 0, none⟩) 1 1]).run Tryz.prog (wn.alloc (.cells #[.int .i64 (k : Int), .int .i64 (A : Int), .int .i64 (B : Int), .int .i64 (840 - (A : Int) - (B : Int))] 122)) = .ok v' w' ∧
                        NdT w n k i (j + 1) v' w') := by
                      obtain ⟨v', w', a1, a2, a3⟩ := append_pl HS1.out.own ⟨k, A, B, 840 - (A : Int) - (B : Int)⟩ (by have := HLn.out; omega) HS1.out.below.size 140
                      exact ⟨v', w', a1, by rw [HAd.out]; exact a2, HS1.out.below.trans a3⟩
                    go_wp2_with (first
                      | ((first | with_reducible refine gate_ld ?_ | with_reducible refine gate_ldw ?_); refine row_load rfl _ rfl _ rfl _ HP.out rowT_p ?_)
                      | (at_builtin; obtain ⟨v', w', hrun, hs'⟩ := HAp.out; have Hrun := Lib.hid hrun; have Hs' := Lib.hid hs'; clear hrun hs'; refine wpList_append_run rfl _ _ _ rfl _ _ _ _ rfl rfl Hrun.out ?_))
                    go_roundw
                    case rel => exact ⟨j + 1, v', rfl, by unfold MulV; rw [HB3.out], by omega, Hs'.out⟩
                    case measure => simp [intOf]; omega
                  · go_wp2_with (refine row_load_w rfl _ rfl _ rfl _ HP.out rowT_p ?_)
                    refine (HN.out _).mono ?_
                    rintro e w6 ⟨rfl, hb6⟩
                    have HS6 : Hid (NdT w n k i j ov w6) := ⟨HS1.out.own.below hb6, below_then HS1.out.below hb6⟩
                    have HP6 := Lib.hid (HP.out.below hb6)
                    clear hb6 HS1 HP
                    cases q
                    · go_wp2_with fail
                      go_roundw
                      case rel => exact ⟨j + 1, ov, rfl, by unfold MulV; rw [HB3.out], by omega, ⟨by rw [HAd.out]; simpa using HS6.out.own, HS6.out.below⟩⟩
                      case measure => simp [intOf]; omega
                    · have HAp : Hid (∃ (v' : Value) (w' : World), (Builtin.append_ #[140, 140] 140 #[ov, .slice (some ⟨w6.heap.size, 0, none⟩) 1 1]).run Tryz.prog (w6.alloc (.cells #[.int .i64 (k : Int), .int .i64 (A : Int), .int .i64 (B : Int), .int .i64 (840 - (A : Int) - (B : Int))] 122)) = .ok v' w' ∧
                          NdT w n k i (j + 1) v' w') := by
                        obtain ⟨v', w', a1, a2, a3⟩ := append_pl HS6.out.own ⟨k, A, B, 840 - (A : Int) - (B : Int)⟩ (by have := HLn.out; omega) HS6.out.below.size 140
                        exact ⟨v', w', a1, by rw [HAd.out]; exact a2, HS6.out.below.trans a3⟩
                      go_wp2_with (first
                        | ((first | with_reducible refine gate_ld ?_ | with_reducible refine gate_ldw ?_); refine row_load rfl _ rfl _ rfl _ HP6.out rowT_p ?_)
                        | (at_builtin; obtain ⟨v', w', hrun, hs'⟩ := HAp.out; have Hrun := Lib.hid hrun; have Hs' := Lib.hid hs'; clear hrun hs'; refine wpList_append_run rfl _ _ _ rfl _ _ _ _ rfl rfl Hrun.out ?_))
                      go_roundw
                      case rel => exact ⟨j + 1, v', rfl, by unfold MulV; rw [HB3.out], by omega, Hs'.out⟩
                      case measure => simp [intOf]; omega
                · go_wp2_with (refine row_load_w rfl _ rfl _ rfl _ HP.out rowT_p ?_)
                  refine (HN.out _).mono ?_
                  rintro e w6 ⟨rfl, hb6⟩
                  have HS6 : Hid (NdT w n k i j ov w6) := ⟨HS1.out.own.below hb6, below_then HS1.out.below hb6⟩
                  have HP6 := Lib.hid (HP.out.below hb6)
                  clear hb6 HS1 HP
                  cases q
                  · go_wp2_with fail
                    go_roundw
                    case rel => exact ⟨j + 1, ov, rfl, by unfold MulV; rw [HB3.out], by omega, ⟨by rw [HAd.out]; simpa using HS6.out.own, HS6.out.below⟩⟩
                    case measure => simp [intOf]; omega
                  · have HAp : Hid (∃ (v' : Value) (w' : World), (Builtin.append_ #[140, 140] 140 #[ov, .slice (some ⟨w6.heap.size, 0, none⟩) 1 1]).run Tryz.prog (w6.alloc (.cells #[.int .i64 (k : Int), .int .i64 (A : Int), .int .i64 (B : Int), .int .i64 (840 - (A : Int) - (B : Int))] 122)) = .ok v' w' ∧
                        NdT w n k i (j + 1) v' w') := by
                      obtain ⟨v', w', a1, a2, a3⟩ := append_pl HS6.out.own ⟨k, A, B, 840 - (A : Int) - (B : Int)⟩ (by have := HLn.out; omega) HS6.out.below.size 140
                      exact ⟨v', w', a1, by rw [HAd.out]; exact a2, HS6.out.below.trans a3⟩
                    go_wp2_with (first
                      | ((first | with_reducible refine gate_ld ?_ | with_reducible refine gate_ldw ?_); refine row_load rfl _ rfl _ rfl _ HP6.out rowT_p ?_)
                      | (at_builtin; obtain ⟨v', w', hrun, hs'⟩ := HAp.out; have Hrun := Lib.hid hrun; have Hs' := Lib.hid hs'; clear hrun hs'; refine wpList_append_run rfl _ _ _ rfl _ _ _ _ rfl rfl Hrun.out ?_))
                    go_roundw
                    case rel => exact ⟨j + 1, v', rfl, by unfold MulV; rw [HB3.out], by omega, Hs'.out⟩
                    case measure => simp [intOf]; omega
              · go_wp2_with (refine row_load_w rfl _ rfl _ rfl _ HP.out rowT_p ?_)
                refine (HN.out _).mono ?_
                rintro e w6 ⟨rfl, hb6⟩
                have HS6 : Hid (NdT w n k i j ov w6) := ⟨HS1.out.own.below hb6, below_then HS1.out.below hb6⟩
                have HP6 := Lib.hid (HP.out.below hb6)
                clear hb6 HS1 HP
                cases q
                · go_wp2_with fail
                  go_roundw
                  case rel => exact ⟨j + 1, ov, rfl, by unfold MulV; rw [HB3.out], by omega, ⟨by rw [HAd.out]; simpa using HS6.out.own, HS6.out.below⟩⟩
                  case measure => simp [intOf]; omega
                · have HAp : Hid (∃ (v' : Value) (w' : World), (Builtin.append_ #[140, 140] 140 #[ov, .slice (some ⟨w6.heap.size, 0, none⟩) 1 1]).run Tryz.prog (w6.alloc (.cells #[.int .i64 (k : Int), .int .i64 (A : Int), .int .i64 (B : Int), .int .i64 (840 - (A : Int) - (B : Int))] 122)) = .ok v' w' ∧
                      NdT w n k i (j + 1) v' w') := by
                    obtain ⟨v', w', a1, a2, a3⟩ := append_pl HS6.out.own ⟨k, A, B, 840 - (A : Int) - (B : Int)⟩ (by have := HLn.out; omega) HS6.out.below.size 140
                    exact ⟨v', w', a1, by rw [HAd.out]; exact a2, HS6.out.below.trans a3⟩
                  go_wp2_with (first
                    | ((first | with_reducible refine gate_ld ?_ | with_reducible refine gate_ldw ?_); refine row_load rfl _ rfl _ rfl _ HP6.out rowT_p ?_)
                    | (at_builtin; obtain ⟨v', w', hrun, hs'⟩ := HAp.out; have Hrun := Lib.hid hrun; have Hs' := Lib.hid hs'; clear hrun hs'; refine wpList_append_run rfl _ _ _ rfl _ _ _ _ rfl rfl Hrun.out ?_))
                  go_roundw
                  case rel => exact ⟨j + 1, v', rfl, by unfold MulV; rw [HB3.out], by omega, Hs'.out⟩
                  case measure => simp [intOf]; omega
            · have hgt : ¬ (A : Int) + ((j * h : Nat) : Int) ≤ 840 := by have := HB.out.1; omega
              generalize hjh : ((j * h : Nat) : Int) = B at hgt ⊢
              have hB7 : 0 ≤ B ∧ B ≤ 2000 := by
                have h7 : j ≤ n + 1 := by omega
                have h8 : j * h ≤ (n + 1) * h := Nat.mul_le_mul_right _ h7
                have h9 : (n + 1) * h = n * h + h := Nat.succ_mul _ _
                have h10 := HU.out.1
                omega
              go_wp2_with fail
              go_roundw
              case rel => exact ⟨i + 1, ov, rfl, by have := HA.out.2; unfold MulV; congr 1; omega, by omega, ⟨by rw [← ndTo_row (n := n) (k := k) (i := i) (j := j) (by omega)]; exact hs.out.own, hs.out.below⟩⟩
              case measure => simp [intOf]; omega
        · have hgt : ¬ (A : Int) ≤ 840 := by have := HA.out.1; omega
          have hA7 : A ≤ 2000 := by
            have h8 : i * h ≤ (n + 1) * h := Nat.mul_le_mul_right _ hi
            have h9 : (n + 1) * h = n * h + h := Nat.succ_mul _ _
            have h10 := HU.out.1
            have h11 := HAe.out
            omega
          go_wp2_with fail
          go_roundw
          case rel => exact ⟨k + 1, ov, rfl, by go_num, by omega, ⟨by rw [← ndTo_face (n := n) (k := k) (i := i) (by omega)]; exact hs.out.own, hs.out.below⟩⟩
          case measure => simp [intOf]; omega
    · obtain rfl : k = 20 := by omega
      go_wp2_with fail
      obtain ⟨oa, oc, hov⟩ := hs.out.own.slice
      refine bodyPost_ret (v := .tuple #[ov, .int .i64 0]) (by simp [results, Tryz.results78, go_sem]) rfl ?_
      exact ⟨_, rfl, by rw [← ndTo_end]; exact hs.out.own, hs.out.below⟩
end Go.Proofs.YtkpgciimhjkajaaGreatDoor
/- The reference's grid at any frequency: the search among its nodes, the number of a node. -/
namespace Go.Proofs.YtkpgciimhjkajaaGreatDoor
open Go Go.RowKit
def FFiN (g m N cap : Nat) (x p : Pl) (r : Bool) (k : Nat) (v : Value) (_ : World) : Prop := match k with
  | 0 => v = .slice (some ⟨g, 0, none⟩) N cap
  | 1 => v = .int .i64 m
  | 2 => v = .pointer (some ⟨g, m * 4, none⟩)
  | 3 => v = x.val
  | 4 => v = p.val
  | 5 => v = .bool r
  | _ => True
theorem fnd_stepN (l : List Pl) (p : Pl) (k lo hi : Nat) (h : lo < hi) (hk : hi - lo < 2 ^ k) : ∃ k', k = k' + 1 ∧ fnd l p k lo hi = if lessP (l.getD ((lo + hi) / 2) ⟨0, 0, 0, 0⟩) p = true then fnd l p k' ((lo + hi) / 2 + 1) hi else fnd l p k' lo ((lo + hi) / 2) := by
  obtain ⟨k', rfl⟩ : ∃ k', k = k' + 1 := by
    cases k with
    | zero => simp at hk; omega
    | succ k => exact ⟨k, rfl⟩
  refine ⟨k', rfl, ?_⟩
  rw [fnd, if_pos h]
set_option maxHeartbeats 16000000 in
set_option maxRecDepth 100000 in
theorem find_n (ns : List Pl) (N : Nat) (hlen : ns.length = N) (hN : N ≤ 1000) (g cap : Nat) (hcap : N ≤ cap ∧ cap ≤ 9223372036854775807) (p : Pl) (i : Nat) (hi : (fnd ns p 10 0 N).1 = i) (hi2 : i < N) (hi3 : ns.getD i ⟨0, 0, 0, 0⟩ = p) (w : World) (hl : PlsAt w g ns) :
    Calls Tryz.prog 97 #[.slice (some ⟨g, 0, none⟩) N cap, p.val] w fun e w' => e = .returned (.int .i64 i) ∧ Below w.heap.size w w' := by
  have HL := Lib.hid hl
  have HI := Lib.hid (And.intro hi hi3)
  have Hlen := Lib.hid hlen
  have HR0 : Hid (RowAt (w.alloc (.cells p.cells.toArray 122)) w.heap.size p.cells) := RowAt.new _ _ (by simp [Pl.cells]) _ rfl
  have HB0 : Hid (Below w.heap.size w (w.alloc (.cells p.cells.toArray 122))) := (Below.refl _ _).alloc (Nat.le_refl _) _
  have hc1 : (N : Int) ≤ (cap : Int) := by omega
  have hc2 := hcap.2
  have hN8 : (N : Int) ≤ 1000 := by omega
  clear hl hi hi3 hlen hcap
  unfold Pl.val
  simp only [Pl.cells] at HR0 HB0
  go_enter Tryz.func97, Tryz.ntmps97
  go_wp2_with fail
  go_loopw [5, 6] (fun lv hv wr => ∃ (lo hi k : Nat), lv = .int .i64 lo ∧ hv = .int .i64 hi ∧ lo ≤ hi ∧ hi ≤ N ∧ hi - lo < 2 ^ k ∧ Hid ((fnd ns p k lo hi).1 = i) ∧ Hid (RowAt wr w.heap.size p.cells) ∧ Hid (Below w.heap.size w wr)) (fun lv hv _ => (intOf hv - intOf lv).toNat)
  case atStart => exact ⟨0, N, 10, rfl, rfl, by omega, by omega, by omega, HI.out.1, HR0.out, HB0.out⟩
  case round =>
    clear HR0 HB0
    obtain ⟨lo, hi, k, rfl, rfl, hlh, hh, hk, hf, hr, hb⟩ := hrel
    by_cases hlt : lo < hi
    · obtain ⟨k', hk', hst⟩ := fnd_stepN ns p k lo hi hlt hk
      obtain ⟨m, hm⟩ : ∃ m, m = (lo + hi) / 2 := ⟨_, rfl⟩
      have hm1 : lo ≤ m := by omega
      have hm2 : m < hi := by omega
      have hml : m < ns.length := by have := Hlen.out; omega
      have hget : ns.getD m ⟨0, 0, 0, 0⟩ = ns[m] := by rw [List.getD_eq_getElem?_getD, List.getElem?_eq_getElem hml]; rfl
      rw [← hm, hget] at hst
      have hmI : ((lo : Int) + (hi : Int)) / 2 = (m : Int) := by omega
      have i0 : (0 : Int) ≤ (lo : Int) := by omega
      have i1 : (lo : Int) < (hi : Int) := by omega
      have i2 : (hi : Int) ≤ (N : Int) := by omega
      have HX : Hid (wr.rangeAt g (m * 4) ns[m].cells) := fun j u hj => cell_then hb.out (HL.out m hml j u hj)
      have Hm : Hid (lo ≤ m ∧ m < hi ∧ hi ≤ N ∧ hi - lo < 2 * 2 ^ k') := ⟨hm1, hm2, hh, by rw [hk'] at hk; rw [Nat.pow_succ] at hk; omega⟩
      have Hmm : Hid (m = (lo + hi) / 2 ∧ hi - lo < 2 * 2 ^ k') := ⟨hm, by rw [hk'] at hk; rw [Nat.pow_succ] at hk; omega⟩
      have Hm1 : Hid ((m : Int) < (N : Int)) := by unfold Hid; omega
      have Hst := Lib.hid hst
      have HK := Lib.hid hk'
      clear hst hk' hm hm1 hm2 hh hlh hk hlt
      generalize ns[m] = x at *
      obtain ⟨r, hrr⟩ : ∃ r, r = lessP x p := ⟨_, rfl⟩
      rw [← hrr] at Hst
      have Hr := Lib.hid hrr
      clear hrr hget
      go_upto_region 4 with fail
      simp only [hmI]
      clear hmI
      refine wp_region_slots (by kernel_rfl) 39 rfl (by kernel_rfl) (by kernel_rfl) 17 6 (by kernel_rfl) (fun _ w' => RowAt w' w.heap.size p.cells ∧ w'.rangeAt g (m * 4) x.cells ∧ Below w.heap.size w w') (FFiN g m N cap x p r) ?hS0 ?hop ?hend
      case hS0 => exact ⟨hr.out.drew, HX.out, hb.out.drew⟩
      case hop =>
        refine ⟨?_, ?_, ?_, ?_, ?_, ?_, trivial⟩
        all_goals intro d ac wx hd hcl hS hA haft K hK
        · have f0 : ac.tmps.getD 0 undef = .slice (some ⟨g, 0, none⟩) N cap := same_slot hA 0 (by kernel_rfl)
          refine hop_val rfl (.slice (some ⟨g, 0, none⟩) N cap) (w' := wx) ?_ (hK _ _ rfl (fun _ _ _ h => h) hS)
          simp [execOp, Act.eval, f0, go_sem, -Array.getD_eq_getD_getElem?]
        · have f7 : ac.tmps.getD 7 undef = .int .i64 m := same_slot hA 7 (by kernel_rfl)
          refine hop_val rfl (.int .i64 m) (w' := wx) ?_ (hK _ _ rfl (fun _ _ _ h => h) hS)
          simp [execOp, Act.eval, f7, go_sem, -Array.getD_eq_getD_getElem?]
        · have f17 : ac.tmps.getD 17 undef = .slice (some ⟨g, 0, none⟩) N cap := (haft ⟨0, .data⟩ (by simp) rfl).2 _ rfl
          have f18 : ac.tmps.getD 18 undef = .int .i64 m := (haft ⟨1, .data⟩ (by simp) rfl).2 _ rfl
          have m0 : (0 : Int) ≤ (m : Int) := Int.natCast_nonneg m
          have m1 := Hm1.out
          refine hop_val rfl (.pointer (some ⟨g, m * 4, none⟩)) (w' := wx) ?_ (hK _ _ rfl (fun _ _ _ h => h) hS)
          simp [execOp, Act.eval, f17, f18, m0, m1, go_sem, -Array.getD_eq_getD_getElem?]
        · have f19 : ac.tmps.getD 19 undef = .pointer (some ⟨g, m * 4, none⟩) := (haft ⟨2, .data⟩ (by simp) rfl).2 _ rfl
          exact hop_pl_load rfl _ rfl _ _ f19 x (hS.2.1) (hK _ _ rfl (fun _ _ _ h => h) hS)
        · have f3 : ac.tmps.getD 3 undef = .pointer (some ⟨w.heap.size, 0, none⟩) := same_slot hA 3 (by kernel_rfl)
          exact hop_row_load rfl _ rfl _ f3 _ hS.1 rowT_p (hK _ _ rfl (fun _ _ _ h => h) hS)
        · have f20 : ac.tmps.getD 20 undef = x.val := (haft ⟨3, .data⟩ (by simp) rfl).2 _ rfl
          have f21 : ac.tmps.getD 21 undef = p.val := (haft ⟨4, .data⟩ (by simp) rfl).2 _ rfl
          refine hop_call rfl Tryz.func113 (by kernel_rfl) (by kernel_rfl) _ _ rfl #[x.val, p.val] (by simp only [List.map_toArray, List.map_cons, List.map_nil, Act.eval, f20, f21]) _ (less_any x p r Hr.out wx) ?_
          rintro e wy ⟨rfl, hby⟩
          exact ⟨_, rfl, hK _ _ rfl (fun _ _ _ h => h) ⟨hS.1.below hby, fun j u hj => cell_then hby (hS.2.1 j u hj), below_then hS.2.2 hby⟩⟩
      case hend =>
        intro u w4 d hd hS hF
        have hu : u 22 = .bool r := hF 5 _ rfl
        have HS4 := Lib.hid hS
        clear hF hd hS d HX hr hb
        simp only [mixL, hu]
        have hmn := Hm.out
        have hcut1 : m - lo < 2 ^ k' := by have := Hmm.out; omega
        have hcut2 : hi - (m + 1) < 2 ^ k' := by have := Hmm.out; omega
        have m0 : (0 : Int) ≤ (m : Int) := by omega
        have m1 : (m : Int) < (N : Int) := by omega
        cases r
        · go_wp2_with fail
          go_roundw
          case rel => exact ⟨lo, m, k', rfl, rfl, by omega, by omega, hcut1, by have h1 := hf.out; have h2 := Hst.out; rw [HK.out] at h1 h2; rw [h2] at h1; show (fnd _ _ _ _ _).1 = _; simpa using h1, HS4.out.1, HS4.out.2.2⟩
          case measure => simp [intOf]; omega
        · go_wp2_with fail
          go_roundw
          case rel => exact ⟨m + 1, hi, k', by go_num, rfl, by omega, by omega, hcut2, by have h1 := hf.out; have h2 := Hst.out; rw [HK.out] at h1 h2; rw [h2] at h1; show (fnd _ _ _ _ _).1 = _; simpa using h1, HS4.out.1, HS4.out.2.2⟩
          case measure => simp [intOf]; omega
    · have hfe := fnd_done ns p k lo hi hlt
      have hli : lo = i := by have h1 := hf.out; rw [hfe] at h1; exact h1
      subst hli
      have hml : lo < ns.length := by have := Hlen.out; omega
      have HX : Hid (wr.rangeAt g (lo * 4) p.cells) := by
        intro j u hj
        have e : ns[lo] = p := by rw [← HI.out.2, List.getD_eq_getElem?_getD, List.getElem?_eq_getElem hml]; rfl
        refine cell_then hb.out (HL.out lo hml j u ?_)
        rw [e]; exact hj
      have i0 : (0 : Int) ≤ (lo : Int) := by omega
      have i1 : (lo : Int) < (N : Int) := by omega
      have i2 : (hi : Int) ≤ (lo : Int) := by omega
      obtain ⟨pf, pa, pb, pc⟩ := p
      have x0 : wr.cell? ⟨g, lo * 4, none⟩ = some (.int .i64 pf) := HX.out 0 _ rfl
      have x1 : wr.cell? ⟨g, lo * 4 + 1, none⟩ = some (.int .i64 pa) := HX.out 1 _ rfl
      have x2 : wr.cell? ⟨g, lo * 4 + 2, none⟩ = some (.int .i64 pb) := HX.out 2 _ rfl
      have x3 : wr.cell? ⟨g, lo * 4 + 3, none⟩ = some (.int .i64 pc) := HX.out 3 _ rfl
      have y0 := hr.out.at 0 rfl
      have y1 := hr.out.at 1 rfl
      have y2 := hr.out.at 2 rfl
      have y3 := hr.out.at 3 rfl
      clear hfe hlt hlh hh hk
      go_wp2_with fail
      go_region
      go_wp2_with fail
      go_ret
      exact ⟨rfl, hb.out.drew⟩
set_option maxHeartbeats 4000000 in
set_option maxRecDepth 100000 in
theorem at_n (n : Nat) (hn : Fq n) (N : Nat) (hN : N = 10 * n * n + 2) (g cap : Nat) (hcap : N ≤ cap ∧ cap ≤ 9223372036854775807) (f i j : Nat) (hf : f < 20) (hij : i + j ≤ n) (a b : Int) (ha : a = ((i * (840 / n) : Nat) : Int)) (hb : b = ((j * (840 / n) : Nat) : Int)) (w : World) (hl : PlsAt w g (nodesN n)) :
    Calls Tryz.prog 81 #[.slice (some ⟨g, 0, none⟩) N cap, .int .i64 f, .int .i64 a, .int .i64 b] w fun e w' => e = .returned (.int .i64 (idxN (nodesN n) (pt n f i j))) ∧ Below w.heap.size w w' := by
  have hrest := hn.rest hij
  have hpt : pt n f i j = ⟨f, a, b, 840 - a - b⟩ := by
    unfold pt; rw [← ha, ← hb]; congr 1; omega
  have hok := pt_adr hn hf hij
  rw [hpt] at hok
  have hidx := idxN_ok hn hf hij
  have hlen := nodesN_length hn
  rw [← hN] at hlen
  rw [hlen] at hidx
  rw [hpt] at hidx ⊢
  have hN8 : N ≤ 1000 := by rcases hn.cases with rfl | rfl | rfl | rfl | rfl | rfl | rfl | rfl <;> omega
  have HN := Lib.hid (fun w' => normal_any f a b (840 - a - b) hok w')
  have HF := Lib.hid (fun w' h => find_n (nodesN n) N hlen hN8 g cap hcap (norP ⟨f, a, b, 840 - a - b⟩) (idxN (nodesN n) ⟨f, a, b, 840 - a - b⟩) (by unfold idxN; rw [hlen]) hidx.1 hidx.2 w' h)
  have HL := Lib.hid hl
  have hr : 0 ≤ a ∧ a ≤ 840 ∧ 0 ≤ b ∧ b ≤ 840 := by
    have := hok.1
    unfold Pl.Ok at this
    simp only at this
    omega
  obtain ⟨r0, r1, r2, r3⟩ := hr
  clear hrest hok hlen hN8 hcap hN ha hb hpt hn hf hij
  generalize idxN (nodesN n) ⟨f, a, b, 840 - a - b⟩ = I at *
  generalize nodesN n = ns at *
  generalize norP ⟨f, a, b, 840 - a - b⟩ = p at *
  obtain ⟨pf, pa, pb, pc⟩ := p
  unfold Pl.val at HN HF
  simp only at HN HF
  clear hl hidx
  go_enter Tryz.func81, Tryz.ntmps81
  go_wp2_with fail
  refine (HN.out _).mono ?_
  rintro e w1 ⟨rfl, hb1⟩
  have HP : Hid (RowAt (w1.alloc (.cells #[.int .i64 pf, .int .i64 pa, .int .i64 pb, .int .i64 pc] 122)) w1.heap.size [.int .i64 pf, .int .i64 pa, .int .i64 pb, .int .i64 pc]) := RowAt.new _ [.int .i64 pf, .int .i64 pa, .int .i64 pb, .int .i64 pc] (by simp) _ rfl
  have HB := Lib.hid (hb1.alloc hb1.size (.cells #[.int .i64 pf, .int .i64 pa, .int .i64 pb, .int .i64 pc] 122))
  clear hb1
  go_wp2_with (refine row_load rfl _ rfl _ rfl _ HP.out rowT_p ?_)
  refine (HF.out _ (HL.out.below HB.out)).mono ?_
  rintro e w2 ⟨rfl, hb2⟩
  have HB2 := Lib.hid (below_then HB.out hb2)
  clear hb2
  go_wp2_with fail
  go_ret
  exact ⟨rfl, HB2.out⟩
end Go.Proofs.YtkpgciimhjkajaaGreatDoor
/- Places as keys of a map: the map of a grid's nodes to their numbers. No walk. -/
namespace Go.Proofs.YtkpgciimhjkajaaGreatDoor
open Go Go.RowKit Go.WideMaps
theorem mLaidOut : laidOutB Tryz.prog = true := by kernel_rfl
theorem mRow : (122 : TypeId) < Tryz.prog.types.size := of_decide_eq_true (by kernel_rfl)
theorem mCells : Tryz.prog.cellsOf 122 = 4 := by kernel_rfl
theorem mWide : (match Tryz.prog.underlying 122 with | some (.array _ _) | some (.struct _) => true | _ => false) = true := by rw [Tryz.underlying122]
set_option maxRecDepth 100000 in
theorem mLaw : KeyLaw Tryz.prog 122 := deep_law_laid mLaidOut (m := 2) (by omega) mRow (by kernel_rfl) mWide
theorem mKeyed : Go.Maps.Keyed Tryz.prog 122 := Go.Maps.Keyed.of_law mLaw
theorem mKt : Tryz.prog.keyType 122 = true := by kernel_rfl
theorem mFormed (p : Pl) : p.val.formed Tryz.prog 122 = true := by simp [Pl.val, Value.formed, Tryz.underlying122, mCells]
def Pl.key (p : Pl) : Lit := .string (keyBytes [.int .i64 p.f, .int .i64 p.a, .int .i64 p.b, .int .i64 p.c])
def Pl.Fits (p : Pl) : Prop := (Lit.int .i64 p.f).wf = true ∧ (Lit.int .i64 p.a).wf = true ∧ (Lit.int .i64 p.b).wf = true ∧ (Lit.int .i64 p.c).wf = true
theorem mOne : Tryz.prog.cellsOf 3 = 1 := by kernel_rfl
theorem mSz : ∃ m, Tryz.prog.types.size = m + 1 := ⟨Tryz.prog.types.size - 1, by kernel_rfl⟩
theorem keyOf_pl (p : Pl) (h : p.Fits) : keyOf Tryz.prog 122 p.val = some p.key := by
  obtain ⟨m, hm⟩ := mSz
  obtain ⟨h1, h2, h3, h4⟩ := h
  unfold keyOf
  simp only [Tryz.underlying122]
  rw [if_pos (by rw [mKt, mFormed]; rfl), hm]
  unfold Program.keyLits
  simp only [Tryz.underlying122, Pl.val, Value.cells]
  rw [if_pos (by rw [mCells]; exact ⟨rfl, by simp⟩)]
  simp [mOne, Program.keyLits, Tryz.underlying3, h1, h2, h3, h4, Pl.key]
theorem key_inj {p q : Pl} (hp : p.Fits) (hq : q.Fits) (e : p.key = q.key) : p = q := by
  have h1 := keyOf_pl p hp
  have h2 := keyOf_pl q hq
  rw [e] at h1
  have h3 := mKeyed.inj h1 h2
  obtain ⟨a, b, c, d⟩ := p
  obtain ⟨a', b', c', d'⟩ := q
  simpa [Pl.val] using h3
theorem Pl.Ok.fits {p : Pl} (h : p.Ok) : p.Fits := by
  unfold Pl.Ok at h
  have hw : ∀ z : Int, 0 ≤ z → z ≤ 840 → (Lit.int .i64 z).wf = true := fun z h0 h1 => by
    simp [Lit.wf, show IntKind.i64.min = -9223372036854775808 by rfl, show IntKind.i64.max = 9223372036854775807 by rfl]
    omega
  exact ⟨hw _ (by omega) (by omega), hw _ (by omega) (by omega), hw _ (by omega) (by omega), hw _ (by omega) (by omega)⟩
def mapN : List Pl → Nat → DataW Unit → DataW Unit
  | [], _, m => m
  | p :: r, i, m => mapN r (i + 1) (m.put p.key (.lit (.int .i64 (i : Int))))
theorem mapN_snoc (p : Pl) : ∀ (l : List Pl) (i : Nat) (m : DataW Unit), mapN (l ++ [p]) i m = (mapN l i m).put p.key (.lit (.int .i64 ((i + l.length : Nat) : Int)))
  | [], i, m => by simp [mapN]
  | q :: r, i, m => by
    show mapN (r ++ [p]) (i + 1) _ = _
    rw [mapN_snoc p r]
    have e : i + 1 + r.length = i + (q :: r).length := by simp; omega
    rw [e]; rfl
theorem mapN_other (z : DataW Unit) (q : Pl) (hq : q.Fits) : ∀ (l : List Pl) (i : Nat) (m : DataW Unit), (∀ p ∈ l, p.Fits ∧ p ≠ q) → (mapN l i m).atKey q.key z = m.atKey q.key z
  | [], _, _, _ => rfl
  | p :: r, i, m, h => by
    show (mapN r (i + 1) _).atKey _ z = _
    rw [mapN_other z q hq r (i + 1) _ (fun x hx => h x (by simp [hx]))]
    exact Go.Maps.atKey_put_other (fun e => (h p (by simp)).2 (key_inj (h p (by simp)).1 hq e.symm)) _ _
theorem mapN_at (z : DataW Unit) : ∀ (l : List Pl) (i : Nat) (m : DataW Unit), Go.Maps.IsMap m → (∀ p ∈ l, p.Fits) → l.Pairwise (· ≠ ·) → ∀ (k : Nat) (hk : k < l.length), (mapN l i m).atKey (l[k].key) z = .lit (.int .i64 ((i + k : Nat) : Int))
  | p :: r, i, m, hm, hf, hp, 0, _ => by
    rw [List.pairwise_cons] at hp
    show (mapN r (i + 1) _).atKey p.key z = _
    rw [mapN_other z p (hf p (by simp)) r (i + 1) _ (fun x hx => ⟨hf x (by simp [hx]), (hp.1 x hx).symm⟩)]
    exact Go.Maps.atKey_put_same hm (mKeyed.key (keyOf_pl p (hf p (by simp)))) _ _
  | p :: r, i, m, hm, hf, hp, k + 1, hk => by
    rw [List.pairwise_cons] at hp
    have := mapN_at z r (i + 1) (m.put p.key (.lit (.int .i64 (i : Int)))) (hm.put _ _) (fun x hx => hf x (by simp [hx])) hp.2 k (by simpa using hk)
    have e : i + 1 + k = i + (k + 1) := by omega
    rw [e] at this
    exact this
theorem nodesN_nodup {n : Nat} (h : Fq n) : (nodesN n).Pairwise (· ≠ ·) := by
  unfold nodesN
  rw [List.pairwise_flatMap]
  refine ⟨fun f _ => ?_, List.pairwise_lt_range.imp fun {f g} hfg x hx y hy => ?_⟩
  · refine List.Pairwise.filter _ ?_
    unfold faceN
    rw [List.pairwise_flatMap]
    refine ⟨fun i _ => ?_, List.pairwise_lt_range.imp fun {i k} hik x hx y hy => ?_⟩
    · unfold rowN
      rw [List.pairwise_map]
      exact List.pairwise_lt_range.imp fun {a b} hab e => by have := (pt_inj h e).2; omega
    · unfold rowN at hx hy
      obtain ⟨a, _, rfl⟩ := List.mem_map.1 hx
      obtain ⟨b, _, rfl⟩ := List.mem_map.1 hy
      intro e
      have := (pt_inj h e).1
      omega
  · have h1 : ∀ f x, x ∈ (faceN n f).filter isNm → x.f = (f : Int) := by
      intro f x hx
      have := (List.mem_filter.1 hx).1
      unfold faceN rowN at this
      obtain ⟨i, _, h1⟩ := List.mem_flatMap.1 this
      obtain ⟨j, _, rfl⟩ := List.mem_map.1 h1
      rfl
    intro e
    have e1 := h1 f x hx
    have e2 := h1 g y hy
    rw [e, e2] at e1
    omega
theorem nodesN_fits {n : Nat} (h : Fq n) : ∀ p ∈ nodesN n, p.Fits := by
  intro p hp
  obtain ⟨f, i, j, hf, hij, rfl, _⟩ := mem_nodesN hp
  exact (pt_Ok h hf hij).fits
theorem mapN_idx {n f i j : Nat} (h : Fq n) (hf : f < 20) (hj : i + j ≤ n) (z : DataW Unit) : (mapN (nodesN n) 0 (.map [])).atKey ((norP (pt n f i j)).key) z = .lit (.int .i64 ((idxN (nodesN n) (pt n f i j) : Nat) : Int)) := by
  obtain ⟨h1, h2⟩ := idxN_ok h hf hj
  rw [List.getD_eq_getElem?_getD, List.getElem?_eq_getElem h1] at h2
  have h2 : (nodesN n)[idxN (nodesN n) (pt n f i j)] = norP (pt n f i j) := h2
  have := mapN_at z (nodesN n) 0 (.map []) Go.Maps.isMap_empty (nodesN_fits h) (nodesN_nodup h) _ h1
  rw [h2, Nat.zero_add] at this
  exact this
theorem nor_fits {n f i j : Nat} (h : Fq n) (hf : f < 20) (hj : i + j ≤ n) : (norP (pt n f i j)).Fits := by
  obtain ⟨h1, h2⟩ := idxN_ok h hf hj
  rw [List.getD_eq_getElem?_getD, List.getElem?_eq_getElem h1] at h2
  have h2 : (nodesN n)[idxN (nodesN n) (pt n f i j)] = norP (pt n f i j) := h2
  rw [← h2]
  exact nodesN_fits h _ (List.getElem_mem h1)
def MapAt (w : World) (b : Nat) (l : List Pl) : Prop := w.ownsMap Tryz.prog 122 (plainElem Tryz.prog 3) b l.length (mapN l 0 (.map []))
theorem MapAt.kept {w w' : World} {row : Option Nat} {b : Nat} {l : List Pl} (h : MapAt w b l) (hg : w.grownBy w' row) (hne : some b ≠ row) : MapAt w' b l := World.ownsMap.kept h hg hne
theorem MapAt.of_block {w w' : World} {b : Nat} {l : List Pl} (h : MapAt w b l) (hb : w'.heap[b]? = w.heap[b]?) : MapAt w' b l := by
  obtain ⟨es, clock, h1, r⟩ := h
  exact ⟨es, clock, hb.trans h1, r⟩
theorem MapAt.lt {w : World} {b : Nat} {l : List Pl} (h : MapAt w b l) : b < w.heap.size := World.ownsMap.lt h
theorem MapAt.below {w w' : World} {b : Nat} {l : List Pl} (h : MapAt w b l) (hb : Below w.heap.size w w') : MapAt w' b l := h.of_block (hb.block _ h.lt)
theorem MapAt.new (w : World) : MapAt (w.alloc (.map #[] 0)) w.heap.size [] := World.ownsMap_made w _ _ _
theorem mZero (w : World) : (zeroValue 3).run Tryz.prog w = .ok (.int .i64 0) w := by kernel_rfl
theorem MapAt.put {w : World} {b : Nat} {l : List Pl} (h : MapAt w b l) (p : Pl) (hp : p.Fits) (hl : l.length ≤ 10000) : ∃ w', (Instr.mapUpdate 147 (.map (some b)) p.val (.int .i64 (l.length : Int))).run Tryz.prog w = .ok () w' ∧ MapAt w' b (l ++ [p]) ∧ w.grownBy w' (some b) := by
  have hw : (Lit.int .i64 (l.length : Int)).wf = true := by simp [Lit.wf, show IntKind.i64.min = -9223372036854775808 by rfl, show IntKind.i64.max = 9223372036854775807 by rfl]; omega
  obtain ⟨w', h1, h2, h3⟩ := World.ownsMap.update h mKeyed Tryz.underlying147 (by unfold maxLen; omega) (keyOf_pl p hp) (plainElem_int Tryz.underlying3 hw)
  refine ⟨w', h1, ?_, h3⟩
  unfold MapAt
  rw [mapN_snoc, List.length_append, Nat.zero_add]
  exact h2
theorem MapAt.get {w : World} {b n f i j : Nat} (h : MapAt w b (nodesN n)) (hn : Fq n) (hf : f < 20) (hj : i + j ≤ n) : (Instr.lookup 147 (.map (some b)) (norP (pt n f i j)).val false).run Tryz.prog w = .ok (.int .i64 ((idxN (nodesN n) (pt n f i j) : Nat) : Int)) w := by
  obtain ⟨c, h1, h2, _⟩ := World.ownsMap.lookup_int h mKeyed Tryz.underlying147 Tryz.underlying3 (mZero w) (keyOf_pl _ (nor_fits hn hf hj))
  rw [mapN_idx hn hf hj] at h2
  have : ((idxN (nodesN n) (pt n f i j) : Nat) : Int) = c := by simpa using h2
  rw [this]; exact h1
end Go.Proofs.YtkpgciimhjkajaaGreatDoor
/- A region that draws its order, walked in one order: what yields its value in every world that meets S is taken as soon as it may come up; each other operation comes up alone. The order is looked at once, for the whole region. No program. -/
namespace Go.Proofs.YtkpgciimhjkajaaGreatDoor
open Go Go.RowKit
section
variable {P : Program} {ops : Array Oper} {Q : Exit → Act → World → Prop} {S : World → Prop}
def wpSeq (P : Program) (ops : Array Oper) (Q : Exit → Act → World → Prop) (S : World → Prop) : List (Nat × Bool) → Act → World → Prop
  | [], a, w => Q .normal a w
  | (i, q) :: r, a, w => ∃ o, ops[i]? = some o ∧ if q = true then ∃ v, YieldsIf P ops S o v a ∧ wpSeq P ops Q S r (a.put o.dst v) w
    else if Region.wanted o (yielded ops a.tmps) = true then Oper.wp P o a w (fun a' w' => S w' ∧ wpSeq P ops Q S r a' w') Q else wpSeq P ops Q S r (a.put o.dst undef) w
def schedB (ops : Array Oper) : List (Nat × Bool) → Array Bool → Bool
  | [], listed => (Region.ready .any ops listed).isEmpty
  | (i, true) :: r, listed => Region.free .any ops listed i && (Region.ready .any ops listed).contains i && schedB ops r (listed.setIfInBounds i true)
  | (i, false) :: r, listed => (Region.ready .any ops listed == [i]) && schedB ops r (listed.setIfInBounds i true)
theorem wpSeq_sound (hn : Region.noSelect ops = true) (hQ : ∀ c a d v w, Q (.panic c) (Act.put a d v) w → Q (.panic c) a w) : ∀ (l : List (Nat × Bool)) (listed : Array Bool) (a : Act) (w : World), schedB ops l listed = true → S w → wpSeq P ops Q S l a w → wpAnyH P .any ops Q S l.length listed a w
  | [], listed, a, w, hb, _, h => ⟨by simpa [schedB] using hb, h⟩
  | (i, true) :: r, listed, a, w, hb, hS, ⟨o, ho, h⟩ => by
    rw [if_pos rfl] at h
    obtain ⟨v, hy, h⟩ := h
    simp only [schedB, Bool.and_eq_true] at hb
    exact wpAnyH_take ho hn hb.1.1 hb.1.2 (fun c a w => hQ c a _ _ w) hy hS (wpSeq_sound hn hQ r _ _ _ hb.2 hS h)
  | (i, false) :: r, listed, a, w, hb, hS, ⟨o, ho, h⟩ => by
    rw [if_neg (by decide)] at h
    simp only [schedB, Bool.and_eq_true, beq_iff_eq] at hb
    refine wpAnyH_ready hb.1 (by simp) fun j hj => ?_
    obtain rfl : j = i := by simpa using hj
    unfold wpOp
    rw [ho]
    simp only
    split
    · rename_i hw
      rw [if_pos hw] at h
      exact Or.inl (Oper.wp_mono (fun a' w' h' => ⟨h'.1, wpSeq_sound hn hQ r _ _ _ hb.2 h'.1 h'.2⟩) h)
    · rename_i hw
      rw [if_neg hw] at h
      exact ⟨hS, wpSeq_sound hn hQ r _ _ _ hb.2 hS h⟩
theorem wp_region_seq {id : Nat} {a : Act} {w : World} (hm : P.follows .mixedOrders = true) (S : World → Prop) (l : List (Nat × Bool)) (hb : (Region.noSelect ops && (l.length == ops.size) && schedB ops l (Array.replicate ops.size false)) = true)
    (hS : S w.drew) (h : wpSeq P ops (NoPanic Q) S l a w.drew) : (Code.region id ops true).wp P Q a w := by
  simp only [Bool.and_eq_true, beq_iff_eq] at hb
  refine wp_region_noPanic (wp_region_held (S := S) hm ?_)
  have h1 := wpSeq_sound hb.1.1 (fun _ _ _ _ _ h => h) l _ a _ hb.2 hS h
  rw [hb.1.2] at h1
  exact h1
variable {r : List (Nat × Bool)} {i : Nat} {o : Oper} {d : Option Tmp} {a : Act} {w : World}
theorem seq_end (h : Q .normal a w) : wpSeq P ops (NoPanic Q) S [] a w := h
theorem seq_q (ho : ops[i]? = some o) (hd : o.dst = d) (hw : Region.wanted o (yielded ops a.tmps) = true) (v : Value) (hy : ∀ w, S w → (execOp a.eval o).run P w = .ok (.value v) w) (h : wpSeq P ops Q S r (a.put d v) w) : wpSeq P ops Q S ((i, true) :: r) a w := by
  subst hd
  exact ⟨o, ho, by rw [if_pos rfl]; exact ⟨v, Or.inl ⟨hw, hy⟩, h⟩⟩
theorem seq_wp (ho : ops[i]? = some o) (hw : Region.wanted o (yielded ops a.tmps) = true) (h : ∀ K : Act → World → Prop, (∀ a' w', S w' → wpSeq P ops Q S r a' w' → K a' w') → Oper.wp P o a w K Q) : wpSeq P ops Q S ((i, false) :: r) a w :=
  ⟨o, ho, by rw [if_neg (by decide), if_pos hw]; exact h _ (fun _ _ hs hr => ⟨hs, hr⟩)⟩
theorem seq_skip (ho : ops[i]? = some o) (hd : o.dst = d) (hw : Region.wanted o (yielded ops a.tmps) = true) (w' : World) (hrun : (execOp a.eval o).run P w = .ok .skip w') (hS : S w') (h : wpSeq P ops Q S r (a.put d undef) w') : wpSeq P ops Q S ((i, false) :: r) a w := by
  subst hd
  refine seq_wp ho hw fun K hK => ?_
  unfold Oper.wp
  rw [hrun]
  exact hK _ _ hS h
def Has (P : Program) (f : FuncId) : Prop := ∃ g, P.funcs[f]? = some g ∧ (g.name == "runtime.NumGoroutine") = false ∧ g.body.isNone = false
theorem run_callFunc {f : FuncId} (hf : Has P f) (vs : Array Value) (w : World) : (callFunc f vs).run P w = .ok (.enter f vs) w := by
  obtain ⟨fn, hf, hname, hb⟩ := hf
  have h1 : fn.name ≠ "runtime.NumGoroutine" := by simpa using hname
  have h2 : ¬ fn.body = none := by intro h; rw [h] at hb; cases hb
  simp [callFunc, hf, h1, h2]
theorem run_call {f : FuncId} (hf : Has P f) (fo : Operand) (args : Array Operand) (ts : Array TypeId) (hop : o.op = .call { callee := .value fo, args := args, argTypes := ts }) (hfo : a.eval fo = .func (.func f) #[] #[]) (vs : List Value) (hv : args.toList.map a.eval = vs) :
    (execOp a.eval o).run P w = .ok (.enter f vs.toArray) w := by
  have e1 : args.map a.eval = vs.toArray := by rw [← hv]; exact (by simp [← List.map_toArray])
  unfold execOp
  simp only [hop, resolve, hfo, e1, Deferred.ofValue, Sem.run_bind, Sem.run_pure, Result.andThen_ok, invoke]
  simp [run_callFunc hf]
end
end Go.Proofs.YtkpgciimhjkajaaGreatDoor
/- As Seq, but behind the last operation nothing is asked of the world: what loads must come before it. No program. -/
namespace Go.Proofs.YtkpgciimhjkajaaGreatDoor
open Go Go.RowKit
section
variable {P : Program} {ops : Array Oper} {Q : Exit → Act → World → Prop} {S : World → Prop} {L : Nat}
def anc (ops : Array Oper) : Nat → Nat → List Nat
  | 0, _ => []
  | f + 1, k => match ops[k]? with
    | some o => (o.after.toList.filter (Region.binds .any)).flatMap fun e => e.on :: anc ops f e.on
    | none => []
def ClosedL (ops : Array Oper) (listed : Array Bool) : Prop := ∀ k o, ops[k]? = some o → listed.getD k false = true → ∀ e ∈ o.after, Region.binds .any e = true → listed.getD e.on false = true
theorem anc_listed {listed : Array Bool} (hc : ClosedL ops listed) : ∀ (f k : Nat) (o : Oper), ops[k]? = some o → (∀ e ∈ o.after, Region.binds .any e = true → listed.getD e.on false = true) → (hsz : listed.size = ops.size) → ∀ i ∈ anc ops f k, listed.getD i false = true
  | 0, _, _, _, _, _, i, hi => by simp [anc] at hi
  | f + 1, k, o, ho, he, hsz, i, hi => by
    rw [anc, ho] at hi
    simp only [List.mem_flatMap, List.mem_filter] at hi
    obtain ⟨e, ⟨h1, h2⟩, h3⟩ := hi
    have h4 := he e (by simpa using h1) h2
    rcases List.mem_cons.1 h3 with rfl | h3
    · exact h4
    · have hlt : e.on < ops.size := by
        rcases Nat.lt_or_ge e.on listed.size with h | h
        · omega
        · simp [Array.getElem?_eq_none h] at h4
      exact anc_listed hc f e.on ops[e.on] (Array.getElem?_eq_getElem hlt) (hc e.on _ (Array.getElem?_eq_getElem hlt) h4) hsz i h3
theorem ClosedL.set {listed : Array Bool} (hc : ClosedL ops listed) {j : Nat} (hj : j ∈ Region.ready .any ops listed) : ClosedL ops (listed.setIfInBounds j true) := by
  obtain ⟨h0, oj, hoj, hall⟩ := mem_ready.1 hj
  have mono : ∀ k, listed.getD k false = true → (listed.setIfInBounds j true).getD k false = true := fun k hk => by
    by_cases hkj : j = k
    · subst hkj
      have : j < listed.size := by
        rcases Nat.lt_or_ge j listed.size with h | h
        · exact h
        · simp [Array.getElem?_eq_none h] at hk
      simp [this]
    · rw [getD_set_ne false hkj]; exact hk
  intro k o ho hk e he hb
  by_cases hkj : j = k
  · subst hkj
    rw [hoj] at ho
    injection ho with ho
    subst ho
    exact mono _ (hall e he hb)
  · rw [getD_set_ne false hkj] at hk
    exact mono _ (hc k o ho hk e he hb)
def wpAnyL (P : Program) (ops : Array Oper) (Q : Exit → Act → World → Prop) (S : World → Prop) (L : Nat) : Nat → Array Bool → Act → World → Prop
  | 0, listed, a, w => Region.ready .any ops listed = [] ∧ Q .normal a w
  | fuel + 1, listed, a, w =>
    (Region.ready .any ops listed = [] → Q .normal a w) ∧
    ∀ i ∈ Region.ready .any ops listed, wpOp P ops Q i (fun a' w' => ((listed.setIfInBounds i true).getD L false = false → S w') ∧ wpAnyL P ops Q S L fuel (listed.setIfInBounds i true) a' w') a w
theorem wpAny_of_L : ∀ (fuel : Nat) (listed : Array Bool) (a : Act) (w : World), wpAnyL P ops Q S L fuel listed a w → wpAny P .any ops Q fuel listed a w
  | 0, _, _, _, h => h
  | fuel + 1, _, _, _, h => ⟨h.1, fun i hi => wpOp_mono (fun a' w' h' => wpAny_of_L fuel _ a' w' h'.2) (h.2 i hi)⟩
theorem wpAnyL_first {T : World → Prop} {i : Nat} {oi : Oper} {v : Value} (hiL : i ≠ L) (hi : ops[i]? = some oi) (hsel : ∀ (j : Nat) (o : Oper) cs b, ops[j]? = some o → o.op ≠ .select cs b)
    (hQ : ∀ c a w, Q (.panic c) (a.put oi.dst v) w → Q (.panic c) a w) (hT : ∀ (j : Nat) (listed : Array Bool) (w' : World), ClosedL ops listed → listed.size = ops.size → j ∈ Region.ready .any ops listed → i ∈ Region.ready .any ops listed → j ≠ i → ((listed.setIfInBounds j true).getD L false = false → S w') → T w') :
    ∀ (fuel : Nat) (listed : Array Bool) (a : Act) (w : World),
      (∀ j oj, ops[j]? = some oj → j ≠ i → listed.getD j true = false → (∀ e ∈ oj.after, Region.binds .any e = true → e.on ≠ i) → oi.apart ops oj = true) →
      ClosedL ops listed → listed.size = ops.size → i ∈ Region.ready .any ops listed → YieldsIf P ops T oi v a → T w → ((listed.setIfInBounds i true).getD L false = false → S w) →
      wpAnyL P ops Q S L fuel (listed.setIfInBounds i true) (a.put oi.dst v) w → wpAnyL P ops Q S L (fuel + 1) listed a w := by
  intro fuel
  induction fuel with
  | zero =>
    intro listed a w _ hc hsz hr hy hTw hSw H
    refine ⟨fun h => (by rw [h] at hr; cases hr), fun j hj => ?_⟩
    by_cases hji : j = i
    · subst hji; exact hy.wpOp hi hTw ⟨hSw, H⟩
    · have := ready_mono hj hji
      rw [H.1] at this
      cases this
  | succ fuel ih =>
    intro listed a w hfree hc hsz hr hy hTw hSw H
    refine ⟨fun h => (by rw [h] at hr; cases hr), fun j hj => ?_⟩
    by_cases hji : j = i
    · subst hji; exact hy.wpOp hi hTw ⟨hSw, H⟩
    · have h1 := H.2 j (ready_mono hj hji)
      obtain ⟨hjun, oj, hoj, hall⟩ := mem_ready.1 hj
      have hnot : ∀ e ∈ oj.after, Region.binds .any e = true → e.on ≠ i := fun e he hb heq => by
        have h1 := hall e he hb
        have h0 := (mem_ready.1 hr).1
        rw [heq] at h1
        rcases Nat.lt_or_ge i listed.size with h' | h'
        · simp [h'] at h0 h1; rw [h0] at h1; cases h1
        · simp [Array.getElem?_eq_none h'] at h1
      have h2 := wpOp_putIf hoj (hfree j oj hoj hji hjun hnot) (fun cs b => hsel i oi cs b hi) (fun cs b => hsel j oj cs b hoj) hQ hy h1
      have hfree' : ∀ k ok, ops[k]? = some ok → k ≠ i → (listed.setIfInBounds j true).getD k true = false →
          (∀ e ∈ ok.after, Region.binds .any e = true → e.on ≠ i) → oi.apart ops ok = true := fun k ok hk hki hun hno => by
        refine hfree k ok hk hki ?_ hno
        by_cases hjk : j = k
        · subst hjk; exact hjun
        · rw [getD_set_ne true hjk] at hun; exact hun
      have hcomm : (listed.setIfInBounds i true).setIfInBounds j true = (listed.setIfInBounds j true).setIfInBounds i true := Array.setIfInBounds_comm _ _ (Ne.symm hji)
      have hless : ∀ k, (listed.setIfInBounds j true).getD k false = false → k ≠ i → ((listed.setIfInBounds i true).setIfInBounds j true).getD k false = false := fun k hk hki => by
        rw [hcomm, getD_set_ne false (Ne.symm hki)]; exact hk
      refine wpOp_mono (fun a' w' h3 => ⟨fun hL => ?_, ih (listed.setIfInBounds j true) a' w' hfree' (hc.set hj) (by simp [hsz]) (ready_mono hr (Ne.symm hji)) h3.1 (hT j listed w' hc hsz hj hr hji fun hL => ?_) ?_ ?_⟩) h2
      · exact h3.2.1 (hless L hL (Ne.symm hiL))
      · exact h3.2.1 (hless L hL (Ne.symm hiL))
      · intro hL
        rw [← hcomm] at hL
        exact h3.2.1 hL
      · rw [← hcomm]
        exact h3.2.2
def wpSeqL (P : Program) (ops : Array Oper) (Q : Exit → Act → World → Prop) (S : World → Prop) : List (Nat × Nat) → Act → World → Prop
  | [], a, w => Q .normal a w
  | (i, q) :: r, a, w => ∃ o, ops[i]? = some o ∧ match q with
    | 0 => ∃ v, YieldsIf P ops (fun _ => True) o v a ∧ wpSeqL P ops Q S r (a.put o.dst v) w
    | 1 => ∃ v, YieldsIf P ops S o v a ∧ wpSeqL P ops Q S r (a.put o.dst v) w
    | _ => if Region.wanted o (yielded ops a.tmps) = true then Oper.wp P o a w (fun a' w' => (r.any (fun x => x.2 == 2) = true → S w') ∧ wpSeqL P ops Q S r a' w') Q else wpSeqL P ops Q S r (a.put o.dst undef) w
def schedL (ops : Array Oper) (L : Nat) : List (Nat × Nat) → Array Bool → Bool
  | [], listed => (Region.ready .any ops listed).isEmpty
  | (i, 0) :: r, listed => i != L && Region.free .any ops listed i && (Region.ready .any ops listed).contains i && schedL ops L r (listed.setIfInBounds i true)
  | (i, 1) :: r, listed => i != L && (anc ops ops.size L).contains i && Region.free .any ops listed i && (Region.ready .any ops listed).contains i && schedL ops L r (listed.setIfInBounds i true)
  | (i, _ + 2) :: r, listed => (i == L || r.any (fun x => x.2 == 2)) && (Region.ready .any ops listed == [i]) && schedL ops L r (listed.setIfInBounds i true)
theorem wpSeqL_sound (hn : Region.noSelect ops = true) (hL : L < ops.size) (hQ : ∀ c a d v w, Q (.panic c) (Act.put a d v) w → Q (.panic c) a w) : ∀ (l : List (Nat × Nat)) (listed : Array Bool) (a : Act) (w : World), schedL ops L l listed = true → ClosedL ops listed → listed.size = ops.size → (listed.getD L false = false → S w) → wpSeqL P ops Q S l a w → wpAnyL P ops Q S L l.length listed a w
  | [], listed, a, w, hb, _, _, _, h => ⟨by simpa [schedL] using hb, h⟩
  | (i, 0) :: r, listed, a, w, hb, hc, hsz, hS, ⟨o, ho, v, hy, h⟩ => by
    simp only [schedL, Bool.and_eq_true, bne_iff_ne] at hb
    obtain ⟨⟨⟨h1, h2⟩, h3⟩, h4⟩ := hb
    have hr : i ∈ Region.ready .any ops listed := by simpa using h3
    have hno : (listed.setIfInBounds i true).getD L false = false → listed.getD L false = false := fun h => by rw [getD_set_ne false h1] at h; exact h
    exact wpAnyL_first (T := fun _ => True) h1 ho (Region.noSelect_spec hn) (fun c a w => hQ c a _ _ w) (fun _ _ _ _ _ _ _ _ _ => trivial) r.length listed a w (Region.free_spec ho h2) hc hsz hr hy trivial (fun h => hS (hno h))
      (wpSeqL_sound hn hL hQ r _ _ _ h4 (hc.set hr) (by simp [hsz]) (fun h => hS (hno h)) h)
  | (i, 1) :: r, listed, a, w, hb, hc, hsz, hS, ⟨o, ho, v, hy, h⟩ => by
    simp only [schedL, Bool.and_eq_true, bne_iff_ne] at hb
    obtain ⟨⟨⟨⟨h1, h5⟩, h2⟩, h3⟩, h4⟩ := hb
    have hr : i ∈ Region.ready .any ops listed := by simpa using h3
    have ha : i ∈ anc ops ops.size L := by simpa using h5
    have hno : (listed.setIfInBounds i true).getD L false = false → listed.getD L false = false := fun h => by rw [getD_set_ne false h1] at h; exact h
    have hun : ∀ listed : Array Bool, ClosedL ops listed → listed.size = ops.size → i ∈ Region.ready .any ops listed → listed.getD L false = false ∧ L ∉ Region.ready .any ops listed := fun listed hc hsz hi => by
      have h0 := (mem_ready.1 hi).1
      have hf : listed.getD i false = false := by
        have hlt : i < listed.size := by
          rcases Nat.lt_or_ge i listed.size with h | h
          · exact h
          · simp [Array.getElem?_eq_none h] at h0
        simp [hlt] at h0 ⊢; exact h0
      have hoL : ops[L]? = some ops[L] := Array.getElem?_eq_getElem hL
      refine ⟨?_, fun hLr => ?_⟩
      · cases hq : listed.getD L false with
        | false => rfl
        | true =>
          have := anc_listed hc ops.size L _ hoL (hc L _ hoL hq) hsz i ha
          rw [hf] at this; cases this
      · obtain ⟨_, oL, hoL', hall⟩ := mem_ready.1 hLr
        have := anc_listed hc ops.size L _ hoL' hall hsz i ha
        rw [hf] at this; cases this
    have hSw := hS (hun listed hc hsz hr).1
    exact wpAnyL_first (T := S) h1 ho (Region.noSelect_spec hn) (fun c a w => hQ c a _ _ w) (fun j listed w' hc hsz hj hi hji hS' => hS' (by
        have h6 := hun listed hc hsz hi
        have hjL : j ≠ L := fun e => h6.2 (e ▸ hj)
        rw [getD_set_ne false hjL]; exact h6.1)) r.length listed a w (Region.free_spec ho h2) hc hsz hr hy hSw (fun _ => hSw)
      (wpSeqL_sound hn hL hQ r _ _ _ h4 (hc.set hr) (by simp [hsz]) (fun _ => hSw) h)
  | (i, q + 2) :: r, listed, a, w, hb, hc, hsz, hS, ⟨o, ho, h⟩ => by
    simp only [schedL, Bool.and_eq_true, Bool.or_eq_true, beq_iff_eq] at hb
    obtain ⟨⟨h1, h2⟩, h3⟩ := hb
    have hr : i ∈ Region.ready .any ops listed := by rw [h2]; simp
    refine ⟨fun h0 => by (rw [h0] at hr; cases hr), fun j hj => ?_⟩
    obtain rfl : j = i := by rw [h2] at hj; simpa using hj
    have hLt : j = L → (listed.setIfInBounds j true).getD L false = false → False := fun e hf => by
      subst e
      have : j < listed.size := by omega
      simp [this] at hf
    unfold wpOp
    rw [ho]
    simp only
    split
    · rename_i hw
      rw [if_pos hw] at h
      refine Or.inl (Oper.wp_mono (fun a' w' h' => ?_) h)
      have hs : (listed.setIfInBounds j true).getD L false = false → S w' := fun hf => by
        rcases h1 with h1 | h1
        · exact (hLt h1 hf).elim
        · exact h'.1 h1
      exact ⟨hs, wpSeqL_sound hn hL hQ r _ _ _ h3 (hc.set hr) (by simp [hsz]) hs h'.2⟩
    · rename_i hw
      rw [if_neg hw] at h
      have hs : (listed.setIfInBounds j true).getD L false = false → S w := fun hf => hS (by
        by_cases e : j = L
        · exact (hLt e hf).elim
        · rw [getD_set_ne false e] at hf; exact hf)
      exact ⟨hs, wpSeqL_sound hn hL hQ r _ _ _ h3 (hc.set hr) (by simp [hsz]) hs h⟩
theorem wp_region_seqL {id : Nat} {a : Act} {w : World} (hm : P.follows .mixedOrders = true) (S : World → Prop) (L : Nat) (l : List (Nat × Nat)) (hb : (Region.noSelect ops && (l.length == ops.size) && decide (L < ops.size) && schedL ops L l (Array.replicate ops.size false)) = true)
    (hS : S w.drew) (h : wpSeqL P ops (NoPanic Q) S l a w.drew) : (Code.region id ops true).wp P Q a w := by
  simp only [Bool.and_eq_true, beq_iff_eq, decide_eq_true_eq] at hb
  obtain ⟨⟨⟨h1, h2⟩, h3⟩, h4⟩ := hb
  refine wp_region_noPanic (wp_region_any hm ?_)
  have hc : ClosedL ops (Array.replicate ops.size false) := fun k o ho hk => by
    have hk' := (Array.getElem?_eq_some_iff.1 ho).1
    simp [hk'] at hk
  have h5 := wpAny_of_L _ _ _ _ (wpSeqL_sound h1 h3 (fun _ _ _ _ _ h => h) l _ a _ h4 hc (by simp) (fun _ => hS) h)
  rw [h2] at h5
  exact h5
variable {r : List (Nat × Nat)} {i : Nat} {o : Oper} {d : Option Tmp} {a : Act} {w : World}
theorem sl_end (h : Q .normal a w) : wpSeqL P ops (NoPanic Q) S [] a w := h
theorem sl_q (ho : ops[i]? = some o) (hd : o.dst = d) (hw : Region.wanted o (yielded ops a.tmps) = true) (v : Value) (hy : ∀ w, (execOp a.eval o).run P w = .ok (.value v) w) (h : wpSeqL P ops Q S r (a.put d v) w) : wpSeqL P ops Q S ((i, 0) :: r) a w := by
  subst hd
  exact ⟨o, ho, v, Or.inl ⟨hw, fun w _ => hy w⟩, h⟩
theorem sl_s (ho : ops[i]? = some o) (hd : o.dst = d) (hw : Region.wanted o (yielded ops a.tmps) = true) (v : Value) (hy : ∀ w, S w → (execOp a.eval o).run P w = .ok (.value v) w) (h : wpSeqL P ops Q S r (a.put d v) w) : wpSeqL P ops Q S ((i, 1) :: r) a w := by
  subst hd
  exact ⟨o, ho, v, Or.inl ⟨hw, hy⟩, h⟩
theorem sl_load (ho : ops[i]? = some o) (hd : o.dst = d) (hw : Region.wanted o (yielded ops a.tmps) = true) (ty : TypeId) (x : Operand) (hop : o.op = .load ty x) (ad : Addr) (hx : a.eval x = .pointer (some ad)) (v : Value) (hy : ∀ w, S w → (loadVar ty ad).run P w = .ok v w) (h : wpSeqL P ops Q S r (a.put d v) w) : wpSeqL P ops Q S ((i, 1) :: r) a w := by
  subst hd
  exact ⟨o, ho, v, yields_load hw ty x hop ad hx hy, h⟩
theorem sl_wp (ho : ops[i]? = some o) (hw : Region.wanted o (yielded ops a.tmps) = true) (h : ∀ K : Act → World → Prop, (∀ a' w', (r.any (fun x => x.2 == 2) = true → S w') → wpSeqL P ops Q S r a' w' → K a' w') → Oper.wp P o a w K Q) : wpSeqL P ops Q S ((i, 2) :: r) a w :=
  ⟨o, ho, by rw [if_pos hw]; exact h _ (fun _ _ hs hr => ⟨hs, hr⟩)⟩
theorem sl_run (ho : ops[i]? = some o) (hd : o.dst = d) (hw : Region.wanted o (yielded ops a.tmps) = true) (v : Value) (w' : World) (hrun : (execOp a.eval o).run P w = .ok (.value v) w') (hS : r.any (fun x => x.2 == 2) = true → S w') (h : wpSeqL P ops Q S r (a.put d v) w') : wpSeqL P ops Q S ((i, 2) :: r) a w := by
  subst hd
  refine sl_wp ho hw fun K hK => ?_
  unfold Oper.wp
  rw [hrun]
  exact hK _ _ hS h
theorem sl_skip (ho : ops[i]? = some o) (hd : o.dst = d) (hw : Region.wanted o (yielded ops a.tmps) = true) (w' : World) (hrun : (execOp a.eval o).run P w = .ok .skip w') (hS : r.any (fun x => x.2 == 2) = true → S w') (h : wpSeqL P ops Q S r (a.put d undef) w') : wpSeqL P ops Q S ((i, 2) :: r) a w := by
  subst hd
  refine sl_wp ho hw fun K hK => ?_
  unfold Oper.wp
  rw [hrun]
  exact hK _ _ hS h
theorem sl_call (ho : ops[i]? = some o) (hd : o.dst = d) (hw : Region.wanted o (yielded ops a.tmps) = true) {f : FuncId} (hf : Has P f) (fo : Operand) (args : Array Operand) (ts : Array TypeId) (hop : o.op = .call { callee := .value fo, args := args, argTypes := ts }) (hfo : a.eval fo = .func (.func f) #[] #[]) (vs : List Value) (hv : args.toList.map a.eval = vs)
    {R : Ending → World → Prop} (hc : Calls P f vs.toArray w R) (h : ∀ e w', R e w' → ∃ v, e = .returned v ∧ (r.any (fun x => x.2 == 2) = true → S w') ∧ wpSeqL P ops Q S r (a.put d v) w') : wpSeqL P ops Q S ((i, 2) :: r) a w := by
  subst hd
  refine sl_wp ho hw fun K hK => ?_
  unfold Oper.wp
  rw [run_call hf fo args ts hop hfo vs hv, Oper.upon_enter]
  refine hc.mono fun e w' hr => ?_
  obtain ⟨v, rfl, h1, h2⟩ := h e w' hr
  exact hK _ _ h1 h2
theorem run_append (s x : Operand) (ts : Array TypeId) (ho : o.op = .call { callee := .builtin .append, args := #[s, x], argTypes := ts }) (v xv : Value) (hs : a.eval s = v) (hx : a.eval x = xv) {v' : Value} {w' : World}
    (hrun : (Builtin.append_ ts o.type #[v, xv]).run P w = .ok v' w') : (execOp a.eval o).run P w = .ok (.value v') w' := by
  unfold execOp
  simp only [ho, resolve, invoke, builtin, Sem.run_bind, Sem.run_pure, Result.andThen_ok, List.map_toArray, List.map_cons, List.map_nil, hs, hx, hrun]
end
end Go.Proofs.YtkpgciimhjkajaaGreatDoor
/- The program's places: valid, weights, the address on a face, the normal place. The corners' table is laid. -/
namespace Go.Proofs.YtkpgciimhjkajaaGreatDoor
open Go Go.RowKit
def Crn (w : World) : Prop := 0 < w.heap.size ∧ ∀ f, f < 20 → w.rangeAt 0 (f * 3) [.int .i64 ((crn f).1 : Int), .int .i64 ((crn f).2.1 : Int), .int .i64 ((crn f).2.2 : Int)]
theorem Crn.below {w w' : World} {B : Nat} (h : Crn w) (hb : Below B w w') (hB : 0 < B) : Crn w' := ⟨Nat.lt_of_lt_of_le h.1 hb.size, fun f hf j u hj => by
  rw [hb.cell (p := ⟨0, f * 3 + j, none⟩) hB]; exact h.2 f hf j u hj⟩
theorem Crn.then {w w' : World} (h : Crn w) (hb : Below w.heap.size w w') : Crn w' := h.below hb h.1
theorem Crn.at {w : World} (h : Crn w) (f : Nat) (hf : f < 20) : w.cell? ⟨0, f * 3, none⟩ = some (.int .i64 ((crn f).1 : Int)) ∧ w.cell? ⟨0, f * 3 + 1, none⟩ = some (.int .i64 ((crn f).2.1 : Int)) ∧ w.cell? ⟨0, f * 3 + 2, none⟩ = some (.int .i64 ((crn f).2.2 : Int)) :=
  ⟨h.2 f hf 0 _ rfl, h.2 f hf 1 _ rfl, h.2 f hf 2 _ rfl⟩
theorem pface_any (f : Nat) (hf : f < 20) (w : World) : Calls Tryz.prog 160 #[.int .i64 f] w fun e w' => e = .returned (.bool true) ∧ w = w' := by
  have h0 : (0 : Int) ≤ (f : Int) := by omega
  have h1 : (f : Int) < 20 := by omega
  go_enter Tryz.func160, Tryz.ntmps160
  go_wp2_with fail
  go_ret
  exact ⟨rfl, rfl⟩
theorem ix3_0 (a b c : Int) (w : World) : (Instr.index 97 (.agg #[.int .i64 a, .int .i64 b, .int .i64 c]) (.int .i64 0)).run Tryz.prog w = .ok (.int .i64 a) w := by kernel_rfl
theorem ix3_1 (a b c : Int) (w : World) : (Instr.index 97 (.agg #[.int .i64 a, .int .i64 b, .int .i64 c]) (.int .i64 1)).run Tryz.prog w = .ok (.int .i64 b) w := by kernel_rfl
theorem ix3_2 (a b c : Int) (w : World) : (Instr.index 97 (.agg #[.int .i64 a, .int .i64 b, .int .i64 c]) (.int .i64 2)).run Tryz.prog w = .ok (.int .i64 c) w := by kernel_rfl
set_option maxHeartbeats 4000000 in
set_option maxRecDepth 100000 in
theorem pvalid_any (f : Nat) (a b c : Int) (hf : f < 20) (ha : 0 ≤ a ∧ a ≤ 840) (hb : 0 ≤ b ∧ b ≤ 840) (hc : 0 ≤ c ∧ c ≤ 840) (q : Bool) (hq : q = decide (a + b + c = 840)) (w : World) : Calls Tryz.prog 128 #[Pl.val ⟨f, a, b, c⟩] w fun e w' => e = .returned (.bool q) ∧ Below w.heap.size w w' := by
  have HF := Lib.hid (fun w' => pface_any f hf w')
  have HQ := Lib.hid hq
  have HB : Hid (Below w.heap.size w (w.alloc (.cells #[.int .i64 f, .int .i64 a, .int .i64 b, .int .i64 c] 122))) := (Below.refl _ _).alloc (Nat.le_refl _) _
  obtain ⟨a0, a1⟩ := ha
  obtain ⟨b0, b1⟩ := hb
  obtain ⟨c0, c1⟩ := hc
  have d0 : decide (a < 0) = false := decide_eq_false (by omega)
  have d1 : decide (b < 0) = false := decide_eq_false (by omega)
  have d2 : decide (c < 0) = false := decide_eq_false (by omega)
  have d3 : decide (840 < a) = false := decide_eq_false (by omega)
  have d4 : decide (840 < b) = false := decide_eq_false (by omega)
  have d5 : decide (840 < c) = false := decide_eq_false (by omega)
  have e0 : IntKind.i64.wrap (a + b) = a + b := IntWalk.i64_in _ (by omega)
  have e1 : IntKind.i64.wrap (a + b + c) = a + b + c := IntWalk.i64_in _ (by omega)
  have i0 := ix3_0 a b c
  have i1 := ix3_1 a b c
  have i2 := ix3_2 a b c
  clear hq hf
  unfold Pl.val
  go_enter Tryz.func128, Tryz.ntmps128
  go_wp2_with fail
  refine wp_loop_rounds 4 ?_
  repeat any_goals (rw [rounds_succ]; go_wp2_with fail)
  refine (HF.out _).mono ?_
  rintro e w1 ⟨rfl, rfl⟩
  go_wp2_with fail
  go_ret
  exact ⟨by rw [HQ.out]; rfl, HB.out⟩
theorem rowT_pw : RowT 194 12 := ⟨by kernel_rfl, _, Tryz.underlying194, rfl⟩
set_option maxHeartbeats 16000000 in
set_option maxRecDepth 100000 in
theorem pof_any (f : Nat) (hf : f < 20) (a b c : Int) (w : World) (hcr : Crn w) : Calls Tryz.prog 129 #[Pl.val ⟨f, a, b, c⟩] w fun e w' => e = .returned (wgtV ⟨f, a, b, c⟩) ∧ Below w.heap.size w w' := by
  obtain ⟨h0, h1, h2⟩ := crn_lt f
  obtain ⟨e0, e1, e2⟩ := crn_ne f hf
  have HCr := Lib.hid (fun w' (h : Below w.heap.size w w') => (hcr.then h).at f hf)
  have fi : (f : Int) < 20 := by omega
  have HW : Hid (wgtV ⟨f, a, b, c⟩ = .agg ((((List.replicate 12 (Value.int .i64 0)).set (crn f).1 (.int .i64 a)).set (crn f).2.1 (.int .i64 b)).set (crn f).2.2 (.int .i64 c)).toArray) := by
    unfold Hid wgtV wgt
    simp [List.map_set]
  rw [HW.out]
  unfold Pl.val
  generalize (crn f).1 = x at *
  generalize (crn f).2.1 = y at *
  generalize (crn f).2.2 = z at *
  have x0 : (0 : Int) ≤ (x : Int) := by omega
  have y0 : (0 : Int) ≤ (y : Int) := by omega
  have z0 : (0 : Int) ≤ (z : Int) := by omega
  have x1 : (x : Int) < 12 := by omega
  have y1 : (y : Int) < 12 := by omega
  have z1 : (z : Int) < 12 := by omega
  clear h0 h1 h2 hf HW hcr
  go_enter Tryz.func129, Tryz.ntmps129
  go_upto_region 2 with fail
  obtain ⟨w1, hw1⟩ : ∃ w1, w1 = ((w.alloc (.cells #[.int .i64 f, .int .i64 a, .int .i64 b, .int .i64 c] 122)).alloc (.cells (List.replicate 12 (Value.int .i64 0)).toArray 194)).alloc (.cells (List.replicate 12 (Value.int .i64 0)).toArray 194) := ⟨_, rfl⟩
  have hw1e := hw1
  simp only [List.replicate] at hw1e
  rw [← hw1e]
  have hb : Below (((w.alloc (.cells #[.int .i64 f, .int .i64 a, .int .i64 b, .int .i64 c] 122)).alloc (.cells (List.replicate 12 (Value.int .i64 0)).toArray 194)).alloc (.cells (List.replicate 12 (Value.int .i64 0)).toArray 194)).heap.size (((w.alloc (.cells #[.int .i64 f, .int .i64 a, .int .i64 b, .int .i64 c] 122)).alloc (.cells (List.replicate 12 (Value.int .i64 0)).toArray 194)).alloc (.cells (List.replicate 12 (Value.int .i64 0)).toArray 194)) w1 := by rw [hw1]; exact Below.refl _ _
  obtain ⟨r0, r1, r2⟩ := HCr.out w1 (by rw [hw1]; exact ((((Below.refl _ _).alloc (Nat.le_refl _) _).alloc (by simp) _).alloc (by simp; omega) _))
  have kf : w1.cell? ⟨w.heap.size, 0, none⟩ = some (.int .i64 (f : Int)) := by rw [hw1]; exact cell_alloc _ (cell_alloc _ (by simp))
  clear hw1 hw1e
  go_upto_region 3 with fail
  clear r0 r1 r2 HCr kf
  obtain ⟨wz, hwz⟩ : ∃ wz, wz = w1.alloc (.cells #[.int .i64 x, .int .i64 y, .int .i64 z] 97) := ⟨_, rfl⟩
  obtain ⟨cb, hcb⟩ : ∃ cb, cb = w1.heap.size := ⟨_, rfl⟩
  obtain ⟨hh, hhe⟩ : ∃ hh, hh = w.heap.size + 1 + 1 := ⟨_, rfl⟩
  have k0 : wz.cell? ⟨w.heap.size, 1, none⟩ = some (.int .i64 a) := by rw [hwz]; exact cell_alloc _ (cell_then hb (cell_alloc _ (cell_alloc _ (by simp))))
  have k1 : wz.cell? ⟨w.heap.size, 2, none⟩ = some (.int .i64 b) := by rw [hwz]; exact cell_alloc _ (cell_then hb (cell_alloc _ (cell_alloc _ (by simp))))
  have k2 : wz.cell? ⟨w.heap.size, 3, none⟩ = some (.int .i64 c) := by rw [hwz]; exact cell_alloc _ (cell_then hb (cell_alloc _ (cell_alloc _ (by simp))))
  have l0 : wz.cell? ⟨cb, 0, none⟩ = some (.int .i64 x) := by rw [hwz, hcb]; simp
  have l1 : wz.cell? ⟨cb, 1, none⟩ = some (.int .i64 y) := by rw [hwz, hcb]; simp
  have l2 : wz.cell? ⟨cb, 2, none⟩ = some (.int .i64 z) := by rw [hwz, hcb]; simp
  have hsz : hh < w1.heap.size := by have := hb.size; simp at this; omega
  have KA : ∀ j : Nat, j < 12 → wz.cell? ⟨hh, j, none⟩ = some (.int .i64 0) := by
    intro j hj
    rw [hwz, hhe]
    refine cell_alloc _ (cell_then hb (cell_new _ _ _ (by simp) ?_))
    have : j = 0 ∨ j = 1 ∨ j = 2 ∨ j = 3 ∨ j = 4 ∨ j = 5 ∨ j = 6 ∨ j = 7 ∨ j = 8 ∨ j = 9 ∨ j = 10 ∨ j = 11 := by omega
    rcases this with rfl | rfl | rfl | rfl | rfl | rfl | rfl | rfl | rfl | rfl | rfl | rfl <;> simp
  have KF : ∀ j : Nat, wz.frozen? ⟨hh, j, none⟩ = false := by
    intro j
    have h1 : (w1.alloc (.cells #[.int .i64 x, .int .i64 y, .int .i64 z] 97)).frozen? ⟨hh, j, none⟩ = w1.frozen? ⟨hh, j, none⟩ := World.frozen?_of_block (w := w1) (Below.heap_alloc _ _ _ hsz)
    rw [hwz, h1, hhe, hb.frozen (p := ⟨w.heap.size + 1 + 1, j, none⟩) (by simp)]
    exact soft_new _ _ _ (by simp) j
  have m0 := KA x (by omega)
  have m1 := KA y (by omega)
  have m2 := KA z (by omega)
  have n0 := KF x
  have n1 := KF y
  have n2 := KF z
  have g0 : ¬ hh = cb := by omega
  have g1 : ¬ hh = w.heap.size := by omega
  have g2 : ¬ cb = hh := by omega
  have g3 : ¬ w.heap.size = hh := by omega
  rw [← hwz, ← hcb, ← hhe]
  have HKA := Lib.hid KA
  have HKF := Lib.hid KF
  have HB := Lib.hid hb
  have Hwz := Lib.hid hwz
  have Hhe := Lib.hid hhe
  have Hsz := Lib.hid hsz
  clear KA KF hb hwz hcb hhe hsz
  have d0 : ¬ x = y := e0
  have d1 : ¬ x = z := e1
  have d2 : ¬ y = z := e2
  have d3 : ¬ y = x := fun e => e0 e.symm
  have d4 : ¬ z = x := fun e => e1 e.symm
  have d5 : ¬ z = y := fun e => e2 e.symm
  clear e0 e1 e2
  have HR : Hid (RowAt wz hh (List.replicate 12 (Value.int .i64 0))) := by
    refine ⟨by simp, fun i hi => ?_, fun i hi => HKF.out i⟩
    rw [List.length_replicate] at hi
    rw [HKA.out i hi, List.getElem?_replicate, if_pos hi]
  have HR2 : Hid (RowAt wz (w.heap.size + 1) (List.replicate 12 (Value.int .i64 0))) := by
    unfold Hid
    rw [Hwz.out]
    exact ((((RowAt.new _ (List.replicate 12 (Value.int .i64 0)) (by simp) _ (by simp)).alloc _).below HB.out).alloc _)
  have Hb1 : Hid (w.heap.size + 1 < hh) := by unfold Hid; have := Hhe.out; omega
  have Hfin : Hid (Below w.heap.size w wz) := by
    unfold Hid
    rw [Hwz.out]
    exact (((((Below.refl _ _).alloc (Nat.le_refl _) _).alloc (by simp) _).alloc (by simp; omega) _).trans (HB.out.mono (by simp; omega))).alloc (by have := HB.out.size; simp at this; omega) _
  go_region
  obtain ⟨wy, hwy⟩ : ∃ wy, wy = ((wz.setCell ⟨hh, x, none⟩ (.int .i64 a)).setCell ⟨hh, y, none⟩ (.int .i64 b)).setCell ⟨hh, z, none⟩ (.int .i64 c) := ⟨_, rfl⟩
  have HRy : Hid (RowAt wy hh ((((List.replicate 12 (Value.int .i64 0)).set x (.int .i64 a)).set y (.int .i64 b)).set z (.int .i64 c))) := by
    unfold Hid; rw [hwy]
    exact ((HR.out.set x (by simp; omega) _).set y (by simp; omega) _).set z (by simp; omega) _
  have HR2y : Hid (RowAt wy (w.heap.size + 1) (List.replicate 12 (Value.int .i64 0))) := by
    unfold Hid; rw [hwy]
    exact ((HR2.out.other (by have := Hb1.out; simp; omega) _).other (by have := Hb1.out; simp; omega) _).other (by have := Hb1.out; simp; omega) _
  have Hfy : Hid (Below w.heap.size w wy) := by
    unfold Hid; rw [hwy]
    exact ((Hfin.out.setCell (by have := Hb1.out; simp; omega) _).setCell (by have := Hb1.out; simp; omega) _).setCell (by have := Hb1.out; simp; omega) _
  rw [← hwy]
  clear hwy
  have ho : ∀ v ∈ ((((List.replicate 12 (Value.int .i64 0)).set x (.int .i64 a)).set y (.int .i64 b)).set z (.int .i64 c)), v.oneCell' = true := by
    intro v hv
    rcases List.mem_or_eq_of_mem_set hv with hv | rfl
    · rcases List.mem_or_eq_of_mem_set hv with hv | rfl
      · rcases List.mem_or_eq_of_mem_set hv with hv | rfl
        · rw [(List.mem_replicate.1 hv).2]; rfl
        · rfl
      · rfl
    · rfl
  have Ho := Lib.hid ho
  clear ho HR HR2 Hfin HKA HKF HB Hwz k0 k1 k2 l0 l1 l2 m0 m1 m2 n0 n1 n2
  go_wp2_with (first
    | (refine row_load rfl _ rfl _ rfl _ HRy.out (by rw [List.length_set, List.length_set, List.length_set, List.length_replicate]; exact rowT_pw) ?_)
    | (refine row_store rfl _ _ rfl _ rfl _ _ rfl HR2y.out (by simp) (by rw [List.length_replicate]; exact rowT_pw) Ho.out ?_; intro wq EQ HQ))
  refine ret_row rfl _ _ EQ (by rw [List.length_set, List.length_set, List.length_set, List.length_replicate]; exact rowT_pw) rfl rfl ⟨rfl, Hfy.out.drew.trans (HQ.below (B := w.heap.size) (Nat.le_succ _))⟩
end Go.Proofs.YtkpgciimhjkajaaGreatDoor
/- A value of many cells stored whole, in a region that draws (com/XSeqL). No walk. -/
namespace Go.Proofs.YtkpgciimhjkajaaGreatDoor
open Go Go.RowKit
theorem run_row_store {w : World} {t : TypeId} {b : Nat} {cs cs' : List Value} (h : RowAt w b cs) (hl : cs'.length = cs.length) (ht : RowT t cs.length) (h1 : ∀ v ∈ cs', v.oneCell' = true) :
    ∃ w', (Instr.storeAt t (.pointer (some ⟨b, 0, none⟩)) (.agg cs'.toArray)).run Tryz.prog w = .ok () w' ∧ RowAt w' b cs' ∧ ApartR b w w' := by
  have hth : w.there b 0 cs'.length := h.there (by omega)
  have hrun := run_storeAt_mid (P := Tryz.prog) w b 0 t cs'.toArray (by rw [List.size_toArray]; exact hth) (by rw [ht.1, List.size_toArray, hl]) (all_oneCell_toArray h1)
  refine ⟨w.setCells b 0 cs', hrun, ?_, apartR_setCells _ _ _ _⟩
  refine ⟨by rw [hl]; exact h.1, fun i hi => ?_, fun i hi => ?_⟩
  · have := w.rangeAt_setCells_same b 0 cs' hth i _ (List.getElem?_eq_getElem hi)
    rw [Nat.zero_add] at this
    rw [List.getElem?_eq_getElem hi]
    exact this
  · rw [World.frozen?_setCells]; exact h.2.2 i (by omega)
theorem sl_rowst {ops : Array Oper} {Q : Exit → Act → World → Prop} {S : World → Prop} {r : List (Nat × Nat)} {i : Nat} {o : Oper} {a : Act} {w : World} {d : Option Tmp} (ho : ops[i]? = some o) (hd : o.dst = d) (hw : Region.wanted o (yielded ops a.tmps) = true)
    {t : TypeId} (x y : Operand) (hop : o.op = .store t x y) (b : Nat) (hx : a.eval x = .pointer (some ⟨b, 0, none⟩)) (cs cs' : List Value) (hy : a.eval y = .agg cs'.toArray) (h : RowAt w b cs) (hl : cs'.length = cs.length) (ht : RowT t cs.length) (h1 : ∀ v ∈ cs', v.oneCell' = true)
    (k : ∀ w', RowAt w' b cs' → ApartR b w w' → (r.any (fun x => x.2 == 2) = true → S w') ∧ wpSeqL Tryz.prog ops Q S r (a.put d undef) w') : wpSeqL Tryz.prog ops Q S ((i, 2) :: r) a w := by
  obtain ⟨w', h2, h3, h4⟩ := run_row_store h hl ht h1
  obtain ⟨k1, k2⟩ := k w' h3 h4
  refine sl_skip (d := d) ho hd hw w' ?_ k1 k2
  unfold execOp
  simp only [hop, hx, hy, Sem.run_bind, h2, Result.andThen_ok, Sem.run_pure]
end Go.Proofs.YtkpgciimhjkajaaGreatDoor
