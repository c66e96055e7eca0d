/- Part 6 of the proof: laws on memory and what functions of the program return. No conditions but those that each theorem names. -/
import Derived.Test.YtkpgciimhjkajaaGreatDoorR05
import Derived.Laws.StructEq
import Derived.Maps.AppendAt
set_option linter.unusedVariables false
set_option linter.unusedSimpArgs false
/- The program's grid: its cells sorted, its edges sorted. -/
namespace Go.Proofs.YtkpgciimhjkajaaGreatDoor
open Go Go.RowKit Go.Sort Go.Lib
theorem flat_cells (l : List Tri) : flatK tcl 3 l.toArray = (tcells l).toArray := by
  apply Array.ext
  · simp [tcells_length]
  · intro t h1 h2
    have ht : t < l.length * 3 := by simpa using h1
    rw [← getElem!_pos (flatK tcl 3 l.toArray) t h1, get_flatK tcl 3 l.toArray t (by simpa using ht)]
    have hq : t / 3 < l.length := by omega
    have h3 := tcells_at l (t / 3) hq (t % 3) (by omega)
    have e3 : t / 3 * 3 + t % 3 = t := by omega
    rw [e3] at h3
    have e4 : l.toArray[t / 3]! = l[t / 3] := by simp [hq]
    rw [e4, List.getElem_toArray]
    have h6 : (tcells l)[t]? = some ((tcells l)[t]'(by rw [tcells_length]; exact ht)) := List.getElem?_eq_getElem _
    rw [h6] at h3
    have h7 : (tcl l[t / 3])[t % 3]? = some ((tcl l[t / 3])[t % 3]'(by show _ < 3; omega)) := List.getElem?_eq_getElem _
    rw [h7] at h3
    rw [getElem!_pos _ _ (by show _ < 3; omega)]
    exact (Option.some.inj h3).symm
set_option maxHeartbeats 4000000 in
theorem sort_cells (w : World) (base g cap : Nat) (l : List Tri) (hO : w.ownsRow base 114 3 (.slice (some ⟨g, 0, none⟩) l.length cap) l.length (tcells l)) (hl : l.length ≤ 100000) :
    Calls Tryz.prog 100 #[.slice (some ⟨g, 0, none⟩) l.length cap, .func (.func 101) #[] #[]] w fun e w' => e = .returned (.tuple #[]) ∧ ∃ l' : List Tri, l'.Perm l ∧ l'.Pairwise LeT ∧ w'.ownsRow base 114 3 (.slice (some ⟨g, 0, none⟩) l.length cap) l.length (tcells l') ∧ w.grownBy w' (some g) := by
  have eg : ∀ args w, (callFunc 101 args).run Tryz.prog w = .ok (.enter 101 args) w := enters_of Tryz.func101 (by kernel_rfl) rfl
  obtain ⟨h1, h2⟩ := hO
  rcases h2 with ⟨e, _⟩ | ⟨g', cap', cur, e, hg, hh, hc, hm, hsz, htk⟩
  · cases e
  · obtain ⟨rfl, rfl⟩ : g = g' ∧ cap = cap' := by simpa using e
    have hlt : g < w.heap.size := (Array.getElem?_eq_some_iff.1 hh).1
    have hH : HoldsK tcl 3 w g 0 l.toArray := by
      unfold HoldsK
      rw [flat_cells]
      intro j hj
      have hj : j < (tcells l).length := by simpa using hj
      have hj2 : j < l.length * 3 := by rw [tcells_length] at hj; exact hj
      have h3 : (cur.toList.take (l.length * 3))[j]? = cur.toList[j]? := List.getElem?_take_of_lt hj2
      rw [htk] at h3
      refine ⟨?_, ?_⟩
      · simp only [World.cell?, hh, Nat.zero_add]
        have h4 : cur[j]? = (tcells l)[j]? := by rw [h3, Array.getElem?_toList]
        show cur[j]? = some ((tcells l).toArray[j]!)
        rw [h4, getElem!_pos _ j (by simpa using hj), List.getElem_toArray]
        exact List.getElem?_eq_getElem hj
      · simp [World.frozen?, hh]
    have hcon := AnyQ.slices_SortFunc Tryz.sortCells 3 Tryz.isAgg114 Tryz.sizeOf114 tcl (fun _ => rfl) (fun x v hv => by simp [tcl] at hv; rcases hv with rfl | rfl | rfl <;> rfl) cfT swoT 101 #[] g 0 cap l.toArray w eg (fun _ _ _ _ x y => cmpCells_any x y _) hH hlt (by simp; omega)
    refine hcon.mono ?_
    rintro e w' ⟨rfl, d', n, os, hp, hs, rfl⟩
    obtain ⟨p1, _, p3⟩ := hp
    have hsd : d'.size = l.length := by simpa using p1
    have hperm : d'.toList.Perm l := by
      have e1 : d'.extract 0 l.toArray.size = d' := by rw [← p1, Array.extract_size]
      have e2 : l.toArray.extract 0 l.toArray.size = l.toArray := Array.extract_size
      rw [e1, e2] at p3
      simpa using p3
    refine ⟨rfl, d'.toList, hperm, ?_, ?_, ?_⟩
    · rw [List.pairwise_iff_getElem]
      intro i j hi hj hij
      have := hs i j (Nat.zero_le _) hij (by simp at hj; simp; omega)
      rw [ltT_iff] at this
      have hi' : i < d'.size := by simpa using hi
      have hj' : j < d'.size := by simpa using hj
      rw [getElem!_pos d' i hi', getElem!_pos d' j hj'] at this
      unfold LeT
      simpa using this
    · have ef : flatK tcl 3 d' = (tcells d'.toList).toArray := by have := flat_cells d'.toList; simpa using this
      have hl' : (tcells d'.toList).length = l.length * 3 := by rw [tcells_length, Array.length_toList, hsd]
      refine ⟨hl', .inr ⟨g, cap, putCells id 0 (tcells d'.toList).toArray cur, rfl, hg, ?_, hc, hm, by simp [putCells, hsz], ?_⟩⟩
      · unfold sortWorldK putRowK
        rw [ef]
        rw [heap_grow_old _ _ (by simpa using hlt)]
        simp [putRow, mapBlock, Sort.ahead, Array.getElem?_modify, hh, onCells]
      · rw [← hl']
        have hle : (tcells d'.toList).length ≤ cur.size := by rw [hl', hsz]; exact Nat.mul_le_mul_right _ hc
        generalize tcells d'.toList = ts at *
        apply List.ext_getElem?
        intro j
        by_cases hj : j < ts.length
        · rw [List.getElem?_take_of_lt hj, Array.getElem?_toList]
          simp [putCells, hj, show j < cur.size by omega]
        · rw [List.getElem?_take_eq_none (by omega), List.getElem?_eq_none (by omega)]
    · unfold sortWorldK putRowK
      refine ⟨rfl, rfl, rfl, by simp, fun k hk hne => ?_⟩
      rw [heap_grow_old _ _ (by simpa using hk)]
      have : g ≠ k := fun e => hne (by rw [e])
      simp [putRow, mapBlock, Sort.ahead, Array.getElem?_modify, this]
theorem flat_edges (l : List Ed) : flatK ecl 2 l.toArray = (ecells l).toArray := by
  apply Array.ext
  · simp [ecells_length]
  · intro t h1 h2
    have ht : t < l.length * 2 := by simpa using h1
    rw [← getElem!_pos (flatK ecl 2 l.toArray) t h1, get_flatK ecl 2 l.toArray t (by simpa using ht)]
    have hq : t / 2 < l.length := by omega
    have h3 := ecells_at l (t / 2) hq (t % 2) (by omega)
    have e3 : t / 2 * 2 + t % 2 = t := by omega
    rw [e3] at h3
    have e4 : l.toArray[t / 2]! = l[t / 2] := by simp [hq]
    rw [e4, List.getElem_toArray]
    have h6 : (ecells l)[t]? = some ((ecells l)[t]'(by rw [ecells_length]; exact ht)) := List.getElem?_eq_getElem _
    rw [h6] at h3
    have h7 : (ecl l[t / 2])[t % 2]? = some ((ecl l[t / 2])[t % 2]'(by show _ < 2; omega)) := List.getElem?_eq_getElem _
    rw [h7] at h3
    rw [getElem!_pos _ _ (by show _ < 2; omega)]
    exact (Option.some.inj h3).symm
set_option maxHeartbeats 4000000 in
theorem sort_edges (w : World) (base g cap : Nat) (l : List Ed) (hO : w.ownsRow base 95 2 (.slice (some ⟨g, 0, none⟩) l.length cap) l.length (ecells l)) (hl : l.length ≤ 100000) :
    Calls Tryz.prog 104 #[.slice (some ⟨g, 0, none⟩) l.length cap, .func (.func 105) #[] #[]] w fun e w' => e = .returned (.tuple #[]) ∧ ∃ l' : List Ed, l'.Perm l ∧ l'.Pairwise LeE ∧ w'.ownsRow base 95 2 (.slice (some ⟨g, 0, none⟩) l.length cap) l.length (ecells l') ∧ w.grownBy w' (some g) := by
  have eg : ∀ args w, (callFunc 105 args).run Tryz.prog w = .ok (.enter 105 args) w := enters_of Tryz.func105 (by kernel_rfl) rfl
  obtain ⟨h1, h2⟩ := hO
  rcases h2 with ⟨e, _⟩ | ⟨g', cap', cur, e, hg, hh, hc, hm, hsz, htk⟩
  · cases e
  · obtain ⟨rfl, rfl⟩ : g = g' ∧ cap = cap' := by simpa using e
    have hlt : g < w.heap.size := (Array.getElem?_eq_some_iff.1 hh).1
    have hH : HoldsK ecl 2 w g 0 l.toArray := by
      unfold HoldsK
      rw [flat_edges]
      intro j hj
      have hj : j < (ecells l).length := by simpa using hj
      have hj2 : j < l.length * 2 := by rw [ecells_length] at hj; exact hj
      have h3 : (cur.toList.take (l.length * 2))[j]? = cur.toList[j]? := List.getElem?_take_of_lt hj2
      rw [htk] at h3
      refine ⟨?_, ?_⟩
      · simp only [World.cell?, hh, Nat.zero_add]
        have h4 : cur[j]? = (ecells l)[j]? := by rw [h3, Array.getElem?_toList]
        show cur[j]? = some ((ecells l).toArray[j]!)
        rw [h4, getElem!_pos _ j (by simpa using hj), List.getElem_toArray]
        exact List.getElem?_eq_getElem hj
      · simp [World.frozen?, hh]
    have hcon := AnyQ.slices_SortFunc Tryz.sortEdges 2 Tryz.isAgg95 Tryz.sizeOf95 ecl (fun _ => rfl) (fun x v hv => by simp [ecl] at hv; rcases hv with rfl | rfl <;> rfl) cfE swoE 105 #[] g 0 cap l.toArray w eg (fun _ _ _ _ x y => cmpEdges_any x y _) hH hlt (by simp; omega)
    refine hcon.mono ?_
    rintro e w' ⟨rfl, d', n, os, hp, hs, rfl⟩
    obtain ⟨p1, _, p3⟩ := hp
    have hsd : d'.size = l.length := by simpa using p1
    have hperm : d'.toList.Perm l := by
      have e1 : d'.extract 0 l.toArray.size = d' := by rw [← p1, Array.extract_size]
      have e2 : l.toArray.extract 0 l.toArray.size = l.toArray := Array.extract_size
      rw [e1, e2] at p3
      simpa using p3
    refine ⟨rfl, d'.toList, hperm, ?_, ?_, ?_⟩
    · rw [List.pairwise_iff_getElem]
      intro i j hi hj hij
      have := hs i j (Nat.zero_le _) hij (by simp at hj; simp; omega)
      rw [ltE_iff] at this
      have hi' : i < d'.size := by simpa using hi
      have hj' : j < d'.size := by simpa using hj
      rw [getElem!_pos d' i hi', getElem!_pos d' j hj'] at this
      unfold LeE
      simpa using this
    · have ef : flatK ecl 2 d' = (ecells d'.toList).toArray := by have := flat_edges d'.toList; simpa using this
      have hl' : (ecells d'.toList).length = l.length * 2 := by rw [ecells_length, Array.length_toList, hsd]
      refine ⟨hl', .inr ⟨g, cap, putCells id 0 (ecells d'.toList).toArray cur, rfl, hg, ?_, hc, hm, by simp [putCells, hsz], ?_⟩⟩
      · unfold sortWorldK putRowK
        rw [ef]
        rw [heap_grow_old _ _ (by simpa using hlt)]
        simp [putRow, mapBlock, Sort.ahead, Array.getElem?_modify, hh, onCells]
      · rw [← hl']
        have hle : (ecells d'.toList).length ≤ cur.size := by rw [hl', hsz]; exact Nat.mul_le_mul_right _ hc
        generalize ecells d'.toList = ts at *
        apply List.ext_getElem?
        intro j
        by_cases hj : j < ts.length
        · rw [List.getElem?_take_of_lt hj, Array.getElem?_toList]
          simp [putCells, hj, show j < cur.size by omega]
        · rw [List.getElem?_take_eq_none (by omega), List.getElem?_eq_none (by omega)]
    · unfold sortWorldK putRowK
      refine ⟨rfl, rfl, rfl, by simp, fun k hk hne => ?_⟩
      rw [heap_grow_old _ _ (by simpa using hk)]
      have : g ≠ k := fun e => hne (by rw [e])
      simp [putRow, mapBlock, Sort.ahead, Array.getElem?_modify, this]
end Go.Proofs.YtkpgciimhjkajaaGreatDoor
/- The program's grid: equal neighbours made one. -/
namespace Go.Proofs.YtkpgciimhjkajaaGreatDoor
open Go Go.RowKit
theorem cpt_snoc {α : Type} [DecidableEq α] (y z : α) : ∀ xs : List α, cpt (xs ++ [y, z]) = if y = z then cpt (xs ++ [y]) else cpt (xs ++ [y]) ++ [z]
  | [] => by
    simp only [List.nil_append, cpt]
    by_cases h : y = z
    · rw [if_pos h, if_pos h, h]
    · rw [if_neg h, if_neg h]; rfl
  | [x] => by
    have := cpt_snoc y z []
    simp only [List.nil_append] at this
    show cpt [x, y, z] = if y = z then cpt [x, y] else cpt [x, y] ++ [z]
    rw [cpt, this]
    by_cases h : x = y
    · rw [if_pos h]; split <;> simp [cpt, h]
    · rw [if_neg h]; split <;> simp [cpt, h]
  | x :: x' :: r => by
    have := cpt_snoc y z (x' :: r)
    show cpt (x :: x' :: (r ++ [y, z])) = if y = z then cpt (x :: x' :: (r ++ [y])) else cpt (x :: x' :: (r ++ [y])) ++ [z]
    rw [cpt, cpt]
    have e1 : x' :: (r ++ [y, z]) = x' :: r ++ [y, z] := rfl
    have e2 : x' :: (r ++ [y]) = x' :: r ++ [y] := rfl
    rw [e1, e2, this]
    by_cases h : x = x'
    · rw [if_pos h, if_pos h]
    · rw [if_neg h, if_neg h]; split <;> simp
theorem cpt_take {α : Type} [DecidableEq α] (l : List α) (t : Nat) (h0 : 0 < t) (ht : t < l.length) : cpt (l.take (t + 1)) = if l[t - 1] = l[t] then cpt (l.take t) else cpt (l.take t) ++ [l[t]] := by
  obtain ⟨s, rfl⟩ : ∃ s, t = s + 1 := ⟨t - 1, by omega⟩
  have e1 : l.take (s + 1 + 1) = l.take s ++ [l[s], l[s + 1]] := by
    rw [List.take_succ_eq_append_getElem ht, List.take_succ_eq_append_getElem (show s < l.length by omega), List.append_assoc]; rfl
  have e2 : l.take (s + 1) = l.take s ++ [l[s]] := List.take_succ_eq_append_getElem (show s < l.length by omega)
  rw [e1, e2]
  exact cpt_snoc _ _ _
theorem cpt_len {α : Type} [DecidableEq α] : ∀ l : List α, (cpt l).length ≤ l.length
  | [] => Nat.le_refl _
  | [x] => by simp [cpt]
  | x :: y :: r => by
    have := cpt_len (y :: r)
    rw [cpt]
    split
    · simp at this ⊢; omega
    · simp at this ⊢; omega
def Pair (cur : List Value) (i : Nat) (e : Ed) : Prop := cur[i * 2]? = some (.int .i64 (e.1 : Int)) ∧ cur[i * 2 + 1]? = some (.int .i64 (e.2 : Int))
structure CpS (w : World) (g cap : Nat) (l : List Ed) (k t : Nat) (wr : World) : Prop where
  row : ∃ cur : List Value, wr.heap[g]? = some (.cells cur.toArray 95 (0, 0)) ∧ cur.length = cap * 2 ∧ (∀ i, (hi : i < (cpt (l.take t)).length) → Pair cur i (cpt (l.take t))[i]) ∧ ∀ i, (hi : i < l.length) → t ≤ i + 1 → Pair cur i l[i]
  len : k = (cpt (l.take t)).length
  grown : w.grownBy wr (some g)
theorem CpS.at {w wr : World} {g cap k t : Nat} {l : List Ed} (h : CpS w g cap l k t wr) (i : Nat) (hi : i < l.length) (ht : t ≤ i + 1) : wr.cell? ⟨g, i * 2, none⟩ = some (.int .i64 (l[i].1 : Int)) ∧ wr.cell? ⟨g, i * 2 + 1, none⟩ = some (.int .i64 (l[i].2 : Int)) := by
  obtain ⟨cur, h1, _, _, h4⟩ := h.row
  obtain ⟨p1, p2⟩ := h4 i hi ht
  simp only [World.cell?, h1]
  constructor
  · simpa using p1
  · simpa using p2
theorem grownBy_refl (w : World) (r : Option Nat) : w.grownBy w r := ⟨rfl, rfl, rfl, Nat.le_refl _, fun _ _ _ => rfl⟩
theorem grownBy_trans {w1 w2 w3 : World} {r : Option Nat} (h : w1.grownBy w2 r) (h2 : w2.grownBy w3 r) : w1.grownBy w3 r := ⟨h2.os.trans h.os, h2.tape.trans h.tape, h2.output.trans h.output, Nat.le_trans h.size h2.size, fun k hk hn => (h2.block k (Nat.lt_of_lt_of_le hk h.size) hn).trans (h.block k hk hn)⟩
theorem CpS.drew {w wr : World} {g cap k t : Nat} {l : List Ed} (h : CpS w g cap l k t wr) : CpS w g cap l k t wr.drew := ⟨h.row, h.len, ⟨h.grown.os, h.grown.tape, h.grown.output, h.grown.size, h.grown.block⟩⟩
theorem CpS.skip {w wr : World} {g cap k t : Nat} {l : List Ed} (h : CpS w g cap l k t wr) (h0 : 0 < t) (ht : t < l.length) (e : l[t - 1] = l[t]) : CpS w g cap l k (t + 1) wr := by
  have hc := cpt_take l t h0 ht
  rw [if_pos e] at hc
  obtain ⟨cur, h1, h2, h3, h4⟩ := h.row
  refine ⟨⟨cur, h1, h2, fun i hi => ?_, fun i hi hti => h4 i hi (by omega)⟩, by rw [hc]; exact h.len, h.grown⟩
  simp only [hc] at hi ⊢
  exact h3 i hi
theorem CpS.there {w wr : World} {g cap k t : Nat} {l : List Ed} (h : CpS w g cap l k t wr) (hk : k < cap) : wr.there g (k * 2) 2 := by
  obtain ⟨cur, h1, h2, _⟩ := h.row
  intro j hj
  have : k * 2 + j < cur.length := by omega
  refine ⟨?_, ?_⟩
  · simp [World.cell?, h1, this]
  · simp [World.frozen?, h1]
theorem CpS.put {w wr : World} {g cap k t : Nat} {l : List Ed} (h : CpS w g cap l k t wr) (h0 : 0 < t) (ht : t < l.length) (hcap : l.length ≤ cap) (e : l[t - 1] ≠ l[t]) :
    CpS w g cap l (k + 1) (t + 1) ((wr.setCell ⟨g, k * 2, none⟩ (.int .i64 (l[t].1 : Int))).setCell ⟨g, k * 2 + 1, none⟩ (.int .i64 (l[t].2 : Int))) := by
  have hc := cpt_take l t h0 ht
  rw [if_neg e] at hc
  obtain ⟨cur, h1, h2, h3, h4⟩ := h.row
  have hlt : g < wr.heap.size := (Array.getElem?_eq_some_iff.1 h1).1
  have hk : k ≤ t := by
    rw [h.len]; exact Nat.le_trans (cpt_len _) (by rw [List.length_take]; omega)
  have e1 := setCell_eq_setRow wr g (k * 2) _ _ _ (.int .i64 (l[t].1 : Int)) h1
  have r1 : (wr.setCell ⟨g, k * 2, none⟩ (.int .i64 (l[t].1 : Int))).heap[g]? = some (.cells (cur.set (k * 2) (.int .i64 (l[t].1 : Int))).toArray 95 (0, 0)) := by
    rw [e1, setRow_heap _ _ _ _ _ _ h1]; simp
  have e2 := setCell_eq_setRow (wr.setCell ⟨g, k * 2, none⟩ (.int .i64 (l[t].1 : Int))) g (k * 2 + 1) _ _ _ (.int .i64 (l[t].2 : Int)) r1
  have r2 : ((wr.setCell ⟨g, k * 2, none⟩ (.int .i64 (l[t].1 : Int))).setCell ⟨g, k * 2 + 1, none⟩ (.int .i64 (l[t].2 : Int))).heap[g]? = some (.cells ((cur.set (k * 2) (.int .i64 (l[t].1 : Int))).set (k * 2 + 1) (.int .i64 (l[t].2 : Int))).toArray 95 (0, 0)) := by
    rw [e2, setRow_heap _ _ _ _ _ _ r1]; simp
  have hother : ∀ i, i ≠ k → ∀ x, Pair cur i x → Pair ((cur.set (k * 2) (.int .i64 (l[t].1 : Int))).set (k * 2 + 1) (.int .i64 (l[t].2 : Int))) i x := fun i hi x hx => by
    obtain ⟨p1, p2⟩ := hx
    exact ⟨by rw [List.getElem?_set_ne (by omega), List.getElem?_set_ne (by omega)]; exact p1, by rw [List.getElem?_set_ne (by omega), List.getElem?_set_ne (by omega)]; exact p2⟩
  have hself : Pair ((cur.set (k * 2) (.int .i64 (l[t].1 : Int))).set (k * 2 + 1) (.int .i64 (l[t].2 : Int))) k l[t] := by
    refine ⟨?_, ?_⟩
    · rw [List.getElem?_set_ne (by omega), List.getElem?_set_self (by omega)]
    · rw [List.getElem?_set_self (by rw [List.length_set]; omega)]
  refine ⟨⟨_, r2, by simpa using h2, fun i hi => ?_, fun i hi hti => ?_⟩, by rw [hc, List.length_append, ← h.len]; rfl, ?_⟩
  · simp only [hc] at hi ⊢
    by_cases hik : i = k
    · subst hik
      have e3 : (cpt (l.take t) ++ [l[t]])[i] = l[t] := by rw [List.getElem_append_right (by rw [← h.len]; omega)]; simp
      rw [e3]; exact hself
    · have hil : i < (cpt (l.take t)).length := by rw [List.length_append, ← h.len] at hi; rw [← h.len]; simp at hi; omega
      rw [List.getElem_append_left hil]
      exact hother i hik _ (h3 i hil)
  · by_cases hik : i = k
    · have : i = t := by omega
      subst this
      subst hik
      exact hself
    · exact hother i hik _ (h4 i hi (by omega))
  · refine grownBy_trans h.grown ⟨rfl, rfl, rfl, by simp [World.setCell], fun j hj hn => ?_⟩
    rw [Below.heap_setCell _ _ _ _ (by intro e; exact hn (by rw [e])), Below.heap_setCell _ _ _ _ (by intro e; exact hn (by rw [e]))]
theorem own_cells {wr : World} {base g cap k : Nat} {l : List Ed} {cur : List Value} (h1 : wr.heap[g]? = some (.cells cur.toArray 95 (0, 0))) (h2 : cur.length = cap * 2) (h3 : ∀ i, (hi : i < (cpt l).length) → Pair cur i (cpt l)[i]) (hl : k = (cpt l).length) (hg : base ≤ g) (hcap : l.length ≤ cap) (hm : cap ≤ maxLen) : wr.ownsRow base 95 2 (.slice (some ⟨g, 0, none⟩) k cap) k (ecells (cpt l)) := by
  have hle := cpt_len l
  refine ⟨by rw [ecells_length, hl], .inr ⟨g, cap, cur.toArray, rfl, hg, h1, by omega, hm, by simpa using h2, ?_⟩⟩
  apply List.ext_getElem?
  intro j
  by_cases hj : j < k * 2
  · rw [List.getElem?_take_of_lt hj]
    have hi : j / 2 < (cpt l).length := by omega
    have e := ecells_at (cpt l) (j / 2) hi (j % 2) (by omega)
    have e3 : j / 2 * 2 + j % 2 = j := by omega
    rw [e3] at e
    rw [e]
    obtain ⟨p1, p2⟩ := h3 (j / 2) hi
    have : j % 2 = 0 ∨ j % 2 = 1 := by omega
    rcases this with hr | hr
    · rw [hr]; have ej : j / 2 * 2 = j := by omega
      rw [ej] at p1; exact p1
    · rw [hr]; have ej : j / 2 * 2 + 1 = j := by omega
      rw [ej] at p2; exact p2
  · rw [List.getElem?_take_eq_none (by omega), List.getElem?_eq_none (by rw [ecells_length]; omega)]
theorem CpS.own {w wr : World} {base g cap k : Nat} {l : List Ed} (h : CpS w g cap l k l.length wr) (hg : base ≤ g) (hcap : l.length ≤ cap) (hm : cap ≤ maxLen) : wr.ownsRow base 95 2 (.slice (some ⟨g, 0, none⟩) k cap) k (ecells (cpt l)) := by
  obtain ⟨cur, h1, h2, h3, _⟩ := h.row
  have hl := h.len
  rw [List.take_length] at h3 hl
  exact own_cells h1 h2 h3 hl hg hcap hm
theorem CpS.keep {w wr : World} {g cap k : Nat} {l : List Ed} (h : CpS w g cap l k k wr) (h0 : 0 < k) (ht : k < l.length) (e : l[k - 1] ≠ l[k]) : CpS w g cap l (k + 1) (k + 1) wr := by
  have hc := cpt_take l k h0 ht
  rw [if_neg e] at hc
  obtain ⟨cur, h1, h2, h3, h4⟩ := h.row
  refine ⟨⟨cur, h1, h2, fun i hi => ?_, fun i hi hti => h4 i hi (by omega)⟩, by rw [hc, List.length_append, ← h.len]; rfl, h.grown⟩
  simp only [hc] at hi ⊢
  by_cases hik : i = k
  · subst hik
    have e3 : (cpt (l.take i) ++ [l[i]])[i] = l[i] := by rw [List.getElem_append_right (by rw [← h.len]; omega)]; simp
    rw [e3]; exact h4 i ht (by omega)
  · have hil : i < (cpt (l.take k)).length := by rw [List.length_append, ← h.len] at hi; rw [← h.len]; simp at hi; omega
    rw [List.getElem_append_left hil]
    exact h3 i hil
theorem CpS.start {w : World} {base g cap : Nat} {l : List Ed} (hO : w.ownsRow base 95 2 (.slice (some ⟨g, 0, none⟩) l.length cap) l.length (ecells l)) (hl : 0 < l.length) : CpS w g cap l 1 1 w := by
  obtain ⟨h1, h2⟩ := hO
  rcases h2 with ⟨e, _⟩ | ⟨g', cap', cur, e, hg, hh, hc, hm, hsz, htk⟩
  · cases e
  · obtain ⟨rfl, rfl⟩ : g = g' ∧ cap = cap' := by simpa using e
    have hp : ∀ i, (hi : i < l.length) → Pair cur.toList i l[i] := by
      intro i hi
      have hq : ∀ j, j < 2 → cur.toList[i * 2 + j]? = (ecl l[i])[j]? := fun j hj => by
        rw [← ecells_at l i hi j hj, ← htk, List.getElem?_take_of_lt (by omega)]
      exact ⟨hq 0 (by omega), hq 1 (by omega)⟩
    obtain ⟨x, r, rfl⟩ : ∃ x r, l = x :: r := by
      cases l with
      | nil => simp at hl
      | cons x r => exact ⟨x, r, rfl⟩
    have e1 : cpt ((x :: r).take 1) = [x] := by simp [cpt]
    refine ⟨⟨cur.toList, by simpa using hh, by simpa using hsz, fun i hi => ?_, fun i hi _ => hp i hi⟩, by rw [e1]; rfl, grownBy_refl _ _⟩
    simp only [e1] at hi ⊢
    have : i = 0 := by simpa using hi
    subst this
    exact hp 0 (by simp)
theorem run_clear2 (w : World) (g o n c : Nat) (cur : List Value) (hg : w.heap[g]? = some (.cells cur.toArray 95 (0, 0))) (hn : 0 < n) (hfit : o + n * 2 ≤ cur.length) :
    ∃ zs : List Value, zs.length = n * 2 ∧ (Builtin.clear_ #[76] 0 #[.slice (some ⟨g, o, none⟩) n c]).run Tryz.prog w = .ok (.tuple #[]) (w.setRow g (cur.take o ++ zs ++ cur.drop (o + zs.length)).toArray) := by
  have hz : ∀ w', (zeroValue 95).run Tryz.prog w' = .ok (.agg #[.int .i64 0, .int .i64 0]) w' := fun w' => by kernel_rfl
  refine ⟨(Builtin.zeroCells (Value.agg #[.int .i64 0, .int .i64 0]).cells n).toList, ?_, ?_⟩
  · simp [Builtin.zeroCells, Value.cells]
  · have hlen : (Builtin.zeroCells (Value.agg #[.int .i64 0, .int .i64 0]).cells n).toList.length = n * 2 := by simp [Builtin.zeroCells, Value.cells]
    have h1 : ∀ v ∈ (Builtin.zeroCells (Value.agg #[.int .i64 0, .int .i64 0]).cells n).toList, v.oneCell' = true := by
      intro v hv
      simp [Builtin.zeroCells, Value.cells] at hv
      obtain ⟨a, _, rfl⟩ := hv
      have : a % 2 = 0 ∨ a % 2 = 1 := by omega
      rcases this with e | e <;> (rw [e]; rfl)
    have hst := run_storeCells_at (P := Tryz.prog) g o 95 _ 0 cur.toArray w hg (by rw [hlen]; simpa using hfit) h1
    obtain ⟨m, rfl⟩ : ∃ m, n = m + 1 := ⟨n - 1, by omega⟩
    simp only [Nat.add_zero] at hst
    simp [Builtin.clear_, run_underlying Tryz.underlying76, hz, hst]
end Go.Proofs.YtkpgciimhjkajaaGreatDoor
/- The program's grid: Compact. -/
namespace Go.Proofs.YtkpgciimhjkajaaGreatDoor
open Go Go.RowKit
theorem CpS.clear {w wr : World} {g cap k t : Nat} {l : List Ed} (h : CpS w g cap l k t wr) (hl : t = l.length) (n : Nat) (hn : k + n ≤ cap) (h0 : 0 < n) (c : Nat) :
    ∃ w', (Builtin.clear_ #[76] 0 #[.slice (some ⟨g, k * 2, none⟩) n c]).run Tryz.prog wr = .ok (.tuple #[]) w' ∧ ∃ cur : List Value, w'.heap[g]? = some (.cells cur.toArray 95 (0, 0)) ∧ cur.length = cap * 2 ∧ (∀ i, (hi : i < (cpt l).length) → Pair cur i (cpt l)[i]) ∧ w.grownBy w' (some g) := by
  subst hl
  obtain ⟨cur, h1, h2, h3, _⟩ := h.row
  have hk := h.len
  rw [List.take_length] at h3 hk
  obtain ⟨zs, hz, hrun⟩ := run_clear2 wr g (k * 2) n c cur h1 h0 (by omega)
  have htk : (cur.take (k * 2)).length = k * 2 := by rw [List.length_take]; omega
  refine ⟨_, hrun, _, setRow_heap _ _ _ _ _ _ h1, ?_, fun i hi => ?_, grownBy_trans h.grown ⟨rfl, rfl, rfl, by rw [setRow_size]; exact Nat.le_refl _, fun j hj hne => setRow_other _ _ _ _ (by intro e; exact hne (by rw [e]))⟩⟩
  · rw [List.length_append, List.length_append, htk, hz, List.length_drop]; omega
  · obtain ⟨p1, p2⟩ := h3 i hi
    refine ⟨?_, ?_⟩
    · rw [List.append_assoc, List.getElem?_append_left (by rw [htk]; omega), List.getElem?_take_of_lt (by omega)]; exact p1
    · rw [List.append_assoc, List.getElem?_append_left (by rw [htk]; omega), List.getElem?_take_of_lt (by omega)]; exact p2
theorem rowT_e : RowT 95 2 := ⟨by kernel_rfl, _, Tryz.underlying95, rfl⟩
theorem ed_load {w : World} {g o : Nat} {a b : Value} (h1 : w.cell? ⟨g, o, none⟩ = some a) (h2 : w.cell? ⟨g, o + 1, none⟩ = some b) : (loadVar 95 ⟨g, o, none⟩).run Tryz.prog w = .ok (.agg #[a, b]) w := by
  obtain ⟨h0, d, hd1, hd2⟩ := rowT_e
  exact run_loadVar_mid w g o _ [a, b] d (fun j v hj => by match j, hj with
    | 0, hj => simp at hj; subst hj; exact h1
    | 1, hj => simp at hj; subst hj; exact h2
    | j + 2, hj => simp at hj) hd1 hd2 h0
theorem ed_ne {x y : Ed} (h : x ≠ y) : (x.1 : Int) = (y.1 : Int) → ¬ (x.2 : Int) = (y.2 : Int) := fun a b => h (Prod.ext (by omega) (by omega))
set_option maxHeartbeats 16000000 in
set_option maxRecDepth 100000 in
theorem compact_any (w : World) (base g cap : Nat) (l : List Ed) (hO : w.ownsRow base 95 2 (.slice (some ⟨g, 0, none⟩) l.length cap) l.length (ecells l)) (h2 : 2 ≤ l.length) (hl : l.length ≤ 100000) :
    Calls Tryz.prog 106 #[.slice (some ⟨g, 0, none⟩) l.length cap] w fun e w' => e = .returned (.slice (some ⟨g, 0, none⟩) (cpt l).length cap) ∧ w'.ownsRow base 95 2 (.slice (some ⟨g, 0, none⟩) (cpt l).length cap) (cpt l).length (ecells (cpt l)) ∧ w.grownBy w' (some g) := by
  have HS0 := Lib.hid (CpS.start hO (by omega))
  have HF : Hid (base ≤ g ∧ l.length ≤ cap ∧ cap ≤ maxLen) := by
    rcases hO.2 with ⟨e, _⟩ | ⟨g', cap', cur, e, hg, hh, hc, hm, hsz, htk⟩
    · cases e
    · obtain ⟨rfl, rfl⟩ : g = g' ∧ cap = cap' := by simpa using e
      exact ⟨hg, hc, hm⟩
  obtain ⟨n, hn⟩ : ∃ n, n = l.length := ⟨_, rfl⟩
  have Hn := Lib.hid hn
  rw [← hn] at h2 hl ⊢
  have n0 : ¬ (n : Int) < 2 := by omega
  have n1 : (n : Int) ≤ 100000 := by omega
  have hcp : (n : Int) ≤ (cap : Int) := by have := HF.out.2.1; omega
  clear hn hO
  go_enter Tryz.func106, Tryz.ntmps106
  go_wp2_with fail
  go_loopw [3] (fun kv wr => ∃ k : Nat, kv = .int .i64 k ∧ 1 ≤ k ∧ k ≤ n ∧ Hid (CpS w g cap l k k wr)) (fun kv _ => (200000 - intOf kv).toNat)
  case atStart => exact ⟨1, rfl, by omega, by omega, HS0⟩
  case round =>
    clear HS0
    obtain ⟨k, rfl, hk1, hk, hs⟩ := hrel
    by_cases hlt : k < n
    · have k0 : (k : Int) < (n : Int) := by omega
      have hkl : k < l.length := by rw [← Hn.out]; exact hlt
      obtain ⟨j, rfl⟩ : ∃ j, k = j + 1 := ⟨k - 1, by omega⟩
      have hjl : j < l.length := by omega
      obtain ⟨x1, x2⟩ := hs.out.at (j + 1) hkl (by omega)
      obtain ⟨y1, y2⟩ := hs.out.at j hjl (by omega)
      have HKeep := Lib.hid (fun (e : l[j + 1 - 1] ≠ l[j + 1]) => hs.out.keep (Nat.succ_pos j) hkl e)
      have HSkip := Lib.hid (fun (e : l[j + 1 - 1] = l[j + 1]) => hs.out.skip (Nat.succ_pos j) hkl e)
      simp only [Nat.add_sub_cancel] at HKeep HSkip
      have j2 : ((j + 1 : Nat) : Int) = (j : Int) + 1 := by omega
      have j3 : ((j : Int) + 1 - 1) = (j : Int) := by omega
      have j4 : (j : Int) < (n : Int) := by omega
      have j5 : (0 : Int) ≤ (j : Int) + 1 := by omega
      have j6 : (0 : Int) ≤ (j : Int) := by omega
      rw [j2] at k0 ⊢
      obtain ⟨xe, hxe⟩ : ∃ x, x = l[j + 1] := ⟨_, rfl⟩
      obtain ⟨ye, hye⟩ : ∃ x, x = l[j] := ⟨_, rfl⟩
      rw [← hxe] at x1 x2 HKeep HSkip
      rw [← hye] at y1 y2 HKeep HSkip
      clear hxe hye
      have HW6 : Hid (IntKind.i64.wrap (j : Int) = (j : Int)) := IntWalk.i64_in _ (by omega)
      by_cases he : ye = xe
      · subst he
        have HS := Lib.hid (HSkip.out rfl)
        have HB : Hid (j + 1 < n ∧ j + 1 < cap) := ⟨hlt, by have := HF.out.2.1; have := Hn.out; omega⟩
        have hcne : ¬ cap = j + 1 := by have := HB.out.2; omega
        have hjn : j + 1 ≤ n := by omega
        clear HKeep HSkip
        go_upto_region 6 with fail
        refine wp_region_seqL (by kernel_rfl) (fun w' => (w'.cell? ⟨g, (j + 1) * 2, none⟩ = some (.int .i64 (ye.1 : Int)) ∧ w'.cell? ⟨g, (j + 1) * 2 + 1, none⟩ = some (.int .i64 (ye.2 : Int))) ∧ (w'.cell? ⟨g, j * 2, none⟩ = some (.int .i64 (ye.1 : Int)) ∧ w'.cell? ⟨g, j * 2 + 1, none⟩ = some (.int .i64 (ye.2 : Int)))) 9 [(0, 0), (1, 0), (2, 0), (3, 1), (4, 0), (5, 0), (6, 0), (7, 0), (8, 1), (9, 2)] (by kernel_rfl) (⟨⟨x1, x2⟩, ⟨y1, y2⟩⟩) ?_
        refine sl_q (d := some 16) rfl rfl rfl (.slice (some ⟨g, 0, none⟩) n cap) (fun w => rfl) ?_
        simp only [ap_s, ap_n, ls_z, ls_s]
        refine sl_q (d := some 17) rfl rfl rfl (.int .i64 ((j : Int) + 1)) (fun w => rfl) ?_
        simp only [ap_s, ap_n, ls_z, ls_s]
        refine sl_q (d := some 18) rfl rfl rfl (.pointer (some ⟨g, (j + 1) * 2, none⟩)) (fun w => by simp [execOp, Act.eval, go_sem, k0, j5]) ?_
        simp only [ap_s, ap_n, ls_z, ls_s]
        refine sl_load (d := some 19) rfl rfl rfl _ _ rfl ⟨g, (j + 1) * 2, none⟩ rfl (.agg #[.int .i64 (ye.1 : Int), .int .i64 (ye.2 : Int)]) (fun w hw => ed_load hw.1.1 hw.1.2) ?_
        simp only [ap_s, ap_n, ls_z, ls_s]
        refine sl_q (d := some 20) rfl rfl rfl (.slice (some ⟨g, 0, none⟩) n cap) (fun w => rfl) ?_
        simp only [ap_s, ap_n, ls_z, ls_s]
        refine sl_q (d := some 21) rfl rfl rfl (.int .i64 ((j : Int) + 1)) (fun w => rfl) ?_
        simp only [ap_s, ap_n, ls_z, ls_s]
        refine sl_q (d := some 22) rfl rfl rfl (.int .i64 (j : Int)) (fun w => by simp [execOp, Act.eval, go_sem, HW6.out]) ?_
        simp only [ap_s, ap_n, ls_z, ls_s]
        refine sl_q (d := some 23) rfl rfl rfl (.pointer (some ⟨g, j * 2, none⟩)) (fun w => by simp [execOp, Act.eval, go_sem, j4, j6]) ?_
        simp only [ap_s, ap_n, ls_z, ls_s]
        refine sl_load (d := some 24) rfl rfl rfl _ _ rfl ⟨g, j * 2, none⟩ rfl (.agg #[.int .i64 (ye.1 : Int), .int .i64 (ye.2 : Int)]) (fun w hw => ed_load hw.2.1 hw.2.2) ?_
        simp only [ap_s, ap_n, ls_z, ls_s]
        refine sl_run (d := some 25) rfl rfl rfl (.bool true) wr.drew (by simp [execOp, Act.eval, go_sem]) (fun h => by cases h) ?_
        simp only [ap_s, ap_n, ls_z, ls_s]
        refine sl_end ?_
        clear x1 x2 y1 y2
        go_wp2_with fail
        obtain ⟨k0', hk0'⟩ : ∃ x, x = j + 1 := ⟨_, rfl⟩
        obtain ⟨wout, rfl⟩ : ∃ wout : World, wout = wr := ⟨_, rfl⟩
        have HS2 : Hid (CpS w g cap l k0' (k0' + 1) wout.drew) := by rw [hk0']; exact HS.out.drew
        have HJ2 : Hid ((j : Int) + 1 = (k0' : Int)) := by unfold Hid; rw [hk0']; omega
        have HJ : Hid (k0' < n ∧ k0' < cap) := by rw [hk0']; exact HB.out
        have hin : ((n - k0' : Nat) : Int) = (n : Int) - (k0' : Int) := by have := HJ.out; omega
        rw [← hk0'] at hcne hjn ⊢
        clear HS HB hk0' hs
        go_loopw [3, 5] (fun kv k2v wr => ∃ (m k2 : Nat), kv = .int .i64 m ∧ k2v = .int .i64 k2 ∧ 1 ≤ k2 ∧ k0' + k2 ≤ n ∧ m < k0' + k2 ∧ Hid (CpS w g cap l m (k0' + k2) wr)) (fun _ k2v _ => (200000 - intOf k2v).toNat)
        case atStart => exact ⟨k0', 1, by have := HJ2.out; congr 1, rfl, by omega, by have := HJ.out.1; omega, by omega, HS2.out⟩
        case round =>
          clear HS2
          obtain ⟨m, k2, rfl, rfl, hk21, hk2, hmk, hs⟩ := hrel
          by_cases hlt2 : k0' + k2 < n
          · obtain ⟨i, rfl⟩ : ∃ i, k2 = i + 1 := ⟨k2 - 1, by omega⟩
            have i2 : ((i + 1 : Nat) : Int) = (i : Int) + 1 := by omega
            have htl : k0' + (i + 1) < l.length := by rw [← Hn.out]; exact hlt2
            have hpl : k0' + i < l.length := by omega
            obtain ⟨x1, x2⟩ := hs.out.at (k0' + (i + 1)) htl (by omega)
            obtain ⟨y1, y2⟩ := hs.out.at (k0' + i) hpl (by omega)
            rw [Nat.add_mul] at x1 x2 y1 y2
            have HPut := Lib.hid (fun (e : l[k0' + (i + 1) - 1] ≠ l[k0' + (i + 1)]) => hs.out.drew.put (by omega) htl HF.out.2.1 e)
            have HSkip := Lib.hid (fun (e : l[k0' + (i + 1) - 1] = l[k0' + (i + 1)]) => hs.out.skip (by omega) htl e)
            have ei : k0' + (i + 1) - 1 = k0' + i := by omega
            simp only [ei] at HPut HSkip
            obtain ⟨xe, hxe⟩ : ∃ x, x = l[k0' + (i + 1)] := ⟨_, rfl⟩
            obtain ⟨ze, hze⟩ : ∃ x, x = l[k0' + i] := ⟨_, rfl⟩
            rw [← hxe] at x1 x2 HPut HSkip
            rw [← hze] at y1 y2 HPut HSkip
            clear hxe hze
            have q0 : (i : Int) + 1 < ((n - k0' : Nat) : Int) := by omega
            have q1 : (i : Int) < ((n - k0' : Nat) : Int) := by omega
            have q2 : (0 : Int) ≤ (i : Int) + 1 := by omega
            have q3 : (0 : Int) ≤ (i : Int) := by omega
            have HWi : Hid (IntKind.i64.wrap (i : Int) = (i : Int)) := IntWalk.i64_in _ (by omega)
            have hm0 : (m : Int) < (n : Int) := by omega
            have hm1 : (m : Int) ≤ 100000 := by omega
            have hq0 := hin
            rw [i2]
            by_cases he2 : ze = xe
            · subst he2
              have HS3 := Lib.hid (HSkip.out rfl)
              clear HPut HSkip
              go_upto_region 11 with fail
              refine wp_region_seqL (by kernel_rfl) (fun w' => (w'.cell? ⟨g, k0' * 2 + (i + 1) * 2, none⟩ = some (.int .i64 (ze.1 : Int)) ∧ w'.cell? ⟨g, k0' * 2 + (i + 1) * 2 + 1, none⟩ = some (.int .i64 (ze.2 : Int))) ∧ (w'.cell? ⟨g, k0' * 2 + i * 2, none⟩ = some (.int .i64 (ze.1 : Int)) ∧ w'.cell? ⟨g, k0' * 2 + i * 2 + 1, none⟩ = some (.int .i64 (ze.2 : Int)))) 9 [(0, 0), (1, 0), (2, 0), (3, 1), (4, 0), (5, 0), (6, 0), (7, 0), (8, 1), (9, 2)] (by kernel_rfl) (⟨⟨x1, x2⟩, ⟨y1, y2⟩⟩) ?_
              refine sl_q (d := some 35) rfl rfl rfl (.slice (some ⟨g, k0' * 2, none⟩) (n - k0') (cap - k0')) (fun w => rfl) ?_
              simp only [ap_s, ap_n, ls_z, ls_s]
              refine sl_q (d := some 36) rfl rfl rfl (.int .i64 ((i : Int) + 1)) (fun w => rfl) ?_
              simp only [ap_s, ap_n, ls_z, ls_s]
              refine sl_q (d := some 37) rfl rfl rfl (.pointer (some ⟨g, k0' * 2 + (i + 1) * 2, none⟩)) (fun w => by simp [execOp, Act.eval, go_sem, q0, q2]) ?_
              simp only [ap_s, ap_n, ls_z, ls_s]
              refine sl_load (d := some 38) rfl rfl rfl _ _ rfl ⟨g, k0' * 2 + (i + 1) * 2, none⟩ rfl (.agg #[.int .i64 (ze.1 : Int), .int .i64 (ze.2 : Int)]) (fun w hw => ed_load hw.1.1 hw.1.2) ?_
              simp only [ap_s, ap_n, ls_z, ls_s]
              refine sl_q (d := some 39) rfl rfl rfl (.slice (some ⟨g, k0' * 2, none⟩) (n - k0') (cap - k0')) (fun w => rfl) ?_
              simp only [ap_s, ap_n, ls_z, ls_s]
              refine sl_q (d := some 40) rfl rfl rfl (.int .i64 ((i : Int) + 1)) (fun w => rfl) ?_
              simp only [ap_s, ap_n, ls_z, ls_s]
              refine sl_q (d := some 41) rfl rfl rfl (.int .i64 (i : Int)) (fun w => by simp [execOp, Act.eval, go_sem, HWi.out]) ?_
              simp only [ap_s, ap_n, ls_z, ls_s]
              refine sl_q (d := some 42) rfl rfl rfl (.pointer (some ⟨g, k0' * 2 + i * 2, none⟩)) (fun w => by simp [execOp, Act.eval, go_sem, q1, q3]) ?_
              simp only [ap_s, ap_n, ls_z, ls_s]
              refine sl_load (d := some 43) rfl rfl rfl _ _ rfl ⟨g, k0' * 2 + i * 2, none⟩ rfl (.agg #[.int .i64 (ze.1 : Int), .int .i64 (ze.2 : Int)]) (fun w hw => ed_load hw.2.1 hw.2.2) ?_
              simp only [ap_s, ap_n, ls_z, ls_s]
              refine sl_run (d := some 44) rfl rfl rfl (.bool false) wr.drew (by simp [execOp, Act.eval, go_sem]) (fun h => by cases h) ?_
              simp only [ap_s, ap_n, ls_z, ls_s]
              refine sl_end ?_
              clear x1 x2 y1 y2
              go_wp2_with fail
              refine ⟨⟨m, i + 2, rfl, by go_num, by omega, by omega, by omega, HS3.out.drew⟩, ?_⟩
              simp [intOf]; omega
            · have Hne2 := Lib.hid (ed_ne he2)
              have HS3 := Lib.hid (HPut.out he2)
              have Hth := Lib.hid (hs.out.drew.there (show m < cap by omega))
              have H1 : Hid ((#[Value.int .i64 (xe.1 : Int), .int .i64 (xe.2 : Int)]).all (·.oneCell') = true) := by unfold Hid; simp [Value.oneCell']
              clear HPut HSkip
              go_upto_region 11 with fail
              refine wp_region_seqL (by kernel_rfl) (fun w' => (w'.cell? ⟨g, k0' * 2 + (i + 1) * 2, none⟩ = some (.int .i64 (xe.1 : Int)) ∧ w'.cell? ⟨g, k0' * 2 + (i + 1) * 2 + 1, none⟩ = some (.int .i64 (xe.2 : Int))) ∧ (w'.cell? ⟨g, k0' * 2 + i * 2, none⟩ = some (.int .i64 (ze.1 : Int)) ∧ w'.cell? ⟨g, k0' * 2 + i * 2 + 1, none⟩ = some (.int .i64 (ze.2 : Int)))) 9 [(0, 0), (1, 0), (2, 0), (3, 1), (4, 0), (5, 0), (6, 0), (7, 0), (8, 1), (9, 2)] (by kernel_rfl) (⟨⟨x1, x2⟩, ⟨y1, y2⟩⟩) ?_
              refine sl_q (d := some 35) rfl rfl rfl (.slice (some ⟨g, k0' * 2, none⟩) (n - k0') (cap - k0')) (fun w => rfl) ?_
              simp only [ap_s, ap_n, ls_z, ls_s]
              refine sl_q (d := some 36) rfl rfl rfl (.int .i64 ((i : Int) + 1)) (fun w => rfl) ?_
              simp only [ap_s, ap_n, ls_z, ls_s]
              refine sl_q (d := some 37) rfl rfl rfl (.pointer (some ⟨g, k0' * 2 + (i + 1) * 2, none⟩)) (fun w => by simp [execOp, Act.eval, go_sem, q0, q2]) ?_
              simp only [ap_s, ap_n, ls_z, ls_s]
              refine sl_load (d := some 38) rfl rfl rfl _ _ rfl ⟨g, k0' * 2 + (i + 1) * 2, none⟩ rfl (.agg #[.int .i64 (xe.1 : Int), .int .i64 (xe.2 : Int)]) (fun w hw => ed_load hw.1.1 hw.1.2) ?_
              simp only [ap_s, ap_n, ls_z, ls_s]
              refine sl_q (d := some 39) rfl rfl rfl (.slice (some ⟨g, k0' * 2, none⟩) (n - k0') (cap - k0')) (fun w => rfl) ?_
              simp only [ap_s, ap_n, ls_z, ls_s]
              refine sl_q (d := some 40) rfl rfl rfl (.int .i64 ((i : Int) + 1)) (fun w => rfl) ?_
              simp only [ap_s, ap_n, ls_z, ls_s]
              refine sl_q (d := some 41) rfl rfl rfl (.int .i64 (i : Int)) (fun w => by simp [execOp, Act.eval, go_sem, HWi.out]) ?_
              simp only [ap_s, ap_n, ls_z, ls_s]
              refine sl_q (d := some 42) rfl rfl rfl (.pointer (some ⟨g, k0' * 2 + i * 2, none⟩)) (fun w => by simp [execOp, Act.eval, go_sem, q1, q3]) ?_
              simp only [ap_s, ap_n, ls_z, ls_s]
              refine sl_load (d := some 43) rfl rfl rfl _ _ rfl ⟨g, k0' * 2 + i * 2, none⟩ rfl (.agg #[.int .i64 (ze.1 : Int), .int .i64 (ze.2 : Int)]) (fun w hw => ed_load hw.2.1 hw.2.2) ?_
              simp only [ap_s, ap_n, ls_z, ls_s]
              refine sl_run (d := some 44) rfl rfl rfl (.bool true) wr.drew (by simp [execOp, Act.eval, go_sem]; exact fun a b => Hne2.out a.symm b.symm) (fun h => by cases h) ?_
              simp only [ap_s, ap_n, ls_z, ls_s]
              refine sl_end ?_
              have x1' : wr.drew.cell? ⟨g, k0' * 2 + (i + 1) * 2, none⟩ = some (.int .i64 (xe.1 : Int)) := x1
              have x2' : wr.drew.cell? ⟨g, k0' * 2 + (i + 1) * 2 + 1, none⟩ = some (.int .i64 (xe.2 : Int)) := x2
              clear y1 y2
              go_wp2_with (refine wpList_store_mid rfl _ _ _ rfl g (m * 2) #[.int .i64 (xe.1 : Int), .int .i64 (xe.2 : Int)] rfl rfl Hth.out rowT_e.1 H1.out ?_)
              refine ⟨⟨m + 1, i + 2, by go_num, by go_num, by omega, by omega, by omega, HS3.out⟩, ?_⟩
              simp [intOf]; omega
          · have hk2n : k0' + k2 = n := by omega
            have q0 : ¬ (k2 : Int) < ((n - k0' : Nat) : Int) := by omega
            have HSn : Hid (CpS w g cap l m l.length wr) := by have h := hs.out; rw [hk2n, Hn.out] at h; exact h
            have hmn : m < n := by omega
            have hml : Hid (m = (cpt l).length) := by have h := HSn.out.len; rw [List.take_length] at h; exact h
            obtain ⟨w', hclr, cur, h1, h2', h3, h4⟩ := HSn.out.clear rfl (n - m) (by have := HF.out.2.1; have := Hn.out; omega) (by omega) (cap - m)
            have HOw := Lib.hid (own_cells h1 h2' h3 hml.out HF.out.1 HF.out.2.1 HF.out.2.2)
            have HGr := Lib.hid h4
            have hm0 : (m : Int) ≤ (n : Int) := by omega
            have hm1 : (m : Int) ≤ (cap : Int) := by omega
            have hcm : ¬ cap = m := by have := HF.out.2.1; have := Hn.out; omega
            clear h1 h2' h3 h4 hs
            go_wp2_with fail
            go_ret
            exact ⟨by rw [← hml.out]; rfl, by rw [← hml.out]; exact HOw.out, HGr.out⟩
      · have Hne := Lib.hid (ed_ne (fun e => he e.symm))
        have HK := Lib.hid (HKeep.out he)
        clear HKeep HSkip he
        go_upto_region 6 with fail
        refine wp_region_seqL (by kernel_rfl) (fun w' => (w'.cell? ⟨g, (j + 1) * 2, none⟩ = some (.int .i64 (xe.1 : Int)) ∧ w'.cell? ⟨g, (j + 1) * 2 + 1, none⟩ = some (.int .i64 (xe.2 : Int))) ∧ (w'.cell? ⟨g, j * 2, none⟩ = some (.int .i64 (ye.1 : Int)) ∧ w'.cell? ⟨g, j * 2 + 1, none⟩ = some (.int .i64 (ye.2 : Int)))) 9 [(0, 0), (1, 0), (2, 0), (3, 1), (4, 0), (5, 0), (6, 0), (7, 0), (8, 1), (9, 2)] (by kernel_rfl) (⟨⟨x1, x2⟩, ⟨y1, y2⟩⟩) ?_
        refine sl_q (d := some 16) rfl rfl rfl (.slice (some ⟨g, 0, none⟩) n cap) (fun w => rfl) ?_
        simp only [ap_s, ap_n, ls_z, ls_s]
        refine sl_q (d := some 17) rfl rfl rfl (.int .i64 ((j : Int) + 1)) (fun w => rfl) ?_
        simp only [ap_s, ap_n, ls_z, ls_s]
        refine sl_q (d := some 18) rfl rfl rfl (.pointer (some ⟨g, (j + 1) * 2, none⟩)) (fun w => by simp [execOp, Act.eval, go_sem, k0, j5]) ?_
        simp only [ap_s, ap_n, ls_z, ls_s]
        refine sl_load (d := some 19) rfl rfl rfl _ _ rfl ⟨g, (j + 1) * 2, none⟩ rfl (.agg #[.int .i64 (xe.1 : Int), .int .i64 (xe.2 : Int)]) (fun w hw => ed_load hw.1.1 hw.1.2) ?_
        simp only [ap_s, ap_n, ls_z, ls_s]
        refine sl_q (d := some 20) rfl rfl rfl (.slice (some ⟨g, 0, none⟩) n cap) (fun w => rfl) ?_
        simp only [ap_s, ap_n, ls_z, ls_s]
        refine sl_q (d := some 21) rfl rfl rfl (.int .i64 ((j : Int) + 1)) (fun w => rfl) ?_
        simp only [ap_s, ap_n, ls_z, ls_s]
        refine sl_q (d := some 22) rfl rfl rfl (.int .i64 (j : Int)) (fun w => by simp [execOp, Act.eval, go_sem, HW6.out]) ?_
        simp only [ap_s, ap_n, ls_z, ls_s]
        refine sl_q (d := some 23) rfl rfl rfl (.pointer (some ⟨g, j * 2, none⟩)) (fun w => by simp [execOp, Act.eval, go_sem, j4, j6]) ?_
        simp only [ap_s, ap_n, ls_z, ls_s]
        refine sl_load (d := some 24) rfl rfl rfl _ _ rfl ⟨g, j * 2, none⟩ rfl (.agg #[.int .i64 (ye.1 : Int), .int .i64 (ye.2 : Int)]) (fun w hw => ed_load hw.2.1 hw.2.2) ?_
        simp only [ap_s, ap_n, ls_z, ls_s]
        refine sl_run (d := some 25) rfl rfl rfl (.bool false) wr.drew (by simp [execOp, Act.eval, go_sem]; exact Hne.out) (fun h => by cases h) ?_
        simp only [ap_s, ap_n, ls_z, ls_s]
        refine sl_end ?_
        clear x1 x2 y1 y2
        go_wp2_with fail
        refine ⟨⟨j + 2, by go_num, by omega, by omega, HK.out.drew⟩, ?_⟩
        simp [intOf]; omega
    · obtain rfl : k = n := by omega
      have e0 : decide ((k : Int) < (k : Int)) = false := by simp
      have HE : Hid (wr.ownsRow base 95 2 (.slice (some ⟨g, 0, none⟩) k cap) k (ecells (cpt l)) ∧ k = (cpt l).length) := by
        have h := hs.out
        have hl2 := h.len
        rw [Hn.out] at h hl2
        rw [List.take_length] at hl2
        have := h.own HF.out.1 HF.out.2.1 HF.out.2.2
        rw [← Hn.out] at this hl2
        exact ⟨this, hl2⟩
      go_wp2_with fail
      go_ret
      exact ⟨by rw [← HE.out.2]; rfl, by rw [← HE.out.2]; exact HE.out.1, hs.out.grown⟩
end Go.Proofs.YtkpgciimhjkajaaGreatDoor
/- The program's grid: Build: its states, plain laws. -/
namespace Go.Proofs.YtkpgciimhjkajaaGreatDoor
open Go Go.RowKit
theorem cpt_le {α : Type} [DecidableEq α] : ∀ l : List α, (cpt l).length ≤ l.length
  | [] => by simp [cpt]
  | [x] => by simp [cpt]
  | x :: y :: r => by
    have ih := cpt_le (y :: r)
    rw [cpt]
    split
    · simp only [List.length_cons] at *; omega
    · simp only [List.length_cons] at *; omega
theorem cells_sorted {n : Nat} {l : List Tri} (hp : l.Perm (rawN n)) (hs : l.Pairwise LeT) : l = cellsN n := by
  have h2 := (fold_sorted (rawN n) [] List.Pairwise.nil).1
  exact List.Perm.eq_of_pairwise (fun a b _ _ h1 h2 => LeT.anti h1 h2) hs h2 (hp.trans (cellsN_perm n).symm)
theorem LeE.anti {x y : Ed} (h : LeE x y) (h2 : LeE y x) : x = y := by
  unfold LeE LtE at *
  exact Prod.ext (by omega) (by omega)
theorem LeE.trans' {x y z : Ed} (h : LeE x y) (h2 : LeE y z) : LeE x z := by unfold LeE LtE at *; omega
theorem LeE.total' (x y : Ed) : LeE x y ∨ LeE y x := by unfold LeE LtE; omega
theorem edges_sorted {cs : List Tri} {l : List Ed} (hp : l.Perm (edL cs)) (hs : l.Pairwise LeE) : l = (edL cs).mergeSort leEb := by
  have h2 : ((edL cs).mergeSort leEb).Pairwise LeE := by
    have := List.pairwise_mergeSort (le := leEb) (fun a b c h1 h2 => (leEb_iff _ _).2 (LeE.trans' ((leEb_iff _ _).1 h1) ((leEb_iff _ _).1 h2))) (fun a b => by
      rcases LeE.total' a b with h | h
      · simp [(leEb_iff _ _).2 h]
      · simp [(leEb_iff _ _).2 h]) (edL cs)
    exact this.imp fun h => (leEb_iff _ _).1 h
  exact List.Perm.eq_of_pairwise (fun a b _ _ h1 h2 => LeE.anti h1 h2) hs h2 (hp.trans (List.mergeSort_perm _ _).symm)
theorem edL_len (cs : List Tri) : (edL cs).length = 3 * cs.length := by
  induction cs with
  | nil => rfl
  | cons x r ih => unfold edL at *; rw [List.flatMap_cons, List.length_append, ih]; simp; omega
theorem edL_step (cs : List Tri) (c : Nat) (hc : c < cs.length) : edL (cs.take (c + 1)) = edL (cs.take c) ++ [(cs[c].1, cs[c].2.1), (cs[c].1, cs[c].2.2), (cs[c].2.1, cs[c].2.2)] := by
  unfold edL
  rw [List.take_succ_eq_append_getElem hc, List.flatMap_append]
  simp
theorem raw_pos {n : Nat} (h : Fq n) : 0 < (rawN n).length := by
  rcases h.cases with rfl | rfl | rfl | rfl | rfl | rfl | rfl | rfl <;> (show 0 < (_ :: _ : List Tri).length; simp)
structure BdE (w : World) (B mb n : Nat) (nv cv ev : Value) (g : Nat) (L : List Tri) (E : List Ed) (wr : World) : Prop where
  net : NetN wr B mb n nv cv ev (.slice none 0 0)
  cel : TrsAt wr g L
  own : OwnE2 wr (B + 1) ev E
  oth : ev.ownBlock ≠ some g
  below : Below w.heap.size w wr
  size : B + 1 ≤ wr.heap.size
  low : B < g ∧ g < wr.heap.size ∧ mb < B ∧ w.heap.size ≤ B
theorem BdE.then {w wr w' : World} {B mb n : Nat} {nv cv ev : Value} {g : Nat} {L : List Tri} {E : List Ed} (h : BdE w B mb n nv cv ev g L E wr) (hb : Below wr.heap.size wr w') : BdE w B mb n nv cv ev g L E w' :=
  ⟨h.net.then hb, h.cel.below hb, h.own.below hb, h.oth, below_then h.below hb, Nat.le_trans h.size hb.size, h.low.1, Nat.lt_of_lt_of_le h.low.2.1 hb.size, h.low.2.2⟩
theorem append_e3 {w : World} {base : Nat} {v : Value} {l : List Ed} (h : OwnE2 w base v l) (x y z : Ed) (hn : l.length ≤ 1000000) (hb : base ≤ w.heap.size) (ty : TypeId) :
    ∃ (a : Option Addr) (m c : Nat) (w' : World), (Builtin.append_ #[76, 76] ty #[v, .slice (some ⟨w.heap.size, 0, none⟩) 3 3]).run Tryz.prog (w.alloc (.cells #[.int .i64 (x.1 : Int), .int .i64 (x.2 : Int), .int .i64 (y.1 : Int), .int .i64 (y.2 : Int), .int .i64 (z.1 : Int), .int .i64 (z.2 : Int)] 95)) = .ok (.slice a m c) w' ∧
      OwnE2 w' base (.slice a m c) (l ++ [x, y, z]) ∧ Below base w w' ∧ (∀ k, k < w.heap.size → v.ownBlock ≠ some k → w'.heap[k]? = w.heap[k]?) ∧ (∀ g, (Value.slice a m c).ownBlock = some g → v.ownBlock = some g ∨ w.heap.size ≤ g) := by
  obtain ⟨i0, hi, hz0, hz1, hz2⟩ := info_parts einfoN
  have hal : Below w.heap.size w (w.alloc (.cells #[.int .i64 (x.1 : Int), .int .i64 (x.2 : Int), .int .i64 (y.1 : Int), .int .i64 (y.2 : Int), .int .i64 (z.1 : Int), .int .i64 (z.2 : Int)] 95)) := (Below.refl _ _).alloc (Nat.le_refl _) _
  obtain ⟨v', w', h1, h2, h3, _, h5⟩ := run_append_own_at (P := Tryz.prog) _ base 76 ty 95 i0 _ 2 16 Tryz.underlying76 hi hz0 hz1 hz2 rfl (by omega)
    v l.length (ecells l) (ownsRow_below h hal) ⟨w.heap.size, 0, none⟩ 3 3 [.int .i64 (x.1 : Int), .int .i64 (x.2 : Int), .int .i64 (y.1 : Int), .int .i64 (y.2 : Int), .int .i64 (z.1 : Int), .int .i64 (z.2 : Int)] rfl
    (World.news_of_block (cs := #[.int .i64 (x.1 : Int), .int .i64 (x.2 : Int), .int .i64 (y.1 : Int), .int .i64 (y.2 : Int), .int .i64 (z.1 : Int), .int .i64 (z.2 : Int)]) (t := 95) (fr := (0, 0)) (heap_alloc_new w _))
    (by intro u hu; simp at hu; rcases hu with rfl | rfl | rfl | rfl | rfl | rfl <;> rfl) (by unfold maxLen; omega) (by omega) (by have := hal.size; omega)
  have ho : OwnE2 w' base v' (l ++ [x, y, z]) := by
    unfold OwnE2
    rw [List.length_append]
    have e : ecells (l ++ [x, y, z]) = ecells l ++ [.int .i64 (x.1 : Int), .int .i64 (x.2 : Int), .int .i64 (y.1 : Int), .int .i64 (y.2 : Int), .int .i64 (z.1 : Int), .int .i64 (z.2 : Int)] := by
      unfold ecells; rw [List.flatMap_append]; rfl
    rw [e]
    exact h2
  obtain ⟨a, c, rfl⟩ := ho.slice
  refine ⟨a, _, c, w', h1, ho, ?_, fun k hk hv => ?_, fun g hg => ?_⟩
  · exact ((hal.mono hb).grown h3 (by have := hal.size; omega) (fun k hk => (World.ownsRow.lt h k hk).1))
  · rw [h3.block k (by have := hal.size; omega) (fun e => hv e.symm), hal.block k hk]
  · rcases h5 with h5 | h5
    · exact Or.inl (by rw [← h5]; exact hg)
    · right
      rw [h5] at hg
      have := hal.size
      injection hg with hg
      omega
end Go.Proofs.YtkpgciimhjkajaaGreatDoor
/- The program's grid: Build: the lists of neighbours, each in a block of its own. -/
namespace Go.Proofs.YtkpgciimhjkajaaGreatDoor
open Go Go.RowKit
def iv (z : Int) : Value := .int .i64 z
structure Nx (w : World) (X base : Nat) (vs : List Value) (t : Nat) : Prop where
  row : RowAt w X vs
  own : ∀ i, (hi : i < vs.length) → ∃ cs : List Int, w.ownsRow base 3 1 vs[i] cs.length (cs.map iv) ∧ cs.length ≤ t
  ap : ∀ i j, (hi : i < vs.length) → (hj : j < vs.length) → i ≠ j → ∀ g, vs[i].ownBlock = some g → vs[j].ownBlock ≠ some g
  low : X < base ∧ base ≤ w.heap.size
theorem Nx.below {w w' : World} {X base t : Nat} {vs : List Value} (h : Nx w X base vs t) (hb : Below w.heap.size w w') : Nx w' X base vs t :=
  ⟨h.row.below hb, fun i hi => by obtain ⟨cs, h1, h2⟩ := h.own i hi; exact ⟨cs, ownsRow_below h1 hb, h2⟩, h.ap, h.low.1, Nat.le_trans h.low.2 hb.size⟩
theorem Nx.mono {w : World} {X base t t' : Nat} {vs : List Value} (h : Nx w X base vs t) (ht : t ≤ t') : Nx w X base vs t' :=
  ⟨h.row, fun i hi => by obtain ⟨cs, h1, h2⟩ := h.own i hi; exact ⟨cs, h1, Nat.le_trans h2 ht⟩, h.ap, h.low⟩
theorem Nx.slice {w : World} {X base t : Nat} {vs : List Value} (h : Nx w X base vs t) (i : Nat) (hi : i < vs.length) : ∃ a n c, vs[i] = .slice a n c := by
  obtain ⟨cs, h1, _⟩ := h.own i hi
  rcases h1.2 with ⟨e, _⟩ | ⟨g, cap, cur, e, _⟩
  · exact ⟨_, _, _, e⟩
  · exact ⟨_, _, _, e⟩
theorem Nx.other {w : World} {X base t k : Nat} {vs : List Value} {cs : Array Value} {e : TypeId} {fr : Nat × Nat} (h : Nx w X base vs t) (hk : w.heap[k]? = some (.cells cs e fr)) (he : e ≠ 3) (i : Nat) (hi : i < vs.length) : vs[i].ownBlock ≠ some k := by
  intro hv
  obtain ⟨cs', h1, _⟩ := h.own i hi
  rcases h1.2 with ⟨e', _⟩ | ⟨g, cap, cur, e', _, hh, _⟩
  · rw [e'] at hv; simp [Value.ownBlock] at hv
  · rw [e'] at hv
    have : g = k := by simpa [Value.ownBlock] using hv
    subst this
    rw [hh] at hk
    injection hk with hk
    injection hk with _ h2 _
    exact he h2.symm
theorem Nx.append {w : World} {X base t : Nat} {vs : List Value} (h : Nx w X base vs t) (ht : t ≤ 100000) (i : Nat) (hi : i < vs.length) (q : Int) (ty : TypeId) :
    ∃ (a : Option Addr) (n c : Nat) (w' : World), (Builtin.append_ #[34, 34] ty #[vs[i], .slice (some ⟨w.heap.size, 0, none⟩) 1 1]).run Tryz.prog (w.alloc (.cells #[.int .i64 q] 3)) = .ok (.slice a n c) w' ∧
      RowAt w' X vs ∧ Below base w w' ∧ (∀ k, k < w.heap.size → vs[i].ownBlock ≠ some k → w'.heap[k]? = w.heap[k]?) ∧ Nx (w'.setCell ⟨X, i, none⟩ (.slice a n c)) X base (vs.set i (.slice a n c)) (t + 1) := by
  obtain ⟨i0, hinf, hz0, hz1, hz2⟩ := info_parts intinfo
  have hal : Below w.heap.size w (w.alloc (.cells #[.int .i64 q] 3)) := (Below.refl _ _).alloc (Nat.le_refl _) _
  obtain ⟨cs, o1, o2⟩ := h.own i hi
  obtain ⟨v', w', h1, h2, h3, _, h5⟩ := run_append_own_at (P := Tryz.prog) _ base 34 ty 3 i0 _ 1 8 Tryz.underlying34 hinf hz0 hz1 hz2 rfl (by omega)
    vs[i] cs.length (cs.map iv) (ownsRow_below o1 hal) ⟨w.heap.size, 0, none⟩ 1 1 [.int .i64 q] rfl
    (World.news_of_block (cs := #[.int .i64 q]) (t := 3) (fr := (0, 0)) (heap_alloc_new w _))
    (by intro u hu; simp at hu; subst hu; rfl) (by unfold maxLen; omega) (by omega) (by have := hal.size; have := h.low.2; omega)
  have h2' : w'.ownsRow base 3 1 v' (cs ++ [q]).length ((cs ++ [q]).map iv) := by
    rw [List.length_append, List.map_append]; exact h2
  have hsz := hal.size
  have hbw : Below base w w' := (hal.mono h.low.2).grown h3 (by have := h.low.2; omega) (fun k hk => (World.ownsRow.lt o1 k hk).1)
  have hfr : ∀ k, k < w.heap.size → vs[i].ownBlock ≠ some k → w'.heap[k]? = w.heap[k]? := fun k hk hv => by
    rw [h3.block k (by omega) (fun e => hv e.symm), hal.block k hk]
  have hst : ∀ v : Value, ∀ k, k ≠ X → (w'.setCell ⟨X, i, none⟩ v).heap[k]? = w'.heap[k]? := fun v k hk => Below.heap_setCell _ _ _ _ (by simpa using hk)
  have hr : RowAt w' X vs := h.row.of_block (hbw.block X h.low.1)
  obtain ⟨a, n, c, rfl⟩ : ∃ a n c, v' = .slice a n c := by
    rcases h2'.2 with ⟨e, _⟩ | ⟨g, cap, cur, e, _⟩
    · exact ⟨_, _, _, e⟩
    · exact ⟨_, _, _, e⟩
  have hold : ∀ j, (hj : j < vs.length) → ∀ g, vs[j].ownBlock = some g → g < w.heap.size := fun j hj g hg => by
    obtain ⟨cs', p1, _⟩ := h.own j hj
    exact (World.ownsRow.lt p1 g hg).2
  have hnew : ∀ g, (Value.slice a n c).ownBlock = some g → vs[i].ownBlock = some g ∨ w.heap.size ≤ g := fun g hg => by
    rcases h5 with h5 | h5
    · exact Or.inl (by rw [← h5]; exact hg)
    · right
      rw [h5] at hg
      injection hg with hg
      omega
  refine ⟨a, n, c, w', h1, hr, hbw, hfr, hr.set i hi _, fun j hj => ?_, fun j k hj hk hne g hg => ?_, h.low.1, ?_⟩
  · rw [List.length_set] at hj
    by_cases hij : i = j
    · subst hij
      rw [List.getElem_set_self]
      refine ⟨cs ++ [q], ownsRow_of_same h2' (fun k k1 k2 => hst _ k (by have := h.low.1; omega)), by rw [List.length_append]; simp; omega⟩
    · rw [List.getElem_set_ne hij]
      obtain ⟨cs', p1, p2⟩ := h.own j hj
      refine ⟨cs', ⟨p1.1, ?_⟩, by omega⟩
      rcases p1.2 with e | ⟨g, cap, cur, e, hg, hh, r⟩
      · exact Or.inl e
      · refine Or.inr ⟨g, cap, cur, e, hg, ?_, r⟩
        rw [hst _ g (by have := h.low.1; omega), hfr g (Array.getElem?_eq_some_iff.1 hh).1 (h.ap j i hj hi (fun e => hij e.symm) g (by rw [e]; rfl))]
        exact hh
  · rw [List.length_set] at hj hk
    by_cases hij : i = j
    · subst hij
      rw [List.getElem_set_self] at hg
      rw [List.getElem_set_ne hne]
      rcases hnew g hg with h6 | h6
      · exact h.ap i k hi hk hne g h6
      · intro e; have := hold k hk g e; omega
    · rw [List.getElem_set_ne hij] at hg
      by_cases hik : i = k
      · subst hik
        rw [List.getElem_set_self]
        intro e
        rcases hnew g e with h6 | h6
        · exact h.ap j i hj hi hne g hg h6
        · have := hold j hj g hg; omega
      · rw [List.getElem_set_ne hik]
        exact h.ap j k hj hk hne g hg
  · simp [World.setCell]; exact Nat.le_trans h.low.2 hbw.size
structure BdN (w : World) (B mb n : Nat) (nv cv ev xv : Value) (X : Nat) (E : List Ed) (vs : List Value) (t : Nat) (wr : World) : Prop where
  net : NetN wr B mb n nv cv ev xv
  own : OwnE2 wr (B + 1) ev E
  nx : Nx wr X (X + 1) vs t
  below : Below w.heap.size w wr
  low : B < X ∧ mb < B ∧ w.heap.size ≤ B
  evx : ∀ g, ev.ownBlock = some g → g < X
theorem BdN.then {w wr w' : World} {B mb n : Nat} {nv cv ev xv : Value} {X : Nat} {E : List Ed} {vs : List Value} {t : Nat} (h : BdN w B mb n nv cv ev xv X E vs t wr) (hb : Below wr.heap.size wr w') : BdN w B mb n nv cv ev xv X E vs t w' :=
  ⟨h.net.then hb, h.own.below hb, h.nx.below hb, below_then h.below hb, h.low, h.evx⟩
theorem BdN.app {w wr : World} {B mb n : Nat} {nv cv ev xv : Value} {X : Nat} {E : List Ed} {vs : List Value} {t : Nat} (h : BdN w B mb n nv cv ev xv X E vs t wr) (ht : t ≤ 100000) (i : Nat) (hi : i < vs.length) (q : Int) (ty : TypeId) :
    ∃ (a : Option Addr) (m c : Nat) (w' : World), (Builtin.append_ #[34, 34] ty #[vs[i], .slice (some ⟨wr.heap.size, 0, none⟩) 1 1]).run Tryz.prog (wr.alloc (.cells #[.int .i64 q] 3)) = .ok (.slice a m c) w' ∧
      RowAt w' X vs ∧ NetN w' B mb n nv cv ev xv ∧ (∀ k, k < wr.heap.size → vs[i].ownBlock ≠ some k → w'.heap[k]? = wr.heap[k]?) ∧ Below (X + 1) wr w' ∧ BdN w B mb n nv cv ev xv X E (vs.set i (.slice a m c)) (t + 1) (w'.setCell ⟨X, i, none⟩ (.slice a m c)) := by
  obtain ⟨a, m, c, w', h1, h2, h3, h4, h5⟩ := h.nx.append ht i hi q ty
  have hl := h.low
  have hst : ∀ v : Value, ∀ k, k ≠ X → (w'.setCell ⟨X, i, none⟩ v).heap[k]? = w'.heap[k]? := fun v k hk => Below.heap_setCell _ _ _ _ (by simpa using hk)
  have hn : NetN w' B mb n nv cv ev xv := ⟨h.net.row.of_block (h3.block B (by omega)), h.net.map.of_block (h3.block mb (by omega))⟩
  refine ⟨a, m, c, w', h1, h2, hn, h4, h3, ⟨hn.row.of_block (hst _ B (by omega)), hn.map.of_block (hst _ mb (by omega))⟩, ⟨h.own.1, ?_⟩, h5, (h.below.trans (h3.mono (by omega))).setCell (by simp; omega) _, hl, h.evx⟩
  rcases h.own.2 with e | ⟨g, cap, cur, e, hg, hh, r⟩
  · exact Or.inl e
  · have hgx := h.evx g (by rw [e]; rfl)
    exact Or.inr ⟨g, cap, cur, e, hg, by rw [hst _ g (by omega), h3.block g (by omega)]; exact hh, r⟩
end Go.Proofs.YtkpgciimhjkajaaGreatDoor
/- The program's grid: Build: a list of neighbours is sorted. -/
namespace Go.Proofs.YtkpgciimhjkajaaGreatDoor
open Go Go.RowKit Go.Sort Go.Lib
theorem nx_sort {w : World} {X base t : Nat} {vs : List Value} (h : Nx w X base vs t) (ht : t ≤ 100000) (i : Nat) (hi : i < vs.length) :
    Calls Tryz.prog 107 #[vs[i]] w fun e w' => e = .returned (.tuple #[]) ∧ Nx w' X base vs t ∧ Below base w w' := by
  obtain ⟨zs, o1, o2⟩ := h.own i hi
  obtain ⟨h1, h2⟩ := o1
  rcases h2 with ⟨e, h0⟩ | ⟨g, cap, cur, e, hg, hh, hc, hm, hsz, htk⟩
  · rw [e]
    refine (Tryz.slices_Sort_int_none none 0 w).mono ?_
    rintro e w' ⟨rfl, rfl⟩
    exact ⟨rfl, h, Below.refl _ _⟩
  · have hlt : g < w.heap.size := (Array.getElem?_eq_some_iff.1 hh).1
    have hH : Holds (Value.int .i64) w g 0 zs.toArray := by
      intro j hj
      have hj' : j < zs.length := by simpa using hj
      refine ⟨?_, by simp [World.frozen?, hh]⟩
      have h3 : (cur.toList.take zs.length)[j]? = (zs.map iv)[j]? := by rw [← htk, Nat.mul_one]
      rw [List.getElem?_take_of_lt hj'] at h3
      simp only [World.cell?, hh, Nat.zero_add]
      simp only [Option.isSome_none, Bool.false_eq_true, if_false]
      rw [← Array.getElem?_toList, h3]
      simp [hj', iv]
    rw [e]
    refine (Tryz.slices_Sort_int g 0 cap zs w hH hlt (by omega)).mono ?_
    rintro e' w' ⟨rfl, n, os, rfl⟩
    have hgr : w.grownBy (grow (putRow (Value.int .i64) (Sort.ahead w n) g 0 (zs.mergeSort fun x y => decide (x ≤ y)).toArray) os) (some g) := by
      refine ⟨rfl, rfl, rfl, by simp, fun k hk hne => ?_⟩
      rw [heap_grow_old _ _ (by simpa using hk)]
      have : g ≠ k := fun e => hne (by rw [e])
      simp [putRow, mapBlock, Sort.ahead, Array.getElem?_modify, this]
    have hhg : (grow (putRow (Value.int .i64) (Sort.ahead w n) g 0 (zs.mergeSort fun x y => decide (x ≤ y)).toArray) os).heap[g]? = some (.cells (putCells (Value.int .i64) 0 (zs.mergeSort fun x y => decide (x ≤ y)).toArray cur) 3 (0, 0)) := by
      rw [heap_grow_old _ _ (by simpa using hlt)]
      simp [putRow, mapBlock, Sort.ahead, Array.getElem?_modify, hh, onCells]
    have hbw := (Below.refl base w).grown hgr h.low.2 (fun k hk => by have : g = k := (by simpa using hk); omega)
    generalize grow (putRow (Value.int .i64) (Sort.ahead w n) g 0 (zs.mergeSort fun x y => decide (x ≤ y)).toArray) os = w' at *
    have hml : (zs.mergeSort fun x y => decide (x ≤ y)).length = zs.length := List.length_mergeSort _
    generalize (zs.mergeSort fun x y => decide (x ≤ y)) = zs' at *
    refine ⟨rfl, ⟨h.row.of_block (hbw.block X h.low.1), fun j hj => ?_, h.ap, h.low.1, Nat.le_trans h.low.2 hbw.size⟩, hbw⟩
    by_cases hij : i = j
    · subst hij
      refine ⟨zs', ⟨by simp, .inr ⟨g, cap, _, by rw [e, hml], hg, hhg, by omega, hm, by simp [putCells, hsz], ?_⟩⟩, by omega⟩
      rw [Nat.mul_one]
      have hle : zs'.length ≤ cur.size := by rw [hml, hsz]; omega
      apply List.ext_getElem?
      intro j
      by_cases hj : j < zs'.length
      · rw [List.getElem?_take_of_lt hj, Array.getElem?_toList]
        simp [putCells, hj, show j < cur.size by omega, iv]
      · rw [List.getElem?_take_eq_none (by omega), List.getElem?_eq_none (by simp; omega)]
    · obtain ⟨cs', p1, p2⟩ := h.own j hj
      refine ⟨cs', ⟨p1.1, ?_⟩, p2⟩
      rcases p1.2 with e2 | ⟨g', cap', cur', e2, hg', hh', r⟩
      · exact Or.inl e2
      · refine Or.inr ⟨g', cap', cur', e2, hg', ?_, r⟩
        rw [hgr.block g' (Array.getElem?_eq_some_iff.1 hh').1 (fun e3 => h.ap i j hi hj hij g (by rw [e]; rfl) (by rw [e2]; have e3 : g' = g := (by simpa using e3); rw [e3]; rfl))]
        exact hh'
end Go.Proofs.YtkpgciimhjkajaaGreatDoor
