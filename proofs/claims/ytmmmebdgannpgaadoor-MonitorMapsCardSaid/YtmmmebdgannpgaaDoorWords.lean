/- words of the monitor's writer, and Itoa: what is written. Lengths stay below 2^47. -/
import Derived.Test.YtmmmebdgannpgaaDoorBuild
import Derived.Test.YtmmmebdgannpgaaDoorShelf
import Derived.Lib.ItoaLen
import Derived.Lib.SmallJoins
import Derived.Lib.AppendIntMem
namespace Go.Proofs.YtmmmebdgannpgaaDoor
open Go Go.RowKit

def I64 (x : Int) : Prop := -9223372036854775808 ≤ x ∧ x ≤ 9223372036854775807
theorem below_then {w wx w' : World} (h : Below w.heap.size w wx) (hb : Below wx.heap.size wx w') : Below w.heap.size w w' := h.trans (hb.mono h.size)
theorem cell_then {wx w' : World} {a : Addr} {v : Value} (hb : Below wx.heap.size wx w') (h : wx.cell? a = some v) : w'.cell? a = some v := by
  rw [hb.cell (World.block_lt_of_cell? _ _ h)]; exact h

/-- The library's table of powers lies where it should. -/
def Tab (w : World) : Prop := Lib.TabIs Tryd.prog w "internal/strconv.uint64pow10" .u64 Lib.pow10Tab ∧ 0 < w.heap.size
theorem gPow : Tryd.prog.globalNamed "internal/strconv.uint64pow10" = some 0 := by kernel_rfl
theorem Tab.below {w w' : World} (h : Tab w) (hb : Below w.heap.size w w') : Tab w' := ⟨Joins.tab_stays gPow h.1 hb (Nat.le_refl _), by have := hb.size; have := h.2; omega⟩

theorem itoa_any (n : Int) (hn : I64 n) (w : World) (hT : Tab w) :
    Calls Tryd.prog 9 #[.int .i64 n] w fun e w' => e = .returned (.string ⟨(Lib.itoa n).toArray⟩) ∧ Below w.heap.size w w' := by
  refine (Tryd.strconv_Itoa n hn.1 hn.2 w hT.1).mono ?_
  rintro e w' ⟨rfl, k, os, rfl⟩
  exact ⟨rfl, Lib.below_grow _ _ (Nat.le_refl _) _ _⟩

/-- Words with single blanks between them, behind what has been written. -/
def wordsOf : List UInt8 → List (List UInt8) → List UInt8
  | a, [] => a
  | a, s :: ss => wordsOf (if a = [] then s else a ++ 32 :: s) ss
theorem wordsOf_snoc (a : List UInt8) (ss : List (List UInt8)) (s : List UInt8) : wordsOf a (ss ++ [s]) = if wordsOf a ss = [] then s else wordsOf a ss ++ 32 :: s := by
  induction ss generalizing a with
  | nil => rfl
  | cons x l ih => exact ih _
theorem wordsOf_len (a : List UInt8) (ss : List (List UInt8)) : (wordsOf a ss).length ≤ a.length + (ss.map (fun s => s.length + 1)).sum := by
  induction ss generalizing a with
  | nil => simp [wordsOf]
  | cons x l ih =>
    have := ih (if a = [] then x else a ++ 32 :: x)
    unfold wordsOf
    simp only [List.map_cons, List.sum_cons]
    have h : (if a = [] then x else a ++ 32 :: x).length ≤ a.length + (x.length + 1) := by
      split
      · omega
      · rw [List.length_append, List.length_cons]; omega
    omega

theorem byteCells_append (a b : List UInt8) : Lib.byteCells (a ++ b) = Lib.byteCells a ++ Lib.byteCells b := by simp [Lib.byteCells]
theorem strCells_eq (s : List UInt8) : Lib.strCells ⟨s.toArray⟩ = Lib.byteCells s := rfl

/-- The block c of strings. -/
def StrsAt (w : World) (c : Nat) (ss : List (List UInt8)) : Prop := ∃ cs fr, w.heap[c]? = some (.cells cs 9 fr) ∧ ∀ i, i < ss.length → cs[i]? = some (.string ⟨(ss.getD i []).toArray⟩)
theorem StrsAt.cell {w : World} {c : Nat} {ss : List (List UInt8)} (h : StrsAt w c ss) {i : Nat} (hi : i < ss.length) : w.cell? ⟨c, i, none⟩ = some (.string ⟨(ss.getD i []).toArray⟩) := by
  obtain ⟨cs, fr, h1, h2⟩ := h
  simp [World.cell?, h1, h2 i hi]
theorem StrsAt.keeps {w w' : World} {b c : Nat} {ss : List (List UInt8)} (h : StrsAt w c ss) (hk : KeepsT b w w') (hc : c ≠ b) : StrsAt w' c ss := by
  obtain ⟨cs, fr, h1, h2⟩ := h
  exact ⟨cs, fr, hk c cs _ fr h1 (by decide) hc, h2⟩

/-- What has been written, and that nothing else has turned. -/
def Wrote (B b : Nat) (l : List UInt8) (w w' : World) : Prop := Lib.IsBuilder WT 5 B b (Lib.byteCells l) w' ∧ Below B w w' ∧ KeepsT b w w'

set_option maxRecDepth 100000 in
set_option maxHeartbeats 2000000 in
theorem words_any (B b c n cap : Nat) (l : List UInt8) (ss : List (List UInt8)) (w : World) (h : Lib.IsBuilder WT 5 B b (Lib.byteCells l) w) (hs : StrsAt w c ss) (hn : ss.length = n) (hcb : c ≠ b)
    (hlen : l.length + (ss.map (fun s => s.length + 1)).sum ≤ 100000000000) (hB : B ≤ w.heap.size) :
    Calls Tryd.prog 8 #[.pointer (some ⟨b, 0, none⟩), .slice (some ⟨c, 0, none⟩) n cap] w fun e w' => e = .returned (.pointer (some ⟨b, 0, none⟩)) ∧ Wrote B b (wordsOf l ss) w w' := by
  have Hs := Lib.hid hs
  have Hn := Lib.hid hn
  have Hlen := Lib.hid hlen
  have H0 : Hid (Wrote B b (wordsOf l (ss.take 0)) w w) := ⟨h, Below.refl _ _, KeepsT.refl _ _⟩
  have hn9 : n ≤ 1000000000000 := by
    have : ss.length ≤ (ss.map (fun s => s.length + 1)).sum := by
      clear hs hlen hn Hs Hlen H0 Hn
      induction ss with
      | nil => simp
      | cons x l ih => simp only [List.length_cons, List.map_cons, List.sum_cons]; omega
    omega
  clear hs hn hlen h
  go_enter Tryd.func8, Tryd.ntmps8
  go_wp2_with fail
  go_loopw [9] (fun x wr => ∃ k : Nat, k ≤ n ∧ x = .int .i64 k ∧ Hid (Wrote B b (wordsOf l (ss.take k)) w wr)) (fun x _ => (n - intOf x).toNat)
  case atStart => exact ⟨0, by omega, rfl, H0⟩
  case round =>
    obtain ⟨k, hk, rfl, hW⟩ := hrel
    by_cases hlt : k < n
    · have hc := (Hs.out.keeps hW.out.2.2 hcb).cell (i := k) (by have := Hn.out; omega)
      have Hsn := Lib.hid (wordsOf_snoc l (ss.take k) (ss.getD k []))
      have Htk : Hid (ss.take (k + 1) = ss.take k ++ [ss.getD k []]) := by
        unfold Hid
        have := Hn.out
        rw [List.take_succ_eq_append_getElem (by omega)]
        simp [List.getD_eq_getElem?_getD, show k < ss.length by omega]
      have Hl2 : Hid ((wordsOf l (ss.take (k + 1))).length ≤ 100000000000) := by
        unfold Hid
        refine Nat.le_trans (wordsOf_len l _) (Nat.le_trans ?_ Hlen.out)
        have : ((ss.take (k + 1)).map (fun s : List UInt8 => s.length + 1)).sum ≤ (ss.map (fun s : List UInt8 => s.length + 1)).sum := by
          conv => rhs; rw [← List.take_append_drop (k + 1) ss]
          rw [List.map_append, List.sum_append]; omega
        omega
      rw [← Htk.out] at Hsn
      have hsz := hW.out.2.1.size
      generalize hx : ss.getD k [] = x at *
      generalize hy : wordsOf l (ss.take (k + 1)) = y at *
      have HY := Lib.hid hy
      clear hy hx
      rcases Nat.eq_zero_or_pos (wordsOf l (ss.take k)).length with h0 | h0
      · have ha : wordsOf l (ss.take k) = [] := List.eq_nil_of_length_eq_zero h0
        rw [ha] at hW Hsn
        have Hyx := Lib.hid (Hsn.out.trans (if_pos rfl))
        clear h0 ha Hsn
        have L := Lib.hid (len_any B b _ wr hW.out.1)
        simp only [Lib.byteCells, List.map_nil, List.length_nil] at L
        go_wp2_with fail
        refine L.out.mono ?_
        rintro e w1 ⟨rfl, rfl⟩
        go_wp2_with fail
        refine (wstring_any B b [] ⟨x.toArray⟩ wr hW.out.1 (by have := Hl2.out; rw [Hyx.out] at this; simp [ByteArray.size]; omega) (by omega)).mono ?_
        rintro e w2 ⟨rfl, hb2, hB2, hK2⟩
        have HW2 : Hid (Wrote B b y w w2) := ⟨Or.inr (by rw [Hyx.out]; rw [strCells_eq] at hb2; exact hb2), hW.out.2.1.trans hB2, hW.out.2.2.trans hK2⟩
        clear hb2 hB2 hK2
        go_wp2_with fail
        go_roundw
        case rel => exact ⟨k + 1, by omega, by go_num, by unfold Hid; rw [HY.out]; exact HW2.out⟩
        case measure => simp [intOf]; omega
      · have ha : wordsOf l (ss.take k) ≠ [] := by intro h; rw [h] at h0; simp at h0
        have Hyx := Lib.hid (Hsn.out.trans (if_neg ha))
        have L := Lib.hid (len_any B b _ wr hW.out.1)
        rw [Lib.byteCells_length] at L
        have hpos : (0 : Int) < ((wordsOf l (ss.take k)).length : Int) := by omega
        generalize wordsOf l (ss.take k) = z at *
        have Hz : Hid (z.length + 1 + x.length ≤ 100000000000) := by unfold Hid; have := Hl2.out; rw [Hyx.out] at this; simp at this; omega
        generalize hzl : z.length = zl at *
        have Hzl := Lib.hid hzl
        clear h0 ha Hsn hzl
        go_wp2_with fail
        refine L.out.mono ?_
        rintro e w1 ⟨rfl, rfl⟩
        go_wp2_with fail
        refine (wbyte_any B b _ 32 wr hW.out.1 (by rw [Lib.byteCells_length, Hzl.out]; have := Hz.out; omega) (by omega)).mono ?_
        rintro e w2 ⟨rfl, hb2, hB2, hK2⟩
        have HW2 : Hid (Wrote B b (z ++ [32]) w w2) := ⟨Or.inr (by rw [byteCells_append]; exact hb2), hW.out.2.1.trans hB2, hW.out.2.2.trans hK2⟩
        have hsz2 := HW2.out.2.1.size
        clear hb2 hB2 hK2
        go_wp2_with fail
        refine (wstring_any B b _ ⟨x.toArray⟩ w2 HW2.out.1 (by rw [Lib.byteCells_length]; have := Hz.out; simp [ByteArray.size, Hzl.out]; omega) (by omega)).mono ?_
        rintro e w3 ⟨rfl, hb3, hB3, hK3⟩
        have HW3 : Hid (Wrote B b y w w3) := ⟨Or.inr (by rw [Hyx.out]; rw [strCells_eq, ← byteCells_append, List.append_assoc] at hb3; exact hb3), HW2.out.2.1.trans hB3, HW2.out.2.2.trans hK3⟩
        clear hb3 hB3 hK3
        go_wp2_with fail
        go_roundw
        case rel => exact ⟨k + 1, by omega, by go_num, by unfold Hid; rw [HY.out]; exact HW3.out⟩
        case measure => simp [intOf]; omega
    · obtain rfl : k = n := by omega
      have Ht : Hid (ss.take k = ss) := List.take_of_length_le (by have := Hn.out; omega)
      go_wp2_with fail
      go_ret
      exact ⟨rfl, by have := hW.out; rw [Ht.out] at this; exact this⟩
end Go.Proofs.YtmmmebdgannpgaaDoor
