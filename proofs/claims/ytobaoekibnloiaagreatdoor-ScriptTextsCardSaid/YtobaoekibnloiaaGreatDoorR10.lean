/- Part 10 of the proof: laws on memory and what functions of the program return. No conditions but those that each theorem names. -/
import Derived.Test.YtobaoekibnloiaaGreatDoorR09
import Derived.Deep.CutBlock
import Derived.Deep.DeepCutAuto
import Derived.OneCell
set_option linter.unusedVariables false
set_option linter.unusedSimpArgs false
/- script's Line. Printed by gen_pln.py. -/
namespace Go.Proofs.YtobaoekibnloiaaGreatDoor
open Go Go.RowKit

theorem psplit_any (c : UInt8) (s : ByteArray) (hs : s.size ≤ 1000000) (w : World) (hE : Env w) :
    Calls Tryz.prog 22 #[.string s, .string ⟨#[c]⟩] w fun e w' => e = .returned (.slice (some ⟨w.heap.size, 0, none⟩) (cutB c s).length (cutB c s).length) ∧ w' = w.alloc (.cells ((cutB c s).map Value.string).toArray 9) := by
  obtain ⟨m, hm⟩ := hE.maxlen
  refine (Tryz.strings_Split s ⟨#[c]⟩ m w (by omega) hm (by show 1 ≤ 1; omega)).mono ?_
  rintro e w' ⟨rfl, rfl⟩
  have h := splitB_cut c s
  have hl := congrArg List.length h
  rw [Lib.splitB_all ⟨#[c]⟩ (Nat.le_refl 1) 0 (Lib.countB s ⟨#[c]⟩) s rfl] at hl
  rw [h, hl]
  exact ⟨rfl, rfl⟩
theorem BytesF.set2 {B b : Nat} {w : World} {v : Value} {l : List UInt8} {cs : List Value} (h : BytesF B w v l) (hv : EvAt w b cs) (_ : True) (i j : Nat) (u u' : Value) (ht : ∀ k, B ≤ k → Typed w k 5 → k ≠ b) : BytesF B ((w.setCell ⟨b, i, none⟩ u).setCell ⟨b, j, none⟩ u') v l := by
  obtain ⟨a, cap, h1, h2, h4⟩ := h
  refine ⟨a, cap, h1, h2, fun q hq => ?_⟩
  obtain ⟨ab, ao, ha, hB, c0, cs', fr, htt⟩ := h4 q hq
  have hne : ab ≠ b := ht ab hB ⟨cs', fr, htt⟩
  have e : ((w.setCell ⟨b, i, none⟩ u).setCell ⟨b, j, none⟩ u').heap[ab]? = w.heap[ab]? := by
    rw [Below.heap_setCell _ _ _ _ (by simp; omega), Below.heap_setCell _ _ _ _ (by simp; omega)]
  refine ⟨ab, ao, ha, hB, ?_, cs', fr, by rw [e]; exact htt⟩
  have e2 : ((w.setCell ⟨b, i, none⟩ u).setCell ⟨b, j, none⟩ u').cell? ⟨ab, ao + q, none⟩ = w.cell? ⟨ab, ao + q, none⟩ := World.cell?_of_block (w := w) e
  rw [e2]; exact c0
theorem st_bytes {ws : List ByteArray} {y : Ev} (h : stF ws = some y) : y.bytes = [] := by
  obtain ⟨hg, hw⟩ := stF_good h
  cases hg <;> simp_all [evWords, kwStation, kwText, kwBinary, kwTick, kwCrash, kwRepeat]
/-- The world in which the first word is asked for. -/
theorem line_begin (w : World) (s : ByteArray) (hs : s.size ≤ 900000) (wz : World) (hz : wz = (((w.alloc (.cells #[.int .i64 0, .string ⟨#[]⟩, .slice none 0 0, .int .i64 0, .int .i64 0, .string ⟨#[]⟩, .int .i64 0, .bool false, .int .i64 0, .int .i64 0, .int .i64 0, .int .i64 0, .slice none 0 0] 36)).alloc (.cells ((cutB 32 s).map Value.string).toArray 9)).alloc (.cells #[.slice (some ⟨w.heap.size + 1, 0, none⟩) (cutB 32 s).length (cutB 32 s).length, .bool false] 78)).alloc (.cells #[.int .i64 0, .string ⟨#[]⟩, .slice none 0 0, .int .i64 0, .int .i64 0, .string ⟨#[]⟩, .int .i64 0, .bool false, .int .i64 0, .int .i64 0, .int .i64 0, .int .i64 0, .slice none 0 0] 36)) :
    Cur wz (w.heap.size + 1 + 1) (cutB 32 s) false ∧ EvAt wz (w.heap.size + 1 + 1 + 1) [.int .i64 0, .string ⟨#[]⟩, .slice none 0 0, .int .i64 0, .int .i64 0, .string ⟨#[]⟩, .int .i64 0, .bool false, .int .i64 0, .int .i64 0, .int .i64 0, .int .i64 0, .slice none 0 0] ∧ EvAt wz w.heap.size [.int .i64 0, .string ⟨#[]⟩, .slice none 0 0, .int .i64 0, .int .i64 0, .string ⟨#[]⟩, .int .i64 0, .bool false, .int .i64 0, .int .i64 0, .int .i64 0, .int .i64 0, .slice none 0 0] ∧ Below w.heap.size w wz := by
  have hlen := cutB_length 32 s
  obtain ⟨A, hA⟩ : ∃ A, A = w.alloc (.cells #[.int .i64 0, .string ⟨#[]⟩, .slice none 0 0, .int .i64 0, .int .i64 0, .string ⟨#[]⟩, .int .i64 0, .bool false, .int .i64 0, .int .i64 0, .int .i64 0, .int .i64 0, .slice none 0 0] 36) := ⟨_, rfl⟩
  obtain ⟨C, hC⟩ : ∃ C, C = A.alloc (.cells ((cutB 32 s).map Value.string).toArray 9) := ⟨_, rfl⟩
  obtain ⟨D, hD⟩ : ∃ D, D = C.alloc (.cells #[.slice (some ⟨w.heap.size + 1, 0, none⟩) (cutB 32 s).length (cutB 32 s).length, .bool false] 78) := ⟨_, rfl⟩
  rw [← hA, ← hC, ← hD] at hz
  have e1 : A.heap.size = w.heap.size + 1 := by rw [hA]; simp
  have e2 : C.heap.size = w.heap.size + 1 + 1 := by rw [hC]; simp [e1]
  have e3 : D.heap.size = w.heap.size + 1 + 1 + 1 := by rw [hD]; simp [e2]
  have hb1 : Below A.heap.size A C := by rw [hC]; exact (Below.refl _ _).alloc (Nat.le_refl _) _
  have hb2 : Below C.heap.size C D := by rw [hD]; exact (Below.refl _ _).alloc (Nat.le_refl _) _
  have hb3 : Below D.heap.size D wz := by rw [hz]; exact (Below.refl _ _).alloc (Nat.le_refl _) _
  have hb0 : Below w.heap.size w A := by rw [hA]; exact (Below.refl _ _).alloc (Nat.le_refl _) _
  have h1 : EvAt A w.heap.size [.int .i64 0, .string ⟨#[]⟩, .slice none 0 0, .int .i64 0, .int .i64 0, .string ⟨#[]⟩, .int .i64 0, .bool false, .int .i64 0, .int .i64 0, .int .i64 0, .int .i64 0, .slice none 0 0] := by rw [hA]; exact EvAt.new w [.int .i64 0, .string ⟨#[]⟩, .slice none 0 0, .int .i64 0, .int .i64 0, .string ⟨#[]⟩, .int .i64 0, .bool false, .int .i64 0, .int .i64 0, .int .i64 0, .int .i64 0, .slice none 0 0] rfl _
  have d0 : D.cell? ⟨w.heap.size + 1 + 1, 0, none⟩ = some (.slice (some ⟨w.heap.size + 1, 0, none⟩) (cutB 32 s).length (cutB 32 s).length) := by rw [hD, ← e2]; simp
  have d1 : D.cell? ⟨w.heap.size + 1 + 1, 1, none⟩ = some (.bool false) := by rw [hD, ← e2]; simp
  have f0 : D.frozen? ⟨w.heap.size + 1 + 1, 0, none⟩ = false := by rw [hD, ← e2]; simp
  have f1 : D.frozen? ⟨w.heap.size + 1 + 1, 1, none⟩ = false := by rw [hD, ← e2]; simp
  refine ⟨⟨some ⟨w.heap.size + 1, 0, none⟩, (cutB 32 s).length, Nat.le_refl _, by omega, cell_then hb3 d0, cell_then hb3 d1, ?_, ?_, ?_⟩, ?_, ?_, ?_⟩
  · rw [hb3.frozen (by simp; omega)]; exact f0
  · rw [hb3.frozen (by simp; omega)]; exact f1
  · intro i hi
    refine ⟨w.heap.size + 1, 0, rfl, by omega, ?_⟩
    have c0 : C.cell? ⟨w.heap.size + 1, 0 + i, none⟩ = some (.string ((cutB 32 s).getD i ByteArray.empty)) := by
      rw [hC, ← e1, Nat.zero_add]; simp [List.getD_eq_getElem?_getD, hi]
    exact cell_then hb3 (cell_then hb2 c0)
  · have h := EvAt.new D [.int .i64 0, .string ⟨#[]⟩, .slice none 0 0, .int .i64 0, .int .i64 0, .string ⟨#[]⟩, .int .i64 0, .bool false, .int .i64 0, .int .i64 0, .int .i64 0, .int .i64 0, .slice none 0 0] rfl 36
    rw [e3, ← hz] at h; exact h
  · exact ((h1.below hb1).below hb2).below hb3
  · exact below_then (below_then (below_then hb0 hb1) hb2) hb3
theorem evF_tick {r : List ByteArray} {n : Int} {b : Bool} (h : NumSt r false n b) : (b = false → r.tail = [] → evF (kwTick :: r) = some ⟨3, ⟨#[]⟩, [], n, 0, ⟨#[]⟩, 0, false, 0, 0, 0, 0, []⟩) ∧ ((b = true ∨ r.tail ≠ []) → evF (kwTick :: r) = none) := by
  have k1 : kwTick ≠ kwRepeat := by decide
  have k2 : kwTick ≠ kwStation := by decide
  constructor
  · intro hb ht
    obtain ⟨_, hn, hw⟩ := h.2.1 hb
    have e := headD_cons hw (istr_ne n)
    rw [ht] at e
    rw [e]; simp [evF, k1, k2, numF_iff.2 ⟨hn, rfl⟩]
  · intro hb
    cases r with
    | nil => simp [evF, k1, k2]
    | cons x t =>
      cases t with
      | cons y u => simp [evF, k1, k2]
      | nil =>
        simp only [evF, k1, k2, if_false, if_true]
        cases hq : numF x with
        | none => rfl
        | some m =>
          obtain ⟨hm, hx⟩ := numF_iff.1 hq
          have := h.2.2 rfl m hm hx
          rcases hb with hb | hb
          · rw [this] at hb; cases hb
          · exact absurd rfl hb
theorem evF_crash {r : List ByteArray} {n : Int} {b : Bool} (h : NumSt r false n b) : (b = false → r.tail = [] → evF (kwCrash :: r) = some ⟨5, ⟨#[]⟩, [], n, 0, ⟨#[]⟩, 0, false, 0, 0, 0, 0, []⟩) ∧ ((b = true ∨ r.tail ≠ []) → evF (kwCrash :: r) = none) := by
  have k1 : kwCrash ≠ kwRepeat := by decide
  have k2 : kwCrash ≠ kwStation := by decide
  have k3 : kwCrash ≠ kwTick := by decide
  constructor
  · intro hb ht
    obtain ⟨_, hn, hw⟩ := h.2.1 hb
    have e := headD_cons hw (istr_ne n)
    rw [ht] at e
    rw [e]; simp [evF, k1, k2, k3, numF_iff.2 ⟨hn, rfl⟩]
  · intro hb
    cases r with
    | nil => simp [evF, k1, k2]
    | cons x t =>
      cases t with
      | cons y u => simp [evF, k1, k2]
      | nil =>
        simp only [evF, k1, k2, k3, if_false, if_true]
        cases hq : numF x with
        | none => rfl
        | some m =>
          obtain ⟨hm, hx⟩ := numF_iff.1 hq
          have := h.2.2 rfl m hm hx
          rcases hb with hb | hb
          · rw [this] at hb; cases hb
          · exact absurd rfl hb
/-- What is known behind a call that reads bytes. -/
def DataSt (t : List ByteArray) (l : List UInt8) (b' : Bool) : Prop := (b' = false → t.headD ByteArray.empty = hexS l) ∧ (∀ m, t.headD ByteArray.empty = hexS m → b' = false)
theorem hexS_ne (l : List UInt8) : hexS l ≠ ByteArray.empty := name_ne (hexS_ok l)
theorem evF_text {r : List ByteArray} {l : List UInt8} {b : Bool} (h : DataSt r l b) : (b = false → r.tail = [] → evF (kwText :: r) = some ⟨1, mkB l, [], 0, 0, ⟨#[]⟩, 0, false, 0, 0, 0, 0, []⟩) ∧ ((b = true ∨ r.tail ≠ []) → evF (kwText :: r) = none) := by
  have k1 : kwText ≠ kwRepeat := by decide
  have k2 : kwText ≠ kwStation := by decide
  have k3 : kwText ≠ kwTick := by decide
  have k4 : kwText ≠ kwCrash := by decide
  constructor
  · intro hb ht
    have hw := h.1 hb
    have e := headD_cons hw (hexS_ne l)
    rw [ht] at e
    rw [e]; simp [evF, k1, k2, k3, k4, (data_iff _ _).2 rfl]
  · intro hb
    cases r with
    | nil => simp [evF, k1, k2]
    | cons x t =>
      cases t with
      | cons y u => simp [evF, k1, k2]
      | nil =>
        simp only [evF, k1, k2, k3, k4, if_false, if_true]
        cases hq : dataOf x with
        | none => rfl
        | some m =>
          have := h.2 m ((data_iff _ _).1 hq)
          rcases hb with hb | hb
          · rw [this] at hb; cases hb
          · exact absurd rfl hb
theorem evF_binary {r : List ByteArray} {l : List UInt8} {b : Bool} (h : DataSt r l b) : (b = false → r.tail = [] → evF (kwBinary :: r) = some ⟨2, ⟨#[]⟩, l, 0, 0, ⟨#[]⟩, 0, false, 0, 0, 0, 0, []⟩) ∧ ((b = true ∨ r.tail ≠ []) → evF (kwBinary :: r) = none) := by
  have k1 : kwBinary ≠ kwRepeat := by decide
  have k2 : kwBinary ≠ kwStation := by decide
  have k3 : kwBinary ≠ kwTick := by decide
  have k4 : kwBinary ≠ kwCrash := by decide
  have k5 : kwBinary ≠ kwText := by decide
  constructor
  · intro hb ht
    have hw := h.1 hb
    have e := headD_cons hw (hexS_ne l)
    rw [ht] at e
    rw [e]; simp [evF, k1, k2, k3, k4, k5, (data_iff _ _).2 rfl]
  · intro hb
    cases r with
    | nil => simp [evF, k1, k2]
    | cons x t =>
      cases t with
      | cons y u => simp [evF, k1, k2]
      | nil =>
        simp only [evF, k1, k2, k3, k4, k5, if_false, if_true]
        cases hq : dataOf x with
        | none => rfl
        | some m =>
          have := h.2 m ((data_iff _ _).1 hq)
          rcases hb with hb | hb
          · rw [this] at hb; cases hb
          · exact absurd rfl hb
theorem evF_again (r : List ByteArray) : (r = [] → evF (kwRepeat :: r) = some ⟨6, ⟨#[]⟩, [], 0, 0, ⟨#[]⟩, 0, false, 0, 0, 0, 0, []⟩) ∧ (r ≠ [] → evF (kwRepeat :: r) = none) := by
  constructor
  · rintro rfl; simp [evF]
  · intro h; simp [evF, h]
theorem evF_station (r : List ByteArray) : evF (kwStation :: r) = stF r := by
  have k1 : kwStation ≠ kwRepeat := by decide
  simp [evF, k1]
theorem evF_other {k : ByteArray} (h1 : k ≠ kwText) (h2 : k ≠ kwBinary) (h3 : k ≠ kwTick) (h4 : k ≠ kwCrash) (h5 : k ≠ kwRepeat) (h6 : k ≠ kwStation) (r : List ByteArray) : evF (k :: r) = none := by
  cases r with
  | nil => simp [evF, h5, h6]
  | cons x t =>
    cases t with
    | nil => simp [evF, h1, h2, h3, h4, h5, h6]
    | cons y u => simp [evF, h5, h6]
set_option maxHeartbeats 4000000 in
set_option maxRecDepth 100000 in
theorem pline_text (s : ByteArray) (hs : s.size ≤ 900000) (w : World) (hE : Env w) (r : List ByteArray) (hcu : cutB 32 s = kwText :: r) :
    Calls Tryz.prog 16 #[.string s] w (LineIs s w) := by
  have HLE := Lib.hid (fun wz hz => line_begin w s hs wz hz)
  have HSP := Lib.hid (fun w' hE' => psplit_any 32 s (by omega) w' hE')
  have HZ : Hid (∀ x ∈ cutB 32 s, x.size ≤ 1000000) := fun x hx => by have := cutB_part 32 s x hx; omega
  have HE := Lib.hid hE
  have hs8 := hE.size
  have HCu := Lib.hid hcu
  have HF : Hid (lineF s = evF (kwText :: r)) := by unfold Hid lineF; rw [hcu]
  clear hE hs hcu
  go_enter Tryz.func16, Tryz.ntmps16
  go_wp2_with fail
  refine (HSP.out _ (HE.out.below ((Below.refl _ _).alloc (Nat.le_refl _) _) hs8)).mono ?_
  rintro e w1 ⟨rfl, hw1⟩
  generalize hm : (cutB 32 s).length = m at *
  rw [show (w.alloc (.cells #[.int .i64 0, .string ⟨#[]⟩, .slice none 0 0, .int .i64 0, .int .i64 0, .string ⟨#[]⟩, .int .i64 0, .bool false, .int .i64 0, .int .i64 0, .int .i64 0, .int .i64 0, .slice none 0 0] 36)).heap.size = w.heap.size + 1 by simp]
  have hsz : w1.heap.size = w.heap.size + 1 + 1 := by rw [hw1]; simp
  have HW1 := Lib.hid hw1
  clear hw1
  go_wp2_with fail
  obtain ⟨v1, hv1⟩ : ∃ v1, v1 = (w1.alloc (.cells #[.slice (some ⟨w.heap.size + 1, 0, none⟩) m m, .bool false] 78)).alloc (.cells #[.int .i64 0, .string ⟨#[]⟩, .slice none 0 0, .int .i64 0, .int .i64 0, .string ⟨#[]⟩, .int .i64 0, .bool false, .int .i64 0, .int .i64 0, .int .i64 0, .int .i64 0, .slice none 0 0] 36) := ⟨_, rfl⟩
  rw [← hv1]
  obtain ⟨hc, hv, hr, hb⟩ := HLE.out v1 (by rw [hv1, HW1.out])
  have HC := Lib.hid hc
  have HV := Lib.hid hv
  have HR := Lib.hid hr
  have HB := Lib.hid hb
  clear hc hv hr hb hv1 HW1 hm hsz HSP HLE
  refine (next_any (w.heap.size + 1 + 1) (cutB 32 s) false v1 HC.out).mono ?_
  rintro e w2 ⟨rfl, hc2, hb2⟩
  rw [HCu.out] at hc2 ⊢
  have hc2 : Cur w2 (w.heap.size + 1 + 1) r false := hc2
  have HC2 := Lib.hid hc2
  have HV2 := Lib.hid (HV.out.but hb2 (by omega))
  have HR2 := Lib.hid (HR.out.but hb2 (by omega))
  have HB2 := Lib.hid (below_but HB.out hb2 (by omega) HC.out.lt)
  have HZr : Hid (∀ x ∈ r, x.size ≤ 1000000) := fun x hx => HZ.out x (by rw [HCu.out]; exact List.mem_cons_of_mem _ hx)
  simp only [List.headD_cons]
  clear hc2 hb2 HC HV HR HB HZ HCu
  unfold kwText
  go_wp2_with fail
  refine (bytes_any (w.heap.size + 1 + 1) r false w2 HC2.out HZr.out).mono ?_
  rintro e w3 ⟨v, l, b3, rfl, hown, hll, hn1, hn2, hc3, hb3⟩
  have HN : Hid (DataSt r l b3) := ⟨fun h => (hn1 h).2, fun m h => hn2 rfl m h⟩
  have hbf := BytesF.of_own hown hll
  have Hlt : Hid (w.heap.size + 1 + 1 < w2.heap.size) := HC2.out.lt
  have hbf' : BytesF (w.heap.size + 1) w3 v l := hbf.mono (by have := Hlt.out; omega)
  have HBz := Lib.hid hbf
  have Heb : Hid (w.heap.size + 1 + 1 + 1 < w2.heap.size) := HV2.out.lt
  obtain ⟨ba, bc, rfl, hz1, hz2⟩ := hbf
  clear hz1 hz2
  have hcv := hbf'.conv
  have HBy := Lib.hid hbf'
  have HC3 := Lib.hid hc3
  have HV3 := Lib.hid (HV2.out.but hb3 (by omega))
  have HR3 := Lib.hid (HR2.out.but hb3 (by omega))
  have HB3 := Lib.hid (below_but HB2.out hb3 (by omega) HC2.out.lt)
  have Hll := Lib.hid hll
  clear hn1 hn2 hc3 hb3 hown hll hbf' Hlt
  have e0 := HV3.out.facts.1
  have e1 := HV3.out.facts.2.1
  have s0 := HV3.out.soft.1
  have s1 := HV3.out.soft.2.1
  go_upto_region 18 with fail
  clear e0 e1 s0 s1 hcv
  obtain ⟨v4, hv4⟩ : ∃ v4, v4 = (w3.setCell ⟨w.heap.size + 1 + 1 + 1, 0, none⟩ (.int .i64 1)).setCell ⟨w.heap.size + 1 + 1 + 1, 1, none⟩ (.string (mkB l)) := ⟨_, rfl⟩
  rw [← hv4]
  have HC4 : Hid (Cur v4 (w.heap.size + 1 + 1) r.tail b3) := by rw [hv4]; exact (HC3.out.setEb (by omega) 0 _).setEb (by omega) 1 _
  have HV4 : Hid (EvAt v4 (w.heap.size + 1 + 1 + 1) (evCells (⟨1, mkB l, [], 0, 0, ⟨#[]⟩, 0, false, 0, 0, 0, 0, []⟩) (.slice none 0 0) (.slice none 0 0))) := by rw [hv4]; exact (HV3.out.set 0 (by omega) _).set 1 (by omega) _
  have HR4 : Hid (EvAt v4 w.heap.size [.int .i64 0, .string ⟨#[]⟩, .slice none 0 0, .int .i64 0, .int .i64 0, .string ⟨#[]⟩, .int .i64 0, .bool false, .int .i64 0, .int .i64 0, .int .i64 0, .int .i64 0, .slice none 0 0]) := by rw [hv4]; exact (HR3.out.other (by simp; omega) _).other (by simp; omega) _
  have HB4 : Hid (Below w.heap.size w v4) := by rw [hv4]; exact (HB3.out.setCell (by simp; omega) _).setCell (by simp; omega) _
  have HP4 : Hid (EvParts (w.heap.size + 1) v4 (⟨1, mkB l, [], 0, 0, ⟨#[]⟩, 0, false, 0, 0, 0, 0, []⟩) (.slice none 0 0) (.slice none 0 0)) := ⟨⟨by unfold I64; simp, by show (mkB l).size ≤ 1000000; rw [show (mkB l).size = l.length from List.size_toArray ..]; exact Hll.out, I64.zero, I64.zero, by simp [ByteArray.size], I64.zero, I64.zero, I64.zero, I64.zero, I64.zero⟩, BytesF.nil (w.heap.size + 1) _, BiasIn.nil _ _⟩
  clear hv4 HC3 HV3 HR3 HB3 HC2 HV2 HR2 HB2 HBy Hll HBz Heb
  have HRf := Lib.hid HR4.out
  have HVf := Lib.hid HV4.out
  have HBf := Lib.hid HB4.out
  have hne : w.heap.size ≠ w.heap.size + 1 + 1 + 1 := by omega
  obtain ⟨ca, cc, c0, c1, f1, hcc, hcl⟩ := curFacts HC4.out
  clear hcc
  have HfinZ : Hid (∀ wz, lineF s = none → EvAt wz w.heap.size [.int .i64 0, .string ⟨#[]⟩, .slice none 0 0, .int .i64 0, .int .i64 0, .string ⟨#[]⟩, .int .i64 0, .bool false, .int .i64 0, .int .i64 0, .int .i64 0, .int .i64 0, .slice none 0 0] → Apart w.heap.size v4 wz → LineIs s w (.returned (.tuple #[.agg [.int .i64 0, .string ⟨#[]⟩, .slice none 0 0, .int .i64 0, .int .i64 0, .string ⟨#[]⟩, .int .i64 0, .bool false, .int .i64 0, .int .i64 0, .int .i64 0, .int .i64 0, .slice none 0 0].toArray, .int .i64 3])) wz) := fun wz hn _ ha =>
    ⟨Ev.zero, .slice none 0 0, .slice none 0 0, 3, rfl, by rw [hn]; exact ⟨rfl, rfl⟩, zero_parts _ _, rfl, rfl, HBf.out.trans (ha.below (Nat.le_refl _))⟩
  have HFIN : Hid (r.tail = [] → b3 = false → ∀ wz, EvAt wz w.heap.size (evCells (⟨1, mkB l, [], 0, 0, ⟨#[]⟩, 0, false, 0, 0, 0, 0, []⟩) (.slice none 0 0) (.slice none 0 0)) → Apart w.heap.size v4 wz → LineIs s w (.returned (.tuple #[.agg (evCells (⟨1, mkB l, [], 0, 0, ⟨#[]⟩, 0, false, 0, 0, 0, 0, []⟩) (.slice none 0 0) (.slice none 0 0)).toArray, .int .i64 0])) wz) := by
    intro hre hba wz _ ha
    have hp : EvParts w.heap.size wz (⟨1, mkB l, [], 0, 0, ⟨#[]⟩, 0, false, 0, 0, 0, 0, []⟩) (.slice none 0 0) (.slice none 0 0) := (ha.parts (HP4.out) (by omega)).mono (by omega)
    exact ⟨⟨1, mkB l, [], 0, 0, ⟨#[]⟩, 0, false, 0, 0, 0, 0, []⟩, .slice none 0 0, .slice none 0 0, 0, rfl, by rw [HF.out, (evF_text HN.out).1 hba hre]; exact ⟨rfl, rfl⟩, hp, rfl, rfl, HBf.out.trans (ha.below (Nat.le_refl _))⟩
  have HNO : Hid ((b3 = true ∨ r.tail ≠ []) → lineF s = none) := fun h => HF.out.trans ((evF_text HN.out).2 h)
  obtain ⟨rs, hrs⟩ : ∃ rs, rs = r.tail := ⟨_, rfl⟩
  rw [← hrs] at HFIN HNO c0
  clear hrs
  cases b3 with
  | true =>
    go_wp2_with (refine ev_store rfl _ _ rfl _ rfl _ [.int .i64 0, .string ⟨#[]⟩, .slice none 0 0, .int .i64 0, .int .i64 0, .string ⟨#[]⟩, .int .i64 0, .bool false, .int .i64 0, .int .i64 0, .int .i64 0, .int .i64 0, .slice none 0 0] rfl HRf.out rfl (evCells_one Ev.zero rfl rfl) ?_; intro wz EZ HZz)
    refine ret_ev rfl _ _ _ EZ rfl rfl rfl ?_
    exact HfinZ.out wz (HNO.out (by simp)) EZ HZz
  | false =>
    cases rs with
    | nil =>
      have c0 : v4.cell? ⟨w.heap.size + 1 + 1, 0, none⟩ = some (.slice ca 0 cc) := c0
      go_wp2_with (first
        | (refine ev_load rfl _ rfl _ rfl _ HVf.out ?_)
        | (refine ev_store rfl _ _ rfl _ rfl _ (evCells (⟨1, mkB l, [], 0, 0, ⟨#[]⟩, 0, false, 0, 0, 0, 0, []⟩) (.slice none 0 0) (.slice none 0 0)) rfl HRf.out rfl (evCells_one _ rfl rfl) ?_; intro wz EZ HZz))
      refine ret_ev rfl _ _ _ EZ rfl rfl rfl ?_
      exact HFIN.out (by simp) (by simp) wz EZ HZz
    | cons q u =>
      have hm0 : (0 : Int) < ((u.length + 1 : Nat) : Int) := by omega
      have c0 : v4.cell? ⟨w.heap.size + 1 + 1, 0, none⟩ = some (.slice ca (u.length + 1) cc) := c0
      generalize u.length + 1 = m at *
      go_wp2_with (refine ev_store rfl _ _ rfl _ rfl _ [.int .i64 0, .string ⟨#[]⟩, .slice none 0 0, .int .i64 0, .int .i64 0, .string ⟨#[]⟩, .int .i64 0, .bool false, .int .i64 0, .int .i64 0, .int .i64 0, .int .i64 0, .slice none 0 0] rfl HRf.out rfl (evCells_one Ev.zero rfl rfl) ?_; intro wz EZ HZz)
      refine ret_ev rfl _ _ _ EZ rfl rfl rfl ?_
      exact HfinZ.out wz (HNO.out (by simp)) EZ HZz

set_option maxHeartbeats 4000000 in
set_option maxRecDepth 100000 in
theorem pline_binary (s : ByteArray) (hs : s.size ≤ 900000) (w : World) (hE : Env w) (r : List ByteArray) (hcu : cutB 32 s = kwBinary :: r) :
    Calls Tryz.prog 16 #[.string s] w (LineIs s w) := by
  have HLE := Lib.hid (fun wz hz => line_begin w s hs wz hz)
  have HSP := Lib.hid (fun w' hE' => psplit_any 32 s (by omega) w' hE')
  have HZ : Hid (∀ x ∈ cutB 32 s, x.size ≤ 1000000) := fun x hx => by have := cutB_part 32 s x hx; omega
  have HE := Lib.hid hE
  have hs8 := hE.size
  have HCu := Lib.hid hcu
  have HF : Hid (lineF s = evF (kwBinary :: r)) := by unfold Hid lineF; rw [hcu]
  clear hE hs hcu
  go_enter Tryz.func16, Tryz.ntmps16
  go_wp2_with fail
  refine (HSP.out _ (HE.out.below ((Below.refl _ _).alloc (Nat.le_refl _) _) hs8)).mono ?_
  rintro e w1 ⟨rfl, hw1⟩
  generalize hm : (cutB 32 s).length = m at *
  rw [show (w.alloc (.cells #[.int .i64 0, .string ⟨#[]⟩, .slice none 0 0, .int .i64 0, .int .i64 0, .string ⟨#[]⟩, .int .i64 0, .bool false, .int .i64 0, .int .i64 0, .int .i64 0, .int .i64 0, .slice none 0 0] 36)).heap.size = w.heap.size + 1 by simp]
  have hsz : w1.heap.size = w.heap.size + 1 + 1 := by rw [hw1]; simp
  have HW1 := Lib.hid hw1
  clear hw1
  go_wp2_with fail
  obtain ⟨v1, hv1⟩ : ∃ v1, v1 = (w1.alloc (.cells #[.slice (some ⟨w.heap.size + 1, 0, none⟩) m m, .bool false] 78)).alloc (.cells #[.int .i64 0, .string ⟨#[]⟩, .slice none 0 0, .int .i64 0, .int .i64 0, .string ⟨#[]⟩, .int .i64 0, .bool false, .int .i64 0, .int .i64 0, .int .i64 0, .int .i64 0, .slice none 0 0] 36) := ⟨_, rfl⟩
  rw [← hv1]
  obtain ⟨hc, hv, hr, hb⟩ := HLE.out v1 (by rw [hv1, HW1.out])
  have HC := Lib.hid hc
  have HV := Lib.hid hv
  have HR := Lib.hid hr
  have HB := Lib.hid hb
  clear hc hv hr hb hv1 HW1 hm hsz HSP HLE
  refine (next_any (w.heap.size + 1 + 1) (cutB 32 s) false v1 HC.out).mono ?_
  rintro e w2 ⟨rfl, hc2, hb2⟩
  rw [HCu.out] at hc2 ⊢
  have hc2 : Cur w2 (w.heap.size + 1 + 1) r false := hc2
  have HC2 := Lib.hid hc2
  have HV2 := Lib.hid (HV.out.but hb2 (by omega))
  have HR2 := Lib.hid (HR.out.but hb2 (by omega))
  have HB2 := Lib.hid (below_but HB.out hb2 (by omega) HC.out.lt)
  have HZr : Hid (∀ x ∈ r, x.size ≤ 1000000) := fun x hx => HZ.out x (by rw [HCu.out]; exact List.mem_cons_of_mem _ hx)
  simp only [List.headD_cons]
  clear hc2 hb2 HC HV HR HB HZ HCu
  unfold kwBinary
  go_wp2_with fail
  refine (bytes_any (w.heap.size + 1 + 1) r false w2 HC2.out HZr.out).mono ?_
  rintro e w3 ⟨v, l, b3, rfl, hown, hll, hn1, hn2, hc3, hb3⟩
  have HN : Hid (DataSt r l b3) := ⟨fun h => (hn1 h).2, fun m h => hn2 rfl m h⟩
  have hbf := BytesF.of_own hown hll
  have Hlt : Hid (w.heap.size + 1 + 1 < w2.heap.size) := HC2.out.lt
  have hbf' : BytesF (w.heap.size + 1) w3 v l := hbf.mono (by have := Hlt.out; omega)
  have HBz := Lib.hid hbf
  have Heb : Hid (w.heap.size + 1 + 1 + 1 < w2.heap.size) := HV2.out.lt
  obtain ⟨ba, bc, rfl, hz1, hz2⟩ := hbf
  clear hz1 hz2
  have hcv := hbf'.conv
  have HBy := Lib.hid hbf'
  have HC3 := Lib.hid hc3
  have HV3 := Lib.hid (HV2.out.but hb3 (by omega))
  have HR3 := Lib.hid (HR2.out.but hb3 (by omega))
  have HB3 := Lib.hid (below_but HB2.out hb3 (by omega) HC2.out.lt)
  have Hll := Lib.hid hll
  clear hn1 hn2 hc3 hb3 hown hll hbf' Hlt
  have e0 := HV3.out.facts.1
  have e1 := HV3.out.facts.2.2.1
  have s0 := HV3.out.soft.1
  have s1 := HV3.out.soft.2.2.1
  go_upto_region 18 with fail
  clear e0 e1 s0 s1 hcv
  obtain ⟨v4, hv4⟩ : ∃ v4, v4 = (w3.setCell ⟨w.heap.size + 1 + 1 + 1, 0, none⟩ (.int .i64 2)).setCell ⟨w.heap.size + 1 + 1 + 1, 2, none⟩ (.slice ba l.length bc) := ⟨_, rfl⟩
  rw [← hv4]
  have HC4 : Hid (Cur v4 (w.heap.size + 1 + 1) r.tail b3) := by rw [hv4]; exact (HC3.out.setEb (by omega) 0 _).setEb (by omega) 2 _
  have HV4 : Hid (EvAt v4 (w.heap.size + 1 + 1 + 1) (evCells (⟨2, ⟨#[]⟩, l, 0, 0, ⟨#[]⟩, 0, false, 0, 0, 0, 0, []⟩) (.slice ba l.length bc) (.slice none 0 0))) := by rw [hv4]; exact (HV3.out.set 0 (by omega) _).set 2 (by omega) _
  have HR4 : Hid (EvAt v4 w.heap.size [.int .i64 0, .string ⟨#[]⟩, .slice none 0 0, .int .i64 0, .int .i64 0, .string ⟨#[]⟩, .int .i64 0, .bool false, .int .i64 0, .int .i64 0, .int .i64 0, .int .i64 0, .slice none 0 0]) := by rw [hv4]; exact (HR3.out.other (by simp; omega) _).other (by simp; omega) _
  have HB4 : Hid (Below w.heap.size w v4) := by rw [hv4]; exact (HB3.out.setCell (by simp; omega) _).setCell (by simp; omega) _
  have HP4 : Hid (EvParts (w.heap.size + 1) v4 (⟨2, ⟨#[]⟩, l, 0, 0, ⟨#[]⟩, 0, false, 0, 0, 0, 0, []⟩) (.slice ba l.length bc) (.slice none 0 0)) := ⟨⟨by unfold I64; simp, by simp [ByteArray.size], I64.zero, I64.zero, by simp [ByteArray.size], I64.zero, I64.zero, I64.zero, I64.zero, I64.zero⟩, by rw [hv4]; exact (HBz.out.set2 HV3.out trivial _ _ _ _ (fun k hk _ => by have := Heb.out; omega)).mono (by have := Heb.out; omega), BiasIn.nil _ _⟩
  clear hv4 HC3 HV3 HR3 HB3 HC2 HV2 HR2 HB2 HBy Hll HBz Heb
  have HRf := Lib.hid HR4.out
  have HVf := Lib.hid HV4.out
  have HBf := Lib.hid HB4.out
  have hne : w.heap.size ≠ w.heap.size + 1 + 1 + 1 := by omega
  obtain ⟨ca, cc, c0, c1, f1, hcc, hcl⟩ := curFacts HC4.out
  clear hcc
  have HfinZ : Hid (∀ wz, lineF s = none → EvAt wz w.heap.size [.int .i64 0, .string ⟨#[]⟩, .slice none 0 0, .int .i64 0, .int .i64 0, .string ⟨#[]⟩, .int .i64 0, .bool false, .int .i64 0, .int .i64 0, .int .i64 0, .int .i64 0, .slice none 0 0] → Apart w.heap.size v4 wz → LineIs s w (.returned (.tuple #[.agg [.int .i64 0, .string ⟨#[]⟩, .slice none 0 0, .int .i64 0, .int .i64 0, .string ⟨#[]⟩, .int .i64 0, .bool false, .int .i64 0, .int .i64 0, .int .i64 0, .int .i64 0, .slice none 0 0].toArray, .int .i64 3])) wz) := fun wz hn _ ha =>
    ⟨Ev.zero, .slice none 0 0, .slice none 0 0, 3, rfl, by rw [hn]; exact ⟨rfl, rfl⟩, zero_parts _ _, rfl, rfl, HBf.out.trans (ha.below (Nat.le_refl _))⟩
  have HFIN : Hid (r.tail = [] → b3 = false → ∀ wz, EvAt wz w.heap.size (evCells (⟨2, ⟨#[]⟩, l, 0, 0, ⟨#[]⟩, 0, false, 0, 0, 0, 0, []⟩) (.slice ba l.length bc) (.slice none 0 0)) → Apart w.heap.size v4 wz → LineIs s w (.returned (.tuple #[.agg (evCells (⟨2, ⟨#[]⟩, l, 0, 0, ⟨#[]⟩, 0, false, 0, 0, 0, 0, []⟩) (.slice ba l.length bc) (.slice none 0 0)).toArray, .int .i64 0])) wz) := by
    intro hre hba wz _ ha
    have hp : EvParts w.heap.size wz (⟨2, ⟨#[]⟩, l, 0, 0, ⟨#[]⟩, 0, false, 0, 0, 0, 0, []⟩) (.slice ba l.length bc) (.slice none 0 0) := (ha.parts (HP4.out) (by omega)).mono (by omega)
    exact ⟨⟨2, ⟨#[]⟩, l, 0, 0, ⟨#[]⟩, 0, false, 0, 0, 0, 0, []⟩, .slice ba l.length bc, .slice none 0 0, 0, rfl, by rw [HF.out, (evF_binary HN.out).1 hba hre]; exact ⟨rfl, rfl⟩, hp, rfl, rfl, HBf.out.trans (ha.below (Nat.le_refl _))⟩
  have HNO : Hid ((b3 = true ∨ r.tail ≠ []) → lineF s = none) := fun h => HF.out.trans ((evF_binary HN.out).2 h)
  obtain ⟨rs, hrs⟩ : ∃ rs, rs = r.tail := ⟨_, rfl⟩
  rw [← hrs] at HFIN HNO c0
  clear hrs
  cases b3 with
  | true =>
    go_wp2_with (refine ev_store rfl _ _ rfl _ rfl _ [.int .i64 0, .string ⟨#[]⟩, .slice none 0 0, .int .i64 0, .int .i64 0, .string ⟨#[]⟩, .int .i64 0, .bool false, .int .i64 0, .int .i64 0, .int .i64 0, .int .i64 0, .slice none 0 0] rfl HRf.out rfl (evCells_one Ev.zero rfl rfl) ?_; intro wz EZ HZz)
    refine ret_ev rfl _ _ _ EZ rfl rfl rfl ?_
    exact HfinZ.out wz (HNO.out (by simp)) EZ HZz
  | false =>
    cases rs with
    | nil =>
      have c0 : v4.cell? ⟨w.heap.size + 1 + 1, 0, none⟩ = some (.slice ca 0 cc) := c0
      go_wp2_with (first
        | (refine ev_load rfl _ rfl _ rfl _ HVf.out ?_)
        | (refine ev_store rfl _ _ rfl _ rfl _ (evCells (⟨2, ⟨#[]⟩, l, 0, 0, ⟨#[]⟩, 0, false, 0, 0, 0, 0, []⟩) (.slice ba l.length bc) (.slice none 0 0)) rfl HRf.out rfl (evCells_one _ rfl rfl) ?_; intro wz EZ HZz))
      refine ret_ev rfl _ _ _ EZ rfl rfl rfl ?_
      exact HFIN.out (by simp) (by simp) wz EZ HZz
    | cons q u =>
      have hm0 : (0 : Int) < ((u.length + 1 : Nat) : Int) := by omega
      have c0 : v4.cell? ⟨w.heap.size + 1 + 1, 0, none⟩ = some (.slice ca (u.length + 1) cc) := c0
      generalize u.length + 1 = m at *
      go_wp2_with (refine ev_store rfl _ _ rfl _ rfl _ [.int .i64 0, .string ⟨#[]⟩, .slice none 0 0, .int .i64 0, .int .i64 0, .string ⟨#[]⟩, .int .i64 0, .bool false, .int .i64 0, .int .i64 0, .int .i64 0, .int .i64 0, .slice none 0 0] rfl HRf.out rfl (evCells_one Ev.zero rfl rfl) ?_; intro wz EZ HZz)
      refine ret_ev rfl _ _ _ EZ rfl rfl rfl ?_
      exact HfinZ.out wz (HNO.out (by simp)) EZ HZz

set_option maxHeartbeats 4000000 in
set_option maxRecDepth 100000 in
theorem pline_tick (s : ByteArray) (hs : s.size ≤ 900000) (w : World) (hE : Env w) (r : List ByteArray) (hcu : cutB 32 s = kwTick :: r) :
    Calls Tryz.prog 16 #[.string s] w (LineIs s w) := by
  have HLE := Lib.hid (fun wz hz => line_begin w s hs wz hz)
  have HSP := Lib.hid (fun w' hE' => psplit_any 32 s (by omega) w' hE')
  have HZ : Hid (∀ x ∈ cutB 32 s, x.size ≤ 1000000) := fun x hx => by have := cutB_part 32 s x hx; omega
  have HE := Lib.hid hE
  have hs8 := hE.size
  have HCu := Lib.hid hcu
  have HF : Hid (lineF s = evF (kwTick :: r)) := by unfold Hid lineF; rw [hcu]
  clear hE hs hcu
  go_enter Tryz.func16, Tryz.ntmps16
  go_wp2_with fail
  refine (HSP.out _ (HE.out.below ((Below.refl _ _).alloc (Nat.le_refl _) _) hs8)).mono ?_
  rintro e w1 ⟨rfl, hw1⟩
  generalize hm : (cutB 32 s).length = m at *
  rw [show (w.alloc (.cells #[.int .i64 0, .string ⟨#[]⟩, .slice none 0 0, .int .i64 0, .int .i64 0, .string ⟨#[]⟩, .int .i64 0, .bool false, .int .i64 0, .int .i64 0, .int .i64 0, .int .i64 0, .slice none 0 0] 36)).heap.size = w.heap.size + 1 by simp]
  have hsz : w1.heap.size = w.heap.size + 1 + 1 := by rw [hw1]; simp
  have HW1 := Lib.hid hw1
  clear hw1
  go_wp2_with fail
  obtain ⟨v1, hv1⟩ : ∃ v1, v1 = (w1.alloc (.cells #[.slice (some ⟨w.heap.size + 1, 0, none⟩) m m, .bool false] 78)).alloc (.cells #[.int .i64 0, .string ⟨#[]⟩, .slice none 0 0, .int .i64 0, .int .i64 0, .string ⟨#[]⟩, .int .i64 0, .bool false, .int .i64 0, .int .i64 0, .int .i64 0, .int .i64 0, .slice none 0 0] 36) := ⟨_, rfl⟩
  rw [← hv1]
  obtain ⟨hc, hv, hr, hb⟩ := HLE.out v1 (by rw [hv1, HW1.out])
  have HC := Lib.hid hc
  have HV := Lib.hid hv
  have HR := Lib.hid hr
  have HB := Lib.hid hb
  clear hc hv hr hb hv1 HW1 hm hsz HSP HLE
  refine (next_any (w.heap.size + 1 + 1) (cutB 32 s) false v1 HC.out).mono ?_
  rintro e w2 ⟨rfl, hc2, hb2⟩
  rw [HCu.out] at hc2 ⊢
  have hc2 : Cur w2 (w.heap.size + 1 + 1) r false := hc2
  have HC2 := Lib.hid hc2
  have HV2 := Lib.hid (HV.out.but hb2 (by omega))
  have HR2 := Lib.hid (HR.out.but hb2 (by omega))
  have HB2 := Lib.hid (below_but HB.out hb2 (by omega) HC.out.lt)
  have HZr : Hid (∀ x ∈ r, x.size ≤ 1000000) := fun x hx => HZ.out x (by rw [HCu.out]; exact List.mem_cons_of_mem _ hx)
  simp only [List.headD_cons]
  clear hc2 hb2 HC HV HR HB HZ HCu
  unfold kwTick
  go_wp2_with fail
  refine (number_any (w.heap.size + 1 + 1) r false w2 HC2.out (HE.out.below HB2.out hs8) (by omega) HZr.out).mono ?_
  rintro e w3 ⟨n, b3, hnI, rfl, hn1, hn2, hc3, hb3⟩
  have HN : Hid (NumSt r false n b3) := ⟨hnI, hn1, hn2⟩
  have HC3 := Lib.hid hc3
  have HV3 := Lib.hid (HV2.out.but hb3 (by omega))
  have HR3 := Lib.hid (HR2.out.but hb3 (by omega))
  have HB3 := Lib.hid (below_but HB2.out hb3 (by omega) HC2.out.lt)
  clear hnI hn1 hn2 hc3 hb3
  have e0 := HV3.out.facts.1
  have e3 := HV3.out.facts.2.2.2.1
  have s0 := HV3.out.soft.1
  have s3 := HV3.out.soft.2.2.2.1
  go_upto_region 18 with fail
  clear e0 e3 s0 s3
  obtain ⟨v4, hv4⟩ : ∃ v4, v4 = (w3.setCell ⟨w.heap.size + 1 + 1 + 1, 0, none⟩ (.int .i64 3)).setCell ⟨w.heap.size + 1 + 1 + 1, 3, none⟩ (.int .i64 n) := ⟨_, rfl⟩
  rw [← hv4]
  have HC4 : Hid (Cur v4 (w.heap.size + 1 + 1) r.tail b3) := by rw [hv4]; exact (HC3.out.setEb (by omega) 0 _).setEb (by omega) 3 _
  have HV4 : Hid (EvAt v4 (w.heap.size + 1 + 1 + 1) (evCells (⟨3, ⟨#[]⟩, [], n, 0, ⟨#[]⟩, 0, false, 0, 0, 0, 0, []⟩) (.slice none 0 0) (.slice none 0 0))) := by rw [hv4]; exact (HV3.out.set 0 (by omega) _).set 3 (by omega) _
  have HR4 : Hid (EvAt v4 w.heap.size [.int .i64 0, .string ⟨#[]⟩, .slice none 0 0, .int .i64 0, .int .i64 0, .string ⟨#[]⟩, .int .i64 0, .bool false, .int .i64 0, .int .i64 0, .int .i64 0, .int .i64 0, .slice none 0 0]) := by rw [hv4]; exact (HR3.out.other (by simp; omega) _).other (by simp; omega) _
  have HB4 : Hid (Below w.heap.size w v4) := by rw [hv4]; exact (HB3.out.setCell (by simp; omega) _).setCell (by simp; omega) _
  clear hv4 HC3 HV3 HR3 HB3 HC2 HV2 HR2 HB2
  have HRf := Lib.hid HR4.out
  have HVf := Lib.hid HV4.out
  have HBf := Lib.hid HB4.out
  have hne : w.heap.size ≠ w.heap.size + 1 + 1 + 1 := by omega
  obtain ⟨ca, cc, c0, c1, f1, hcc, hcl⟩ := curFacts HC4.out
  clear hcc
  have HfinZ : Hid (∀ wz, lineF s = none → EvAt wz w.heap.size [.int .i64 0, .string ⟨#[]⟩, .slice none 0 0, .int .i64 0, .int .i64 0, .string ⟨#[]⟩, .int .i64 0, .bool false, .int .i64 0, .int .i64 0, .int .i64 0, .int .i64 0, .slice none 0 0] → Apart w.heap.size v4 wz → LineIs s w (.returned (.tuple #[.agg [.int .i64 0, .string ⟨#[]⟩, .slice none 0 0, .int .i64 0, .int .i64 0, .string ⟨#[]⟩, .int .i64 0, .bool false, .int .i64 0, .int .i64 0, .int .i64 0, .int .i64 0, .slice none 0 0].toArray, .int .i64 3])) wz) := fun wz hn _ ha =>
    ⟨Ev.zero, .slice none 0 0, .slice none 0 0, 3, rfl, by rw [hn]; exact ⟨rfl, rfl⟩, zero_parts _ _, rfl, rfl, HBf.out.trans (ha.below (Nat.le_refl _))⟩
  have HFIN : Hid (r.tail = [] → b3 = false → ∀ wz, EvAt wz w.heap.size (evCells (⟨3, ⟨#[]⟩, [], n, 0, ⟨#[]⟩, 0, false, 0, 0, 0, 0, []⟩) (.slice none 0 0) (.slice none 0 0)) → Apart w.heap.size v4 wz → LineIs s w (.returned (.tuple #[.agg (evCells (⟨3, ⟨#[]⟩, [], n, 0, ⟨#[]⟩, 0, false, 0, 0, 0, 0, []⟩) (.slice none 0 0) (.slice none 0 0)).toArray, .int .i64 0])) wz) := by
    intro hre hba wz _ ha
    have hp : EvParts w.heap.size wz (⟨3, ⟨#[]⟩, [], n, 0, ⟨#[]⟩, 0, false, 0, 0, 0, 0, []⟩) (.slice none 0 0) (.slice none 0 0) := (ha.parts (⟨⟨by unfold I64; simp, by simp [ByteArray.size], HN.out.1, I64.zero, by simp [ByteArray.size], I64.zero, I64.zero, I64.zero, I64.zero, I64.zero⟩, BytesF.nil (w.heap.size + 1) _, BiasIn.nil _ _⟩) (by omega)).mono (by omega)
    exact ⟨⟨3, ⟨#[]⟩, [], n, 0, ⟨#[]⟩, 0, false, 0, 0, 0, 0, []⟩, .slice none 0 0, .slice none 0 0, 0, rfl, by rw [HF.out, (evF_tick HN.out).1 hba hre]; exact ⟨rfl, rfl⟩, hp, rfl, rfl, HBf.out.trans (ha.below (Nat.le_refl _))⟩
  have HNO : Hid ((b3 = true ∨ r.tail ≠ []) → lineF s = none) := fun h => HF.out.trans ((evF_tick HN.out).2 h)
  obtain ⟨rs, hrs⟩ : ∃ rs, rs = r.tail := ⟨_, rfl⟩
  rw [← hrs] at HFIN HNO c0
  clear hrs
  cases b3 with
  | true =>
    go_wp2_with (refine ev_store rfl _ _ rfl _ rfl _ [.int .i64 0, .string ⟨#[]⟩, .slice none 0 0, .int .i64 0, .int .i64 0, .string ⟨#[]⟩, .int .i64 0, .bool false, .int .i64 0, .int .i64 0, .int .i64 0, .int .i64 0, .slice none 0 0] rfl HRf.out rfl (evCells_one Ev.zero rfl rfl) ?_; intro wz EZ HZz)
    refine ret_ev rfl _ _ _ EZ rfl rfl rfl ?_
    exact HfinZ.out wz (HNO.out (by simp)) EZ HZz
  | false =>
    cases rs with
    | nil =>
      have c0 : v4.cell? ⟨w.heap.size + 1 + 1, 0, none⟩ = some (.slice ca 0 cc) := c0
      go_wp2_with (first
        | (refine ev_load rfl _ rfl _ rfl _ HVf.out ?_)
        | (refine ev_store rfl _ _ rfl _ rfl _ (evCells (⟨3, ⟨#[]⟩, [], n, 0, ⟨#[]⟩, 0, false, 0, 0, 0, 0, []⟩) (.slice none 0 0) (.slice none 0 0)) rfl HRf.out rfl (evCells_one _ rfl rfl) ?_; intro wz EZ HZz))
      refine ret_ev rfl _ _ _ EZ rfl rfl rfl ?_
      exact HFIN.out (by simp) (by simp) wz EZ HZz
    | cons q u =>
      have hm0 : (0 : Int) < ((u.length + 1 : Nat) : Int) := by omega
      have c0 : v4.cell? ⟨w.heap.size + 1 + 1, 0, none⟩ = some (.slice ca (u.length + 1) cc) := c0
      generalize u.length + 1 = m at *
      go_wp2_with (refine ev_store rfl _ _ rfl _ rfl _ [.int .i64 0, .string ⟨#[]⟩, .slice none 0 0, .int .i64 0, .int .i64 0, .string ⟨#[]⟩, .int .i64 0, .bool false, .int .i64 0, .int .i64 0, .int .i64 0, .int .i64 0, .slice none 0 0] rfl HRf.out rfl (evCells_one Ev.zero rfl rfl) ?_; intro wz EZ HZz)
      refine ret_ev rfl _ _ _ EZ rfl rfl rfl ?_
      exact HfinZ.out wz (HNO.out (by simp)) EZ HZz

set_option maxHeartbeats 4000000 in
set_option maxRecDepth 100000 in
theorem pline_crash (s : ByteArray) (hs : s.size ≤ 900000) (w : World) (hE : Env w) (r : List ByteArray) (hcu : cutB 32 s = kwCrash :: r) :
    Calls Tryz.prog 16 #[.string s] w (LineIs s w) := by
  have HLE := Lib.hid (fun wz hz => line_begin w s hs wz hz)
  have HSP := Lib.hid (fun w' hE' => psplit_any 32 s (by omega) w' hE')
  have HZ : Hid (∀ x ∈ cutB 32 s, x.size ≤ 1000000) := fun x hx => by have := cutB_part 32 s x hx; omega
  have HE := Lib.hid hE
  have hs8 := hE.size
  have HCu := Lib.hid hcu
  have HF : Hid (lineF s = evF (kwCrash :: r)) := by unfold Hid lineF; rw [hcu]
  clear hE hs hcu
  go_enter Tryz.func16, Tryz.ntmps16
  go_wp2_with fail
  refine (HSP.out _ (HE.out.below ((Below.refl _ _).alloc (Nat.le_refl _) _) hs8)).mono ?_
  rintro e w1 ⟨rfl, hw1⟩
  generalize hm : (cutB 32 s).length = m at *
  rw [show (w.alloc (.cells #[.int .i64 0, .string ⟨#[]⟩, .slice none 0 0, .int .i64 0, .int .i64 0, .string ⟨#[]⟩, .int .i64 0, .bool false, .int .i64 0, .int .i64 0, .int .i64 0, .int .i64 0, .slice none 0 0] 36)).heap.size = w.heap.size + 1 by simp]
  have hsz : w1.heap.size = w.heap.size + 1 + 1 := by rw [hw1]; simp
  have HW1 := Lib.hid hw1
  clear hw1
  go_wp2_with fail
  obtain ⟨v1, hv1⟩ : ∃ v1, v1 = (w1.alloc (.cells #[.slice (some ⟨w.heap.size + 1, 0, none⟩) m m, .bool false] 78)).alloc (.cells #[.int .i64 0, .string ⟨#[]⟩, .slice none 0 0, .int .i64 0, .int .i64 0, .string ⟨#[]⟩, .int .i64 0, .bool false, .int .i64 0, .int .i64 0, .int .i64 0, .int .i64 0, .slice none 0 0] 36) := ⟨_, rfl⟩
  rw [← hv1]
  obtain ⟨hc, hv, hr, hb⟩ := HLE.out v1 (by rw [hv1, HW1.out])
  have HC := Lib.hid hc
  have HV := Lib.hid hv
  have HR := Lib.hid hr
  have HB := Lib.hid hb
  clear hc hv hr hb hv1 HW1 hm hsz HSP HLE
  refine (next_any (w.heap.size + 1 + 1) (cutB 32 s) false v1 HC.out).mono ?_
  rintro e w2 ⟨rfl, hc2, hb2⟩
  rw [HCu.out] at hc2 ⊢
  have hc2 : Cur w2 (w.heap.size + 1 + 1) r false := hc2
  have HC2 := Lib.hid hc2
  have HV2 := Lib.hid (HV.out.but hb2 (by omega))
  have HR2 := Lib.hid (HR.out.but hb2 (by omega))
  have HB2 := Lib.hid (below_but HB.out hb2 (by omega) HC.out.lt)
  have HZr : Hid (∀ x ∈ r, x.size ≤ 1000000) := fun x hx => HZ.out x (by rw [HCu.out]; exact List.mem_cons_of_mem _ hx)
  simp only [List.headD_cons]
  clear hc2 hb2 HC HV HR HB HZ HCu
  unfold kwCrash
  go_wp2_with fail
  refine (number_any (w.heap.size + 1 + 1) r false w2 HC2.out (HE.out.below HB2.out hs8) (by omega) HZr.out).mono ?_
  rintro e w3 ⟨n, b3, hnI, rfl, hn1, hn2, hc3, hb3⟩
  have HN : Hid (NumSt r false n b3) := ⟨hnI, hn1, hn2⟩
  have HC3 := Lib.hid hc3
  have HV3 := Lib.hid (HV2.out.but hb3 (by omega))
  have HR3 := Lib.hid (HR2.out.but hb3 (by omega))
  have HB3 := Lib.hid (below_but HB2.out hb3 (by omega) HC2.out.lt)
  clear hnI hn1 hn2 hc3 hb3
  have e0 := HV3.out.facts.1
  have e3 := HV3.out.facts.2.2.2.1
  have s0 := HV3.out.soft.1
  have s3 := HV3.out.soft.2.2.2.1
  go_upto_region 18 with fail
  clear e0 e3 s0 s3
  obtain ⟨v4, hv4⟩ : ∃ v4, v4 = (w3.setCell ⟨w.heap.size + 1 + 1 + 1, 0, none⟩ (.int .i64 5)).setCell ⟨w.heap.size + 1 + 1 + 1, 3, none⟩ (.int .i64 n) := ⟨_, rfl⟩
  rw [← hv4]
  have HC4 : Hid (Cur v4 (w.heap.size + 1 + 1) r.tail b3) := by rw [hv4]; exact (HC3.out.setEb (by omega) 0 _).setEb (by omega) 3 _
  have HV4 : Hid (EvAt v4 (w.heap.size + 1 + 1 + 1) (evCells (⟨5, ⟨#[]⟩, [], n, 0, ⟨#[]⟩, 0, false, 0, 0, 0, 0, []⟩) (.slice none 0 0) (.slice none 0 0))) := by rw [hv4]; exact (HV3.out.set 0 (by omega) _).set 3 (by omega) _
  have HR4 : Hid (EvAt v4 w.heap.size [.int .i64 0, .string ⟨#[]⟩, .slice none 0 0, .int .i64 0, .int .i64 0, .string ⟨#[]⟩, .int .i64 0, .bool false, .int .i64 0, .int .i64 0, .int .i64 0, .int .i64 0, .slice none 0 0]) := by rw [hv4]; exact (HR3.out.other (by simp; omega) _).other (by simp; omega) _
  have HB4 : Hid (Below w.heap.size w v4) := by rw [hv4]; exact (HB3.out.setCell (by simp; omega) _).setCell (by simp; omega) _
  clear hv4 HC3 HV3 HR3 HB3 HC2 HV2 HR2 HB2
  have HRf := Lib.hid HR4.out
  have HVf := Lib.hid HV4.out
  have HBf := Lib.hid HB4.out
  have hne : w.heap.size ≠ w.heap.size + 1 + 1 + 1 := by omega
  obtain ⟨ca, cc, c0, c1, f1, hcc, hcl⟩ := curFacts HC4.out
  clear hcc
  have HfinZ : Hid (∀ wz, lineF s = none → EvAt wz w.heap.size [.int .i64 0, .string ⟨#[]⟩, .slice none 0 0, .int .i64 0, .int .i64 0, .string ⟨#[]⟩, .int .i64 0, .bool false, .int .i64 0, .int .i64 0, .int .i64 0, .int .i64 0, .slice none 0 0] → Apart w.heap.size v4 wz → LineIs s w (.returned (.tuple #[.agg [.int .i64 0, .string ⟨#[]⟩, .slice none 0 0, .int .i64 0, .int .i64 0, .string ⟨#[]⟩, .int .i64 0, .bool false, .int .i64 0, .int .i64 0, .int .i64 0, .int .i64 0, .slice none 0 0].toArray, .int .i64 3])) wz) := fun wz hn _ ha =>
    ⟨Ev.zero, .slice none 0 0, .slice none 0 0, 3, rfl, by rw [hn]; exact ⟨rfl, rfl⟩, zero_parts _ _, rfl, rfl, HBf.out.trans (ha.below (Nat.le_refl _))⟩
  have HFIN : Hid (r.tail = [] → b3 = false → ∀ wz, EvAt wz w.heap.size (evCells (⟨5, ⟨#[]⟩, [], n, 0, ⟨#[]⟩, 0, false, 0, 0, 0, 0, []⟩) (.slice none 0 0) (.slice none 0 0)) → Apart w.heap.size v4 wz → LineIs s w (.returned (.tuple #[.agg (evCells (⟨5, ⟨#[]⟩, [], n, 0, ⟨#[]⟩, 0, false, 0, 0, 0, 0, []⟩) (.slice none 0 0) (.slice none 0 0)).toArray, .int .i64 0])) wz) := by
    intro hre hba wz _ ha
    have hp : EvParts w.heap.size wz (⟨5, ⟨#[]⟩, [], n, 0, ⟨#[]⟩, 0, false, 0, 0, 0, 0, []⟩) (.slice none 0 0) (.slice none 0 0) := (ha.parts (⟨⟨by unfold I64; simp, by simp [ByteArray.size], HN.out.1, I64.zero, by simp [ByteArray.size], I64.zero, I64.zero, I64.zero, I64.zero, I64.zero⟩, BytesF.nil (w.heap.size + 1) _, BiasIn.nil _ _⟩) (by omega)).mono (by omega)
    exact ⟨⟨5, ⟨#[]⟩, [], n, 0, ⟨#[]⟩, 0, false, 0, 0, 0, 0, []⟩, .slice none 0 0, .slice none 0 0, 0, rfl, by rw [HF.out, (evF_crash HN.out).1 hba hre]; exact ⟨rfl, rfl⟩, hp, rfl, rfl, HBf.out.trans (ha.below (Nat.le_refl _))⟩
  have HNO : Hid ((b3 = true ∨ r.tail ≠ []) → lineF s = none) := fun h => HF.out.trans ((evF_crash HN.out).2 h)
  obtain ⟨rs, hrs⟩ : ∃ rs, rs = r.tail := ⟨_, rfl⟩
  rw [← hrs] at HFIN HNO c0
  clear hrs
  cases b3 with
  | true =>
    go_wp2_with (refine ev_store rfl _ _ rfl _ rfl _ [.int .i64 0, .string ⟨#[]⟩, .slice none 0 0, .int .i64 0, .int .i64 0, .string ⟨#[]⟩, .int .i64 0, .bool false, .int .i64 0, .int .i64 0, .int .i64 0, .int .i64 0, .slice none 0 0] rfl HRf.out rfl (evCells_one Ev.zero rfl rfl) ?_; intro wz EZ HZz)
    refine ret_ev rfl _ _ _ EZ rfl rfl rfl ?_
    exact HfinZ.out wz (HNO.out (by simp)) EZ HZz
  | false =>
    cases rs with
    | nil =>
      have c0 : v4.cell? ⟨w.heap.size + 1 + 1, 0, none⟩ = some (.slice ca 0 cc) := c0
      go_wp2_with (first
        | (refine ev_load rfl _ rfl _ rfl _ HVf.out ?_)
        | (refine ev_store rfl _ _ rfl _ rfl _ (evCells (⟨5, ⟨#[]⟩, [], n, 0, ⟨#[]⟩, 0, false, 0, 0, 0, 0, []⟩) (.slice none 0 0) (.slice none 0 0)) rfl HRf.out rfl (evCells_one _ rfl rfl) ?_; intro wz EZ HZz))
      refine ret_ev rfl _ _ _ EZ rfl rfl rfl ?_
      exact HFIN.out (by simp) (by simp) wz EZ HZz
    | cons q u =>
      have hm0 : (0 : Int) < ((u.length + 1 : Nat) : Int) := by omega
      have c0 : v4.cell? ⟨w.heap.size + 1 + 1, 0, none⟩ = some (.slice ca (u.length + 1) cc) := c0
      generalize u.length + 1 = m at *
      go_wp2_with (refine ev_store rfl _ _ rfl _ rfl _ [.int .i64 0, .string ⟨#[]⟩, .slice none 0 0, .int .i64 0, .int .i64 0, .string ⟨#[]⟩, .int .i64 0, .bool false, .int .i64 0, .int .i64 0, .int .i64 0, .int .i64 0, .slice none 0 0] rfl HRf.out rfl (evCells_one Ev.zero rfl rfl) ?_; intro wz EZ HZz)
      refine ret_ev rfl _ _ _ EZ rfl rfl rfl ?_
      exact HfinZ.out wz (HNO.out (by simp)) EZ HZz

set_option maxHeartbeats 4000000 in
set_option maxRecDepth 100000 in
theorem pline_again (s : ByteArray) (hs : s.size ≤ 900000) (w : World) (hE : Env w) (r : List ByteArray) (hcu : cutB 32 s = kwRepeat :: r) :
    Calls Tryz.prog 16 #[.string s] w (LineIs s w) := by
  have HLE := Lib.hid (fun wz hz => line_begin w s hs wz hz)
  have HSP := Lib.hid (fun w' hE' => psplit_any 32 s (by omega) w' hE')
  have HZ : Hid (∀ x ∈ cutB 32 s, x.size ≤ 1000000) := fun x hx => by have := cutB_part 32 s x hx; omega
  have HE := Lib.hid hE
  have hs8 := hE.size
  have HCu := Lib.hid hcu
  have HF : Hid (lineF s = evF (kwRepeat :: r)) := by unfold Hid lineF; rw [hcu]
  clear hE hs hcu
  go_enter Tryz.func16, Tryz.ntmps16
  go_wp2_with fail
  refine (HSP.out _ (HE.out.below ((Below.refl _ _).alloc (Nat.le_refl _) _) hs8)).mono ?_
  rintro e w1 ⟨rfl, hw1⟩
  generalize hm : (cutB 32 s).length = m at *
  rw [show (w.alloc (.cells #[.int .i64 0, .string ⟨#[]⟩, .slice none 0 0, .int .i64 0, .int .i64 0, .string ⟨#[]⟩, .int .i64 0, .bool false, .int .i64 0, .int .i64 0, .int .i64 0, .int .i64 0, .slice none 0 0] 36)).heap.size = w.heap.size + 1 by simp]
  have hsz : w1.heap.size = w.heap.size + 1 + 1 := by rw [hw1]; simp
  have HW1 := Lib.hid hw1
  clear hw1
  go_wp2_with fail
  obtain ⟨v1, hv1⟩ : ∃ v1, v1 = (w1.alloc (.cells #[.slice (some ⟨w.heap.size + 1, 0, none⟩) m m, .bool false] 78)).alloc (.cells #[.int .i64 0, .string ⟨#[]⟩, .slice none 0 0, .int .i64 0, .int .i64 0, .string ⟨#[]⟩, .int .i64 0, .bool false, .int .i64 0, .int .i64 0, .int .i64 0, .int .i64 0, .slice none 0 0] 36) := ⟨_, rfl⟩
  rw [← hv1]
  obtain ⟨hc, hv, hr, hb⟩ := HLE.out v1 (by rw [hv1, HW1.out])
  have HC := Lib.hid hc
  have HV := Lib.hid hv
  have HR := Lib.hid hr
  have HB := Lib.hid hb
  clear hc hv hr hb hv1 HW1 hm hsz HSP HLE
  refine (next_any (w.heap.size + 1 + 1) (cutB 32 s) false v1 HC.out).mono ?_
  rintro e w2 ⟨rfl, hc2, hb2⟩
  rw [HCu.out] at hc2 ⊢
  have hc2 : Cur w2 (w.heap.size + 1 + 1) r false := hc2
  have HC2 := Lib.hid hc2
  have HV2 := Lib.hid (HV.out.but hb2 (by omega))
  have HR2 := Lib.hid (HR.out.but hb2 (by omega))
  have HB2 := Lib.hid (below_but HB.out hb2 (by omega) HC.out.lt)
  have HZr : Hid (∀ x ∈ r, x.size ≤ 1000000) := fun x hx => HZ.out x (by rw [HCu.out]; exact List.mem_cons_of_mem _ hx)
  simp only [List.headD_cons]
  clear hc2 hb2 HC HV HR HB HZ HCu
  unfold kwRepeat
  have e0 := HV2.out.facts.1
  have s0 := HV2.out.soft.1
  go_upto_region 18 with fail
  clear e0 s0
  obtain ⟨v4, hv4⟩ : ∃ v4, v4 = w2.setCell ⟨w.heap.size + 1 + 1 + 1, 0, none⟩ (.int .i64 6) := ⟨_, rfl⟩
  rw [← hv4]
  have HC4 : Hid (Cur v4 (w.heap.size + 1 + 1) r false) := by rw [hv4]; exact HC2.out.setEb (by omega) 0 _
  have HV4 : Hid (EvAt v4 (w.heap.size + 1 + 1 + 1) (evCells (⟨6, ⟨#[]⟩, [], 0, 0, ⟨#[]⟩, 0, false, 0, 0, 0, 0, []⟩) (.slice none 0 0) (.slice none 0 0))) := by rw [hv4]; exact HV2.out.set 0 (by omega) _
  have HR4 : Hid (EvAt v4 w.heap.size [.int .i64 0, .string ⟨#[]⟩, .slice none 0 0, .int .i64 0, .int .i64 0, .string ⟨#[]⟩, .int .i64 0, .bool false, .int .i64 0, .int .i64 0, .int .i64 0, .int .i64 0, .slice none 0 0]) := by rw [hv4]; exact HR2.out.other (by simp; omega) _
  have HB4 : Hid (Below w.heap.size w v4) := by rw [hv4]; exact HB2.out.setCell (by simp; omega) _
  clear hv4 HC2 HV2 HR2 HB2
  obtain ⟨bb, hbb⟩ : ∃ bb, bb = false := ⟨_, rfl⟩
  have HRf := Lib.hid HR4.out
  have HVf := Lib.hid HV4.out
  have HBf := Lib.hid HB4.out
  have hne : w.heap.size ≠ w.heap.size + 1 + 1 + 1 := by omega
  obtain ⟨ca, cc, c0, c1, f1, hcc, hcl⟩ := curFacts HC4.out
  clear hcc
  have HfinZ : Hid (∀ wz, lineF s = none → EvAt wz w.heap.size [.int .i64 0, .string ⟨#[]⟩, .slice none 0 0, .int .i64 0, .int .i64 0, .string ⟨#[]⟩, .int .i64 0, .bool false, .int .i64 0, .int .i64 0, .int .i64 0, .int .i64 0, .slice none 0 0] → Apart w.heap.size v4 wz → LineIs s w (.returned (.tuple #[.agg [.int .i64 0, .string ⟨#[]⟩, .slice none 0 0, .int .i64 0, .int .i64 0, .string ⟨#[]⟩, .int .i64 0, .bool false, .int .i64 0, .int .i64 0, .int .i64 0, .int .i64 0, .slice none 0 0].toArray, .int .i64 3])) wz) := fun wz hn _ ha =>
    ⟨Ev.zero, .slice none 0 0, .slice none 0 0, 3, rfl, by rw [hn]; exact ⟨rfl, rfl⟩, zero_parts _ _, rfl, rfl, HBf.out.trans (ha.below (Nat.le_refl _))⟩
  have HFIN : Hid (r = [] → bb = false → ∀ wz, EvAt wz w.heap.size (evCells (⟨6, ⟨#[]⟩, [], 0, 0, ⟨#[]⟩, 0, false, 0, 0, 0, 0, []⟩) (.slice none 0 0) (.slice none 0 0)) → Apart w.heap.size v4 wz → LineIs s w (.returned (.tuple #[.agg (evCells (⟨6, ⟨#[]⟩, [], 0, 0, ⟨#[]⟩, 0, false, 0, 0, 0, 0, []⟩) (.slice none 0 0) (.slice none 0 0)).toArray, .int .i64 0])) wz) := by
    intro hre hba wz _ ha
    have hp : EvParts w.heap.size wz (⟨6, ⟨#[]⟩, [], 0, 0, ⟨#[]⟩, 0, false, 0, 0, 0, 0, []⟩) (.slice none 0 0) (.slice none 0 0) := (ha.parts (⟨⟨by unfold I64; simp, by simp [ByteArray.size], I64.zero, I64.zero, by simp [ByteArray.size], I64.zero, I64.zero, I64.zero, I64.zero, I64.zero⟩, BytesF.nil (w.heap.size + 1) _, BiasIn.nil _ _⟩) (by omega)).mono (by omega)
    exact ⟨⟨6, ⟨#[]⟩, [], 0, 0, ⟨#[]⟩, 0, false, 0, 0, 0, 0, []⟩, .slice none 0 0, .slice none 0 0, 0, rfl, by rw [HF.out, (evF_again r).1 hre]; exact ⟨rfl, rfl⟩, hp, rfl, rfl, HBf.out.trans (ha.below (Nat.le_refl _))⟩
  have HNO : Hid ((bb = true ∨ r ≠ []) → lineF s = none) := fun h => HF.out.trans ((evF_again r).2 (h.elim (fun q => by rw [hbb] at q; cases q) id))
  obtain ⟨rs, hrs⟩ : ∃ rs, rs = r := ⟨_, rfl⟩
  rw [← hrs] at HFIN HNO c0
  clear hrs
  subst hbb
  cases rs with
  | nil =>
    have c0 : v4.cell? ⟨w.heap.size + 1 + 1, 0, none⟩ = some (.slice ca 0 cc) := c0
    go_wp2_with (first
      | (refine ev_load rfl _ rfl _ rfl _ HVf.out ?_)
      | (refine ev_store rfl _ _ rfl _ rfl _ (evCells (⟨6, ⟨#[]⟩, [], 0, 0, ⟨#[]⟩, 0, false, 0, 0, 0, 0, []⟩) (.slice none 0 0) (.slice none 0 0)) rfl HRf.out rfl (evCells_one _ rfl rfl) ?_; intro wz EZ HZz))
    refine ret_ev rfl _ _ _ EZ rfl rfl rfl ?_
    exact HFIN.out (by simp) (by simp) wz EZ HZz
  | cons q u =>
    have hm0 : (0 : Int) < ((u.length + 1 : Nat) : Int) := by omega
    have c0 : v4.cell? ⟨w.heap.size + 1 + 1, 0, none⟩ = some (.slice ca (u.length + 1) cc) := c0
    generalize u.length + 1 = m at *
    go_wp2_with (refine ev_store rfl _ _ rfl _ rfl _ [.int .i64 0, .string ⟨#[]⟩, .slice none 0 0, .int .i64 0, .int .i64 0, .string ⟨#[]⟩, .int .i64 0, .bool false, .int .i64 0, .int .i64 0, .int .i64 0, .int .i64 0, .slice none 0 0] rfl HRf.out rfl (evCells_one Ev.zero rfl rfl) ?_; intro wz EZ HZz)
    refine ret_ev rfl _ _ _ EZ rfl rfl rfl ?_
    exact HfinZ.out wz (HNO.out (by simp)) EZ HZz

set_option maxHeartbeats 4000000 in
set_option maxRecDepth 100000 in
theorem pline_station (s : ByteArray) (hs : s.size ≤ 900000) (w : World) (hE : Env w) (r : List ByteArray) (hcu : cutB 32 s = kwStation :: r) :
    Calls Tryz.prog 16 #[.string s] w (LineIs s w) := by
  have HLE := Lib.hid (fun wz hz => line_begin w s hs wz hz)
  have HSP := Lib.hid (fun w' hE' => psplit_any 32 s (by omega) w' hE')
  have HZ : Hid (∀ x ∈ cutB 32 s, x.size ≤ 1000000) := fun x hx => by have := cutB_part 32 s x hx; omega
  have HE := Lib.hid hE
  have hs8 := hE.size
  have HCu := Lib.hid hcu
  have HF : Hid (lineF s = evF (kwStation :: r)) := by unfold Hid lineF; rw [hcu]
  clear hE hs hcu
  go_enter Tryz.func16, Tryz.ntmps16
  go_wp2_with fail
  refine (HSP.out _ (HE.out.below ((Below.refl _ _).alloc (Nat.le_refl _) _) hs8)).mono ?_
  rintro e w1 ⟨rfl, hw1⟩
  generalize hm : (cutB 32 s).length = m at *
  rw [show (w.alloc (.cells #[.int .i64 0, .string ⟨#[]⟩, .slice none 0 0, .int .i64 0, .int .i64 0, .string ⟨#[]⟩, .int .i64 0, .bool false, .int .i64 0, .int .i64 0, .int .i64 0, .int .i64 0, .slice none 0 0] 36)).heap.size = w.heap.size + 1 by simp]
  have hsz : w1.heap.size = w.heap.size + 1 + 1 := by rw [hw1]; simp
  have HW1 := Lib.hid hw1
  clear hw1
  go_wp2_with fail
  obtain ⟨v1, hv1⟩ : ∃ v1, v1 = (w1.alloc (.cells #[.slice (some ⟨w.heap.size + 1, 0, none⟩) m m, .bool false] 78)).alloc (.cells #[.int .i64 0, .string ⟨#[]⟩, .slice none 0 0, .int .i64 0, .int .i64 0, .string ⟨#[]⟩, .int .i64 0, .bool false, .int .i64 0, .int .i64 0, .int .i64 0, .int .i64 0, .slice none 0 0] 36) := ⟨_, rfl⟩
  rw [← hv1]
  obtain ⟨hc, hv, hr, hb⟩ := HLE.out v1 (by rw [hv1, HW1.out])
  have HC := Lib.hid hc
  have HV := Lib.hid hv
  have HR := Lib.hid hr
  have HB := Lib.hid hb
  clear hc hv hr hb hv1 HW1 hm hsz HSP HLE
  refine (next_any (w.heap.size + 1 + 1) (cutB 32 s) false v1 HC.out).mono ?_
  rintro e w2 ⟨rfl, hc2, hb2⟩
  rw [HCu.out] at hc2 ⊢
  have hc2 : Cur w2 (w.heap.size + 1 + 1) r false := hc2
  have HC2 := Lib.hid hc2
  have HV2 := Lib.hid (HV.out.but hb2 (by omega))
  have HR2 := Lib.hid (HR.out.but hb2 (by omega))
  have HB2 := Lib.hid (below_but HB.out hb2 (by omega) HC.out.lt)
  have HZr : Hid (∀ x ∈ r, x.size ≤ 1000000) := fun x hx => HZ.out x (by rw [HCu.out]; exact List.mem_cons_of_mem _ hx)
  simp only [List.headD_cons]
  clear hc2 hb2 HC HV HR HB HZ HCu
  unfold kwStation
  have e0 := HV2.out.facts.1
  have s0 := HV2.out.soft.1
  go_wp2_with fail
  clear e0 s0
  obtain ⟨v3, hv3⟩ : ∃ v3, v3 = w2.setCell ⟨w.heap.size + 1 + 1 + 1, 0, none⟩ (.int .i64 4) := ⟨_, rfl⟩
  rw [← hv3]
  have HC3 : Hid (Cur v3 (w.heap.size + 1 + 1) r false) := by rw [hv3]; exact HC2.out.setEb (by omega) 0 _
  have hv := HV2.out.set 0 (by omega) (.int .i64 4)
  rw [← hv3] at hv
  have HR3 : Hid (EvAt v3 w.heap.size [.int .i64 0, .string ⟨#[]⟩, .slice none 0 0, .int .i64 0, .int .i64 0, .string ⟨#[]⟩, .int .i64 0, .bool false, .int .i64 0, .int .i64 0, .int .i64 0, .int .i64 0, .slice none 0 0]) := by rw [hv3]; exact HR2.out.other (by simp; omega) _
  have HB3 : Hid (Below w.heap.size w v3) := by rw [hv3]; exact HB2.out.setCell (by simp; omega) _
  have hst := pst_any (w.heap.size + 1) (w.heap.size + 1 + 1) (w.heap.size + 1 + 1 + 1) r v3 HC3.out hv (HE.out.below HB3.out hs8) (by omega) (by omega) (by omega) HZr.out
  clear hv hv3
  refine hst.mono ?_
  rintro e v4 ⟨rfl, hb4, y, cv, rest, b3, hc4, hv4, hone, hor, hbad, hok⟩
  have HC4 := Lib.hid hc4
  have HV4 := Lib.hid hv4
  have HR4 : Hid (EvAt v4 w.heap.size [.int .i64 0, .string ⟨#[]⟩, .slice none 0 0, .int .i64 0, .int .i64 0, .string ⟨#[]⟩, .int .i64 0, .bool false, .int .i64 0, .int .i64 0, .int .i64 0, .int .i64 0, .slice none 0 0]) := HR3.out.of_block (hb4.block _ (by omega))
  have HB4 : Hid (Below w.heap.size w v4) := HB3.out.trans (hb4.mono (by omega))
  have Hlt : Hid (w.heap.size + 1 + 1 < v3.heap.size) := HC3.out.lt
  have HBad := Lib.hid hbad
  have HOk := Lib.hid hok
  have HOr := Lib.hid hor
  have Hone := Lib.hid hone
  clear hst hb4 hc4 hv4 hor hbad hok HC3 HR3 HB3 HC2 HV2 HR2 HB2
  go_upto_region 18 with fail
  have HRf := Lib.hid HR4.out
  have HVf := Lib.hid HV4.out
  have HBf := Lib.hid HB4.out
  have hne : w.heap.size ≠ w.heap.size + 1 + 1 + 1 := by omega
  obtain ⟨ca, cc, c0, c1, f1, hcc, hcl⟩ := curFacts HC4.out
  clear hcc
  have HfinZ : Hid (∀ wz, lineF s = none → EvAt wz w.heap.size [.int .i64 0, .string ⟨#[]⟩, .slice none 0 0, .int .i64 0, .int .i64 0, .string ⟨#[]⟩, .int .i64 0, .bool false, .int .i64 0, .int .i64 0, .int .i64 0, .int .i64 0, .slice none 0 0] → Apart w.heap.size v4 wz → LineIs s w (.returned (.tuple #[.agg [.int .i64 0, .string ⟨#[]⟩, .slice none 0 0, .int .i64 0, .int .i64 0, .string ⟨#[]⟩, .int .i64 0, .bool false, .int .i64 0, .int .i64 0, .int .i64 0, .int .i64 0, .slice none 0 0].toArray, .int .i64 3])) wz) := fun wz hn _ ha =>
    ⟨Ev.zero, .slice none 0 0, .slice none 0 0, 3, rfl, by rw [hn]; exact ⟨rfl, rfl⟩, zero_parts _ _, rfl, rfl, HBf.out.trans (ha.below (Nat.le_refl _))⟩
  have HFIN : Hid (rest = [] → b3 = false → ∀ wz, EvAt wz w.heap.size (evCells (y) (.slice none 0 0) (cv)) → Apart w.heap.size v4 wz → LineIs s w (.returned (.tuple #[.agg (evCells (y) (.slice none 0 0) (cv)).toArray, .int .i64 0])) wz) := by
    intro hre hba wz _ ha
    have hp : EvParts w.heap.size wz (y) (.slice none 0 0) (cv) := (ha.parts (⟨(HOk.out hba).2.1, by rw [st_bytes (HOk.out hba).1]; exact BytesF.nil (w.heap.size + 1) _, (HOk.out hba).2.2.mono (by have := Hlt.out; omega)⟩) (by omega)).mono (by omega)
    exact ⟨y, .slice none 0 0, cv, 0, rfl, by rw [HF.out, evF_station, (HOk.out hba).1]; exact ⟨rfl, rfl⟩, hp, rfl, Hone.out, HBf.out.trans (ha.below (Nat.le_refl _))⟩
  have HNO : Hid ((b3 = true ∨ rest ≠ []) → lineF s = none) := fun h => by rw [HF.out, evF_station]; exact HBad.out (h.elim id fun hn => HOr.out.elim id fun he => absurd he hn)
  obtain ⟨rs, hrs⟩ : ∃ rs, rs = rest := ⟨_, rfl⟩
  rw [← hrs] at HFIN HNO c0
  clear hrs
  cases b3 with
  | true =>
    go_wp2_with (refine ev_store rfl _ _ rfl _ rfl _ [.int .i64 0, .string ⟨#[]⟩, .slice none 0 0, .int .i64 0, .int .i64 0, .string ⟨#[]⟩, .int .i64 0, .bool false, .int .i64 0, .int .i64 0, .int .i64 0, .int .i64 0, .slice none 0 0] rfl HRf.out rfl (evCells_one Ev.zero rfl rfl) ?_; intro wz EZ HZz)
    refine ret_ev rfl _ _ _ EZ rfl rfl rfl ?_
    exact HfinZ.out wz (HNO.out (by simp)) EZ HZz
  | false =>
    cases rs with
    | nil =>
      have c0 : v4.cell? ⟨w.heap.size + 1 + 1, 0, none⟩ = some (.slice ca 0 cc) := c0
      go_wp2_with (first
        | (refine ev_load rfl _ rfl _ rfl _ HVf.out ?_)
        | (refine ev_store rfl _ _ rfl _ rfl _ (evCells (y) (.slice none 0 0) (cv)) rfl HRf.out rfl (evCells_one _ rfl Hone.out) ?_; intro wz EZ HZz))
      refine ret_ev rfl _ _ _ EZ rfl rfl rfl ?_
      exact HFIN.out (by simp) (by simp) wz EZ HZz
    | cons q u =>
      have hm0 : (0 : Int) < ((u.length + 1 : Nat) : Int) := by omega
      have c0 : v4.cell? ⟨w.heap.size + 1 + 1, 0, none⟩ = some (.slice ca (u.length + 1) cc) := c0
      generalize u.length + 1 = m at *
      go_wp2_with (refine ev_store rfl _ _ rfl _ rfl _ [.int .i64 0, .string ⟨#[]⟩, .slice none 0 0, .int .i64 0, .int .i64 0, .string ⟨#[]⟩, .int .i64 0, .bool false, .int .i64 0, .int .i64 0, .int .i64 0, .int .i64 0, .slice none 0 0] rfl HRf.out rfl (evCells_one Ev.zero rfl rfl) ?_; intro wz EZ HZz)
      refine ret_ev rfl _ _ _ EZ rfl rfl rfl ?_
      exact HfinZ.out wz (HNO.out (by simp)) EZ HZz

set_option maxHeartbeats 4000000 in
set_option maxRecDepth 100000 in
theorem pline_other (s : ByteArray) (hs : s.size ≤ 900000) (w : World) (hE : Env w) (r : List ByteArray) (k : ByteArray) (hcu : cutB 32 s = k :: r) (h1 : k ≠ kwText) (h2 : k ≠ kwBinary) (h3 : k ≠ kwTick) (h4 : k ≠ kwCrash) (h5 : k ≠ kwRepeat) (h6 : k ≠ kwStation) :
    Calls Tryz.prog 16 #[.string s] w (LineIs s w) := by
  have HLE := Lib.hid (fun wz hz => line_begin w s hs wz hz)
  have HSP := Lib.hid (fun w' hE' => psplit_any 32 s (by omega) w' hE')
  have HZ : Hid (∀ x ∈ cutB 32 s, x.size ≤ 1000000) := fun x hx => by have := cutB_part 32 s x hx; omega
  have HE := Lib.hid hE
  have hs8 := hE.size
  have HCu := Lib.hid hcu
  have HF : Hid (lineF s = evF (k :: r)) := by unfold Hid lineF; rw [hcu]
  clear hE hs hcu
  go_enter Tryz.func16, Tryz.ntmps16
  go_wp2_with fail
  refine (HSP.out _ (HE.out.below ((Below.refl _ _).alloc (Nat.le_refl _) _) hs8)).mono ?_
  rintro e w1 ⟨rfl, hw1⟩
  generalize hm : (cutB 32 s).length = m at *
  rw [show (w.alloc (.cells #[.int .i64 0, .string ⟨#[]⟩, .slice none 0 0, .int .i64 0, .int .i64 0, .string ⟨#[]⟩, .int .i64 0, .bool false, .int .i64 0, .int .i64 0, .int .i64 0, .int .i64 0, .slice none 0 0] 36)).heap.size = w.heap.size + 1 by simp]
  have hsz : w1.heap.size = w.heap.size + 1 + 1 := by rw [hw1]; simp
  have HW1 := Lib.hid hw1
  clear hw1
  go_wp2_with fail
  obtain ⟨v1, hv1⟩ : ∃ v1, v1 = (w1.alloc (.cells #[.slice (some ⟨w.heap.size + 1, 0, none⟩) m m, .bool false] 78)).alloc (.cells #[.int .i64 0, .string ⟨#[]⟩, .slice none 0 0, .int .i64 0, .int .i64 0, .string ⟨#[]⟩, .int .i64 0, .bool false, .int .i64 0, .int .i64 0, .int .i64 0, .int .i64 0, .slice none 0 0] 36) := ⟨_, rfl⟩
  rw [← hv1]
  obtain ⟨hc, hv, hr, hb⟩ := HLE.out v1 (by rw [hv1, HW1.out])
  have HC := Lib.hid hc
  have HV := Lib.hid hv
  have HR := Lib.hid hr
  have HB := Lib.hid hb
  clear hc hv hr hb hv1 HW1 hm hsz HSP HLE
  refine (next_any (w.heap.size + 1 + 1) (cutB 32 s) false v1 HC.out).mono ?_
  rintro e w2 ⟨rfl, hc2, hb2⟩
  rw [HCu.out] at hc2 ⊢
  have hc2 : Cur w2 (w.heap.size + 1 + 1) r false := hc2
  have HC2 := Lib.hid hc2
  have HV2 := Lib.hid (HV.out.but hb2 (by omega))
  have HR2 := Lib.hid (HR.out.but hb2 (by omega))
  have HB2 := Lib.hid (below_but HB.out hb2 (by omega) HC.out.lt)
  have HZr : Hid (∀ x ∈ r, x.size ≤ 1000000) := fun x hx => HZ.out x (by rw [HCu.out]; exact List.mem_cons_of_mem _ hx)
  simp only [List.headD_cons]
  clear hc2 hb2 HC HV HR HB HZ HCu
  have hq1 : (k.toList == [116, 101, 120, 116]) = false := by rw [show ([116, 101, 120, 116] : List UInt8) = kwText.toList by rw [Lib.toList_data]; rfl]; exact str_ne h1
  have hq2 : (k.toList == [98, 105, 110, 97, 114, 121]) = false := by rw [show ([98, 105, 110, 97, 114, 121] : List UInt8) = kwBinary.toList by rw [Lib.toList_data]; rfl]; exact str_ne h2
  have hq3 : (k.toList == [116, 105, 99, 107]) = false := by rw [show ([116, 105, 99, 107] : List UInt8) = kwTick.toList by rw [Lib.toList_data]; rfl]; exact str_ne h3
  have hq4 : (k.toList == [99, 114, 97, 115, 104]) = false := by rw [show ([99, 114, 97, 115, 104] : List UInt8) = kwCrash.toList by rw [Lib.toList_data]; rfl]; exact str_ne h4
  have hq5 : (k.toList == [114, 101, 112, 101, 97, 116]) = false := by rw [show ([114, 101, 112, 101, 97, 116] : List UInt8) = kwRepeat.toList by rw [Lib.toList_data]; rfl]; exact str_ne h5
  have hq6 : (k.toList == [115, 116, 97, 116, 105, 111, 110]) = false := by rw [show ([115, 116, 97, 116, 105, 111, 110] : List UInt8) = kwStation.toList by rw [Lib.toList_data]; rfl]; exact str_ne h6
  have HNo : Hid (lineF s = none) := HF.out.trans (evF_other h1 h2 h3 h4 h5 h6 r)
  clear h1 h2 h3 h4 h5 h6
  obtain ⟨ca, cc, c0, c1, f1, hcc, hcl⟩ := curFacts HC2.out
  have HBf := Lib.hid (HB2.out.setCell (p := ⟨w.heap.size + 1 + 1, 1, none⟩) (by simp; omega) (.bool true))
  have HRf := Lib.hid (HR2.out.other (p := ⟨w.heap.size + 1 + 1, 1, none⟩) (by simp; omega) (.bool true))
  generalize r.length = m at *
  go_wp2_with (refine ev_store rfl _ _ rfl _ rfl _ [.int .i64 0, .string ⟨#[]⟩, .slice none 0 0, .int .i64 0, .int .i64 0, .string ⟨#[]⟩, .int .i64 0, .bool false, .int .i64 0, .int .i64 0, .int .i64 0, .int .i64 0, .slice none 0 0] rfl HRf.out rfl (evCells_one Ev.zero rfl rfl) ?_; intro wz EZ HZz)
  refine ret_ev rfl _ _ _ EZ rfl rfl rfl ?_
  exact ⟨Ev.zero, .slice none 0 0, .slice none 0 0, 3, rfl, by rw [HNo.out]; exact ⟨rfl, rfl⟩, zero_parts _ _, rfl, rfl, HBf.out.trans (HZz.below (Nat.le_refl _))⟩
theorem pline_any (s : ByteArray) (hs : s.size ≤ 900000) (w : World) (hE : Env w) : Calls Tryz.prog 16 #[.string s] w (LineIs s w) := by
  cases hc : cutB 32 s with
  | nil => exact absurd hc (cutB_ne 32 s)
  | cons k r =>
    by_cases h1 : k = kwText
    · subst h1; exact pline_text s hs w hE r hc
    by_cases h2 : k = kwBinary
    · subst h2; exact pline_binary s hs w hE r hc
    by_cases h3 : k = kwTick
    · subst h3; exact pline_tick s hs w hE r hc
    by_cases h4 : k = kwCrash
    · subst h4; exact pline_crash s hs w hE r hc
    by_cases h5 : k = kwRepeat
    · subst h5; exact pline_again s hs w hE r hc
    by_cases h6 : k = kwStation
    · subst h6; exact pline_station s hs w hE r hc
    exact pline_other s hs w hE r k hc h1 h2 h3 h4 h5 h6

end Go.Proofs.YtobaoekibnloiaaGreatDoor
/- The laws' sanity check: the example of the chapter. -/
namespace Go.Proofs.YtobaoekibnloiaaGreatDoor
open Go Go.RowKit

def exS : ByteArray := ⟨#[115, 116, 97, 116, 105, 111, 110, 32, 108, 97, 110, 100, 32, 65, 66, 49, 50, 51, 32, 54, 48, 32, 97, 116, 32, 48, 32, 56, 52, 48, 32, 48, 32, 48, 32, 98, 105, 97, 115, 32, 49, 32, 45, 53]⟩
def exN : ByteArray := ⟨#[65, 66, 49, 50, 51]⟩
def exE : Ev := ⟨4, ⟨#[]⟩, [], 0, 1, exN, 60, false, 0, 840, 0, 0, [(1, -5)]⟩
theorem ex_line : lineW exE = exS := by
  have i60 : istr 60 = ⟨#[54, 48]⟩ := by simp [istr, Lib.itoa, Lib.decDigits]
  have i0 : istr 0 = ⟨#[48]⟩ := by simp [istr, Lib.itoa, Lib.decDigits]
  have i840 : istr 840 = ⟨#[56, 52, 48]⟩ := by simp [istr, Lib.itoa, Lib.decDigits]
  have i1 : istr 1 = ⟨#[49]⟩ := by simp [istr, Lib.itoa, Lib.decDigits]
  have i5 : istr (-5) = ⟨#[45, 53]⟩ := by simp [istr, Lib.itoa, Lib.decDigits]
  have e : evWords exE = [kwStation, kLand, exN, ⟨#[54, 48]⟩, kwAt, ⟨#[48]⟩, ⟨#[56, 52, 48]⟩, ⟨#[48]⟩, ⟨#[48]⟩, kwBias, ⟨#[49]⟩, ⟨#[45, 53]⟩] := by
    simp [evWords, placeW, biasW, exE, i60, i0, i840, i1, i5, kindW]
  unfold lineW
  rw [e]
  rfl
theorem ex_ok : errOf exE = 0 := by
  refine ok_of_good (.put _ _ _ _ _ _ _ _ (by omega) (by omega) (by decide) ?_ ?_ ?_ ?_ ?_ ?_)
  all_goals simp [longI]
theorem ex_lineF : lineF exS = some exE := by rw [← ex_line]; exact lineF_lineW ex_ok
set_option maxHeartbeats 4000000 in
set_option maxRecDepth 100000 in
theorem awake_any (w : World) (hE : Env w) : Calls Tryz.prog 5 #[] w fun e w' => e = .returned (.bool true) ∧ Below w.heap.size w w' := by
  have HL := Lib.hid (pline_any exS (by decide) w hE)
  go_enter Tryz.func5, Tryz.ntmps5
  go_wp2_with fail
  refine HL.out.mono ?_
  rintro e w1 ⟨y, bv, cv, err, rfl, hm, hp, ho1, ho2, hb⟩
  rw [ex_lineF] at hm
  obtain ⟨rfl, rfl⟩ : err = 0 ∧ y = exE := hm
  obtain ⟨ca, cc, rfl, _, _, hc⟩ := hp.bias
  obtain ⟨ab, ao, rfl, _, c0, c1, _⟩ := hc 0 (by decide)
  have hlt : ab < w1.heap.size := World.block_lt_of_cell? (a := ⟨ab, ao + 0 * 2 + 1, none⟩) _ c1
  have c1 : w1.cell? ⟨ab, ao + 1, none⟩ = some (.int .i64 (-5)) := by simpa [exE] using c1
  have HB := Lib.hid hb
  have hb1 : bv.oneCell' = true := ho1
  have EN : Hid (EvAt (w1.alloc (.cells (evCells Ev.zero (.slice none 0 0) (.slice none 0 0)).toArray 36)) w1.heap.size (evCells Ev.zero (.slice none 0 0) (.slice none 0 0))) := EvAt.new _ _ rfl _
  simp only [evCells, Ev.zero] at EN
  have Hone := Lib.hid (And.intro ho1 ho2)
  have Hc1 := Lib.hid c1
  have Hlt := Lib.hid hlt
  have Hal : Hid (∀ w3, Apart w1.heap.size (w1.alloc (.cells (evCells Ev.zero (.slice none 0 0) (.slice none 0 0)).toArray 36)) w3 → Below w1.heap.size w1 w3) := fun w3 h => ((Below.refl _ _).alloc (Nat.le_refl _) _).trans (h.below (Nat.le_refl _))
  simp only [evCells, Ev.zero] at Hal
  clear hp ho1 ho2 hb hc c0 c1 hlt hb1
  unfold Ev.val
  go_upto_region 2 with (refine ev_store rfl _ _ rfl _ rfl _ (evCells exE bv (.slice (some ⟨ab, ao, none⟩) exE.bias.length cc)) rfl EN.out rfl (evCells_one _ Hone.out.1 rfl) ?_; intro w3 E3 H3)
  have hb3 := Hal.out w3 H3
  have c1 := cell_then hb3 Hc1.out
  have HB3 := Lib.hid (below_then HB.out hb3)
  have E3' : EvAt w3 w1.heap.size [.int .i64 4, .string ⟨#[]⟩, bv, .int .i64 0, .int .i64 1, .string exN, .int .i64 60, .bool false, .int .i64 0, .int .i64 840, .int .i64 0, .int .i64 0, .slice (some ⟨ab, ao, none⟩) 1 cc] := E3
  obtain ⟨e0, e1, e2, e3, e4, e5, e6, e7, e8, e9, e10, e11, e12⟩ := E3'.facts
  unfold exN at e5
  clear e1 e2 e3 e6 e7 e8 e10 e11 E3 H3 E3' hb3
  go_wp2_with fail
  go_ret
  exact ⟨rfl, HB3.out⟩
end Go.Proofs.YtobaoekibnloiaaGreatDoor
/- The words of a line that is being written: a slice of the call's own in a variable of its own. No walk. -/
namespace Go.Proofs.YtobaoekibnloiaaGreatDoor
open Go Go.RowKit

/-- Block b is the variable; it holds a slice of the call's own with these words. -/
def WordsAt (w : World) (b base : Nat) (v : Value) (ws : List ByteArray) : Prop := w.heap[b]? = some (.cells #[v] 29 (0, 0)) ∧ w.ownsRow base 9 1 v ws.length (ws.map Value.string)
/-- What such a function may turn: the words' blocks and the variable's. -/
def Fr (base b : Nat) (w w' : World) : Prop := Below base w w' ∧ ∀ k T, T ≠ 9 → k ≠ b → Typed w k T → w'.heap[k]? = w.heap[k]?
theorem Typed.lt {w : World} {k : Nat} {T : TypeId} (h : Typed w k T) : k < w.heap.size := by obtain ⟨cs, fr, e⟩ := h; exact (Array.getElem?_eq_some_iff.1 e).1
theorem Typed.same {w w' : World} {k : Nat} {T : TypeId} (h : Typed w k T) (e : w'.heap[k]? = w.heap[k]?) : Typed w' k T := by obtain ⟨cs, fr, h⟩ := h; exact ⟨cs, fr, by rw [e]; exact h⟩
theorem Fr.refl (base b : Nat) (w : World) : Fr base b w w := ⟨Below.refl _ _, fun _ _ _ _ _ => rfl⟩
theorem Fr.trans {base b : Nat} {x y z : World} (h : Fr base b x y) (k : Fr base b y z) : Fr base b x z :=
  ⟨h.1.trans k.1, fun i T hT hi ht => by have e := h.2 i T hT hi ht; rw [k.2 i T hT hi (ht.same e), e]⟩
theorem Fr.below {base b : Nat} {x y z : World} (h : Fr base b x y) (hb : Below y.heap.size y z) (hy : base ≤ y.heap.size) : Fr base b x z :=
  ⟨h.1.trans (hb.mono hy), fun i T hT hi ht => by have e := h.2 i T hT hi ht; rw [hb.block i (ht.same e).lt, e]⟩
theorem Fr.set {base b : Nat} {x y : World} (h : Fr base b x y) (hb : base ≤ b) (u : Value) : Fr base b x (y.setCell ⟨b, 0, none⟩ u) :=
  ⟨h.1.setCell hb _, fun i T hT hi ht => by rw [Below.heap_setCell _ _ _ _ (by simp; exact hi)]; exact h.2 i T hT hi ht⟩
theorem WordsAt.var {w : World} {b base : Nat} {v : Value} {ws : List ByteArray} (h : WordsAt w b base v ws) : w.cell? ⟨b, 0, none⟩ = some v ∧ w.frozen? ⟨b, 0, none⟩ = false := ⟨cell_of_one h.1, free_of_one h.1⟩
theorem WordsAt.below {w w' : World} {b base : Nat} {v : Value} {ws : List ByteArray} (h : WordsAt w b base v ws) (hb : Below w.heap.size w w') : WordsAt w' b base v ws :=
  ⟨by rw [hb.block b (lt_of_block h.1)]; exact h.1, ownsRow_below h.2 hb⟩
theorem WordsAt.slice {w : World} {b base : Nat} {v : Value} {ws : List ByteArray} (h : WordsAt w b base v ws) : ∃ a c, v = .slice a ws.length c := by
  rcases h.2.2 with ⟨e, h0⟩ | ⟨g, cap, cur, e, _⟩
  · exact ⟨none, 0, by rw [e, h0]⟩
  · exact ⟨_, _, e⟩
/-- More words, appended and stored. -/
theorem WordsAt.more {w : World} {b base : Nat} {v : Value} {ws : List ByteArray} (h : WordsAt w b base v ws) (news : List ByteArray) (hn : ws.length ≤ 1000000000) (hk : news.length ≤ 1000000000) (hb : base ≤ w.heap.size) (hbb : base ≤ b) (ty : TypeId) :
    ∃ (v' : Value) (w' : World), (Builtin.append_ #[29, 29] ty #[v, .slice (some ⟨w.heap.size, 0, none⟩) news.length news.length]).run Tryz.prog (w.alloc (.cells (news.map Value.string).toArray 9)) = .ok v' w' ∧
      w'.cell? ⟨b, 0, none⟩ = some v ∧ w'.frozen? ⟨b, 0, none⟩ = false ∧ WordsAt (w'.setCell ⟨b, 0, none⟩ v') b base v' (ws ++ news) ∧ Fr base b w (w'.setCell ⟨b, 0, none⟩ v') ∧ (∃ a m c, v' = .slice a m c) ∧ Fr base b w w' := by
  have hA := World.ownsRow.alloc h.2 (.cells (news.map Value.string).toArray 9)
  obtain ⟨v', w', h1, h2, h3, h4⟩ := append_at 29 9 Tryz.underlying29 sinfo rfl (by decide) hA ⟨w.heap.size, 0, none⟩ news.length news.length (news.map Value.string) (by simp) (news_alloc w rfl (news.map Value.string).toArray 9) (by intro u hu; obtain ⟨z, _, rfl⟩ := List.mem_map.1 hu; rfl) hn hk (by decide) (by simp; omega) ty
  have hal : Below w.heap.size w (w.alloc (.cells (news.map Value.string).toArray 9)) := (Below.refl _ _).alloc (Nat.le_refl _) _
  have hbl := lt_of_block h.1
  have hfr : ∀ k T, T ≠ 9 → Typed w k T → w'.heap[k]? = w.heap[k]? := fun k T hT ht => by
    have e1 := hal.block k ht.lt
    rw [(ht.same e1).grown hA h4 hT, e1]
  have hvar : w'.heap[b]? = some (.cells #[v] 29 (0, 0)) := by rw [hfr b 29 (by decide) ⟨_, _, h.1⟩]; exact h.1
  have hF : Fr base b w w' := ⟨(hal.mono hb).trans h3, fun k T hT _ ht => hfr k T hT ht⟩
  rw [← List.map_append, ← List.length_append] at h2
  refine ⟨v', w', h1, cell_of_one hvar, free_of_one hvar, ⟨one_setCell hvar, ?_⟩, hF.set hbb _, ?_, hF⟩
  · refine ⟨h2.1, ?_⟩
    rcases h2.2 with q | ⟨g, cap, cur, e, hg, hh, hr⟩
    · exact Or.inl q
    · refine Or.inr ⟨g, cap, cur, e, hg, ?_, hr⟩
      have hne : g ≠ b := by
        intro e2; rw [e2, hvar] at hh; injection hh with hh; injection hh with _ ht _; exact absurd ht (by decide)
      rw [Below.heap_setCell _ _ _ _ (by simp; exact hne)]; exact hh
  · rcases h2.2 with ⟨e, h0⟩ | ⟨g, cap, cur, e, _⟩
    · exact ⟨none, 0, 0, e⟩
    · exact ⟨_, _, _, e⟩
/-- v is a slice of ints, in a block of ints. -/
def IntsT (w : World) (v : Value) (zs : List Int) : Prop := ∃ ab, v = .slice (some ⟨ab, 0, none⟩) zs.length zs.length ∧ Typed w ab 3 ∧ ∀ i, i < zs.length → w.cell? ⟨ab, i, none⟩ = some (.int .i64 (zs.getD i 0))
theorem IntsT.new (w : World) (zs : List Int) : IntsT (w.alloc (.cells (zs.map (Value.int .i64)).toArray 3)) (.slice (some ⟨w.heap.size, 0, none⟩) zs.length zs.length) zs :=
  ⟨w.heap.size, rfl, ⟨_, _, heap_alloc_new w _⟩, fun i hi => by simp [List.getD_eq_getElem?_getD, hi]⟩
end Go.Proofs.YtobaoekibnloiaaGreatDoor
/- script's check: stations. Printed by gen_pcheck2.py. -/
namespace Go.Proofs.YtobaoekibnloiaaGreatDoor
open Go Go.RowKit


theorem pl_yields {ops : Array Oper} {S : World → Prop} {op : Oper} {a : Act} (hw : Region.wanted op (yielded ops a.tmps) = true) (x : Operand) (ho : op.op = .load 31 x)
    (b : Nat) (hx : a.eval x = .pointer (some ⟨b, 8, none⟩)) (y : Ev) (bv cv : Value) (hS : ∀ w, S w → EvAt w b (evCells y bv cv)) : YieldsIf Tryz.prog ops S op (.agg [.int .i64 y.face, .int .i64 y.pa, .int .i64 y.pb, .int .i64 y.pc].toArray) a := .inl ⟨hw, fun w hw' => by
  have h := hS w hw'
  have hr : w.rangeAt b 8 [.int .i64 y.face, .int .i64 y.pa, .int .i64 y.pb, .int .i64 y.pc] := fun j v hj => by
    have hlt := (List.getElem?_eq_some_iff.1 hj).1
    simp only [List.length_cons, List.length_nil] at hlt
    have q := h.2.1 (8 + j) (by omega)
    rw [q]
    have : j = 0 ∨ j = 1 ∨ j = 2 ∨ j = 3 := by omega
    rcases this with rfl | rfl | rfl | rfl <;> exact hj
  have hl : (loadVar 31 ⟨b, 8, none⟩).run Tryz.prog w = .ok (.agg [.int .i64 y.face, .int .i64 y.pa, .int .i64 y.pb, .int .i64 y.pc].toArray) w :=
    run_loadVar_mid w b 8 _ _ _ hr Tryz.underlying31 rfl (by kernel_rfl)
  unfold execOp
  simp only [ho, hx, Instr.loadAt, Instr.sureAddr, Sem.run_bind, Sem.run_pure, Result.andThen_ok, hl]⟩

set_option maxHeartbeats 8000000 in
set_option maxRecDepth 100000 in
theorem check_name (x : Ev) (bv cv : Value) (w : World) (hp : EvParts 0 w x bv cv) (h4 : x.kind = 4) (h5 : 1 ≤ x.station) (h6 : x.station ≤ 3) (hn : nameOk x.name = false) :
    Calls Tryz.prog 28 #[x.val bv cv] w (CheckIs x w) := by
  have hk : ¬ kindBad x := by unfold kindBad; omega
  have E3 := Lib.hid (errOf_3 hk ⟨h4, hn⟩)
  have e4 : (x.kind == 4) = true := by simpa using h4
  have g1 : ¬ x.kind < 1 := by omega
  have g2 : ¬ 6 < x.kind := by omega
  have g3 : ¬ x.station < 1 := by omega
  have g4 : ¬ 3 < x.station := by omega
  have HM := Lib.hid (fun w' => named_any x.name hp.ok.name w')
  rw [hn] at HM
  obtain ⟨ba, bc, rfl, hz1⟩ := hp.bytes
  obtain ⟨ca, cc, rfl, hz2⟩ := hp.bias
  clear hz1 hz2 hp h4 h5 h6 hn hk
  unfold Ev.val evCells
  go_enter Tryz.func28, Tryz.ntmps28
  go_wp2_with fail
  refine (HM.out _).mono ?_
  rintro e w0 ⟨rfl, hb0⟩
  have HB0 := Lib.hid (below_then (one_below w _) hb0)
  clear hb0
  go_wp2_with fail
  go_ret
  exact ⟨by rw [E3.out]; rfl, HB0.out⟩

open Classical in
set_option maxHeartbeats 8000000 in
set_option maxRecDepth 100000 in
theorem check_open (x : Ev) (bv cv : Value) (w : World) (hE : Env w) (hp : EvParts 0 w x bv cv) (h4 : x.kind = 4) (h5 : 1 ≤ x.station) (h6 : x.station ≤ 3) (hn : nameOk x.name = true) (hc : x.closed = false) :
    Calls Tryz.prog 28 #[x.val bv cv] w (CheckIs x w) := by
  have hk : ¬ kindBad x := by unfold kindBad; omega
  have hnm : ¬ (x.kind = 4 ∧ nameOk x.name = false) := fun h => by rw [hn] at h; exact absurd h.2 (by decide)
  have E1 := Lib.hid (@errOf_1 x hk hnm)
  have E7 := Lib.hid (@errOf_7 x hk hnm)
  have E0 := Lib.hid (@errOf_0 x hk hnm)
  have Hst : Hid (stateBad x ↔ x ≠ only x) := ⟨fun h => h.elim (fun h => absurd (hc.symm.trans h.2.1) (by decide)) id, Or.inr⟩
  have Hc := Lib.hid hc
  clear hc
  have e4 : (x.kind == 4) = true := by simpa using h4
  have g1 : ¬ x.kind < 1 := by omega
  have g2 : ¬ 6 < x.kind := by omega
  have g3 : ¬ x.station < 1 := by omega
  have g4 : ¬ 3 < x.station := by omega
  have HM := Lib.hid (fun w' => named_any x.name hp.ok.name w')
  rw [hn] at HM
  have HP := Lib.hid hp
  have HN := Lib.hid (fun w' (hb : Below w.heap.size w w') => numbers_any x bv cv w' (hp.below hb))
  have HEv := Lib.hid hE
  obtain ⟨ba, bc, rfl, hz1⟩ := hp.bytes
  obtain ⟨ca, cc, rfl, hz2⟩ := hp.bias
  clear hz1 hz2
  have hO := fun w' => only_any x (.slice ba x.bytes.length bc) (.slice ca x.bias.length cc) w' ⟨_, _, _, rfl⟩ ⟨_, _, _, rfl⟩
  have hS := fun w' (hb : Below w.heap.size w w') => psame_any x (only x) (.slice ba x.bytes.length bc) (.slice ca x.bias.length cc) (if x.kind = 2 then .slice ba x.bytes.length bc else .slice none 0 0) (if x.kind = 4 then .slice ca x.bias.length cc else .slice none 0 0) w' (hp.below hb) (only_parts (hp.below hb))
  unfold OnlyIs at hO
  generalize (if x.kind = 2 then Value.slice ba x.bytes.length bc else .slice none 0 0) = dv at hO hS
  generalize (if x.kind = 4 then Value.slice ca x.bias.length cc else .slice none 0 0) = ev at hO hS
  have HO := Lib.hid hO
  have HS := Lib.hid hS
  clear hO hS
  have hs8 := hE.size
  clear hp hE h4 h5 h6 hk hnm hn
  unfold Ev.val evCells
  go_enter Tryz.func28, Tryz.ntmps28
  go_wp2_with fail
  refine (HM.out _).mono ?_
  rintro e w0 ⟨rfl, hb0⟩
  have HB0 := Lib.hid (below_then (one_below w _) hb0)
  have EA := Lib.hid ((EvAt.new w (evCells x (.slice ba x.bytes.length bc) (.slice ca x.bias.length cc)) rfl 36).below hb0)
  clear hb0
  go_wp2_with (refine ev_load rfl _ rfl _ rfl _ EA.out ?_)
  refine (HN.out w0 (HB0.out)).mono ?_
  rintro e w1 ⟨v, rfl, hin, hb1⟩
  have HB1 := Lib.hid (below_then (HB0.out) hb1)
  have Hin := Lib.hid hin
  have EB := Lib.hid ((EA.out).below hb1)
  clear hin hb1
  go_wp2_with fail
  refine (containsf_any v (nums x) w1 (HEv.out.below HB1.out hs8) Hin.out).mono ?_
  rintro e w2 ⟨rfl, hb2⟩
  have HB2 := Lib.hid (below_then HB1.out hb2)
  have EB2 := Lib.hid (EB.out.below hb2)
  obtain ⟨q, hq⟩ : ∃ q, q = decide (∃ z ∈ nums x, longI z) := ⟨_, rfl⟩
  rw [← hq]
  have Hq := Lib.hid hq
  clear hq hb2
  cases q with
  | true =>
    go_wp2_with fail
    go_ret
    exact ⟨by rw [E1.out (of_decide_eq_true Hq.out.symm)]; rfl, HB2.out⟩
  | false =>
    have Hno := Lib.hid (of_decide_eq_false Hq.out.symm)
    obtain ⟨r, hr⟩ : ∃ r, r = decide (x = only x) := ⟨_, rfl⟩
    rw [← hr] at HS
    have Hr := Lib.hid hr
    clear hr
    go_wp2_with fail

    refine wp_region_held_drew (S := fun wx => EvAt wx w.heap.size (evCells x (.slice ba x.bytes.length bc) (.slice ca x.bias.length cc)) ∧ Below w.heap.size w wx) (by kernel_rfl) ⟨EB2.out.drew, HB2.out.drew⟩ (fun hHeld => ?_)
    refine wpAnyH_takeD (i := 0) (d := some 42) (v := .bool true) rfl rfl (by kernel_rfl) (by kernel_rfl) (by kernel_rfl) (fun _ _ _ h => h) (Or.inl ⟨by rfl, fun _ _ => by rfl⟩) (by assumption) ?_
    simp only [Act.put, List.setIfInBounds_toArray, List.set_cons_zero, List.set_cons_succ]
    refine wpAnyH_takeD (i := 1) (d := some 43) (v := .bool true) rfl rfl (by kernel_rfl) (by kernel_rfl) (by kernel_rfl) (fun _ _ _ h => h) (Or.inl ⟨by rfl, fun _ _ => by rfl⟩) (by assumption) ?_
    simp only [Act.put, List.setIfInBounds_toArray, List.set_cons_zero, List.set_cons_succ]
    refine wpAnyH_takeD (i := 2) (d := some 44) (v := .pointer (some ⟨w.heap.size, 6, none⟩)) rfl rfl (by kernel_rfl) (by kernel_rfl) (by kernel_rfl) (fun _ _ _ h => h) (Or.inl ⟨by rfl, fun _ _ => by rfl⟩) (by assumption) ?_
    simp only [Act.put, List.setIfInBounds_toArray, List.set_cons_zero, List.set_cons_succ]
    refine wpAnyH_takeD (i := 3) (d := some 45) (v := .pointer (some ⟨w.heap.size, 7, none⟩)) rfl rfl (by kernel_rfl) (by kernel_rfl) (by kernel_rfl) (fun _ _ _ h => h) (Or.inl ⟨by rfl, fun _ _ => by rfl⟩) (by assumption) ?_
    simp only [Act.put, List.setIfInBounds_toArray, List.set_cons_zero, List.set_cons_succ]
    refine wpAnyH_takeD (i := 4) (d := some 46) (v := .bool false) rfl rfl (by kernel_rfl) (by kernel_rfl) (by kernel_rfl) (fun _ _ _ h => h) (Or.inl ⟨by rfl, fun wx hx => by (have q : wx.cell? ⟨w.heap.size, 7, none⟩ = some (.bool x.closed) := hx.1.2.1 7 (by omega)); (rw [Hc.out] at q); go_simp⟩) (by assumption) ?_
    simp only [Act.put, List.setIfInBounds_toArray, List.set_cons_zero, List.set_cons_succ]
    refine wpAnyH_takeD (i := 5) (d := some 47) (v := .bool false) rfl rfl (by kernel_rfl) (by kernel_rfl) (by kernel_rfl) (fun _ _ _ h => h) (Or.inl ⟨by rfl, fun _ _ => by rfl⟩) (by assumption) ?_
    simp only [Act.put, List.setIfInBounds_toArray, List.set_cons_zero, List.set_cons_succ]
    refine wpAnyH_takeD (i := 6) (d := some 48) (v := .bool false) rfl rfl (by kernel_rfl) (by kernel_rfl) (by kernel_rfl) (fun _ _ _ h => h) (Or.inl ⟨by rfl, fun _ _ => by rfl⟩) (by assumption) ?_
    simp only [Act.put, List.setIfInBounds_toArray, List.set_cons_zero, List.set_cons_succ]
    refine wpAnyH_takeD (i := 7) (d := some 49) (v := undef) rfl rfl (by kernel_rfl) (by kernel_rfl) (by kernel_rfl) (fun _ _ _ h => h) (Or.inr ⟨by rfl, rfl⟩) (by assumption) ?_
    simp only [Act.put, List.setIfInBounds_toArray, List.set_cons_zero, List.set_cons_succ]
    refine wpAnyH_takeD (i := 8) (d := some 50) (v := undef) rfl rfl (by kernel_rfl) (by kernel_rfl) (by kernel_rfl) (fun _ _ _ h => h) (Or.inr ⟨by rfl, rfl⟩) (by assumption) ?_
    simp only [Act.put, List.setIfInBounds_toArray, List.set_cons_zero, List.set_cons_succ]
    refine wpAnyH_takeD (i := 9) (d := some 51) (v := undef) rfl rfl (by kernel_rfl) (by kernel_rfl) (by kernel_rfl) (fun _ _ _ h => h) (Or.inr ⟨by rfl, rfl⟩) (by assumption) ?_
    simp only [Act.put, List.setIfInBounds_toArray, List.set_cons_zero, List.set_cons_succ]
    refine wpAnyH_takeD (i := 10) (d := some 52) (v := undef) rfl rfl (by kernel_rfl) (by kernel_rfl) (by kernel_rfl) (fun _ _ _ h => h) (Or.inr ⟨by rfl, rfl⟩) (by assumption) ?_
    simp only [Act.put, List.setIfInBounds_toArray, List.set_cons_zero, List.set_cons_succ]
    refine wpAnyH_takeD (i := 11) (d := some 53) (v := undef) rfl rfl (by kernel_rfl) (by kernel_rfl) (by kernel_rfl) (fun _ _ _ h => h) (Or.inr ⟨by rfl, rfl⟩) (by assumption) ?_
    simp only [Act.put, List.setIfInBounds_toArray, List.set_cons_zero, List.set_cons_succ]
    refine wpAnyH_takeD (i := 12) (d := some 54) (v := .bool false) rfl rfl (by kernel_rfl) (by kernel_rfl) (by kernel_rfl) (fun _ _ _ h => h) (Or.inl ⟨by rfl, fun _ _ => by rfl⟩) (by assumption) ?_
    simp only [Act.put, List.setIfInBounds_toArray, List.set_cons_zero, List.set_cons_succ]
    refine wpAnyH_takeD (i := 13) (d := some 55) (v := .bool false) rfl rfl (by kernel_rfl) (by kernel_rfl) (by kernel_rfl) (fun _ _ _ h => h) (Or.inl ⟨by rfl, fun _ _ => by rfl⟩) (by assumption) ?_
    simp only [Act.put, List.setIfInBounds_toArray, List.set_cons_zero, List.set_cons_succ]
    refine wpAnyH_takeD (i := 14) (d := some 56) (v := x.val (.slice ba x.bytes.length bc) (.slice ca x.bias.length cc)) rfl rfl (by kernel_rfl) (by kernel_rfl) (by kernel_rfl) (fun _ _ _ h => h) (ev_yields (by rfl) _ rfl w.heap.size rfl _ (fun _ h => h.1)) (by assumption) ?_
    simp only [Act.put, List.setIfInBounds_toArray, List.set_cons_zero, List.set_cons_succ]
    refine wpAnyH_takeD (i := 15) (d := some 57) (v := x.val (.slice ba x.bytes.length bc) (.slice ca x.bias.length cc)) rfl rfl (by kernel_rfl) (by kernel_rfl) (by kernel_rfl) (fun _ _ _ h => h) (ev_yields (by rfl) _ rfl w.heap.size rfl _ (fun _ h => h.1)) (by assumption) ?_
    simp only [Act.put, List.setIfInBounds_toArray, List.set_cons_zero, List.set_cons_succ]
    refine wpAnyH_ready (rs := [16]) (by kernel_rfl) (by simp) ?_
    refine AllReadyH.cons rfl (fun K hK => ?_) AllReadyH.nil
    rw [if_pos (by rfl)]
    go_simp
    refine (HO.out _).mono ?_
    rintro e w3 ⟨rfl, hb3⟩
    refine hK.out _ _ ⟨hHeld.1.below hb3, below_then hHeld.2 hb3⟩ (fun hHeld => ?_)
    clear hK K hb3
    refine wpAnyH_ready (rs := [17]) (by kernel_rfl) (by simp) ?_
    refine AllReadyH.cons rfl (fun K hK => ?_) AllReadyH.nil
    rw [if_pos (by rfl)]
    go_simp
    refine (HS.out w3 hHeld.2).mono ?_
    rintro e w4 ⟨rfl, hb4⟩
    refine hK.out _ _ ⟨hHeld.1.below hb4, below_then hHeld.2 hb4⟩ (fun hHeld => ?_)
    clear hK K hb4
    refine wpAnyH_takeD (i := 18) (d := some 60) (v := .bool (!r)) rfl rfl (by kernel_rfl) (by kernel_rfl) (by kernel_rfl) (fun _ _ _ h => h) (Or.inl ⟨by rfl, fun _ _ => by rfl⟩) (by assumption) ?_
    simp only [Act.put, List.setIfInBounds_toArray, List.set_cons_zero, List.set_cons_succ]
    refine wpAnyH_takeD (i := 19) (d := some 61) (v := .bool (!r)) rfl rfl (by kernel_rfl) (by kernel_rfl) (by kernel_rfl) (fun _ _ _ h => h) (Or.inl ⟨by rfl, fun _ _ => by rfl⟩) (by assumption) ?_
    simp only [Act.put, List.setIfInBounds_toArray, List.set_cons_zero, List.set_cons_succ]
    refine wpAnyH_takeD (i := 20) (d := some 41) (v := .bool (!r)) rfl rfl (by kernel_rfl) (by kernel_rfl) (by kernel_rfl) (fun _ _ _ h => h) (Or.inl ⟨by rfl, fun _ _ => by rfl⟩) (by assumption) ?_
    simp only [Act.put, List.setIfInBounds_toArray, List.set_cons_zero, List.set_cons_succ]
    refine wpAnyH_done (by kernel_rfl) ?_ _
    cases r with
    | true =>
      go_wp2_with fail
      go_ret
      exact ⟨by rw [E0.out Hno.out (fun hs => (Hst.out.1 hs) (of_decide_eq_true Hr.out.symm))]; rfl, hHeld.2⟩
    | false =>
      go_wp2_with fail
      go_ret
      exact ⟨by rw [E7.out Hno.out (Hst.out.2 (of_decide_eq_false Hr.out.symm))]; rfl, hHeld.2⟩

open Classical in
set_option maxHeartbeats 8000000 in
set_option maxRecDepth 100000 in
theorem check_shut (x : Ev) (bv cv : Value) (w : World) (hE : Env w) (hp : EvParts 0 w x bv cv) (h4 : x.kind = 4) (h5 : 1 ≤ x.station) (h6 : x.station ≤ 3) (hn : nameOk x.name = true) (hc : x.closed = true) (hpl : x.noPlace) :
    Calls Tryz.prog 28 #[x.val bv cv] w (CheckIs x w) := by
  have hk : ¬ kindBad x := by unfold kindBad; omega
  have hnm : ¬ (x.kind = 4 ∧ nameOk x.name = false) := fun h => by rw [hn] at h; exact absurd h.2 (by decide)
  have E1 := Lib.hid (@errOf_1 x hk hnm)
  have E7 := Lib.hid (@errOf_7 x hk hnm)
  have E0 := Lib.hid (@errOf_0 x hk hnm)
  have Hst : Hid (stateBad x ↔ x ≠ only x) := ⟨fun h => h.elim (fun h => absurd hpl h.2.2) id, Or.inr⟩
  have Hpl := Lib.hid hpl
  clear hpl
  have Hc := Lib.hid hc
  clear hc
  have e4 : (x.kind == 4) = true := by simpa using h4
  have g1 : ¬ x.kind < 1 := by omega
  have g2 : ¬ 6 < x.kind := by omega
  have g3 : ¬ x.station < 1 := by omega
  have g4 : ¬ 3 < x.station := by omega
  have HM := Lib.hid (fun w' => named_any x.name hp.ok.name w')
  rw [hn] at HM
  have HP := Lib.hid hp
  have HN := Lib.hid (fun w' (hb : Below w.heap.size w w') => numbers_any x bv cv w' (hp.below hb))
  have HEv := Lib.hid hE
  obtain ⟨ba, bc, rfl, hz1⟩ := hp.bytes
  obtain ⟨ca, cc, rfl, hz2⟩ := hp.bias
  clear hz1 hz2
  have hO := fun w' => only_any x (.slice ba x.bytes.length bc) (.slice ca x.bias.length cc) w' ⟨_, _, _, rfl⟩ ⟨_, _, _, rfl⟩
  have hS := fun w' (hb : Below w.heap.size w w') => psame_any x (only x) (.slice ba x.bytes.length bc) (.slice ca x.bias.length cc) (if x.kind = 2 then .slice ba x.bytes.length bc else .slice none 0 0) (if x.kind = 4 then .slice ca x.bias.length cc else .slice none 0 0) w' (hp.below hb) (only_parts (hp.below hb))
  unfold OnlyIs at hO
  generalize (if x.kind = 2 then Value.slice ba x.bytes.length bc else .slice none 0 0) = dv at hO hS
  generalize (if x.kind = 4 then Value.slice ca x.bias.length cc else .slice none 0 0) = ev at hO hS
  have HO := Lib.hid hO
  have HS := Lib.hid hS
  clear hO hS
  have hs8 := hE.size
  clear hp hE h4 h5 h6 hk hnm hn
  unfold Ev.val evCells
  go_enter Tryz.func28, Tryz.ntmps28
  go_wp2_with fail
  refine (HM.out _).mono ?_
  rintro e w0 ⟨rfl, hb0⟩
  have HB0 := Lib.hid (below_then (one_below w _) hb0)
  have EA := Lib.hid ((EvAt.new w (evCells x (.slice ba x.bytes.length bc) (.slice ca x.bias.length cc)) rfl 36).below hb0)
  clear hb0
  go_wp2_with (refine ev_load rfl _ rfl _ rfl _ EA.out ?_)
  refine (HN.out w0 (HB0.out)).mono ?_
  rintro e w1 ⟨v, rfl, hin, hb1⟩
  have HB1 := Lib.hid (below_then (HB0.out) hb1)
  have Hin := Lib.hid hin
  have EB := Lib.hid ((EA.out).below hb1)
  clear hin hb1
  go_wp2_with fail
  refine (containsf_any v (nums x) w1 (HEv.out.below HB1.out hs8) Hin.out).mono ?_
  rintro e w2 ⟨rfl, hb2⟩
  have HB2 := Lib.hid (below_then HB1.out hb2)
  have EB2 := Lib.hid (EB.out.below hb2)
  obtain ⟨q, hq⟩ : ∃ q, q = decide (∃ z ∈ nums x, longI z) := ⟨_, rfl⟩
  rw [← hq]
  have Hq := Lib.hid hq
  clear hq hb2
  cases q with
  | true =>
    go_wp2_with fail
    go_ret
    exact ⟨by rw [E1.out (of_decide_eq_true Hq.out.symm)]; rfl, HB2.out⟩
  | false =>
    have Hno := Lib.hid (of_decide_eq_false Hq.out.symm)
    obtain ⟨r, hr⟩ : ∃ r, r = decide (x = only x) := ⟨_, rfl⟩
    rw [← hr] at HS
    have Hr := Lib.hid hr
    clear hr
    go_wp2_with fail

    refine wp_region_held_drew (S := fun wx => EvAt wx w.heap.size (evCells x (.slice ba x.bytes.length bc) (.slice ca x.bias.length cc)) ∧ Below w.heap.size w wx) (by kernel_rfl) ⟨EB2.out.drew, HB2.out.drew⟩ (fun hHeld => ?_)
    refine wpAnyH_takeD (i := 0) (d := some 42) (v := .bool true) rfl rfl (by kernel_rfl) (by kernel_rfl) (by kernel_rfl) (fun _ _ _ h => h) (Or.inl ⟨by rfl, fun _ _ => by rfl⟩) (by assumption) ?_
    simp only [Act.put, List.setIfInBounds_toArray, List.set_cons_zero, List.set_cons_succ]
    refine wpAnyH_takeD (i := 1) (d := some 43) (v := .bool true) rfl rfl (by kernel_rfl) (by kernel_rfl) (by kernel_rfl) (fun _ _ _ h => h) (Or.inl ⟨by rfl, fun _ _ => by rfl⟩) (by assumption) ?_
    simp only [Act.put, List.setIfInBounds_toArray, List.set_cons_zero, List.set_cons_succ]
    refine wpAnyH_takeD (i := 2) (d := some 44) (v := .pointer (some ⟨w.heap.size, 6, none⟩)) rfl rfl (by kernel_rfl) (by kernel_rfl) (by kernel_rfl) (fun _ _ _ h => h) (Or.inl ⟨by rfl, fun _ _ => by rfl⟩) (by assumption) ?_
    simp only [Act.put, List.setIfInBounds_toArray, List.set_cons_zero, List.set_cons_succ]
    refine wpAnyH_takeD (i := 3) (d := some 45) (v := .pointer (some ⟨w.heap.size, 7, none⟩)) rfl rfl (by kernel_rfl) (by kernel_rfl) (by kernel_rfl) (fun _ _ _ h => h) (Or.inl ⟨by rfl, fun _ _ => by rfl⟩) (by assumption) ?_
    simp only [Act.put, List.setIfInBounds_toArray, List.set_cons_zero, List.set_cons_succ]
    refine wpAnyH_takeD (i := 4) (d := some 46) (v := .bool true) rfl rfl (by kernel_rfl) (by kernel_rfl) (by kernel_rfl) (fun _ _ _ h => h) (Or.inl ⟨by rfl, fun wx hx => by (have q : wx.cell? ⟨w.heap.size, 7, none⟩ = some (.bool x.closed) := hx.1.2.1 7 (by omega)); (rw [Hc.out] at q); go_simp⟩) (by assumption) ?_
    simp only [Act.put, List.setIfInBounds_toArray, List.set_cons_zero, List.set_cons_succ]
    refine wpAnyH_takeD (i := 5) (d := some 47) (v := .bool true) rfl rfl (by kernel_rfl) (by kernel_rfl) (by kernel_rfl) (fun _ _ _ h => h) (Or.inl ⟨by rfl, fun _ _ => by rfl⟩) (by assumption) ?_
    simp only [Act.put, List.setIfInBounds_toArray, List.set_cons_zero, List.set_cons_succ]
    refine wpAnyH_takeD (i := 6) (d := some 48) (v := .bool true) rfl rfl (by kernel_rfl) (by kernel_rfl) (by kernel_rfl) (fun _ _ _ h => h) (Or.inl ⟨by rfl, fun _ _ => by rfl⟩) (by assumption) ?_
    simp only [Act.put, List.setIfInBounds_toArray, List.set_cons_zero, List.set_cons_succ]
    refine wpAnyH_takeD (i := 7) (d := some 49) (v := .pointer (some ⟨w.heap.size, 6, none⟩)) rfl rfl (by kernel_rfl) (by kernel_rfl) (by kernel_rfl) (fun _ _ _ h => h) (Or.inl ⟨by rfl, fun _ _ => by rfl⟩) (by assumption) ?_
    simp only [Act.put, List.setIfInBounds_toArray, List.set_cons_zero, List.set_cons_succ]
    refine wpAnyH_takeD (i := 8) (d := some 50) (v := .pointer (some ⟨w.heap.size, 8, none⟩)) rfl rfl (by kernel_rfl) (by kernel_rfl) (by kernel_rfl) (fun _ _ _ h => h) (Or.inl ⟨by rfl, fun _ _ => by rfl⟩) (by assumption) ?_
    simp only [Act.put, List.setIfInBounds_toArray, List.set_cons_zero, List.set_cons_succ]
    refine wpAnyH_takeD (i := 9) (d := some 51) (v := .agg [.int .i64 x.face, .int .i64 x.pa, .int .i64 x.pb, .int .i64 x.pc].toArray) rfl rfl (by kernel_rfl) (by kernel_rfl) (by kernel_rfl) (fun _ _ _ h => h) (pl_yields (by rfl) _ rfl w.heap.size rfl x _ _ (fun _ h => h.1)) (by assumption) ?_
    simp only [Act.put, List.setIfInBounds_toArray, List.set_cons_zero, List.set_cons_succ]
    refine wpAnyH_takeD (i := 10) (d := some 52) (v := .agg #[.int .i64 0, .int .i64 0, .int .i64 0, .int .i64 0]) rfl rfl (by kernel_rfl) (by kernel_rfl) (by kernel_rfl) (fun _ _ _ h => h) (Or.inl ⟨by rfl, fun _ _ => by go_simp⟩) (by assumption) ?_
    simp only [Act.put, List.setIfInBounds_toArray, List.set_cons_zero, List.set_cons_succ]
    refine wpAnyH_takeD (i := 11) (d := some 53) (v := .bool false) rfl rfl (by kernel_rfl) (by kernel_rfl) (by kernel_rfl) (fun _ _ _ h => h) (Or.inl ⟨by rfl, fun wx _ => by (go_simp; simp [Hpl.out.1, Hpl.out.2.1, Hpl.out.2.2.1, Hpl.out.2.2.2])⟩) (by assumption) ?_
    simp only [Act.put, List.setIfInBounds_toArray, List.set_cons_zero, List.set_cons_succ]
    refine wpAnyH_takeD (i := 12) (d := some 54) (v := .bool false) rfl rfl (by kernel_rfl) (by kernel_rfl) (by kernel_rfl) (fun _ _ _ h => h) (Or.inl ⟨by rfl, fun _ _ => by rfl⟩) (by assumption) ?_
    simp only [Act.put, List.setIfInBounds_toArray, List.set_cons_zero, List.set_cons_succ]
    refine wpAnyH_takeD (i := 13) (d := some 55) (v := .bool false) rfl rfl (by kernel_rfl) (by kernel_rfl) (by kernel_rfl) (fun _ _ _ h => h) (Or.inl ⟨by rfl, fun _ _ => by rfl⟩) (by assumption) ?_
    simp only [Act.put, List.setIfInBounds_toArray, List.set_cons_zero, List.set_cons_succ]
    refine wpAnyH_takeD (i := 14) (d := some 56) (v := x.val (.slice ba x.bytes.length bc) (.slice ca x.bias.length cc)) rfl rfl (by kernel_rfl) (by kernel_rfl) (by kernel_rfl) (fun _ _ _ h => h) (ev_yields (by rfl) _ rfl w.heap.size rfl _ (fun _ h => h.1)) (by assumption) ?_
    simp only [Act.put, List.setIfInBounds_toArray, List.set_cons_zero, List.set_cons_succ]
    refine wpAnyH_takeD (i := 15) (d := some 57) (v := x.val (.slice ba x.bytes.length bc) (.slice ca x.bias.length cc)) rfl rfl (by kernel_rfl) (by kernel_rfl) (by kernel_rfl) (fun _ _ _ h => h) (ev_yields (by rfl) _ rfl w.heap.size rfl _ (fun _ h => h.1)) (by assumption) ?_
    simp only [Act.put, List.setIfInBounds_toArray, List.set_cons_zero, List.set_cons_succ]
    refine wpAnyH_ready (rs := [16]) (by kernel_rfl) (by simp) ?_
    refine AllReadyH.cons rfl (fun K hK => ?_) AllReadyH.nil
    rw [if_pos (by rfl)]
    go_simp
    refine (HO.out _).mono ?_
    rintro e w3 ⟨rfl, hb3⟩
    refine hK.out _ _ ⟨hHeld.1.below hb3, below_then hHeld.2 hb3⟩ (fun hHeld => ?_)
    clear hK K hb3
    refine wpAnyH_ready (rs := [17]) (by kernel_rfl) (by simp) ?_
    refine AllReadyH.cons rfl (fun K hK => ?_) AllReadyH.nil
    rw [if_pos (by rfl)]
    go_simp
    refine (HS.out w3 hHeld.2).mono ?_
    rintro e w4 ⟨rfl, hb4⟩
    refine hK.out _ _ ⟨hHeld.1.below hb4, below_then hHeld.2 hb4⟩ (fun hHeld => ?_)
    clear hK K hb4
    refine wpAnyH_takeD (i := 18) (d := some 60) (v := .bool (!r)) rfl rfl (by kernel_rfl) (by kernel_rfl) (by kernel_rfl) (fun _ _ _ h => h) (Or.inl ⟨by rfl, fun _ _ => by rfl⟩) (by assumption) ?_
    simp only [Act.put, List.setIfInBounds_toArray, List.set_cons_zero, List.set_cons_succ]
    refine wpAnyH_takeD (i := 19) (d := some 61) (v := .bool (!r)) rfl rfl (by kernel_rfl) (by kernel_rfl) (by kernel_rfl) (fun _ _ _ h => h) (Or.inl ⟨by rfl, fun _ _ => by rfl⟩) (by assumption) ?_
    simp only [Act.put, List.setIfInBounds_toArray, List.set_cons_zero, List.set_cons_succ]
    refine wpAnyH_takeD (i := 20) (d := some 41) (v := .bool (!r)) rfl rfl (by kernel_rfl) (by kernel_rfl) (by kernel_rfl) (fun _ _ _ h => h) (Or.inl ⟨by rfl, fun _ _ => by rfl⟩) (by assumption) ?_
    simp only [Act.put, List.setIfInBounds_toArray, List.set_cons_zero, List.set_cons_succ]
    refine wpAnyH_done (by kernel_rfl) ?_ _
    cases r with
    | true =>
      go_wp2_with fail
      go_ret
      exact ⟨by rw [E0.out Hno.out (fun hs => (Hst.out.1 hs) (of_decide_eq_true Hr.out.symm))]; rfl, hHeld.2⟩
    | false =>
      go_wp2_with fail
      go_ret
      exact ⟨by rw [E7.out Hno.out (Hst.out.2 (of_decide_eq_false Hr.out.symm))]; rfl, hHeld.2⟩

open Classical in
set_option maxHeartbeats 8000000 in
set_option maxRecDepth 100000 in
theorem check_place (x : Ev) (bv cv : Value) (w : World) (hE : Env w) (hp : EvParts 0 w x bv cv) (h4 : x.kind = 4) (h5 : 1 ≤ x.station) (h6 : x.station ≤ 3) (hn : nameOk x.name = true) (hc : x.closed = true) (hpl : ¬ x.noPlace) :
    Calls Tryz.prog 28 #[x.val bv cv] w (CheckIs x w) := by
  have hk : ¬ kindBad x := by unfold kindBad; omega
  have hnm : ¬ (x.kind = 4 ∧ nameOk x.name = false) := fun h => by rw [hn] at h; exact absurd h.2 (by decide)
  have E1 := Lib.hid (@errOf_1 x hk hnm)
  have E7 := Lib.hid (@errOf_7 x hk hnm)
  have E0 := Lib.hid (@errOf_0 x hk hnm)
  have Hst : Hid (stateBad x ↔ (x.closed = true ∧ ¬ x.noPlace) ∨ x ≠ only x) := ⟨fun h => h.elim (fun h => Or.inl h.2) Or.inr, fun h => h.elim (fun h => Or.inl ⟨h4, h⟩) Or.inr⟩
  have Hpl := Lib.hid hpl
  clear hpl
  have Hc := Lib.hid hc
  clear hc
  have e4 : (x.kind == 4) = true := by simpa using h4
  have g1 : ¬ x.kind < 1 := by omega
  have g2 : ¬ 6 < x.kind := by omega
  have g3 : ¬ x.station < 1 := by omega
  have g4 : ¬ 3 < x.station := by omega
  have HM := Lib.hid (fun w' => named_any x.name hp.ok.name w')
  rw [hn] at HM
  have HP := Lib.hid hp
  have HN := Lib.hid (fun w' (hb : Below w.heap.size w w') => numbers_any x bv cv w' (hp.below hb))
  have HEv := Lib.hid hE
  obtain ⟨ba, bc, rfl, hz1⟩ := hp.bytes
  obtain ⟨ca, cc, rfl, hz2⟩ := hp.bias
  clear hz1 hz2
  have hO := fun w' => only_any x (.slice ba x.bytes.length bc) (.slice ca x.bias.length cc) w' ⟨_, _, _, rfl⟩ ⟨_, _, _, rfl⟩
  have hS := fun w' (hb : Below w.heap.size w w') => psame_any x (only x) (.slice ba x.bytes.length bc) (.slice ca x.bias.length cc) (if x.kind = 2 then .slice ba x.bytes.length bc else .slice none 0 0) (if x.kind = 4 then .slice ca x.bias.length cc else .slice none 0 0) w' (hp.below hb) (only_parts (hp.below hb))
  unfold OnlyIs at hO
  generalize (if x.kind = 2 then Value.slice ba x.bytes.length bc else .slice none 0 0) = dv at hO hS
  generalize (if x.kind = 4 then Value.slice ca x.bias.length cc else .slice none 0 0) = ev at hO hS
  have HO := Lib.hid hO
  have HS := Lib.hid hS
  clear hO hS
  have hs8 := hE.size
  clear hp hE h4 h5 h6 hk hnm hn
  unfold Ev.val evCells
  go_enter Tryz.func28, Tryz.ntmps28
  go_wp2_with fail
  refine (HM.out _).mono ?_
  rintro e w0 ⟨rfl, hb0⟩
  have HB0 := Lib.hid (below_then (one_below w _) hb0)
  have EA := Lib.hid ((EvAt.new w (evCells x (.slice ba x.bytes.length bc) (.slice ca x.bias.length cc)) rfl 36).below hb0)
  clear hb0
  go_wp2_with (refine ev_load rfl _ rfl _ rfl _ EA.out ?_)
  refine (HN.out w0 (HB0.out)).mono ?_
  rintro e w1 ⟨v, rfl, hin, hb1⟩
  have HB1 := Lib.hid (below_then (HB0.out) hb1)
  have Hin := Lib.hid hin
  have EB := Lib.hid ((EA.out).below hb1)
  clear hin hb1
  go_wp2_with fail
  refine (containsf_any v (nums x) w1 (HEv.out.below HB1.out hs8) Hin.out).mono ?_
  rintro e w2 ⟨rfl, hb2⟩
  have HB2 := Lib.hid (below_then HB1.out hb2)
  have EB2 := Lib.hid (EB.out.below hb2)
  obtain ⟨q, hq⟩ : ∃ q, q = decide (∃ z ∈ nums x, longI z) := ⟨_, rfl⟩
  rw [← hq]
  have Hq := Lib.hid hq
  clear hq hb2
  cases q with
  | true =>
    go_wp2_with fail
    go_ret
    exact ⟨by rw [E1.out (of_decide_eq_true Hq.out.symm)]; rfl, HB2.out⟩
  | false =>
    have Hno := Lib.hid (of_decide_eq_false Hq.out.symm)
    obtain ⟨r, hr⟩ : ∃ r, r = decide (x = only x) := ⟨_, rfl⟩
    rw [← hr] at HS
    have Hr := Lib.hid hr
    clear hr
    go_wp2_with fail

    refine wp_region_held_drew (S := fun wx => EvAt wx w.heap.size (evCells x (.slice ba x.bytes.length bc) (.slice ca x.bias.length cc)) ∧ Below w.heap.size w wx) (by kernel_rfl) ⟨EB2.out.drew, HB2.out.drew⟩ (fun hHeld => ?_)
    refine wpAnyH_takeD (i := 0) (d := some 42) (v := .bool true) rfl rfl (by kernel_rfl) (by kernel_rfl) (by kernel_rfl) (fun _ _ _ h => h) (Or.inl ⟨by rfl, fun _ _ => by rfl⟩) (by assumption) ?_
    simp only [Act.put, List.setIfInBounds_toArray, List.set_cons_zero, List.set_cons_succ]
    refine wpAnyH_takeD (i := 1) (d := some 43) (v := .bool true) rfl rfl (by kernel_rfl) (by kernel_rfl) (by kernel_rfl) (fun _ _ _ h => h) (Or.inl ⟨by rfl, fun _ _ => by rfl⟩) (by assumption) ?_
    simp only [Act.put, List.setIfInBounds_toArray, List.set_cons_zero, List.set_cons_succ]
    refine wpAnyH_takeD (i := 2) (d := some 44) (v := .pointer (some ⟨w.heap.size, 6, none⟩)) rfl rfl (by kernel_rfl) (by kernel_rfl) (by kernel_rfl) (fun _ _ _ h => h) (Or.inl ⟨by rfl, fun _ _ => by rfl⟩) (by assumption) ?_
    simp only [Act.put, List.setIfInBounds_toArray, List.set_cons_zero, List.set_cons_succ]
    refine wpAnyH_takeD (i := 3) (d := some 45) (v := .pointer (some ⟨w.heap.size, 7, none⟩)) rfl rfl (by kernel_rfl) (by kernel_rfl) (by kernel_rfl) (fun _ _ _ h => h) (Or.inl ⟨by rfl, fun _ _ => by rfl⟩) (by assumption) ?_
    simp only [Act.put, List.setIfInBounds_toArray, List.set_cons_zero, List.set_cons_succ]
    refine wpAnyH_takeD (i := 4) (d := some 46) (v := .bool true) rfl rfl (by kernel_rfl) (by kernel_rfl) (by kernel_rfl) (fun _ _ _ h => h) (Or.inl ⟨by rfl, fun wx hx => by (have q : wx.cell? ⟨w.heap.size, 7, none⟩ = some (.bool x.closed) := hx.1.2.1 7 (by omega)); (rw [Hc.out] at q); go_simp⟩) (by assumption) ?_
    simp only [Act.put, List.setIfInBounds_toArray, List.set_cons_zero, List.set_cons_succ]
    refine wpAnyH_takeD (i := 5) (d := some 47) (v := .bool true) rfl rfl (by kernel_rfl) (by kernel_rfl) (by kernel_rfl) (fun _ _ _ h => h) (Or.inl ⟨by rfl, fun _ _ => by rfl⟩) (by assumption) ?_
    simp only [Act.put, List.setIfInBounds_toArray, List.set_cons_zero, List.set_cons_succ]
    refine wpAnyH_takeD (i := 6) (d := some 48) (v := .bool true) rfl rfl (by kernel_rfl) (by kernel_rfl) (by kernel_rfl) (fun _ _ _ h => h) (Or.inl ⟨by rfl, fun _ _ => by rfl⟩) (by assumption) ?_
    simp only [Act.put, List.setIfInBounds_toArray, List.set_cons_zero, List.set_cons_succ]
    refine wpAnyH_takeD (i := 7) (d := some 49) (v := .pointer (some ⟨w.heap.size, 6, none⟩)) rfl rfl (by kernel_rfl) (by kernel_rfl) (by kernel_rfl) (fun _ _ _ h => h) (Or.inl ⟨by rfl, fun _ _ => by rfl⟩) (by assumption) ?_
    simp only [Act.put, List.setIfInBounds_toArray, List.set_cons_zero, List.set_cons_succ]
    refine wpAnyH_takeD (i := 8) (d := some 50) (v := .pointer (some ⟨w.heap.size, 8, none⟩)) rfl rfl (by kernel_rfl) (by kernel_rfl) (by kernel_rfl) (fun _ _ _ h => h) (Or.inl ⟨by rfl, fun _ _ => by rfl⟩) (by assumption) ?_
    simp only [Act.put, List.setIfInBounds_toArray, List.set_cons_zero, List.set_cons_succ]
    refine wpAnyH_takeD (i := 9) (d := some 51) (v := .agg [.int .i64 x.face, .int .i64 x.pa, .int .i64 x.pb, .int .i64 x.pc].toArray) rfl rfl (by kernel_rfl) (by kernel_rfl) (by kernel_rfl) (fun _ _ _ h => h) (pl_yields (by rfl) _ rfl w.heap.size rfl x _ _ (fun _ h => h.1)) (by assumption) ?_
    simp only [Act.put, List.setIfInBounds_toArray, List.set_cons_zero, List.set_cons_succ]
    refine wpAnyH_takeD (i := 10) (d := some 52) (v := .agg #[.int .i64 0, .int .i64 0, .int .i64 0, .int .i64 0]) rfl rfl (by kernel_rfl) (by kernel_rfl) (by kernel_rfl) (fun _ _ _ h => h) (Or.inl ⟨by rfl, fun _ _ => by go_simp⟩) (by assumption) ?_
    simp only [Act.put, List.setIfInBounds_toArray, List.set_cons_zero, List.set_cons_succ]
    refine wpAnyH_takeD (i := 11) (d := some 53) (v := .bool true) rfl rfl (by kernel_rfl) (by kernel_rfl) (by kernel_rfl) (fun _ _ _ h => h) (Or.inl ⟨by rfl, fun wx _ => by (go_simp; exact fun a1 a2 a3 a4 => Hpl.out ⟨a1, a2, a3, a4⟩)⟩) (by assumption) ?_
    simp only [Act.put, List.setIfInBounds_toArray, List.set_cons_zero, List.set_cons_succ]
    refine wpAnyH_takeD (i := 12) (d := some 54) (v := .bool true) rfl rfl (by kernel_rfl) (by kernel_rfl) (by kernel_rfl) (fun _ _ _ h => h) (Or.inl ⟨by rfl, fun _ _ => by rfl⟩) (by assumption) ?_
    simp only [Act.put, List.setIfInBounds_toArray, List.set_cons_zero, List.set_cons_succ]
    refine wpAnyH_takeD (i := 13) (d := some 55) (v := .bool true) rfl rfl (by kernel_rfl) (by kernel_rfl) (by kernel_rfl) (fun _ _ _ h => h) (Or.inl ⟨by rfl, fun _ _ => by rfl⟩) (by assumption) ?_
    simp only [Act.put, List.setIfInBounds_toArray, List.set_cons_zero, List.set_cons_succ]
    refine wpAnyH_takeD (i := 14) (d := some 56) (v := undef) rfl rfl (by kernel_rfl) (by kernel_rfl) (by kernel_rfl) (fun _ _ _ h => h) (Or.inr ⟨by rfl, rfl⟩) (by assumption) ?_
    simp only [Act.put, List.setIfInBounds_toArray, List.set_cons_zero, List.set_cons_succ]
    refine wpAnyH_takeD (i := 15) (d := some 57) (v := undef) rfl rfl (by kernel_rfl) (by kernel_rfl) (by kernel_rfl) (fun _ _ _ h => h) (Or.inr ⟨by rfl, rfl⟩) (by assumption) ?_
    simp only [Act.put, List.setIfInBounds_toArray, List.set_cons_zero, List.set_cons_succ]
    refine wpAnyH_takeD (i := 16) (d := some 58) (v := undef) rfl rfl (by kernel_rfl) (by kernel_rfl) (by kernel_rfl) (fun _ _ _ h => h) (Or.inr ⟨by rfl, rfl⟩) (by assumption) ?_
    simp only [Act.put, List.setIfInBounds_toArray, List.set_cons_zero, List.set_cons_succ]
    refine wpAnyH_takeD (i := 17) (d := some 59) (v := undef) rfl rfl (by kernel_rfl) (by kernel_rfl) (by kernel_rfl) (fun _ _ _ h => h) (Or.inr ⟨by rfl, rfl⟩) (by assumption) ?_
    simp only [Act.put, List.setIfInBounds_toArray, List.set_cons_zero, List.set_cons_succ]
    refine wpAnyH_takeD (i := 18) (d := some 60) (v := undef) rfl rfl (by kernel_rfl) (by kernel_rfl) (by kernel_rfl) (fun _ _ _ h => h) (Or.inr ⟨by rfl, rfl⟩) (by assumption) ?_
    simp only [Act.put, List.setIfInBounds_toArray, List.set_cons_zero, List.set_cons_succ]
    refine wpAnyH_takeD (i := 19) (d := some 61) (v := .bool true) rfl rfl (by kernel_rfl) (by kernel_rfl) (by kernel_rfl) (fun _ _ _ h => h) (Or.inl ⟨by rfl, fun _ _ => by rfl⟩) (by assumption) ?_
    simp only [Act.put, List.setIfInBounds_toArray, List.set_cons_zero, List.set_cons_succ]
    refine wpAnyH_takeD (i := 20) (d := some 41) (v := .bool true) rfl rfl (by kernel_rfl) (by kernel_rfl) (by kernel_rfl) (fun _ _ _ h => h) (Or.inl ⟨by rfl, fun _ _ => by rfl⟩) (by assumption) ?_
    simp only [Act.put, List.setIfInBounds_toArray, List.set_cons_zero, List.set_cons_succ]
    refine wpAnyH_done (by kernel_rfl) ?_ _
    go_wp2_with fail
    go_ret
    exact ⟨by rw [E7.out Hno.out (Hst.out.2 (Or.inl ⟨Hc.out, Hpl.out⟩))]; rfl, hHeld.2⟩

theorem check_any (x : Ev) (bv cv : Value) (w : World) (hE : Env w) (hp : EvParts 0 w x bv cv) :
    Calls Tryz.prog 28 #[x.val bv cv] w (CheckIs x w) := by
  by_cases hk : kindBad x
  · exact check_kind x bv cv w hp hk
  have hk' := hk
  unfold kindBad at hk'
  by_cases h4 : x.kind = 4
  · cases hn : nameOk x.name with
    | false => exact check_name x bv cv w hp h4 (by omega) (by omega) hn
    | true =>
      cases hc : x.closed with
      | false => exact check_open x bv cv w hE hp h4 (by omega) (by omega) hn hc
      | true =>
        by_cases hpl : x.noPlace
        · exact check_shut x bv cv w hE hp h4 (by omega) (by omega) hn hc hpl
        · exact check_place x bv cv w hE hp h4 (by omega) (by omega) hn hc hpl
  · exact check_no x bv cv w hE hp (by omega) (by omega) h4

end Go.Proofs.YtobaoekibnloiaaGreatDoor
