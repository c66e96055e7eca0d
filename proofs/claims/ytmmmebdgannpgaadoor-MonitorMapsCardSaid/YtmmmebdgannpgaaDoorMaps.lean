/- MonitorMaps answers true at every field. No conditions. -/
import Derived.Test.YtmmmebdgannpgaaDoorFrac
namespace Go.Proofs.YtmmmebdgannpgaaDoor
open Go Go.RowKit

/-- How many blanks. -/
def cnt (l : List UInt8) : Nat := (l.filter fun c => c == 32).length
theorem cnt_append (a b : List UInt8) : cnt (a ++ b) = cnt a + cnt b := by unfold cnt; simp
theorem cnt_snoc (l : List UInt8) (c : UInt8) : cnt (l ++ [c]) = cnt l + if (c.toNat : Int) = 32 then 1 else 0 := by
  rw [cnt_append]
  have : cnt [c] = if (c.toNat : Int) = 32 then 1 else 0 := by
    unfold cnt
    by_cases h : c = 32
    · subst h; rfl
    · have : ¬ (c.toNat : Int) = 32 := by
        intro h2; apply h; exact UInt8.toNat_inj.1 (by have : c.toNat = 32 := by omega
                                                       rw [this]; rfl)
      rw [if_neg this]; simp [h]
  rw [this]
theorem cnt_le (l : List UInt8) : cnt l ≤ l.length := List.length_filter_le _ _
theorem decDigits_cnt (u : Nat) : cnt (Lib.decDigits u) = 0 := by
  induction u using Nat.strongRecOn with
  | ind u ih =>
    unfold Lib.decDigits
    have dig : ∀ x, x < 10 → cnt [UInt8.ofNat (48 + x)] = 0 := fun x hx => (by decide : ∀ y : Fin 10, cnt [UInt8.ofNat (48 + y.1)] = 0) ⟨x, hx⟩
    split
    · next h => exact dig u h
    · next h => rw [cnt_append, ih (u / 10) (by omega), dig (u % 10) (by omega)]
theorem itoa_cnt (n : Int) : cnt (Lib.itoa n) = 0 := by
  unfold Lib.itoa
  split
  · have : cnt (45 :: Lib.decDigits n.natAbs) = cnt [45] + cnt (Lib.decDigits n.natAbs) := cnt_append [45] _
    rw [this, decDigits_cnt]; rfl
  · exact decDigits_cnt _
theorem words_cnt (a : List UInt8) (ss : List (List UInt8)) (hs : ∀ s ∈ ss, s ≠ [] ∧ cnt s = 0) : (a ≠ [] → cnt (wordsOf a ss) = cnt a + ss.length) ∧ (a = [] → ss ≠ [] → cnt (wordsOf a ss) + 1 = ss.length) := by
  induction ss generalizing a with
  | nil => exact ⟨fun _ => rfl, fun _ h => absurd rfl h⟩
  | cons x l ih =>
    obtain ⟨hx, hc⟩ := hs x (by simp)
    have hl := fun s hs' => hs s (List.mem_cons_of_mem x hs')
    constructor
    · intro ha
      unfold wordsOf
      rw [if_neg ha, (ih _ hl).1 (by simp)]
      have : cnt (a ++ 32 :: x) = cnt a + (cnt [32] + cnt x) := by rw [show a ++ 32 :: x = a ++ ([32] ++ x) by simp, cnt_append, cnt_append]
      rw [this, hc, show cnt [32] = 1 by rfl]; simp; omega
    · intro ha _
      unfold wordsOf
      rw [if_pos ha, (ih _ hl).1 hx, hc]; simp
theorem line_cnt (zs : List Int) (k : Nat) (h : 10 * k < zs.length) : cnt (lineOf zs k) + 1 = min 10 (zs.length - 10 * k) := by
  have hl : (pieceW zs k).length = min 10 (zs.length - 10 * k) := by unfold pieceW; simp
  rw [← hl]
  unfold lineOf
  refine (words_cnt [] (pieceW zs k) (fun s hs => ?_)).2 rfl (by intro h2; rw [h2] at hl; simp at hl; omega)
  unfold pieceW at hs
  rw [List.mem_map] at hs
  obtain ⟨z, _, rfl⟩ := hs
  exact ⟨itoa_ne _, itoa_cnt _⟩
theorem line_len (zs : List Int) (k : Nat) (hz : ∀ z ∈ zs, I64 z) : (lineOf zs k).length ≤ 1000000 := by
  have h1 := wordsOf_len [] (pieceW zs k)
  have h2 : ∀ l : List (List UInt8), (∀ s ∈ l, s.length ≤ 21) → (l.map (fun s => s.length + 1)).sum ≤ 22 * l.length := by
    intro l
    induction l with
    | nil => simp
    | cons x l ih => intro h; have := h x (by simp); have := ih (fun s hs => h s (by simp [hs])); simp only [List.map_cons, List.sum_cons, List.length_cons]; omega
  have h3 := h2 (pieceW zs k) (fun s hs => by
    unfold pieceW at hs
    rw [List.mem_map] at hs
    obtain ⟨z, hzm, rfl⟩ := hs
    have := hz z (List.mem_of_mem_drop (List.mem_of_mem_take hzm))
    unfold I64 at this
    exact Lib.itoa_length_le _ (by omega) (by omega))
  have hl : (pieceW zs k).length ≤ 10 := by unfold pieceW; simp; omega
  unfold lineOf
  simp only [List.length_nil] at h1
  omega
theorem take_snoc (s : ByteArray) (k : Nat) (h : k < s.size) : s.data.toList.take (k + 1) = s.data.toList.take k ++ [s[k]] := by
  rw [List.take_succ_eq_append_getElem (by simpa using h)]; rfl

set_option maxRecDepth 100000 in
set_option maxHeartbeats 4000000 in
theorem maps_short (v : Value) (zs : List Int) (w : World) (hT : Tab w) (hI : IntsIn w.heap.size w v zs) (hz : ∀ z ∈ zs, I64 z) (hlen : zs.length ≤ 300) :
    Calls Tryd.prog 3 #[v] w fun e w' => e = .returned (.bool true) ∧ Below w.heap.size w w' := by
  obtain ⟨va, vc, rfl⟩ : ∃ a c, v = .slice a zs.length c := by rcases hI with ⟨_, _, e, e2⟩ | ⟨b, off, cap, e, _⟩; exact ⟨_, _, by rw [e, e2]; rfl⟩; exact ⟨_, _, e⟩
  have HA := Lib.hid (awake_any w hT)
  have HM := Lib.hid (fun w' (hb : Below w.heap.size w w') => map_any _ zs w' (hT.below hb) (by
    rcases hI with h | ⟨b, off, cap, e, h1, h2, h3, h4⟩
    · exact .inl h
    · exact .inr ⟨b, off, cap, e, h1, h2, Nat.lt_of_lt_of_le h3 hb.size, fun j hj => (hb.cell (p := ⟨b, off + j, none⟩) h3).trans (h4 j hj)⟩) hz hlen)
  have Hlc := Lib.hid (fun k h => line_cnt zs k h)
  have Hll := Lib.hid (fun k => line_len zs k hz)
  generalize hm : zs.length = m at *
  obtain ⟨N, hN⟩ : ∃ N, (m + 9) / 10 = N := ⟨_, rfl⟩
  unfold NewMap at HM
  rw [hm, hN] at HM
  have hN1 : N ≤ 30 := by omega
  clear hI hT hz
  go_enter Tryd.func3, Tryd.ntmps3
  go_wp2_with fail
  refine HA.out.mono ?_
  rintro e w1 ⟨rfl, hb1⟩
  have HB1 := Lib.hid hb1
  clear hb1
  go_wp2_with fail
  refine (HM.out w1 HB1.out).mono ?_
  rintro e w2 ⟨u, rfl, hown, hb2⟩
  have HB2 := Lib.hid (below_then HB1.out hb2)
  obtain ⟨ua, uc, rfl, hcell⟩ : ∃ a c, u = .slice a N c ∧ Hid (∀ k, k < N → ∃ g, a = some (⟨g, 0, none⟩ : Addr) ∧ w2.cell? ⟨g, k, none⟩ = some (.string ⟨(lineOf zs k).toArray⟩)) := by
    have hown' := hown
    rcases hown.2 with ⟨e, h0⟩ | ⟨g, cap, cur, e, _⟩
    · exact ⟨none, 0, by rw [e, h0], fun k hk => by omega⟩
    · refine ⟨_, _, e, fun k hk => ⟨g, rfl, ?_⟩⟩
      rw [e] at hown'
      have := World.ownsRow.cellAt hown' k (by omega)
      rw [this]; unfold linesV; simp [hk]
  clear hown hb2
  go_wp2_with fail
  go_loop [4, 18] (fun a x => ∃ k : Nat, k ≤ N ∧ x = .int .i64 k ∧ a = .int .i64 ((min (10 * k) m : Nat) : Int)) (fun _ x => (N - intOf x).toNat)
  case atStart => exact ⟨0, by omega, rfl, by simp⟩
  case round =>
    obtain ⟨k, hk, rfl, rfl⟩ := hrel
    by_cases hlt : k < N
    · obtain ⟨g, rfl, hck⟩ := hcell.out k hlt
      have hlc := Hlc.out k (by omega)
      have hll := Hll.out k
      obtain ⟨s, hs⟩ : ∃ s : ByteArray, s = ⟨(lineOf zs k).toArray⟩ := ⟨_, rfl⟩
      have hsl : s.data.toList = lineOf zs k := by rw [hs]
      rw [← hs] at hck
      rw [← hsl] at hlc hll
      have hss : s.size = s.data.toList.length := (Array.length_toList).symm
      have Hlc2 := Lib.hid hlc
      have Hss := Lib.hid hss
      have hs6 : s.size ≤ 1000000 := by omega
      clear hs hsl hlc hll hss
      go_wp2_with fail
      go_loop [7, 8] (fun c y => ∃ j : Nat, j ≤ s.size ∧ y = .int .i64 j ∧ c = .int .i64 ((cnt (s.data.toList.take j) : Int) + 1)) (fun _ y => (s.size - intOf y).toNat)
      case atStart => exact ⟨0, by omega, rfl, rfl⟩
      case round =>
        obtain ⟨j, hj, rfl, rfl⟩ := hrel
        have hcb : cnt (s.data.toList.take j) ≤ 1000000 := Nat.le_trans (cnt_le _) (by rw [List.length_take]; omega)
        by_cases hltj : j < s.size
        · have HSn := Lib.hid (cnt_snoc (s.data.toList.take j) s[j])
          rw [← take_snoc s j hltj] at HSn
          generalize cnt (s.data.toList.take j) = c0 at *
          generalize hc2 : cnt (s.data.toList.take (j + 1)) = c2 at *
          have Hc2 := Lib.hid hc2
          clear hc2
          by_cases h32 : (s[j].toNat : Int) = 32
          · have hb32 : ((s[j].toNat : Int) == 32) = true := by simpa using h32
            have Hcc := Lib.hid (HSn.out.trans (by rw [if_pos h32]))
            clear h32
            go_wp2_with fail
            go_round
            case rel => exact ⟨j + 1, by omega, by go_num, by rw [Hc2.out, Hcc.out]; go_num⟩
            case measure => simp [intOf]; omega
          · have hb32 : ((s[j].toNat : Int) == 32) = false := by simpa using h32
            have Hcc := Lib.hid (HSn.out.trans (by rw [if_neg h32]))
            clear h32
            go_wp2_with fail
            go_round
            case rel => exact ⟨j + 1, by omega, by go_num, by rw [Hc2.out, Hcc.out]; go_num⟩
            case measure => simp [intOf]; omega
        · obtain rfl : j = s.size := by omega
          have Hc : Hid (cnt (s.data.toList.take s.size) + 1 = min 10 (m - 10 * k)) := by unfold Hid; rw [List.take_of_length_le (by have := Hss.out; omega)]; exact Hlc2.out
          have hc' := Hc.out
          generalize cnt (s.data.toList.take s.size) = c0 at *
          have Hsum : Hid (min (10 * k) m + (c0 + 1) = min (10 * (k + 1)) m) := by unfold Hid; omega
          have b1 : (c0 : Int) + 1 ≤ 10 := by omega
          have hs300 : min (10 * k) m ≤ 300 := by omega
          generalize hq : min (10 * k) m = q at *
          clear hq hc'
          rcases Nat.lt_or_ge (k + 1) N with hk1 | hk1
          · have h10 : c0 + 1 = 10 := by have := Hc.out; omega
            obtain rfl : c0 = 9 := by omega
            clear h10
            go_wp2_with fail
            go_round
            case rel => exact ⟨k + 1, by omega, by go_num, by rw [← Hsum.out]; go_num⟩
            case measure => simp [intOf]; omega
          · have hkN : k + 1 = N := by omega
            have b2 : (N : Int) - 1 ≤ (k : Int) := by omega
            rcases Nat.lt_or_ge (c0 + 1) 10 with h9 | h9
            · go_wp2_with fail
              go_round
              case rel => exact ⟨k + 1, by omega, by go_num, by rw [← Hsum.out]; go_num⟩
              case measure => simp [intOf]; omega
            · obtain rfl : c0 = 9 := by omega
              go_wp2_with fail
              go_round
              case rel => exact ⟨k + 1, by omega, by go_num, by rw [← Hsum.out]; go_num⟩
              case measure => simp [intOf]; omega
    · obtain rfl : k = N := by omega
      have hmin : min (10 * k) m = m := by omega
      rw [hmin]
      have b1 : ((m : Int) + 9) / 10 = (k : Int) := by omega
      clear hmin
      go_wp2_with fail
      go_ret
      exact ⟨rfl, HB2.out⟩
end Go.Proofs.YtmmmebdgannpgaaDoor
