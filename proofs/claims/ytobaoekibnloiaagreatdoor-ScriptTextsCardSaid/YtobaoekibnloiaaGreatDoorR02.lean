/- Part 2 of the proof: laws on memory and what functions of the program return. No conditions but those that each theorem names. -/
import Derived.Test.YtobaoekibnloiaaGreatDoorR01
import Derived.Deep.RegionWith
import Derived.Lib.SplitLaws
import Derived.Lib.IndexMore
import Derived.Lib.Join
set_option linter.unusedVariables false
set_option linter.unusedSimpArgs false
/- The reference's long, digits and decimal. -/
namespace Go.Proofs.YtobaoekibnloiaaGreatDoor
open Go Go.RowKit

theorem rlong_any (n : Int) (w : World) :
    Calls Tryz.prog 59 #[.int .i64 n] w fun e w' => e = .returned (.bool (decide (longI n))) ∧ w' = w := by
  obtain ⟨q, hq⟩ : ∃ q, q = decide (longI n) := ⟨_, rfl⟩
  rw [← hq]
  have Hq := Lib.hid hq
  clear hq
  by_cases h1 : 999999999999999999 < n
  · go_enter Tryz.func59, Tryz.ntmps59
    go_wp2_with fail
    go_ret
    exact ⟨by rw [Hq.out, decide_eq_true (show longI n from Or.inl h1)]; rfl, rfl⟩
  · by_cases h2 : n < -999999999999999999
    · go_enter Tryz.func59, Tryz.ntmps59
      go_wp2_with fail
      go_ret
      exact ⟨by rw [Hq.out, decide_eq_true (show longI n from Or.inr h2)]; rfl, rfl⟩
    · go_enter Tryz.func59, Tryz.ntmps59
      go_wp2_with fail
      go_ret
      exact ⟨by rw [Hq.out, decide_eq_false (show ¬ longI n by unfold longI; omega)]; rfl, rfl⟩

theorem conv_one (w : World) (c : UInt8) {z : Int} (hz : z = c.toNat) : (convert 22 9 (.slice (some ⟨w.heap.size, 0, none⟩) 1 1)).run Tryz.prog (w.alloc (.cells #[.int .u8 z] 5)) = .ok (.string ⟨#[c]⟩) (w.alloc (.cells #[.int .u8 z] 5)) := by
  subst hz
  exact run_convert_bytes_back (P := Tryz.prog) _ 22 9 5 ⟨w.heap.size, 0, none⟩ 1 [c] Tryz.underlying22 Tryz.underlying5 Tryz.underlying9 (fun j hj => by
    obtain rfl : j = 0 := by simp at hj; omega
    exact World.news_of_block (cs := #[.int .u8 c.toNat]) (t := 5) (fr := (0, 0)) (heap_alloc_new w _) 0 _ rfl)

theorem one_cell (w : World) (z : Int) : ((w.alloc (.cells #[.int .u8 z] 5)).drew).cell? ⟨w.heap.size, 0, none⟩ = some (.int .u8 z) := by simp
theorem conv_then {w w' : World} {H : Nat} {c : UInt8} {z : Int} (hz : z = c.toNat) (hb : Below w.heap.size w w') (hc : w.cell? ⟨H, 0, none⟩ = some (.int .u8 z)) :
    (convert 22 9 (.slice (some ⟨H, 0, none⟩) 1 1)).run Tryz.prog w' = .ok (.string ⟨#[c]⟩) w' := by
  subst hz
  exact run_convert_bytes_back (P := Tryz.prog) _ 22 9 5 ⟨H, 0, none⟩ 1 [c] Tryz.underlying22 Tryz.underlying5 Tryz.underlying9 (fun j hj => by
    obtain rfl : j = 0 := by simp at hj; omega
    exact cell_then hb hc)

set_option maxHeartbeats 1000000 in
set_option maxRecDepth 100000 in
theorem rdigits_any (u : Nat) (hu : u < 18446744073709551616) (w : World) :
    Calls Tryz.prog 60 #[.int .u64 u] w fun e w' => e = .returned (.string ⟨(Lib.decDigits u).toArray⟩) ∧ Below w.heap.size w w' := by
  induction u using Nat.strongRecOn generalizing w with
  | ind u ih =>
    by_cases h : u < 10
    · rw [Lib.decDigits_one h]
      have hd := dig_nat u h
      generalize UInt8.ofNat (48 + u) = c at *
      have hc := conv_one w c (z := (48 : Int) + u) (by rw [hd]; omega)
      clear hd
      go_enter Tryz.func60, Tryz.ntmps60
      go_wp2_with fail
      go_ret
      exact ⟨rfl, (Below.refl _ _).alloc (Nat.le_refl _) _⟩
    · have hds : Lib.decDigits u = Lib.decDigits (u / 10) ++ [UInt8.ofNat (48 + u % 10)] := by rw [Lib.decDigits, dif_neg h]
      have hd := dig_nat (u % 10) (by omega)
      rw [hds]
      have e1 : IntKind.u64.wrap ((u : Int) / 10) = ((u / 10 : Nat) : Int) := by
        rw [IntWalk.u64_in _ (by omega)]; omega
      have hrec : ∀ w, Calls Tryz.prog 60 #[.int .u64 (IntKind.u64.wrap ((u : Int) / 10))] w fun e w' => e = .returned (.string ⟨(Lib.decDigits (u / 10)).toArray⟩) ∧ Below w.heap.size w w' := fun w => by
        rw [e1]; exact ih (u / 10) (by omega) (by omega) w
      have Hrec := Lib.hid hrec
      generalize UInt8.ofNat (48 + u % 10) = c at *
      have ez : IntKind.u8.wrap (IntKind.u64.wrap (48 + (u : Int).tmod 10)) = (c.toNat : Int) := by
        rw [Int.tmod_eq_emod_of_nonneg (by omega), IntWalk.u64_in _ (by omega), IntWalk.u8_in _ (by omega), hd]; omega
      have hc := fun w => conv_one w c ez
      have hc2 : ∀ w : World, (convert 22 9 (.slice (some ⟨w.heap.size, 0, none⟩) 1 1)).run Tryz.prog (w.alloc (.cells #[.int .u8 (IntKind.u8.wrap (IntKind.u64.wrap (48 + (u : Int).tmod 10)))] 5)).drew = .ok (.string ⟨#[c]⟩) (w.alloc (.cells #[.int .u8 (IntKind.u8.wrap (IntKind.u64.wrap (48 + (u : Int).tmod 10)))] 5)).drew := fun w => conv_then ez (Below.refl _ _) (one_cell w _)
      have Ez := Lib.hid ez
      clear hd hrec hds ih e1 ez
      have hdn : (Lib.decDigits (u / 10)).length ≤ 20 := by rw [Lib.decDigits_length]; exact Lib.nDigits_le20 _ (by omega)
      generalize Lib.decDigits (u / 10) = ds at *
      have hdl : ¬ 9223372036854775807 < ds.length + 1 := by omega
      go_enter Tryz.func60, Tryz.ntmps60
      go_wp2_with fail
      go_region_with (go_at_call 60; ((with_reducible refine (Hrec.out _).mono ?_); rintro e w' ⟨rfl, hb⟩; (first | (have hcv := conv_then (H := w.heap.size) Ez.out hb (one_cell w _); have hbF : Below w.heap.size w w' := below_then ((Below.refl _ _).alloc (Nat.le_refl _) _).drew hb) | (have hbF : Below w.heap.size w w' := below_then (Below.refl _ _).drew hb))))
      all_goals
        have hres : (⟨ds.toArray⟩ ++ ⟨#[c]⟩ : ByteArray) = ⟨(ds ++ [c]).toArray⟩ := by apply ByteArray.ext; simp [ByteArray.data_append]
        have Hres := Lib.hid hres
        clear hres
        go_wp2_with fail
        go_ret
        exact ⟨by rw [← Hres.out]; rfl, by first | exact hbF | exact hbF.alloc hbF.size _⟩
end Go.Proofs.YtobaoekibnloiaaGreatDoor
/- The reference's decimal. -/
namespace Go.Proofs.YtobaoekibnloiaaGreatDoor
open Go Go.RowKit

set_option maxHeartbeats 1000000 in
set_option maxRecDepth 100000 in
theorem rdecimal_any (n : Int) (hn : I64 n) (w : World) :
    Calls Tryz.prog 40 #[.int .i64 n] w fun e w' => e = .returned (.string (istr n)) ∧ Below w.heap.size w w' := by
  have hlo := hn.1
  have hhi := hn.2
  by_cases h : n < 0
  · have e1 : IntKind.u64.wrap n = n + 18446744073709551616 := by simp [IntKind.wrap, IntKind.bits, IntKind.signed]; omega
    have e2 : IntKind.u64.wrap (-(n + 18446744073709551616)) = ((n.natAbs : Nat) : Int) := by simp [IntKind.wrap, IntKind.bits, IntKind.signed]; omega
    have hs : istr n = ⟨#[45]⟩ ++ ⟨(Lib.decDigits n.natAbs).toArray⟩ := by
      unfold istr Lib.itoa
      rw [if_pos h]
      apply ByteArray.ext; simp [ByteArray.data_append]
    have hd := fun w => rdigits_any n.natAbs (by omega) w
    have Hd := Lib.hid hd
    have Hs := Lib.hid hs
    have hdn : (Lib.decDigits n.natAbs).length ≤ 20 := by rw [Lib.decDigits_length]; exact Lib.nDigits_le20 _ (by omega)
    clear hd hs
    generalize Lib.decDigits n.natAbs = ds at *
    generalize n.natAbs = m at *
    go_enter Tryz.func40, Tryz.ntmps40
    go_wp2_with fail
    refine (Hd.out _).mono ?_
    rintro e w1 ⟨rfl, hb⟩
    have hadd : ∀ w', (Op.stringOp .add ⟨#[45]⟩ ⟨ds.toArray⟩).run Tryz.prog w' = .ok (.string (⟨#[45]⟩ ++ ⟨ds.toArray⟩)) w' := fun w' => run_string_add_sum _ _ _ (by simp [ByteArray.size]; omega)
    clear e1 e2
    go_wp2_with fail
    go_ret
    exact ⟨by rw [Hs.out]; rfl, hb⟩
  · obtain ⟨u, rfl⟩ : ∃ u : Nat, n = u := ⟨n.toNat, by omega⟩
    have e1 : IntKind.u64.wrap (u : Int) = u := IntWalk.u64_in _ (by omega)
    have hs : istr (u : Int) = ⟨(Lib.decDigits u).toArray⟩ := by
      unfold istr Lib.itoa
      rw [if_neg h]; rfl
    have Hs := Lib.hid hs
    have hd := fun w => rdigits_any u (by omega) w
    have Hd := Lib.hid hd
    clear hs hd
    generalize Lib.decDigits u = ds at *
    go_enter Tryz.func40, Tryz.ntmps40
    go_wp2_with fail
    refine (Hd.out _).mono ?_
    rintro e w1 ⟨rfl, hb⟩
    clear e1
    go_wp2_with fail
    go_ret
    exact ⟨by rw [Hs.out]; rfl, hb⟩
end Go.Proofs.YtobaoekibnloiaaGreatDoor
/- The words of the kinds of stations, both sides. -/
namespace Go.Proofs.YtobaoekibnloiaaGreatDoor
open Go Go.RowKit

def kLand : ByteArray := ⟨#[108, 97, 110, 100]⟩
def kShip : ByteArray := ⟨#[115, 104, 105, 112]⟩
def kBuoy : ByteArray := ⟨#[98, 117, 111, 121]⟩
theorem kinds_any (w : World) :
    Calls Tryz.prog 32 #[] w fun e w' => e = .returned (.slice (some ⟨w.heap.size, 0, none⟩) 4 4) ∧ w' = w.alloc (.cells #[.string ⟨#[]⟩, .string kLand, .string kShip, .string kBuoy] 9) := by
  go_enter Tryz.func32, Tryz.ntmps32
  go_wp2_with fail
  go_ret
  exact ⟨rfl, rfl⟩
theorem rkinds_any (w : World) :
    Calls Tryz.prog 61 #[] w fun e w' => e = .returned (.slice (some ⟨w.heap.size, 0, none⟩) 3 3) ∧ w' = w.alloc (.cells #[.string kLand, .string kShip, .string kBuoy] 9) := by
  go_enter Tryz.func61, Tryz.ntmps61
  go_wp2_with fail
  go_ret
  exact ⟨rfl, rfl⟩
end Go.Proofs.YtobaoekibnloiaaGreatDoor
/- The reference's words: a line cut at blanks. -/
namespace Go.Proofs.YtobaoekibnloiaaGreatDoor
open Go Go.RowKit

/-- The pieces up to byte k, and where the next one begins. -/
def accTo (c : UInt8) (s : ByteArray) : Nat → List ByteArray × Nat
  | 0 => ([], 0)
  | k + 1 => if k = s.size ∨ s.data.toList.getD k 0 = c then ((accTo c s k).1 ++ [s.extract (accTo c s k).2 k], k + 1) else accTo c s k
theorem accTo_le (c : UInt8) (s : ByteArray) : ∀ k, (accTo c s k).2 ≤ k ∧ (accTo c s k).1.length ≤ k
  | 0 => ⟨Nat.le_refl _, Nat.le_refl _⟩
  | k + 1 => by
    have := accTo_le c s k
    unfold accTo
    split
    · simp; omega
    · omega
theorem append_str {w : World} {base : Nat} {v : Value} {l : List ByteArray} (h : w.ownsRow base 9 1 v l.length (l.map Value.string)) (c : ByteArray) (hn : l.length ≤ 1000000000) (hb : base ≤ w.heap.size) (ty : TypeId) :
    ∃ (v' : Value) (w' : World), (Builtin.append_ #[29, 29] ty #[v, .slice (some ⟨w.heap.size, 0, none⟩) 1 1]).run Tryz.prog (w.alloc (.cells #[.string c] 9)) = .ok v' w' ∧
      w'.ownsRow base 9 1 v' (l ++ [c]).length ((l ++ [c]).map Value.string) ∧ Below base w w' := by
  have h1 := append_new 29 9 Tryz.underlying29 sinfo rfl (by decide) h [.string c] 1 rfl (by simp [Value.oneCell']) hn (by omega) (by decide) hb ty
  rw [List.map_append, List.length_append]
  exact h1

set_option maxHeartbeats 1000000 in
set_option maxRecDepth 100000 in
theorem rwords_any (s : ByteArray) (hss : s.size ≤ 1000000) (w : World) :
    Calls Tryz.prog 44 #[.string s] w fun e w' => ∃ v, e = .returned v ∧ w'.ownsRow w.heap.size 9 1 v (accTo 32 s (s.size + 1)).1.length ((accTo 32 s (s.size + 1)).1.map Value.string) ∧ Below w.heap.size w w' := by
  have HS := Lib.hid hss
  go_enter Tryz.func44, Tryz.ntmps44
  go_wp2_with fail
  go_loopw [3, 4, 5] (fun o f x wr => ∃ (k : Nat) (ov : Value), ov = o ∧ k ≤ s.size + 1 ∧ x = .int .i64 k ∧ f = .int .i64 ((accTo 32 s k).2 : Nat) ∧ Hid (wr.ownsRow w.heap.size 9 1 ov (accTo 32 s k).1.length ((accTo 32 s k).1.map Value.string)) ∧ Below w.heap.size w wr) (fun _ _ x _ => (s.size + 1 - intOf x).toNat)
  case atStart => exact ⟨0, _, rfl, by omega, rfl, rfl, World.ownsRow_nil _ _ _ _, Below.refl _ _⟩
  case round =>
    obtain ⟨k, ov, rfl, hk, rfl, rfl, hown, hBr⟩ := hrel
    by_cases hlt : k ≤ s.size
    · have hal := accTo_le 32 s k
      have hstep : accTo 32 s (k + 1) = if k = s.size ∨ s.data.toList.getD k 0 = 32 then ((accTo 32 s k).1 ++ [s.extract (accTo 32 s k).2 k], k + 1) else accTo 32 s k := rfl
      obtain ⟨v', w', hrun, hown', hB'⟩ := append_str hown.out (s.extract (accTo 32 s k).2 k) (by omega) hBr.size 29
      have Hstep := Lib.hid hstep
      have Hrun := Lib.hid hrun
      have Hown' := Lib.hid hown'
      clear hstep hrun hown'
      generalize accTo 32 s k = p at *
      obtain ⟨acc, f⟩ := p
      simp only at hal Hrun Hown' Hstep ⊢
      have hf := hal.1
      by_cases hks : k = s.size
      · subst hks
        go_wp2_with (at_builtin; refine wpList_append_run rfl _ _ _ rfl _ _ _ _ rfl rfl Hrun.out ?_)
        go_roundw
        case rel =>
          refine ⟨s.size + 1, v', rfl, by omega, by go_num, ?_, ?_, hBr.trans hB'⟩
          · rw [Hstep.out, if_pos (Or.inl rfl)]; rfl
          · unfold Hid; rw [Hstep.out, if_pos (Or.inl rfl)]; exact Hown'.out
        case measure => simp [intOf]
      · have hlt2 : k < s.size := by omega
        have hgd := getD_str s k hlt2
        have hcl := s[k].toNat_lt
        by_cases hc : s[k].toNat = 32
        · have hc8 : s[k] = 32 := UInt8.toNat_inj.1 (by rw [hc]; rfl)
          have Hc8 : Hid (s.data.toList.getD k 0 = 32) := hgd.trans hc8
          have hcI : ((s[k].toNat : Int) == 32) = true := by rw [hc]; rfl
          have hkI : ((k : Int) == s.size) = false := by simp; omega
          clear hgd hc8
          go_wp2_with (at_builtin; refine wpList_append_run rfl _ _ _ rfl _ _ _ _ rfl rfl Hrun.out ?_)
          go_roundw
          case rel =>
            refine ⟨k + 1, v', rfl, by omega, by go_num, ?_, ?_, hBr.trans hB'⟩
            · rw [Hstep.out, if_pos (Or.inr Hc8.out)]; rfl
            · unfold Hid; rw [Hstep.out, if_pos (Or.inr Hc8.out)]; exact Hown'.out
          case measure => simp [intOf]; omega
        · have Hc8 : Hid (¬ (k = s.size ∨ s.data.toList.getD k 0 = 32)) := by
            intro h
            rcases h with h | h
            · exact hks h
            · rw [hgd] at h; exact hc (by rw [h]; rfl)
          have hcI : ((s[k].toNat : Int) == 32) = false := by simp; omega
          have hkI : ((k : Int) == s.size) = false := by simp; omega
          clear hgd
          go_wp2_with fail
          go_roundw
          case rel => exact ⟨k + 1, ov, rfl, by omega, by go_num, by rw [Hstep.out, if_neg Hc8.out], by unfold Hid; rw [Hstep.out, if_neg Hc8.out]; exact hown.out, hBr⟩
          case measure => simp [intOf]; omega
    · obtain rfl : k = s.size + 1 := by omega
      go_wp2_with fail
      go_ret
      exact ⟨_, rfl, hown.out, hBr⟩
end Go.Proofs.YtobaoekibnloiaaGreatDoor
/- The reference's lines: a text cut at line feeds. -/
namespace Go.Proofs.YtobaoekibnloiaaGreatDoor
open Go Go.RowKit

set_option maxHeartbeats 1000000 in
set_option maxRecDepth 100000 in
theorem rlines_any (s : ByteArray) (hss : s.size ≤ 1000000) (w : World) :
    Calls Tryz.prog 23 #[.string s] w fun e w' => ∃ v, e = .returned v ∧ w'.ownsRow w.heap.size 9 1 v (accTo 10 s (s.size + 1)).1.length ((accTo 10 s (s.size + 1)).1.map Value.string) ∧ Below w.heap.size w w' := by
  have HS := Lib.hid hss
  go_enter Tryz.func23, Tryz.ntmps23
  go_wp2_with fail
  go_loopw [3, 4, 5] (fun o f x wr => ∃ (k : Nat) (ov : Value), ov = o ∧ k ≤ s.size ∧ x = .int .i64 k ∧ f = .int .i64 ((accTo 10 s k).2 : Nat) ∧ Hid (wr.ownsRow w.heap.size 9 1 ov (accTo 10 s k).1.length ((accTo 10 s k).1.map Value.string)) ∧ Below w.heap.size w wr) (fun _ _ x _ => (s.size + 1 - intOf x).toNat)
  case atStart => exact ⟨0, _, rfl, by omega, rfl, rfl, World.ownsRow_nil _ _ _ _, Below.refl _ _⟩
  case round =>
    obtain ⟨k, ov, rfl, hk, rfl, rfl, hown, hBr⟩ := hrel
    by_cases hlt : k < s.size
    · have hal := accTo_le 10 s k
      have hstep : accTo 10 s (k + 1) = if k = s.size ∨ s.data.toList.getD k 0 = 10 then ((accTo 10 s k).1 ++ [s.extract (accTo 10 s k).2 k], k + 1) else accTo 10 s k := rfl
      obtain ⟨v', w', hrun, hown', hB'⟩ := append_str hown.out (s.extract (accTo 10 s k).2 k) (by omega) hBr.size 29
      have Hstep := Lib.hid hstep
      have Hrun := Lib.hid hrun
      have Hown' := Lib.hid hown'
      clear hstep hrun hown'
      generalize accTo 10 s k = p at *
      obtain ⟨acc, f⟩ := p
      simp only at hal Hrun Hown' Hstep ⊢
      have hf := hal.1
      have hks : ¬ k = s.size := by omega
      · have hlt2 : k < s.size := hlt
        have hgd := getD_str s k hlt2
        have hcl := s[k].toNat_lt
        by_cases hc : s[k].toNat = 10
        · have hc8 : s[k] = 10 := UInt8.toNat_inj.1 (by rw [hc]; rfl)
          have Hc8 : Hid (s.data.toList.getD k 0 = 10) := hgd.trans hc8
          have hcI : ((s[k].toNat : Int) == 10) = true := by rw [hc]; rfl
          have hkI : ((k : Int) == s.size) = false := by simp; omega
          clear hgd hc8
          go_wp2_with (at_builtin; refine wpList_append_run rfl _ _ _ rfl _ _ _ _ rfl rfl Hrun.out ?_)
          go_roundw
          case rel =>
            refine ⟨k + 1, v', rfl, by omega, by go_num, ?_, ?_, hBr.trans hB'⟩
            · rw [Hstep.out, if_pos (Or.inr Hc8.out)]; rfl
            · unfold Hid; rw [Hstep.out, if_pos (Or.inr Hc8.out)]; exact Hown'.out
          case measure => simp [intOf]; omega
        · have Hc8 : Hid (¬ (k = s.size ∨ s.data.toList.getD k 0 = 10)) := by
            intro h
            rcases h with h | h
            · exact hks h
            · rw [hgd] at h; exact hc (by rw [h]; rfl)
          have hcI : ((s[k].toNat : Int) == 10) = false := by simp; omega
          have hkI : ((k : Int) == s.size) = false := by simp; omega
          clear hgd
          go_wp2_with fail
          go_roundw
          case rel => exact ⟨k + 1, ov, rfl, by omega, by go_num, by rw [Hstep.out, if_neg Hc8.out], by unfold Hid; rw [Hstep.out, if_neg Hc8.out]; exact hown.out, hBr⟩
          case measure => simp [intOf]; omega
    · obtain rfl : k = s.size := by omega
      have hal := accTo_le 10 s s.size
      have hstep : accTo 10 s (s.size + 1) = ((accTo 10 s s.size).1 ++ [s.extract (accTo 10 s s.size).2 s.size], s.size + 1) := if_pos (Or.inl rfl)
      have Hstep := Lib.hid hstep
      obtain ⟨v', w', hrun, hown', hB'⟩ := append_str hown.out (s.extract (accTo 10 s s.size).2 s.size) (by omega) hBr.size 29
      have Hrun := Lib.hid hrun
      have Hown' := Lib.hid hown'
      clear hstep hrun hown'
      generalize accTo 10 s s.size = p at *
      obtain ⟨acc, f⟩ := p
      simp only at hal Hrun Hown' Hstep
      have hf := hal.1
      go_wp2_with (at_builtin; refine wpList_append_run rfl _ _ _ rfl _ _ _ _ rfl rfl Hrun.out ?_)
      go_ret
      exact ⟨_, rfl, by rw [Hstep.out]; exact Hown'.out, hBr.trans hB'⟩
end Go.Proofs.YtobaoekibnloiaaGreatDoor
/- A text cut at a byte, plain: what the pieces are, that they join to the text, that strings.Split and the reference give them. No walk. -/
namespace Go.Proofs.YtobaoekibnloiaaGreatDoor
open Go

def cutL (c : UInt8) : List UInt8 → List (List UInt8)
  | [] => [[]]
  | x :: r => if x = c then [] :: cutL c r else match cutL c r with
    | h :: t => (x :: h) :: t
    | [] => [[x]]
theorem cutL_ne (c : UInt8) (l : List UInt8) : cutL c l ≠ [] := by
  cases l with
  | nil => simp [cutL]
  | cons x r =>
    unfold cutL
    split
    · simp
    · split <;> simp
theorem cutL_none {c : UInt8} : ∀ {l : List UInt8}, c ∉ l → cutL c l = [l]
  | [], _ => rfl
  | x :: r, h => by
    have h1 : x ≠ c := fun e => h (by simp [e])
    have h2 : c ∉ r := fun e => h (by simp [e])
    unfold cutL
    rw [if_neg h1, cutL_none h2]
theorem cutL_at {c : UInt8} : ∀ {p : List UInt8}, c ∉ p → ∀ q, cutL c (p ++ c :: q) = p :: cutL c q
  | [], _, q => by simp [cutL]
  | x :: r, h, q => by
    have h1 : x ≠ c := fun e => h (by simp [e])
    have h2 : c ∉ r := fun e => h (by simp [e])
    rw [List.cons_append, cutL, if_neg h1, cutL_at h2 q]
theorem join_tail (c : UInt8) (x : List UInt8) : ∀ (r : List (List UInt8)), r ≠ [] → Lib.join (x :: r) [c] = x ++ c :: Lib.join r [c]
  | [], h => absurd rfl h
  | y :: t, _ => by rw [Lib.join_cons, Lib.join_cons]; simp [Lib.joinTail]
theorem cutL_join (c : UInt8) : ∀ (ws : List (List UInt8)), ws ≠ [] → (∀ w ∈ ws, c ∉ w) → cutL c (Lib.join ws [c]) = ws
  | [], h, _ => absurd rfl h
  | [x], _, hn => by rw [Lib.join_one]; exact cutL_none (hn x (by simp))
  | x :: y :: t, _, hn => by
    rw [join_tail c x (y :: t) (by simp), cutL_at (hn x (by simp)), cutL_join c (y :: t) (by simp) (fun w hw => hn w (List.mem_cons_of_mem _ hw))]
theorem join_cutL (c : UInt8) : ∀ (l : List UInt8), Lib.join (cutL c l) [c] = l
  | [] => by simp [cutL, Lib.join_one]
  | x :: r => by
    have ih := join_cutL c r
    have hne := cutL_ne c r
    unfold cutL
    split
    · next h => rw [join_tail c [] _ hne, ih]; simp [h]
    · revert ih
      cases hq : cutL c r with
      | nil => exact absurd hq hne
      | cons a t =>
        intro ih
        simp only
        rw [Lib.join_cons] at ih ⊢
        rw [← ih]; rfl
theorem cutL_no (c : UInt8) : ∀ (l : List UInt8), ∀ w ∈ cutL c l, c ∉ w
  | [], w, h => by simp [cutL] at h; subst h; simp
  | x :: r, w, h => by
    have ih := cutL_no c r
    unfold cutL at h
    split at h
    · rcases List.mem_cons.1 h with rfl | h
      · simp
      · exact ih w h
    · next hx =>
      revert h ih
      cases hq : cutL c r with
      | nil => exact absurd hq (cutL_ne c r)
      | cons a t =>
        intro ih h
        rcases List.mem_cons.1 h with rfl | h
        · have := ih a (by simp)
          simp only [List.mem_cons, not_or]
          exact ⟨fun e => hx e.symm, this⟩
        · exact ih w (List.mem_cons_of_mem _ h)
theorem occ_one (l : List UInt8) (c : UInt8) (j : Nat) : Lib.occAt l [c] j = true ↔ l[j]? = some c := by
  unfold Lib.occAt
  rw [← List.head?_drop]
  cases l.drop j with
  | nil => simp [List.isPrefixOf]
  | cons x r => simp [List.isPrefixOf]; exact eq_comm
theorem splitK_cutL (c : UInt8) : ∀ (n : Nat) (l : List UInt8), l.length ≤ n → Lib.splitK [c] 0 (Lib.count l [c]) l = cutL c l := by
  intro n
  induction n with
  | zero =>
    intro l hl
    obtain rfl : l = [] := List.eq_nil_of_length_eq_zero (by omega)
    rfl
  | succ n ih =>
    intro l hl
    rcases Lib.index_spec l [c] with ⟨h, hno⟩ | ⟨i, h, hi, hocc, hfirst⟩
    · rw [Lib.count_miss h]
      have : c ∉ l := by
        intro hm
        obtain ⟨j, hj, e⟩ := List.getElem_of_mem hm
        have h1 := hno j (by omega)
        have h2 := (occ_one l c j).2 (by rw [List.getElem?_eq_getElem hj, e])
        rw [h1] at h2; cases h2
      rw [cutL_none this]; rfl
    · have hg := (occ_one l c i).1 hocc
      obtain ⟨hlt, e⟩ := List.getElem?_eq_some_iff.1 hg
      have hsplit : l = l.take i ++ c :: l.drop (i + 1) := by
        have e2 := List.take_append_drop i l
        rw [List.drop_eq_getElem_cons hlt, e] at e2
        exact e2.symm
      have hno : c ∉ l.take i := by
        intro hm
        obtain ⟨j, hj, e⟩ := List.getElem_of_mem hm
        have hj' : j < i := by rw [List.length_take] at hj; omega
        have h1 := hfirst j hj'
        have h2 := (occ_one l c j).2 (by rw [List.getElem_take] at e; rw [List.getElem?_eq_getElem (by omega), e])
        rw [h1] at h2; cases h2
      have hne : ¬ (Lib.index l [c] == -1) = true := fun e => by have := beq_iff_eq.1 e; omega
      have e1 : (Lib.index l [c]).toNat = i := by omega
      rw [Lib.count_hit (by simp) h, Nat.add_comm, Lib.splitK, if_neg hne, e1]
      simp only [List.length_singleton, Nat.add_zero]
      rw [ih (l.drop (i + 1)) (by rw [List.length_drop]; omega)]
      conv => rhs; rw [hsplit]
      rw [cutL_at hno]

def mkB (l : List UInt8) : ByteArray := ⟨l.toArray⟩
theorem mkB_data (l : List UInt8) : (mkB l).data.toList = l := rfl
theorem mkB_list (s : ByteArray) : mkB s.data.toList = s := by cases s; rfl
theorem map_mkB (ws : List ByteArray) : (ws.map (·.data.toList)).map mkB = ws := by
  rw [List.map_map]
  have : (mkB ∘ fun (x : ByteArray) => x.data.toList) = id := by funext s; exact mkB_list s
  rw [this, List.map_id]
/-- The pieces of a text. -/
def cutB (c : UInt8) (s : ByteArray) : List ByteArray := (cutL c s.data.toList).map mkB
theorem cutB_ne (c : UInt8) (s : ByteArray) : cutB c s ≠ [] := by unfold cutB; simpa using cutL_ne c _
theorem splitB_cut (c : UInt8) (s : ByteArray) : Lib.splitB ⟨#[c]⟩ 0 (Lib.countB s ⟨#[c]⟩) s = cutB c s := by
  have h := Lib.splitB_data ⟨#[c]⟩ 0 (Lib.countB s ⟨#[c]⟩) s
  have h2 := splitK_cutL c _ s.data.toList (Nat.le_refl _)
  have h3 : Lib.splitK (⟨#[c]⟩ : ByteArray).data.toList 0 (Lib.countB s ⟨#[c]⟩) s.data.toList = cutL c s.data.toList := h2
  rw [h3] at h
  unfold cutB
  rw [← h, map_mkB]
theorem extract_list (s : ByteArray) (i j : Nat) : s.extract i j = mkB ((s.data.toList.take j).drop i) := by
  cases s with | mk d =>
  apply ByteArray.ext
  apply Array.toList_inj.1
  simp [mkB, ByteArray.data_extract, List.drop_take]
theorem accTo_inv (c : UInt8) (s : ByteArray) : ∀ k, k ≤ s.size → (accTo c s k).2 ≤ k ∧ (∀ j, (accTo c s k).2 ≤ j → j < k → s.data.toList[j]? ≠ some c) ∧ (accTo c s k).1 ++ (cutL c (s.data.toList.drop (accTo c s k).2)).map mkB = cutB c s
  | 0, _ => ⟨Nat.le_refl _, fun _ _ h => absurd h (by omega), by simp [accTo, cutB]⟩
  | k + 1, h => by
    obtain ⟨h1, h2, h3⟩ := accTo_inv c s k (by omega)
    have hl : s.data.toList.length = s.size := Array.length_toList
    have hk : k < s.data.toList.length := by omega
    have hgd : s.data.toList.getD k 0 = s.data.toList[k] := by rw [List.getD_eq_getElem?_getD, List.getElem?_eq_getElem hk]; rfl
    unfold accTo
    by_cases hc : s.data.toList.getD k 0 = c
    · rw [if_pos (Or.inr hc)]
      refine ⟨Nat.le_refl _, fun j hj hlt => absurd hlt (by omega), ?_⟩
      rw [← h3, List.append_assoc]
      congr 1
      generalize (accTo c s k).2 = f at *
      have hsplit : s.data.toList.drop f = (s.data.toList.take k).drop f ++ c :: s.data.toList.drop (k + 1) := by
        have e2 : s.data.toList.drop f = (s.data.toList.take k ++ s.data.toList.drop k).drop f := by rw [List.take_append_drop]
        rw [e2, List.drop_append_of_le_length (by rw [List.length_take]; omega), List.drop_eq_getElem_cons hk, ← hgd, hc]
      have hno : c ∉ (s.data.toList.take k).drop f := by
        intro hm
        obtain ⟨j, hj, e⟩ := List.getElem_of_mem hm
        rw [List.length_drop, List.length_take] at hj
        refine h2 (f + j) (by omega) (by omega) ?_
        rw [List.getElem_drop, List.getElem_take] at e
        rw [List.getElem?_eq_getElem (by omega), e]
      rw [hsplit, cutL_at hno, extract_list]; rfl
    · rw [if_neg (by rintro (e | e); omega; exact hc e)]
      refine ⟨by omega, fun j hj hlt => ?_, h3⟩
      by_cases hjk : j = k
      · subst hjk
        rw [List.getElem?_eq_getElem hk, ← hgd]
        intro e; injection e with e; exact hc e
      · exact h2 j hj (by omega)
theorem accTo_cut (c : UInt8) (s : ByteArray) : (accTo c s (s.size + 1)).1 = cutB c s := by
  obtain ⟨h1, h2, h3⟩ := accTo_inv c s s.size (Nat.le_refl _)
  have hl : s.data.toList.length = s.size := Array.length_toList
  unfold accTo
  rw [if_pos (Or.inl rfl), ← h3]
  generalize (accTo c s s.size).2 = f at *
  have hno : c ∉ s.data.toList.drop f := by
    intro hm
    obtain ⟨j, hj, e⟩ := List.getElem_of_mem hm
    rw [List.length_drop] at hj
    refine h2 (f + j) (by omega) (by omega) ?_
    rw [List.getElem_drop] at e
    rw [List.getElem?_eq_getElem (by omega), e]
  rw [cutL_none hno, extract_list, List.take_of_length_le (by omega)]; rfl
theorem cutL_length (c : UInt8) : ∀ (l : List UInt8), (cutL c l).length ≤ l.length + 1
  | [] => by simp [cutL]
  | x :: r => by
    have ih := cutL_length c r
    unfold cutL
    split
    · simp; omega
    · split
      · next h => rw [h] at ih; simp at ih ⊢; omega
      · simp
theorem cutL_part (c : UInt8) : ∀ (l : List UInt8), ∀ w ∈ cutL c l, w.length ≤ l.length
  | [], w, h => by simp [cutL] at h; subst h; simp
  | x :: r, w, h => by
    have ih := cutL_part c r
    unfold cutL at h
    split at h
    · rcases List.mem_cons.1 h with rfl | h
      · simp
      · have := ih w h; simp; omega
    · revert h ih
      cases hq : cutL c r with
      | nil => exact absurd hq (cutL_ne c r)
      | cons a t =>
        intro ih h
        rcases List.mem_cons.1 h with rfl | h
        · have := ih a (by simp); simp; omega
        · have := ih w (List.mem_cons_of_mem _ h); simp; omega
theorem cutB_length (c : UInt8) (s : ByteArray) : (cutB c s).length ≤ s.size + 1 := by
  have := cutL_length c s.data.toList
  have hl : s.data.toList.length = s.size := Array.length_toList
  unfold cutB; rw [List.length_map]; omega
theorem cutB_part (c : UInt8) (s : ByteArray) : ∀ w ∈ cutB c s, w.size ≤ s.size := by
  intro w hw
  obtain ⟨l, hl, rfl⟩ := List.mem_map.1 hw
  have := cutL_part c _ l hl
  have hl : s.data.toList.length = s.size := Array.length_toList
  show l.toArray.size ≤ s.size
  simp; omega
/-- Words joined by a byte. -/
def joinB (c : UInt8) (ws : List ByteArray) : ByteArray := mkB (Lib.join (ws.map (·.data.toList)) [c])
theorem cutB_joinB (c : UInt8) (ws : List ByteArray) (h : ws ≠ []) (hn : ∀ w ∈ ws, c ∉ w.data.toList) : cutB c (joinB c ws) = ws := by
  unfold cutB joinB
  rw [mkB_data, cutL_join c _ (by simpa using h) (by
    intro w hw
    obtain ⟨s, hs, rfl⟩ := List.mem_map.1 hw
    exact hn s hs), map_mkB]
theorem joinB_cutB (c : UInt8) (s : ByteArray) : joinB c (cutB c s) = s := by
  unfold cutB joinB
  have e : ((cutL c s.data.toList).map mkB).map (·.data.toList) = cutL c s.data.toList := by
    rw [List.map_map]
    have : ((fun (x : ByteArray) => x.data.toList) ∘ mkB) = id := by funext l; rfl
    rw [this, List.map_id]
  rw [e, join_cutL, mkB_list]
end Go.Proofs.YtobaoekibnloiaaGreatDoor
/- Events of a script, plain: the words of their lines, which events can be written, what a list of words is, what a script is. No walk. -/
namespace Go.Proofs.YtobaoekibnloiaaGreatDoor
open Go

structure Ev where
  kind : Int
  text : ByteArray
  bytes : List UInt8
  n : Int
  station : Int
  name : ByteArray
  start : Int
  closed : Bool
  face : Int
  pa : Int
  pb : Int
  pc : Int
  bias : List (Int × Int)

def Ev.zero : Ev := ⟨0, ⟨#[]⟩, [], 0, 0, ⟨#[]⟩, 0, false, 0, 0, 0, 0, []⟩
noncomputable instance : DecidableEq Ev := fun a b => Classical.propDecidable (a = b)

def kwText : ByteArray := ⟨#[116, 101, 120, 116]⟩
def kwBinary : ByteArray := ⟨#[98, 105, 110, 97, 114, 121]⟩
def kwTick : ByteArray := ⟨#[116, 105, 99, 107]⟩
def kwCrash : ByteArray := ⟨#[99, 114, 97, 115, 104]⟩
def kwRepeat : ByteArray := ⟨#[114, 101, 112, 101, 97, 116]⟩
def kwStation : ByteArray := ⟨#[115, 116, 97, 116, 105, 111, 110]⟩
def kwClosed : ByteArray := ⟨#[99, 108, 111, 115, 101, 100]⟩
def kwAt : ByteArray := ⟨#[97, 116]⟩
def kwBias : ByteArray := ⟨#[98, 105, 97, 115]⟩

open Classical in
/-- The number that a word is. -/
noncomputable def numF (s : ByteArray) : Option Int := if h : ∃ n, ¬ longI n ∧ s = istr n then some h.choose else none
theorem numF_iff {s : ByteArray} {n : Int} : numF s = some n ↔ ¬ longI n ∧ s = istr n := by
  unfold numF
  constructor
  · intro h
    split at h
    · next h1 => injection h with h; subst h; exact h1.choose_spec
    · cases h
  · intro h
    rw [dif_pos ⟨n, h⟩]
    have := (⟨n, h⟩ : ∃ n, ¬ longI n ∧ s = istr n)
    congr 1
    exact istr_inj ((Exists.choose_spec this).2.symm.trans h.2)
theorem numF_none {s : ByteArray} : numF s = none ↔ ∀ n, ¬ longI n → s ≠ istr n := by
  constructor
  · intro h n hn e
    rw [numF_iff.2 ⟨hn, e⟩] at h; cases h
  · intro h
    cases hq : numF s with
    | none => rfl
    | some n => exact absurd (numF_iff.1 hq).2 (h n (numF_iff.1 hq).1)

def biasW (l : List (Int × Int)) : List ByteArray := l.flatMap fun p => [kwBias, istr p.1, istr p.2]
/-- Words as biases. -/
noncomputable def biasF : List ByteArray → Option (List (Int × Int))
  | [] => some []
  | [_] => none
  | [_, _] => none
  | b :: e :: v :: r => if b = kwBias then match numF e, numF v, biasF r with
      | some x, some y, some l => some ((x, y) :: l)
      | _, _, _ => none
    else none
theorem biasF_iff : ∀ (ws : List ByteArray) (l : List (Int × Int)), biasF ws = some l ↔ (∀ p ∈ l, ¬ longI p.1 ∧ ¬ longI p.2) ∧ ws = biasW l
  | [], l => by
    unfold biasF
    constructor
    · intro h; injection h with h; subst h; simp [biasW]
    · rintro ⟨_, h⟩
      cases l with
      | nil => rfl
      | cons p t => simp [biasW] at h
  | [a], l => by
    unfold biasF
    constructor
    · intro h; cases h
    · rintro ⟨_, h⟩
      cases l with
      | nil => simp [biasW] at h
      | cons p t => simp [biasW] at h
  | [a, b], l => by
    unfold biasF
    constructor
    · intro h; cases h
    · rintro ⟨_, h⟩
      cases l with
      | nil => simp [biasW] at h
      | cons p t => simp [biasW] at h
  | b :: e :: v :: r, l => by
    unfold biasF
    constructor
    · intro h
      split at h
      · next hb =>
        split at h
        · next x y m hx hy hm =>
          injection h with h; subst h
          have h1 := numF_iff.1 hx
          have h2 := numF_iff.1 hy
          obtain ⟨h3, h4⟩ := (biasF_iff r m).1 hm
          refine ⟨?_, ?_⟩
          · intro p hp
            rcases List.mem_cons.1 hp with rfl | hp
            · exact ⟨h1.1, h2.1⟩
            · exact h3 p hp
          · rw [hb, h1.2, h2.2, h4]; rfl
        · cases h
      · cases h
    · rintro ⟨h1, h2⟩
      cases l with
      | nil => simp [biasW] at h2
      | cons p t =>
        have h2' : b :: e :: v :: r = kwBias :: istr p.1 :: istr p.2 :: biasW t := h2
        injection h2' with hb h2'; injection h2' with he h2'; injection h2' with hv hr
        have hp := h1 p (by simp)
        rw [if_pos hb, numF_iff.2 ⟨hp.1, he⟩, numF_iff.2 ⟨hp.2, hv⟩, (biasF_iff r t).2 ⟨fun q hq => h1 q (List.mem_cons_of_mem _ hq), hr⟩]

/-- The word of a kind of stations. -/
def kindW (k : Int) : ByteArray := if k = 1 then kLand else if k = 2 then kShip else kBuoy
def kindF (s : ByteArray) : Option Int := if s = kLand then some 1 else if s = kShip then some 2 else if s = kBuoy then some 3 else none
theorem kindF_iff {s : ByteArray} {k : Int} : kindF s = some k ↔ 1 ≤ k ∧ k ≤ 3 ∧ s = kindW k := by
  unfold kindF kindW
  constructor
  · intro h
    split at h
    · next e => injection h with h; subst h; simp [e]
    · split at h
      · next e => injection h with h; subst h; simp [e]
      · split at h
        · next e => injection h with h; subst h; simp [e]
        · cases h
  · rintro ⟨h1, h2, h3⟩
    have : k = 1 ∨ k = 2 ∨ k = 3 := by omega
    rcases this with rfl | rfl | rfl
    · simp at h3; simp [h3]
    · simp at h3; subst h3; simp; decide
    · simp at h3; subst h3; simp; decide

/-- The words of a station behind the first one. -/
noncomputable def stF : List ByteArray → Option Ev
  | k :: nm :: f :: c :: r =>
    if nameOk nm = true then
      match kindF k, numF f with
      | some st, some fr =>
        if c = kwClosed then (biasF r).map fun l => ⟨4, ⟨#[]⟩, [], 0, st, nm, fr, true, 0, 0, 0, 0, l⟩
        else if c = kwAt then match r with
          | w1 :: w2 :: w3 :: w4 :: r' => match numF w1, numF w2, numF w3, numF w4, biasF r' with
            | some p, some q, some s, some t, some l => some ⟨4, ⟨#[]⟩, [], 0, st, nm, fr, false, p, q, s, t, l⟩
            | _, _, _, _, _ => none
          | _ => none
        else none
      | _, _ => none
    else none
  | _ => none
/-- The words of a line. -/
noncomputable def evF : List ByteArray → Option Ev
  | [] => none
  | k :: r => if k = kwRepeat then (if r = [] then some ⟨6, ⟨#[]⟩, [], 0, 0, ⟨#[]⟩, 0, false, 0, 0, 0, 0, []⟩ else none)
    else if k = kwStation then stF r
    else match r with
      | [x] => if k = kwTick then (numF x).map fun n => ⟨3, ⟨#[]⟩, [], n, 0, ⟨#[]⟩, 0, false, 0, 0, 0, 0, []⟩
        else if k = kwCrash then (numF x).map fun n => ⟨5, ⟨#[]⟩, [], n, 0, ⟨#[]⟩, 0, false, 0, 0, 0, 0, []⟩
        else if k = kwText then (dataOf x).map fun l => ⟨1, mkB l, [], 0, 0, ⟨#[]⟩, 0, false, 0, 0, 0, 0, []⟩
        else if k = kwBinary then (dataOf x).map fun l => ⟨2, ⟨#[]⟩, l, 0, 0, ⟨#[]⟩, 0, false, 0, 0, 0, 0, []⟩
        else none
      | _ => none

def placeW (x : Ev) : List ByteArray := if x.closed = true then [kwClosed] else [kwAt, istr x.face, istr x.pa, istr x.pb, istr x.pc]
/-- The words of an event. -/
def evWords (x : Ev) : List ByteArray :=
  if x.kind = 1 then [kwText, hexS x.text.data.toList]
  else if x.kind = 2 then [kwBinary, hexS x.bytes]
  else if x.kind = 3 then [kwTick, istr x.n]
  else if x.kind = 5 then [kwCrash, istr x.n]
  else if x.kind = 4 then kwStation :: kindW x.station :: x.name :: istr x.start :: (placeW x ++ biasW x.bias)
  else [kwRepeat]
/-- The numbers that are written. -/
def nums (x : Ev) : List Int :=
  if x.kind = 3 ∨ x.kind = 5 then [x.n]
  else if x.kind = 4 then (x.start :: (if x.closed = true then [] else [x.face, x.pa, x.pb, x.pc])) ++ x.bias.flatMap fun p => [p.1, p.2]
  else []
def Ev.noPlace (x : Ev) : Prop := x.face = 0 ∧ x.pa = 0 ∧ x.pb = 0 ∧ x.pc = 0
/-- The event with the fields that its kind uses. -/
def only (x : Ev) : Ev :=
  if x.kind = 1 then { Ev.zero with kind := x.kind, text := x.text }
  else if x.kind = 2 then { Ev.zero with kind := x.kind, bytes := x.bytes }
  else if x.kind = 3 ∨ x.kind = 5 then { Ev.zero with kind := x.kind, n := x.n }
  else if x.kind = 4 then { x with text := ⟨#[]⟩, bytes := [], n := 0 }
  else { Ev.zero with kind := x.kind }
def kindBad (x : Ev) : Prop := x.kind < 1 ∨ 6 < x.kind ∨ x.kind = 4 ∧ (x.station < 1 ∨ 3 < x.station)
def stateBad (x : Ev) : Prop := (x.kind = 4 ∧ x.closed = true ∧ ¬ x.noPlace) ∨ x ≠ only x
open Classical in
/-- The error of an event that is to be written. -/
noncomputable def errOf (x : Ev) : Int :=
  if kindBad x then 4
  else if x.kind = 4 ∧ nameOk x.name = false then 3
  else if ∃ n ∈ nums x, longI n then 1
  else if stateBad x then 7
  else 0
theorem errOf_ok {x : Ev} : errOf x = 0 ↔ ¬ kindBad x ∧ ¬ (x.kind = 4 ∧ nameOk x.name = false) ∧ (∀ n ∈ nums x, ¬ longI n) ∧ ¬ stateBad x := by
  unfold errOf
  constructor
  · intro h
    split at h
    · omega
    · split at h
      · omega
      · split at h
        · omega
        · next h1 h2 h3 =>
          split at h
          · omega
          · next h4 => exact ⟨h1, h2, fun n hn hl => h3 ⟨n, hn, hl⟩, h4⟩
  · rintro ⟨h1, h2, h3, h4⟩
    rw [if_neg h1, if_neg h2, if_neg (by rintro ⟨n, hn, hl⟩; exact h3 n hn hl), if_neg h4]
/-- The kinds of events that can be written. -/
inductive Good : Ev → Prop
  | text (t : ByteArray) : Good ⟨1, t, [], 0, 0, ⟨#[]⟩, 0, false, 0, 0, 0, 0, []⟩
  | binary (l : List UInt8) : Good ⟨2, ⟨#[]⟩, l, 0, 0, ⟨#[]⟩, 0, false, 0, 0, 0, 0, []⟩
  | tick (n : Int) (h : ¬ longI n) : Good ⟨3, ⟨#[]⟩, [], n, 0, ⟨#[]⟩, 0, false, 0, 0, 0, 0, []⟩
  | crash (n : Int) (h : ¬ longI n) : Good ⟨5, ⟨#[]⟩, [], n, 0, ⟨#[]⟩, 0, false, 0, 0, 0, 0, []⟩
  | again : Good ⟨6, ⟨#[]⟩, [], 0, 0, ⟨#[]⟩, 0, false, 0, 0, 0, 0, []⟩
  | shut (k : Int) (nm : ByteArray) (f : Int) (l : List (Int × Int)) (h1 : 1 ≤ k) (h2 : k ≤ 3) (hn : nameOk nm = true) (hf : ¬ longI f) (hl : ∀ p ∈ l, ¬ longI p.1 ∧ ¬ longI p.2) :
    Good ⟨4, ⟨#[]⟩, [], 0, k, nm, f, true, 0, 0, 0, 0, l⟩
  | put (k : Int) (nm : ByteArray) (f p q r s : Int) (l : List (Int × Int)) (h1 : 1 ≤ k) (h2 : k ≤ 3) (hn : nameOk nm = true) (hf : ¬ longI f) (hp : ¬ longI p) (hq : ¬ longI q) (hr : ¬ longI r) (hs : ¬ longI s) (hl : ∀ p ∈ l, ¬ longI p.1 ∧ ¬ longI p.2) :
    Good ⟨4, ⟨#[]⟩, [], 0, k, nm, f, false, p, q, r, s, l⟩
theorem good_of_ok {x : Ev} (h : errOf x = 0) : Good x := by
  obtain ⟨h1, h2, h3, h4⟩ := errOf_ok.1 h
  obtain ⟨kd, text, bytes, n, st, name, start, closed, face, pa, pb, pc, bias⟩ := x
  unfold kindBad at h1
  unfold stateBad at h4
  simp only at h1 h2
  have ho : (⟨kd, text, bytes, n, st, name, start, closed, face, pa, pb, pc, bias⟩ : Ev) = only ⟨kd, text, bytes, n, st, name, start, closed, face, pa, pb, pc, bias⟩ := Classical.byContradiction fun hne => h4 (Or.inr hne)
  have hk : kd = 1 ∨ kd = 2 ∨ kd = 3 ∨ kd = 4 ∨ kd = 5 ∨ kd = 6 := by omega
  rcases hk with rfl | rfl | rfl | rfl | rfl | rfl
  · simp [only, Ev.zero] at ho
    obtain ⟨rfl, rfl, rfl, rfl, rfl, rfl, rfl, rfl, rfl, rfl, rfl⟩ := ho
    exact .text _
  · simp [only, Ev.zero] at ho
    obtain ⟨rfl, rfl, rfl, rfl, rfl, rfl, rfl, rfl, rfl, rfl, rfl⟩ := ho
    exact .binary _
  · simp [only, Ev.zero] at ho
    obtain ⟨rfl, rfl, rfl, rfl, rfl, rfl, rfl, rfl, rfl, rfl, rfl⟩ := ho
    exact .tick _ (h3 n (by simp [nums]))
  · simp [only] at ho
    obtain ⟨rfl, rfl, rfl⟩ := ho
    have hb : ∀ p ∈ bias, ¬ longI p.1 ∧ ¬ longI p.2 := fun p hp => ⟨h3 p.1 (by simp [nums]; right; right; exact ⟨p.1, p.2, hp, Or.inl rfl⟩), h3 p.2 (by simp [nums]; right; right; exact ⟨p.1, p.2, hp, Or.inr rfl⟩)⟩
    have hs := h3 start (by simp [nums])
    have hn : nameOk name = true := by
      cases hq : nameOk name with
      | true => rfl
      | false => exact absurd ⟨rfl, hq⟩ h2
    cases closed with
    | true =>
      have hp : Ev.noPlace ⟨4, ⟨#[]⟩, [], 0, st, name, start, true, face, pa, pb, pc, bias⟩ := Classical.byContradiction fun hne => h4 (Or.inl ⟨rfl, rfl, hne⟩)
      obtain ⟨e1, e2, e3, e4⟩ := hp
      simp only at e1 e2 e3 e4
      subst e1 e2 e3 e4
      exact .shut _ _ _ _ (by omega) (by omega) hn hs hb
    | false => exact .put _ _ _ _ _ _ _ _ (by omega) (by omega) hn hs (h3 _ (by simp [nums])) (h3 _ (by simp [nums])) (h3 _ (by simp [nums])) (h3 _ (by simp [nums])) hb
  · simp [only, Ev.zero] at ho
    obtain ⟨rfl, rfl, rfl, rfl, rfl, rfl, rfl, rfl, rfl, rfl, rfl⟩ := ho
    exact .crash _ (h3 n (by simp [nums]))
  · simp [only, Ev.zero] at ho
    obtain ⟨rfl, rfl, rfl, rfl, rfl, rfl, rfl, rfl, rfl, rfl, rfl, rfl⟩ := ho
    exact .again
theorem ok_of_good {x : Ev} (h : Good x) : errOf x = 0 := by
  refine errOf_ok.2 ?_
  cases h with
  | text t => simp [kindBad, nums, stateBad, only, Ev.zero]
  | binary l => simp [kindBad, nums, stateBad, only, Ev.zero]
  | tick n h => simp [kindBad, nums, stateBad, only, Ev.zero, h]
  | crash n h => simp [kindBad, nums, stateBad, only, Ev.zero, h]
  | again => simp [kindBad, nums, stateBad, only, Ev.zero]
  | shut k nm f l h1 h2 hn hf hl =>
    refine ⟨by simp [kindBad]; omega, by simp [hn], ?_, by simp [stateBad, only, Ev.noPlace]⟩
    simp [nums, hf]
    rintro n a b hp (rfl | rfl)
    · exact (hl _ hp).1
    · exact (hl _ hp).2
  | put k nm f p q r s l h1 h2 hn hf hp hq hr hs hl =>
    refine ⟨by simp [kindBad]; omega, by simp [hn], ?_, by simp [stateBad, only]⟩
    simp [nums, hf, hp, hq, hr, hs]
    rintro n a b hp (rfl | rfl)
    · exact (hl _ hp).1
    · exact (hl _ hp).2
theorem evF_good {x : Ev} (h : Good x) : evF (evWords x) = some x := by
  cases h with
  | text t =>
    have e1 : kwText ≠ kwRepeat := by decide
    have e2 : kwText ≠ kwStation := by decide
    have e3 : kwText ≠ kwTick := by decide
    have e4 : kwText ≠ kwCrash := by decide
    simp [evWords, evF, e1, e2, e3, e4, (data_iff (hexS t.data.toList) t.data.toList).2 rfl, mkB_list]
  | binary l =>
    have e1 : kwBinary ≠ kwRepeat := by decide
    have e2 : kwBinary ≠ kwStation := by decide
    have e3 : kwBinary ≠ kwTick := by decide
    have e4 : kwBinary ≠ kwCrash := by decide
    have e5 : kwBinary ≠ kwText := by decide
    simp [evWords, evF, e1, e2, e3, e4, e5, (data_iff (hexS l) l).2 rfl]
  | tick n h =>
    have e1 : kwTick ≠ kwRepeat := by decide
    have e2 : kwTick ≠ kwStation := by decide
    simp [evWords, evF, e1, e2, numF_iff.2 ⟨h, rfl⟩]
  | crash n h =>
    have e1 : kwCrash ≠ kwRepeat := by decide
    have e2 : kwCrash ≠ kwStation := by decide
    have e3 : kwCrash ≠ kwTick := by decide
    simp [evWords, evF, e1, e2, e3, numF_iff.2 ⟨h, rfl⟩]
  | again => simp [evWords, evF]
  | shut k nm f l h1 h2 hn hf hl =>
    have e1 : kwStation ≠ kwRepeat := by decide
    simp [evWords, evF, placeW, stF, e1, hn, kindF_iff.2 ⟨h1, h2, rfl⟩, numF_iff.2 ⟨hf, rfl⟩, (biasF_iff _ l).2 ⟨hl, rfl⟩]
  | put k nm f p q r s l h1 h2 hn hf hp hq hr hs hl =>
    have e1 : kwStation ≠ kwRepeat := by decide
    have e2 : kwAt ≠ kwClosed := by decide
    simp [evWords, evF, placeW, stF, e1, e2, hn, kindF_iff.2 ⟨h1, h2, rfl⟩, numF_iff.2 ⟨hf, rfl⟩, numF_iff.2 ⟨hp, rfl⟩, numF_iff.2 ⟨hq, rfl⟩, numF_iff.2 ⟨hr, rfl⟩, numF_iff.2 ⟨hs, rfl⟩, (biasF_iff _ l).2 ⟨hl, rfl⟩]
theorem stF_good {ws : List ByteArray} {x : Ev} (h : stF ws = some x) : Good x ∧ kwStation :: ws = evWords x := by
  unfold stF at h
  split at h
  · next k nm f c r =>
    split at h
    · next hn =>
      split at h
      · next st fr hk hf =>
        obtain ⟨k1, k2, hkw⟩ := kindF_iff.1 hk
        obtain ⟨f1, hfw⟩ := numF_iff.1 hf
        split at h
        · next hc =>
          cases hb : biasF r with
          | none => rw [hb] at h; cases h
          | some l =>
            rw [hb] at h
            injection h with h; subst h
            obtain ⟨b1, b2⟩ := (biasF_iff _ _).1 hb
            exact ⟨.shut _ _ _ _ k1 k2 hn f1 b1, by simp [evWords, placeW, hkw, hfw, hc, b2]⟩
        · split at h
          · next hc =>
            split at h
            · split at h
              · next p q s t l hp hq hs ht hb =>
                injection h with h; subst h
                obtain ⟨b1, b2⟩ := (biasF_iff _ _).1 hb
                obtain ⟨p1, p2⟩ := numF_iff.1 hp
                obtain ⟨q1, q2⟩ := numF_iff.1 hq
                obtain ⟨s1, s2⟩ := numF_iff.1 hs
                obtain ⟨t1, t2⟩ := numF_iff.1 ht
                exact ⟨.put _ _ _ _ _ _ _ _ k1 k2 hn f1 p1 q1 s1 t1 b1, by simp [evWords, placeW, hkw, hfw, hc, b2, p2, q2, s2, t2]⟩
              · cases h
            · cases h
          · cases h
      · cases h
    · cases h
  · cases h
theorem good_evF {ws : List ByteArray} {x : Ev} (h : evF ws = some x) : Good x ∧ ws = evWords x := by
  unfold evF at h
  split at h
  · cases h
  · next k r =>
    split at h
    · next hk =>
      split at h
      · next hr => injection h with h; subst h; exact ⟨.again, by simp [evWords, hk, hr]⟩
      · cases h
    · split at h
      · next hk => rw [hk]; exact stF_good h
      · split at h
        · next w =>
          split at h
          · next hk =>
            cases hb : numF w with
            | none => rw [hb] at h; cases h
            | some n =>
              rw [hb] at h
              injection h with h; subst h
              obtain ⟨b1, b2⟩ := numF_iff.1 hb
              exact ⟨.tick _ b1, by simp [evWords, hk, b2]⟩
          · split at h
            · next hk =>
              cases hb : numF w with
              | none => rw [hb] at h; cases h
              | some n =>
                rw [hb] at h
                injection h with h; subst h
                obtain ⟨b1, b2⟩ := numF_iff.1 hb
                exact ⟨.crash _ b1, by simp [evWords, hk, b2]⟩
            · split at h
              · next hk =>
                cases hb : dataOf w with
                | none => rw [hb] at h; cases h
                | some n =>
                  rw [hb] at h
                  injection h with h; subst h
                  exact ⟨.text _, by simp [evWords, hk, (data_iff _ _).1 hb, mkB]⟩
              · split at h
                · next hk =>
                  cases hb : dataOf w with
                  | none => rw [hb] at h; cases h
                  | some n =>
                    rw [hb] at h
                    injection h with h; subst h
                    exact ⟨.binary _, by simp [evWords, hk, (data_iff _ _).1 hb]⟩
                · cases h
        · cases h
/-- Words are those of an event that can be written, or of none. -/
theorem evF_iff {ws : List ByteArray} {x : Ev} : evF ws = some x ↔ errOf x = 0 ∧ ws = evWords x :=
  ⟨fun h => ⟨ok_of_good (good_evF h).1, (good_evF h).2⟩, fun ⟨h1, h2⟩ => by rw [h2]; exact evF_good (good_of_ok h1)⟩
end Go.Proofs.YtobaoekibnloiaaGreatDoor
/- Scripts, plain: the line of an event, lines read back, a script as a text and back, how long lines are. No walk. -/
namespace Go.Proofs.YtobaoekibnloiaaGreatDoor
open Go

theorem name_of_all {s : ByteArray} (h : ∀ b ∈ s.data.toList, okC b = true) (h0 : s.data.toList ≠ []) : nameOk s = true := by
  unfold nameOk
  have h1 : s.data.toList.all okC = true := List.all_eq_true.2 h
  have h2 : s ≠ ⟨#[]⟩ := by intro e; apply h0; rw [e]
  rw [h1, decide_eq_false h2]; rfl
theorem all_of_name {s : ByteArray} (h : nameOk s = true) : (∀ b ∈ s.data.toList, okC b = true) ∧ s.data.toList ≠ [] := by
  unfold nameOk at h
  rw [Bool.and_eq_true] at h
  refine ⟨List.all_eq_true.1 h.1, fun e => ?_⟩
  have h2 : s = ⟨#[]⟩ := by
    cases s with | mk d => simp at e; rw [e]
  rw [h2] at h
  exact absurd h.2 (by decide)
theorem okC_isD {b : UInt8} (h : isD b = true) : okC b = true := by
  simp [isD] at h; simp [okC]; omega
theorem istr_ok (n : Int) : nameOk (istr n) = true := by
  have e : (istr n).data.toList = Lib.itoa n := by simp [istr]
  refine name_of_all (fun b hb => ?_) (fun h0 => istr_ne n ?_)
  · rw [e] at hb
    unfold Lib.itoa at hb
    split at hb
    · rcases List.mem_cons.1 hb with rfl | hb
      · decide
      · exact okC_isD (decDigits_isD _ b hb)
    · exact okC_isD (decDigits_isD _ b hb)
  · cases hq : istr n with | mk d => rw [hq] at h0; simp at h0; rw [h0]; rfl
theorem hd_ok (n : Nat) (h : n < 16) : okC (hd n) = true := (by decide : ∀ y : Fin 16, okC (hd y.1) = true) ⟨n, h⟩
theorem hexL_ok : ∀ (l : List UInt8), ∀ b ∈ hexL l, okC b = true
  | [], b, h => by simp [hexL] at h
  | c :: r, b, h => by
    simp only [hexL, List.mem_cons] at h
    rcases h with rfl | rfl | h
    · exact hd_ok _ (by have := c.toNat_lt; omega)
    · exact hd_ok _ (by omega)
    · exact hexL_ok r b h
theorem hexS_ok (l : List UInt8) : nameOk (hexS l) = true := by
  unfold hexS
  split
  · decide
  · next h =>
    refine name_of_all (fun b hb => hexL_ok l b (by simpa using hb)) (fun h0 => ?_)
    have h1 := hexL_length l
    simp at h0
    rw [h0] at h1
    simp at h1
    exact h (List.eq_nil_of_length_eq_zero (by omega))
theorem biasW_ok (l : List (Int × Int)) : ∀ w ∈ biasW l, nameOk w = true := by
  intro w hw
  obtain ⟨p, _, hw⟩ := List.mem_flatMap.1 hw
  simp at hw
  rcases hw with rfl | rfl | rfl
  · decide
  · exact istr_ok _
  · exact istr_ok _
theorem kindW_ok (k : Int) : nameOk (kindW k) = true := by
  unfold kindW
  split
  · decide
  · split <;> decide
theorem words_ok {x : Ev} (h : Good x) : ∀ w ∈ evWords x, nameOk w = true := by
  cases h with
  | text t =>
    intro w hw
    simp [evWords] at hw
    rcases hw with rfl | rfl
    · decide
    · exact hexS_ok _
  | binary l =>
    intro w hw
    simp [evWords] at hw
    rcases hw with rfl | rfl
    · decide
    · exact hexS_ok _
  | tick n h =>
    intro w hw
    simp [evWords] at hw
    rcases hw with rfl | rfl
    · decide
    · exact istr_ok _
  | crash n h =>
    intro w hw
    simp [evWords] at hw
    rcases hw with rfl | rfl
    · decide
    · exact istr_ok _
  | again =>
    intro w hw
    simp [evWords] at hw
    subst hw; decide
  | shut k nm f l h1 h2 hn hf hl =>
    intro w hw
    simp [evWords, placeW] at hw
    rcases hw with rfl | rfl | rfl | rfl | rfl | hw
    · decide
    · exact kindW_ok _
    · exact hn
    · exact istr_ok _
    · decide
    · exact biasW_ok _ w hw
  | put k nm f p q r s l h1 h2 hn hf hp hq hr hs hl =>
    intro w hw
    simp [evWords, placeW] at hw
    rcases hw with rfl | rfl | rfl | rfl | rfl | rfl | rfl | rfl | rfl | hw
    · decide
    · exact kindW_ok _
    · exact hn
    · exact istr_ok _
    · decide
    · exact istr_ok _
    · exact istr_ok _
    · exact istr_ok _
    · exact istr_ok _
    · exact biasW_ok _ w hw
theorem evWords_ne (x : Ev) : evWords x ≠ [] := by unfold evWords; repeat' split
                                                   all_goals simp
/-- The line of an event. -/
def lineW (x : Ev) : ByteArray := joinB 32 (evWords x)
/-- The event of a line. -/
noncomputable def lineF (s : ByteArray) : Option Ev := evF (cutB 32 s)
theorem cut_lineW {x : Ev} (h : Good x) : cutB 32 (lineW x) = evWords x :=
  cutB_joinB 32 _ (evWords_ne x) fun w hw hm => absurd ((all_of_name (words_ok h w hw)).1 32 hm) (by decide)
theorem lineF_lineW {x : Ev} (h : errOf x = 0) : lineF (lineW x) = some x := by
  unfold lineF
  rw [cut_lineW (good_of_ok h)]
  exact evF_good (good_of_ok h)
theorem lineF_back {s : ByteArray} {x : Ev} (h : lineF s = some x) : errOf x = 0 ∧ lineW x = s := by
  obtain ⟨h1, h2⟩ := evF_iff.1 h
  exact ⟨h1, by unfold lineW; rw [← h2, joinB_cutB]⟩

theorem mem_join (c : UInt8) : ∀ (ws : List (List UInt8)) (b : UInt8), b ∈ Lib.join ws [c] → b = c ∨ ∃ w ∈ ws, b ∈ w
  | [], b, h => by simp [Lib.join_nil] at h
  | [x], b, h => by rw [Lib.join_one] at h; exact Or.inr ⟨x, by simp, h⟩
  | x :: y :: t, b, h => by
    rw [join_tail c x (y :: t) (by simp)] at h
    rcases List.mem_append.1 h with h | h
    · exact Or.inr ⟨x, by simp, h⟩
    · rcases List.mem_cons.1 h with h | h
      · exact Or.inl h
      · rcases mem_join c (y :: t) b h with h | ⟨w, hw, h⟩
        · exact Or.inl h
        · exact Or.inr ⟨w, List.mem_cons_of_mem _ hw, h⟩
theorem lineW_lf {x : Ev} (h : Good x) : (10 : UInt8) ∉ (lineW x).data.toList := by
  intro hm
  unfold lineW joinB at hm
  rw [mkB_data] at hm
  rcases mem_join 32 _ _ hm with e | ⟨w, hw, hb⟩
  · exact absurd e (by decide)
  · obtain ⟨s, hs, rfl⟩ := List.mem_map.1 hw
    exact absurd ((all_of_name (words_ok h s hs)).1 10 hb) (by decide)
/-- A line that is passed over: empty, or a remark. -/
def skipL (s : ByteArray) : Bool := match s.data.toList with | [] => true | c :: _ => c == 35
theorem join_head (c : UInt8) (a : UInt8) (x : List UInt8) (r : List (List UInt8)) : ∃ t, Lib.join ((a :: x) :: r) [c] = a :: t := by
  rw [Lib.join_cons]; exact ⟨_, rfl⟩
theorem skip_line (x : Ev) : skipL (lineW x) = false := by
  have key : ∀ (k : ByteArray) (a : UInt8) (t : List UInt8) (r : List ByteArray), k.data.toList = a :: t → (a == 35) = false → skipL (joinB 32 (k :: r)) = false := by
    intro k a t r hk ha
    unfold skipL joinB
    rw [mkB_data, List.map_cons, hk]
    obtain ⟨u, hu⟩ := join_head 32 a t (r.map (·.data.toList))
    rw [hu]; exact ha
  unfold lineW evWords
  repeat' split
  · exact key _ 116 _ _ rfl (by decide)
  · exact key _ 98 _ _ rfl (by decide)
  · exact key _ 116 _ _ rfl (by decide)
  · exact key _ 99 _ _ rfl (by decide)
  · exact key _ 115 _ _ rfl (by decide)
  · exact key _ 114 _ _ rfl (by decide)

/-- A script's lines from the i-th on, after the events acc. -/
noncomputable def parseF : List ByteArray → Nat → List Ev → List Ev × Nat × Int
  | [], _, acc => (acc, 0, 0)
  | s :: r, i, acc => if skipL s = true then parseF r (i + 1) acc else match lineF s with
    | none => ([], i + 1, 3)
    | some x => if acc.length = 200 then ([], i + 1, 2) else parseF r (i + 1) (acc ++ [x])
noncomputable def parseT (t : ByteArray) : List Ev × Nat × Int := if 20000 < t.size then ([], 0, 2) else parseF (cutB 10 t) 0 []
/-- Lines of events, each with its line feed. -/
def fmtL (l : List Ev) : List UInt8 := l.flatMap fun x => (lineW x).data.toList ++ [10]
noncomputable def firstErr : List Ev → Int
  | [] => 0
  | x :: r => if errOf x = 0 then firstErr r else errOf x
noncomputable def formatF (l : List Ev) : ByteArray × Int :=
  if firstErr l ≠ 0 then (⟨#[]⟩, firstErr l) else if 200 < l.length ∨ 20000 < (fmtL l).length then (⟨#[]⟩, 2) else (mkB (fmtL l), 0)
theorem firstErr_ok : ∀ {l : List Ev}, (∀ x ∈ l, errOf x = 0) → firstErr l = 0
  | [], _ => rfl
  | x :: r, h => by unfold firstErr; rw [if_pos (h x (by simp))]; exact firstErr_ok fun y hy => h y (List.mem_cons_of_mem _ hy)
theorem cut_fmt : ∀ (l : List Ev), (∀ x ∈ l, Good x) → cutL 10 (fmtL l) = l.map (fun x => (lineW x).data.toList) ++ [[]]
  | [], _ => rfl
  | x :: r, h => by
    have ih := cut_fmt r (fun y hy => h y (List.mem_cons_of_mem _ hy))
    have e : fmtL (x :: r) = (lineW x).data.toList ++ 10 :: fmtL r := by simp [fmtL]
    rw [e, cutL_at (lineW_lf (h x (by simp))), ih]; rfl
theorem parse_lines : ∀ (l : List Ev) (i : Nat) (acc : List Ev), (∀ x ∈ l, errOf x = 0) → acc.length + l.length ≤ 200 → parseF (l.map lineW ++ [⟨#[]⟩]) i acc = (acc ++ l, 0, 0)
  | [], i, acc, _, _ => by simp [parseF, skipL]
  | x :: r, i, acc, h, hl => by
    have hl' : acc.length + (r.length + 1) ≤ 200 := hl
    rw [List.map_cons, List.cons_append, parseF, skip_line, if_neg (by decide), lineF_lineW (h x (by simp))]
    simp only
    rw [if_neg (by omega), parse_lines r (i + 1) (acc ++ [x]) (fun y hy => h y (List.mem_cons_of_mem _ hy)) (by simp; omega)]
    simp
theorem parse_fmt {l : List Ev} (h : ∀ x ∈ l, errOf x = 0) (h200 : l.length ≤ 200) (hs : (fmtL l).length ≤ 20000) : parseT (mkB (fmtL l)) = (l, 0, 0) := by
  unfold parseT
  have hsz : (mkB (fmtL l)).size = (fmtL l).length := by unfold mkB; exact List.size_toArray
  rw [if_neg (by omega)]
  unfold cutB
  rw [mkB_data, cut_fmt l (fun x hx => good_of_ok (h x hx)), List.map_append, List.map_map]
  have e : (mkB ∘ fun x => (lineW x).data.toList) = lineW := by funext x; exact mkB_list _
  rw [e]
  have h1 := parse_lines l 0 [] h (by simpa using h200)
  have e2 : [[]].map mkB = [(⟨#[]⟩ : ByteArray)] := rfl
  rw [e2, h1]; rfl

theorem joinB_size (c : UInt8) (N M : Nat) (ws : List ByteArray) (hN : ws.length ≤ N) (hM : ∀ w ∈ ws, w.size ≤ M) : (joinB c ws).size ≤ N * (M + 1) := by
  have key : ∀ (ws : List ByteArray), (∀ w ∈ ws, w.size ≤ M) → (Lib.join (ws.map (·.data.toList)) [c]).length ≤ ws.length * (M + 1) := by
    intro ws
    induction ws with
    | nil => intro _; simp [Lib.join_nil]
    | cons x r ih =>
      intro h
      have hx := h x (by simp)
      have hr := ih (fun w hw => h w (List.mem_cons_of_mem _ hw))
      have hxl : x.data.toList.length = x.size := Array.length_toList
      cases r with
      | nil => simp only [List.map_cons, List.map_nil, Lib.join_one, List.length_cons, List.length_nil]; omega
      | cons y t =>
        have e := join_tail c x.data.toList ((y :: t).map (·.data.toList)) (by simp)
        rw [List.map_cons, e, List.length_append, List.length_cons, List.length_cons (a := x), Nat.succ_mul]
        omega
  have h1 := key ws hM
  have h2 : ws.length * (M + 1) ≤ N * (M + 1) := Nat.mul_le_mul_right _ hN
  have h3 : (joinB c ws).size = (Lib.join (ws.map (·.data.toList)) [c]).length := by unfold joinB mkB; exact List.size_toArray
  omega
theorem istr_size {n : Int} (h : ¬ longI n) : (istr n).size ≤ 19 := by
  obtain ⟨neg, t, e, _, _, hl, _⟩ := ref_of_num n h
  rw [e]
  show ((if neg then [45] else []) ++ t).toArray.size ≤ 19
  cases neg <;> simp <;> omega
theorem hexS_size (l : List UInt8) : (hexS l).size ≤ 2 * l.length + 1 := by
  unfold hexS
  split
  · show 1 ≤ _; omega
  · show (hexL l).toArray.size ≤ _
    simp [hexL_length]
theorem kindW_size (k : Int) : (kindW k).size = 4 := by
  unfold kindW
  split
  · rfl
  · split <;> rfl
theorem biasW_size {l : List (Int × Int)} (h : ∀ p ∈ l, ¬ longI p.1 ∧ ¬ longI p.2) : (∀ w ∈ biasW l, w.size ≤ 19) ∧ (biasW l).length = 3 * l.length := by
  constructor
  · intro w hw
    obtain ⟨p, hp, hw⟩ := List.mem_flatMap.1 hw
    have := h p hp
    simp at hw
    rcases hw with rfl | rfl | rfl
    · decide
    · exact istr_size this.1
    · exact istr_size this.2
  · induction l with
    | nil => rfl
    | cons p t ih =>
      have := ih (fun q hq => h q (List.mem_cons_of_mem _ hq))
      have e : biasW (p :: t) = kwBias :: istr p.1 :: istr p.2 :: biasW t := rfl
      rw [e]; simp; omega
/-- The parts of an event are no longer than K, its biases no more than B. -/
def Ev.Within (x : Ev) (K B : Nat) : Prop := x.text.size ≤ K ∧ x.bytes.length ≤ K ∧ x.name.size ≤ K ∧ x.bias.length ≤ B
theorem line_size {x : Ev} (h : Good x) (K B : Nat) (hx : x.Within K B) (hK : 9 ≤ K) : (evWords x).length ≤ 9 + 3 * B ∧ (∀ w ∈ evWords x, w.size ≤ 2 * K + 1) ∧ (lineW x).size ≤ (9 + 3 * B) * (2 * K + 2) := by
  have key : (evWords x).length ≤ 9 + 3 * B ∧ ∀ w ∈ evWords x, w.size ≤ 2 * K + 1 := by
    obtain ⟨k1, k2, k3, k4⟩ := hx
    cases h with
    | text t =>
      refine ⟨by simp [evWords]; omega, fun w hw => ?_⟩
      simp only at k1
      have hl : t.data.toList.length = t.size := Array.length_toList
      simp [evWords] at hw
      rcases hw with rfl | rfl
      · show 4 ≤ _; omega
      · have := hexS_size t.data.toList; omega
    | binary l =>
      refine ⟨by simp [evWords]; omega, fun w hw => ?_⟩
      simp only at k2
      simp [evWords] at hw
      rcases hw with rfl | rfl
      · show 6 ≤ _; omega
      · have := hexS_size l; omega
    | tick n h =>
      refine ⟨by simp [evWords]; omega, fun w hw => ?_⟩
      simp [evWords] at hw
      rcases hw with rfl | rfl
      · show 4 ≤ _; omega
      · have := istr_size h; omega
    | crash n h =>
      refine ⟨by simp [evWords]; omega, fun w hw => ?_⟩
      simp [evWords] at hw
      rcases hw with rfl | rfl
      · show 5 ≤ _; omega
      · have := istr_size h; omega
    | again =>
      refine ⟨by simp [evWords]; omega, fun w hw => ?_⟩
      simp [evWords] at hw
      subst hw; show 6 ≤ _; omega
    | shut k nm f l h1 h2 hn hf hl =>
      simp only at k3 k4
      obtain ⟨b1, b2⟩ := biasW_size hl
      refine ⟨by simp [evWords, placeW, b2]; omega, fun w hw => ?_⟩
      simp [evWords, placeW] at hw
      rcases hw with rfl | rfl | rfl | rfl | rfl | hw
      · show 7 ≤ _; omega
      · rw [kindW_size]; omega
      · omega
      · have := istr_size hf; omega
      · show 6 ≤ _; omega
      · have := b1 w hw; omega
    | put k nm f p q r s l h1 h2 hn hf hp hq hr hs hl =>
      simp only at k3 k4
      obtain ⟨b1, b2⟩ := biasW_size hl
      refine ⟨by simp [evWords, placeW, b2]; omega, fun w hw => ?_⟩
      simp [evWords, placeW] at hw
      rcases hw with rfl | rfl | rfl | rfl | rfl | rfl | rfl | rfl | rfl | hw
      · show 7 ≤ _; omega
      · rw [kindW_size]; omega
      · omega
      · have := istr_size hf; omega
      · show 2 ≤ _; omega
      · have := istr_size hp; omega
      · have := istr_size hq; omega
      · have := istr_size hr; omega
      · have := istr_size hs; omega
      · have := b1 w hw; omega
  exact ⟨key.1, key.2, joinB_size 32 _ _ _ key.1 key.2⟩
end Go.Proofs.YtobaoekibnloiaaGreatDoor
/- Words, numbers, biases and events in memory. No walk. -/
namespace Go.Proofs.YtobaoekibnloiaaGreatDoor
open Go Go.RowKit

theorem own_cells {w : World} {base n : Nat} {e : TypeId} {sz : Nat} {v : Value} {cs : List Value} (h : w.ownsRow base e sz v n cs) {g m cap : Nat} (hv : v = .slice (some ⟨g, 0, none⟩) m cap) {j : Nat} {u : Value} (hj : cs[j]? = some u) : w.cell? ⟨g, j, none⟩ = some u := by
  have := World.ownsRow.cells h (g := g) (by rw [hv]; rfl) j u hj
  rwa [Go.WideShapes.add_plain, Nat.zero_add] at this
/-- v is a slice that holds the words. -/
def StrsIn (w : World) (v : Value) (ws : List ByteArray) : Prop :=
  ∃ (a : Option Addr) (cap : Nat), v = .slice a ws.length cap ∧ ws.length ≤ cap ∧ cap ≤ 9223372036854775807 ∧ ws.length ≤ 2000000 ∧ (∀ s ∈ ws, s.size ≤ 1000000) ∧ ∀ i, i < ws.length → ∃ ab ao : Nat, a = some ⟨ab, ao, none⟩ ∧ w.cell? ⟨ab, ao + i, none⟩ = some (.string (ws.getD i ByteArray.empty))
theorem StrsIn.below {w w' : World} {v : Value} {l : List ByteArray} (h : StrsIn w v l) (hb : Below w.heap.size w w') : StrsIn w' v l := by
  obtain ⟨a, cap, h1, h2, h3, h5, h6, h4⟩ := h
  refine ⟨a, cap, h1, h2, h3, h5, h6, fun i hi => ?_⟩
  obtain ⟨ab, ao, ha, hc⟩ := h4 i hi
  exact ⟨ab, ao, ha, cell_then hb hc⟩
/-- What is left of a slice of words behind the first k. -/
theorem StrsIn.drop {w : World} {ab ao cap : Nat} {ws : List ByteArray} (h : StrsIn w (.slice (some ⟨ab, ao, none⟩) ws.length cap) ws) (k : Nat) (hk : k ≤ ws.length) (A : Option Addr) (hA : k < ws.length → A = some ⟨ab, ao + k, none⟩) : StrsIn w (.slice A (ws.length - k) (cap - k)) (ws.drop k) := by
  obtain ⟨a, cap', h1, h2, h3, h5, h6, h4⟩ := h
  obtain ⟨rfl, rfl⟩ : some ⟨ab, ao, none⟩ = a ∧ cap = cap' := by simpa using h1
  refine ⟨A, cap - k, by rw [List.length_drop], by rw [List.length_drop]; omega, by omega, by rw [List.length_drop]; omega, fun s hs => h6 s (List.mem_of_mem_drop hs), fun i hi => ?_⟩
  rw [List.length_drop] at hi
  obtain ⟨ab', ao', e, hc⟩ := h4 (k + i) (by omega)
  obtain ⟨rfl, rfl⟩ : ab = ab' ∧ ao = ao' := by simpa using e
  refine ⟨ab, ao + k, hA (by omega), ?_⟩
  rw [Nat.add_assoc, hc]
  simp [List.getD_eq_getElem?_getD]
theorem StrsIn.take {w : World} {a : Option Addr} {cap : Nat} {ws : List ByteArray} (h : StrsIn w (.slice a ws.length cap) ws) (k : Nat) (hk : k ≤ ws.length) : StrsIn w (.slice a k cap) (ws.take k) := by
  obtain ⟨a', cap', h1, h2, h3, h5, h6, h4⟩ := h
  obtain ⟨rfl, rfl⟩ : a = a' ∧ cap = cap' := by simpa using h1
  refine ⟨a, cap, by rw [List.length_take, Nat.min_eq_left hk], by rw [List.length_take]; omega, h3, by rw [List.length_take]; omega, fun s hs => h6 s (List.mem_of_mem_take hs), fun i hi => ?_⟩
  rw [List.length_take] at hi
  obtain ⟨ab, ao, e, hc⟩ := h4 i (by omega)
  refine ⟨ab, ao, e, ?_⟩
  rw [hc]
  simp [List.getD_eq_getElem?_getD, List.getElem?_take_of_lt (show i < k by omega)]
theorem StrsIn.ne {w : World} {v : Value} {ws : List ByteArray} (h : StrsIn w v ws) (h0 : 0 < ws.length) : ∃ ab ao cap : Nat, v = .slice (some ⟨ab, ao, none⟩) ws.length cap ∧ ws.length ≤ cap ∧ cap ≤ 9223372036854775807 := by
  obtain ⟨a, cap, h1, h2, h3, h5, h6, h4⟩ := h
  obtain ⟨ab, ao, rfl, _⟩ := h4 0 h0
  exact ⟨ab, ao, cap, h1, h2, h3⟩
theorem StrsIn.at {w : World} {ab ao cap : Nat} {n : Nat} {ws : List ByteArray} (h : StrsIn w (.slice (some ⟨ab, ao, none⟩) n cap) ws) (i : Nat) (hi : i < ws.length) : w.cell? ⟨ab, ao + i, none⟩ = some (.string ws[i]) ∧ ws[i].size ≤ 1000000 := by
  obtain ⟨a, cap', h1, h2, h3, h5, h6, h4⟩ := h
  obtain ⟨ab', ao', rfl, hc⟩ := h4 i hi
  obtain ⟨⟨rfl, rfl⟩, _⟩ : (ab = ab' ∧ ao = ao') ∧ _ := by simpa using h1
  refine ⟨?_, h6 _ (List.getElem_mem hi)⟩
  rw [hc]; simp [List.getD_eq_getElem?_getD, hi]
theorem StrsIn.of_own {w : World} {base : Nat} {v : Value} {ws : List ByteArray} (h : w.ownsRow base 9 1 v ws.length (ws.map Value.string)) (hl : ws.length ≤ 2000000) (hs : ∀ s ∈ ws, s.size ≤ 1000000) : StrsIn w v ws := by
  have h' := h
  obtain ⟨h1, h2⟩ := h
  rcases h2 with ⟨e, h0⟩ | ⟨g, cap, cur, e, hg, hh, hc, hm, _⟩
  · exact ⟨none, 0, by rw [e, h0], by omega, by omega, hl, hs, fun i hi => by omega⟩
  · refine ⟨_, cap, e, hc, by unfold maxLen at hm; omega, hl, hs, fun i hi => ⟨g, 0, rfl, ?_⟩⟩
    have := own_cells h' e (j := i) (u := (.string ws[i])) (by simp [hi])
    rw [Nat.zero_add, this]; simp [List.getD_eq_getElem?_getD, hi]

/-- v is a slice of ints of the call's own. -/
def OwnI (w : World) (base : Nat) (v : Value) (zs : List Int) : Prop := w.ownsRow base 3 1 v zs.length (zs.map (Value.int .i64))
theorem OwnI.below {w w' : World} {base : Nat} {v : Value} {zs : List Int} (h : OwnI w base v zs) (hb : Below w.heap.size w w') : OwnI w' base v zs := ownsRow_below h hb
theorem iinfo : (Tryz.prog.info? 3).map (fun i => (i.zero, i.size, i.bytes)) = some (some (.int .i64 0), 1, 8) := by kernel_rfl
theorem append_int {w : World} {base : Nat} {v : Value} {l : List Int} (h : OwnI w base v l) (z : Int) (hn : l.length ≤ 1000000000) (hb : base ≤ w.heap.size) (ty : TypeId) :
    ∃ (v' : Value) (w' : World), (Builtin.append_ #[68, 68] ty #[v, .slice (some ⟨w.heap.size, 0, none⟩) 1 1]).run Tryz.prog (w.alloc (.cells #[.int .i64 z] 3)) = .ok v' w' ∧
      OwnI w' base v' (l ++ [z]) ∧ Below base w w' := by
  have h1 := append_new 68 3 Tryz.underlying68 iinfo rfl (by decide) h [.int .i64 z] 1 rfl (by simp [Value.oneCell']) hn (by omega) (by decide) hb ty
  unfold OwnI
  rw [List.map_append, List.length_append]
  exact h1
/-- The cells of a slice of ints of the call's own. -/
theorem OwnI.at {w : World} {base : Nat} {v : Value} {zs : List Int} (h : OwnI w base v zs) (h0 : 0 < zs.length) : ∃ g cap, v = .slice (some ⟨g, 0, none⟩) zs.length cap ∧ base ≤ g ∧ zs.length ≤ cap ∧ ∀ i, (hi : i < zs.length) → w.cell? ⟨g, i, none⟩ = some (.int .i64 zs[i]) := by
  have h' := h
  obtain ⟨h1, h2⟩ := h
  rcases h2 with ⟨e, h0'⟩ | ⟨g, cap, cur, e, hg, hh, hc, _⟩
  · omega
  · refine ⟨g, cap, e, hg, hc, fun i hi => ?_⟩
    exact own_cells h' e (u := (.int .i64 zs[i])) (by simp [hi])

/-- Pairs as cells, one after the other. -/
def rcells : List (Int × Int) → List Value
  | [] => []
  | r :: l => .int .i64 r.1 :: .int .i64 r.2 :: rcells l
theorem rcells_append : ∀ a b, rcells (a ++ b) = rcells a ++ rcells b
  | [], b => rfl
  | r :: l, b => by simp [rcells, rcells_append l b]
theorem rcells_length : ∀ l, (rcells l).length = l.length * 2
  | [] => rfl
  | r :: l => by simp [rcells, rcells_length l]; omega
theorem rcells_at : ∀ (l : List (Int × Int)) (i : Nat) (h : i < l.length), (rcells l)[2 * i]? = some (.int .i64 l[i].1) ∧ (rcells l)[2 * i + 1]? = some (.int .i64 l[i].2)
  | r :: l, 0, _ => ⟨rfl, rfl⟩
  | r :: l, i + 1, h => by
    have ih := rcells_at l i (by simpa using h)
    simp only [rcells, List.getElem_cons_succ]
    rw [show 2 * (i + 1) + 1 = 2 * i + 1 + 1 + 1 by omega, show 2 * (i + 1) = 2 * i + 1 + 1 by omega]
    simpa using ih
theorem rcells_one (l : List (Int × Int)) : ∀ u ∈ rcells l, u.oneCell' = true := by
  induction l with
  | nil => simp [rcells]
  | cons r l ih => intro u hu; simp [rcells] at hu; rcases hu with rfl | rfl | hu; rfl; rfl; exact ih u hu
/-- v is a slice of readings of the call's own. -/
def OwnR (w : World) (base : Nat) (v : Value) (rs : List (Int × Int)) : Prop := w.ownsRow base 51 2 v rs.length (rcells rs)
theorem rinfo : (Tryz.prog.info? 51).map (fun i => (i.zero, i.size, i.bytes)) = some (some (.agg #[.int .i64 0, .int .i64 0]), 2, 16) := by kernel_rfl
theorem OwnR.slice {w : World} {base : Nat} {v : Value} {l : List (Int × Int)} (h : OwnR w base v l) : ∃ a n c, v = .slice a n c := by
  rcases h.2 with ⟨e, _⟩ | ⟨g, cap, cur, e, _⟩
  · exact ⟨_, _, _, e⟩
  · exact ⟨_, _, _, e⟩
theorem OwnI.slice {w : World} {base : Nat} {v : Value} {l : List Int} (h : OwnI w base v l) : ∃ a n c, v = .slice a n c := by
  rcases h.2 with ⟨e, _⟩ | ⟨g, cap, cur, e, _⟩
  · exact ⟨_, _, _, e⟩
  · exact ⟨_, _, _, e⟩
theorem not_long {n : Int} (h : ¬ longI n) : I64 n := by unfold longI at h; unfold I64; omega
theorem OwnR.nil (w : World) (base : Nat) : OwnR w base (.slice none 0 0) [] := World.ownsRow_nil w base _ 2
theorem OwnR.below {w w' : World} {base : Nat} {v : Value} {zs : List (Int × Int)} (h : OwnR w base v zs) (hb : Below w.heap.size w w') : OwnR w' base v zs := ownsRow_below h hb
theorem append_rd {w : World} {base : Nat} {v : Value} {l : List (Int × Int)} (h : OwnR w base v l) (x y : Int) (hn : l.length ≤ 1000000000) (hb : base ≤ w.heap.size) (ty : TypeId) :
    ∃ (v' : Value) (w' : World), (Builtin.append_ #[32, 32] ty #[v, .slice (some ⟨w.heap.size, 0, none⟩) 1 1]).run Tryz.prog (w.alloc (.cells #[.int .i64 x, .int .i64 y] 51)) = .ok v' w' ∧
      OwnR w' base v' (l ++ [(x, y)]) ∧ Below base w w' := by
  have h1 := append_new 32 51 Tryz.underlying32 rinfo rfl (by decide) h [.int .i64 x, .int .i64 y] 1 rfl (by simp [Value.oneCell']) hn (by omega) (by decide) hb ty
  unfold OwnR
  rw [rcells_append, List.length_append]
  exact h1
/-- Block k holds cells of a type. -/
def Typed (w : World) (k : Nat) (T : TypeId) : Prop := ∃ cs fr, w.heap[k]? = some (.cells cs T fr)
/-- v is a slice that holds the pairs, in blocks from B on. -/
def BiasIn (B : Nat) (w : World) (v : Value) (l : List (Int × Int)) : Prop :=
  ∃ (a : Option Addr) (cap : Nat), v = .slice a l.length cap ∧ l.length ≤ 2000000 ∧ (∀ p ∈ l, I64 p.1 ∧ I64 p.2) ∧
    ∀ i, i < l.length → ∃ ab ao : Nat, a = some ⟨ab, ao, none⟩ ∧ B ≤ ab ∧ w.cell? ⟨ab, ao + i * 2, none⟩ = some (.int .i64 (l.getD i (0, 0)).1) ∧ w.cell? ⟨ab, ao + i * 2 + 1, none⟩ = some (.int .i64 (l.getD i (0, 0)).2) ∧ Typed w ab 51
theorem BiasIn.of_own {w : World} {base : Nat} {v : Value} {l : List (Int × Int)} (h : OwnR w base v l) (hl : l.length ≤ 2000000) (hi : ∀ p ∈ l, I64 p.1 ∧ I64 p.2) : BiasIn base w v l := by
  have h' := h
  obtain ⟨h1, h2⟩ := h
  rcases h2 with ⟨e, h0⟩ | ⟨g, cap, cur, e, hg, hh, hc, _⟩
  · exact ⟨none, 0, by rw [e, h0], hl, hi, fun i hi => by omega⟩
  · refine ⟨_, cap, e, hl, hi, fun i hi => ⟨g, 0, rfl, hg, ?_, ?_, _, _, hh⟩⟩
    · have := own_cells h' e (rcells_at l i hi).1
      rw [Nat.zero_add, show i * 2 = 2 * i by omega, this]; simp [List.getD_eq_getElem?_getD, hi]
    · have := own_cells h' e (rcells_at l i hi).2
      rw [Nat.zero_add, show i * 2 + 1 = 2 * i + 1 by omega, this]; simp [List.getD_eq_getElem?_getD, hi]
/-- v is a slice that holds the bytes, in blocks from B on. -/
def BytesF (B : Nat) (w : World) (v : Value) (l : List UInt8) : Prop :=
  ∃ (a : Option Addr) (cap : Nat), v = .slice a l.length cap ∧ l.length ≤ 1000000 ∧ ∀ i, i < l.length → ∃ ab ao : Nat, a = some ⟨ab, ao, none⟩ ∧ B ≤ ab ∧ w.cell? ⟨ab, ao + i, none⟩ = some (.int .u8 (l.getD i 0).toNat) ∧ Typed w ab 5
theorem BytesF.bytesIn {B : Nat} {w : World} {v : Value} {l : List UInt8} (h : BytesF B w v l) : BytesIn w v l := by
  obtain ⟨a, cap, h1, h2, h3⟩ := h
  refine ⟨a, cap, h1, h2, fun i hi => ?_⟩
  obtain ⟨ab, ao, e, _, hc, _⟩ := h3 i hi
  exact ⟨ab, ao, e, hc⟩
theorem BytesF.of_own {w : World} {base : Nat} {v : Value} {l : List UInt8} (h : w.ownsRow base 5 1 v l.length (bcs l)) (hl : l.length ≤ 1000000) : BytesF base w v l := by
  have h' := h
  obtain ⟨h1, h2⟩ := h
  rcases h2 with ⟨e, h0⟩ | ⟨g, cap, cur, e, hg, hh, hc, _⟩
  · exact ⟨none, 0, by rw [e, h0], hl, fun i hi => by omega⟩
  · refine ⟨_, cap, e, hl, fun i hi => ⟨g, 0, rfl, hg, ?_, _, _, hh⟩⟩
    have := own_cells h' e (j := i) (u := (.int .u8 l[i].toNat)) (by simp [bcs, hi])
    rw [Nat.zero_add, this]; simp [List.getD_eq_getElem?_getD, hi]

/-- The blocks from B on, but for block b, hold what they held. -/
def Kept (B b : Nat) (w w' : World) : Prop := ∀ k, B ≤ k → k ≠ b → k < w.heap.size → w'.heap[k]? = w.heap[k]?
theorem Kept.of_below {B b : Nat} {w w' : World} (h : Below w.heap.size w w') : Kept B b w w' := fun k _ _ hk => h.block k hk
theorem Kept.of_but {B b : Nat} {w w' : World} (h : But w.heap.size b w w') : Kept B b w w' := fun k _ hn hk => h.block k hk hn
theorem Kept.cell {B b : Nat} {w w' : World} (h : Kept B b w w') {a : Addr} {v : Value} (hB : B ≤ a.block) (hn : a.block ≠ b) (hc : w.cell? a = some v) : w'.cell? a = some v := by
  rw [World.cell?_of_block (w := w) (h _ hB hn (World.block_lt_of_cell? _ _ hc))]; exact hc
theorem Kept.typed {B b : Nat} {w w' : World} (h : Kept B b w w') {k : Nat} {T : TypeId} (hB : B ≤ k) (hn : k ≠ b) (ht : Typed w k T) : Typed w' k T := by
  obtain ⟨cs, fr, e⟩ := ht
  have hlt : k < w.heap.size := (Array.getElem?_eq_some_iff.1 e).1
  exact ⟨cs, fr, by rw [h k hB hn hlt]; exact e⟩
theorem BiasIn.kept {B b : Nat} {w w' : World} {v : Value} {l : List (Int × Int)} (h : BiasIn B w v l) (hk : Kept B b w w') (hb : b < B ∨ w.heap.size ≤ b) : BiasIn B w' v l := by
  obtain ⟨a, cap, h1, h2, h3, h4⟩ := h
  refine ⟨a, cap, h1, h2, h3, fun i hi => ?_⟩
  obtain ⟨ab, ao, ha, hB, c0, c1, ht⟩ := h4 i hi
  have hlt : ab < w.heap.size := World.block_lt_of_cell? (a := ⟨ab, ao + i * 2, none⟩) _ c0
  exact ⟨ab, ao, ha, hB, hk.cell (a := ⟨ab, ao + i * 2, none⟩) hB (by simp; omega) c0, hk.cell (a := ⟨ab, ao + i * 2 + 1, none⟩) hB (by simp; omega) c1, hk.typed hB (by omega) ht⟩
theorem BytesF.kept {B b : Nat} {w w' : World} {v : Value} {l : List UInt8} (h : BytesF B w v l) (hk : Kept B b w w') (hb : b < B ∨ w.heap.size ≤ b) : BytesF B w' v l := by
  obtain ⟨a, cap, h1, h2, h4⟩ := h
  refine ⟨a, cap, h1, h2, fun i hi => ?_⟩
  obtain ⟨ab, ao, ha, hB, c0, ht⟩ := h4 i hi
  have hlt : ab < w.heap.size := World.block_lt_of_cell? (a := ⟨ab, ao + i, none⟩) _ c0
  exact ⟨ab, ao, ha, hB, hk.cell (a := ⟨ab, ao + i, none⟩) hB (by simp; omega) c0, hk.typed hB (by omega) ht⟩
theorem BiasIn.below {B : Nat} {w w' : World} {v : Value} {l : List (Int × Int)} (h : BiasIn B w v l) (hb : Below w.heap.size w w') : BiasIn B w' v l := h.kept (b := w.heap.size) (Kept.of_below hb) (Or.inr (Nat.le_refl _))
theorem BytesF.below {B : Nat} {w w' : World} {v : Value} {l : List UInt8} (h : BytesF B w v l) (hb : Below w.heap.size w w') : BytesF B w' v l := h.kept (b := w.heap.size) (Kept.of_below hb) (Or.inr (Nat.le_refl _))
theorem BiasIn.mono {B C : Nat} {w : World} {v : Value} {l : List (Int × Int)} (h : BiasIn B w v l) (hC : C ≤ B) : BiasIn C w v l := by
  obtain ⟨a, cap, h1, h2, h3, h4⟩ := h
  refine ⟨a, cap, h1, h2, h3, fun i hi => ?_⟩
  obtain ⟨ab, ao, ha, hB, c⟩ := h4 i hi
  exact ⟨ab, ao, ha, Nat.le_trans hC hB, c⟩
theorem BytesF.mono {B C : Nat} {w : World} {v : Value} {l : List UInt8} (h : BytesF B w v l) (hC : C ≤ B) : BytesF C w v l := by
  obtain ⟨a, cap, h1, h2, h4⟩ := h
  refine ⟨a, cap, h1, h2, fun i hi => ?_⟩
  obtain ⟨ab, ao, ha, hB, c⟩ := h4 i hi
  exact ⟨ab, ao, ha, Nat.le_trans hC hB, c⟩
theorem BytesF.nil (B : Nat) (w : World) : BytesF B w (.slice none 0 0) [] := ⟨none, 0, rfl, by simp, fun i hi => by simp at hi⟩
theorem BiasIn.nil (B : Nat) (w : World) : BiasIn B w (.slice none 0 0) [] := ⟨none, 0, rfl, by simp, by simp, fun i hi => by simp at hi⟩

/-- An append to a slice of the call's own leaves blocks of another type. -/
theorem Typed.grown {w w' : World} {base n : Nat} {e T : TypeId} {sz : Nat} {v : Value} {cs : List Value} (hown : w.ownsRow base e sz v n cs) (hg : w.grownBy w' v.ownBlock) (hT : T ≠ e) {k : Nat} (h : Typed w k T) : w'.heap[k]? = w.heap[k]? := by
  obtain ⟨cs', fr, hk⟩ := h
  refine hg.block k (Array.getElem?_eq_some_iff.1 hk).1 fun e' => ?_
  rcases hown.2 with ⟨hv, _⟩ | ⟨g, cap, cur, hv, _, hgg, _⟩
  · rw [hv] at e'; cases e'
  · rw [hv] at e'
    obtain rfl : k = g := by simpa [Value.ownBlock] using e'
    rw [hk] at hgg
    simp at hgg
    exact hT hgg.2.1
theorem BytesF.grown {B base n : Nat} {w w' : World} {e : TypeId} {sz : Nat} {v u : Value} {cs : List Value} {l : List UInt8} (h : BytesF B w u l) (hown : w.ownsRow base e sz v n cs) (hg : w.grownBy w' v.ownBlock) (hT : 5 ≠ e) : BytesF B w' u l := by
  obtain ⟨a, cap, h1, h2, h4⟩ := h
  refine ⟨a, cap, h1, h2, fun i hi => ?_⟩
  obtain ⟨ab, ao, ha, hB, c0, ht⟩ := h4 i hi
  have hb := ht.grown hown hg hT
  obtain ⟨cs', fr, hk⟩ := ht
  refine ⟨ab, ao, ha, hB, ?_, cs', fr, by rw [hb]; exact hk⟩
  have e' : w'.cell? ⟨ab, ao + i, none⟩ = w.cell? ⟨ab, ao + i, none⟩ := World.cell?_of_block (w := w) hb
  rw [e']; exact c0
theorem BiasIn.grown {B base n : Nat} {w w' : World} {e : TypeId} {sz : Nat} {v u : Value} {cs : List Value} {l : List (Int × Int)} (h : BiasIn B w u l) (hown : w.ownsRow base e sz v n cs) (hg : w.grownBy w' v.ownBlock) (hT : 51 ≠ e) : BiasIn B w' u l := by
  obtain ⟨a, cap, h1, h2, h3, h4⟩ := h
  refine ⟨a, cap, h1, h2, h3, fun i hi => ?_⟩
  obtain ⟨ab, ao, ha, hB, c0, c1, ht⟩ := h4 i hi
  have hb := ht.grown hown hg hT
  obtain ⟨cs', fr, hk⟩ := ht
  refine ⟨ab, ao, ha, hB, ?_, ?_, cs', fr, by rw [hb]; exact hk⟩
  · have e' : w'.cell? ⟨ab, ao + i * 2, none⟩ = w.cell? ⟨ab, ao + i * 2, none⟩ := World.cell?_of_block (w := w) hb
    rw [e']; exact c0
  · have e' : w'.cell? ⟨ab, ao + i * 2 + 1, none⟩ = w.cell? ⟨ab, ao + i * 2 + 1, none⟩ := World.cell?_of_block (w := w) hb
    rw [e']; exact c1

/-- The cells of an event. -/
def evCells (x : Ev) (bv cv : Value) : List Value :=
  [.int .i64 x.kind, .string x.text, bv, .int .i64 x.n, .int .i64 x.station, .string x.name, .int .i64 x.start, .bool x.closed, .int .i64 x.face, .int .i64 x.pa, .int .i64 x.pb, .int .i64 x.pc, cv]
/-- The numbers of an event are ints, its strings no longer than any here. -/
structure Ev.Ok (x : Ev) : Prop where
  kind : I64 x.kind
  text : x.text.size ≤ 1000000
  n : I64 x.n
  station : I64 x.station
  name : x.name.size ≤ 1000000
  start : I64 x.start
  face : I64 x.face
  pa : I64 x.pa
  pb : I64 x.pb
  pc : I64 x.pc
/-- bv and cv are the slices of an event. -/
structure EvParts (B : Nat) (w : World) (x : Ev) (bv cv : Value) : Prop where
  ok : x.Ok
  bytes : BytesF B w bv x.bytes
  bias : BiasIn B w cv x.bias
theorem EvParts.below {B : Nat} {w w' : World} {x : Ev} {bv cv : Value} (h : EvParts B w x bv cv) (hb : Below w.heap.size w w') : EvParts B w' x bv cv := ⟨h.ok, h.bytes.below hb, h.bias.below hb⟩
theorem EvParts.kept {B b : Nat} {w w' : World} {x : Ev} {bv cv : Value} (h : EvParts B w x bv cv) (hk : Kept B b w w') (hb : b < B ∨ w.heap.size ≤ b) : EvParts B w' x bv cv := ⟨h.ok, h.bytes.kept hk hb, h.bias.kept hk hb⟩
theorem EvParts.mono {B C : Nat} {w : World} {x : Ev} {bv cv : Value} (h : EvParts B w x bv cv) (hC : C ≤ B) : EvParts C w x bv cv := ⟨h.ok, h.bytes.mono hC, h.bias.mono hC⟩
theorem EvParts.grown {B base n : Nat} {w w' : World} {v bv cv : Value} {cs : List Value} {x : Ev} (h : EvParts B w x bv cv) (hown : w.ownsRow base 36 13 v n cs) (hg : w.grownBy w' v.ownBlock) : EvParts B w' x bv cv :=
  ⟨h.ok, h.bytes.grown hown hg (by decide), h.bias.grown hown hg (by decide)⟩
def Ev.val (x : Ev) (bv cv : Value) : Value := .agg (evCells x bv cv).toArray
theorem zero_parts (B : Nat) (w : World) : EvParts B w Ev.zero (.slice none 0 0) (.slice none 0 0) :=
  ⟨⟨I64.zero, by simp [Ev.zero, ByteArray.size], I64.zero, I64.zero, by simp [Ev.zero, ByteArray.size], I64.zero, I64.zero, I64.zero, I64.zero, I64.zero⟩, BytesF.nil _ _, BiasIn.nil _ _⟩
end Go.Proofs.YtobaoekibnloiaaGreatDoor
/- The reference's number, plain: the shape of a word and whether it is a number. No walk. -/
namespace Go.Proofs.YtobaoekibnloiaaGreatDoor
open Go Go.RowKit

def cond (neg : Bool) (t : List UInt8) : Prop := t ≠ [] ∧ t.length ≤ 18 ∧ (t.head? = some 48 → t = [48] ∧ neg = false) ∧ ∀ b ∈ t, isD b = true
theorem num_none {s : ByteArray} {neg : Bool} {t : List UInt8} (hs : s = ⟨((if neg then [45] else []) ++ t).toArray⟩) (hh : neg = false → t.head? ≠ some 45) (h : ¬ cond neg t) (m : Int) (hm : ¬ longI m) : s ≠ istr m := by
  intro e
  obtain ⟨neg', t', e', hd, h0, hl, hz⟩ := ref_of_num m hm
  rw [hs, e'] at e
  have e2 : ((if neg then [45] else []) ++ t) = ((if neg' then [45] else []) ++ t') := by
    have := congrArg (fun x : ByteArray => x.data.toList) e
    simpa using this
  have h45 : ∀ r, t' ≠ 45 :: r := by
    intro r hr
    have := hd 45 (by rw [hr]; simp)
    revert this; decide
  have key : neg = neg' ∧ t = t' := by
    cases neg <;> cases neg'
    · simpa using e2
    · simp at e2
      exact absurd (by rw [e2]; rfl) (hh rfl)
    · simp at e2
      exact absurd e2.symm (h45 t)
    · simpa using e2
  obtain ⟨rfl, rfl⟩ := key
  exact h ⟨h0, hl, hz, hd⟩

/-- What the reference's number returns. -/
def RNumIs (s : ByteArray) (w : World) (e : Ending) (w' : World) : Prop :=
  ∃ (n : Int) (ok : Bool), I64 n ∧ e = .returned (.tuple #[.int .i64 n, .bool ok]) ∧ (ok = true → ¬ longI n ∧ s = istr n) ∧ (∀ m, ¬ longI m → s = istr m → ok = true) ∧ Below w.heap.size w w'
theorem rnum_bad {s : ByteArray} {neg : Bool} {t : List UInt8} (hs : s = ⟨((if neg then [45] else []) ++ t).toArray⟩) (hh : neg = false → t.head? ≠ some 45) (h : ¬ cond neg t) {w w' : World} (hb : Below w.heap.size w w') : RNumIs s w (.returned (.tuple #[.int .i64 0, .bool false])) w' :=
  ⟨0, false, I64.zero, rfl, fun h => absurd h (by simp), fun m hm e => absurd e (num_none hs hh h m hm), hb⟩
theorem rnum_good {s : ByteArray} {neg : Bool} {t : List UInt8} (hs : s = ⟨((if neg then [45] else []) ++ t).toArray⟩) (h : cond neg t) {w w' : World} (hb : Below w.heap.size w w') : RNumIs s w (.returned (.tuple #[.int .i64 (if neg then -(valL t : Int) else valL t), .bool true])) w' := by
  have hn := num_of_ref neg t h.2.2.2 h.1 h.2.1 h.2.2.1
  refine ⟨_, true, ?_, rfl, fun _ => ⟨hn.1, hs.trans hn.2⟩, fun _ _ _ => rfl, hb⟩
  have := hn.1
  unfold longI at this
  unfold I64
  omega
theorem valL_18 {t : List UInt8} (hl : t.length ≤ 18) (hd : ∀ b ∈ t, isD b = true) : valL t < 1000000000000000000 :=
  Nat.lt_of_lt_of_le (valL_lt t.length t rfl hd) (Nat.le_trans (Nat.pow_le_pow_right (by omega) hl) (by decide))
theorem str_cons (s : ByteArray) (h : 0 < s.size) : s = ⟨(s[0] :: (s.extract 1 s.size).data.toList).toArray⟩ := by
  have hl : s.data.toList.length = s.size := Array.length_toList
  apply ByteArray.ext
  apply Array.toList_inj.1
  rw [Lib.extract_to_end]
  have e := List.drop_eq_getElem_cons (l := s.data.toList) (i := 0) (by omega)
  rw [List.drop_zero] at e
  exact e
end Go.Proofs.YtobaoekibnloiaaGreatDoor
/- The reference's number. -/
namespace Go.Proofs.YtobaoekibnloiaaGreatDoor
open Go Go.RowKit

set_option maxHeartbeats 4000000 in
set_option maxRecDepth 100000 in
theorem rnumber_pos (t : ByteArray) (hss : t.size ≤ 1000000) (w : World) (h0 : (h : 0 < t.size) → t[0].toNat ≠ 45) :
    Calls Tryz.prog 66 #[.string t] w (RNumIs t w) := by
  have hshape : t = ⟨((if false then [45] else []) ++ t.data.toList).toArray⟩ := rfl
  have hh : (false : Bool) = false → t.data.toList.head? ≠ some 45 := by
    intro _
    rcases Nat.eq_zero_or_pos t.size with e | e
    · have hll : t.data.toList.length = t.size := Array.length_toList
      rw [List.eq_nil_of_length_eq_zero (by omega : t.data.toList.length = 0)]; simp
    · have e2 := str_cons t e
      rw [e2]
      intro h
      exact h0 e (by have := Option.some.inj h; rw [this]; rfl)
  go_enter Tryz.func66, Tryz.ntmps66
  have Hbad : Hid (¬ cond false t.data.toList → RNumIs t w (.returned (.tuple #[.int .i64 0, .bool false])) w) := fun h => rnum_bad hshape hh h (Below.refl _ _)
  have Hgood : Hid (cond false t.data.toList → RNumIs t w (.returned (.tuple #[.int .i64 (valL t.data.toList : Int), .bool true])) w) := fun h => rnum_good hshape h (Below.refl _ _)
  clear hshape hh
  by_cases htn : t = ⟨#[]⟩
  · have hbt : ¬ cond false t.data.toList := by intro hc; apply hc.1; rw [htn]
    have Hbt := Lib.hid hbt
    have et : (t.toList == []) = true := by rw [htn, ByteArray.toList_eq]; rfl
    have et2 : t.toList.isEmpty = true := by rw [htn, ByteArray.toList_eq]; rfl
    clear htn hbt
    go_wp2_with fail
    refine bodyPost_ret (v := .tuple #[.int .i64 0, .bool false]) (by simp [results, Tryz.results66, go_sem]) rfl (Hbad.out ?_)
    exact Hbt.out
  · have et : (t.toList == []) = false := by
      have := str_ne htn
      rwa [ByteArray.toList_eq (⟨#[]⟩ : ByteArray)] at this
    have et2 : t.toList.isEmpty = false := by
      cases hl : t.toList with
      | nil => rw [hl] at et; cases et
      | cons a b => rfl
    have htp : 0 < t.size := by
      rcases Nat.eq_zero_or_pos t.size with e | e
      · exfalso; apply htn
        apply ByteArray.ext
        exact Array.eq_empty_of_size_eq_zero e
      · exact e
    have Hne : Hid (t.data.toList ≠ []) := by
      intro e
      have hll : t.data.toList.length = t.size := Array.length_toList
      rw [e] at hll; simp at hll; omega
    have hhead : t.data.toList.head? = some t[0] := by
      have hll : t.data.toList.length = t.size := Array.length_toList
      rw [List.head?_eq_getElem?, List.getElem?_eq_getElem (by omega)]; rfl
    have h45 := h0 htp
    clear htn
    by_cases hl18 : t.size ≤ 18
    · by_cases hz : t[0].toNat = 48
      · have hz8 : t[0] = 48 := UInt8.toNat_inj.1 (by rw [hz]; rfl)
        by_cases hs0 : t = ⟨#[48]⟩
        · have es : (t.toList != [48]) = false := by rw [hs0, ByteArray.toList_eq]; rfl
          have es2 : (t.toList == [48]) = true := by rw [hs0, ByteArray.toList_eq]; rfl
          have Hz : Hid (t.data.toList.head? = some 48 → t.data.toList = [48] ∧ false = false) := by intro _; rw [hs0]; exact ⟨rfl, rfl⟩
          clear hs0 hhead hz8
          go_wp2_with fail
          go_loop [5, 6] (fun a x => ∃ k : Nat, k ≤ t.size ∧ x = .int .i64 k ∧ a = .int .i64 (valL (t.data.toList.take k) : Nat) ∧ Hid (∀ b ∈ t.data.toList.take k, isD b = true)) (fun _ x => (t.size - intOf x).toNat)
          case atStart => exact ⟨0, by omega, rfl, rfl, fun b hb => by simp at hb⟩
          case round =>
            obtain ⟨k, hk, rfl, rfl, hp⟩ := hrel
            have hv18 := valL_18 (t := t.data.toList.take k) (by rw [List.length_take]; omega) hp.out
            by_cases hlt : k < t.size
            · have hll : t.data.toList.length = t.size := Array.length_toList
              have hcl := t[k].toNat_lt
              have hmem : t[k] ∈ t.data.toList := List.getElem_mem (l := t.data.toList) (n := k) (by omega)
              have htk : t.data.toList.take (k + 1) = t.data.toList.take k ++ [t[k]] := by
                rw [List.take_succ_eq_append_getElem (by omega : k < t.data.toList.length)]; rfl
              by_cases h1 : 48 ≤ t[k].toNat
              · by_cases h2 : t[k].toNat ≤ 57
                · have hv : valL (t.data.toList.take (k + 1)) = 10 * valL (t.data.toList.take k) + (t[k].toNat - 48) := by rw [htk, valL_snoc]
                  have hp' : ∀ b ∈ t.data.toList.take (k + 1), isD b = true := by
                    rw [htk]; intro b hb
                    rcases List.mem_append.1 hb with hb | hb
                    · exact hp.out b hb
                    · obtain rfl := List.mem_singleton.1 hb; simp [isD, h1, h2]
                  have hv18' := valL_18 (t := t.data.toList.take (k + 1)) (by rw [List.length_take]; omega) hp'
                  have Hp' := Lib.hid hp'
                  rw [hv] at hv18'
                  have Hv := Lib.hid hv
                  clear hp' hp hv htk hmem
                  generalize valL (t.data.toList.take k) = acc at *
                  go_wp2_with fail
                  go_round
                  case rel => exact ⟨k + 1, by omega, by go_num, by rw [Hv.out]; congr 1; omega, Hp'.out⟩
                  case measure => simp [intOf]; omega
                · have Hmem := Lib.hid hmem
                  have hnd : isD t[k] = false := by simp [isD]; omega
                  have Hnd := Lib.hid hnd
                  clear hmem htk hnd
                  generalize valL (t.data.toList.take k) = acc at *
                  go_wp2_with fail
                  refine bodyPost_ret (v := .tuple #[.int .i64 0, .bool false]) (by simp [results, Tryz.results66, go_sem]) rfl (Hbad.out ?_)
                  intro hc; have := hc.2.2.2 _ Hmem.out; rw [Hnd.out] at this; cases this
              · have Hmem := Lib.hid hmem
                have hnd : isD t[k] = false := by simp [isD]; omega
                have Hnd := Lib.hid hnd
                clear hmem htk hnd
                generalize valL (t.data.toList.take k) = acc at *
                go_wp2_with fail
                refine bodyPost_ret (v := .tuple #[.int .i64 0, .bool false]) (by simp [results, Tryz.results66, go_sem]) rfl (Hbad.out ?_)
                intro hc; have := hc.2.2.2 _ Hmem.out; rw [Hnd.out] at this; cases this
            · obtain rfl : k = t.size := by omega
              have hll : t.data.toList.length = t.size := Array.length_toList
              have hpp := hp.out
              rw [List.take_of_length_le (Nat.le_of_eq hll)] at hpp hv18 ⊢
              have Hpp := Lib.hid hpp
              have Hval := Hgood.out
              skip
              clear hpp hp
              generalize valL t.data.toList = acc at *
              go_wp2_with fail
              refine bodyPost_ret (v := .tuple #[.int .i64 (acc : Int), .bool true]) (by simp [results, Tryz.results66, go_sem]) rfl (Hval ?_)
              exact ⟨Hne.out, by omega, by simpa using Hz.out, Hpp.out⟩
        · have es : (t.toList != [48]) = true := by
            have := str_bne hs0
            rwa [ByteArray.toList_eq (⟨#[48]⟩ : ByteArray)] at this
          have es2 : (t.toList == [48]) = false := by
            have := str_ne hs0
            rwa [ByteArray.toList_eq (⟨#[48]⟩ : ByteArray)] at this
          have Hbt : Hid (¬ cond false t.data.toList) := by
            intro hc
            have := (hc.2.2.1 (by rw [hhead, hz8])).1
            apply hs0
            apply ByteArray.ext
            apply Array.toList_inj.1
            rw [this]
          clear hhead hz8 hs0
          go_wp2_with fail
          refine bodyPost_ret (v := .tuple #[.int .i64 0, .bool false]) (by simp [results, Tryz.results66, go_sem]) rfl (Hbad.out ?_)
          exact Hbt.out
      · have Hz : Hid (t.data.toList.head? = some 48 → t.data.toList = [48] ∧ false = false) := by
          intro h
          rw [hhead] at h
          injection h with h
          rw [h] at hz
          exact absurd rfl hz
        clear hhead
        go_wp2_with fail
        go_loop [5, 6] (fun a x => ∃ k : Nat, k ≤ t.size ∧ x = .int .i64 k ∧ a = .int .i64 (valL (t.data.toList.take k) : Nat) ∧ Hid (∀ b ∈ t.data.toList.take k, isD b = true)) (fun _ x => (t.size - intOf x).toNat)
        case atStart => exact ⟨0, by omega, rfl, rfl, fun b hb => by simp at hb⟩
        case round =>
          obtain ⟨k, hk, rfl, rfl, hp⟩ := hrel
          have hv18 := valL_18 (t := t.data.toList.take k) (by rw [List.length_take]; omega) hp.out
          by_cases hlt : k < t.size
          · have hll : t.data.toList.length = t.size := Array.length_toList
            have hcl := t[k].toNat_lt
            have hmem : t[k] ∈ t.data.toList := List.getElem_mem (l := t.data.toList) (n := k) (by omega)
            have htk : t.data.toList.take (k + 1) = t.data.toList.take k ++ [t[k]] := by
              rw [List.take_succ_eq_append_getElem (by omega : k < t.data.toList.length)]; rfl
            by_cases h1 : 48 ≤ t[k].toNat
            · by_cases h2 : t[k].toNat ≤ 57
              · have hv : valL (t.data.toList.take (k + 1)) = 10 * valL (t.data.toList.take k) + (t[k].toNat - 48) := by rw [htk, valL_snoc]
                have hp' : ∀ b ∈ t.data.toList.take (k + 1), isD b = true := by
                  rw [htk]; intro b hb
                  rcases List.mem_append.1 hb with hb | hb
                  · exact hp.out b hb
                  · obtain rfl := List.mem_singleton.1 hb; simp [isD, h1, h2]
                have hv18' := valL_18 (t := t.data.toList.take (k + 1)) (by rw [List.length_take]; omega) hp'
                have Hp' := Lib.hid hp'
                rw [hv] at hv18'
                have Hv := Lib.hid hv
                clear hp' hp hv htk hmem
                generalize valL (t.data.toList.take k) = acc at *
                go_wp2_with fail
                go_round
                case rel => exact ⟨k + 1, by omega, by go_num, by rw [Hv.out]; congr 1; omega, Hp'.out⟩
                case measure => simp [intOf]; omega
              · have Hmem := Lib.hid hmem
                have hnd : isD t[k] = false := by simp [isD]; omega
                have Hnd := Lib.hid hnd
                clear hmem htk hnd
                generalize valL (t.data.toList.take k) = acc at *
                go_wp2_with fail
                refine bodyPost_ret (v := .tuple #[.int .i64 0, .bool false]) (by simp [results, Tryz.results66, go_sem]) rfl (Hbad.out ?_)
                intro hc; have := hc.2.2.2 _ Hmem.out; rw [Hnd.out] at this; cases this
            · have Hmem := Lib.hid hmem
              have hnd : isD t[k] = false := by simp [isD]; omega
              have Hnd := Lib.hid hnd
              clear hmem htk hnd
              generalize valL (t.data.toList.take k) = acc at *
              go_wp2_with fail
              refine bodyPost_ret (v := .tuple #[.int .i64 0, .bool false]) (by simp [results, Tryz.results66, go_sem]) rfl (Hbad.out ?_)
              intro hc; have := hc.2.2.2 _ Hmem.out; rw [Hnd.out] at this; cases this
          · obtain rfl : k = t.size := by omega
            have hll : t.data.toList.length = t.size := Array.length_toList
            have hpp := hp.out
            rw [List.take_of_length_le (Nat.le_of_eq hll)] at hpp hv18 ⊢
            have Hpp := Lib.hid hpp
            have Hval := Hgood.out
            skip
            clear hpp hp
            generalize valL t.data.toList = acc at *
            go_wp2_with fail
            refine bodyPost_ret (v := .tuple #[.int .i64 (acc : Int), .bool true]) (by simp [results, Tryz.results66, go_sem]) rfl (Hval ?_)
            exact ⟨Hne.out, by omega, by simpa using Hz.out, Hpp.out⟩
    · have Hbt : Hid (¬ cond false t.data.toList) := by
        intro hc
        have := hc.2.1
        have hll : t.data.toList.length = t.size := Array.length_toList
        omega
      clear hhead
      go_wp2_with fail
      refine bodyPost_ret (v := .tuple #[.int .i64 0, .bool false]) (by simp [results, Tryz.results66, go_sem]) rfl (Hbad.out ?_)
      exact Hbt.out

set_option maxHeartbeats 4000000 in
set_option maxRecDepth 100000 in
theorem rnumber_neg (s : ByteArray) (hss : s.size ≤ 1000000) (w : World) (h1 : 0 < s.size) (h45 : s[0].toNat = 45) :
    Calls Tryz.prog 66 #[.string s] w (RNumIs s w) := by
  obtain ⟨t, ht⟩ : ∃ t, s.extract 1 s.size = t := ⟨_, rfl⟩
  have hshape : s = ⟨((if true then [45] else []) ++ t.data.toList).toArray⟩ := by
    have e := str_cons s h1
    have e45 : s[0] = 45 := UInt8.toNat_inj.1 (by rw [h45]; rfl)
    rw [e45, ht] at e
    exact e
  have hts : t.size + 1 = s.size := by
    have hl1 : s.data.toList.length = s.size := Array.length_toList
    have hl2 : t.data.toList.length = t.size := Array.length_toList
    have : s.data.toList = 45 :: t.data.toList := by
      have := congrArg (fun x : ByteArray => x.data.toList) hshape
      simpa using this
    rw [this] at hl1
    simp only [List.length_cons] at hl1
    omega
  have hh : (true : Bool) = false → t.data.toList.head? ≠ some 45 := fun h => by cases h
  have hs48 : s ≠ ⟨#[48]⟩ := by intro h; subst h; exact absurd h45 (by decide : ¬ ((⟨#[48]⟩ : ByteArray)[0]'(by decide)).toNat = 45)
  have es : (s.toList != [48]) = true := by
    have := str_bne hs48
    rwa [ByteArray.toList_eq (⟨#[48]⟩ : ByteArray)] at this
  have es2 : (s.toList == [48]) = false := by
    have := str_ne hs48
    rwa [ByteArray.toList_eq (⟨#[48]⟩ : ByteArray)] at this
  clear hs48
  have es0 : s.toList.isEmpty = false := by
    cases hl : s.toList with
    | nil =>
      have e := ByteArray.toList_eq s
      rw [hl] at e
      have hll : s.data.toList.length = s.size := Array.length_toList
      rw [← e] at hll; simp at hll; omega
    | cons a b => rfl
  go_enter Tryz.func66, Tryz.ntmps66
  have Hbad : Hid (¬ cond true t.data.toList → RNumIs s w (.returned (.tuple #[.int .i64 0, .bool false])) w) := fun h => rnum_bad hshape hh h (Below.refl _ _)
  have Hgood : Hid (cond true t.data.toList → RNumIs s w (.returned (.tuple #[.int .i64 (-(valL t.data.toList : Int)), .bool true])) w) := fun h => rnum_good hshape h (Below.refl _ _)
  clear hshape hh
  by_cases htn : t = ⟨#[]⟩
  · have hbt : ¬ cond true t.data.toList := by intro hc; apply hc.1; rw [htn]
    have Hbt := Lib.hid hbt
    have et : (t.toList == []) = true := by rw [htn, ByteArray.toList_eq]; rfl
    clear htn hbt
    go_wp2_with fail
    refine bodyPost_ret (v := .tuple #[.int .i64 0, .bool false]) (by simp [results, Tryz.results66, go_sem]) rfl (Hbad.out ?_)
    exact Hbt.out
  · have et : (t.toList == []) = false := by
      have := str_ne htn
      rwa [ByteArray.toList_eq (⟨#[]⟩ : ByteArray)] at this
    have et2 : t.toList.isEmpty = false := by
      cases hl : t.toList with
      | nil => rw [hl] at et; cases et
      | cons a b => rfl
    have htp : 0 < t.size := by
      rcases Nat.eq_zero_or_pos t.size with e | e
      · exfalso; apply htn
        apply ByteArray.ext
        exact Array.eq_empty_of_size_eq_zero e
      · exact e
    have Hne : Hid (t.data.toList ≠ []) := by
      intro e
      have hll : t.data.toList.length = t.size := Array.length_toList
      rw [e] at hll; simp at hll; omega
    have hhead : t.data.toList.head? = some t[0] := by
      have hll : t.data.toList.length = t.size := Array.length_toList
      rw [List.head?_eq_getElem?, List.getElem?_eq_getElem (by omega)]; rfl
    clear htn
    by_cases hl18 : t.size ≤ 18
    · by_cases hz : t[0].toNat = 48
      · have hz8 : t[0] = 48 := UInt8.toNat_inj.1 (by rw [hz]; rfl)
        have Hbt : Hid (¬ cond true t.data.toList) := by intro hc; have := (hc.2.2.1 (by rw [hhead, hz8])).2; cases this
        clear hhead hz8
        go_wp2_with fail
        refine bodyPost_ret (v := .tuple #[.int .i64 0, .bool false]) (by simp [results, Tryz.results66, go_sem]) rfl (Hbad.out ?_)
        exact Hbt.out
      · have Hz : Hid (t.data.toList.head? = some 48 → t.data.toList = [48] ∧ true = false) := by
          intro h
          rw [hhead] at h
          injection h with h
          rw [h] at hz
          exact absurd rfl hz
        clear hhead
        go_wp2_with fail
        go_loop [5, 6] (fun a x => ∃ k : Nat, k ≤ t.size ∧ x = .int .i64 k ∧ a = .int .i64 (valL (t.data.toList.take k) : Nat) ∧ Hid (∀ b ∈ t.data.toList.take k, isD b = true)) (fun _ x => (t.size - intOf x).toNat)
        case atStart => exact ⟨0, by omega, rfl, rfl, fun b hb => by simp at hb⟩
        case round =>
          obtain ⟨k, hk, rfl, rfl, hp⟩ := hrel
          have hv18 := valL_18 (t := t.data.toList.take k) (by rw [List.length_take]; omega) hp.out
          by_cases hlt : k < t.size
          · have hll : t.data.toList.length = t.size := Array.length_toList
            have hcl := t[k].toNat_lt
            have hmem : t[k] ∈ t.data.toList := List.getElem_mem (l := t.data.toList) (n := k) (by omega)
            have htk : t.data.toList.take (k + 1) = t.data.toList.take k ++ [t[k]] := by
              rw [List.take_succ_eq_append_getElem (by omega : k < t.data.toList.length)]; rfl
            by_cases h1 : 48 ≤ t[k].toNat
            · by_cases h2 : t[k].toNat ≤ 57
              · have hv : valL (t.data.toList.take (k + 1)) = 10 * valL (t.data.toList.take k) + (t[k].toNat - 48) := by rw [htk, valL_snoc]
                have hp' : ∀ b ∈ t.data.toList.take (k + 1), isD b = true := by
                  rw [htk]; intro b hb
                  rcases List.mem_append.1 hb with hb | hb
                  · exact hp.out b hb
                  · obtain rfl := List.mem_singleton.1 hb; simp [isD, h1, h2]
                have hv18' := valL_18 (t := t.data.toList.take (k + 1)) (by rw [List.length_take]; omega) hp'
                have Hp' := Lib.hid hp'
                rw [hv] at hv18'
                have Hv := Lib.hid hv
                clear hp' hp hv htk hmem
                generalize valL (t.data.toList.take k) = acc at *
                go_wp2_with fail
                go_round
                case rel => exact ⟨k + 1, by omega, by go_num, by rw [Hv.out]; congr 1; omega, Hp'.out⟩
                case measure => simp [intOf]; omega
              · have Hmem := Lib.hid hmem
                have hnd : isD t[k] = false := by simp [isD]; omega
                have Hnd := Lib.hid hnd
                clear hmem htk hnd
                generalize valL (t.data.toList.take k) = acc at *
                go_wp2_with fail
                refine bodyPost_ret (v := .tuple #[.int .i64 0, .bool false]) (by simp [results, Tryz.results66, go_sem]) rfl (Hbad.out ?_)
                intro hc; have := hc.2.2.2 _ Hmem.out; rw [Hnd.out] at this; cases this
            · have Hmem := Lib.hid hmem
              have hnd : isD t[k] = false := by simp [isD]; omega
              have Hnd := Lib.hid hnd
              clear hmem htk hnd
              generalize valL (t.data.toList.take k) = acc at *
              go_wp2_with fail
              refine bodyPost_ret (v := .tuple #[.int .i64 0, .bool false]) (by simp [results, Tryz.results66, go_sem]) rfl (Hbad.out ?_)
              intro hc; have := hc.2.2.2 _ Hmem.out; rw [Hnd.out] at this; cases this
          · obtain rfl : k = t.size := by omega
            have hll : t.data.toList.length = t.size := Array.length_toList
            have hpp := hp.out
            rw [List.take_of_length_le (Nat.le_of_eq hll)] at hpp hv18 ⊢
            have Hpp := Lib.hid hpp
            have Hval := Hgood.out
            have g3 : (t.size : Int) < s.size := by have := hts; omega
            clear hpp hp
            generalize valL t.data.toList = acc at *
            go_wp2_with fail
            refine bodyPost_ret (v := .tuple #[.int .i64 (-(acc : Int)), .bool true]) (by simp [results, Tryz.results66, go_sem]) rfl (Hval ?_)
            exact ⟨Hne.out, by omega, by simpa using Hz.out, Hpp.out⟩
    · have Hbt : Hid (¬ cond true t.data.toList) := by
        intro hc
        have := hc.2.1
        have hll : t.data.toList.length = t.size := Array.length_toList
        omega
      clear hhead
      go_wp2_with fail
      refine bodyPost_ret (v := .tuple #[.int .i64 0, .bool false]) (by simp [results, Tryz.results66, go_sem]) rfl (Hbad.out ?_)
      exact Hbt.out

theorem rnumber_any (s : ByteArray) (hss : s.size ≤ 1000000) (w : World) :
    Calls Tryz.prog 66 #[.string s] w (RNumIs s w) := by
  by_cases h : ∃ h : 0 < s.size, s[0].toNat = 45
  · obtain ⟨h1, h2⟩ := h
    exact rnumber_neg s hss w h1 h2
  · exact rnumber_pos s hss w (fun h1 h2 => h ⟨h1, h2⟩)
end Go.Proofs.YtobaoekibnloiaaGreatDoor
