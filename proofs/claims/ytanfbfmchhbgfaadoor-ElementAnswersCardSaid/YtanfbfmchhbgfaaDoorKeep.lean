/- The functions of the package synoptickeep return what their plain Lean counterparts compute. No conditions. -/
import Derived.Test.YtanfbfmchhbgfaaDoorChecked
import Derived.Test.YtanfbfmchhbgfaaDoorBase
import Derived.Outline
import Derived.Lib.Hide
import Derived.Deep.QuietTactic
import Derived.BigQuiet
import Derived.IntWalk
namespace Go.Proofs.YtanfbfmchhbgfaaDoor
open Go Go.RowKit

theorem mod_any (x n : Int) (w : World) (_hx : I64 x) (hn : I64 n) :
    Calls Tryd.prog 15 #[.int .i64 x, .int .i64 n] w fun e w' => e = .returned (.int .i64 (modOf x n)) ∧ w = w' := by
  have hq := @modOf_lt x n
  unfold I64 at hn
  by_cases h1 : n < 1
  · clear hq
    go_enter Tryd.func15, Tryd.ntmps15
    go_wp2
    go_ret
    exact ⟨by simp [modOf, h1], rfl⟩
  · by_cases h2 : x.tmod n < 0
    · have e : modOf x n = x.tmod n + n := by rw [modOf, if_neg h1, if_pos h2]
      rw [e] at hq ⊢
      have h3 := hq (by omega)
      clear e hq
      go_enter Tryd.func15, Tryd.ntmps15
      go_wp2
      go_ret
      exact ⟨rfl, rfl⟩
    · have e : modOf x n = x.tmod n := by rw [modOf, if_neg h1, if_neg h2]
      rw [e]
      clear e hq
      go_enter Tryd.func15, Tryd.ntmps15
      go_wp2
      go_ret
      exact ⟨rfl, rfl⟩

theorem raw_more (b ab ao len cap k : Nat) (z : Int) (w : World)
    (hL : w.cell? ⟨b, 0, none⟩ = some (.slice (some ⟨ab, ao, none⟩) len cap)) (hA : w.cell? ⟨b, 1, none⟩ = some (.int .i64 k)) (hF : w.frozen? ⟨b, 1, none⟩ = false)
    (hk : k < len) (hlen : len ≤ 2000) (hab : ab ≠ b) (hz : w.cell? ⟨ab, ao + k, none⟩ = some (.int .i64 z)) :
    Calls Tryd.prog 44 #[.pointer (some ⟨b, 0, none⟩)] w fun e w' => e = .returned (.int .i64 z) ∧ ∃ n m, w' = ((w.drewN n).setCell ⟨b, 1, none⟩ (.int .i64 (k + 1))).drewN m := by
  go_enter Tryd.func44, Tryd.ntmps44
  go_wp2
  go_quiet (fail)
  go_wp2
  have ek : IntKind.i64.wrap (k : Int) = k := IntWalk.i64_in _ (by omega)
  go_quiet (fail)
  clear ek
  go_wp2
  go_ret
  exact ⟨rfl, _, _, rfl⟩

theorem raw_none (b : Nat) (a : Option Addr) (len cap k : Nat) (w : World)
    (hL : w.cell? ⟨b, 0, none⟩ = some (.slice a len cap)) (hA : w.cell? ⟨b, 1, none⟩ = some (.int .i64 k))
    (hk : len ≤ k) :
    Calls Tryd.prog 44 #[.pointer (some ⟨b, 0, none⟩)] w fun e w' => e = .returned (.int .i64 0) ∧ ∃ n, w' = w.drewN n := by
  go_enter Tryd.func44, Tryd.ntmps44
  go_wp2
  go_quiet (fail)
  go_wp2
  go_ret
  exact ⟨rfl, _, rfl⟩

theorem raw_any (B b : Nat) (l : List Int) (w : World) (h : SrcIs w B b l) :
    Calls Tryd.prog 44 #[.pointer (some ⟨b, 0, none⟩)] w fun e w' => e = .returned (.int .i64 (l.headD 0)) ∧ SrcIs w' B b l.tail ∧ But w.heap.size b w w' := by
  have h' := h
  obtain ⟨a, len, cap, k, zs, h0, h1, h2, h3, h4, h5, h6, h7, h8, h9⟩ := h
  rcases Nat.lt_or_ge k len with hk | hk
  · obtain ⟨ab, ao, rfl, hlt, hc⟩ := h9 k (Nat.le_refl _) hk
    have hl : l = zs.getD k 0 :: zs.drop (k + 1) := by rw [h7, List.drop_eq_getElem_cons (by omega)]; simp [List.getD_eq_getElem?_getD, h6, hk]
    refine (raw_more b ab ao len cap k _ w h1 h2 h3 hk h5 (by omega) hc).mono ?_
    rintro e w' ⟨rfl, n, m, rfl⟩
    have hw : But w.heap.size b w (((w.drewN n).setCell ⟨b, 1, none⟩ (.int .i64 (k + 1))).drewN m) := (((But.refl _ b _).drewN n).setCell (p := ⟨b, 1, none⟩) (Or.inr rfl) _).drewN m
    refine ⟨by rw [hl]; rfl, ?_, hw⟩
    refine ⟨some ⟨ab, ao, none⟩, len, cap, k + 1, zs, h0, ?_, ?_, ?_, hk, h5, h6, by rw [hl]; rfl, fun z hz => h8 z (List.mem_of_mem_tail hz), ?_⟩
    · simp only [World.cell?_drewN]
      rw [World.cell?_setCell_other _ _ _ _ (by simp)]; exact h1
    · simp only [World.cell?_drewN]
      exact World.cell?_setCell_same _ _ _ (by simp only [World.cell?_drewN]; exact h2)
    · rw [← h3]; simp
    · intro i hi hl'
      obtain ⟨ab', ao', e', hlt', hc'⟩ := h9 i (by omega) hl'
      obtain ⟨rfl, rfl⟩ : ab = ab' ∧ ao = ao' := by simpa using e'
      refine ⟨ab, ao, rfl, hlt, ?_⟩
      simp only [World.cell?_drewN]
      rw [World.cell?_setCell_other _ _ _ _ (by simp)]; exact hc'
  · have hl : l = [] := by rw [h7]; exact List.drop_eq_nil_of_le (by omega)
    refine (raw_none b a len cap k w h1 h2 hk).mono ?_
    rintro e w' ⟨rfl, n, rfl⟩
    subst hl
    exact ⟨rfl, by rw [List.tail_nil]; exact h'.drewN n, (But.refl _ _ _).drewN n⟩

theorem n_any (B b : Nat) (l : List Int) (n : Int) (w : World) (h : SrcIs w B b l) (hn : I64 n) :
    Calls Tryd.prog 22 #[.pointer (some ⟨b, 0, none⟩), .int .i64 n] w fun e w' => e = .returned (.int .i64 (modOf (l.headD 0) n)) ∧ SrcIs w' B b l.tail ∧ But w.heap.size b w w' := by
  have hr := raw_any B b l w h
  have hI := h.nil_iff
  generalize l.headD 0 = z at *
  have Hr := Lib.hid hr
  clear hr h
  go_enter Tryd.func22, Tryd.ntmps22
  go_wp2_with fail
  refine Hr.out.mono ?_
  rintro e w' ⟨rfl, hs, hb⟩
  go_wp2_with fail
  refine (mod_any _ _ _ hI hn).mono ?_
  rintro e w' ⟨rfl, rfl⟩
  go_wp2_with fail
  go_ret
  exact ⟨rfl, hs, hb⟩

theorem range_any (B b : Nat) (l : List Int) (lo hi : Int) (w : World) (h : SrcIs w B b l) (hlo : -1000000000 ≤ lo) (hhi : hi ≤ 1000000000) (hle : lo ≤ hi) :
    Calls Tryd.prog 11 #[.pointer (some ⟨b, 0, none⟩), .int .i64 lo, .int .i64 hi] w fun e w' => e = .returned (.int .i64 (lo + modOf (l.headD 0) (hi - lo + 1))) ∧ SrcIs w' B b l.tail ∧ But w.heap.size b w w' := by
  have hr := n_any B b l (hi - lo + 1) w h (by unfold I64; omega)
  have hm := @modOf_lt (l.headD 0) (hi - lo + 1) (by omega)
  generalize modOf (l.headD 0) (hi - lo + 1) = m at *
  have Hr := Lib.hid hr
  clear hr h
  go_enter Tryd.func11, Tryd.ntmps11
  go_wp2_with fail
  refine Hr.out.mono ?_
  rintro e w' ⟨rfl, hs, hb⟩
  go_wp2_with fail
  go_ret
  exact ⟨rfl, hs, hb⟩
end Go.Proofs.YtanfbfmchhbgfaaDoor
