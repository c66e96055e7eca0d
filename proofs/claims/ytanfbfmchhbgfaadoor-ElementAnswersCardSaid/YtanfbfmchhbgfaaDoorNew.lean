/- New of synoptickeep gives a reader of the first numbers of a list that came in. No conditions. -/
import Derived.Test.YtanfbfmchhbgfaaDoorSome
namespace Go.Proofs.YtanfbfmchhbgfaaDoor
open Go Go.RowKit

/-- A list of ints that came in: its numbers, below block B. -/
def IntsAt (w : World) (B : Nat) (v : Value) (zs : List Int) : Prop :=
  ∃ (a : Option Addr) (len cap : Nat), v = .slice a len cap ∧ len ≤ cap ∧ cap ≤ 9223372036854775807 ∧ zs.length = len ∧ (a = none → cap = 0) ∧ (∀ z ∈ zs, I64 z) ∧
    (∀ i, i < len → ∃ ab ao : Nat, a = some ⟨ab, ao, none⟩ ∧ ab < B ∧ w.cell? ⟨ab, ao + i, none⟩ = some (.int .i64 (zs.getD i 0)))

/-- A new reader. -/
def NewSrc (w : World) (e : Ending) (w' : World) : Prop := e = .returned (.pointer (some ⟨w.heap.size, 0, none⟩)) ∧ (∃ l, SrcIs w' w.heap.size w.heap.size l) ∧ Below w.heap.size w w' ∧ w'.heap.size = w.heap.size + 1

theorem new_ok (v : Value) (zs : List Int) (w : World) (h : IntsAt w w.heap.size v zs) : Calls Tryd.prog 9 #[v] w (NewSrc w) := by
  obtain ⟨a, len, cap, rfl, hlc, hc, hz, hn, hI, hel⟩ := h
  have Hel := Lib.hid hel
  have HI := Lib.hid hI
  have Hz := Lib.hid hz
  have hlen : len ≤ 9223372036854775807 := by omega
  have fin : ∀ (m : Nat), m ≤ len → m ≤ 2000 → Below w.heap.size w (w.alloc (.cells #[.slice a m cap, .int .i64 0] 62)) ∧ SrcIs (w.alloc (.cells #[.slice a m cap, .int .i64 0] 62)) w.heap.size w.heap.size (zs.take m) := by
    intro m hm1 hm2
    have hb : Below w.heap.size w (w.alloc (.cells #[.slice a m cap, .int .i64 0] 62)) := (Below.refl _ _).alloc (Nat.le_refl _) _
    refine ⟨hb, a, m, cap, 0, zs.take m, Nat.le_refl _, by simp, by simp, by simp, by omega, hm2, by simp; omega, rfl, fun z hz => HI.out z (List.mem_of_mem_take hz), ?_⟩
    intro i _ hi
    obtain ⟨ab, ao, ha, hlt, hcell⟩ := Hel.out i (by omega)
    refine ⟨ab, ao, ha, hlt, ?_⟩
    rw [hb.cell (by simpa using hlt), hcell]
    simp [List.getD_eq_getElem?_getD, List.getElem?_take_of_lt hi]
  have Hfin := Lib.hid fin
  clear fin hel hI hz
  obtain ⟨f1, f2⟩ := Hfin.out (min (len : Int) 2000).toNat (by omega) (by omega)
  go_enter Tryd.func9, Tryd.ntmps9
  go_wp2_with fail
  go_ret
  exact ⟨rfl, ⟨_, f2⟩, f1, by simp⟩
end Go.Proofs.YtanfbfmchhbgfaaDoor
