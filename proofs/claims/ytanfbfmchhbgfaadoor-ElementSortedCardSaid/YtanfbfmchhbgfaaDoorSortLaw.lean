/- Readings put in another order, or with one of them twice, are not in ascending order: what Validate says of them. Plain. -/
import Derived.Test.YtanfbfmchhbgfaaDoorOrder
namespace Go.Proofs.YtanfbfmchhbgfaaDoor
open Go Go.RowKit

/-- The readings rs, in the order zs. -/
def ordR (rs : List (Int × Int)) (zs : List Int) : List (Int × Int) := zs.map fun z => rs.getD z.toNat (0, 0)
/-- The first m of the numbers zs are 0 to m - 1. -/
def sortedB (zs : List Int) (m : Nat) : Bool := decide (∀ j, j < m → zs.getD j 0 = (j : Int))
theorem sortedB_zero (zs : List Int) : sortedB zs 0 = true := by unfold sortedB; rw [decide_eq_true_eq]; intro j hj; omega
theorem sortedB_succ (zs : List Int) (m : Nat) : sortedB zs (m + 1) = (sortedB zs m && decide (zs.getD m 0 = (m : Int))) := by
  unfold sortedB
  rw [Bool.eq_iff_iff, Bool.and_eq_true, decide_eq_true_eq, decide_eq_true_eq, decide_eq_true_eq]
  constructor
  · intro h; exact ⟨fun j hj => h j (by omega), h m (by omega)⟩
  · rintro ⟨h1, h2⟩ j hj
    rcases Nat.lt_or_ge j m with q | q
    · exact h1 j q
    · obtain rfl : j = m := by omega
      exact h2

theorem perm_range {zs : List Int} {n : Nat} (h : zs.Perm ((List.range n).map Int.ofNat)) : zs.length = n ∧ ∀ j, j < n → 0 ≤ zs.getD j 0 ∧ zs.getD j 0 < n := by
  have hl : zs.length = n := by rw [h.length_eq]; simp
  refine ⟨hl, fun j hj => ?_⟩
  have hm : zs.getD j 0 ∈ zs := by
    have : zs.getD j 0 = zs[j]'(by omega) := by simp [List.getD_eq_getElem?_getD, show j < zs.length by omega]
    rw [this]; exact List.getElem_mem _
  have := h.mem_iff.1 hm
  rw [List.mem_map] at this
  obtain ⟨a, ha, e⟩ := this
  rw [List.mem_range] at ha
  rw [← e]
  have : Int.ofNat a = (a : Int) := rfl
  omega

theorem ordR_at {rs : List (Int × Int)} {zs : List Int} {i : Nat} (h : i < zs.length) : (ordR rs zs).getD i (0, 0) = rs.getD (zs.getD i 0).toNat (0, 0) := by
  unfold ordR; simp [List.getD_eq_getElem?_getD, h]

theorem asc_id {n : Nat} {f : Nat → Int} (hr : ∀ j, j < n → 0 ≤ f j ∧ f j < n) (ha : ∀ j, 1 ≤ j → j < n → f (j - 1) < f j) : ∀ j, j < n → f j = j := by
  have lo : ∀ j, j < n → (j : Int) ≤ f j := by
    intro j
    induction j with
    | zero => intro h; have := hr 0 h; omega
    | succ j ih => intro h; have := ih (by omega); have := ha (j + 1) (by omega) h; rw [Nat.add_sub_cancel] at this; omega
  have hi : ∀ d j, j + d + 1 = n → f j ≤ j := by
    intro d
    induction d with
    | zero => intro j h; have := hr j (by omega); omega
    | succ d ih => intro j h; have := ih (j + 1) (by omega); have := ha (j + 1) (by omega) (by omega); rw [Nat.add_sub_cancel] at this; omega
  intro j hj
  have := lo j hj
  have := hi (n - 1 - j) j (by omega)
  omega

theorem GoodL.getD {k : Int} {rs : List (Int × Int)} (h : GoodL k rs) {i j : Nat} (hij : i < j) (hj : j < rs.length) : (rs.getD i (0, 0)).1 < (rs.getD j (0, 0)).1 := by
  rw [getD_mem hj, getD_mem (show i < rs.length by omega)]
  exact List.pairwise_iff_getElem.1 h.2 i j (by omega) hj hij

theorem val_8 {rs : List (Int × Int)} (hc : ∀ r ∈ rs, chk r.1 r.2 = 0) (ha : ascB rs = false) : valE rs = 8 := by
  unfold valE; rw [hasE_false hc (by decide), hasE_false hc (by decide), ha]; rfl

theorem ord_val {rs : List (Int × Int)} {zs : List Int} (hg : GoodL 11 rs) (hp : zs.Perm ((List.range rs.length).map Int.ofNat)) :
    (sortedB zs rs.length = true → valE (ordR rs zs) = 0) ∧ (sortedB zs rs.length = false → valE (ordR rs zs) = 8) := by
  obtain ⟨hl, hr⟩ := perm_range hp
  have hlen : (ordR rs zs).length = rs.length := by unfold ordR; rw [List.length_map, hl]
  constructor
  · intro h
    have h' : ∀ j, j < rs.length → zs.getD j 0 = (j : Int) := by unfold sortedB at h; simpa using h
    have e : ordR rs zs = rs := by
      apply List.ext_getElem hlen
      intro i h1 h2
      rw [← getD_mem h1, ← getD_mem h2, ordR_at (by omega), h' i h2]; rfl
    rw [e]; exact hg.val
  · intro h
    have hc : ∀ r ∈ ordR rs zs, chk r.1 r.2 = 0 := by
      intro r hr'
      obtain ⟨i, hi, rfl⟩ := List.getElem_of_mem hr'
      rw [← getD_mem hi, ordR_at (by omega)]
      have := hr i (by omega)
      rw [getD_mem (show (zs.getD i 0).toNat < rs.length by omega)]
      exact (hg.1 _ (List.getElem_mem _)).1
    refine val_8 hc ?_
    cases ha : ascB (ordR rs zs)
    · rfl
    · exfalso
      have hasc : ∀ j, 1 ≤ j → j < rs.length → zs.getD (j - 1) 0 < zs.getD j 0 := by
        intro j h1 h2
        unfold ascB at ha
        rw [List.all_eq_true] at ha
        have := ha j (by rw [List.mem_range]; omega)
        rw [Bool.or_eq_true, decide_eq_true_eq, beq_iff_eq] at this
        rcases this with q | q
        · omega
        rw [ordR_at (by omega), ordR_at (by omega)] at q
        have r1 := hr (j - 1) (by omega)
        have r2 := hr j h2
        rcases Int.lt_or_le (zs.getD (j - 1) 0) (zs.getD j 0) with c | c
        · exact c
        · exfalso
          rcases Nat.eq_or_lt_of_le (show (zs.getD j 0).toNat ≤ (zs.getD (j - 1) 0).toNat by omega) with e | e
          · rw [e] at q; omega
          · have := hg.getD e (by omega); omega
      have := asc_id hr hasc
      have : sortedB zs rs.length = true := by unfold sortedB; rw [decide_eq_true_eq]; exact this
      rw [this] at h; cases h

theorem twice_val {rs : List (Int × Int)} (hg : GoodL 11 rs) {k : Nat} (hk : k < rs.length) : valE (rs.take (k + 1) ++ [rs.getD k (0, 0)] ++ rs.drop (k + 1)) = 8 := by
  have hm : rs.getD k (0, 0) ∈ rs := by rw [getD_mem hk]; exact List.getElem_mem _
  refine val_8 (fun r hr => ?_) (ascB_false (i := k + 1) (by omega) (by simp; omega) ?_)
  · rw [List.mem_append, List.mem_append] at hr
    rcases hr with (hr | hr) | hr
    · exact (hg.1 r (List.mem_of_mem_take hr)).1
    · simp at hr; subst hr; rw [List.getD_eq_getElem?_getD] at hm; exact (hg.1 _ hm).1
    · exact (hg.1 r (List.mem_of_mem_drop hr)).1
  · have e1 : (rs.take (k + 1) ++ [rs.getD k (0, 0)] ++ rs.drop (k + 1)).getD k (0, 0) = rs.getD k (0, 0) := by
      have hl : (rs.take (k + 1)).length = k + 1 := by rw [List.length_take]; omega
      rw [List.getD_eq_getElem?_getD, List.getElem?_append_left (by simp; omega), List.getElem?_append_left (by omega), List.getElem?_take_of_lt (by omega), List.getD_eq_getElem?_getD]
    have e2 : (rs.take (k + 1) ++ [rs.getD k (0, 0)] ++ rs.drop (k + 1)).getD (k + 1) (0, 0) = rs.getD k (0, 0) := by
      have hl : (rs.take (k + 1)).length = k + 1 := by rw [List.length_take]; omega
      rw [List.getD_eq_getElem?_getD, List.getElem?_append_left (by simp; omega), List.getElem?_append_right (by omega), hl]
      simp
    rw [Nat.add_sub_cancel, e1, e2]; omega
end Go.Proofs.YtanfbfmchhbgfaaDoor
