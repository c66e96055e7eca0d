/- Small plain laws on byte strings. No conditions, no program. -/
import Derived.WalkKit
import Derived.WalkLawsBesides
import Derived.Laws.Strings
namespace Go.Proofs.YtanfbfmchhbgfaaDoor
open Go Go.RowKit

theorem bytes_inj {a b : ByteArray} (h : a.toList = b.toList) : a = b := by
  rw [ByteArray.toList_eq, ByteArray.toList_eq] at h
  exact ByteArray.ext (Array.toList_inj.1 h)
/-- The walk's own spelling of two strings that differ. -/
theorem str_ne {a b : ByteArray} (h : a ≠ b) : (a.toList == b.toList) = false := by
  rw [beq_eq_false_iff_ne]; exact fun e => h (bytes_inj e)
theorem str_bne {a b : ByteArray} (h : a ≠ b) : (a.toList != b.toList) = true := by
  rw [bne_iff_ne]; exact fun e => h (bytes_inj e)
theorem str_eta (s : ByteArray) : (⟨s.data.toList.toArray⟩ : ByteArray) = s := by cases s; simp
end Go.Proofs.YtanfbfmchhbgfaaDoor
