/- Part 5 of the proof: laws on memory and what functions of the program return. No conditions but those that each theorem names. -/
import Derived.Test.YtobaoekibnloiaaGreatDoorR04
set_option linter.unusedVariables false
set_option linter.unusedSimpArgs false
/- script's Same, first part. -/
namespace Go.Proofs.YtobaoekibnloiaaGreatDoor
open Go Go.RowKit


set_option maxHeartbeats 4000000 in
set_option maxRecDepth 100000 in
theorem psame_k (pa pd qa qd : Option Addr) (pc pe qc qe : Nat) (k1 k2 : Int) (t1 t2 : ByteArray) (bs1 bs2 : List UInt8) (n1 n2 : Int) (st1 st2 : Int) (nm1 nm2 : ByteArray) (s1 s2 : Int) (c1 c2 : Bool) (f1 f2 : Int) (a1 a2 : Int) (b1 b2 : Int) (d1 d2 : Int) (len1 len2 : Nat) (w : World) (hx : BytesF 0 w (.slice pa bs1.length pc) bs1) (hy : BytesF 0 w (.slice qa bs2.length qc) bs2) (h : k1 ≠ k2) :
    Calls Tryz.prog 50 #[.agg #[.int .i64 k1, .string t1, .slice pa bs1.length pc, .int .i64 n1, .int .i64 st1, .string nm1, .int .i64 s1, .bool c1, .int .i64 f1, .int .i64 a1, .int .i64 b1, .int .i64 d1, .slice pd len1 pe], .agg #[.int .i64 k2, .string t2, .slice qa bs2.length qc, .int .i64 n2, .int .i64 st2, .string nm2, .int .i64 s2, .bool c2, .int .i64 f2, .int .i64 a2, .int .i64 b2, .int .i64 d2, .slice qd len2 qe]] w fun e w' => e = .returned (.bool false) ∧ Below w.heap.size w w' := by
  have hcp : ∀ o1 o2, (convert 22 9 (.slice pa bs1.length pc)).run Tryz.prog ((w.alloc o1).alloc o2) = .ok (.string (mkB bs1)) ((w.alloc o1).alloc o2) := fun o1 o2 => (hx.below (below2 w o1 o2)).conv
  have hcq : ∀ o1 o2, (convert 22 9 (.slice qa bs2.length qc)).run Tryz.prog ((w.alloc o1).alloc o2) = .ok (.string (mkB bs2)) ((w.alloc o1).alloc o2) := fun o1 o2 => (hy.below (below2 w o1 o2)).conv
  have e2 : (k1 == k2) = false := by simp; exact h
  clear hx hy
  go_enter Tryz.func50, Tryz.ntmps50
  go_wp2_with fail
  go_ret
  exact ⟨rfl, below2 _ _ _⟩

set_option maxHeartbeats 4000000 in
set_option maxRecDepth 100000 in
theorem psame_t (pa pd qa qd : Option Addr) (pc pe qc qe : Nat) (k : Int) (t1 t2 : ByteArray) (bs1 bs2 : List UInt8) (n1 n2 : Int) (st1 st2 : Int) (nm1 nm2 : ByteArray) (s1 s2 : Int) (c1 c2 : Bool) (f1 f2 : Int) (a1 a2 : Int) (b1 b2 : Int) (d1 d2 : Int) (len1 len2 : Nat) (w : World) (hx : BytesF 0 w (.slice pa bs1.length pc) bs1) (hy : BytesF 0 w (.slice qa bs2.length qc) bs2) (h : t1 ≠ t2) :
    Calls Tryz.prog 50 #[.agg #[.int .i64 k, .string t1, .slice pa bs1.length pc, .int .i64 n1, .int .i64 st1, .string nm1, .int .i64 s1, .bool c1, .int .i64 f1, .int .i64 a1, .int .i64 b1, .int .i64 d1, .slice pd len1 pe], .agg #[.int .i64 k, .string t2, .slice qa bs2.length qc, .int .i64 n2, .int .i64 st2, .string nm2, .int .i64 s2, .bool c2, .int .i64 f2, .int .i64 a2, .int .i64 b2, .int .i64 d2, .slice qd len2 qe]] w fun e w' => e = .returned (.bool false) ∧ Below w.heap.size w w' := by
  have hcp : ∀ o1 o2, (convert 22 9 (.slice pa bs1.length pc)).run Tryz.prog ((w.alloc o1).alloc o2) = .ok (.string (mkB bs1)) ((w.alloc o1).alloc o2) := fun o1 o2 => (hx.below (below2 w o1 o2)).conv
  have hcq : ∀ o1 o2, (convert 22 9 (.slice qa bs2.length qc)).run Tryz.prog ((w.alloc o1).alloc o2) = .ok (.string (mkB bs2)) ((w.alloc o1).alloc o2) := fun o1 o2 => (hy.below (below2 w o1 o2)).conv
  have e2 := str_ne h
  clear hx hy
  go_enter Tryz.func50, Tryz.ntmps50
  go_wp2_with fail
  go_ret
  exact ⟨rfl, below2 _ _ _⟩

set_option maxHeartbeats 4000000 in
set_option maxRecDepth 100000 in
theorem psame_bs (pa pd qa qd : Option Addr) (pc pe qc qe : Nat) (k : Int) (t : ByteArray) (bs1 bs2 : List UInt8) (n1 n2 : Int) (st1 st2 : Int) (nm1 nm2 : ByteArray) (s1 s2 : Int) (c1 c2 : Bool) (f1 f2 : Int) (a1 a2 : Int) (b1 b2 : Int) (d1 d2 : Int) (len1 len2 : Nat) (w : World) (hx : BytesF 0 w (.slice pa bs1.length pc) bs1) (hy : BytesF 0 w (.slice qa bs2.length qc) bs2) (h : bs1 ≠ bs2) :
    Calls Tryz.prog 50 #[.agg #[.int .i64 k, .string t, .slice pa bs1.length pc, .int .i64 n1, .int .i64 st1, .string nm1, .int .i64 s1, .bool c1, .int .i64 f1, .int .i64 a1, .int .i64 b1, .int .i64 d1, .slice pd len1 pe], .agg #[.int .i64 k, .string t, .slice qa bs2.length qc, .int .i64 n2, .int .i64 st2, .string nm2, .int .i64 s2, .bool c2, .int .i64 f2, .int .i64 a2, .int .i64 b2, .int .i64 d2, .slice qd len2 qe]] w fun e w' => e = .returned (.bool false) ∧ Below w.heap.size w w' := by
  have hcp : ∀ o1 o2, (convert 22 9 (.slice pa bs1.length pc)).run Tryz.prog ((w.alloc o1).alloc o2) = .ok (.string (mkB bs1)) ((w.alloc o1).alloc o2) := fun o1 o2 => (hx.below (below2 w o1 o2)).conv
  have hcq : ∀ o1 o2, (convert 22 9 (.slice qa bs2.length qc)).run Tryz.prog ((w.alloc o1).alloc o2) = .ok (.string (mkB bs2)) ((w.alloc o1).alloc o2) := fun o1 o2 => (hy.below (below2 w o1 o2)).conv
  have e2 := str_ne (mkB_ne h)
  clear hx hy
  go_enter Tryz.func50, Tryz.ntmps50
  go_wp2_with fail
  go_ret
  exact ⟨rfl, below2 _ _ _⟩

set_option maxHeartbeats 4000000 in
set_option maxRecDepth 100000 in
theorem psame_n (pa pd qa qd : Option Addr) (pc pe qc qe : Nat) (k : Int) (t : ByteArray) (bs : List UInt8) (n1 n2 : Int) (st1 st2 : Int) (nm1 nm2 : ByteArray) (s1 s2 : Int) (c1 c2 : Bool) (f1 f2 : Int) (a1 a2 : Int) (b1 b2 : Int) (d1 d2 : Int) (len1 len2 : Nat) (w : World) (hx : BytesF 0 w (.slice pa bs.length pc) bs) (hy : BytesF 0 w (.slice qa bs.length qc) bs) (h : n1 ≠ n2) :
    Calls Tryz.prog 50 #[.agg #[.int .i64 k, .string t, .slice pa bs.length pc, .int .i64 n1, .int .i64 st1, .string nm1, .int .i64 s1, .bool c1, .int .i64 f1, .int .i64 a1, .int .i64 b1, .int .i64 d1, .slice pd len1 pe], .agg #[.int .i64 k, .string t, .slice qa bs.length qc, .int .i64 n2, .int .i64 st2, .string nm2, .int .i64 s2, .bool c2, .int .i64 f2, .int .i64 a2, .int .i64 b2, .int .i64 d2, .slice qd len2 qe]] w fun e w' => e = .returned (.bool false) ∧ Below w.heap.size w w' := by
  have hcp : ∀ o1 o2, (convert 22 9 (.slice pa bs.length pc)).run Tryz.prog ((w.alloc o1).alloc o2) = .ok (.string (mkB bs)) ((w.alloc o1).alloc o2) := fun o1 o2 => (hx.below (below2 w o1 o2)).conv
  have hcq : ∀ o1 o2, (convert 22 9 (.slice qa bs.length qc)).run Tryz.prog ((w.alloc o1).alloc o2) = .ok (.string (mkB bs)) ((w.alloc o1).alloc o2) := fun o1 o2 => (hy.below (below2 w o1 o2)).conv
  have e2 : (n1 == n2) = false := by simp; exact h
  clear hx hy
  go_enter Tryz.func50, Tryz.ntmps50
  go_wp2_with fail
  go_ret
  exact ⟨rfl, below2 _ _ _⟩

set_option maxHeartbeats 4000000 in
set_option maxRecDepth 100000 in
theorem psame_st (pa pd qa qd : Option Addr) (pc pe qc qe : Nat) (k : Int) (t : ByteArray) (bs : List UInt8) (n : Int) (st1 st2 : Int) (nm1 nm2 : ByteArray) (s1 s2 : Int) (c1 c2 : Bool) (f1 f2 : Int) (a1 a2 : Int) (b1 b2 : Int) (d1 d2 : Int) (len1 len2 : Nat) (w : World) (hx : BytesF 0 w (.slice pa bs.length pc) bs) (hy : BytesF 0 w (.slice qa bs.length qc) bs) (h : st1 ≠ st2) :
    Calls Tryz.prog 50 #[.agg #[.int .i64 k, .string t, .slice pa bs.length pc, .int .i64 n, .int .i64 st1, .string nm1, .int .i64 s1, .bool c1, .int .i64 f1, .int .i64 a1, .int .i64 b1, .int .i64 d1, .slice pd len1 pe], .agg #[.int .i64 k, .string t, .slice qa bs.length qc, .int .i64 n, .int .i64 st2, .string nm2, .int .i64 s2, .bool c2, .int .i64 f2, .int .i64 a2, .int .i64 b2, .int .i64 d2, .slice qd len2 qe]] w fun e w' => e = .returned (.bool false) ∧ Below w.heap.size w w' := by
  have hcp : ∀ o1 o2, (convert 22 9 (.slice pa bs.length pc)).run Tryz.prog ((w.alloc o1).alloc o2) = .ok (.string (mkB bs)) ((w.alloc o1).alloc o2) := fun o1 o2 => (hx.below (below2 w o1 o2)).conv
  have hcq : ∀ o1 o2, (convert 22 9 (.slice qa bs.length qc)).run Tryz.prog ((w.alloc o1).alloc o2) = .ok (.string (mkB bs)) ((w.alloc o1).alloc o2) := fun o1 o2 => (hy.below (below2 w o1 o2)).conv
  have e2 : (st1 == st2) = false := by simp; exact h
  clear hx hy
  go_enter Tryz.func50, Tryz.ntmps50
  go_wp2_with fail
  go_ret
  exact ⟨rfl, below2 _ _ _⟩

set_option maxHeartbeats 4000000 in
set_option maxRecDepth 100000 in
theorem psame_nm (pa pd qa qd : Option Addr) (pc pe qc qe : Nat) (k : Int) (t : ByteArray) (bs : List UInt8) (n : Int) (st : Int) (nm1 nm2 : ByteArray) (s1 s2 : Int) (c1 c2 : Bool) (f1 f2 : Int) (a1 a2 : Int) (b1 b2 : Int) (d1 d2 : Int) (len1 len2 : Nat) (w : World) (hx : BytesF 0 w (.slice pa bs.length pc) bs) (hy : BytesF 0 w (.slice qa bs.length qc) bs) (h : nm1 ≠ nm2) :
    Calls Tryz.prog 50 #[.agg #[.int .i64 k, .string t, .slice pa bs.length pc, .int .i64 n, .int .i64 st, .string nm1, .int .i64 s1, .bool c1, .int .i64 f1, .int .i64 a1, .int .i64 b1, .int .i64 d1, .slice pd len1 pe], .agg #[.int .i64 k, .string t, .slice qa bs.length qc, .int .i64 n, .int .i64 st, .string nm2, .int .i64 s2, .bool c2, .int .i64 f2, .int .i64 a2, .int .i64 b2, .int .i64 d2, .slice qd len2 qe]] w fun e w' => e = .returned (.bool false) ∧ Below w.heap.size w w' := by
  have hcp : ∀ o1 o2, (convert 22 9 (.slice pa bs.length pc)).run Tryz.prog ((w.alloc o1).alloc o2) = .ok (.string (mkB bs)) ((w.alloc o1).alloc o2) := fun o1 o2 => (hx.below (below2 w o1 o2)).conv
  have hcq : ∀ o1 o2, (convert 22 9 (.slice qa bs.length qc)).run Tryz.prog ((w.alloc o1).alloc o2) = .ok (.string (mkB bs)) ((w.alloc o1).alloc o2) := fun o1 o2 => (hy.below (below2 w o1 o2)).conv
  have e2 := str_ne h
  clear hx hy
  go_enter Tryz.func50, Tryz.ntmps50
  go_wp2_with fail
  go_ret
  exact ⟨rfl, below2 _ _ _⟩
end Go.Proofs.YtobaoekibnloiaaGreatDoor
