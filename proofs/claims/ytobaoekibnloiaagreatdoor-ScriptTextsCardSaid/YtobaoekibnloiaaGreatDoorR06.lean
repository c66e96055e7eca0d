/- Part 6 of the proof: laws on memory and what functions of the program return. No conditions but those that each theorem names. -/
import Derived.Test.YtobaoekibnloiaaGreatDoorR05
set_option linter.unusedVariables false
set_option linter.unusedSimpArgs false
/- script's Same, second part. -/
namespace Go.Proofs.YtobaoekibnloiaaGreatDoor
open Go Go.RowKit


set_option maxHeartbeats 4000000 in
set_option maxRecDepth 100000 in
theorem psame_s (pa pd qa qd : Option Addr) (pc pe qc qe : Nat) (k : Int) (t : ByteArray) (bs : List UInt8) (n : Int) (st : Int) (nm : ByteArray) (s1 s2 : Int) (c1 c2 : Bool) (f1 f2 : Int) (a1 a2 : Int) (b1 b2 : Int) (d1 d2 : Int) (len1 len2 : Nat) (w : World) (hx : BytesF 0 w (.slice pa bs.length pc) bs) (hy : BytesF 0 w (.slice qa bs.length qc) bs) (h : s1 ≠ s2) :
    Calls Tryz.prog 50 #[.agg #[.int .i64 k, .string t, .slice pa bs.length pc, .int .i64 n, .int .i64 st, .string nm, .int .i64 s1, .bool c1, .int .i64 f1, .int .i64 a1, .int .i64 b1, .int .i64 d1, .slice pd len1 pe], .agg #[.int .i64 k, .string t, .slice qa bs.length qc, .int .i64 n, .int .i64 st, .string nm, .int .i64 s2, .bool c2, .int .i64 f2, .int .i64 a2, .int .i64 b2, .int .i64 d2, .slice qd len2 qe]] w fun e w' => e = .returned (.bool false) ∧ Below w.heap.size w w' := by
  have hcp : ∀ o1 o2, (convert 22 9 (.slice pa bs.length pc)).run Tryz.prog ((w.alloc o1).alloc o2) = .ok (.string (mkB bs)) ((w.alloc o1).alloc o2) := fun o1 o2 => (hx.below (below2 w o1 o2)).conv
  have hcq : ∀ o1 o2, (convert 22 9 (.slice qa bs.length qc)).run Tryz.prog ((w.alloc o1).alloc o2) = .ok (.string (mkB bs)) ((w.alloc o1).alloc o2) := fun o1 o2 => (hy.below (below2 w o1 o2)).conv
  have e2 : (s1 == s2) = false := by simp; exact h
  clear hx hy
  go_enter Tryz.func50, Tryz.ntmps50
  go_wp2_with fail
  go_ret
  exact ⟨rfl, below2 _ _ _⟩

set_option maxHeartbeats 4000000 in
set_option maxRecDepth 100000 in
theorem psame_ct (pa pd qa qd : Option Addr) (pc pe qc qe : Nat) (k : Int) (t : ByteArray) (bs : List UInt8) (n : Int) (st : Int) (nm : ByteArray) (s : Int) (f1 f2 : Int) (a1 a2 : Int) (b1 b2 : Int) (d1 d2 : Int) (len1 len2 : Nat) (w : World) (hx : BytesF 0 w (.slice pa bs.length pc) bs) (hy : BytesF 0 w (.slice qa bs.length qc) bs)  :
    Calls Tryz.prog 50 #[.agg #[.int .i64 k, .string t, .slice pa bs.length pc, .int .i64 n, .int .i64 st, .string nm, .int .i64 s, .bool true, .int .i64 f1, .int .i64 a1, .int .i64 b1, .int .i64 d1, .slice pd len1 pe], .agg #[.int .i64 k, .string t, .slice qa bs.length qc, .int .i64 n, .int .i64 st, .string nm, .int .i64 s, .bool false, .int .i64 f2, .int .i64 a2, .int .i64 b2, .int .i64 d2, .slice qd len2 qe]] w fun e w' => e = .returned (.bool false) ∧ Below w.heap.size w w' := by
  have hcp : ∀ o1 o2, (convert 22 9 (.slice pa bs.length pc)).run Tryz.prog ((w.alloc o1).alloc o2) = .ok (.string (mkB bs)) ((w.alloc o1).alloc o2) := fun o1 o2 => (hx.below (below2 w o1 o2)).conv
  have hcq : ∀ o1 o2, (convert 22 9 (.slice qa bs.length qc)).run Tryz.prog ((w.alloc o1).alloc o2) = .ok (.string (mkB bs)) ((w.alloc o1).alloc o2) := fun o1 o2 => (hy.below (below2 w o1 o2)).conv
  clear hx hy
  go_enter Tryz.func50, Tryz.ntmps50
  go_wp2_with fail
  go_ret
  exact ⟨rfl, below2 _ _ _⟩

set_option maxHeartbeats 4000000 in
set_option maxRecDepth 100000 in
theorem psame_cf (pa pd qa qd : Option Addr) (pc pe qc qe : Nat) (k : Int) (t : ByteArray) (bs : List UInt8) (n : Int) (st : Int) (nm : ByteArray) (s : Int) (f1 f2 : Int) (a1 a2 : Int) (b1 b2 : Int) (d1 d2 : Int) (len1 len2 : Nat) (w : World) (hx : BytesF 0 w (.slice pa bs.length pc) bs) (hy : BytesF 0 w (.slice qa bs.length qc) bs)  :
    Calls Tryz.prog 50 #[.agg #[.int .i64 k, .string t, .slice pa bs.length pc, .int .i64 n, .int .i64 st, .string nm, .int .i64 s, .bool false, .int .i64 f1, .int .i64 a1, .int .i64 b1, .int .i64 d1, .slice pd len1 pe], .agg #[.int .i64 k, .string t, .slice qa bs.length qc, .int .i64 n, .int .i64 st, .string nm, .int .i64 s, .bool true, .int .i64 f2, .int .i64 a2, .int .i64 b2, .int .i64 d2, .slice qd len2 qe]] w fun e w' => e = .returned (.bool false) ∧ Below w.heap.size w w' := by
  have hcp : ∀ o1 o2, (convert 22 9 (.slice pa bs.length pc)).run Tryz.prog ((w.alloc o1).alloc o2) = .ok (.string (mkB bs)) ((w.alloc o1).alloc o2) := fun o1 o2 => (hx.below (below2 w o1 o2)).conv
  have hcq : ∀ o1 o2, (convert 22 9 (.slice qa bs.length qc)).run Tryz.prog ((w.alloc o1).alloc o2) = .ok (.string (mkB bs)) ((w.alloc o1).alloc o2) := fun o1 o2 => (hy.below (below2 w o1 o2)).conv
  clear hx hy
  go_enter Tryz.func50, Tryz.ntmps50
  go_wp2_with fail
  go_ret
  exact ⟨rfl, below2 _ _ _⟩

set_option maxHeartbeats 4000000 in
set_option maxRecDepth 100000 in
theorem psame_f (pa pd qa qd : Option Addr) (pc pe qc qe : Nat) (k : Int) (t : ByteArray) (bs : List UInt8) (n : Int) (st : Int) (nm : ByteArray) (s : Int) (c : Bool) (f1 f2 : Int) (a1 a2 : Int) (b1 b2 : Int) (d1 d2 : Int) (len1 len2 : Nat) (w : World) (hx : BytesF 0 w (.slice pa bs.length pc) bs) (hy : BytesF 0 w (.slice qa bs.length qc) bs) (h : f1 ≠ f2) :
    Calls Tryz.prog 50 #[.agg #[.int .i64 k, .string t, .slice pa bs.length pc, .int .i64 n, .int .i64 st, .string nm, .int .i64 s, .bool c, .int .i64 f1, .int .i64 a1, .int .i64 b1, .int .i64 d1, .slice pd len1 pe], .agg #[.int .i64 k, .string t, .slice qa bs.length qc, .int .i64 n, .int .i64 st, .string nm, .int .i64 s, .bool c, .int .i64 f2, .int .i64 a2, .int .i64 b2, .int .i64 d2, .slice qd len2 qe]] w fun e w' => e = .returned (.bool false) ∧ Below w.heap.size w w' := by
  have hcp : ∀ o1 o2, (convert 22 9 (.slice pa bs.length pc)).run Tryz.prog ((w.alloc o1).alloc o2) = .ok (.string (mkB bs)) ((w.alloc o1).alloc o2) := fun o1 o2 => (hx.below (below2 w o1 o2)).conv
  have hcq : ∀ o1 o2, (convert 22 9 (.slice qa bs.length qc)).run Tryz.prog ((w.alloc o1).alloc o2) = .ok (.string (mkB bs)) ((w.alloc o1).alloc o2) := fun o1 o2 => (hy.below (below2 w o1 o2)).conv
  have e2 : (f1 == f2) = false := by simp; exact h
  clear hx hy
  go_enter Tryz.func50, Tryz.ntmps50
  go_wp2_with fail
  go_ret
  exact ⟨rfl, below2 _ _ _⟩

set_option maxHeartbeats 4000000 in
set_option maxRecDepth 100000 in
theorem psame_a (pa pd qa qd : Option Addr) (pc pe qc qe : Nat) (k : Int) (t : ByteArray) (bs : List UInt8) (n : Int) (st : Int) (nm : ByteArray) (s : Int) (c : Bool) (f : Int) (a1 a2 : Int) (b1 b2 : Int) (d1 d2 : Int) (len1 len2 : Nat) (w : World) (hx : BytesF 0 w (.slice pa bs.length pc) bs) (hy : BytesF 0 w (.slice qa bs.length qc) bs) (h : a1 ≠ a2) :
    Calls Tryz.prog 50 #[.agg #[.int .i64 k, .string t, .slice pa bs.length pc, .int .i64 n, .int .i64 st, .string nm, .int .i64 s, .bool c, .int .i64 f, .int .i64 a1, .int .i64 b1, .int .i64 d1, .slice pd len1 pe], .agg #[.int .i64 k, .string t, .slice qa bs.length qc, .int .i64 n, .int .i64 st, .string nm, .int .i64 s, .bool c, .int .i64 f, .int .i64 a2, .int .i64 b2, .int .i64 d2, .slice qd len2 qe]] w fun e w' => e = .returned (.bool false) ∧ Below w.heap.size w w' := by
  have hcp : ∀ o1 o2, (convert 22 9 (.slice pa bs.length pc)).run Tryz.prog ((w.alloc o1).alloc o2) = .ok (.string (mkB bs)) ((w.alloc o1).alloc o2) := fun o1 o2 => (hx.below (below2 w o1 o2)).conv
  have hcq : ∀ o1 o2, (convert 22 9 (.slice qa bs.length qc)).run Tryz.prog ((w.alloc o1).alloc o2) = .ok (.string (mkB bs)) ((w.alloc o1).alloc o2) := fun o1 o2 => (hy.below (below2 w o1 o2)).conv
  have e2 : (a1 == a2) = false := by simp; exact h
  clear hx hy
  go_enter Tryz.func50, Tryz.ntmps50
  go_wp2_with fail
  go_ret
  exact ⟨rfl, below2 _ _ _⟩

set_option maxHeartbeats 4000000 in
set_option maxRecDepth 100000 in
theorem psame_b (pa pd qa qd : Option Addr) (pc pe qc qe : Nat) (k : Int) (t : ByteArray) (bs : List UInt8) (n : Int) (st : Int) (nm : ByteArray) (s : Int) (c : Bool) (f : Int) (a : Int) (b1 b2 : Int) (d1 d2 : Int) (len1 len2 : Nat) (w : World) (hx : BytesF 0 w (.slice pa bs.length pc) bs) (hy : BytesF 0 w (.slice qa bs.length qc) bs) (h : b1 ≠ b2) :
    Calls Tryz.prog 50 #[.agg #[.int .i64 k, .string t, .slice pa bs.length pc, .int .i64 n, .int .i64 st, .string nm, .int .i64 s, .bool c, .int .i64 f, .int .i64 a, .int .i64 b1, .int .i64 d1, .slice pd len1 pe], .agg #[.int .i64 k, .string t, .slice qa bs.length qc, .int .i64 n, .int .i64 st, .string nm, .int .i64 s, .bool c, .int .i64 f, .int .i64 a, .int .i64 b2, .int .i64 d2, .slice qd len2 qe]] w fun e w' => e = .returned (.bool false) ∧ Below w.heap.size w w' := by
  have hcp : ∀ o1 o2, (convert 22 9 (.slice pa bs.length pc)).run Tryz.prog ((w.alloc o1).alloc o2) = .ok (.string (mkB bs)) ((w.alloc o1).alloc o2) := fun o1 o2 => (hx.below (below2 w o1 o2)).conv
  have hcq : ∀ o1 o2, (convert 22 9 (.slice qa bs.length qc)).run Tryz.prog ((w.alloc o1).alloc o2) = .ok (.string (mkB bs)) ((w.alloc o1).alloc o2) := fun o1 o2 => (hy.below (below2 w o1 o2)).conv
  have e2 : (b1 == b2) = false := by simp; exact h
  clear hx hy
  go_enter Tryz.func50, Tryz.ntmps50
  go_wp2_with fail
  go_ret
  exact ⟨rfl, below2 _ _ _⟩

set_option maxHeartbeats 4000000 in
set_option maxRecDepth 100000 in
theorem psame_d (pa pd qa qd : Option Addr) (pc pe qc qe : Nat) (k : Int) (t : ByteArray) (bs : List UInt8) (n : Int) (st : Int) (nm : ByteArray) (s : Int) (c : Bool) (f : Int) (a : Int) (b : Int) (d1 d2 : Int) (len1 len2 : Nat) (w : World) (hx : BytesF 0 w (.slice pa bs.length pc) bs) (hy : BytesF 0 w (.slice qa bs.length qc) bs) (h : d1 ≠ d2) :
    Calls Tryz.prog 50 #[.agg #[.int .i64 k, .string t, .slice pa bs.length pc, .int .i64 n, .int .i64 st, .string nm, .int .i64 s, .bool c, .int .i64 f, .int .i64 a, .int .i64 b, .int .i64 d1, .slice pd len1 pe], .agg #[.int .i64 k, .string t, .slice qa bs.length qc, .int .i64 n, .int .i64 st, .string nm, .int .i64 s, .bool c, .int .i64 f, .int .i64 a, .int .i64 b, .int .i64 d2, .slice qd len2 qe]] w fun e w' => e = .returned (.bool false) ∧ Below w.heap.size w w' := by
  have hcp : ∀ o1 o2, (convert 22 9 (.slice pa bs.length pc)).run Tryz.prog ((w.alloc o1).alloc o2) = .ok (.string (mkB bs)) ((w.alloc o1).alloc o2) := fun o1 o2 => (hx.below (below2 w o1 o2)).conv
  have hcq : ∀ o1 o2, (convert 22 9 (.slice qa bs.length qc)).run Tryz.prog ((w.alloc o1).alloc o2) = .ok (.string (mkB bs)) ((w.alloc o1).alloc o2) := fun o1 o2 => (hy.below (below2 w o1 o2)).conv
  have e2 : (d1 == d2) = false := by simp; exact h
  clear hx hy
  go_enter Tryz.func50, Tryz.ntmps50
  go_wp2_with fail
  go_ret
  exact ⟨rfl, below2 _ _ _⟩

set_option maxHeartbeats 4000000 in
set_option maxRecDepth 100000 in
theorem psame_eq (pa pd qa qd : Option Addr) (pc pe qc qe : Nat) (k : Int) (t : ByteArray) (bs : List UInt8) (n : Int) (st : Int) (nm : ByteArray) (s : Int) (c : Bool) (f : Int) (a : Int) (b : Int) (d : Int) (l m : List (Int × Int)) (w : World) (hx : BytesF 0 w (.slice pa bs.length pc) bs) (hy : BytesF 0 w (.slice qa bs.length qc) bs) (hl : BiasIn 0 w (.slice pd l.length pe) l) (hm : BiasIn 0 w (.slice qd m.length qe) m) :
    Calls Tryz.prog 50 #[.agg #[.int .i64 k, .string t, .slice pa bs.length pc, .int .i64 n, .int .i64 st, .string nm, .int .i64 s, .bool c, .int .i64 f, .int .i64 a, .int .i64 b, .int .i64 d, .slice pd l.length pe], .agg #[.int .i64 k, .string t, .slice qa bs.length qc, .int .i64 n, .int .i64 st, .string nm, .int .i64 s, .bool c, .int .i64 f, .int .i64 a, .int .i64 b, .int .i64 d, .slice qd m.length qe]] w fun e w' => e = .returned (.bool (decide (l = m))) ∧ Below w.heap.size w w' := by
  have hcp : ∀ o1 o2, (convert 22 9 (.slice pa bs.length pc)).run Tryz.prog ((w.alloc o1).alloc o2) = .ok (.string (mkB bs)) ((w.alloc o1).alloc o2) := fun o1 o2 => (hx.below (below2 w o1 o2)).conv
  have hcq : ∀ o1 o2, (convert 22 9 (.slice qa bs.length qc)).run Tryz.prog ((w.alloc o1).alloc o2) = .ok (.string (mkB bs)) ((w.alloc o1).alloc o2) := fun o1 o2 => (hy.below (below2 w o1 o2)).conv
  have HQ := Lib.hid (fun o1 o2 => equal_any _ _ l m ((w.alloc o1).alloc o2) (hl.below (below2 w o1 o2)) (hm.below (below2 w o1 o2)))
  clear hx hy hl hm
  obtain ⟨q, hq⟩ : ∃ q, q = decide (l = m) := ⟨_, rfl⟩
  rw [← hq] at HQ ⊢
  clear hq
  generalize l.length = n1 at *
  generalize m.length = n2 at *
  go_enter Tryz.func50, Tryz.ntmps50
  go_wp2_with fail
  refine (HQ.out _ _).mono ?_
  rintro e w1 ⟨rfl, hb⟩
  go_wp2_with fail
  go_ret
  exact ⟨rfl, (below2 _ _ _).trans (hb.mono (by simp; omega))⟩
end Go.Proofs.YtobaoekibnloiaaGreatDoor
/- script's Same, whole. -/
namespace Go.Proofs.YtobaoekibnloiaaGreatDoor
open Go Go.RowKit


/-- script's Same tells whether two events are equal. -/
theorem psame_any (x y : Ev) (bv cv dv ev : Value) (w : World) (hx : EvParts 0 w x bv cv) (hy : EvParts 0 w y dv ev) :
    Calls Tryz.prog 50 #[x.val bv cv, y.val dv ev] w fun e w' => e = .returned (.bool (decide (x = y))) ∧ Below w.heap.size w w' := by
  have h1 := hx.bytes
  have h2 := hx.bias
  have h3 := hy.bytes
  have h4 := hy.bias
  obtain ⟨ba, bc, rfl, _⟩ := hx.bytes
  obtain ⟨ca, cc, rfl, _⟩ := hx.bias
  obtain ⟨da, dc, rfl, _⟩ := hy.bytes
  obtain ⟨ea, ec, rfl, _⟩ := hy.bias
  obtain ⟨k, t, bs, n, st, nm, s, c, f, a, b, d, l⟩ := x
  obtain ⟨k', t', bs', n', st', nm', s', c', f', a', b', d', l'⟩ := y
  have hno : ∀ {p q : Ev}, p ≠ q → decide (p = q) = false := fun h => decide_eq_false h
  by_cases hk : k = k'
  case neg =>
    rw [hno (fun e => hk (by injection e))]
    exact psame_k ba ca da ea bc cc dc ec  k k' t t' bs bs' n n' st st' nm nm' s s' c c' f f' a a' b b' d d' l.length l'.length w h1 h3 hk
  subst hk
  by_cases ht : t = t'
  case neg =>
    rw [hno (fun e => ht (by injection e))]
    exact psame_t ba ca da ea bc cc dc ec k t t' bs bs' n n' st st' nm nm' s s' c c' f f' a a' b b' d d' l.length l'.length w h1 h3 ht
  subst ht
  by_cases hbs : bs = bs'
  case neg =>
    rw [hno (fun e => hbs (by injection e))]
    exact psame_bs ba ca da ea bc cc dc ec k t bs bs' n n' st st' nm nm' s s' c c' f f' a a' b b' d d' l.length l'.length w h1 h3 hbs
  subst hbs
  by_cases hn : n = n'
  case neg =>
    rw [hno (fun e => hn (by injection e))]
    exact psame_n ba ca da ea bc cc dc ec k t bs n n' st st' nm nm' s s' c c' f f' a a' b b' d d' l.length l'.length w h1 h3 hn
  subst hn
  by_cases hst : st = st'
  case neg =>
    rw [hno (fun e => hst (by injection e))]
    exact psame_st ba ca da ea bc cc dc ec k t bs n st st' nm nm' s s' c c' f f' a a' b b' d d' l.length l'.length w h1 h3 hst
  subst hst
  by_cases hnm : nm = nm'
  case neg =>
    rw [hno (fun e => hnm (by injection e))]
    exact psame_nm ba ca da ea bc cc dc ec k t bs n st nm nm' s s' c c' f f' a a' b b' d d' l.length l'.length w h1 h3 hnm
  subst hnm
  by_cases hs : s = s'
  case neg =>
    rw [hno (fun e => hs (by injection e))]
    exact psame_s ba ca da ea bc cc dc ec k t bs n st nm s s' c c' f f' a a' b b' d d' l.length l'.length w h1 h3 hs
  subst hs
  by_cases hc : c = c'
  case neg =>
    rw [hno (fun e => hc (by injection e))]
    cases c <;> cases c'
    · exact absurd rfl hc
    · exact psame_cf ba ca da ea bc cc dc ec k t bs n st nm s f f' a a' b b' d d' l.length l'.length w h1 h3
    · exact psame_ct ba ca da ea bc cc dc ec k t bs n st nm s f f' a a' b b' d d' l.length l'.length w h1 h3
    · exact absurd rfl hc
  subst hc
  by_cases hf : f = f'
  case neg =>
    rw [hno (fun e => hf (by injection e))]
    exact psame_f ba ca da ea bc cc dc ec k t bs n st nm s c f f' a a' b b' d d' l.length l'.length w h1 h3 hf
  subst hf
  by_cases ha : a = a'
  case neg =>
    rw [hno (fun e => ha (by injection e))]
    exact psame_a ba ca da ea bc cc dc ec k t bs n st nm s c f a a' b b' d d' l.length l'.length w h1 h3 ha
  subst ha
  by_cases hb : b = b'
  case neg =>
    rw [hno (fun e => hb (by injection e))]
    exact psame_b ba ca da ea bc cc dc ec k t bs n st nm s c f a b b' d d' l.length l'.length w h1 h3 hb
  subst hb
  by_cases hd : d = d'
  case neg =>
    rw [hno (fun e => hd (by injection e))]
    exact psame_d ba ca da ea bc cc dc ec k t bs n st nm s c f a b d d' l.length l'.length w h1 h3 hd
  subst hd
  have he : decide ((⟨k, t, bs, n, st, nm, s, c, f, a, b, d, l⟩ : Ev) = ⟨k, t, bs, n, st, nm, s, c, f, a, b, d, l'⟩) = decide (l = l') := by
    rw [decide_eq_decide]; exact ⟨fun e => by injection e, fun e => by rw [e]⟩
  rw [he]
  exact psame_eq ba ca da ea bc cc dc ec k t bs n st nm s c f a b d l l' w h1 h3 h2 h4
end Go.Proofs.YtobaoekibnloiaaGreatDoor
/- script's check: events of no kind. -/
namespace Go.Proofs.YtobaoekibnloiaaGreatDoor
open Go Go.RowKit

/-- An event is read whole, as a step of a region that draws. -/
theorem step_ev_load {ops : Array Oper} {o : Oper} {a : Act} {w : World} {K : Act → World → Prop} {Q : Exit → Act → World → Prop} {E : Prop} (hw : Region.wanted o (yielded ops a.tmps) = true) (x : Operand) (ho : o.op = .load 36 x)
    (b : Nat) (hx : a.eval x = .pointer (some ⟨b, 0, none⟩)) (cs : List Value) (h : EvAt w b cs) (k : K (a.put o.dst (.agg cs.toArray)) w) : if Region.wanted o (yielded ops a.tmps) = true then Oper.wp Tryz.prog o a w K Q else E := by
  obtain ⟨d, h1, h2⟩ := eund
  rw [if_pos hw]
  exact wp_load_mid _ x ho b 0 hx cs d h.range h1 h2 (by rw [einfo, h.1]) k
set_option maxHeartbeats 4000000 in
set_option maxRecDepth 100000 in
theorem check_kind (x : Ev) (bv cv : Value) (w : World) (hp : EvParts 0 w x bv cv) (h : kindBad x) :
    Calls Tryz.prog 28 #[x.val bv cv] w (CheckIs x w) := by
  have He := Lib.hid (errOf_4 h)
  obtain ⟨ba, bc, rfl, _⟩ := hp.bytes
  obtain ⟨ca, cc, rfl, _⟩ := hp.bias
  clear hp
  unfold kindBad at h
  unfold Ev.val evCells
  rcases h with h | h | ⟨h4, h | h⟩
  · go_enter Tryz.func28, Tryz.ntmps28
    go_wp2_with fail
    all_goals (go_ret; exact ⟨by rw [He.out]; rfl, one_below _ _⟩)
  · have h1 : ¬ x.kind < 1 := by omega
    go_enter Tryz.func28, Tryz.ntmps28
    go_wp2_with fail
    all_goals (go_ret; exact ⟨by rw [He.out]; rfl, one_below _ _⟩)
  · rw [h4]
    clear h4
    go_enter Tryz.func28, Tryz.ntmps28
    go_wp2_with fail
    all_goals (go_ret; exact ⟨by rw [He.out]; rfl, one_below _ _⟩)
  · rw [h4]
    have h1 : ¬ x.station < 1 := by omega
    clear h4
    go_enter Tryz.func28, Tryz.ntmps28
    go_wp2_with fail
    all_goals (go_ret; exact ⟨by rw [He.out]; rfl, one_below _ _⟩)
end Go.Proofs.YtobaoekibnloiaaGreatDoor
/- script's check: events that are no stations. Printed by gen_pcheck2.py. -/
namespace Go.Proofs.YtobaoekibnloiaaGreatDoor
open Go Go.RowKit


theorem ev_yields {ops : Array Oper} {S : World → Prop} {op : Oper} {a : Act} (hw : Region.wanted op (yielded ops a.tmps) = true) (x : Operand) (ho : op.op = .load 36 x)
    (b : Nat) (hx : a.eval x = .pointer (some ⟨b, 0, none⟩)) (cs : List Value) (hS : ∀ w, S w → EvAt w b cs) : YieldsIf Tryz.prog ops S op (.agg cs.toArray) a := .inl ⟨hw, fun w hw' => by
  unfold execOp
  simp only [ho, hx, Instr.loadAt, Instr.sureAddr, Sem.run_bind, Sem.run_pure, Result.andThen_ok, ev_loadVar (hS w hw')]⟩

open Classical in
set_option maxHeartbeats 8000000 in
set_option maxRecDepth 100000 in
theorem check_no (x : Ev) (bv cv : Value) (w : World) (hE : Env w) (hp : EvParts 0 w x bv cv) (h1 : 1 ≤ x.kind) (h2 : x.kind ≤ 6) (h4 : x.kind ≠ 4) :
    Calls Tryz.prog 28 #[x.val bv cv] w (CheckIs x w) := by
  have hk : ¬ kindBad x := by unfold kindBad; omega
  have hnm : ¬ (x.kind = 4 ∧ nameOk x.name = false) := fun h => h4 h.1
  have E1 := Lib.hid (@errOf_1 x hk hnm)
  have E7 := Lib.hid (@errOf_7 x hk hnm)
  have E0 := Lib.hid (@errOf_0 x hk hnm)
  have Hst : Hid (stateBad x ↔ x ≠ only x) := ⟨fun h => h.elim (fun h => absurd h.1 h4) id, Or.inr⟩
  have e4 : (x.kind == 4) = false := by simpa using h4
  have g1 : ¬ x.kind < 1 := by omega
  have g2 : ¬ 6 < x.kind := by omega
  have HP := Lib.hid hp
  have HN := Lib.hid (fun w' (hb : Below w.heap.size w w') => numbers_any x bv cv w' (hp.below hb))
  have HEv := Lib.hid hE
  obtain ⟨ba, bc, rfl, hz1⟩ := hp.bytes
  obtain ⟨ca, cc, rfl, hz2⟩ := hp.bias
  clear hz1 hz2
  have hO := fun w' => only_any x (.slice ba x.bytes.length bc) (.slice ca x.bias.length cc) w' ⟨_, _, _, rfl⟩ ⟨_, _, _, rfl⟩
  have hS := fun w' (hb : Below w.heap.size w w') => psame_any x (only x) (.slice ba x.bytes.length bc) (.slice ca x.bias.length cc) (if x.kind = 2 then .slice ba x.bytes.length bc else .slice none 0 0) (if x.kind = 4 then .slice ca x.bias.length cc else .slice none 0 0) w' (hp.below hb) (only_parts (hp.below hb))
  unfold OnlyIs at hO
  generalize (if x.kind = 2 then Value.slice ba x.bytes.length bc else .slice none 0 0) = dv at hO hS
  generalize (if x.kind = 4 then Value.slice ca x.bias.length cc else .slice none 0 0) = ev at hO hS
  have HO := Lib.hid hO
  have HS := Lib.hid hS
  clear hO hS
  have hs8 := hE.size
  clear hp hE h1 h2 h4 hk hnm
  unfold Ev.val evCells
  go_enter Tryz.func28, Tryz.ntmps28
  go_wp2_with fail
  refine (HN.out _ (one_below _ _)).mono ?_
  rintro e w1 ⟨v, rfl, hin, hb1⟩
  have HB1 := Lib.hid (below_then (one_below w _) hb1)
  have Hin := Lib.hid hin
  have EB := Lib.hid ((EvAt.new w (evCells x (.slice ba x.bytes.length bc) (.slice ca x.bias.length cc)) rfl 36).below hb1)
  clear hin hb1
  go_wp2_with fail
  refine (containsf_any v (nums x) w1 (HEv.out.below HB1.out hs8) Hin.out).mono ?_
  rintro e w2 ⟨rfl, hb2⟩
  have HB2 := Lib.hid (below_then HB1.out hb2)
  have EB2 := Lib.hid (EB.out.below hb2)
  obtain ⟨q, hq⟩ : ∃ q, q = decide (∃ z ∈ nums x, longI z) := ⟨_, rfl⟩
  rw [← hq]
  have Hq := Lib.hid hq
  clear hq hb2
  cases q with
  | true =>
    go_wp2_with fail
    go_ret
    exact ⟨by rw [E1.out (of_decide_eq_true Hq.out.symm)]; rfl, HB2.out⟩
  | false =>
    have Hno := Lib.hid (of_decide_eq_false Hq.out.symm)
    obtain ⟨r, hr⟩ : ∃ r, r = decide (x = only x) := ⟨_, rfl⟩
    rw [← hr] at HS
    have Hr := Lib.hid hr
    clear hr
    go_wp2_with fail

    refine wp_region_held_drew (S := fun wx => EvAt wx w.heap.size (evCells x (.slice ba x.bytes.length bc) (.slice ca x.bias.length cc)) ∧ Below w.heap.size w wx) (by kernel_rfl) ⟨EB2.out.drew, HB2.out.drew⟩ (fun hHeld => ?_)
    refine wpAnyH_takeD (i := 0) (d := some 42) (v := .bool false) rfl rfl (by kernel_rfl) (by kernel_rfl) (by kernel_rfl) (fun _ _ _ h => h) (Or.inl ⟨by rfl, fun _ _ => by rfl⟩) (by assumption) ?_
    simp only [Act.put, List.setIfInBounds_toArray, List.set_cons_zero, List.set_cons_succ]
    refine wpAnyH_takeD (i := 1) (d := some 43) (v := .bool false) rfl rfl (by kernel_rfl) (by kernel_rfl) (by kernel_rfl) (fun _ _ _ h => h) (Or.inl ⟨by rfl, fun _ _ => by rfl⟩) (by assumption) ?_
    simp only [Act.put, List.setIfInBounds_toArray, List.set_cons_zero, List.set_cons_succ]
    refine wpAnyH_takeD (i := 2) (d := some 44) (v := undef) rfl rfl (by kernel_rfl) (by kernel_rfl) (by kernel_rfl) (fun _ _ _ h => h) (Or.inr ⟨by rfl, rfl⟩) (by assumption) ?_
    simp only [Act.put, List.setIfInBounds_toArray, List.set_cons_zero, List.set_cons_succ]
    refine wpAnyH_takeD (i := 3) (d := some 45) (v := undef) rfl rfl (by kernel_rfl) (by kernel_rfl) (by kernel_rfl) (fun _ _ _ h => h) (Or.inr ⟨by rfl, rfl⟩) (by assumption) ?_
    simp only [Act.put, List.setIfInBounds_toArray, List.set_cons_zero, List.set_cons_succ]
    refine wpAnyH_takeD (i := 4) (d := some 46) (v := undef) rfl rfl (by kernel_rfl) (by kernel_rfl) (by kernel_rfl) (fun _ _ _ h => h) (Or.inr ⟨by rfl, rfl⟩) (by assumption) ?_
    simp only [Act.put, List.setIfInBounds_toArray, List.set_cons_zero, List.set_cons_succ]
    refine wpAnyH_takeD (i := 5) (d := some 47) (v := .bool false) rfl rfl (by kernel_rfl) (by kernel_rfl) (by kernel_rfl) (fun _ _ _ h => h) (Or.inl ⟨by rfl, fun _ _ => by rfl⟩) (by assumption) ?_
    simp only [Act.put, List.setIfInBounds_toArray, List.set_cons_zero, List.set_cons_succ]
    refine wpAnyH_takeD (i := 6) (d := some 48) (v := .bool false) rfl rfl (by kernel_rfl) (by kernel_rfl) (by kernel_rfl) (fun _ _ _ h => h) (Or.inl ⟨by rfl, fun _ _ => by rfl⟩) (by assumption) ?_
    simp only [Act.put, List.setIfInBounds_toArray, List.set_cons_zero, List.set_cons_succ]
    refine wpAnyH_takeD (i := 7) (d := some 49) (v := undef) rfl rfl (by kernel_rfl) (by kernel_rfl) (by kernel_rfl) (fun _ _ _ h => h) (Or.inr ⟨by rfl, rfl⟩) (by assumption) ?_
    simp only [Act.put, List.setIfInBounds_toArray, List.set_cons_zero, List.set_cons_succ]
    refine wpAnyH_takeD (i := 8) (d := some 50) (v := undef) rfl rfl (by kernel_rfl) (by kernel_rfl) (by kernel_rfl) (fun _ _ _ h => h) (Or.inr ⟨by rfl, rfl⟩) (by assumption) ?_
    simp only [Act.put, List.setIfInBounds_toArray, List.set_cons_zero, List.set_cons_succ]
    refine wpAnyH_takeD (i := 9) (d := some 51) (v := undef) rfl rfl (by kernel_rfl) (by kernel_rfl) (by kernel_rfl) (fun _ _ _ h => h) (Or.inr ⟨by rfl, rfl⟩) (by assumption) ?_
    simp only [Act.put, List.setIfInBounds_toArray, List.set_cons_zero, List.set_cons_succ]
    refine wpAnyH_takeD (i := 10) (d := some 52) (v := undef) rfl rfl (by kernel_rfl) (by kernel_rfl) (by kernel_rfl) (fun _ _ _ h => h) (Or.inr ⟨by rfl, rfl⟩) (by assumption) ?_
    simp only [Act.put, List.setIfInBounds_toArray, List.set_cons_zero, List.set_cons_succ]
    refine wpAnyH_takeD (i := 11) (d := some 53) (v := undef) rfl rfl (by kernel_rfl) (by kernel_rfl) (by kernel_rfl) (fun _ _ _ h => h) (Or.inr ⟨by rfl, rfl⟩) (by assumption) ?_
    simp only [Act.put, List.setIfInBounds_toArray, List.set_cons_zero, List.set_cons_succ]
    refine wpAnyH_takeD (i := 12) (d := some 54) (v := .bool false) rfl rfl (by kernel_rfl) (by kernel_rfl) (by kernel_rfl) (fun _ _ _ h => h) (Or.inl ⟨by rfl, fun _ _ => by rfl⟩) (by assumption) ?_
    simp only [Act.put, List.setIfInBounds_toArray, List.set_cons_zero, List.set_cons_succ]
    refine wpAnyH_takeD (i := 13) (d := some 55) (v := .bool false) rfl rfl (by kernel_rfl) (by kernel_rfl) (by kernel_rfl) (fun _ _ _ h => h) (Or.inl ⟨by rfl, fun _ _ => by rfl⟩) (by assumption) ?_
    simp only [Act.put, List.setIfInBounds_toArray, List.set_cons_zero, List.set_cons_succ]
    refine wpAnyH_takeD (i := 14) (d := some 56) (v := x.val (.slice ba x.bytes.length bc) (.slice ca x.bias.length cc)) rfl rfl (by kernel_rfl) (by kernel_rfl) (by kernel_rfl) (fun _ _ _ h => h) (ev_yields (by rfl) _ rfl w.heap.size rfl _ (fun _ h => h.1)) (by assumption) ?_
    simp only [Act.put, List.setIfInBounds_toArray, List.set_cons_zero, List.set_cons_succ]
    refine wpAnyH_takeD (i := 15) (d := some 57) (v := x.val (.slice ba x.bytes.length bc) (.slice ca x.bias.length cc)) rfl rfl (by kernel_rfl) (by kernel_rfl) (by kernel_rfl) (fun _ _ _ h => h) (ev_yields (by rfl) _ rfl w.heap.size rfl _ (fun _ h => h.1)) (by assumption) ?_
    simp only [Act.put, List.setIfInBounds_toArray, List.set_cons_zero, List.set_cons_succ]
    refine wpAnyH_ready (rs := [16]) (by kernel_rfl) (by simp) ?_
    refine AllReadyH.cons rfl (fun K hK => ?_) AllReadyH.nil
    rw [if_pos (by rfl)]
    go_simp
    refine (HO.out _).mono ?_
    rintro e w3 ⟨rfl, hb3⟩
    refine hK.out _ _ ⟨hHeld.1.below hb3, below_then hHeld.2 hb3⟩ (fun hHeld => ?_)
    clear hK K hb3
    refine wpAnyH_ready (rs := [17]) (by kernel_rfl) (by simp) ?_
    refine AllReadyH.cons rfl (fun K hK => ?_) AllReadyH.nil
    rw [if_pos (by rfl)]
    go_simp
    refine (HS.out w3 hHeld.2).mono ?_
    rintro e w4 ⟨rfl, hb4⟩
    refine hK.out _ _ ⟨hHeld.1.below hb4, below_then hHeld.2 hb4⟩ (fun hHeld => ?_)
    clear hK K hb4
    refine wpAnyH_takeD (i := 18) (d := some 60) (v := .bool (!r)) rfl rfl (by kernel_rfl) (by kernel_rfl) (by kernel_rfl) (fun _ _ _ h => h) (Or.inl ⟨by rfl, fun _ _ => by rfl⟩) (by assumption) ?_
    simp only [Act.put, List.setIfInBounds_toArray, List.set_cons_zero, List.set_cons_succ]
    refine wpAnyH_takeD (i := 19) (d := some 61) (v := .bool (!r)) rfl rfl (by kernel_rfl) (by kernel_rfl) (by kernel_rfl) (fun _ _ _ h => h) (Or.inl ⟨by rfl, fun _ _ => by rfl⟩) (by assumption) ?_
    simp only [Act.put, List.setIfInBounds_toArray, List.set_cons_zero, List.set_cons_succ]
    refine wpAnyH_takeD (i := 20) (d := some 41) (v := .bool (!r)) rfl rfl (by kernel_rfl) (by kernel_rfl) (by kernel_rfl) (fun _ _ _ h => h) (Or.inl ⟨by rfl, fun _ _ => by rfl⟩) (by assumption) ?_
    simp only [Act.put, List.setIfInBounds_toArray, List.set_cons_zero, List.set_cons_succ]
    refine wpAnyH_done (by kernel_rfl) ?_ _
    cases r with
    | true =>
      go_wp2_with fail
      go_ret
      exact ⟨by rw [E0.out Hno.out (fun hs => (Hst.out.1 hs) (of_decide_eq_true Hr.out.symm))]; rfl, hHeld.2⟩
    | false =>
      go_wp2_with fail
      go_ret
      exact ⟨by rw [E7.out Hno.out (Hst.out.2 (of_decide_eq_false Hr.out.symm))]; rfl, hHeld.2⟩
end Go.Proofs.YtobaoekibnloiaaGreatDoor
