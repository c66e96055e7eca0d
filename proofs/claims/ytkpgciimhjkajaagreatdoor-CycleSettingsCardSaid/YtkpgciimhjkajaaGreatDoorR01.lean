/- Part 1 of the proof: laws on memory and what functions of the program return. No conditions but those that each theorem names. -/
import Derived.WalkKit
import Derived.WalkLawsBesides
import Derived.Deep.Draws
import Derived.Lib.Hide
import Derived.Deep.RegionHeld3
import Derived.Test.YtkpgciimhjkajaaGreatDoorChecked
import Derived.Outline
import Derived.Deep.QuietTactic
import Derived.BigQuiet
import Derived.IntWalk
import Derived.Deep.MidRow
import Derived.Deep.DeepCutAuto
import Derived.Deep.CutBlock
import Derived.Deep.AppendLies
import Derived.Laws.IdiomStrings
import Derived.Laws.StructEq
set_option linter.unusedVariables false
set_option linter.unusedSimpArgs false
namespace Go.Proofs.YtkpgciimhjkajaaGreatDoor
open Go
theorem ap_s (l : List Value) (df) (i : Tmp) (v : Value) : Act.put ⟨l.toArray, df⟩ (some i) v = ⟨(l.set i v).toArray, df⟩ := by simp [Act.put]
theorem ap_n (a : Act) (v : Value) : Act.put a none v = a := rfl
theorem ls_z {α : Type} (a b : α) (l : List α) : (a :: l).set 0 b = b :: l := rfl
theorem ls_s {α : Type} (a b : α) (l : List α) (n : Nat) : (a :: l).set (n + 1) b = a :: l.set n b := rfl
end Go.Proofs.YtkpgciimhjkajaaGreatDoor
/- Small laws on worlds: what stays as it was when one block and new blocks are written. No conditions, no program. -/
namespace Go.Proofs.YtkpgciimhjkajaaGreatDoor
open Go Go.RowKit
def I64 (x : Int) : Prop := -9223372036854775808 ≤ x ∧ x ≤ 9223372036854775807
theorem I64.lo {x : Int} (h : I64 x) : -9223372036854775808 ≤ x := h.1
theorem I64.hi {x : Int} (h : I64 x) : x ≤ 9223372036854775807 := h.2
theorem I64.zero : I64 0 := by unfold I64; omega
structure But (B b : Nat) (w w' : World) : Prop where
  os : w'.os = w.os
  tape : w'.tape = w.tape
  output : w'.output = w.output
  size : w.heap.size ≤ w'.heap.size
  block : ∀ k, k < B → k ≠ b → w'.heap[k]? = w.heap[k]?
theorem But.refl (B b : Nat) (w : World) : But B b w w := ⟨rfl, rfl, rfl, Nat.le_refl _, fun _ _ _ => rfl⟩
theorem But.trans {B b : Nat} {x y z : World} (h : But B b x y) (k : But B b y z) : But B b x z :=
  ⟨k.os.trans h.os, k.tape.trans h.tape, k.output.trans h.output, Nat.le_trans h.size k.size, fun i hi hn => (k.block i hi hn).trans (h.block i hi hn)⟩
theorem But.mono {B B' b : Nat} {w w' : World} (h : But B b w w') (hB : B' ≤ B) : But B' b w w' :=
  ⟨h.os, h.tape, h.output, h.size, fun k hk => h.block k (Nat.lt_of_lt_of_le hk hB)⟩
theorem But.of_below {B b : Nat} {w w' : World} (h : Below B w w') : But B b w w' := ⟨h.os, h.tape, h.output, h.size, fun k hk _ => h.block k hk⟩
theorem But.below {B b : Nat} {w w' : World} (h : But B b w w') (hb : B ≤ b) : Below B w w' := ⟨h.os, h.tape, h.output, h.size, fun k hk => h.block k hk (by omega)⟩
theorem But.drewN {B b : Nat} {a w : World} (h : But B b a w) (n : Nat) : But B b a (w.drewN n) := ⟨h.os, h.tape, h.output, h.size, h.block⟩
theorem But.drew {B b : Nat} {a w : World} (h : But B b a w) : But B b a w.drew := ⟨h.os, h.tape, h.output, h.size, h.block⟩
theorem But.alloc {B b : Nat} {a w : World} (h : But B b a w) (hB : B ≤ w.heap.size) (o : Obj) : But B b a (w.alloc o) :=
  h.trans ⟨rfl, rfl, rfl, by simp, fun k hk _ => Below.heap_alloc _ _ _ (by omega)⟩
theorem But.setCell {B b : Nat} {a w : World} (h : But B b a w) {p : Addr} (hp : B ≤ p.block ∨ p.block = b) (u : Value) : But B b a (w.setCell p u) :=
  h.trans ⟨rfl, rfl, rfl, by simp [World.setCell], fun k hk hn => Below.heap_setCell _ _ _ _ (by omega)⟩
theorem But.cell {B b : Nat} {w w' : World} (h : But B b w w') {p : Addr} (hp : p.block < B) (hn : p.block ≠ b) : w'.cell? p = w.cell? p :=
  World.cell?_of_block (w := w) (h.block p.block hp hn)
theorem But.frozen {B b : Nat} {w w' : World} (h : But B b w w') {p : Addr} (hp : p.block < B) (hn : p.block ≠ b) : w'.frozen? p = w.frozen? p :=
  World.frozen?_of_block (w := w) (h.block p.block hp hn)
theorem below_then {w wx w' : World} (h : Below w.heap.size w wx) (hb : Below wx.heap.size wx w') : Below w.heap.size w w' := h.trans (hb.mono h.size)
theorem cell_then {wx w' : World} {a : Addr} {v : Value} (hb : Below wx.heap.size wx w') (h : wx.cell? a = some v) : w'.cell? a = some v := by
  rw [hb.cell (World.block_lt_of_cell? _ _ h)]; exact h
end Go.Proofs.YtkpgciimhjkajaaGreatDoor
/- The icosahedron's grid of frequency one, plain: places, their normal addresses, nodes, and where a place is among them. No program. -/
namespace Go.Proofs.YtkpgciimhjkajaaGreatDoor
open Go
structure Pl where
  f : Int
  a : Int
  b : Int
  c : Int
deriving DecidableEq
def crn (f : Nat) : Nat × Nat × Nat :=
  if f / 5 = 0 then (0, 1 + f % 5, 1 + (f % 5 + 1) % 5)
  else if f / 5 = 1 then (1 + f % 5, 6 + f % 5, 1 + (f % 5 + 1) % 5)
  else if f / 5 = 2 then (6 + f % 5, 6 + (f % 5 + 1) % 5, 1 + (f % 5 + 1) % 5)
  else (11, 6 + (f % 5 + 1) % 5, 6 + f % 5)
theorem crn_lt (f : Nat) : (crn f).1 < 12 ∧ (crn f).2.1 < 12 ∧ (crn f).2.2 < 12 := by
  unfold crn
  split
  · simp; omega
  · split
    · simp; omega
    · split <;> (simp; omega)
theorem crn_ne : ∀ f, f < 20 → (crn f).1 ≠ (crn f).2.1 ∧ (crn f).1 ≠ (crn f).2.2 ∧ (crn f).2.1 ≠ (crn f).2.2 := by decide
def wgt (p : Pl) : List Int := (((List.replicate 12 (0 : Int)).set (crn p.f.toNat).1 p.a).set (crn p.f.toNat).2.1 p.b).set (crn p.f.toNat).2.2 p.c
theorem wgt_length (p : Pl) : (wgt p).length = 12 := by simp [wgt]
def onP (f : Nat) (w : List Int) : Pl := ⟨f, w.getD (crn f).1 0, w.getD (crn f).2.1 0, w.getD (crn f).2.2 0⟩
def onB (f : Nat) (w : List Int) : Bool := decide ((onP f w).a + (onP f w).b + (onP f w).c = 840)
def adr (w : List Int) : Nat → List Pl
  | 0 => []
  | k + 1 => adr w k ++ if onB k w = true then [onP k w] else []
def norP (p : Pl) : Pl := (adr (wgt p) 20).headD ⟨0, 0, 0, 0⟩
def vtx (f : Nat) : List Pl := [⟨f, 0, 0, 840⟩, ⟨f, 0, 840, 0⟩, ⟨f, 840, 0, 0⟩]
def nodes1 : List Pl := (List.range 20).flatMap fun f => (vtx f).filter fun p => norP p == p
def lessP (p q : Pl) : Bool := if p.f ≠ q.f then decide (p.f < q.f) else if p.a ≠ q.a then decide (p.a < q.a) else decide (p.b < q.b)
def fnd (l : List Pl) (p : Pl) : Nat → Nat → Nat → Nat × Nat
  | 0, lo, hi => (lo, hi)
  | k + 1, lo, hi => if lo < hi then (if lessP (l.getD ((lo + hi) / 2) ⟨0, 0, 0, 0⟩) p = true then fnd l p k ((lo + hi) / 2 + 1) hi else fnd l p k lo ((lo + hi) / 2)) else (lo, hi)
end Go.Proofs.YtkpgciimhjkajaaGreatDoor
/- Regions that draw, taken by hand: what is pure or only loads first, the slot that it writes given; the condition on the world made stronger on the way. -/
namespace Go.Proofs.YtkpgciimhjkajaaGreatDoor
open Go Go.RowKit
theorem yields_load {P : Program} {ops : Array Oper} {S : World → Prop} {op : Oper} {a : Act} {v : Value} (hw : Region.wanted op (yielded ops a.tmps) = true) (ty : TypeId) (x : Operand) (ho : op.op = .load ty x)
    (ad : Addr) (hx : a.eval x = .pointer (some ad)) (hS : ∀ w, S w → (loadVar ty ad).run P w = .ok v w) : YieldsIf P ops S op v a := .inl ⟨hw, fun w hw' => by
  unfold execOp
  simp only [ho, hx, Instr.loadAt, Instr.sureAddr, Sem.run_bind, Sem.run_pure, Result.andThen_ok, hS w hw']⟩
end Go.Proofs.YtkpgciimhjkajaaGreatDoor
/- A region that draws, by an invariant: each operation once, whatever the order. No program. -/
namespace Go.Proofs.YtkpgciimhjkajaaGreatDoor
open Go Go.RowKit
theorem count_set_lt : ∀ (l : List Bool) (i : Nat), l[i]? = some false → (l.set i true).count false < l.count false
  | [], i, h => by simp at h
  | a :: l, 0, h => by simp at h; subst h; simp
  | a :: l, i + 1, h => by
    have ih := count_set_lt l i (by simpa using h)
    simp only [List.set_cons_succ, List.count_cons]
    omega
section
variable {P : Program} {md : Region.Mode} {ops : Array Oper} {Q : Exit → Act → World → Prop}
theorem wpAny_inv (I : Array Bool → Act → World → Prop)
    (hs : ∀ listed a w i, listed.size = ops.size → I listed a w → i ∈ Region.ready md ops listed → wpOp P ops Q i (fun a' w' => I (listed.setIfInBounds i true) a' w') a w)
    (he : ∀ listed a w, listed.size = ops.size → I listed a w → Region.ready md ops listed = [] → Q .normal a w) :
    ∀ (fuel : Nat) (listed : Array Bool) (a : Act) (w : World), listed.size = ops.size → listed.toList.count false ≤ fuel → I listed a w → wpAny P md ops Q fuel listed a w
  | 0, listed, a, w, hsz, hc, hI => by
    have hr : Region.ready md ops listed = [] := by
      cases hq : Region.ready md ops listed with
      | nil => rfl
      | cons i r =>
        exfalso
        have hi : i ∈ Region.ready md ops listed := by rw [hq]; simp
        have h0 := (mem_ready.1 hi).1
        have hlt : i < listed.size := by
          rcases Nat.lt_or_ge i listed.size with h | h
          · exact h
          · simp [Array.getElem?_eq_none h] at h0
        have hm : false ∈ listed.toList := by
          have : listed[i] = false := by simpa [hlt] using h0
          rw [← this]; simp
        have := List.count_pos_iff.2 hm
        omega
    exact ⟨hr, he listed a w hsz hI hr⟩
  | fuel + 1, listed, a, w, hsz, hc, hI => by
    refine ⟨fun hr => he listed a w hsz hI hr, fun i hi => ?_⟩
    refine wpOp_mono (fun a' w' h' => ?_) (hs listed a w i hsz hI hi)
    have h0 := (mem_ready.1 hi).1
    have hlt : i < listed.size := by
      rcases Nat.lt_or_ge i listed.size with h | h
      · exact h
      · simp [Array.getElem?_eq_none h] at h0
    have hf : listed.toList[i]? = some false := by
      have : listed[i] = false := by simpa [hlt] using h0
      simp [hlt, this]
    refine wpAny_inv I hs he fuel _ a' w' (by simp [hsz]) ?_ h'
    have h1 := count_set_lt listed.toList i hf
    rw [Array.toList_setIfInBounds]
    omega
def slotOf (o : Oper) (a : Act) : Value := match o.dst with
  | some t => a.tmps.getD t undef
  | none => undef
def distB (ops : Array Oper) (N : Nat) : Bool := (List.range ops.size).all fun i => match ops[i]? with
  | some o => (match o.dst with
    | some t => decide (t < N) && (List.range ops.size).all fun j => j == i || (match ops[j]? with | some p => p.dst != some t | none => true)
    | none => true)
  | none => true
theorem dist_spec {N : Nat} (h : distB ops N = true) {i : Nat} {o : Oper} {t : Tmp} (ho : ops[i]? = some o) (hd : o.dst = some t) : t < N ∧ ∀ j p, ops[j]? = some p → j ≠ i → p.dst ≠ some t := by
  have hi : i < ops.size := (Array.getElem?_eq_some_iff.1 ho).1
  have h1 := List.all_eq_true.1 h i (List.mem_range.2 hi)
  simp only [ho, hd] at h1
  rw [Bool.and_eq_true] at h1
  refine ⟨by simpa using h1.1, fun j p hp hne => ?_⟩
  have hj : j < ops.size := (Array.getElem?_eq_some_iff.1 hp).1
  have h2 := List.all_eq_true.1 h1.2 j (List.mem_range.2 hj)
  rw [hp] at h2
  rcases Bool.or_eq_true .. ▸ h2 with h3 | h3
  · exact absurd (by simpa using h3) hne
  · simpa using h3
def SameAct (ops : Array Oper) (a0 a : Act) : Prop := a.defers = a0.defers ∧ a.tmps.size = a0.tmps.size ∧ ∀ (t : Tmp), (∀ (k : Nat) (o : Oper), ops[k]? = some o → o.dst ≠ some t) → a.tmps.getD t undef = a0.tmps.getD t undef
theorem put_other {a : Act} {d : Option Tmp} {v : Value} {t : Tmp} (h : d ≠ some t) : (a.put d v).tmps.getD t undef = a.tmps.getD t undef := by
  cases d with
  | none => rfl
  | some s =>
    have hne : s ≠ t := fun e => h (by rw [e])
    show (a.tmps.setIfInBounds s v).getD t undef = _
    simp [Array.getElem?_setIfInBounds_ne hne]
theorem put_same {a : Act} {t : Tmp} {v : Value} (h : t < a.tmps.size) : (a.put (some t) v).tmps.getD t undef = v := by
  show (a.tmps.setIfInBounds t v).getD t undef = _
  simp [Array.getElem?_setIfInBounds, h]
theorem SameAct.put {a0 a : Act} (h : SameAct ops a0 a) {i : Nat} {o : Oper} (ho : ops[i]? = some o) (v : Value) : SameAct ops a0 (a.put o.dst v) := by
  refine ⟨?_, ?_, fun t ht => ?_⟩
  · rw [← h.1]; cases o.dst <;> rfl
  · rw [← h.2.1]; cases o.dst <;> simp [Act.put]
  · rw [put_other (ht i o ho)]; exact h.2.2 t ht
end
end Go.Proofs.YtkpgciimhjkajaaGreatDoor
/- A region that draws, by an invariant that may name the operations done so far; each operation once, whatever the order. No program. -/
namespace Go.Proofs.YtkpgciimhjkajaaGreatDoor
open Go Go.RowKit
section
variable {P : Program} {ops : Array Oper} {Q : Exit → Act → World → Prop}
def ClosedD (ops : Array Oper) (d : Nat → Bool) : Prop := ∀ k p, ops[k]? = some p → d k = true → ∀ e ∈ p.after, Region.binds .any e = true → d e.on = true
def HopAt (P : Program) (ops : Array Oper) (Q : Exit → Act → World → Prop) (a0 : Act) (S : (Nat → Bool) → World → Prop) (F : Nat → Value → World → Prop) (i : Nat) (o : Oper) : Prop :=
  ∀ (d : Nat → Bool) (a : Act) (w : World), d i = false → ClosedD ops d → S d w → SameAct ops a0 a →
    (∀ e ∈ o.after, Region.binds .any e = true → d e.on = true ∧ ∀ (p : Oper), ops[e.on]? = some p → F e.on (slotOf p a) w) →
    ∀ K : Act → World → Prop, (∀ v w', F i (match o.dst with | some _ => v | none => undef) w' → (∀ k u, d k = true → F k u w → F k u w') → S (fun k => k == i || d k) w' → K (a.put o.dst v) w') → if Region.wanted o (yielded ops a.tmps) = true then Oper.wp P o a w K Q else K (a.put o.dst undef) w
def AllHops (H : Nat → Oper → Prop) : Nat → List Oper → Prop
  | _, [] => True
  | k, o :: r => H k o ∧ AllHops H (k + 1) r
theorem allHops_at {H : Nat → Oper → Prop} : ∀ (l : List Oper) (k i : Nat) (o : Oper), AllHops H k l → l[i]? = some o → H (k + i) o
  | [], _, _, _, _, h => by simp at h
  | p :: l, k, 0, o, ha, h => by simp at h; subst h; exact ha.1
  | p :: l, k, i + 1, o, ha, h => by
    have := allHops_at l (k + 1) i o ha.2 (by simpa using h)
    rw [show k + (i + 1) = k + 1 + i by omega]; exact this
def backC (ops : Array Oper) : Bool := (List.range ops.size).all fun k => match ops[k]? with
  | some o => o.after.all fun e => !Region.binds .any e || decide (e.on < k)
  | none => true
theorem all_listedC (hb : backC ops = true) {listed : Array Bool} (hr : Region.ready .any ops listed = []) (hsz : listed.size = ops.size) : ∀ k, k < ops.size → listed.getD k false = true := by
  intro k
  induction k using Nat.strongRecOn with
  | ind k ih =>
    intro hk
    have hko : ops[k]? = some ops[k] := Array.getElem?_eq_getElem hk
    cases hq : listed.getD k false with
    | true => rfl
    | false =>
      exfalso
      have hm : k ∈ Region.ready .any ops listed := by
        refine mem_ready.2 ⟨?_, ops[k], hko, fun e he hbd => ?_⟩
        · have hlt : k < listed.size := by omega
          simp [hlt] at hq ⊢; exact hq
        · have h1 := List.all_eq_true.1 hb k (List.mem_range.2 hk)
          rw [hko] at h1
          have h2 := Array.all_eq_true'.1 h1 e he
          rw [hbd] at h2
          have h3 : e.on < k := by simpa using h2
          exact ih e.on h3 (by omega)
      rw [hr] at hm
      cases hm
theorem wp_region_phase {id : Nat} {a0 : Act} {w0 : World} (hm : P.follows .mixedOrders = true) (N : Nat) (hN : a0.tmps.size = N) (hd : distB ops N = true) (hb : backC ops = true)
    (S : (Nat → Bool) → World → Prop) (F : Nat → Value → World → Prop) (hS0 : S (fun _ => false) w0.drew)
    (hop : AllHops (HopAt P ops Q a0 S F) 0 ops.toList)
    (hend : ∀ (a : Act) (w : World) (d : Nat → Bool), (∀ k, k < ops.size → d k = true) → S d w → SameAct ops a0 a → (∀ (k : Nat) (o : Oper), ops[k]? = some o → F k (slotOf o a) w) → Q .normal a w) : (Code.region id ops true).wp P Q a0 w0 := by
  refine wp_region_any hm ?_
  refine wpAny_inv (fun listed a w => (∃ d, (∀ k, k < ops.size → d k = listed.getD k false) ∧ ClosedD ops d ∧ S d w) ∧ SameAct ops a0 a ∧ ∀ k o, ops[k]? = some o → listed.getD k false = true → F k (slotOf o a) w) ?_ ?_ _ _ _ _ (by simp) ?_ ?_
  · rintro listed a w i hsz ⟨⟨d, hdl, hcl, hS⟩, hA, hF⟩ hi
    obtain ⟨h0, o, ho, hall⟩ := mem_ready.1 hi
    have hio : i < ops.size := (Array.getElem?_eq_some_iff.1 ho).1
    have hil : i < listed.size := by omega
    have hdi : d i = false := by
      rw [hdl i hio]
      have : listed.getD i true = false := h0
      simp [hil] at this ⊢; exact this
    have hop' := allHops_at _ 0 i o hop (by rw [Array.getElem?_toList]; exact ho)
    rw [Nat.zero_add] at hop'
    refine wpOp_step ho fun K' hK => hop' d a w hdi hcl hS hA (fun e he hbd => ?_) K' (fun v w' hv hr hs => hK _ _ ⟨⟨fun k => k == i || d k, ?_, ?_, hs⟩, hA.put ho v, fun k p hp hl => ?_⟩)
    · have h1 := hall e he hbd
      have hle : e.on < ops.size := by
        rcases Nat.lt_or_ge e.on ops.size with h | h
        · exact h
        · simp [Array.getElem?_eq_none (show listed.size ≤ e.on by omega)] at h1
      exact ⟨by rw [hdl _ hle]; exact h1, fun p hp => hF e.on p hp h1⟩
    · intro k hk
      by_cases hki : k = i
      · subst hki
        simp [hil]
      · rw [getD_set_ne false (Ne.symm hki), ← hdl k hk]
        simp [hki]
    · intro k p hp hk e he hbd
      by_cases hki : k = i
      · subst hki
        obtain rfl := Option.some.inj (ho.symm.trans hp)
        have h1 := hall e he hbd
        have hle : e.on < ops.size := by
          rcases Nat.lt_or_ge e.on ops.size with h | h
          · exact h
          · simp [Array.getElem?_eq_none (show listed.size ≤ e.on by omega)] at h1
        have h2 : d e.on = true := by rw [hdl _ hle]; exact h1
        simp [h2]
      · have hk' : d k = true := by simpa [hki] using hk
        have h2 := hcl k p hp hk' e he hbd
        simp [h2]
    · by_cases hki : k = i
      · subst hki
        rw [ho] at hp
        injection hp with hp
        subst hp
        unfold slotOf
        cases hq : o.dst with
        | none => rw [hq] at hv; exact hv
        | some t =>
          rw [hq] at hv
          have hlt := (dist_spec hd ho hq).1
          simp only
          have hlt2 : t < a.tmps.size := by rw [hA.2.1, hN]; exact hlt
          rw [put_same hlt2]
          exact hv
      · have hl' : listed.getD k false = true := by rw [getD_set_ne false (Ne.symm hki)] at hl; exact hl
        have hko : k < ops.size := (Array.getElem?_eq_some_iff.1 hp).1
        have h1 := hr k _ (by rw [hdl k hko]; exact hl') (hF k p hp hl')
        have e : slotOf p (a.put o.dst v) = slotOf p a := by
          unfold slotOf
          cases hq : p.dst with
          | none => rfl
          | some t => simp only; exact put_other ((dist_spec hd hp hq).2 i o ho (Ne.symm hki))
        rw [e]; exact h1
  · rintro listed a w hsz ⟨⟨d, hdl, hcl, hS⟩, hA, hF⟩ hr
    have hal := all_listedC hb hr hsz
    exact hend a w d (fun k hk => by rw [hdl k hk]; exact hal k hk) hS hA fun k o ho => hF k o ho (hal k (Array.getElem?_eq_some_iff.1 ho).1)
  · rw [Array.toList_replicate]; exact Nat.le_trans (List.count_le_length) (by simp)
  · refine ⟨⟨fun _ => false, fun k hk => by simp [hk], (fun k p _ hk => by cases hk), hS0⟩, ⟨rfl, rfl, fun _ _ => rfl⟩, fun k o ho hl => ?_⟩
    exfalso
    have hk := (Array.getElem?_eq_some_iff.1 ho).1
    simp [hk] at hl
def mixL (u : Nat → Value) : Nat → Nat → Nat → List Value → List Value
  | _, _, _, [] => []
  | s + 1, t, k, v :: r => v :: mixL u s t (k + 1) r
  | 0, t + 1, k, _ :: r => u k :: mixL u 0 t (k + 1) r
  | 0, 0, _, v :: r => v :: r
theorem mixL_get (u : Nat → Value) : ∀ (l : List Value) (s t k i : Nat), (mixL u s t k l)[i]? = (l[i]?).map fun v => if s ≤ i ∧ i < s + t then u (k + i) else v
  | [], s, t, k, i => by cases s <;> cases t <;> simp [mixL]
  | v :: r, s + 1, t, k, 0 => by simp [mixL]
  | v :: r, s + 1, t, k, i + 1 => by
    have ih := mixL_get u r s t (k + 1) i
    simp only [mixL, List.getElem?_cons_succ, ih]
    congr 1
    funext x
    rw [show k + 1 + i = k + (i + 1) by omega]
    by_cases h : s ≤ i ∧ i < s + t
    · rw [if_pos h, if_pos (by omega)]
    · rw [if_neg h, if_neg (by omega)]
  | v :: r, 0, t + 1, k, 0 => by simp [mixL]
  | v :: r, 0, t + 1, k, i + 1 => by
    have ih := mixL_get u r 0 t (k + 1) i
    simp only [mixL, List.getElem?_cons_succ, ih]
    congr 1
    funext x
    rw [show k + 1 + i = k + (i + 1) by omega]
    by_cases h : 0 ≤ i ∧ i < 0 + t
    · rw [if_pos h, if_pos (by omega)]
    · rw [if_neg h, if_neg (by omega)]
  | v :: r, 0, 0, k, i => by
    simp only [mixL]
    cases h : (v :: r)[i]? with
    | none => rfl
    | some x => simp
def slotsB (ops : Array Oper) (lo n : Nat) : Bool := (List.range ops.size).all fun k => match ops[k]? with
  | some o => (match o.dst with | some t => decide (lo ≤ t) && decide (t < lo + n) | none => true)
  | none => true
theorem sameAct_mix {a0 a : Act} (h : SameAct ops a0 a) {lo n : Nat} (hs : slotsB ops lo n = true) : a = ⟨(mixL (fun k => a.tmps.getD k undef) lo n 0 a0.tmps.toList).toArray, a0.defers⟩ := by
  obtain ⟨h1, h2, h3⟩ := h
  obtain ⟨tm, df⟩ := a
  simp only at h1 h2 h3 ⊢
  subst h1
  congr 1
  apply Array.ext'
  apply List.ext_getElem?
  intro i
  rw [mixL_get]
  simp only [Array.getElem?_toList, Nat.zero_add]
  by_cases hi : i < tm.size
  · have hi0 : i < a0.tmps.size := by omega
    rw [Array.getElem?_eq_getElem hi, Array.getElem?_eq_getElem hi0]
    simp only [Option.map_some]
    congr 1
    by_cases hr : lo ≤ i ∧ i < lo + n
    · rw [if_pos hr]; simp [hi]
    · rw [if_neg hr]
      have := h3 i (fun k o ho hd => by
        have hk := (Array.getElem?_eq_some_iff.1 ho).1
        have hq := List.all_eq_true.1 hs k (List.mem_range.2 hk)
        rw [ho] at hq
        simp only [hd, Bool.and_eq_true, decide_eq_true_eq] at hq
        exact hr hq)
      simpa [hi, hi0] using this
  · rw [Array.getElem?_eq_none (by omega), Array.getElem?_eq_none (by omega)]; rfl
theorem wp_region_slots {id : Nat} {a0 : Act} {w0 : World} (hm : P.follows .mixedOrders = true) (N : Nat) (hN : a0.tmps.size = N) (hd : distB ops N = true) (hb : backC ops = true) (lo n : Nat) (hs : slotsB ops lo n = true)
    (S : (Nat → Bool) → World → Prop) (F : Nat → Value → World → Prop) (hS0 : S (fun _ => false) w0.drew)
    (hop : AllHops (HopAt P ops Q a0 S F) 0 ops.toList)
    (hend : ∀ (u : Nat → Value) (w : World) (d : Nat → Bool), (∀ k, k < ops.size → d k = true) → S d w → (∀ (k : Nat) (o : Oper), ops[k]? = some o → F k (match o.dst with | some t => u t | none => undef) w) →
      Q .normal ⟨(mixL u lo n 0 a0.tmps.toList).toArray, a0.defers⟩ w) : (Code.region id ops true).wp P Q a0 w0 := by
  refine wp_region_phase hm N hN hd hb S F hS0 hop fun a w d h1 h2 h3 h4 => ?_
  rw [sameAct_mix h3 hs]
  refine hend _ w d h1 h2 fun k o ho => ?_
  exact h4 k o ho
theorem hop_val {o : Oper} {a : Act} {w w' : World} {K : Act → World → Prop} (hg : o.guard = none) (v : Value) (hrun : (execOp a.eval o).run P w = .ok (.value v) w') (h : K (a.put o.dst v) w') :
    if Region.wanted o (yielded ops a.tmps) = true then Oper.wp P o a w K Q else K (a.put o.dst undef) w := by
  have hw : Region.wanted o (yielded ops a.tmps) = true := by simp [Region.wanted, hg]
  rw [if_pos hw]
  unfold Oper.wp
  rw [hrun]; exact h
theorem hop_none {o : Oper} {a : Act} {w w' : World} {K : Act → World → Prop} (hg : o.guard = none) (hrun : (execOp a.eval o).run P w = .ok .skip w') (h : K (a.put o.dst undef) w') :
    if Region.wanted o (yielded ops a.tmps) = true then Oper.wp P o a w K Q else K (a.put o.dst undef) w := by
  have hw : Region.wanted o (yielded ops a.tmps) = true := by simp [Region.wanted, hg]
  rw [if_pos hw]
  unfold Oper.wp
  rw [hrun]; exact h
theorem hop_call {o : Oper} {a : Act} {w : World} {K : Act → World → Prop} (hg : o.guard = none) {f : FuncId} {fn : Func} (hf : P.funcs[f]? = some fn) (hname : (fn.name == "runtime.NumGoroutine") = false) (hb : fn.body.isNone = false) (args : Array Operand) (ts : Array TypeId) (ho : o.op = .call { callee := .value (.func f), args := args, argTypes := ts }) (vs : Array Value) (hv : args.map a.eval = vs)
    (R : Ending → World → Prop) (hc : Calls P f vs w R) (h : ∀ e w', R e w' → ∃ v, e = .returned v ∧ K (a.put o.dst v) w') :
    if Region.wanted o (yielded ops a.tmps) = true then Oper.wp P o a w K Q else K (a.put o.dst undef) w := by
  have hw : Region.wanted o (yielded ops a.tmps) = true := by simp [Region.wanted, hg]
  rw [if_pos hw]
  subst hv
  have e : (execOp a.eval o).run P w = .ok (.enter f (args.map a.eval)) w := by
    have h1 : fn.name ≠ "runtime.NumGoroutine" := by simpa using hname
    have h2 : ¬ fn.body = none := by intro h; rw [h] at hb; cases hb
    unfold execOp
    simp [ho, resolve, Deferred.ofValue, invoke, Act.eval, callFunc, hf, h1, h2]
  unfold Oper.wp
  rw [e, Oper.upon_enter]
  refine hc.mono fun e w' hr => ?_
  obtain ⟨v, rfl, hk⟩ := h e w' hr
  exact hk
theorem same_slot {a0 a : Act} (h : SameAct ops a0 a) (t : Tmp) (ht : ((List.range ops.size).all fun k => match ops[k]? with | some o => o.dst != some t | none => true) = true) : a.tmps.getD t undef = a0.tmps.getD t undef := by
  refine h.2.2 t fun k o ho => ?_
  have hk := (Array.getElem?_eq_some_iff.1 ho).1
  have := List.all_eq_true.1 ht k (List.mem_range.2 hk)
  rw [ho] at this
  simpa using this
end
end Go.Proofs.YtkpgciimhjkajaaGreatDoor
/- The choices of synopticfield: New, Left, Next and Place. What they return lies in its range, and only the list's own place is written. No conditions. -/
namespace Go.Proofs.YtkpgciimhjkajaaGreatDoor
open Go Go.RowKit
theorem but_cell {wx w' : World} {b : Nat} {a : Addr} {v : Value} (hb : But wx.heap.size b wx w') (hn : a.block ≠ b) (h : wx.cell? a = some v) : w'.cell? a = some v := by
  rw [hb.cell (World.block_lt_of_cell? _ _ h) hn]; exact h
def CodesIs (w : World) (B b : Nat) : Prop :=
  ∃ (a : Option Addr) (len cap k : Nat), B ≤ b ∧ w.cell? ⟨b, 0, none⟩ = some (.slice a len cap) ∧ w.cell? ⟨b, 1, none⟩ = some (.int .i64 k) ∧ w.frozen? ⟨b, 1, none⟩ = false ∧ k ≤ len ∧ len ≤ 1000 ∧
    (∀ i, k ≤ i → i < len → ∃ ab ao : Nat, a = some ⟨ab, ao, none⟩ ∧ ab < B ∧ ∃ z : Int, 0 ≤ z ∧ z ≤ 255 ∧ w.cell? ⟨ab, ao + i, none⟩ = some (.int .u8 z))
theorem CodesIs.lt {w : World} {B b : Nat} (h : CodesIs w B b) : b < w.heap.size := by
  obtain ⟨a, len, cap, k, h0, h1, _⟩ := h
  exact World.block_lt_of_cell? (a := ⟨b, 0, none⟩) _ h1
theorem CodesIs.le {w : World} {B b : Nat} (h : CodesIs w B b) : B ≤ b := by obtain ⟨_, _, _, _, h0, _⟩ := h; exact h0
theorem CodesIs.of_same {w w' : World} {B b : Nat} (h : CodesIs w B b) (hb : w'.heap[b]? = w.heap[b]?) (hB : ∀ k, k < B → k < w.heap.size → w'.heap[k]? = w.heap[k]?) : CodesIs w' B b := by
  obtain ⟨a, len, cap, k, h0, h1, h2, h3, h4, h5, h6⟩ := h
  refine ⟨a, len, cap, k, h0, ?_, ?_, ?_, h4, h5, ?_⟩
  · rw [World.cell?_of_block (w := w) hb]; exact h1
  · rw [World.cell?_of_block (w := w) hb]; exact h2
  · rw [World.frozen?_of_block (w := w) hb]; exact h3
  · intro i hi hl
    obtain ⟨ab, ao, ha, hlt, z, z0, z1, hc⟩ := h6 i hi hl
    have hb' := hB _ hlt (World.block_lt_of_cell? (a := ⟨ab, ao + i, none⟩) _ hc)
    refine ⟨ab, ao, ha, hlt, z, z0, z1, ?_⟩
    have e : w'.cell? ⟨ab, ao + i, none⟩ = w.cell? ⟨ab, ao + i, none⟩ := World.cell?_of_block (w := w) hb'
    rw [e]; exact hc
theorem CodesIs.below {w w' : World} {B b C : Nat} (h : CodesIs w B b) (hw : Below C w w') (hC : b < C) : CodesIs w' B b :=
  h.of_same (hw.block _ hC) (fun k hk _ => hw.block k (by have := h.le; omega))
theorem CodesIs.setCell {w : World} {B b : Nat} (h : CodesIs w B b) {p : Addr} (hp : p.block ≠ b) (hB : B ≤ p.block) (u : Value) : CodesIs (w.setCell p u) B b :=
  h.of_same (Below.heap_setCell _ _ _ _ (by omega)) (fun k hk _ => Below.heap_setCell _ _ _ _ (by omega))
theorem CodesIs.alloc {w : World} {B b : Nat} (h : CodesIs w B b) (o : Obj) : CodesIs (w.alloc o) B b :=
  h.of_same (Below.heap_alloc _ _ _ h.lt) (fun _ _ hk => Below.heap_alloc _ _ _ hk)
theorem CodesIs.drewN {w : World} {B b : Nat} (h : CodesIs w B b) (n : Nat) : CodesIs (w.drewN n) B b := h.of_same rfl (fun _ _ _ => rfl)
theorem CodesIs.drew {w : World} {B b : Nat} (h : CodesIs w B b) : CodesIs w.drew B b := h.of_same rfl (fun _ _ _ => rfl)
def St (w0 : World) (B b : Nat) (w : World) : Prop := CodesIs w B b ∧ But w0.heap.size b w0 w
theorem St.start {w : World} {B b : Nat} (h : CodesIs w B b) : St w B b w := ⟨h, But.refl _ _ _⟩
theorem St.size {w0 w : World} {B b : Nat} (h : St w0 B b w) : w0.heap.size ≤ w.heap.size := h.2.size
theorem St.lt {w0 w : World} {B b : Nat} (h : St w0 B b w) : b < w.heap.size := h.1.lt
theorem St.alloc {w0 w : World} {B b : Nat} (h : St w0 B b w) (o : Obj) : St w0 B b (w.alloc o) := ⟨h.1.alloc o, h.2.alloc h.2.size o⟩
theorem St.drewN {w0 w : World} {B b : Nat} (h : St w0 B b w) (n : Nat) : St w0 B b (w.drewN n) := ⟨h.1.drewN n, h.2.drewN n⟩
theorem St.drew {w0 w : World} {B b : Nat} (h : St w0 B b w) : St w0 B b w.drew := ⟨h.1.drew, h.2.drew⟩
theorem St.below {w0 w w' : World} {B b : Nat} (h : St w0 B b w) (hw : Below w.heap.size w w') : St w0 B b w' := ⟨h.1.below hw h.1.lt, h.2.trans (But.of_below (hw.mono h.2.size))⟩
theorem St.setCell {w0 w : World} {B b : Nat} (h : St w0 B b w) {p : Addr} (hp : w0.heap.size ≤ p.block) (hn : p.block ≠ b) (hB : B ≤ p.block) (u : Value) : St w0 B b (w.setCell p u) := ⟨h.1.setCell hn hB u, h.2.setCell (Or.inl hp) u⟩
theorem St.then {w0 w w' : World} {B b : Nat} (h : St w0 B b w) (hs : St w B b w') : St w0 B b w' := ⟨hs.1, h.2.trans (hs.2.mono h.2.size)⟩
theorem St.grown {w0 w w' : World} {B b base : Nat} (h : St w0 B b w) (hb : Below base w w') (hbb : b < base) (h0 : w0.heap.size ≤ base) : St w0 B b w' := ⟨h.1.below hb hbb, h.2.trans (But.of_below (hb.mono h0))⟩
def IntIn (lo hi : Int) (B b : Nat) (w : World) (e : Ending) (w' : World) : Prop := ∃ x : Int, lo ≤ x ∧ x ≤ hi ∧ e = .returned (.int .i64 x) ∧ St w B b w'
def BoolIn (q : Bool) (w : World) (e : Ending) (w' : World) : Prop := e = .returned (.bool q) ∧ ∃ n, w' = w.drewN n
theorem left_raw (b k len cap : Nat) (a : Option Addr) (w : World) (h0 : w.cell? ⟨b, 0, none⟩ = some (.slice a len cap)) (h1 : w.cell? ⟨b, 1, none⟩ = some (.int .i64 k)) (q : Bool) (hq : decide (k < len) = q) :
    Calls Tryz.prog 42 #[.pointer (some ⟨b, 0, none⟩)] w (BoolIn q w) := by
  go_enter Tryz.func42, Tryz.ntmps42
  go_wp2
  go_quiet (fail)
  go_wp2
  go_ret
  exact ⟨by rw [← hq]; rfl, _, rfl⟩
set_option maxHeartbeats 1000000 in
theorem next_ok (B b : Nat) (n : Int) (w : World) (h : CodesIs w B b) (h1 : 1 ≤ n) (h2 : n ≤ 1000000000) :
    Calls Tryz.prog 22 #[.pointer (some ⟨b, 0, none⟩), .int .i64 n] w (IntIn 0 (n - 1) B b w) := by
  have H := Lib.hid h
  obtain ⟨a, len, cap, k, q0, q1, q2, q3, q4, q5, q6⟩ := h
  have H6 := Lib.hid q6
  rcases Nat.lt_or_ge k len with hk | hk
  · obtain ⟨ab, ao, rfl, hab, z, z0, z1, hz⟩ := H6.out k (Nat.le_refl _) hk
    have L := Lib.hid (left_raw b k len cap (some ⟨ab, ao, none⟩) w q1 q2 true (by simpa using hk))
    have hne : ab ≠ b := by omega
    have Hfin : Hid (∀ (m p : Nat), St w B b (((w.drewN m).setCell ⟨b, 1, none⟩ (.int .i64 ((k : Int) + 1))).drewN p)) := by
      intro m p
      refine ⟨?_, ((But.refl _ b _).drewN m |>.setCell (p := ⟨b, 1, none⟩) (Or.inr rfl) _).drewN p⟩
      refine ⟨some ⟨ab, ao, none⟩, len, cap, k + 1, q0, ?_, ?_, ?_, hk, q5, ?_⟩
      · simp only [World.cell?_drewN]
        rw [World.cell?_setCell_other _ _ _ _ (by simp)]; exact q1
      · simp only [World.cell?_drewN]
        exact World.cell?_setCell_same _ _ _ (by simp only [World.cell?_drewN]; exact q2)
      · rw [← q3]; simp
      · intro i hi hl
        obtain ⟨ab', ao', e', hlt', z', z0', z1', hc'⟩ := H6.out i (by omega) hl
        obtain ⟨rfl, rfl⟩ : ab = ab' ∧ ao = ao' := by simpa using e'
        refine ⟨ab, ao, rfl, hlt', z', z0', z1', ?_⟩
        simp only [World.cell?_drewN]
        rw [World.cell?_setCell_other _ _ _ _ (by simp)]; exact hc'
    have hm0 : 0 ≤ z % n := Int.emod_nonneg _ (by omega)
    have hm1 : z % n < n := Int.emod_lt_of_pos _ (by omega)
    clear q6
    go_enter Tryz.func22, Tryz.ntmps22
    go_wp2_with fail
    refine L.out.mono ?_
    rintro e w1 ⟨rfl, m, rfl⟩
    have e1 : IntKind.i64.wrap (k : Int) = k := IntWalk.i64_in _ (by omega)
    go_wp2_with fail
    have e2 : (0 : Int) ≤ (k : Int) := by omega
    have e3 : (k : Int) < len := by omega
    go_quiet (fail)
    clear e1 e2 e3
    go_wp2_with fail
    go_ret
    exact ⟨_, hm0, by omega, rfl, Hfin.out _ _⟩
  · have L := Lib.hid (left_raw b k len cap a w q1 q2 false (by simp; omega))
    clear q6
    go_enter Tryz.func22, Tryz.ntmps22
    go_wp2_with fail
    refine L.out.mono ?_
    rintro e w1 ⟨rfl, m, rfl⟩
    go_wp2_with fail
    go_ret
    exact ⟨0, by omega, by omega, rfl, (St.start H.out).drewN _⟩
end Go.Proofs.YtkpgciimhjkajaaGreatDoor
/- The reference's places: valid, corners, weights, addresses. -/
namespace Go.Proofs.YtkpgciimhjkajaaGreatDoor
open Go Go.RowKit
def Pl.val (p : Pl) : Value := .agg #[.int .i64 p.f, .int .i64 p.a, .int .i64 p.b, .int .i64 p.c]
def Pl.Ok (p : Pl) : Prop := 0 ≤ p.f ∧ p.f < 20 ∧ 0 ≤ p.a ∧ p.a ≤ 840 ∧ 0 ≤ p.b ∧ p.b ≤ 840 ∧ 0 ≤ p.c ∧ p.c ≤ 840 ∧ p.a + p.b + p.c = 840
set_option maxHeartbeats 4000000 in
theorem valid_any (p : Pl) (h : p.Ok) (w : World) : Calls Tryz.prog 125 #[p.val] w fun e w' => e = .returned (.bool true) ∧ Below w.heap.size w w' := by
  obtain ⟨f, a, b, c⟩ := p
  obtain ⟨h1, h2, h3, h4, h5, h6, h7, h8, h9⟩ := h
  unfold Pl.val
  simp only at *
  have hs : ((a + b + c : Int) == 840) = true := by simpa using h9
  clear h9
  go_enter Tryz.func125, Tryz.ntmps125
  go_wp2_with fail
  go_ret
  exact ⟨rfl, (Below.refl _ _).alloc (Nat.le_refl _) _⟩
def crnV (f : Nat) : Value := .agg #[.int .i64 (crn f).1, .int .i64 (crn f).2.1, .int .i64 (crn f).2.2]
set_option maxHeartbeats 16000000 in
theorem corners_any (f : Nat) (hf : f < 20) (w : World) : Calls Tryz.prog 159 #[.int .i64 f] w fun e w' => e = .returned (.tuple #[crnV f, .int .i64 0]) ∧ Below w.heap.size w w' := by
  have hs : f = 0 ∨ f = 1 ∨ f = 2 ∨ f = 3 ∨ f = 4 ∨ f = 5 ∨ f = 6 ∨ f = 7 ∨ f = 8 ∨ f = 9 ∨ f = 10 ∨ f = 11 ∨ f = 12 ∨ f = 13 ∨ f = 14 ∨ f = 15 ∨ f = 16 ∨ f = 17 ∨ f = 18 ∨ f = 19 := by omega
  clear hf
  rcases hs with rfl | rfl | rfl | rfl | rfl | rfl | rfl | rfl | rfl | rfl | rfl | rfl | rfl | rfl | rfl | rfl | rfl | rfl | rfl | rfl
  all_goals
    go_enter Tryz.func159, Tryz.ntmps159
    go_wp2_with fail
    refine bodyPost_ret (v := .tuple #[crnV _, .int .i64 0]) (by simp [results, Tryz.results159, go_sem]; rfl) rfl ⟨rfl, ?_⟩
    first
      | exact (((Below.refl _ _).alloc (Nat.le_refl _) _).setCell (Nat.le_refl _) _).setCell (Nat.le_refl _) _
      | exact ((((Below.refl _ _).alloc (Nat.le_refl _) _).setCell (Nat.le_refl _) _).setCell (Nat.le_refl _) _).setCell (Nat.le_refl _) _
      | exact ((Below.refl _ _).alloc (Nat.le_refl _) _).setCell (Nat.le_refl _) _
      | exact (Below.refl _ _).alloc (Nat.le_refl _) _
end Go.Proofs.YtkpgciimhjkajaaGreatDoor
/- A value of many cells in a block of its own: kept, changed at one place, loaded and stored whole. No walk. -/
namespace Go.Proofs.YtkpgciimhjkajaaGreatDoor
open Go Go.RowKit
def RowAt (w : World) (b : Nat) (cs : List Value) : Prop := 0 < cs.length ∧ (∀ i, i < cs.length → w.cell? ⟨b, i, none⟩ = cs[i]?) ∧ ∀ i, i < cs.length → w.frozen? ⟨b, i, none⟩ = false
theorem RowAt.lt {w : World} {b : Nat} {cs : List Value} (h : RowAt w b cs) : b < w.heap.size := by
  have h0 := h.2.1 0 h.1
  rw [List.getElem?_eq_getElem h.1] at h0
  exact World.block_lt_of_cell? (a := ⟨b, 0, none⟩) _ h0
theorem RowAt.of_block {w w' : World} {b : Nat} {cs : List Value} (h : RowAt w b cs) (hb : w'.heap[b]? = w.heap[b]?) : RowAt w' b cs := by
  refine ⟨h.1, fun i hi => ?_, fun i hi => ?_⟩
  · rw [World.cell?_of_block (w := w) hb]; exact h.2.1 i hi
  · rw [World.frozen?_of_block (w := w) hb]; exact h.2.2 i hi
theorem RowAt.below {w w' : World} {b : Nat} {cs : List Value} (h : RowAt w b cs) (hb : Below w.heap.size w w') : RowAt w' b cs := h.of_block (hb.block _ h.lt)
theorem RowAt.but {w w' : World} {b p : Nat} {cs : List Value} (h : RowAt w b cs) (hb : But w.heap.size p w w') (hn : b ≠ p) : RowAt w' b cs := h.of_block (hb.block _ h.lt hn)
theorem RowAt.drew {w : World} {b : Nat} {cs : List Value} (h : RowAt w b cs) : RowAt w.drew b cs := h.of_block rfl
theorem RowAt.alloc {w : World} {b : Nat} {cs : List Value} (h : RowAt w b cs) (o : Obj) : RowAt (w.alloc o) b cs := h.of_block (Below.heap_alloc _ _ _ h.lt)
theorem RowAt.other {w : World} {b : Nat} {cs : List Value} (h : RowAt w b cs) {p : Addr} (hp : p.block ≠ b) (u : Value) : RowAt (w.setCell p u) b cs := h.of_block (Below.heap_setCell _ _ _ _ (by omega))
theorem RowAt.set {w : World} {b : Nat} {cs : List Value} (h : RowAt w b cs) (j : Nat) (hj : j < cs.length) (u : Value) : RowAt (w.setCell ⟨b, j, none⟩ u) b (cs.set j u) := by
  refine ⟨by rw [List.length_set]; exact h.1, fun i hi => ?_, fun i hi => ?_⟩
  · rw [List.length_set] at hi
    by_cases hij : i = j
    · subst hij
      have h0 := h.2.1 i hi
      rw [List.getElem?_eq_getElem hi] at h0
      rw [World.cell?_setCell_same _ _ _ h0, List.getElem?_set_self hi]
    · rw [World.cell?_setCell_other _ _ _ _ (by simp <;> omega), h.2.1 i hi, List.getElem?_set_ne (by omega)]
  · rw [List.length_set] at hi
    rw [← h.2.2 i hi]; simp
theorem RowAt.new (w : World) (cs : List Value) (hl : 0 < cs.length) (t : TypeId) {H : Nat} (hH : w.heap.size = H) : RowAt (w.alloc (.cells cs.toArray t)) H cs := by
  subst hH
  refine ⟨hl, fun i hi => ?_, fun i hi => ?_⟩
  · simp
  · simp
theorem RowAt.at {w : World} {b : Nat} {cs : List Value} (h : RowAt w b cs) (i : Nat) {v : Value} (hv : cs[i]? = some v) : w.cell? ⟨b, i, none⟩ = some v := by
  rw [h.2.1 i (List.getElem?_eq_some_iff.1 hv).1]; exact hv
theorem RowAt.range {w : World} {b : Nat} {cs : List Value} (h : RowAt w b cs) : w.rangeAt b 0 cs := fun j v hj => by
  rw [Nat.zero_add, h.2.1 j (List.getElem?_eq_some_iff.1 hj).1]; exact hj
theorem RowAt.there {w : World} {b : Nat} {cs : List Value} (h : RowAt w b cs) {n : Nat} (hn : n ≤ cs.length) : w.there b 0 n := fun j hj => by
  refine ⟨?_, ?_⟩
  · rw [Nat.zero_add, h.2.1 j (by omega), List.getElem?_eq_getElem (by omega)]; rfl
  · rw [Nat.zero_add]; exact h.2.2 j (by omega)
def RowT (t : TypeId) (n : Nat) : Prop := (Tryz.prog.info? t).map (·.size) = some n ∧ ∃ d, Tryz.prog.underlying t = some d ∧ d.isRow = true
theorem RowAt.loadVar {w : World} {b : Nat} {cs : List Value} (h : RowAt w b cs) {t : TypeId} (ht : RowT t cs.length) : (loadVar t ⟨b, 0, none⟩).run Tryz.prog w = .ok (.agg cs.toArray) w := by
  obtain ⟨h0, d, h1, h2⟩ := ht
  exact run_loadVar_mid w b 0 _ cs d h.range h1 h2 h0
theorem row_load {ops : Array Oper} {rest : List Oper} {op : Oper} {a : Act} {w : World} {Q : Exit → Act → World → Prop} {t : TypeId} (hgd : op.guard = none) (x : Operand) (ho : op.op = .load t x)
    (b : Nat) (hx : a.eval x = .pointer (some ⟨b, 0, none⟩)) (cs : List Value) (h : RowAt w b cs) (ht : RowT t cs.length)
    (k : wpList Tryz.prog ops Q rest (a.put op.dst (.agg cs.toArray)) w) : wpList Tryz.prog ops Q (op :: rest) a w := by
  obtain ⟨h0, d, h1, h2⟩ := ht
  exact wpList_load_mid hgd _ x ho b 0 hx cs d h.range h1 h2 h0 k
def ApartR (b : Nat) (w w' : World) : Prop := w'.os = w.os ∧ w'.tape = w.tape ∧ w'.output = w.output ∧ w'.heap.size = w.heap.size ∧ ∀ k, k ≠ b → w'.heap[k]? = w.heap[k]?
theorem apartR_setCells (b : Nat) : ∀ (vs : List Value) (o : Nat) (w : World), ApartR b w (w.setCells b o vs)
  | [], _, _ => ⟨rfl, rfl, rfl, rfl, fun _ _ => rfl⟩
  | v :: r, o, w => by
    obtain ⟨h1, h2, h3, h4, h5⟩ := apartR_setCells b r (o + 1) (w.setCell ⟨b, o, none⟩ v)
    refine ⟨h1, h2, h3, by rw [World.setCells, h4]; simp [World.setCell], fun k hk => ?_⟩
    rw [World.setCells, h5 k hk]
    exact Below.heap_setCell _ _ _ _ (fun e => hk e)
theorem ApartR.below {B b : Nat} {w w' : World} (h : ApartR b w w') (hb : B ≤ b) : Below B w w' := ⟨h.1, h.2.1, h.2.2.1, Nat.le_of_eq h.2.2.2.1.symm, fun k hk => h.2.2.2.2 k (by omega)⟩
theorem RowAt.apart {w w' : World} {b p : Nat} {cs : List Value} (h : RowAt w b cs) (ha : ApartR p w w') (hn : b ≠ p) : RowAt w' b cs := h.of_block (ha.2.2.2.2 b hn)
theorem row_store {ops : Array Oper} {rest : List Oper} {op : Oper} {a : Act} {w : World} {Q : Exit → Act → World → Prop} {t : TypeId} (hgd : op.guard = none) (x y : Operand) (ho : op.op = .store t x y)
    (b : Nat) (hx : a.eval x = .pointer (some ⟨b, 0, none⟩)) (cs cs' : List Value) (hy : a.eval y = .agg cs'.toArray) (h : RowAt w b cs) (hl : cs'.length = cs.length) (ht : RowT t cs.length) (h1 : ∀ v ∈ cs', v.oneCell' = true)
    (k : ∀ w', RowAt w' b cs' → ApartR b w w' → wpList Tryz.prog ops Q rest (a.put op.dst undef) w') : wpList Tryz.prog ops Q (op :: rest) a w := by
  have ht' : w.there b 0 cs'.toArray.size := by rw [List.size_toArray]; exact h.there (by omega)
  refine wpList_store_mid hgd _ x y ho b 0 cs'.toArray hx hy ht' (by rw [ht.1, List.size_toArray, hl]) (all_oneCell_toArray h1) (k _ ?_ (apartR_setCells _ _ _ _))
  have hth : w.there b 0 cs'.length := h.there (by omega)
  refine ⟨by rw [hl]; exact h.1, fun i hi => ?_, fun i hi => ?_⟩
  · have := w.rangeAt_setCells_same b 0 cs' hth i _ (List.getElem?_eq_getElem hi)
    rw [Nat.zero_add] at this
    rw [List.getElem?_eq_getElem hi]
    exact this
  · rw [World.frozen?_setCells]; exact h.2.2 i (by omega)
theorem ret_row {fn : Func} {R : Ending → World → Prop} {a : Act} {w : World} {i : Nat} {t : TypeId} (hfn : fn.results = #[.cell i t]) (b : Nat) (cs : List Value) (h : RowAt w b cs) (ht : RowT t cs.length) (hp : a.tmps.getD i undef = .pointer (some ⟨b, 0, none⟩)) (hd : a.defers = [])
    (hR : R (.returned (.agg cs.toArray)) w) : bodyPost Tryz.prog fn R .ret a w := by
  refine bodyPost_ret ?_ hd hR
  have hl := h.loadVar ht
  unfold results
  rw [hfn]
  simp [hp, asAddr, hl, -Array.getD_eq_getD_getElem?]
theorem ret_row2 {fn : Func} {R : Ending → World → Prop} {a : Act} {w : World} {i j : Nat} {t : TypeId} (hfn : fn.results = #[.cell i t, .tmp j]) (b : Nat) (cs : List Value) (q : Value) (h : RowAt w b cs) (ht : RowT t cs.length) (hp : a.tmps.getD i undef = .pointer (some ⟨b, 0, none⟩)) (hq : a.tmps.getD j undef = q) (hd : a.defers = [])
    (hR : R (.returned (.tuple #[.agg cs.toArray, q])) w) : bodyPost Tryz.prog fn R .ret a w := by
  refine bodyPost_ret ?_ hd hR
  have hl := h.loadVar ht
  unfold results
  rw [hfn]
  simp [hp, hq, asAddr, hl, -Array.getD_eq_getD_getElem?]
end Go.Proofs.YtkpgciimhjkajaaGreatDoor
/- The reference's places: weights, and the address on a face. -/
namespace Go.Proofs.YtkpgciimhjkajaaGreatDoor
open Go Go.RowKit
theorem cell_alloc {w : World} {a : Addr} {v : Value} (o : Obj) (h : w.cell? a = some v) : (w.alloc o).cell? a = some v := cell_then ((Below.refl _ _).alloc (Nat.le_refl _) o) h
theorem cell_new (w : World) (cs : Array Value) (t : TypeId) {H i : Nat} {v : Value} (hH : w.heap.size = H) (hv : cs[i]? = some v) : (w.alloc (.cells cs t)).cell? ⟨H, i, none⟩ = some v := by
  subst hH; simpa using hv
theorem soft_new (w : World) (cs : Array Value) (t : TypeId) {H : Nat} (hH : w.heap.size = H) (i : Nat) : (w.alloc (.cells cs t)).frozen? ⟨H, i, none⟩ = false := by
  subst hH; simp
theorem rowT_w : RowT 25 12 := ⟨by kernel_rfl, _, Tryz.underlying25, rfl⟩
def wgtV (p : Pl) : Value := .agg ((wgt p).map (Value.int .i64)).toArray
set_option maxHeartbeats 16000000 in
theorem weights_any (f : Nat) (hf : f < 20) (a b c : Int) (w : World) : Calls Tryz.prog 126 #[Pl.val ⟨f, a, b, c⟩] w fun e w' => e = .returned (wgtV ⟨f, a, b, c⟩) ∧ Below w.heap.size w w' := by
  obtain ⟨h0, h1, h2⟩ := crn_lt f
  obtain ⟨e0, e1, e2⟩ := crn_ne f hf
  have HC := Lib.hid (fun w' => corners_any f hf w')
  have HW : Hid (wgtV ⟨f, a, b, c⟩ = .agg ((((List.replicate 12 (Value.int .i64 0)).set (crn f).1 (.int .i64 a)).set (crn f).2.1 (.int .i64 b)).set (crn f).2.2 (.int .i64 c)).toArray) := by
    unfold Hid wgtV wgt
    simp [List.map_set]
  rw [HW.out]
  unfold Pl.val
  unfold crnV at HC
  generalize (crn f).1 = x at *
  generalize (crn f).2.1 = y at *
  generalize (crn f).2.2 = z at *
  have x0 : (0 : Int) ≤ (x : Int) := by omega
  have y0 : (0 : Int) ≤ (y : Int) := by omega
  have z0 : (0 : Int) ≤ (z : Int) := by omega
  have x1 : (x : Int) < 12 := by omega
  have y1 : (y : Int) < 12 := by omega
  have z1 : (z : Int) < 12 := by omega
  clear h0 h1 h2 hf HW
  go_enter Tryz.func126, Tryz.ntmps126
  go_wp2_with fail
  refine (HC.out _).mono ?_
  rintro e w1 ⟨rfl, hb⟩
  go_wp2_with fail
  obtain ⟨wz, hwz⟩ : ∃ wz, wz = w1.alloc (.cells #[.int .i64 x, .int .i64 y, .int .i64 z] 97) := ⟨_, rfl⟩
  obtain ⟨cb, hcb⟩ : ∃ cb, cb = w1.heap.size := ⟨_, rfl⟩
  obtain ⟨hh, hhe⟩ : ∃ hh, hh = w.heap.size + 1 + 1 := ⟨_, rfl⟩
  have k0 : wz.cell? ⟨w.heap.size, 1, none⟩ = some (.int .i64 a) := by rw [hwz]; exact cell_alloc _ (cell_then hb (cell_alloc _ (cell_alloc _ (by simp))))
  have k1 : wz.cell? ⟨w.heap.size, 2, none⟩ = some (.int .i64 b) := by rw [hwz]; exact cell_alloc _ (cell_then hb (cell_alloc _ (cell_alloc _ (by simp))))
  have k2 : wz.cell? ⟨w.heap.size, 3, none⟩ = some (.int .i64 c) := by rw [hwz]; exact cell_alloc _ (cell_then hb (cell_alloc _ (cell_alloc _ (by simp))))
  have l0 : wz.cell? ⟨cb, 0, none⟩ = some (.int .i64 x) := by rw [hwz, hcb]; simp
  have l1 : wz.cell? ⟨cb, 1, none⟩ = some (.int .i64 y) := by rw [hwz, hcb]; simp
  have l2 : wz.cell? ⟨cb, 2, none⟩ = some (.int .i64 z) := by rw [hwz, hcb]; simp
  have hsz : hh < w1.heap.size := by have := hb.size; simp at this; omega
  have KA : ∀ j : Nat, j < 12 → wz.cell? ⟨hh, j, none⟩ = some (.int .i64 0) := by
    intro j hj
    rw [hwz, hhe]
    refine cell_alloc _ (cell_then hb (cell_new _ _ _ (by simp) ?_))
    have : j = 0 ∨ j = 1 ∨ j = 2 ∨ j = 3 ∨ j = 4 ∨ j = 5 ∨ j = 6 ∨ j = 7 ∨ j = 8 ∨ j = 9 ∨ j = 10 ∨ j = 11 := by omega
    rcases this with rfl | rfl | rfl | rfl | rfl | rfl | rfl | rfl | rfl | rfl | rfl | rfl <;> simp
  have KF : ∀ j : Nat, wz.frozen? ⟨hh, j, none⟩ = false := by
    intro j
    have h1 : (w1.alloc (.cells #[.int .i64 x, .int .i64 y, .int .i64 z] 97)).frozen? ⟨hh, j, none⟩ = w1.frozen? ⟨hh, j, none⟩ := World.frozen?_of_block (w := w1) (Below.heap_alloc _ _ _ hsz)
    rw [hwz, h1, hhe, hb.frozen (p := ⟨w.heap.size + 1 + 1, j, none⟩) (by simp)]
    exact soft_new _ _ _ (by simp) j
  have m0 := KA x (by omega)
  have m1 := KA y (by omega)
  have m2 := KA z (by omega)
  have n0 := KF x
  have n1 := KF y
  have n2 := KF z
  have g0 : ¬ hh = cb := by omega
  have g1 : ¬ hh = w.heap.size := by omega
  have g2 : ¬ cb = hh := by omega
  have g3 : ¬ w.heap.size = hh := by omega
  rw [← hwz, ← hcb, ← hhe]
  have HKA := Lib.hid KA
  have HKF := Lib.hid KF
  have HB := Lib.hid hb
  have Hwz := Lib.hid hwz
  have Hhe := Lib.hid hhe
  have Hsz := Lib.hid hsz
  clear KA KF hb hwz hcb hhe hsz
  have d0 : ¬ x = y := e0
  have d1 : ¬ x = z := e1
  have d2 : ¬ y = z := e2
  have d3 : ¬ y = x := fun e => e0 e.symm
  have d4 : ¬ z = x := fun e => e1 e.symm
  have d5 : ¬ z = y := fun e => e2 e.symm
  clear e0 e1 e2
  have HR : Hid (RowAt wz hh (List.replicate 12 (Value.int .i64 0))) := by
    refine ⟨by simp, fun i hi => ?_, fun i hi => HKF.out i⟩
    rw [List.length_replicate] at hi
    rw [HKA.out i hi, List.getElem?_replicate, if_pos hi]
  have HR2 : Hid (RowAt wz (w.heap.size + 1) (List.replicate 12 (Value.int .i64 0))) := by
    unfold Hid
    rw [Hwz.out]
    exact ((((RowAt.new _ (List.replicate 12 (Value.int .i64 0)) (by simp) _ (by simp)).alloc _).below HB.out).alloc _)
  have Hb1 : Hid (w.heap.size + 1 < hh) := by unfold Hid; have := Hhe.out; omega
  have Hfin : Hid (Below w.heap.size w wz) := by
    unfold Hid
    rw [Hwz.out]
    exact (((((Below.refl _ _).alloc (Nat.le_refl _) _).alloc (by simp) _).alloc (by simp; omega) _).trans (HB.out.mono (by simp; omega))).alloc (by have := HB.out.size; simp at this; omega) _
  go_region
  obtain ⟨wy, hwy⟩ : ∃ wy, wy = ((wz.setCell ⟨hh, x, none⟩ (.int .i64 a)).setCell ⟨hh, y, none⟩ (.int .i64 b)).setCell ⟨hh, z, none⟩ (.int .i64 c) := ⟨_, rfl⟩
  have HRy : Hid (RowAt wy hh ((((List.replicate 12 (Value.int .i64 0)).set x (.int .i64 a)).set y (.int .i64 b)).set z (.int .i64 c))) := by
    unfold Hid; rw [hwy]
    exact ((HR.out.set x (by simp; omega) _).set y (by simp; omega) _).set z (by simp; omega) _
  have HR2y : Hid (RowAt wy (w.heap.size + 1) (List.replicate 12 (Value.int .i64 0))) := by
    unfold Hid; rw [hwy]
    exact ((HR2.out.other (by have := Hb1.out; simp; omega) _).other (by have := Hb1.out; simp; omega) _).other (by have := Hb1.out; simp; omega) _
  have Hfy : Hid (Below w.heap.size w wy) := by
    unfold Hid; rw [hwy]
    exact ((Hfin.out.setCell (by have := Hb1.out; simp; omega) _).setCell (by have := Hb1.out; simp; omega) _).setCell (by have := Hb1.out; simp; omega) _
  rw [← hwy]
  clear hwy
  have ho : ∀ v ∈ ((((List.replicate 12 (Value.int .i64 0)).set x (.int .i64 a)).set y (.int .i64 b)).set z (.int .i64 c)), v.oneCell' = true := by
    intro v hv
    rcases List.mem_or_eq_of_mem_set hv with hv | rfl
    · rcases List.mem_or_eq_of_mem_set hv with hv | rfl
      · rcases List.mem_or_eq_of_mem_set hv with hv | rfl
        · rw [(List.mem_replicate.1 hv).2]; rfl
        · rfl
      · rfl
    · rfl
  have Ho := Lib.hid ho
  clear ho HR HR2 Hfin HKA HKF HB Hwz k0 k1 k2 l0 l1 l2 m0 m1 m2 n0 n1 n2
  go_wp2_with (first
    | (refine row_load rfl _ rfl _ rfl _ HRy.out (by rw [List.length_set, List.length_set, List.length_set, List.length_replicate]; exact rowT_w) ?_)
    | (refine row_store rfl _ _ rfl _ rfl _ _ rfl HR2y.out (by simp) (by rw [List.length_replicate]; exact rowT_w) Ho.out ?_; intro wq EQ HQ))
  refine ret_row rfl _ _ EQ (by rw [List.length_set, List.length_set, List.length_set, List.length_replicate]; exact rowT_w) rfl rfl ⟨rfl, Hfy.out.drew.trans (HQ.below (B := w.heap.size) (Nat.le_succ _))⟩
end Go.Proofs.YtkpgciimhjkajaaGreatDoor
/- A value of many cells, loaded and stored whole in a region that draws. No walk. -/
namespace Go.Proofs.YtkpgciimhjkajaaGreatDoor
open Go Go.RowKit
theorem hop_row_load {ops : Array Oper} {Q : Exit → Act → World → Prop} {o : Oper} {a : Act} {w : World} {K : Act → World → Prop} (hg : o.guard = none) {t : TypeId} (x : Operand) (ho : o.op = .load t x)
    (b : Nat) (hx : a.eval x = .pointer (some ⟨b, 0, none⟩)) (cs : List Value) (h : RowAt w b cs) (ht : RowT t cs.length) (k : K (a.put o.dst (.agg cs.toArray)) w) :
    if Region.wanted o (yielded ops a.tmps) = true then Oper.wp Tryz.prog o a w K Q else K (a.put o.dst undef) w := by
  obtain ⟨h0, d, h1, h2⟩ := ht
  refine hop_val hg (.agg cs.toArray) (w' := w) ?_ k
  unfold execOp
  simp only [ho, hx, Sem.run_bind, run_loadAt_mid w b 0 t cs d h.range h1 h2 h0, Result.andThen_ok, Sem.run_pure]
theorem hop_row_store {ops : Array Oper} {Q : Exit → Act → World → Prop} {o : Oper} {a : Act} {w : World} {K : Act → World → Prop} (hg : o.guard = none) {t : TypeId} (x y : Operand) (ho : o.op = .store t x y)
    (b : Nat) (hx : a.eval x = .pointer (some ⟨b, 0, none⟩)) (cs cs' : List Value) (hy : a.eval y = .agg cs'.toArray) (h : RowAt w b cs) (hl : cs'.length = cs.length) (ht : RowT t cs.length) (h1 : ∀ v ∈ cs', v.oneCell' = true)
    (k : ∀ w', RowAt w' b cs' → ApartR b w w' → K (a.put o.dst undef) w') :
    if Region.wanted o (yielded ops a.tmps) = true then Oper.wp Tryz.prog o a w K Q else K (a.put o.dst undef) w := by
  have hth : w.there b 0 cs'.length := h.there (by omega)
  have hrun := run_storeAt_mid (P := Tryz.prog) w b 0 t cs'.toArray (by rw [List.size_toArray]; exact hth) (by rw [ht.1, List.size_toArray, hl]) (all_oneCell_toArray h1)
  refine hop_none hg (w' := w.setCells b 0 cs') ?_ (k _ ?_ (apartR_setCells _ _ _ _))
  · unfold execOp
    simp only [ho, hx, hy, Sem.run_bind, hrun, Result.andThen_ok, Sem.run_pure]
  · refine ⟨by rw [hl]; exact h.1, fun i hi => ?_, fun i hi => ?_⟩
    · have := w.rangeAt_setCells_same b 0 cs' hth i _ (List.getElem?_eq_getElem hi)
      rw [Nat.zero_add] at this
      rw [List.getElem?_eq_getElem hi]
      exact this
    · rw [World.frozen?_setCells]; exact h.2.2 i (by omega)
end Go.Proofs.YtkpgciimhjkajaaGreatDoor
/- The reference's places: the address on a face. -/
namespace Go.Proofs.YtkpgciimhjkajaaGreatDoor
open Go Go.RowKit
theorem rowT_p : RowT 122 4 := ⟨by kernel_rfl, _, Tryz.underlying122, rfl⟩
def Pl.cells (p : Pl) : List Value := [.int .i64 p.f, .int .i64 p.a, .int .i64 p.b, .int .i64 p.c]
theorem Pl.one (p : Pl) : ∀ v ∈ p.cells, v.oneCell' = true := by intro v hv; simp [Pl.cells] at hv; rcases hv with rfl | rfl | rfl | rfl <;> rfl
def WOk (l : List Int) : Prop := l.length = 12 ∧ ∀ x ∈ l, 0 ≤ x ∧ x ≤ 840
def wV (l : List Int) : Value := .agg (l.map (Value.int .i64)).toArray
def FOn (f a b c : Int) (q : Bool) (pb : Nat) (k : Nat) (v : Value) (_ : World) : Prop := match k with
  | 0 => v = .agg (Pl.cells ⟨f, a, b, c⟩).toArray
  | 1 => v = .pointer (some ⟨pb, 1, none⟩)
  | 2 => v = .int .i64 a
  | 3 => v = .pointer (some ⟨pb, 2, none⟩)
  | 4 => v = .int .i64 b
  | 5 => v = .int .i64 (a + b)
  | 6 => v = .pointer (some ⟨pb, 3, none⟩)
  | 7 => v = .int .i64 c
  | 8 => v = .int .i64 (a + b + c)
  | 9 => v = .bool q
  | 11 => v = .bool q
  | _ => True
def SOn (w : World) (f a b c : Int) (pb : Nat) (d : Nat → Bool) (w' : World) : Prop := RowAt w' pb (Pl.cells ⟨f, a, b, c⟩) ∧ Below w.heap.size w w' ∧ (d 10 = true → RowAt w' (w.heap.size + 1) (Pl.cells ⟨f, a, b, c⟩)) ∧ (d 10 = false → RowAt w' (w.heap.size + 1) (Pl.cells ⟨0, 0, 0, 0⟩))
set_option maxHeartbeats 16000000 in
set_option maxRecDepth 100000 in
theorem on_any (f : Nat) (hf : f < 20) (l : List Int) (hl : WOk l) (w : World) : Calls Tryz.prog 127 #[.int .i64 f, wV l] w fun e w' => e = .returned (.tuple #[(onP f l).val, .bool (onB f l)]) ∧ Below w.heap.size w w' := by
  obtain ⟨h0, h1, h2⟩ := crn_lt f
  have HC := Lib.hid (fun w' => corners_any f hf w')
  have hP : (onP f l).val = .agg #[.int .i64 f, .int .i64 (l.getD (crn f).1 0), .int .i64 (l.getD (crn f).2.1 0), .int .i64 (l.getD (crn f).2.2 0)] := rfl
  have hB : onB f l = decide (l.getD (crn f).1 0 + l.getD (crn f).2.1 0 + l.getD (crn f).2.2 0 = 840) := rfl
  have hr : ∀ j, j < 12 → 0 ≤ l.getD j 0 ∧ l.getD j 0 ≤ 840 ∧ l[j]? = some (l.getD j 0) := by
    intro j hj
    have hjl : j < l.length := by have := hl.1; omega
    have := hl.2 _ (List.getElem_mem hjl)
    rw [List.getD_eq_getElem?_getD, List.getElem?_eq_getElem hjl]
    exact ⟨this.1, this.2, rfl⟩
  obtain ⟨a0, a1, a2⟩ := hr _ h0
  obtain ⟨b0, b1, b2⟩ := hr _ h1
  obtain ⟨c0, c1, c2⟩ := hr _ h2
  rw [hP, hB]
  unfold crnV at HC
  generalize l.getD (crn f).1 0 = a at *
  generalize l.getD (crn f).2.1 0 = b at *
  generalize l.getD (crn f).2.2 0 = c at *
  generalize (crn f).1 = x at *
  generalize (crn f).2.1 = y at *
  generalize (crn f).2.2 = z at *
  have x0 : (0 : Int) ≤ (x : Int) := by omega
  have y0 : (0 : Int) ≤ (y : Int) := by omega
  have z0 : (0 : Int) ≤ (z : Int) := by omega
  have x1 : (x : Int) < 12 := by omega
  have y1 : (y : Int) < 12 := by omega
  have z1 : (z : Int) < 12 := by omega
  obtain ⟨q, hq⟩ : ∃ q, q = decide (a + b + c = 840) := ⟨_, rfl⟩
  rw [← hq]
  have Hq := Lib.hid hq
  have Hl := Lib.hid hl.1
  have Ha2 := Lib.hid a2
  have Hb2 := Lib.hid b2
  have Hc2 := Lib.hid c2
  have hone : ∀ v ∈ l.map (Value.int .i64), v.oneCell' = true := by intro v hv; obtain ⟨z, _, rfl⟩ := List.mem_map.1 hv; rfl
  have Hone := Lib.hid hone
  clear h0 h1 h2 hf hP hB hr a2 b2 c2 hl hq hone
  unfold wV
  generalize hcs : l.map (Value.int .i64) = cs at *
  have HL : Hid (cs.length = 12) := by unfold Hid; rw [← hcs, List.length_map]; exact Hl.out
  have Hx : Hid (cs[x]? = some (.int .i64 a)) := by unfold Hid; rw [← hcs, List.getElem?_map, Ha2.out]; rfl
  have Hy : Hid (cs[y]? = some (.int .i64 b)) := by unfold Hid; rw [← hcs, List.getElem?_map, Hb2.out]; rfl
  have Hz : Hid (cs[z]? = some (.int .i64 c)) := by unfold Hid; rw [← hcs, List.getElem?_map, Hc2.out]; rfl
  clear hcs
  go_enter Tryz.func127, Tryz.ntmps127
  go_wp2_with fail
  refine (HC.out _).mono ?_
  rintro e w1 ⟨rfl, hb⟩
  go_wp2_with fail
  obtain ⟨wz, hwz⟩ : ∃ wz, wz = w1.alloc (.cells #[.int .i64 x, .int .i64 y, .int .i64 z] 97) := ⟨_, rfl⟩
  obtain ⟨cb, hcb⟩ : ∃ cb, cb = w1.heap.size := ⟨_, rfl⟩
  have l0 : wz.cell? ⟨cb, 0, none⟩ = some (.int .i64 x) := by rw [hwz, hcb]; simp
  have l1 : wz.cell? ⟨cb, 1, none⟩ = some (.int .i64 y) := by rw [hwz, hcb]; simp
  have l2 : wz.cell? ⟨cb, 2, none⟩ = some (.int .i64 z) := by rw [hwz, hcb]; simp
  have HR : Hid (RowAt wz w.heap.size cs) := by
    unfold Hid
    rw [hwz]
    exact (((RowAt.new _ cs (by have := HL.out; omega) _ rfl).alloc _).below hb).alloc _
  have HR2 : Hid (RowAt wz (w.heap.size + 1) (Pl.cells ⟨0, 0, 0, 0⟩)) := by
    unfold Hid
    rw [hwz]
    exact ((RowAt.new _ (Pl.cells ⟨0, 0, 0, 0⟩) (by simp [Pl.cells]) _ (by simp)).below hb).alloc _
  have Hfin : Hid (Below w.heap.size w wz) := by
    unfold Hid
    rw [hwz]
    exact ((((Below.refl _ _).alloc (Nat.le_refl _) _).alloc (by simp) _).trans (hb.mono (by simp; omega))).alloc (by have := hb.size; simp at this; omega) _
  have hsz : w.heap.size + 1 < cb := by have := hb.size; simp at this; omega
  rw [← hwz, ← hcb]
  have m0 := HR.out.at x Hx.out
  have m1 := HR.out.at y Hy.out
  have m2 := HR.out.at z Hz.out
  have hcz : wz.heap.size = cb + 1 := by rw [hwz, hcb]; simp
  have Hcz := Lib.hid hcz
  have L0 : ∀ o, (wz.alloc o).cell? ⟨cb, 0, none⟩ = some (.int .i64 x) := fun o => cell_alloc o l0
  have L1 : ∀ o, (wz.alloc o).cell? ⟨cb, 1, none⟩ = some (.int .i64 y) := fun o => cell_alloc o l1
  have L2 : ∀ o, (wz.alloc o).cell? ⟨cb, 2, none⟩ = some (.int .i64 z) := fun o => cell_alloc o l2
  have M0 : ∀ o, (wz.alloc o).cell? ⟨w.heap.size, x, none⟩ = some (.int .i64 a) := fun o => cell_alloc o m0
  have M1 : ∀ o, (wz.alloc o).cell? ⟨w.heap.size, y, none⟩ = some (.int .i64 b) := fun o => cell_alloc o m1
  have M2 : ∀ o, (wz.alloc o).cell? ⟨w.heap.size, z, none⟩ = some (.int .i64 c) := fun o => cell_alloc o m2
  clear hwz hcb hb hcz
  go_region
  clear L0 L1 L2 M0 M1 M2 l0 l1 l2 m0 m1 m2
  go_upto_region 3 with fail
  obtain ⟨pb, hpb⟩ : ∃ pb, pb = wz.heap.size := ⟨_, rfl⟩
  have HPy : Hid (RowAt (wz.alloc (.cells #[.int .i64 f, .int .i64 a, .int .i64 b, .int .i64 c] 122)).drew pb (Pl.cells ⟨f, a, b, c⟩)) := by rw [hpb]; exact (RowAt.new _ (Pl.cells ⟨f, a, b, c⟩) (by simp [Pl.cells]) _ rfl).drew
  have HRy : Hid (RowAt (wz.alloc (.cells #[.int .i64 f, .int .i64 a, .int .i64 b, .int .i64 c] 122)).drew (w.heap.size + 1) (Pl.cells ⟨0, 0, 0, 0⟩)) := (HR2.out.alloc _).drew
  have Hfy : Hid (Below w.heap.size w (wz.alloc (.cells #[.int .i64 f, .int .i64 a, .int .i64 b, .int .i64 c] 122)).drew) := (Hfin.out.alloc Hfin.out.size _).drew
  have Hpb : Hid (w.heap.size + 1 < pb) := by have := Hcz.out; unfold Hid; omega
  have Hpn : Hid (pb ≠ w.heap.size + 1) := by have := Hpb.out; unfold Hid; omega
  have He5 : Hid (IntKind.i64.wrap (a + b) = a + b) := IntWalk.i64_in _ (by omega)
  have He8 : Hid (IntKind.i64.wrap (a + b + c) = a + b + c) := IntWalk.i64_in _ (by omega)
  have Hqe : Hid ((a + b + c == 840) = q) := by unfold Hid; rw [Hq.out]; rfl
  rw [← hpb]
  clear hpb
  refine wp_region_slots (by kernel_rfl) 38 rfl (by kernel_rfl) (by kernel_rfl) 5 33 (by kernel_rfl) (SOn w f a b c pb) (FOn f a b c q pb) ?hS0 ?hop ?hend
  case hS0 => exact ⟨HPy.out.drew, Hfy.out.drew, fun h => by simp at h, fun _ => HRy.out.drew⟩
  case hop =>
    refine ⟨?_, ?_, ?_, ?_, ?_, ?_, ?_, ?_, ?_, ?_, ?_, ?_, trivial⟩
    all_goals intro d ac wx hd hcl hS hA haft K hK
    · have f8 : ac.tmps.getD 8 undef = .pointer (some ⟨pb, 0, none⟩) := same_slot hA 8 (by kernel_rfl)
      exact hop_row_load rfl _ rfl _ f8 _ hS.1 rowT_p (hK _ _ rfl (fun _ _ _ h => h) (show SOn w f a b c pb (fun k => k == 0 || d k) wx from ⟨hS.1, hS.2.1, fun h => hS.2.2.1 (by simpa using h), fun h => hS.2.2.2 (by simpa using h)⟩))
    · have f8 : ac.tmps.getD 8 undef = .pointer (some ⟨pb, 0, none⟩) := same_slot hA 8 (by kernel_rfl)
      refine hop_val rfl (.pointer (some ⟨pb, 1, none⟩)) (w' := wx) ?_ (hK _ _ rfl (fun _ _ _ h => h) (show SOn w f a b c pb (fun k => k == 1 || d k) wx from ⟨hS.1, hS.2.1, fun h => hS.2.2.1 (by simpa using h), fun h => hS.2.2.2 (by simpa using h)⟩))
      simp [execOp, Act.eval, f8, go_sem, -Array.getD_eq_getD_getElem?]
    · have f29 : ac.tmps.getD 29 undef = .pointer (some ⟨pb, 1, none⟩) := (haft ⟨1, .data⟩ (by simp) rfl).2 _ rfl
      have c1 := hS.1.at 1 rfl
      refine hop_val rfl (.int .i64 a) (w' := wx) ?_ (hK _ _ rfl (fun _ _ _ h => h) (show SOn w f a b c pb (fun k => k == 2 || d k) wx from ⟨hS.1, hS.2.1, fun h => hS.2.2.1 (by simpa using h), fun h => hS.2.2.2 (by simpa using h)⟩))
      simp [execOp, Act.eval, f29, c1, go_sem, -Array.getD_eq_getD_getElem?]
    · have f8 : ac.tmps.getD 8 undef = .pointer (some ⟨pb, 0, none⟩) := same_slot hA 8 (by kernel_rfl)
      refine hop_val rfl (.pointer (some ⟨pb, 2, none⟩)) (w' := wx) ?_ (hK _ _ rfl (fun _ _ _ h => h) (show SOn w f a b c pb (fun k => k == 3 || d k) wx from ⟨hS.1, hS.2.1, fun h => hS.2.2.1 (by simpa using h), fun h => hS.2.2.2 (by simpa using h)⟩))
      simp [execOp, Act.eval, f8, go_sem, -Array.getD_eq_getD_getElem?]
    · have f31 : ac.tmps.getD 31 undef = .pointer (some ⟨pb, 2, none⟩) := (haft ⟨3, .data⟩ (by simp) rfl).2 _ rfl
      have c2 := hS.1.at 2 rfl
      refine hop_val rfl (.int .i64 b) (w' := wx) ?_ (hK _ _ rfl (fun _ _ _ h => h) (show SOn w f a b c pb (fun k => k == 4 || d k) wx from ⟨hS.1, hS.2.1, fun h => hS.2.2.1 (by simpa using h), fun h => hS.2.2.2 (by simpa using h)⟩))
      simp [execOp, Act.eval, f31, c2, go_sem, -Array.getD_eq_getD_getElem?]
    · have f30 : ac.tmps.getD 30 undef = .int .i64 a := (haft ⟨2, .data⟩ (by simp) rfl).2 _ rfl
      have f32 : ac.tmps.getD 32 undef = .int .i64 b := (haft ⟨4, .data⟩ (by simp) rfl).2 _ rfl
      refine hop_val rfl (.int .i64 (a + b)) (w' := wx) ?_ (hK _ _ rfl (fun _ _ _ h => h) (show SOn w f a b c pb (fun k => k == 5 || d k) wx from ⟨hS.1, hS.2.1, fun h => hS.2.2.1 (by simpa using h), fun h => hS.2.2.2 (by simpa using h)⟩))
      simp [execOp, Act.eval, f30, f32, go_sem, -Array.getD_eq_getD_getElem?]
      exact He5.out
    · have f8 : ac.tmps.getD 8 undef = .pointer (some ⟨pb, 0, none⟩) := same_slot hA 8 (by kernel_rfl)
      refine hop_val rfl (.pointer (some ⟨pb, 3, none⟩)) (w' := wx) ?_ (hK _ _ rfl (fun _ _ _ h => h) (show SOn w f a b c pb (fun k => k == 6 || d k) wx from ⟨hS.1, hS.2.1, fun h => hS.2.2.1 (by simpa using h), fun h => hS.2.2.2 (by simpa using h)⟩))
      simp [execOp, Act.eval, f8, go_sem, -Array.getD_eq_getD_getElem?]
    · have f34 : ac.tmps.getD 34 undef = .pointer (some ⟨pb, 3, none⟩) := (haft ⟨6, .data⟩ (by simp) rfl).2 _ rfl
      have c3 := hS.1.at 3 rfl
      refine hop_val rfl (.int .i64 c) (w' := wx) ?_ (hK _ _ rfl (fun _ _ _ h => h) (show SOn w f a b c pb (fun k => k == 7 || d k) wx from ⟨hS.1, hS.2.1, fun h => hS.2.2.1 (by simpa using h), fun h => hS.2.2.2 (by simpa using h)⟩))
      simp [execOp, Act.eval, f34, c3, go_sem, -Array.getD_eq_getD_getElem?]
    · have f33 : ac.tmps.getD 33 undef = .int .i64 (a + b) := (haft ⟨5, .data⟩ (by simp) rfl).2 _ rfl
      have f35 : ac.tmps.getD 35 undef = .int .i64 c := (haft ⟨7, .data⟩ (by simp) rfl).2 _ rfl
      refine hop_val rfl (.int .i64 (a + b + c)) (w' := wx) ?_ (hK _ _ rfl (fun _ _ _ h => h) (show SOn w f a b c pb (fun k => k == 8 || d k) wx from ⟨hS.1, hS.2.1, fun h => hS.2.2.1 (by simpa using h), fun h => hS.2.2.2 (by simpa using h)⟩))
      simp [execOp, Act.eval, f33, f35, go_sem, -Array.getD_eq_getD_getElem?]
      exact He8.out
    · have f36 : ac.tmps.getD 36 undef = .int .i64 (a + b + c) := (haft ⟨8, .data⟩ (by simp) rfl).2 _ rfl
      refine hop_val rfl (.bool q) (w' := wx) ?_ (hK _ _ rfl (fun _ _ _ h => h) (show SOn w f a b c pb (fun k => k == 9 || d k) wx from ⟨hS.1, hS.2.1, fun h => hS.2.2.1 (by simpa using h), fun h => hS.2.2.2 (by simpa using h)⟩))
      simp [execOp, Act.eval, f36, go_sem, -Array.getD_eq_getD_getElem?]
      exact Hqe.out
    · have f4 : ac.tmps.getD 4 undef = .pointer (some ⟨w.heap.size + 1, 0, none⟩) := same_slot hA 4 (by kernel_rfl)
      have f28 : ac.tmps.getD 28 undef = .agg (Pl.cells ⟨f, a, b, c⟩).toArray := (haft ⟨0, .data⟩ (by simp) rfl).2 _ rfl
      refine hop_row_store rfl _ _ rfl _ f4 _ (Pl.cells ⟨f, a, b, c⟩) f28 (hS.2.2.2 hd) rfl rowT_p (Pl.one _) (fun w3 h3 ha => hK undef _ trivial (fun _ _ _ h => h) ⟨hS.1.apart ha Hpn.out, hS.2.1.trans (ha.below (Nat.le_succ _)), fun _ => h3, fun h => by simp at h⟩)
    · have f37 : ac.tmps.getD 37 undef = .bool q := (haft ⟨9, .data⟩ (by simp) rfl).2 _ rfl
      refine hop_val rfl (.bool q) (w' := wx) ?_ (hK _ _ rfl (fun _ _ _ h => h) (show SOn w f a b c pb (fun k => k == 11 || d k) wx from ⟨hS.1, hS.2.1, fun h => hS.2.2.1 (by simpa using h), fun h => hS.2.2.2 (by simpa using h)⟩))
      simp [execOp, Act.eval, f37, go_sem, -Array.getD_eq_getD_getElem?]
  case hend =>
    intro u w4 d hd hS hF
    have hr := hS.2.2.1 (hd 10 (by decide))
    have hu : u 5 = .bool q := hF 11 _ rfl
    have hbl := hS.2.1
    clear hF hd hS
    simp only [mixL, hu]
    go_wp2_with fail
    exact ret_row2 rfl _ _ _ hr rowT_p rfl rfl rfl ⟨rfl, hbl⟩
end Go.Proofs.YtkpgciimhjkajaaGreatDoor
/- Slices of the call's own, of any type: append of a literal, in plain code and in a region that draws. -/
namespace Go.Proofs.YtkpgciimhjkajaaGreatDoor
open Go Go.RowKit
theorem ownsRow_of_same {w w' : World} {base : Nat} {e : TypeId} {sz n : Nat} {v : Value} {cs : List Value} (h : w.ownsRow base e sz v n cs) (hb : ∀ k, base ≤ k → k < w.heap.size → w'.heap[k]? = w.heap[k]?) : w'.ownsRow base e sz v n cs := by
  obtain ⟨h1, h2⟩ := h
  refine ⟨h1, ?_⟩
  rcases h2 with h2 | ⟨g, cap, cur, e, hg, hh, h3, h4, h5, h6⟩
  · exact Or.inl h2
  · have hlt : g < w.heap.size := by
      rcases Nat.lt_or_ge g w.heap.size with q | q
      · exact q
      · rw [Array.getElem?_eq_none q] at hh; cases hh
    exact Or.inr ⟨g, cap, cur, e, hg, by rw [hb g hg hlt]; exact hh, h3, h4, h5, h6⟩
theorem ownsRow_below {w w' : World} {base : Nat} {e : TypeId} {sz n : Nat} {v : Value} {cs : List Value} (h : w.ownsRow base e sz v n cs) (hb : Below w.heap.size w w') : w'.ownsRow base e sz v n cs := ownsRow_of_same h (fun k _ hk => hb.block k hk)
theorem ownsRow_but {w w' : World} {base b : Nat} {e : TypeId} {sz n : Nat} {v : Value} {cs : List Value} (h : w.ownsRow base e sz v n cs) (hb : But w.heap.size b w w') (hbb : b < base) : w'.ownsRow base e sz v n cs := ownsRow_of_same h (fun k h1 hk => hb.block k hk (by omega))
theorem append_new (st e : TypeId) {z : Value} {sz by_ : Nat} (hu : Tryz.prog.underlying st = some (.slice e)) (hinfo : (Tryz.prog.info? e).map (fun i => (i.zero, i.size, i.bytes)) = some (some z, sz, by_)) (hz : z.cells.size = sz) (hsz : 0 < sz)
    {w : World} {base n : Nat} {v : Value} {cs : List Value} (h : w.ownsRow base e sz v n cs) (news : List Value) (k : Nat) (hk : news.length = k * sz) (hone : ∀ u ∈ news, u.oneCell' = true) (hn : n ≤ 1000000000) (hk1 : k ≤ 1000000000) (hsz1 : by_ ≤ 1000) (hb : base ≤ w.heap.size) (ty : TypeId) :
    ∃ (v' : Value) (w' : World), (Builtin.append_ #[st, st] ty #[v, .slice (some ⟨w.heap.size, 0, none⟩) k k]).run Tryz.prog (w.alloc (.cells news.toArray e)) = .ok v' w' ∧
      w'.ownsRow base e sz v' (n + k) (cs ++ news) ∧ Below base w w' := by
  obtain ⟨i0, hi, hz0, hz1, hz2⟩ := info_parts hinfo
  have hA := World.ownsRow.alloc h (.cells news.toArray e)
  have hm : (n + k) * by_ ≤ 2000000000 * 1000 := Nat.mul_le_mul (by omega) hsz1
  obtain ⟨v', w', h1, h2, h3, _⟩ := run_append_own (P := Tryz.prog) (w.alloc (.cells news.toArray e)) base st ty e i0 z sz by_ hu hi hz0 hz1 hz2 hz (by omega)
    v n cs hA ⟨w.heap.size, 0, none⟩ k k news hk (World.news_of_block (cs := news.toArray) (t := e) (fr := (0, 0)) (heap_alloc_new w _)) hone (by unfold maxLen; omega) (by omega) (by simp; omega)
  exact ⟨v', w', h1, h2, ((Below.refl base w).alloc hb _).grown h3 (by simp; omega) (fun k hk => (World.ownsRow.lt hA k hk).1)⟩
theorem wpList_append_run {P : Program} {w : World} {ops : Array Oper} {rest : List Oper} {o : Oper} {a : Act} {Q : Exit → Act → World → Prop} (hgd : o.guard = none) (s x : Operand) (t : TypeId)
    (ho : o.op = .call { callee := .builtin .append, args := #[s, x], argTypes := #[t, t] }) (v xv v' : Value) (w' : World) (hs : a.eval s = v) (hx : a.eval x = xv)
    (hrun : (Builtin.append_ #[t, t] o.type #[v, xv]).run P w = .ok v' w') (h : wpList P ops Q rest (a.put o.dst v') w') : wpList P ops Q (o :: rest) a w := by
  refine wpList_plain hgd fun K hK => ?_
  unfold Oper.wp execOp
  simp only [ho, resolve, invoke, builtin, Sem.run_bind, Sem.run_pure, Result.andThen_ok, List.map_toArray, List.map_cons, List.map_nil, hs, hx, hrun]
  exact hK _ _ h
theorem append_at (st e : TypeId) {z : Value} {sz by_ : Nat} (hu : Tryz.prog.underlying st = some (.slice e)) (hinfo : (Tryz.prog.info? e).map (fun i => (i.zero, i.size, i.bytes)) = some (some z, sz, by_)) (hz : z.cells.size = sz) (hsz : 0 < sz)
    {w : World} {base n : Nat} {v : Value} {cs : List Value} (h : w.ownsRow base e sz v n cs) (A : Addr) (k c : Nat) (news : List Value) (hk : news.length = k * sz) (hnews : ∀ j u, news[j]? = some u → w.cell? (A.add j) = some u) (hone : ∀ u ∈ news, u.oneCell' = true) (hn : n ≤ 1000000000) (hk1 : k ≤ 1000000000) (hsz1 : by_ ≤ 1000) (hb : base ≤ w.heap.size) (ty : TypeId) :
    ∃ (v' : Value) (w' : World), (Builtin.append_ #[st, st] ty #[v, .slice (some A) k c]).run Tryz.prog w = .ok v' w' ∧
      w'.ownsRow base e sz v' (n + k) (cs ++ news) ∧ Below base w w' ∧ w.grownBy w' v.ownBlock := by
  obtain ⟨i0, hi, hz0, hz1, hz2⟩ := info_parts hinfo
  have hm : (n + k) * by_ ≤ 2000000000 * 1000 := Nat.mul_le_mul (by omega) hsz1
  obtain ⟨v', w', h1, h2, h3, _⟩ := run_append_own (P := Tryz.prog) w base st ty e i0 z sz by_ hu hi hz0 hz1 hz2 hz (by omega)
    v n cs h A k c news hk hnews hone (by unfold maxLen; omega) (by omega) hb
  exact ⟨v', w', h1, h2, (Below.refl base w).grown h3 hb (fun k hk => (World.ownsRow.lt h k hk).1), h3⟩
end Go.Proofs.YtkpgciimhjkajaaGreatDoor
/- The reference's places: addresses and the normal one. -/
namespace Go.Proofs.YtkpgciimhjkajaaGreatDoor
open Go Go.RowKit
def pcells (l : List Pl) : List Value := l.flatMap Pl.cells
theorem pcells_append (a b : List Pl) : pcells (a ++ b) = pcells a ++ pcells b := by simp [pcells]
theorem pcells_at : ∀ (l : List Pl) (i : Nat) (h : i < l.length) (j : Nat), j < 4 → (pcells l)[i * 4 + j]? = (l[i].cells)[j]?
  | p :: r, 0, _, j, hj => by
    show (p.cells ++ pcells r)[0 * 4 + j]? = _
    rw [Nat.zero_mul, Nat.zero_add, List.getElem?_append_left (by show j < 4; exact hj)]; rfl
  | p :: r, i + 1, h, j, hj => by
    show (p.cells ++ pcells r)[(i + 1) * 4 + j]? = _
    rw [List.getElem?_append_right (by show 4 ≤ _; omega)]
    have e : (i + 1) * 4 + j - p.cells.length = i * 4 + j := by show _ - 4 = _; omega
    rw [e]
    exact pcells_at r i (by simpa using h) j hj
def OwnP (w : World) (base : Nat) (v : Value) (l : List Pl) : Prop := w.ownsRow base 122 4 v l.length (pcells l)
theorem OwnP.nil (w : World) (base : Nat) : OwnP w base (.slice none 0 0) [] := World.ownsRow_nil w base _ 4
theorem OwnP.below {w w' : World} {base : Nat} {v : Value} {l : List Pl} (h : OwnP w base v l) (hb : Below w.heap.size w w') : OwnP w' base v l := ownsRow_below h hb
theorem pinfo : (Tryz.prog.info? 122).map (fun i => (i.zero, i.size, i.bytes)) = some (some (.agg #[.int .i64 0, .int .i64 0, .int .i64 0, .int .i64 0]), 4, 32) := by kernel_rfl
theorem append_pl {w : World} {base : Nat} {v : Value} {l : List Pl} (h : OwnP w base v l) (p : Pl) (hn : l.length ≤ 1000000000) (hb : base ≤ w.heap.size) (ty : TypeId) :
    ∃ (v' : Value) (w' : World), (Builtin.append_ #[140, 140] ty #[v, .slice (some ⟨w.heap.size, 0, none⟩) 1 1]).run Tryz.prog (w.alloc (.cells p.cells.toArray 122)) = .ok v' w' ∧
      OwnP w' base v' (l ++ [p]) ∧ Below base w w' := by
  have h1 := append_new 140 122 Tryz.underlying140 pinfo rfl (by decide) h p.cells 1 rfl p.one hn (by omega) (by decide) hb ty
  unfold OwnP
  rw [pcells_append, List.length_append]
  have : pcells [p] = p.cells := by simp [pcells]
  rw [this]; exact h1
theorem OwnP.at {w : World} {base : Nat} {v : Value} {l : List Pl} (h : OwnP w base v l) (h0 : 0 < l.length) : ∃ g cap, v = .slice (some ⟨g, 0, none⟩) l.length cap ∧ base ≤ g ∧ l.length ≤ cap ∧ ∀ i, (hi : i < l.length) → w.rangeAt g (i * 4) l[i].cells := by
  have h' := h
  obtain ⟨h1, h2⟩ := h
  rcases h2 with ⟨e, h0'⟩ | ⟨g, cap, cur, e, hg, hh, hc, _⟩
  · omega
  · refine ⟨g, cap, e, hg, hc, fun i hi j u hj => ?_⟩
    have hlt : j < 4 := (List.getElem?_eq_some_iff.1 hj).1
    rw [← pcells_at l i hi j hlt] at hj
    have := World.ownsRow.cells h' (g := g) (by rw [e]; rfl) _ _ hj
    rwa [Go.WideShapes.add_plain, Nat.zero_add] at this
theorem OwnP.mono {w : World} {base B : Nat} {v : Value} {l : List Pl} (h : OwnP w base v l) (hB : B ≤ base) : OwnP w B v l := by
  obtain ⟨h1, h2⟩ := h
  refine ⟨h1, ?_⟩
  rcases h2 with h2 | ⟨g, cap, cur, e, hg, r⟩
  · exact Or.inl h2
  · exact Or.inr ⟨g, cap, cur, e, Nat.le_trans hB hg, r⟩
theorem OwnP.slice {w : World} {base : Nat} {v : Value} {l : List Pl} (h : OwnP w base v l) : ∃ a c, v = .slice a l.length c := by
  rcases h.2 with ⟨e, h0⟩ | ⟨g, cap, cur, e, _⟩
  · exact ⟨none, 0, by rw [e, h0]⟩
  · exact ⟨_, _, e⟩
end Go.Proofs.YtkpgciimhjkajaaGreatDoor
/- The reference's places: addresses, the normal place, whether a place is normal. -/
namespace Go.Proofs.YtkpgciimhjkajaaGreatDoor
open Go Go.RowKit
theorem wgt_ok (p : Pl) (h : p.Ok) : WOk (wgt p) := by
  obtain ⟨h1, h2, h3, h4, h5, h6, h7, h8, h9⟩ := h
  refine ⟨wgt_length p, fun x hx => ?_⟩
  unfold wgt at hx
  rcases List.mem_or_eq_of_mem_set hx with hx | rfl
  · rcases List.mem_or_eq_of_mem_set hx with hx | rfl
    · rcases List.mem_or_eq_of_mem_set hx with hx | rfl
      · rw [(List.mem_replicate.1 hx).2]; omega
      · omega
    · omega
  · omega
theorem adr_length (w : List Int) : ∀ k, (adr w k).length ≤ k
  | 0 => Nat.le_refl _
  | k + 1 => by
    have := adr_length w k
    unfold adr
    rw [List.length_append]
    split <;> simp <;> omega
theorem wcells_len (l : List Int) (h : WOk l) : (l.map (Value.int .i64)).length = 12 := by rw [List.length_map]; exact h.1
set_option maxHeartbeats 16000000 in
set_option maxRecDepth 100000 in
theorem addresses_any (f : Nat) (a b c : Int) (hok : Pl.Ok ⟨f, a, b, c⟩) (w : World) :
    Calls Tryz.prog 112 #[Pl.val ⟨f, a, b, c⟩] w fun e w' => ∃ v, e = .returned (.tuple #[v, .int .i64 0]) ∧ OwnP w' w.heap.size v (adr (wgt ⟨f, a, b, c⟩) 20) ∧ Below w.heap.size w w' := by
  have hf : f < 20 := by have := hok.2.1; simp at this; omega
  have hw := wgt_ok _ hok
  have HW := Lib.hid hw
  have HV := Lib.hid (fun w' => valid_any ⟨f, a, b, c⟩ hok w')
  have HWt := Lib.hid (fun w' => weights_any f hf a b c w')
  have HR0 : Hid (RowAt (w.alloc (.cells (Pl.cells ⟨f, a, b, c⟩).toArray 122)) w.heap.size (Pl.cells ⟨f, a, b, c⟩)) := RowAt.new _ _ (by simp [Pl.cells]) _ rfl
  have HB0 : Hid (Below w.heap.size w (w.alloc (.cells (Pl.cells ⟨f, a, b, c⟩).toArray 122))) := (Below.refl _ _).alloc (Nat.le_refl _) _
  obtain ⟨W, hW⟩ : ∃ W, W = wgt ⟨f, a, b, c⟩ := ⟨_, rfl⟩
  have eW : wgtV ⟨f, a, b, c⟩ = wV W := by rw [hW]; rfl
  rw [eW] at HWt
  unfold wV at HWt
  rw [← hW] at HW ⊢
  have HWl := Lib.hid (wcells_len W HW.out)
  have HW1 : Hid (∀ v ∈ W.map (Value.int .i64), v.oneCell' = true) := by intro v hv; obtain ⟨z, _, rfl⟩ := List.mem_map.1 hv; rfl
  clear hok hw hf hW eW
  unfold Pl.val
  simp only [Pl.cells] at HR0 HB0
  go_enter Tryz.func112, Tryz.ntmps112
  go_wp2_with (refine row_load rfl _ rfl _ rfl _ HR0.out rowT_p ?_)
  refine (HV.out _).mono ?_
  rintro e w1 ⟨rfl, hb1⟩
  have HR1 := Lib.hid (HR0.out.below hb1)
  have HB1 := Lib.hid (below_then HB0.out hb1)
  clear hb1
  go_wp2_with (refine row_load rfl _ rfl _ rfl _ HR1.out rowT_p ?_)
  refine (HWt.out _).mono ?_
  rintro e w2 ⟨rfl, hb2⟩
  have HB2 := Lib.hid (below_then HB1.out hb2)
  clear hb2
  have EN : Hid (RowAt (w2.alloc (.cells #[.int .i64 0, .int .i64 0, .int .i64 0, .int .i64 0, .int .i64 0, .int .i64 0, .int .i64 0, .int .i64 0, .int .i64 0, .int .i64 0, .int .i64 0, .int .i64 0] 25)) w2.heap.size (List.replicate 12 (Value.int .i64 0))) := RowAt.new _ (List.replicate 12 (Value.int .i64 0)) (by simp) _ rfl
  have Hal : Hid (∀ w4, ApartR w2.heap.size (w2.alloc (.cells #[.int .i64 0, .int .i64 0, .int .i64 0, .int .i64 0, .int .i64 0, .int .i64 0, .int .i64 0, .int .i64 0, .int .i64 0, .int .i64 0, .int .i64 0, .int .i64 0] 25)) w4 → Below w2.heap.size w2 w4) := fun w4 h => ((Below.refl _ _).alloc (Nat.le_refl _) _).trans (h.below (Nat.le_refl _))
  go_upto_block 0 with (refine row_store rfl _ _ rfl _ rfl _ (W.map (Value.int .i64)) rfl EN.out (by rw [HWl.out]; rfl) rowT_w HW1.out ?_; intro w3 e3 h3)
  have hb3 := Hal.out w3 h3
  have HB3 := Lib.hid (below_then HB2.out hb3)
  obtain ⟨xb, hxb⟩ : ∃ xb, xb = w2.heap.size := ⟨_, rfl⟩
  have HE3 : Hid (RowAt w3 xb (W.map (Value.int .i64))) := by rw [hxb]; exact e3
  rw [← hxb]
  have Hxb : Hid (w.heap.size ≤ xb + 1 ∧ xb + 1 ≤ w3.heap.size) := by unfold Hid; have := e3.lt; have := HB2.out.size; omega
  clear hb3 e3 h3 hxb Hal EN HB2 HB1 HR1 HR0 HB0
  go_wp2_with fail
  go_loopw [5, 6] (fun lv kv wr => ∃ (k : Nat) (ov : Value), ov = lv ∧ kv = .int .i64 k ∧ k ≤ 20 ∧ Hid (OwnP wr (xb + 1) ov (adr W k)) ∧ Hid (RowAt wr xb (W.map (Value.int .i64))) ∧ Hid (Below w.heap.size w wr) ∧ Hid (xb + 1 ≤ wr.heap.size)) (fun _ kv _ => (20 - intOf kv).toNat)
  case atStart => exact ⟨0, _, rfl, rfl, by omega, OwnP.nil _ _, HE3.out, HB3.out, Hxb.out.2⟩
  case round =>
    obtain ⟨k, ov, rfl, rfl, hk, hown, hr, hbr, hxs⟩ := hrel
    clear HE3 HB3
    by_cases hlt : k < 20
    · have k0 : (k : Int) < 20 := by omega
      have HC := Lib.hid (fun w' => on_any k hlt W HW.out w')
      unfold wV Pl.val at HC
      obtain ⟨q, hq⟩ : ∃ q, q = onB k W := ⟨_, rfl⟩
      rw [← hq] at HC
      have Hq := Lib.hid hq
      have HA : Hid (adr W (k + 1) = adr W k ++ if onB k W = true then [onP k W] else []) := rfl
      rw [← hq] at HA
      have Hlen := Lib.hid (adr_length W k)
      clear hq
      generalize onP k W = pp at *
      obtain ⟨pf, pa, pb, pc⟩ := pp
      simp only at HC
      go_wp2_with (refine row_load rfl _ rfl _ rfl _ hr.out (by rw [HWl.out]; exact rowT_w) ?_)
      refine (HC.out _).mono ?_
      rintro e w4 ⟨rfl, hb4⟩
      have HB4 := Lib.hid (below_then hbr.out hb4)
      have HR4 := Lib.hid (hr.out.below hb4)
      have HO4 := Lib.hid (hown.out.below hb4)
      have Hx4 : Hid (xb + 1 ≤ w4.heap.size) := Nat.le_trans hxs.out hb4.size
      have HP4 : Hid (RowAt (w4.alloc (.cells #[.int .i64 pf, .int .i64 pa, .int .i64 pb, .int .i64 pc] 122)) w4.heap.size (Pl.cells ⟨pf, pa, pb, pc⟩)) := RowAt.new _ (Pl.cells ⟨pf, pa, pb, pc⟩) (by simp [Pl.cells]) _ rfl
      clear hb4 hr hown
      cases q
      · go_wp2_with fail
        go_roundw
        case rel => exact ⟨k + 1, ov, rfl, by go_num, by omega, by show OwnP _ _ _ _; rw [HA.out]; simpa using HO4.out.below ((Below.refl _ _).alloc (Nat.le_refl _) _), HR4.out.alloc _, HB4.out.alloc HB4.out.size _, by show xb + 1 ≤ _; have := Hx4.out; simp; omega⟩
        case measure => simp [intOf]; omega
      · have HAp : Hid (∃ (v' : Value) (w' : World), (Builtin.append_ #[140, 140] 140 #[ov, .slice (some ⟨w4.heap.size + 1, 0, none⟩) 1 1]).run Tryz.prog ((w4.alloc (.cells #[.int .i64 pf, .int .i64 pa, .int .i64 pb, .int .i64 pc] 122)).alloc (.cells #[.int .i64 pf, .int .i64 pa, .int .i64 pb, .int .i64 pc] 122)) = .ok v' w' ∧
            OwnP w' (xb + 1) v' (adr W (k + 1)) ∧ RowAt w' xb (W.map (Value.int .i64)) ∧ Below w.heap.size w w' ∧ xb + 1 ≤ w'.heap.size) := by
          have hal : Below w4.heap.size w4 (w4.alloc (.cells #[.int .i64 pf, .int .i64 pa, .int .i64 pb, .int .i64 pc] 122)) := (Below.refl _ _).alloc (Nat.le_refl _) _
          have e : (w4.alloc (.cells #[.int .i64 pf, .int .i64 pa, .int .i64 pb, .int .i64 pc] 122)).heap.size = w4.heap.size + 1 := by simp
          obtain ⟨v', w', a1, a2, a3⟩ := append_pl (HO4.out.below hal) ⟨pf, pa, pb, pc⟩ (by have := Hlen.out; omega) (by have := Hx4.out; omega) 140
          rw [e] at a1
          exact ⟨v', w', a1, by rw [HA.out]; exact a2, (HR4.out.alloc _).of_block (a3.block _ (Nat.lt_succ_self _)), (below_then HB4.out hal).trans (a3.mono Hxb.out.1), by have := a3.size; have := Hx4.out; omega⟩
        have hsz4 : (Pl.cells ⟨pf, pa, pb, pc⟩).length = 4 := rfl
        go_wp2_with (first
          | (refine row_load rfl _ rfl _ rfl _ HP4.out rowT_p ?_)
          | (at_builtin; obtain ⟨v', w', hrun, hown', hr', hB', hx'⟩ := HAp.out; have Hx' := Lib.hid hx'; have Hrun := Lib.hid hrun; have Hown' := Lib.hid hown'; have HB' := Lib.hid hB'; have Hr' := Lib.hid hr'; clear hrun hown' hB' hr' hx'; refine wpList_append_run rfl _ _ _ rfl _ _ _ _ rfl rfl Hrun.out ?_))
        go_roundw
        case rel => exact ⟨k + 1, v', rfl, by go_num, by omega, Hown'.out, Hr'.out, HB'.out, Hx'.out⟩
        case measure => simp [intOf]; omega
    · obtain rfl : k = 20 := by omega
      obtain ⟨oa, oc, hov⟩ := hown.out.slice
      go_wp2_with fail
      refine bodyPost_ret (v := .tuple #[ov, .int .i64 0]) (by simp [results, Tryz.results112, go_sem]) rfl ?_
      exact ⟨ov, rfl, hown.out.mono Hxb.out.1, hbr.out⟩
end Go.Proofs.YtkpgciimhjkajaaGreatDoor
/- The reference's places: the normal place, whether a place is normal. -/
namespace Go.Proofs.YtkpgciimhjkajaaGreatDoor
open Go Go.RowKit
theorem pl_load {ops : Array Oper} {rest : List Oper} {op : Oper} {a : Act} {w : World} {Q : Exit → Act → World → Prop} (hgd : op.guard = none) (x : Operand) (ho : op.op = .load 122 x)
    (b o : Nat) (hx : a.eval x = .pointer (some ⟨b, o, none⟩)) (p : Pl) (h : w.rangeAt b o p.cells)
    (k : wpList Tryz.prog ops Q rest (a.put op.dst p.val) w) : wpList Tryz.prog ops Q (op :: rest) a w := by
  obtain ⟨h0, d, h1, h2⟩ := rowT_p
  exact wpList_load_mid hgd _ x ho b o hx p.cells d h h1 h2 h0 k
theorem row_load_w {ops : Array Oper} {rest : List Oper} {op : Oper} {a : Act} {w : World} {Q : Exit → Act → World → Prop} {t : TypeId} (hw : Region.wanted op (yielded ops a.tmps) = true) (x : Operand) (ho : op.op = .load t x)
    (b : Nat) (hx : a.eval x = .pointer (some ⟨b, 0, none⟩)) (cs : List Value) (h : RowAt w b cs) (ht : RowT t cs.length)
    (k : wpList Tryz.prog ops Q rest (a.put op.dst (.agg cs.toArray)) w) : wpList Tryz.prog ops Q (op :: rest) a w := by
  obtain ⟨h0, d, h1, h2⟩ := ht
  refine wpList_step fun K hK => ?_
  rw [if_pos hw]
  unfold Oper.wp execOp
  simp only [ho, hx, Sem.run_bind, run_loadAt_mid w b 0 t cs d h.range h1 h2 h0, Result.andThen_ok, Sem.run_pure]
  exact hK _ _ k
def AdrOk (p : Pl) : Prop := p.Ok ∧ adr (wgt p) 20 ≠ []
set_option maxHeartbeats 16000000 in
set_option maxRecDepth 100000 in
theorem normal_any (f : Nat) (a b c : Int) (hok : AdrOk ⟨f, a, b, c⟩) (w : World) :
    Calls Tryz.prog 96 #[Pl.val ⟨f, a, b, c⟩] w fun e w' => e = .returned (.tuple #[(norP ⟨f, a, b, c⟩).val, .int .i64 0]) ∧ Below w.heap.size w w' := by
  have HA := Lib.hid (fun w' => addresses_any f a b c hok.1 w')
  have hlen := adr_length (wgt ⟨f, a, b, c⟩) 20
  have hN : norP ⟨f, a, b, c⟩ = (adr (wgt ⟨f, a, b, c⟩) 20).headD ⟨0, 0, 0, 0⟩ := rfl
  rw [hN]
  have hne := hok.2
  generalize adr (wgt ⟨f, a, b, c⟩) 20 = l at *
  obtain ⟨p, r, rfl⟩ : ∃ p r, l = p :: r := by
    cases l with
    | nil => exact absurd rfl hne
    | cons p r => exact ⟨p, r, rfl⟩
  have HR0 : Hid (RowAt ((w.alloc (.cells (Pl.cells ⟨f, a, b, c⟩).toArray 122)).alloc (.cells (Pl.cells ⟨0, 0, 0, 0⟩).toArray 122)) w.heap.size (Pl.cells ⟨f, a, b, c⟩)) := (RowAt.new _ _ (by simp [Pl.cells]) _ rfl).alloc _
  have HR1 : Hid (RowAt ((w.alloc (.cells (Pl.cells ⟨f, a, b, c⟩).toArray 122)).alloc (.cells (Pl.cells ⟨0, 0, 0, 0⟩).toArray 122)) (w.heap.size + 1) (Pl.cells ⟨0, 0, 0, 0⟩)) := RowAt.new _ _ (by simp [Pl.cells]) _ (by simp)
  have HB0 : Hid (Below w.heap.size w ((w.alloc (.cells (Pl.cells ⟨f, a, b, c⟩).toArray 122)).alloc (.cells (Pl.cells ⟨0, 0, 0, 0⟩).toArray 122))) := ((Below.refl _ _).alloc (Nat.le_refl _) _).alloc (by simp) _
  clear hok hN hne hlen
  unfold Pl.val
  simp only [Pl.cells] at HR0 HB0 HR1
  simp only [List.headD_cons]
  go_enter Tryz.func96, Tryz.ntmps96
  go_wp2_with (refine row_load rfl _ rfl _ rfl _ HR0.out rowT_p ?_)
  refine (HA.out _).mono ?_
  rintro e w1 ⟨v, rfl, hown, hb1⟩
  obtain ⟨g, cap, rfl, hg, hcap, hc⟩ := hown.at (by simp)
  have Hc : Hid (w1.rangeAt g 0 p.cells) := by have := hc 0 (by simp); show w1.rangeAt g 0 p.cells; simpa using this
  have HR2 := Lib.hid (HR1.out.below hb1)
  have HB1 := Lib.hid (below_then HB0.out hb1)
  have hl0 : (0 : Int) < ((p :: r).length : Int) := by simp
  clear hown hb1 hg hc hcap
  generalize (p :: r).length = n at *
  obtain ⟨pf, pa, pb, pc⟩ := p
  go_wp2_with (first
    | (refine pl_load rfl _ rfl g 0 rfl _ Hc.out ?_)
    | (refine row_store rfl _ _ rfl _ rfl _ (Pl.cells ⟨pf, pa, pb, pc⟩) rfl HR2.out rfl rowT_p (Pl.one _) ?_; intro w3 e3 h3))
  exact ret_row2 rfl _ _ _ e3 rowT_p rfl rfl rfl ⟨rfl, HB1.out.trans (h3.below (B := w.heap.size) (Nat.le_succ _))⟩
set_option maxHeartbeats 16000000 in
set_option maxRecDepth 100000 in
theorem isNormal_any (f : Nat) (a b c : Int) (hok : AdrOk ⟨f, a, b, c⟩) (q : Bool) (hq : q = decide ((⟨f, a, b, c⟩ : Pl) = norP ⟨f, a, b, c⟩)) (w : World) :
    Calls Tryz.prog 95 #[Pl.val ⟨f, a, b, c⟩] w fun e w' => e = .returned (.bool q) ∧ Below w.heap.size w w' := by
  have HN := Lib.hid (fun w' => normal_any f a b c hok w')
  generalize norP ⟨f, a, b, c⟩ = p at *
  obtain ⟨pf, pa, pb, pc⟩ := p
  have HR0 : Hid (RowAt (w.alloc (.cells (Pl.cells ⟨f, a, b, c⟩).toArray 122)) w.heap.size (Pl.cells ⟨f, a, b, c⟩)) := RowAt.new _ _ (by simp [Pl.cells]) _ rfl
  have HB0 : Hid (Below w.heap.size w (w.alloc (.cells (Pl.cells ⟨f, a, b, c⟩).toArray 122))) := (Below.refl _ _).alloc (Nat.le_refl _) _
  have Hq := Lib.hid hq
  clear hok hq
  unfold Pl.val at HN ⊢
  simp only [Pl.cells] at HR0 HB0
  simp only at HN
  go_enter Tryz.func95, Tryz.ntmps95
  go_wp2_with (refine row_load rfl _ rfl _ rfl _ HR0.out rowT_p ?_)
  refine (HN.out _).mono ?_
  rintro e w1 ⟨rfl, hb1⟩
  have HR1 : Hid (RowAt (w1.alloc (.cells #[.int .i64 pf, .int .i64 pa, .int .i64 pb, .int .i64 pc] 122)) w.heap.size (Pl.cells ⟨f, a, b, c⟩)) := (HR0.out.below hb1).alloc _
  have HR2 : Hid (RowAt (w1.alloc (.cells #[.int .i64 pf, .int .i64 pa, .int .i64 pb, .int .i64 pc] 122)) w1.heap.size (Pl.cells ⟨pf, pa, pb, pc⟩)) := RowAt.new _ (Pl.cells ⟨pf, pa, pb, pc⟩) (by simp [Pl.cells]) _ rfl
  have HB1 : Hid (Below w.heap.size w (w1.alloc (.cells #[.int .i64 pf, .int .i64 pa, .int .i64 pb, .int .i64 pc] 122))) := (below_then HB0.out hb1).alloc (by have := hb1.size; simp at this; omega) _
  clear hb1
  simp only [Pl.cells] at HR1 HR2
  go_wp2_with (first
    | (refine row_load_w rfl _ rfl _ rfl _ HR1.out rowT_p ?_)
    | (refine row_load_w rfl _ rfl _ rfl _ HR2.out rowT_p ?_))
  all_goals
    go_ret
    refine ⟨?_, HB1.out⟩
    rw [Hq.out]
    congr 2
    symm
    first
      | (rw [decide_eq_true_iff, Pl.mk.injEq]; omega)
      | (rw [decide_eq_false_iff_not, Pl.mk.injEq]; omega)
      | (simp; first | omega | (intros; omega) | exact ⟨by assumption, by assumption, by assumption, by assumption⟩)
end Go.Proofs.YtkpgciimhjkajaaGreatDoor
/- The reference's grid of frequency one: its nodes. -/
namespace Go.Proofs.YtkpgciimhjkajaaGreatDoor
open Go Go.RowKit
def isN (p : Pl) : Bool := decide (p = norP p)
def nodesTo (k j : Nat) : List Pl := ((List.range k).flatMap fun f => (vtx f).filter isN) ++ ((vtx k).take j).filter isN
theorem nodesTo_next (k : Nat) : nodesTo k 3 = nodesTo (k + 1) 0 := by
  unfold nodesTo
  rw [List.range_succ, List.flatMap_append]
  simp [vtx]
structure NdS (w : World) (k j : Nat) (v : Value) (wr : World) : Prop where
  own : OwnP wr w.heap.size v (nodesTo k j)
  below : Below w.heap.size w wr
theorem NdS.skip {w wr : World} {k j : Nat} {v : Value} (h : NdS w k j v wr) (e : nodesTo k (j + 1) = nodesTo k j) : NdS w k (j + 1) v wr := ⟨by rw [e]; exact h.own, h.below⟩
theorem NdS.next {w wr : World} {k : Nat} {v : Value} (h : NdS w k 3 v wr) : NdS w (k + 1) 0 v wr := ⟨by rw [← nodesTo_next k]; exact h.own, h.below⟩
end Go.Proofs.YtkpgciimhjkajaaGreatDoor
/- The reference's grid of frequency one: the search among its nodes. -/
namespace Go.Proofs.YtkpgciimhjkajaaGreatDoor
open Go Go.RowKit
def PlsAt (w : World) (g : Nat) (l : List Pl) : Prop := ∀ i, (hi : i < l.length) → w.rangeAt g (i * 4) l[i].cells
theorem PlsAt.below {w w' : World} {g : Nat} {l : List Pl} (h : PlsAt w g l) (hb : Below w.heap.size w w') : PlsAt w' g l := fun i hi j u hj => cell_then hb (h i hi j u hj)
theorem hop_pl_load {ops : Array Oper} {Q : Exit → Act → World → Prop} {o : Oper} {a : Act} {w : World} {K : Act → World → Prop} (hg : o.guard = none) (x : Operand) (ho : o.op = .load 122 x)
    (b i : Nat) (hx : a.eval x = .pointer (some ⟨b, i, none⟩)) (p : Pl) (h : w.rangeAt b i p.cells) (k : K (a.put o.dst p.val) w) :
    if Region.wanted o (yielded ops a.tmps) = true then Oper.wp Tryz.prog o a w K Q else K (a.put o.dst undef) w := by
  obtain ⟨h0, d, h1, h2⟩ := rowT_p
  refine hop_val hg p.val (w' := w) ?_ k
  unfold execOp
  simp only [ho, hx, Sem.run_bind, run_loadAt_mid w b i _ p.cells d h h1 h2 h0, Result.andThen_ok, Sem.run_pure]
  rfl
set_option maxHeartbeats 4000000 in
theorem less_any (p q : Pl) (r : Bool) (hr : r = lessP p q) (w : World) : Calls Tryz.prog 113 #[p.val, q.val] w fun e w' => e = .returned (.bool r) ∧ Below w.heap.size w w' := by
  obtain ⟨a, b, c, d⟩ := p
  obtain ⟨e, f, g, h⟩ := q
  have hB : Hid (Below w.heap.size w ((w.alloc (.cells #[.int .i64 a, .int .i64 b, .int .i64 c, .int .i64 d] 122)).alloc (.cells #[.int .i64 e, .int .i64 f, .int .i64 g, .int .i64 h] 122))) := ((Below.refl _ _).alloc (Nat.le_refl _) _).alloc (by simp) _
  unfold Pl.val
  by_cases h1 : a = e
  · subst h1
    by_cases h2 : b = f
    · subst h2
      have hq : Hid (r = decide (c < g)) := by show r = _; rw [hr]; unfold lessP; rw [if_neg (by simp), if_neg (by simp)]
      clear hr
      go_enter Tryz.func113, Tryz.ntmps113
      go_wp2_with fail
      go_ret
      exact ⟨by rw [hq.out]; rfl, hB.out⟩
    · have hq : Hid (r = decide (b < f)) := by show r = _; rw [hr]; unfold lessP; rw [if_neg (by simp), if_pos h2]
      have n1 : (b == f) = false := by simpa using h2
      have n2 : (b != f) = true := by simpa using h2
      clear hr h2
      go_enter Tryz.func113, Tryz.ntmps113
      go_wp2_with fail
      go_ret
      exact ⟨by rw [hq.out]; rfl, hB.out⟩
  · have hq : Hid (r = decide (a < e)) := by show r = _; rw [hr]; unfold lessP; rw [if_pos h1]
    have n1 : (a == e) = false := by simpa using h1
    have n2 : (a != e) = true := by simpa using h1
    clear hr h1
    go_enter Tryz.func113, Tryz.ntmps113
    go_wp2_with fail
    go_ret
    exact ⟨by rw [hq.out]; rfl, hB.out⟩
theorem fnd_done (l : List Pl) (p : Pl) (k lo hi : Nat) (h : ¬ lo < hi) : fnd l p k lo hi = (lo, hi) := by
  cases k with
  | zero => rfl
  | succ k => rw [fnd, if_neg h]
end Go.Proofs.YtkpgciimhjkajaaGreatDoor
