/- Part 2 of the proof: laws on memory and what functions of the program return. No conditions but those that each theorem names. -/
import Derived.Test.YtpknalpdcfjffaaGreatR01
import Derived.Deep.MidRow
import Derived.Lib.Hide
import Derived.Outline
import Derived.Deep.DeepCutAuto
set_option linter.unusedVariables false
set_option linter.unusedSimpArgs false
/- How the bytes of an entry are parsed; that it is the inverse of writing them; the reader's model. No program. -/
namespace Go.Proofs.YtpknalpdcfjffaaGreat
open Go Go.RowKit

/-- The number that bytes are, the highest first. -/
def num (l : List UInt8) : Nat := l.foldl (fun n c => n * 256 + c.toNat) 0
theorem num_snoc (l : List UInt8) (c : UInt8) : num (l ++ [c]) = num l * 256 + c.toNat := by simp [num, List.foldl_append]
theorem num_be (k x : Nat) (h : x < 256 ^ k) : num (be k x) = x := by
  induction k generalizing x with
  | zero => simp [be, num]; omega
  | succ k ih =>
    have h2 : x / 256 < 256 ^ k := by rw [Nat.pow_succ] at h; omega
    rw [be, num_snoc, ih _ h2, UInt8.toNat_ofNat']
    omega
theorem num_lt (l : List UInt8) : num l < 256 ^ l.length := by
  induction h : l.length generalizing l with
  | zero => rw [List.eq_nil_of_length_eq_zero h]; simp [num]
  | succ n ih =>
    have hne : l ≠ [] := by intro e; rw [e] at h; cases h
    rw [← List.dropLast_concat_getLast hne, num_snoc]
    have h1 := ih l.dropLast (by rw [List.length_dropLast, h]; rfl)
    have h2 := (l.getLast hne).toNat_lt
    rw [Nat.pow_succ]
    omega
theorem be_num (l : List UInt8) : be l.length (num l) = l := by
  induction h : l.length generalizing l with
  | zero => rw [List.eq_nil_of_length_eq_zero h]; rfl
  | succ n ih =>
    have hne : l ≠ [] := by intro e; rw [e] at h; cases h
    have h1 := ih l.dropLast (by rw [List.length_dropLast, h]; rfl)
    have hs := num_snoc l.dropLast (l.getLast hne)
    rw [List.dropLast_concat_getLast hne] at hs
    have h2 := (l.getLast hne).toNat_lt
    have e1 : num l / 256 = num l.dropLast := by omega
    have e2 : UInt8.ofNat (num l) = l.getLast hne := by
      apply UInt8.toNat_inj.1
      rw [UInt8.toNat_ofNat', hs]
      omega
    rw [be, e1, h1, e2, List.dropLast_concat_getLast hne]
theorem be_num' {l : List UInt8} {k : Nat} (h : l.length = k) : be k (num l) = l := by rw [← h]; exact be_num l
def i64of (n : Nat) : Int := if n < 9223372036854775808 then n else (n : Int) - 18446744073709551616
theorem i64of_I64 {n : Nat} (h : n < 18446744073709551616) : I64 (i64of n) := by unfold i64of I64; split <;> omega
theorem i64of_u64 {x : Int} (h : I64 x) : i64of (u64 x) = x := by
  have h1 := h.lo
  have h2 := h.hi
  unfold i64of u64
  split <;> omega
theorem u64_i64of {n : Nat} (h : n < 18446744073709551616) : u64 (i64of n) = n := by
  unfold i64of u64
  split <;> omega
theorem wrap_i64of (n : Nat) (h : n < 18446744073709551616) : IntKind.i64.wrap (n : Int) = i64of n := by
  unfold i64of
  simp [IntKind.wrap, IntKind.bits, IntKind.signed]
  split <;> omega

/-! ### Parsers -/
abbrev Ps (α : Type) := List UInt8 → Option (α × List UInt8)
def Ps.bind {α β : Type} (p : Ps α) (f : α → Ps β) : Ps β := fun l => match p l with
  | some (a, r) => f a r
  | none => none
def Ps.ret {α : Type} (a : α) : Ps α := fun l => some (a, l)
theorem Ps.bind_some {α β : Type} {p : Ps α} {f : α → Ps β} {l : List UInt8} {b : β} {r : List UInt8} (h : p.bind f l = some (b, r)) : ∃ a r1, p l = some (a, r1) ∧ f a r1 = some (b, r) := by
  unfold Ps.bind at h
  split at h
  · rename_i a r1 e; exact ⟨a, r1, e, h⟩
  · cases h
theorem Ps.bind_of {α β : Type} {p : Ps α} {f : α → Ps β} {l : List UInt8} {a : α} {r1 : List UInt8} (h : p l = some (a, r1)) : p.bind f l = f a r1 := by
  unfold Ps.bind; rw [h]
theorem Ps.bind_no {α β : Type} {p : Ps α} {f : α → Ps β} {l : List UInt8} (h : p l = none) : p.bind f l = none := by
  unfold Ps.bind; rw [h]
def pNum (k : Nat) : Ps Nat := fun l => if k ≤ l.length then some (num (l.take k), l.drop k) else none
def pInt : Ps Int := (pNum 8).bind fun n => .ret (i64of n)
def pBool : Ps Bool := (pNum 1).bind fun n => fun l => if 1 < n then none else some (n == 1, l)
def pBytes (n : Nat) : Ps ByteArray := fun l => if n ≤ l.length then some (⟨(l.take n).toArray⟩, l.drop n) else none
def pText : Ps ByteArray := (pNum 4).bind pBytes
def pN {α : Type} (p : Ps α) : Nat → Ps (List α)
  | 0 => .ret []
  | n + 1 => p.bind fun a => (pN p n).bind fun l => .ret (a :: l)
def pList {α : Type} (p : Ps α) : Ps (List α) := (pNum 4).bind (pN p)
def pPla : Ps Pla := pInt.bind fun f => pInt.bind fun a => pInt.bind fun b => pInt.bind fun c => .ret ⟨f, a, b, c⟩
def pRd : Ps (Int × Int) := pInt.bind fun a => pInt.bind fun b => .ret (a, b)
def pRep : Ps Rep := pInt.bind fun k => pText.bind fun n => pInt.bind fun t => pPla.bind fun p => (pList pRd).bind fun r => .ret ⟨k, n, t, p, r⟩
def pCnt : Ps Cnt := pText.bind fun n => pInt.bind fun a => pInt.bind fun b => .ret ⟨n, a, b⟩
def pAna : Ps Ana := (pList pInt).bind fun a => (pList pInt).bind fun b => (pList pInt).bind fun c => pInt.bind fun d => (pNum 8).bind fun e => pInt.bind fun f => pInt.bind fun g => pInt.bind fun h => .ret ⟨a, b, c, d, e, f, g, h⟩
def pCyc : Ps Cyc := pInt.bind fun a => pInt.bind fun b => pInt.bind fun c => (pList pRep).bind fun d => pAna.bind fun e => pInt.bind fun f => (pList pInt).bind fun g => (pList pInt).bind fun h =>
  (pList (pList pCnt)).bind fun i => (pList pText).bind fun j => .ret ⟨a, b, c, d, e, f, g, h, i, j⟩
/-- An entry of a kind. -/
def pEnt (k : Int) : Ps Ent :=
  if k = 1 then pInt.bind fun n => .ret { Ent.zero with kind := k, now := n }
  else if k = 2 then pRep.bind fun r => pInt.bind fun c => pInt.bind fun a => .ret { Ent.zero with kind := k, rep := r, corr := c, arr := a }
  else if k = 3 then pInt.bind fun s => pText.bind fun n => pInt.bind fun f => pBool.bind fun c => pPla.bind fun p => (pList pRd).bind fun b => .ret { Ent.zero with kind := k, st := s, name := n, from_ := f, closed := c, pl := p, bias := b }
  else if k = 4 then pCyc.bind fun c => .ret { Ent.zero with kind := k, cyc := c }
  else fun _ => none

/-! ### The inverse -/
/-- The parser reads what is written, of what is in its range, and nothing else. -/
structure Inv {α : Type} (p : Ps α) (e : α → List UInt8) (ok : α → Prop) : Prop where
  read : ∀ a rest, ok a → p (e a ++ rest) = some (a, rest)
  back : ∀ l a r, p l = some (a, r) → l = e a ++ r ∧ ok a
theorem Inv.ret {α : Type} (a : α) (l : List UInt8) : Ps.ret a l = some (a, l) := rfl
def okI (x : Int) : Prop := I64 x
def okN (k : Nat) (n : Nat) : Prop := n < 256 ^ k
def okT (t : ByteArray) : Prop := t.size < 4294967296
def okL {α : Type} (ok : α → Prop) (l : List α) : Prop := l.length < 4294967296 ∧ ∀ a ∈ l, ok a
theorem inv_num (k : Nat) : Inv (pNum k) (be k) (okN k) := by
  refine ⟨fun a rest h => ?_, fun l a r h => ?_⟩
  · have hl := be_length k a
    unfold pNum
    rw [if_pos (by rw [List.length_append, hl]; omega), List.take_left' hl, List.drop_left' hl, num_be k a h]
  · unfold pNum at h
    split at h
    · rename_i hk
      obtain ⟨rfl, rfl⟩ : num (l.take k) = a ∧ l.drop k = r := by simpa using h
      have hl : (l.take k).length = k := by rw [List.length_take]; omega
      refine ⟨?_, ?_⟩
      · rw [be_num' hl, List.take_append_drop]
      · have := num_lt (l.take k)
        rw [hl] at this
        exact this
    · cases h
theorem Inv.map {α β : Type} {p : Ps α} {e : α → List UInt8} {ok : α → Prop} (h : Inv p e ok) (f : α → β) (g : β → α) {ok' : β → Prop} (h1 : ∀ b, ok' b → ok (g b) ∧ f (g b) = b) (h2 : ∀ a, ok a → ok' (f a) ∧ g (f a) = a) :
    Inv (p.bind fun a => .ret (f a)) (fun b => e (g b)) ok' := by
  refine ⟨fun b rest hb => ?_, fun l b r hp => ?_⟩
  · rw [Ps.bind_of (h.read (g b) rest (h1 b hb).1), (h1 b hb).2]; rfl
  · obtain ⟨a, r1, e1, e2⟩ := Ps.bind_some hp
    obtain ⟨rfl, rfl⟩ : f a = b ∧ r1 = r := by simpa [Ps.ret] using e2
    obtain ⟨h3, h4⟩ := h.back _ _ _ e1
    exact ⟨by rw [(h2 a h4).2]; exact h3, (h2 a h4).1⟩
theorem inv_int : Inv pInt i1B okI :=
  (inv_num 8).map i64of u64 (fun b hb => ⟨u64_lt b, i64of_u64 hb⟩) (fun a ha => ⟨i64of_I64 ha, u64_i64of ha⟩)
theorem inv_bool : Inv pBool boolB (fun _ => True) := by
  refine ⟨fun b rest _ => ?_, fun l b r hp => ?_⟩
  · cases b
    · rw [pBool, Ps.bind_of (a := 0) (r1 := rest) (by simp [pNum, boolB, num])]; rfl
    · rw [pBool, Ps.bind_of (a := 1) (r1 := rest) (by simp [pNum, boolB, num])]; rfl
  · obtain ⟨a, r1, e1, e2⟩ := Ps.bind_some hp
    obtain ⟨h1, h2⟩ := (inv_num 1).back _ _ _ e1
    refine ⟨?_, trivial⟩
    split at e2
    · cases e2
    · rename_i h3
      obtain ⟨rfl, rfl⟩ : (a == 1) = b ∧ r1 = r := by simpa using e2
      have : a = 0 ∨ a = 1 := by omega
      rw [h1]
      rcases this with rfl | rfl <;> rfl
theorem inv_text : Inv pText strB okT := by
  refine ⟨fun t rest h => ?_, fun l t r hp => ?_⟩
  · unfold strB
    rw [List.append_assoc, pText, Ps.bind_of ((inv_num 4).read t.size (t.data.toList ++ rest) h)]
    have hl := size_list t
    unfold pBytes
    rw [if_pos (by rw [List.length_append, hl]; omega), List.take_left' hl, List.drop_left' hl]
  · obtain ⟨n, r1, e1, e2⟩ := Ps.bind_some hp
    obtain ⟨h1, h2⟩ := (inv_num 4).back _ _ _ e1
    unfold pBytes at e2
    split at e2
    · rename_i hn
      obtain ⟨rfl, rfl⟩ : (⟨(r1.take n).toArray⟩ : ByteArray) = t ∧ r1.drop n = r := by simpa using e2
      have hs : ByteArray.size ⟨(r1.take n).toArray⟩ = n := by
        rw [← size_list]; simp; omega
      refine ⟨?_, by unfold okT; rw [hs]; exact h2⟩
      unfold strB
      rw [hs, h1, List.append_assoc]
      simp
    · cases e2
theorem inv_n {α : Type} {p : Ps α} {e : α → List UInt8} {ok : α → Prop} (h : Inv p e ok) : (∀ (l : List α) rest, (∀ a ∈ l, ok a) → pN p l.length (l.flatMap e ++ rest) = some (l, rest)) ∧
    (∀ n l bs r, pN p n l = some (bs, r) → bs.length = n ∧ l = bs.flatMap e ++ r ∧ ∀ a ∈ bs, ok a) := by
  constructor
  · intro l rest hl
    induction l with
    | nil => rfl
    | cons a l ih =>
      rw [List.flatMap_cons, List.append_assoc, List.length_cons, pN, Ps.bind_of (h.read a _ (hl a (by simp))), Ps.bind_of (ih (fun b hb => hl b (by simp [hb])))]
      rfl
  · intro n
    induction n with
    | zero =>
      intro l bs r hp
      obtain ⟨rfl, rfl⟩ : [] = bs ∧ l = r := by simpa [pN, Ps.ret] using hp
      exact ⟨rfl, rfl, by simp⟩
    | succ n ih =>
      intro l cs r hp
      obtain ⟨a, r1, e1, e2⟩ := Ps.bind_some hp
      obtain ⟨bs, r2, e3, e4⟩ := Ps.bind_some e2
      obtain ⟨rfl, rfl⟩ : a :: bs = cs ∧ r2 = r := by simpa [Ps.ret] using e4
      obtain ⟨h1, h2⟩ := h.back _ _ _ e1
      obtain ⟨h3, h4, h5⟩ := ih _ _ _ e3
      refine ⟨by rw [List.length_cons, h3], by rw [h1, h4, List.flatMap_cons, List.append_assoc], fun b hb => ?_⟩
      rcases List.mem_cons.1 hb with rfl | hb
      · exact h2
      · exact h5 b hb
theorem inv_list {α : Type} {p : Ps α} {e : α → List UInt8} {ok : α → Prop} (h : Inv p e ok) : Inv (pList p) (listB e) (okL ok) := by
  refine ⟨fun l rest hl => ?_, fun l bs r hp => ?_⟩
  · unfold listB
    rw [List.append_assoc, pList, Ps.bind_of ((inv_num 4).read l.length _ hl.1)]
    exact (inv_n h).1 l rest hl.2
  · obtain ⟨n, r1, e1, e2⟩ := Ps.bind_some hp
    obtain ⟨h1, h2⟩ := (inv_num 4).back _ _ _ e1
    obtain ⟨h3, h4, h5⟩ := (inv_n h).2 _ _ _ _ e2
    unfold listB
    rw [h3]
    exact ⟨by rw [h1, h4, List.append_assoc], by rw [h3]; exact h2, h5⟩
theorem Ps.bind_read {α β : Type} {p : Ps α} {e : α → List UInt8} {ok : α → Prop} (h : Inv p e ok) {a : α} (ha : ok a) (f : α → Ps β) (rest : List UInt8) : p.bind f (e a ++ rest) = f a rest := Ps.bind_of (h.read a rest ha)
theorem Ps.bind_back {α β : Type} {p : Ps α} {e : α → List UInt8} {ok : α → Prop} (h : Inv p e ok) {f : α → Ps β} {l : List UInt8} {b : β} {r : List UInt8} (hp : p.bind f l = some (b, r)) : ∃ a r1, l = e a ++ r1 ∧ ok a ∧ f a r1 = some (b, r) := by
  obtain ⟨a, r1, e1, e2⟩ := Ps.bind_some hp
  obtain ⟨h1, h2⟩ := h.back _ _ _ e1
  exact ⟨a, r1, h1, h2, e2⟩
theorem ints_cons (x : Int) (l : List Int) : Go.Proofs.YtpknalpdcfjffaaGreat.ints (x :: l) = i1B x ++ Go.Proofs.YtpknalpdcfjffaaGreat.ints l := rfl
theorem ints_nil : Go.Proofs.YtpknalpdcfjffaaGreat.ints [] = [] := rfl
def okPla (p : Pla) : Prop := okI p.f ∧ okI p.a ∧ okI p.b ∧ okI p.c
def okRd (p : Int × Int) : Prop := okI p.1 ∧ okI p.2
def okRep (r : Rep) : Prop := okI r.kind ∧ okT r.name ∧ okI r.time ∧ okPla r.pl ∧ okL okRd r.rds
def okCnt (c : Cnt) : Prop := okT c.name ∧ okI c.total ∧ okI c.rej
def okAna (a : Ana) : Prop := okL okI a.bg ∧ okL okI a.inc ∧ okL okI a.field ∧ okI a.hi ∧ okN 8 a.lo ∧ okI a.anchor ∧ okI a.radius ∧ okI a.rounds
def okCyc (x : Cyc) : Prop := okI x.number ∧ okI x.time ∧ okI x.cutoff ∧ okL okRep x.reps ∧ okAna x.ana ∧ okI x.freq ∧ okL okI x.depth ∧ okL okI x.flow ∧ okL (okL okCnt) x.cycles ∧ okL okT x.listed
theorem inv_pla : Inv pPla placeB okPla := by
  refine ⟨fun a rest h => ?_, fun l x r hp => ?_⟩
  · obtain ⟨h1, h2, h3, h4⟩ := h
    simp only [placeB, ints_cons, ints_nil, List.append_assoc, List.nil_append, pPla]
    rw [Ps.bind_read inv_int h1, Ps.bind_read inv_int h2, Ps.bind_read inv_int h3, Ps.bind_read inv_int h4]
    rfl
  · obtain ⟨a1, r1, rfl, o1, hp⟩ := Ps.bind_back inv_int hp
    obtain ⟨a2, r2, rfl, o2, hp⟩ := Ps.bind_back inv_int hp
    obtain ⟨a3, r3, rfl, o3, hp⟩ := Ps.bind_back inv_int hp
    obtain ⟨a4, r4, rfl, o4, hp⟩ := Ps.bind_back inv_int hp
    obtain ⟨rfl, rfl⟩ : (⟨a1, a2, a3, a4⟩ : Pla) = x ∧ r4 = r := by simpa [Ps.ret] using hp
    exact ⟨by simp only [placeB, ints_cons, ints_nil, List.append_assoc, List.nil_append], o1, o2, o3, o4⟩
theorem inv_rd : Inv pRd rd1B okRd := by
  refine ⟨fun a rest h => ?_, fun l x r hp => ?_⟩
  · obtain ⟨h1, h2⟩ := h
    simp only [rd1B, ints_cons, ints_nil, List.append_assoc, List.nil_append, pRd]
    rw [Ps.bind_read inv_int h1, Ps.bind_read inv_int h2]
    rfl
  · obtain ⟨a1, r1, rfl, o1, hp⟩ := Ps.bind_back inv_int hp
    obtain ⟨a2, r2, rfl, o2, hp⟩ := Ps.bind_back inv_int hp
    obtain ⟨rfl, rfl⟩ : (a1, a2) = x ∧ r2 = r := by simpa [Ps.ret] using hp
    exact ⟨by simp only [rd1B, ints_cons, ints_nil, List.append_assoc, List.nil_append], o1, o2⟩
theorem inv_rds : Inv (pList pRd) readingsB (okL okRd) := inv_list inv_rd
theorem inv_ints : Inv (pList pInt) sliceB (okL okI) := inv_list inv_int
theorem inv_rep : Inv pRep repB okRep := by
  refine ⟨fun a rest h => ?_, fun l x r hp => ?_⟩
  · obtain ⟨h1, h2, h3, h4, h5⟩ := h
    simp only [repB, ints_cons, ints_nil, List.append_assoc, List.nil_append, pRep]
    rw [Ps.bind_read inv_int h1, Ps.bind_read inv_text h2, Ps.bind_read inv_int h3, Ps.bind_read inv_pla h4, Ps.bind_read inv_rds h5]
    rfl
  · obtain ⟨a1, r1, rfl, o1, hp⟩ := Ps.bind_back inv_int hp
    obtain ⟨a2, r2, rfl, o2, hp⟩ := Ps.bind_back inv_text hp
    obtain ⟨a3, r3, rfl, o3, hp⟩ := Ps.bind_back inv_int hp
    obtain ⟨a4, r4, rfl, o4, hp⟩ := Ps.bind_back inv_pla hp
    obtain ⟨a5, r5, rfl, o5, hp⟩ := Ps.bind_back inv_rds hp
    obtain ⟨rfl, rfl⟩ : (⟨a1, a2, a3, a4, a5⟩ : Rep) = x ∧ r5 = r := by simpa [Ps.ret] using hp
    exact ⟨by simp only [repB, ints_cons, ints_nil, List.append_assoc, List.nil_append], o1, o2, o3, o4, o5⟩
theorem inv_cnt : Inv pCnt cntB okCnt := by
  refine ⟨fun a rest h => ?_, fun l x r hp => ?_⟩
  · obtain ⟨h1, h2, h3⟩ := h
    simp only [cntB, ints_cons, ints_nil, List.append_assoc, List.nil_append, pCnt]
    rw [Ps.bind_read inv_text h1, Ps.bind_read inv_int h2, Ps.bind_read inv_int h3]
    rfl
  · obtain ⟨a1, r1, rfl, o1, hp⟩ := Ps.bind_back inv_text hp
    obtain ⟨a2, r2, rfl, o2, hp⟩ := Ps.bind_back inv_int hp
    obtain ⟨a3, r3, rfl, o3, hp⟩ := Ps.bind_back inv_int hp
    obtain ⟨rfl, rfl⟩ : (⟨a1, a2, a3⟩ : Cnt) = x ∧ r3 = r := by simpa [Ps.ret] using hp
    exact ⟨by simp only [cntB, ints_cons, ints_nil, List.append_assoc, List.nil_append], o1, o2, o3⟩
theorem inv_ana : Inv pAna anaB okAna := by
  refine ⟨fun a rest h => ?_, fun l x r hp => ?_⟩
  · obtain ⟨h1, h2, h3, h4, h5, h6, h7, h8⟩ := h
    simp only [anaB, ints_cons, ints_nil, List.append_assoc, List.nil_append, pAna]
    rw [Ps.bind_read inv_ints h1, Ps.bind_read inv_ints h2, Ps.bind_read inv_ints h3, Ps.bind_read inv_int h4, Ps.bind_read (inv_num 8) h5, Ps.bind_read inv_int h6, Ps.bind_read inv_int h7, Ps.bind_read inv_int h8]
    rfl
  · obtain ⟨a1, r1, rfl, o1, hp⟩ := Ps.bind_back inv_ints hp
    obtain ⟨a2, r2, rfl, o2, hp⟩ := Ps.bind_back inv_ints hp
    obtain ⟨a3, r3, rfl, o3, hp⟩ := Ps.bind_back inv_ints hp
    obtain ⟨a4, r4, rfl, o4, hp⟩ := Ps.bind_back inv_int hp
    obtain ⟨a5, r5, rfl, o5, hp⟩ := Ps.bind_back (inv_num 8) hp
    obtain ⟨a6, r6, rfl, o6, hp⟩ := Ps.bind_back inv_int hp
    obtain ⟨a7, r7, rfl, o7, hp⟩ := Ps.bind_back inv_int hp
    obtain ⟨a8, r8, rfl, o8, hp⟩ := Ps.bind_back inv_int hp
    obtain ⟨rfl, rfl⟩ : (⟨a1, a2, a3, a4, a5, a6, a7, a8⟩ : Ana) = x ∧ r8 = r := by simpa [Ps.ret] using hp
    exact ⟨by simp only [anaB, ints_cons, ints_nil, List.append_assoc, List.nil_append], o1, o2, o3, o4, o5, o6, o7, o8⟩
theorem inv_cyc : Inv pCyc cycB okCyc := by
  refine ⟨fun a rest h => ?_, fun l x r hp => ?_⟩
  · obtain ⟨h1, h2, h3, h4, h5, h6, h7, h8, h9, h10⟩ := h
    simp only [cycB, histB, ints_cons, ints_nil, List.append_assoc, List.nil_append, pCyc]
    rw [Ps.bind_read inv_int h1, Ps.bind_read inv_int h2, Ps.bind_read inv_int h3, Ps.bind_read (inv_list inv_rep) h4, Ps.bind_read inv_ana h5, Ps.bind_read inv_int h6, Ps.bind_read inv_ints h7, Ps.bind_read inv_ints h8, Ps.bind_read (inv_list (inv_list inv_cnt)) h9, Ps.bind_read (inv_list inv_text) h10]
    rfl
  · obtain ⟨a1, r1, rfl, o1, hp⟩ := Ps.bind_back inv_int hp
    obtain ⟨a2, r2, rfl, o2, hp⟩ := Ps.bind_back inv_int hp
    obtain ⟨a3, r3, rfl, o3, hp⟩ := Ps.bind_back inv_int hp
    obtain ⟨a4, r4, rfl, o4, hp⟩ := Ps.bind_back (inv_list inv_rep) hp
    obtain ⟨a5, r5, rfl, o5, hp⟩ := Ps.bind_back inv_ana hp
    obtain ⟨a6, r6, rfl, o6, hp⟩ := Ps.bind_back inv_int hp
    obtain ⟨a7, r7, rfl, o7, hp⟩ := Ps.bind_back inv_ints hp
    obtain ⟨a8, r8, rfl, o8, hp⟩ := Ps.bind_back inv_ints hp
    obtain ⟨a9, r9, rfl, o9, hp⟩ := Ps.bind_back (inv_list (inv_list inv_cnt)) hp
    obtain ⟨a10, r10, rfl, o10, hp⟩ := Ps.bind_back (inv_list inv_text) hp
    obtain ⟨rfl, rfl⟩ : (⟨a1, a2, a3, a4, a5, a6, a7, a8, a9, a10⟩ : Cyc) = x ∧ r10 = r := by simpa [Ps.ret] using hp
    exact ⟨by simp only [cycB, histB, ints_cons, ints_nil, List.append_assoc, List.nil_append], o1, o2, o3, o4, o5, o6, o7, o8, o9, o10⟩
/-- An entry whose kind uses these fields alone. -/
def okEnt (k : Int) (x : Ent) : Prop :=
  if k = 1 then okI x.now ∧ x = { Ent.zero with kind := 1, now := x.now }
  else if k = 2 then okRep x.rep ∧ okI x.corr ∧ okI x.arr ∧ x = { Ent.zero with kind := 2, rep := x.rep, corr := x.corr, arr := x.arr }
  else if k = 3 then okI x.st ∧ okT x.name ∧ okI x.from_ ∧ okPla x.pl ∧ okL okRd x.bias ∧ x = { Ent.zero with kind := 3, st := x.st, name := x.name, from_ := x.from_, closed := x.closed, pl := x.pl, bias := x.bias }
  else if k = 4 then okCyc x.cyc ∧ x = { Ent.zero with kind := 4, cyc := x.cyc }
  else False
theorem ent_read (k : Int) (x : Ent) (h : okEnt k x) (rest : List UInt8) : ∃ b, entB x = some b ∧ pEnt k (b ++ rest) = some (x, rest) ∧ x.kind = k := by
  unfold okEnt at h
  unfold pEnt
  split at h
  · rename_i hk; subst hk
    obtain ⟨h1, h2⟩ := h
    rw [h2]
    refine ⟨_, rfl, ?_, rfl⟩
    rw [if_pos rfl]
    simp only [ints_cons, ints_nil, List.append_assoc, List.nil_append]
    rw [Ps.bind_read inv_int h1]; rfl
  · split at h
    · rename_i hk; subst hk
      obtain ⟨h1, h2, h3, h4⟩ := h
      rw [h4]
      refine ⟨_, rfl, ?_, rfl⟩
      rw [if_neg (by decide), if_pos rfl]
      simp only [ints_cons, ints_nil, List.append_assoc, List.nil_append]
      rw [Ps.bind_read inv_rep h1, Ps.bind_read inv_int h2, Ps.bind_read inv_int h3]; rfl
    · split at h
      · rename_i hk; subst hk
        obtain ⟨h1, h2, h3, h5, h6, h7⟩ := h
        rw [h7]
        refine ⟨_, rfl, ?_, rfl⟩
        rw [if_neg (by decide), if_neg (by decide), if_pos rfl]
        simp only [ints_cons, ints_nil, List.append_assoc, List.nil_append]
        rw [Ps.bind_read inv_int h1, Ps.bind_read inv_text h2, Ps.bind_read inv_int h3, Ps.bind_read inv_bool trivial, Ps.bind_read inv_pla h5, Ps.bind_read inv_rds h6]; rfl
      · split at h
        · rename_i hk; subst hk
          obtain ⟨h1, h2⟩ := h
          rw [h2]
          refine ⟨_, rfl, ?_, rfl⟩
          rw [if_neg (by decide), if_neg (by decide), if_neg (by decide), if_pos rfl]
          rw [Ps.bind_read inv_cyc h1]; rfl
        · cases h
theorem ent_back (k : Int) (l : List UInt8) (x : Ent) (r : List UInt8) (hp : pEnt k l = some (x, r)) : ∃ b, entB x = some b ∧ l = b ++ r ∧ okEnt k x := by
  unfold pEnt at hp
  unfold okEnt
  split at hp
  · rename_i hk; subst hk
    obtain ⟨a1, r1, rfl, o1, hp⟩ := Ps.bind_back inv_int hp
    obtain ⟨rfl, rfl⟩ : ({ Ent.zero with kind := 1, now := a1 } : Ent) = x ∧ r1 = r := by simpa [Ps.ret] using hp
    exact ⟨_, rfl, by simp only [ints_cons, ints_nil, List.append_assoc, List.nil_append], by rw [if_pos rfl]; exact ⟨o1, rfl⟩⟩
  · split at hp
    · rename_i hk; subst hk
      obtain ⟨a1, r1, rfl, o1, hp⟩ := Ps.bind_back inv_rep hp
      obtain ⟨a2, r2, rfl, o2, hp⟩ := Ps.bind_back inv_int hp
      obtain ⟨a3, r3, rfl, o3, hp⟩ := Ps.bind_back inv_int hp
      obtain ⟨rfl, rfl⟩ : ({ Ent.zero with kind := 2, rep := a1, corr := a2, arr := a3 } : Ent) = x ∧ r3 = r := by simpa [Ps.ret] using hp
      exact ⟨_, rfl, by simp only [ints_cons, ints_nil, List.append_assoc, List.nil_append], by rw [if_neg (by decide), if_pos rfl]; exact ⟨o1, o2, o3, rfl⟩⟩
    · split at hp
      · rename_i hk; subst hk
        obtain ⟨a1, r1, rfl, o1, hp⟩ := Ps.bind_back inv_int hp
        obtain ⟨a2, r2, rfl, o2, hp⟩ := Ps.bind_back inv_text hp
        obtain ⟨a3, r3, rfl, o3, hp⟩ := Ps.bind_back inv_int hp
        obtain ⟨a4, r4, rfl, o4, hp⟩ := Ps.bind_back inv_bool hp
        obtain ⟨a5, r5, rfl, o5, hp⟩ := Ps.bind_back inv_pla hp
        obtain ⟨a6, r6, rfl, o6, hp⟩ := Ps.bind_back inv_rds hp
        obtain ⟨rfl, rfl⟩ : ({ Ent.zero with kind := 3, st := a1, name := a2, from_ := a3, closed := a4, pl := a5, bias := a6 } : Ent) = x ∧ r6 = r := by simpa [Ps.ret] using hp
        exact ⟨_, rfl, by simp only [ints_cons, ints_nil, List.append_assoc, List.nil_append], by rw [if_neg (by decide), if_neg (by decide), if_pos rfl]; exact ⟨o1, o2, o3, o5, o6, rfl⟩⟩
      · split at hp
        · rename_i hk; subst hk
          obtain ⟨a1, r1, rfl, o1, hp⟩ := Ps.bind_back inv_cyc hp
          obtain ⟨rfl, rfl⟩ : ({ Ent.zero with kind := 4, cyc := a1 } : Ent) = x ∧ r1 = r := by simpa [Ps.ret] using hp
          exact ⟨_, rfl, rfl, by rw [if_neg (by decide), if_neg (by decide), if_neg (by decide), if_pos rfl]; exact ⟨o1, rfl⟩⟩
        · cases hp
end Go.Proofs.YtpknalpdcfjffaaGreat
/- The reader's model, and that it parses. No program. -/
namespace Go.Proofs.YtpknalpdcfjffaaGreat
open Go Go.RowKit

/-- The next n bytes; none behind it if they are not there. -/
def rkTake (s : Option (List UInt8)) (n : Nat) : Option (List UInt8) × List UInt8 := match s with
  | some l => if n ≤ l.length then (some (l.drop n), l.take n) else (none, [])
  | none => (none, [])
def rkCount (t : Option (List UInt8) × List UInt8) : Option (List UInt8) × Nat := match t.1 with
  | some r => if num t.2 ≤ r.length / 4 then (some r, num t.2) else (none, 0)
  | none => (none, 0)
def rk : Wk (Option (List UInt8)) where
  sz _ := 0
  int s _ := ((rkTake s 8).1, i64of (num (rkTake s 8).2))
  word s _ := ((rkTake s 8).1, num (rkTake s 8).2)
  bool s _ := (if 1 < num (rkTake s 1).2 then none else (rkTake s 1).1, num (rkTake s 1).2 == 1)
  text s _ := ((rkTake (rkTake s 4).1 (num (rkTake s 4).2)).1, ⟨(rkTake (rkTake s 4).1 (num (rkTake s 4).2)).2.toArray⟩)
  count s _ := rkCount (rkTake s 4)
theorem rk_mono : rk.Mono := by
  refine ⟨?_, ?_, ?_, ?_, ?_⟩ <;> intro s x <;> exact Nat.le_refl _

theorem rkTake_yes (l : List UInt8) (n : Nat) (h : n ≤ l.length) : rkTake (some l) n = (some (l.drop n), l.take n) := by simp only [rkTake, if_pos h]
theorem rkTake_no (l : List UInt8) (n : Nat) (h : ¬ n ≤ l.length) : rkTake (some l) n = (none, []) := by simp only [rkTake, if_neg h]
theorem rkTake_bad (n : Nat) : rkTake none n = (none, []) := rfl
/-- A walk that parses. -/
structure Sim {α : Type} (f : Option (List UInt8) → α → Option (List UInt8) × α) (p : Ps α) : Prop where
  ok : ∀ l x a r, p l = some (a, r) → f (some l) x = (some r, a)
  no : ∀ l x, p l = none → (f (some l) x).1 = none
  bad : ∀ x, (f none x).1 = none
/-- Each success eats some bytes at least. -/
def Eats {α : Type} (m : Nat) (p : Ps α) : Prop := ∀ l a r, p l = some (a, r) → r.length + m ≤ l.length
theorem take_num (l : List UInt8) (k : Nat) : (∀ a r, pNum k l = some (a, r) → rkTake (some l) k = (some r, l.take k) ∧ num (l.take k) = a) ∧ (pNum k l = none → rkTake (some l) k = (none, [])) := by
  unfold pNum rkTake
  constructor
  · intro a r h
    split at h
    · rename_i hk
      obtain ⟨rfl, rfl⟩ : num (l.take k) = a ∧ l.drop k = r := by simpa using h
      exact ⟨by simp only [if_pos hk], rfl⟩
    · cases h
  · intro h
    split at h
    · cases h
    · rename_i hk
      simp only [if_neg hk]
theorem bind_none {α β : Type} {p : Ps α} {f : α → Ps β} {l : List UInt8} (h : p.bind f l = none) : p l = none ∨ ∃ a r, p l = some (a, r) ∧ f a r = none := by
  unfold Ps.bind at h
  split at h
  · rename_i a r e; exact Or.inr ⟨a, r, e, h⟩
  · rename_i e; exact Or.inl e
theorem sim_int : Sim rk.int pInt := by
  refine ⟨fun l x a r h => ?_, fun l x h => ?_, fun x => rfl⟩
  · obtain ⟨n, r1, e1, e2⟩ := Ps.bind_some h
    obtain ⟨rfl, rfl⟩ : i64of n = a ∧ r1 = r := by simpa [Ps.ret] using e2
    obtain ⟨h1, h2⟩ := (take_num l 8).1 _ _ e1
    simp only [rk, h1, h2]
  · rcases bind_none h with h | ⟨a, r, _, h⟩
    · simp only [rk, (take_num l 8).2 h]
    · cases h
theorem sim_word : Sim rk.word (pNum 8) := by
  refine ⟨fun l x a r h => ?_, fun l x h => ?_, fun x => rfl⟩
  · obtain ⟨h1, h2⟩ := (take_num l 8).1 _ _ h
    simp only [rk, h1, h2]
  · simp only [rk, (take_num l 8).2 h]
theorem sim_bool : Sim rk.bool pBool := by
  refine ⟨fun l x a r h => ?_, fun l x h => ?_, fun x => rfl⟩
  · obtain ⟨n, r1, e1, e2⟩ := Ps.bind_some h
    obtain ⟨h1, h2⟩ := (take_num l 1).1 _ _ e1
    split at e2
    · cases e2
    · rename_i hn
      obtain ⟨rfl, rfl⟩ : (n == 1) = a ∧ r1 = r := by simpa using e2
      simp only [rk, h1, h2, if_neg hn]
  · rcases bind_none h with h | ⟨n, r, e1, h⟩
    · simp only [rk, (take_num l 1).2 h]; rfl
    · obtain ⟨h1, h2⟩ := (take_num l 1).1 _ _ e1
      split at h
      · rename_i hn
        simp only [rk, h1, h2, if_pos hn]
      · cases h
theorem sim_text : Sim rk.text pText := by
  refine ⟨fun l x a r h => ?_, fun l x h => ?_, fun x => rfl⟩
  · obtain ⟨n, r1, e1, e2⟩ := Ps.bind_some h
    obtain ⟨h1, h2⟩ := (take_num l 4).1 _ _ e1
    unfold pBytes at e2
    split at e2
    · rename_i hn
      obtain ⟨rfl, rfl⟩ : (⟨(r1.take n).toArray⟩ : ByteArray) = a ∧ r1.drop n = r := by simpa using e2
      simp only [rk, h1, h2, rkTake_yes _ _ hn]
    · cases e2
  · rcases bind_none h with h | ⟨n, r, e1, h⟩
    · simp only [rk, (take_num l 4).2 h, rkTake_bad]
    · obtain ⟨h1, h2⟩ := (take_num l 4).1 _ _ e1
      unfold pBytes at h
      split at h
      · cases h
      · rename_i hn
        simp only [rk, h1, h2, rkTake_no _ _ hn]
theorem pN_snoc {α : Type} (p : Ps α) (n : Nat) (l : List UInt8) : pN p (n + 1) l = (pN p n).bind (fun as1 => p.bind fun a => .ret (as1 ++ [a])) l := by
  induction n generalizing l with
  | zero =>
    unfold pN Ps.bind
    simp only [pN, Ps.ret]
    cases p l <;> rfl
  | succ n ih =>
    rw [pN]
    conv => rhs; rw [pN]
    simp only [Ps.bind]
    cases h : p l with
    | none => rfl
    | some q =>
      obtain ⟨a, r⟩ := q
      simp only [ih, Ps.bind, Ps.ret]
      cases h2 : pN p n r with
      | none => rfl
      | some q2 =>
        obtain ⟨as1, r2⟩ := q2
        simp only
        cases h3 : p r2 with
        | none => rfl
        | some q3 => rfl
theorem sim_run {α : Type} {f : Option (List UInt8) → α → Option (List UInt8) × α} {p : Ps α} (h : Sim f p) (z : α) (l : List UInt8) (x : List α) : ∀ n, (∀ as1 r, pN p n l = some (as1, r) → runE f z (some l) x n = (some r, as1)) ∧ (pN p n l = none → (runE f z (some l) x n).1 = none)
  | 0 => ⟨fun as1 r e => by obtain ⟨rfl, rfl⟩ : [] = as1 ∧ l = r := by simpa [pN, Ps.ret] using e
                            rfl, fun e => by cases e⟩
  | n + 1 => by
    obtain ⟨h1, h2⟩ := sim_run h z l x n
    rw [pN_snoc]
    refine ⟨fun as1 r e => ?_, fun e => ?_⟩
    · obtain ⟨bs, r1, e1, e2⟩ := Ps.bind_some e
      obtain ⟨a, r2, e3, e4⟩ := Ps.bind_some e2
      obtain ⟨rfl, rfl⟩ : bs ++ [a] = as1 ∧ r2 = r := by simpa [Ps.ret] using e4
      rw [runE, h1 _ _ e1, h.ok _ _ _ _ e3]
    · rcases bind_none e with e | ⟨bs, r1, e1, e⟩
      · rw [runE]
        have := h2 e
        generalize runE f z (some l) x n = q at this
        obtain ⟨q1, q2⟩ := q
        subst this
        exact h.bad _
      · rcases bind_none e with e | ⟨a, r2, _, e⟩
        · rw [runE, h1 _ _ e1]
          exact h.no _ _ e
        · cases e
theorem run_bad {α : Type} {f : Option (List UInt8) → α → Option (List UInt8) × α} (h : ∀ x, (f none x).1 = none) (z : α) (x : List α) : ∀ n, (runE f z none x n).1 = none
  | 0 => rfl
  | n + 1 => by
    have := run_bad h z x n
    rw [runE]
    generalize runE f z none x n = q at this
    obtain ⟨q1, q2⟩ := q
    subst this
    exact h _
theorem eats_n {α : Type} {p : Ps α} {m : Nat} (h : Eats m p) : ∀ n, Eats (n * m) (pN p n)
  | 0 => fun l a r e => by obtain ⟨rfl, rfl⟩ : [] = a ∧ l = r := by simpa [pN, Ps.ret] using e
                           omega
  | n + 1 => fun l a r e => by
    obtain ⟨b, r1, e1, e2⟩ := Ps.bind_some e
    obtain ⟨bs, r2, e3, e4⟩ := Ps.bind_some e2
    obtain ⟨rfl, rfl⟩ : b :: bs = a ∧ r2 = r := by simpa [Ps.ret] using e4
    have h1 := h _ _ _ e1
    have h2 := eats_n h n _ _ _ e3
    rw [Nat.add_mul]
    omega
theorem eats_num (k : Nat) : Eats k (pNum k) := fun l a r e => by
  unfold pNum at e
  split at e
  · obtain ⟨_, rfl⟩ : num (l.take k) = a ∧ l.drop k = r := by simpa using e
    rw [List.length_drop]; omega
  · cases e
theorem Eats.bind {α β : Type} {p : Ps α} {f : α → Ps β} {m n : Nat} (h : Eats m p) (hf : ∀ a, Eats n (f a)) : Eats (m + n) (p.bind f) := fun l b r e => by
  obtain ⟨a, r1, e1, e2⟩ := Ps.bind_some e
  have h1 := h _ _ _ e1
  have h2 := hf _ _ _ _ e2
  omega
theorem eats_ret {α : Type} (a : α) : Eats 0 (Ps.ret a) := fun l b r e => by
  obtain ⟨rfl, rfl⟩ : a = b ∧ l = r := by simpa [Ps.ret] using e
  omega
theorem Eats.mono {α : Type} {p : Ps α} {m n : Nat} (h : Eats m p) (hn : n ≤ m) : Eats n p := fun l a r e => by
  have := h _ _ _ e
  omega
theorem eats_zero {α : Type} {p : Ps α} {m : Nat} (h : Eats m p) : Eats 0 p := h.mono (by omega)
theorem eats_int : Eats 8 pInt := (eats_num 8).bind fun _ => eats_ret _
theorem eats_bytes (n : Nat) : Eats n (pBytes n) := fun l a r e => by
  unfold pBytes at e
  split at e
  · obtain ⟨_, rfl⟩ : (⟨(l.take n).toArray⟩ : ByteArray) = a ∧ l.drop n = r := by simpa using e
    rw [List.length_drop]; omega
  · cases e
theorem eats_text : Eats 4 pText := (eats_num 4).bind (n := 0) fun n => (eats_bytes n).mono (by omega)
theorem eats_list {α : Type} {p : Ps α} {m : Nat} (h : Eats m p) : Eats 4 (pList p) := (eats_num 4).bind (n := 0) fun n => (eats_n h n).mono (by omega)
theorem sim_slice {α : Type} {f : Option (List UInt8) → α → Option (List UInt8) × α} {p : Ps α} (h : Sim f p) {m : Nat} (hm : Eats m p) (h4 : 4 ≤ m) (z : α) : Sim (rk.slice f z) (pList p) := by
  refine ⟨fun l x as1 r e => ?_, fun l x e => ?_, fun x => ?_⟩
  · obtain ⟨n, r1, e1, e2⟩ := Ps.bind_some e
    obtain ⟨h1, h2⟩ := (take_num l 4).1 _ _ e1
    have he := eats_n hm n _ _ _ e2
    have hn : n ≤ r1.length / 4 := by
      have : n * 4 ≤ n * m := Nat.mul_le_mul_left _ h4
      omega
    have hc : rk.count (some l) x.length = (some r1, n) := by
      simp only [rk, rkCount, h1, h2, if_pos hn]
    unfold Wk.slice
    rw [hc]
    exact (sim_run h z r1 x n).1 _ _ e2
  · unfold Wk.slice
    rcases bind_none e with e | ⟨n, r1, e1, e2⟩
    · have hc : rk.count (some l) x.length = (none, 0) := by
        simp only [rk, rkCount, (take_num l 4).2 e]
      rw [hc]; rfl
    · obtain ⟨h1, h2⟩ := (take_num l 4).1 _ _ e1
      by_cases hn : n ≤ r1.length / 4
      · have hc : rk.count (some l) x.length = (some r1, n) := by
          simp only [rk, rkCount, h1, h2, if_pos hn]
        rw [hc]
        exact (sim_run h z r1 x n).2 e2
      · have hc : rk.count (some l) x.length = (none, 0) := by
          simp only [rk, rkCount, h1, h2, if_neg hn]
        rw [hc]; rfl
  · exact run_bad h.bad _ _ _
/-- One field more. -/
theorem Sim.step {α β γ : Type} {f : Option (List UInt8) → α → Option (List UInt8) × α} {p : Ps α} (h : Sim f p) (g : α → Option (List UInt8) → Option (List UInt8) × γ) (q : α → Ps γ) (x : β) (xa : α)
    (ok : ∀ a l c r, q a l = some (c, r) → g a (some l) = (some r, c)) (no : ∀ a l, q a l = none → (g a (some l)).1 = none) (bad : ∀ a, (g a none).1 = none) :
    (∀ l c r, p.bind q l = some (c, r) → g (f (some l) xa).2 (f (some l) xa).1 = (some r, c)) ∧ (∀ l, p.bind q l = none → (g (f (some l) xa).2 (f (some l) xa).1).1 = none) ∧ (g (f none xa).2 (f none xa).1).1 = none := by
  refine ⟨fun l c r e => ?_, fun l e => ?_, ?_⟩
  · obtain ⟨a, r1, e1, e2⟩ := Ps.bind_some e
    rw [h.ok _ _ _ _ e1]
    exact ok _ _ _ _ e2
  · rcases bind_none e with e | ⟨a, r1, e1, e2⟩
    · rw [h.no _ _ e]; exact bad _
    · rw [h.ok _ _ _ _ e1]; exact no _ _ e2
  · rw [h.bad]; exact bad _
/-- The walk of a value of fields, as what is left of it. -/
structure SimG {γ : Type} (g : Option (List UInt8) → Option (List UInt8) × γ) (q : Ps γ) : Prop where
  ok : ∀ l c r, q l = some (c, r) → g (some l) = (some r, c)
  no : ∀ l, q l = none → (g (some l)).1 = none
  bad : (g none).1 = none
theorem SimG.ret {γ : Type} (c : γ) : SimG (fun s => (s, c)) (Ps.ret c) :=
  ⟨fun l c' r e => by obtain ⟨rfl, rfl⟩ : c = c' ∧ l = r := by simpa [Ps.ret] using e
                      rfl, fun l e => (by cases e), rfl⟩
theorem SimG.bind {α γ : Type} {f : Option (List UInt8) → α → Option (List UInt8) × α} {p : Ps α} (h : Sim f p) (x : α) {g : α → Option (List UInt8) → Option (List UInt8) × γ} {q : α → Ps γ} (hg : ∀ a, SimG (g a) (q a)) :
    SimG (fun s => g (f s x).2 (f s x).1) (p.bind q) := by
  refine ⟨fun l c r e => ?_, fun l e => ?_, ?_⟩
  · obtain ⟨a, r1, e1, e2⟩ := Ps.bind_some e
    simp only [h.ok _ _ _ _ e1]
    exact (hg _).ok _ _ _ e2
  · rcases bind_none e with e | ⟨a, r1, e1, e2⟩
    · simp only [h.no _ _ e]; exact (hg _).bad
    · simp only [h.ok _ _ _ _ e1]; exact (hg _).no _ e2
  · simp only [h.bad]; exact (hg _).bad
theorem Sim.of {α : Type} {f : Option (List UInt8) → α → Option (List UInt8) × α} {p : Ps α} (h : ∀ x, SimG (fun s => f s x) p) : Sim f p :=
  ⟨fun l x a r e => (h x).ok l a r e, fun l x e => (h x).no l e, fun x => (h x).bad⟩
theorem sim_pla : Sim rk.place pPla := .of fun x => .bind sim_int x.f fun f => .bind sim_int x.a fun a => .bind sim_int x.b fun b => .bind sim_int x.c fun c => .ret (⟨f, a, b, c⟩ : Pla)
theorem sim_rd : Sim rk.reading pRd := .of fun x => .bind sim_int x.1 fun f => .bind sim_int x.2 fun a => .ret (f, a)
theorem eats_rd : Eats 16 pRd := eats_int.bind (n := 8) fun _ => eats_int.bind (n := 0) fun _ => eats_ret _
theorem sim_rds : Sim (rk.slice rk.reading (0, 0)) (pList pRd) := sim_slice sim_rd eats_rd (by omega) _
theorem sim_nums : Sim rk.nums (pList pInt) := sim_slice sim_int eats_int (by omega) _
theorem sim_texts : Sim (rk.slice rk.text ⟨#[]⟩) (pList pText) := sim_slice sim_text eats_text (by omega) _
theorem sim_rep : Sim rk.rep pRep := .of fun x => .bind sim_int x.kind fun a => .bind sim_text x.name fun b => .bind sim_int x.time fun c => .bind sim_pla x.pl fun d => .bind sim_rds x.rds fun e => .ret (⟨a, b, c, d, e⟩ : Rep)
theorem eats_pla : Eats 32 pPla := eats_int.bind (n := 24) fun _ => eats_int.bind (n := 16) fun _ => eats_int.bind (n := 8) fun _ => eats_int.bind (n := 0) fun _ => eats_ret _
theorem eats_rep : Eats 56 pRep := eats_int.bind (n := 48) fun _ => eats_text.bind (n := 44) fun _ => eats_int.bind (n := 36) fun _ => eats_pla.bind (n := 4) fun _ => (eats_list eats_rd).bind (n := 0) fun _ => eats_ret _
theorem eats_cnt : Eats 20 pCnt := eats_text.bind (n := 16) fun _ => eats_int.bind (n := 8) fun _ => eats_int.bind (n := 0) fun _ => eats_ret _
theorem sim_reps : Sim (rk.slice rk.rep .zero) (pList pRep) := sim_slice sim_rep eats_rep (by omega) _
theorem sim_cnt : Sim rk.cnt pCnt := .of fun x => .bind sim_text x.name fun a => .bind sim_int x.total fun b => .bind sim_int x.rej fun c => .ret (⟨a, b, c⟩ : Cnt)
theorem sim_cnts : Sim rk.cnts (pList pCnt) := sim_slice sim_cnt eats_cnt (by omega) _
theorem sim_cycles : Sim (rk.slice rk.cnts []) (pList (pList pCnt)) := sim_slice sim_cnts (eats_list eats_cnt) (by omega) _
theorem sim_ana : Sim rk.ana pAna := .of fun x => .bind sim_nums x.bg fun a => .bind sim_nums x.inc fun b => .bind sim_nums x.field fun c => .bind sim_int x.hi fun d => .bind sim_word x.lo fun e => .bind sim_int x.anchor fun f => .bind sim_int x.radius fun g => .bind sim_int x.rounds fun h => .ret (⟨a, b, c, d, e, f, g, h⟩ : Ana)
theorem sim_cyc : Sim rk.cyc pCyc := .of fun x => .bind sim_int x.number fun a => .bind sim_int x.time fun b => .bind sim_int x.cutoff fun c => .bind sim_reps x.reps fun d => .bind sim_ana x.ana fun e => .bind sim_int x.freq fun f => .bind sim_nums x.depth fun g => .bind sim_nums x.flow fun h => .bind sim_cycles x.cycles fun i => .bind sim_texts x.listed fun j => .ret (⟨a, b, c, d, e, f, g, h, i, j⟩ : Cyc)
/-- The walk over a zero entry of a kind parses it. -/
theorem rk_ent (k : Int) : (∀ s, rk.ent s { Ent.zero with kind := k } = none ↔ ¬ (1 ≤ k ∧ k ≤ 4)) ∧
    (∀ l q, rk.ent (some l) { Ent.zero with kind := k } = some q → (∀ x r, pEnt k l = some (x, r) → q = (some r, x)) ∧ (pEnt k l = none → q.1 = none)) := by
  by_cases h1 : k = 1
  · subst h1
    have hs : SimG (fun s => ((rk.int s 0).1, ({ Ent.zero with kind := 1, now := (rk.int s 0).2 } : Ent))) (pEnt 1) := .bind sim_int 0 fun a => .ret ({ Ent.zero with kind := 1, now := a } : Ent)
    exact ⟨fun s => ⟨fun h => (by cases h), fun h => absurd (by omega) h⟩, fun l q h => by
      obtain rfl : _ = q := Option.some.inj h
      exact ⟨fun x r e => hs.ok _ _ _ e, fun e => hs.no _ e⟩⟩
  by_cases h2 : k = 2
  · subst h2
    have hs : SimG (fun s => ((rk.int (rk.int (rk.rep s .zero).1 0).1 0).1, ({ Ent.zero with kind := 2, rep := (rk.rep s .zero).2, corr := (rk.int (rk.rep s .zero).1 0).2, arr := (rk.int (rk.int (rk.rep s .zero).1 0).1 0).2 } : Ent))) (pEnt 2) :=
      .bind sim_rep .zero fun a => .bind sim_int 0 fun b => .bind sim_int 0 fun c => .ret ({ Ent.zero with kind := 2, rep := a, corr := b, arr := c } : Ent)
    exact ⟨fun s => ⟨fun h => (by cases h), fun h => absurd (by omega) h⟩, fun l q h => by
      obtain rfl : _ = q := Option.some.inj h
      exact ⟨fun x r e => hs.ok _ _ _ e, fun e => hs.no _ e⟩⟩
  by_cases h3 : k = 3
  · subst h3
    have hs : SimG (fun s =>
        let a := rk.int s 0
        let b := rk.text a.1 ⟨#[]⟩
        let c := rk.int b.1 0
        let d := rk.bool c.1 false
        let e := rk.place d.1 .zero
        let f := rk.slice rk.reading (0, 0) e.1 []
        (f.1, ({ Ent.zero with kind := 3, st := a.2, name := b.2, from_ := c.2, closed := d.2, pl := e.2, bias := f.2 } : Ent))) (pEnt 3) :=
      .bind sim_int 0 fun a => .bind sim_text ⟨#[]⟩ fun b => .bind sim_int 0 fun c => .bind sim_bool false fun d => .bind sim_pla .zero fun e => .bind sim_rds [] fun f => .ret ({ Ent.zero with kind := 3, st := a, name := b, from_ := c, closed := d, pl := e, bias := f } : Ent)
    exact ⟨fun s => ⟨fun h => (by cases h), fun h => absurd (by omega) h⟩, fun l q h => by
      obtain rfl : _ = q := Option.some.inj h
      exact ⟨fun x r e => hs.ok _ _ _ e, fun e => hs.no _ e⟩⟩
  by_cases h4 : k = 4
  · subst h4
    have hs : SimG (fun s => ((rk.cyc s .zero).1, ({ Ent.zero with kind := 4, cyc := (rk.cyc s .zero).2 } : Ent))) (pEnt 4) := .bind sim_cyc .zero fun a => .ret ({ Ent.zero with kind := 4, cyc := a } : Ent)
    exact ⟨fun s => ⟨fun h => (by cases h), fun h => absurd (by omega) h⟩, fun l q h => by
      obtain rfl : _ = q := Option.some.inj h
      exact ⟨fun x r e => hs.ok _ _ _ e, fun e => hs.no _ e⟩⟩
  have hn : ∀ s, rk.ent s { Ent.zero with kind := k } = none := fun s => by
    unfold Wk.ent
    rw [if_neg h1, if_neg h2, if_neg h3, if_neg h4]
  exact ⟨fun s => ⟨fun _ => by omega, fun _ => hn s⟩, fun l q h => by rw [hn] at h; cases h⟩
end Go.Proofs.YtpknalpdcfjffaaGreat
/- A value of many cells in a block of its own: kept, changed at one place, loaded and stored whole. No walk. -/
namespace Go.Proofs.YtpknalpdcfjffaaGreat
open Go Go.RowKit

/-- Block b holds these cells, and they may be written. -/
def RowAt (w : World) (b : Nat) (cs : List Value) : Prop := 0 < cs.length ∧ (∀ i, i < cs.length → w.cell? ⟨b, i, none⟩ = cs[i]?) ∧ ∀ i, i < cs.length → w.frozen? ⟨b, i, none⟩ = false
theorem RowAt.lt {w : World} {b : Nat} {cs : List Value} (h : RowAt w b cs) : b < w.heap.size := by
  have h0 := h.2.1 0 h.1
  rw [List.getElem?_eq_getElem h.1] at h0
  exact World.block_lt_of_cell? (a := ⟨b, 0, none⟩) _ h0
theorem RowAt.of_block {w w' : World} {b : Nat} {cs : List Value} (h : RowAt w b cs) (hb : w'.heap[b]? = w.heap[b]?) : RowAt w' b cs := by
  refine ⟨h.1, fun i hi => ?_, fun i hi => ?_⟩
  · rw [World.cell?_of_block (w := w) hb]; exact h.2.1 i hi
  · rw [World.frozen?_of_block (w := w) hb]; exact h.2.2 i hi
theorem RowAt.below {w w' : World} {b : Nat} {cs : List Value} (h : RowAt w b cs) (hb : Below w.heap.size w w') : RowAt w' b cs := h.of_block (hb.block _ h.lt)
theorem RowAt.but {w w' : World} {b p : Nat} {cs : List Value} (h : RowAt w b cs) (hb : But w.heap.size p w w') (hn : b ≠ p) : RowAt w' b cs := h.of_block (hb.block _ h.lt hn)
theorem RowAt.drew {w : World} {b : Nat} {cs : List Value} (h : RowAt w b cs) : RowAt w.drew b cs := h.of_block rfl
theorem RowAt.alloc {w : World} {b : Nat} {cs : List Value} (h : RowAt w b cs) (o : Obj) : RowAt (w.alloc o) b cs := h.of_block (Below.heap_alloc _ _ _ h.lt)
theorem RowAt.other {w : World} {b : Nat} {cs : List Value} (h : RowAt w b cs) {p : Addr} (hp : p.block ≠ b) (u : Value) : RowAt (w.setCell p u) b cs := h.of_block (Below.heap_setCell _ _ _ _ (by omega))
theorem RowAt.set {w : World} {b : Nat} {cs : List Value} (h : RowAt w b cs) (j : Nat) (hj : j < cs.length) (u : Value) : RowAt (w.setCell ⟨b, j, none⟩ u) b (cs.set j u) := by
  refine ⟨by rw [List.length_set]; exact h.1, fun i hi => ?_, fun i hi => ?_⟩
  · rw [List.length_set] at hi
    by_cases hij : i = j
    · subst hij
      have h0 := h.2.1 i hi
      rw [List.getElem?_eq_getElem hi] at h0
      rw [World.cell?_setCell_same _ _ _ h0, List.getElem?_set_self hi]
    · rw [World.cell?_setCell_other _ _ _ _ (by simp <;> omega), h.2.1 i hi, List.getElem?_set_ne (by omega)]
  · rw [List.length_set] at hi
    rw [← h.2.2 i hi]; simp
theorem RowAt.new (w : World) (cs : List Value) (hl : 0 < cs.length) (t : TypeId) {H : Nat} (hH : w.heap.size = H) : RowAt (w.alloc (.cells cs.toArray t)) H cs := by
  subst hH
  refine ⟨hl, fun i hi => ?_, fun i hi => ?_⟩
  · simp
  · simp
theorem RowAt.at {w : World} {b : Nat} {cs : List Value} (h : RowAt w b cs) (i : Nat) {v : Value} (hv : cs[i]? = some v) : w.cell? ⟨b, i, none⟩ = some v := by
  rw [h.2.1 i (List.getElem?_eq_some_iff.1 hv).1]; exact hv
theorem RowAt.range {w : World} {b : Nat} {cs : List Value} (h : RowAt w b cs) : w.rangeAt b 0 cs := fun j v hj => by
  rw [Nat.zero_add, h.2.1 j (List.getElem?_eq_some_iff.1 hj).1]; exact hj
theorem RowAt.there {w : World} {b : Nat} {cs : List Value} (h : RowAt w b cs) {n : Nat} (hn : n ≤ cs.length) : w.there b 0 n := fun j hj => by
  refine ⟨?_, ?_⟩
  · rw [Nat.zero_add, h.2.1 j (by omega), List.getElem?_eq_getElem (by omega)]; rfl
  · rw [Nat.zero_add]; exact h.2.2 j (by omega)
/-- What a type must be to be loaded and stored whole. -/
def RowT (t : TypeId) (n : Nat) : Prop := (Tryz.prog.info? t).map (·.size) = some n ∧ ∃ d, Tryz.prog.underlying t = some d ∧ d.isRow = true
theorem RowAt.loadVar {w : World} {b : Nat} {cs : List Value} (h : RowAt w b cs) {t : TypeId} (ht : RowT t cs.length) : (loadVar t ⟨b, 0, none⟩).run Tryz.prog w = .ok (.agg cs.toArray) w := by
  obtain ⟨h0, d, h1, h2⟩ := ht
  exact run_loadVar_mid w b 0 _ cs d h.range h1 h2 h0
theorem row_load {ops : Array Oper} {rest : List Oper} {op : Oper} {a : Act} {w : World} {Q : Exit → Act → World → Prop} {t : TypeId} (hgd : op.guard = none) (x : Operand) (ho : op.op = .load t x)
    (b : Nat) (hx : a.eval x = .pointer (some ⟨b, 0, none⟩)) (cs : List Value) (h : RowAt w b cs) (ht : RowT t cs.length)
    (k : wpList Tryz.prog ops Q rest (a.put op.dst (.agg cs.toArray)) w) : wpList Tryz.prog ops Q (op :: rest) a w := by
  obtain ⟨h0, d, h1, h2⟩ := ht
  exact wpList_load_mid hgd _ x ho b 0 hx cs d h.range h1 h2 h0 k
/-- The blocks but for block b hold what they held. -/
def ApartR (b : Nat) (w w' : World) : Prop := w'.os = w.os ∧ w'.tape = w.tape ∧ w'.output = w.output ∧ w'.heap.size = w.heap.size ∧ ∀ k, k ≠ b → w'.heap[k]? = w.heap[k]?
theorem apartR_setCells (b : Nat) : ∀ (vs : List Value) (o : Nat) (w : World), ApartR b w (w.setCells b o vs)
  | [], _, _ => ⟨rfl, rfl, rfl, rfl, fun _ _ => rfl⟩
  | v :: r, o, w => by
    obtain ⟨h1, h2, h3, h4, h5⟩ := apartR_setCells b r (o + 1) (w.setCell ⟨b, o, none⟩ v)
    refine ⟨h1, h2, h3, by rw [World.setCells, h4]; simp [World.setCell], fun k hk => ?_⟩
    rw [World.setCells, h5 k hk]
    exact Below.heap_setCell _ _ _ _ (fun e => hk e)
theorem ApartR.below {B b : Nat} {w w' : World} (h : ApartR b w w') (hb : B ≤ b) : Below B w w' := ⟨h.1, h.2.1, h.2.2.1, Nat.le_of_eq h.2.2.2.1.symm, fun k hk => h.2.2.2.2 k (by omega)⟩
theorem RowAt.apart {w w' : World} {b p : Nat} {cs : List Value} (h : RowAt w b cs) (ha : ApartR p w w') (hn : b ≠ p) : RowAt w' b cs := h.of_block (ha.2.2.2.2 b hn)
theorem row_store {ops : Array Oper} {rest : List Oper} {op : Oper} {a : Act} {w : World} {Q : Exit → Act → World → Prop} {t : TypeId} (hgd : op.guard = none) (x y : Operand) (ho : op.op = .store t x y)
    (b : Nat) (hx : a.eval x = .pointer (some ⟨b, 0, none⟩)) (cs cs' : List Value) (hy : a.eval y = .agg cs'.toArray) (h : RowAt w b cs) (hl : cs'.length = cs.length) (ht : RowT t cs.length) (h1 : ∀ v ∈ cs', v.oneCell' = true)
    (k : ∀ w', RowAt w' b cs' → ApartR b w w' → wpList Tryz.prog ops Q rest (a.put op.dst undef) w') : wpList Tryz.prog ops Q (op :: rest) a w := by
  have ht' : w.there b 0 cs'.toArray.size := by rw [List.size_toArray]; exact h.there (by omega)
  refine wpList_store_mid hgd _ x y ho b 0 cs'.toArray hx hy ht' (by rw [ht.1, List.size_toArray, hl]) (all_oneCell_toArray h1) (k _ ?_ (apartR_setCells _ _ _ _))
  have hth : w.there b 0 cs'.length := h.there (by omega)
  refine ⟨by rw [hl]; exact h.1, fun i hi => ?_, fun i hi => ?_⟩
  · have := w.rangeAt_setCells_same b 0 cs' hth i _ (List.getElem?_eq_getElem hi)
    rw [Nat.zero_add] at this
    rw [List.getElem?_eq_getElem hi]
    exact this
  · rw [World.frozen?_setCells]; exact h.2.2 i (by omega)
/-- The end of a function that returns one such value. -/
theorem ret_row {fn : Func} {R : Ending → World → Prop} {a : Act} {w : World} {i : Nat} {t : TypeId} (hfn : fn.results = #[.cell i t]) (b : Nat) (cs : List Value) (h : RowAt w b cs) (ht : RowT t cs.length) (hp : a.tmps.getD i undef = .pointer (some ⟨b, 0, none⟩)) (hd : a.defers = [])
    (hR : R (.returned (.agg cs.toArray)) w) : bodyPost Tryz.prog fn R .ret a w := by
  refine bodyPost_ret ?_ hd hR
  have hl := h.loadVar ht
  unfold results
  rw [hfn]
  simp [hp, asAddr, hl, -Array.getD_eq_getD_getElem?]
/-- The end of a function that returns such a value and another one. -/
theorem ret_row2 {fn : Func} {R : Ending → World → Prop} {a : Act} {w : World} {i j : Nat} {t : TypeId} (hfn : fn.results = #[.cell i t, .tmp j]) (b : Nat) (cs : List Value) (q : Value) (h : RowAt w b cs) (ht : RowT t cs.length) (hp : a.tmps.getD i undef = .pointer (some ⟨b, 0, none⟩)) (hq : a.tmps.getD j undef = q) (hd : a.defers = [])
    (hR : R (.returned (.tuple #[.agg cs.toArray, q])) w) : bodyPost Tryz.prog fn R .ret a w := by
  refine bodyPost_ret ?_ hd hR
  have hl := h.loadVar ht
  unfold results
  rw [hfn]
  simp [hp, hq, asAddr, hl, -Array.getD_eq_getD_getElem?]
end Go.Proofs.YtpknalpdcfjffaaGreat
/- A value of many cells, loaded and stored whole in a region that draws. No walk. -/
namespace Go.Proofs.YtpknalpdcfjffaaGreat
open Go Go.RowKit

theorem hop_row_load {ops : Array Oper} {Q : Exit → Act → World → Prop} {o : Oper} {a : Act} {w : World} {K : Act → World → Prop} (hg : o.guard = none) {t : TypeId} (x : Operand) (ho : o.op = .load t x)
    (b : Nat) (hx : a.eval x = .pointer (some ⟨b, 0, none⟩)) (cs : List Value) (h : RowAt w b cs) (ht : RowT t cs.length) (k : K (a.put o.dst (.agg cs.toArray)) w) :
    if Region.wanted o (yielded ops a.tmps) = true then Oper.wp Tryz.prog o a w K Q else K (a.put o.dst undef) w := by
  obtain ⟨h0, d, h1, h2⟩ := ht
  refine hop_val hg (.agg cs.toArray) (w' := w) ?_ k
  unfold execOp
  simp only [ho, hx, Sem.run_bind, run_loadAt_mid w b 0 t cs d h.range h1 h2 h0, Result.andThen_ok, Sem.run_pure]
theorem hop_row_store {ops : Array Oper} {Q : Exit → Act → World → Prop} {o : Oper} {a : Act} {w : World} {K : Act → World → Prop} (hg : o.guard = none) {t : TypeId} (x y : Operand) (ho : o.op = .store t x y)
    (b : Nat) (hx : a.eval x = .pointer (some ⟨b, 0, none⟩)) (cs cs' : List Value) (hy : a.eval y = .agg cs'.toArray) (h : RowAt w b cs) (hl : cs'.length = cs.length) (ht : RowT t cs.length) (h1 : ∀ v ∈ cs', v.oneCell' = true)
    (k : ∀ w', RowAt w' b cs' → ApartR b w w' → K (a.put o.dst undef) w') :
    if Region.wanted o (yielded ops a.tmps) = true then Oper.wp Tryz.prog o a w K Q else K (a.put o.dst undef) w := by
  have hth : w.there b 0 cs'.length := h.there (by omega)
  have hrun := run_storeAt_mid (P := Tryz.prog) w b 0 t cs'.toArray (by rw [List.size_toArray]; exact hth) (by rw [ht.1, List.size_toArray, hl]) (all_oneCell_toArray h1)
  refine hop_none hg (w' := w.setCells b 0 cs') ?_ (k _ ?_ (apartR_setCells _ _ _ _))
  · unfold execOp
    simp only [ho, hx, hy, Sem.run_bind, hrun, Result.andThen_ok, Sem.run_pure]
  · refine ⟨by rw [hl]; exact h.1, fun i hi => ?_, fun i hi => ?_⟩
    · have := w.rangeAt_setCells_same b 0 cs' hth i _ (List.getElem?_eq_getElem hi)
      rw [Nat.zero_add] at this
      rw [List.getElem?_eq_getElem hi]
      exact this
    · rw [World.frozen?_setCells]; exact h.2.2 i (by omega)
end Go.Proofs.YtpknalpdcfjffaaGreat
/- A region that draws its order, walked in one order: what yields its value in every world that meets S is taken as soon as it may come up; each other operation comes up alone. The order is looked at once, for the whole region. No program. -/
namespace Go.Proofs.YtpknalpdcfjffaaGreat
open Go Go.RowKit

section
variable {P : Program} {ops : Array Oper} {Q : Exit → Act → World → Prop} {S : World → Prop}
/-- The operations one after the other; true marks those that only yield a value. -/
def wpSeq (P : Program) (ops : Array Oper) (Q : Exit → Act → World → Prop) (S : World → Prop) : List (Nat × Bool) → Act → World → Prop
  | [], a, w => Q .normal a w
  | (i, q) :: r, a, w => ∃ o, ops[i]? = some o ∧ if q = true then ∃ v, YieldsIf P ops S o v a ∧ wpSeq P ops Q S r (a.put o.dst v) w
    else if Region.wanted o (yielded ops a.tmps) = true then Oper.wp P o a w (fun a' w' => S w' ∧ wpSeq P ops Q S r a' w') Q else wpSeq P ops Q S r (a.put o.dst undef) w
def schedB (ops : Array Oper) : List (Nat × Bool) → Array Bool → Bool
  | [], listed => (Region.ready .any ops listed).isEmpty
  | (i, true) :: r, listed => Region.free .any ops listed i && (Region.ready .any ops listed).contains i && schedB ops r (listed.setIfInBounds i true)
  | (i, false) :: r, listed => (Region.ready .any ops listed == [i]) && schedB ops r (listed.setIfInBounds i true)
theorem wpSeq_sound (hn : Region.noSelect ops = true) (hQ : ∀ c a d v w, Q (.panic c) (Act.put a d v) w → Q (.panic c) a w) : ∀ (l : List (Nat × Bool)) (listed : Array Bool) (a : Act) (w : World), schedB ops l listed = true → S w → wpSeq P ops Q S l a w → wpAnyH P .any ops Q S l.length listed a w
  | [], listed, a, w, hb, _, h => ⟨by simpa [schedB] using hb, h⟩
  | (i, true) :: r, listed, a, w, hb, hS, ⟨o, ho, h⟩ => by
    rw [if_pos rfl] at h
    obtain ⟨v, hy, h⟩ := h
    simp only [schedB, Bool.and_eq_true] at hb
    exact wpAnyH_take ho hn hb.1.1 hb.1.2 (fun c a w => hQ c a _ _ w) hy hS (wpSeq_sound hn hQ r _ _ _ hb.2 hS h)
  | (i, false) :: r, listed, a, w, hb, hS, ⟨o, ho, h⟩ => by
    rw [if_neg (by decide)] at h
    simp only [schedB, Bool.and_eq_true, beq_iff_eq] at hb
    refine wpAnyH_ready hb.1 (by simp) fun j hj => ?_
    obtain rfl : j = i := by simpa using hj
    unfold wpOp
    rw [ho]
    simp only
    split
    · rename_i hw
      rw [if_pos hw] at h
      exact Or.inl (Oper.wp_mono (fun a' w' h' => ⟨h'.1, wpSeq_sound hn hQ r _ _ _ hb.2 h'.1 h'.2⟩) h)
    · rename_i hw
      rw [if_neg hw] at h
      exact ⟨hS, wpSeq_sound hn hQ r _ _ _ hb.2 hS h⟩
theorem wp_region_seq {id : Nat} {a : Act} {w : World} (hm : P.follows .mixedOrders = true) (S : World → Prop) (l : List (Nat × Bool)) (hb : (Region.noSelect ops && (l.length == ops.size) && schedB ops l (Array.replicate ops.size false)) = true)
    (hS : S w.drew) (h : wpSeq P ops (NoPanic Q) S l a w.drew) : (Code.region id ops true).wp P Q a w := by
  simp only [Bool.and_eq_true, beq_iff_eq] at hb
  refine wp_region_noPanic (wp_region_held (S := S) hm ?_)
  have h1 := wpSeq_sound hb.1.1 (fun _ _ _ _ _ h => h) l _ a _ hb.2 hS h
  rw [hb.1.2] at h1
  exact h1
variable {r : List (Nat × Bool)} {i : Nat} {o : Oper} {d : Option Tmp} {a : Act} {w : World}
theorem seq_end (h : Q .normal a w) : wpSeq P ops (NoPanic Q) S [] a w := h
theorem run_makeFunc {fn : Fn} (x : Operand) (hop : o.op = .makeFunc fn #[x] #[]) (v : Value) (hx : a.eval x = v) (w : World) : (execOp a.eval o).run P w = .ok (.value (.func fn #[v] #[])) w := by
  subst hx
  unfold execOp
  simp [hop, Instr.makeFunc]
/-- An operation that yields a value in every world that meets S. -/
theorem seq_q (ho : ops[i]? = some o) (hd : o.dst = d) (hw : Region.wanted o (yielded ops a.tmps) = true) (v : Value) (hy : ∀ w, S w → (execOp a.eval o).run P w = .ok (.value v) w) (h : wpSeq P ops Q S r (a.put d v) w) : wpSeq P ops Q S ((i, true) :: r) a w := by
  subst hd
  exact ⟨o, ho, by rw [if_pos rfl]; exact ⟨v, Or.inl ⟨hw, hy⟩, h⟩⟩
/-- An operation whose guard is false. -/
theorem seq_off (ho : ops[i]? = some o) (hd : o.dst = d) (hw : Region.wanted o (yielded ops a.tmps) = false) (h : wpSeq P ops Q S r (a.put d undef) w) : wpSeq P ops Q S ((i, true) :: r) a w := by
  subst hd
  exact ⟨o, ho, by rw [if_pos rfl]; exact ⟨undef, Or.inr ⟨hw, rfl⟩, h⟩⟩
/-- A load of what lies there in every world that meets S. -/
theorem seq_load (ho : ops[i]? = some o) (hd : o.dst = d) (hw : Region.wanted o (yielded ops a.tmps) = true) (ty : TypeId) (x : Operand) (hop : o.op = .load ty x) (ad : Addr) (hx : a.eval x = .pointer (some ad)) (v : Value) (hy : ∀ w, S w → (loadVar ty ad).run P w = .ok v w) (h : wpSeq P ops Q S r (a.put d v) w) : wpSeq P ops Q S ((i, true) :: r) a w := by
  subst hd
  exact ⟨o, ho, by rw [if_pos rfl]; exact ⟨v, yields_load hw ty x hop ad hx hy, h⟩⟩
theorem seq_wp (ho : ops[i]? = some o) (hw : Region.wanted o (yielded ops a.tmps) = true) (h : ∀ K : Act → World → Prop, (∀ a' w', S w' → wpSeq P ops Q S r a' w' → K a' w') → Oper.wp P o a w K Q) : wpSeq P ops Q S ((i, false) :: r) a w :=
  ⟨o, ho, by rw [if_neg (by decide), if_pos hw]; exact h _ (fun _ _ hs hr => ⟨hs, hr⟩)⟩
/-- An operation that gives a value and turns the world. -/
theorem seq_run (ho : ops[i]? = some o) (hd : o.dst = d) (hw : Region.wanted o (yielded ops a.tmps) = true) (v : Value) (w' : World) (hrun : (execOp a.eval o).run P w = .ok (.value v) w') (hS : S w') (h : wpSeq P ops Q S r (a.put d v) w') : wpSeq P ops Q S ((i, false) :: r) a w := by
  subst hd
  refine seq_wp ho hw fun K hK => ?_
  unfold Oper.wp
  rw [hrun]
  exact hK _ _ hS h
/-- An operation that gives none. -/
theorem seq_skip (ho : ops[i]? = some o) (hd : o.dst = d) (hw : Region.wanted o (yielded ops a.tmps) = true) (w' : World) (hrun : (execOp a.eval o).run P w = .ok .skip w') (hS : S w') (h : wpSeq P ops Q S r (a.put d undef) w') : wpSeq P ops Q S ((i, false) :: r) a w := by
  subst hd
  refine seq_wp ho hw fun K hK => ?_
  unfold Oper.wp
  rw [hrun]
  exact hK _ _ hS h
/-- What a function must be to be called. -/
def Has (P : Program) (f : FuncId) : Prop := ∃ g, P.funcs[f]? = some g ∧ (g.name == "runtime.NumGoroutine") = false ∧ g.body.isNone = false
theorem run_callFunc {f : FuncId} (hf : Has P f) (vs : Array Value) (w : World) : (callFunc f vs).run P w = .ok (.enter f vs) w := by
  obtain ⟨fn, hf, hname, hb⟩ := hf
  have h1 : fn.name ≠ "runtime.NumGoroutine" := by simpa using hname
  have h2 : ¬ fn.body = none := by intro h; rw [h] at hb; cases hb
  simp [callFunc, hf, h1, h2]
theorem run_call {f : FuncId} (hf : Has P f) (fo : Operand) (args : Array Operand) (ts : Array TypeId) (hop : o.op = .call { callee := .value fo, args := args, argTypes := ts }) (hfo : a.eval fo = .func (.func f) #[] #[]) (vs : List Value) (hv : args.toList.map a.eval = vs) :
    (execOp a.eval o).run P w = .ok (.enter f vs.toArray) w := by
  have e1 : args.map a.eval = vs.toArray := by rw [← hv]; exact (by simp [← List.map_toArray])
  unfold execOp
  simp only [hop, resolve, hfo, e1, Deferred.ofValue, Sem.run_bind, Sem.run_pure, Result.andThen_ok, invoke]
  simp [run_callFunc hf]
/-- A call of a function that returns. -/
theorem seq_call (ho : ops[i]? = some o) (hd : o.dst = d) (hw : Region.wanted o (yielded ops a.tmps) = true) {f : FuncId} (hf : Has P f) (fo : Operand) (args : Array Operand) (ts : Array TypeId) (hop : o.op = .call { callee := .value fo, args := args, argTypes := ts }) (hfo : a.eval fo = .func (.func f) #[] #[]) (vs : List Value) (hv : args.toList.map a.eval = vs)
    {R : Ending → World → Prop} (hc : Calls P f vs.toArray w R) (h : ∀ e w', R e w' → ∃ v, e = .returned v ∧ S w' ∧ wpSeq P ops Q S r (a.put d v) w') : wpSeq P ops Q S ((i, false) :: r) a w := by
  subst hd
  refine seq_wp ho hw fun K hK => ?_
  unfold Oper.wp
  rw [run_call hf fo args ts hop hfo vs hv, Oper.upon_enter]
  refine hc.mono fun e w' hr => ?_
  obtain ⟨v, rfl, h1, h2⟩ := h e w' hr
  exact hK _ _ h1 h2
/-- What is needed of a method behind an interface value. -/
structure MethB (P : Program) (ty : TypeId) (v : Value) (name : String) (f : FuncId) (u : Value) : Prop where
  meth : ∀ w, (method (P.types.size + Made.depth) ty v name).run P w = .ok (f, u) w
  fn : Has P f
theorem run_invoke {ty : TypeId} {v u : Value} {name : String} {f : FuncId} (hm : MethB P ty v name f u) (ro : Operand) (args : Array Operand) (ts : Array TypeId) (hop : o.op = .call { callee := .invoke ro name, args := args, argTypes := ts }) (hr : a.eval ro = .iface ty v) (vs : List Value) (hv : args.toList.map a.eval = vs) :
    (execOp a.eval o).run P w = .ok (.enter f (u :: vs).toArray) w := by
  have hp : (program).run P w = .ok P w := rfl
  have e1 : args.map a.eval = vs.toArray := by rw [← hv]; exact (by simp [← List.map_toArray])
  unfold execOp
  simp only [hop, resolve, hr, e1, Sem.run_bind, Sem.run_pure, Result.andThen_ok, invoke]
  simp [callMethod, hp, hm.meth, run_callFunc hm.fn]
/-- A call through an interface. -/
theorem seq_invoke (ho : ops[i]? = some o) (hd : o.dst = d) (hw : Region.wanted o (yielded ops a.tmps) = true) {ty : TypeId} {v u : Value} {name : String} {f : FuncId} (hm : MethB P ty v name f u) (ro : Operand) (args : Array Operand) (ts : Array TypeId) (hop : o.op = .call { callee := .invoke ro name, args := args, argTypes := ts }) (hr : a.eval ro = .iface ty v) (vs : List Value) (hv : args.toList.map a.eval = vs)
    {R : Ending → World → Prop} (hc : Calls P f (u :: vs).toArray w R) (h : ∀ e w', R e w' → ∃ v, e = .returned v ∧ S w' ∧ wpSeq P ops Q S r (a.put d v) w') : wpSeq P ops Q S ((i, false) :: r) a w := by
  subst hd
  refine seq_wp ho hw fun K hK => ?_
  unfold Oper.wp
  rw [run_invoke hm ro args ts hop hr vs hv, Oper.upon_enter]
  refine hc.mono fun e w' hr => ?_
  obtain ⟨v, rfl, h1, h2⟩ := h e w' hr
  exact hK _ _ h1 h2
/-- The same in a plain list. -/
theorem wpList_invoke {rest : List Oper} (hgd : o.guard = none) {ty : TypeId} {v u : Value} {name : String} {f : FuncId} (hm : MethB P ty v name f u) (ro : Operand) (args : Array Operand) (ts : Array TypeId) (hop : o.op = .call { callee := .invoke ro name, args := args, argTypes := ts }) (hr : a.eval ro = .iface ty v) (vs : List Value) (hv : args.toList.map a.eval = vs)
    {R : Ending → World → Prop} (hc : Calls P f (u :: vs).toArray w R) (h : ∀ e w', R e w' → ∃ v, e = .returned v ∧ wpList P ops Q rest (a.put o.dst v) w') : wpList P ops Q (o :: rest) a w := by
  refine wpList_plain hgd fun K hK => ?_
  unfold Oper.wp
  rw [run_invoke hm ro args ts hop hr vs hv, Oper.upon_enter]
  refine hc.mono fun e w' hr => ?_
  obtain ⟨v, rfl, h2⟩ := h e w' hr
  exact hK _ _ h2
/-- The nil check of a method value of an interface. -/
theorem run_nilMethod {ty : TypeId} {v : Value} {name : String} (h : ∀ w, (nilAhead (P.types.size + Made.depth) ty v name).run P w = .ok (some false) w) (x : Operand) (hop : o.op = .nilCheck x) (hx : a.eval x = .func (.method name) #[.iface ty v] #[]) (w : World) :
    (execOp a.eval o).run P w = .ok (.value (.func (.method name) #[.iface ty v] #[])) w := by
  have hp : (program).run P w = .ok P w := rfl
  unfold execOp
  simp only [hop, hx]
  simp [hp, h]
end
end Go.Proofs.YtpknalpdcfjffaaGreat
/- Data of an entry in memory; a walker in memory, and what a function that walks over a value owes. No program but its types. -/
namespace Go.Proofs.YtpknalpdcfjffaaGreat
open Go Go.RowKit

/-- Of the blocks that av names those stand that hold cells, but no bytes. -/
def Keeps (av : Nat → Prop) (w w' : World) : Prop := ∀ (k : Nat) (c : Array Value) (t : TypeId) (f : Nat × Nat), w.heap[k]? = some (Obj.cells c t f) → t ≠ 5 → av k → w'.heap[k]? = w.heap[k]?
theorem Keeps.refl (av : Nat → Prop) (w : World) : Keeps av w w := fun _ _ _ _ _ _ _ => rfl
theorem Keeps.trans {av : Nat → Prop} {a b c : World} (h : Keeps av a b) (g : Keeps av b c) : Keeps av a c := fun k cs t f hk ht ha => by
  have h1 := h k cs t f hk ht ha
  rw [← h1]
  exact g k cs t f (by rw [h1]; exact hk) ht ha
theorem Keeps.mono {av av' : Nat → Prop} {w w' : World} (h : Keeps av w w') (hm : ∀ k, k < w.heap.size → av' k → av k) : Keeps av' w w' := fun k c t f hk ht ha => h k c t f hk ht (hm k (Array.getElem?_eq_some_iff.1 hk).1 ha)
theorem Keeps.of_below {av : Nat → Prop} {w w' : World} (h : Below w.heap.size w w') : Keeps av w w' := fun k _ _ _ hk _ _ => h.block k (Array.getElem?_eq_some_iff.1 hk).1
theorem Keeps.of_nb {av : Nat → Prop} {w w' : World} (h : NB w w') : Keeps av w w' := fun k c t f hk ht _ => h k c t f hk ht
def nb (b p k : Nat) : Prop := k ≠ b ∧ k ≠ p
/-- What a call of the walk leaves: below base all, above it what holds no bytes, but for the walker's block and block p. -/
structure Fr (base b p : Nat) (w w' : World) : Prop where
  below : Below base w w'
  keeps : Keeps (nb b p) w w'
theorem Fr.refl (base b p : Nat) (w : World) : Fr base b p w w := ⟨Below.refl _ _, Keeps.refl _ _⟩
theorem Fr.trans {base b p : Nat} {x y z : World} (h : Fr base b p x y) (g : Fr base b p y z) : Fr base b p x z := ⟨h.below.trans g.below, h.keeps.trans g.keeps⟩
theorem Fr.size {base b p : Nat} {w w' : World} (h : Fr base b p w w') : w.heap.size ≤ w'.heap.size := h.below.size
theorem Fr.any {base b p : Nat} {w w' : World} (h : Fr base b b w w') : Fr base b p w w' := ⟨h.below, h.keeps.mono fun _ _ hk => ⟨hk.1, hk.1⟩⟩
theorem Fr.fresh {base b p p' : Nat} {x y z : World} (h : Fr base b p x y) (g : Fr base b p' y z) (hp : x.heap.size ≤ p') : Fr base b p x z :=
  ⟨h.below.trans g.below, fun k c t f hk ht ha => by
    have h1 := h.keeps k c t f hk ht ha
    have hlt := (Array.getElem?_eq_some_iff.1 hk).1
    rw [← h1]
    exact g.keeps k c t f (by rw [h1]; exact hk) ht ⟨ha.1, by omega⟩⟩
theorem Fr.new {base b p : Nat} {w w' : World} (h : Below w.heap.size w w') (hb : base ≤ w.heap.size) : Fr base b p w w' := ⟨h.mono hb, .of_below h⟩
theorem Fr.drew {base b p : Nat} (w : World) : Fr base b p w w.drew := ⟨(Below.refl _ _).drew, fun _ _ _ _ _ _ _ => rfl⟩
theorem Fr.alloc {base b p : Nat} (w : World) (o : Obj) (hb : base ≤ w.heap.size) : Fr base b p w (w.alloc o) := .new ((Below.refl _ _).alloc (Nat.le_refl _) _) hb
theorem Fr.setCell {base b p : Nat} (w : World) (o : Nat) (u : Value) (hp : base ≤ p) : Fr base b p w (w.setCell ⟨p, o, none⟩ u) :=
  ⟨(Below.refl _ _).setCell hp _, fun _ _ _ _ _ _ ha => Below.heap_setCell _ _ _ _ (fun e => ha.2 e)⟩
/-- What a walker does not notice. -/
structure Quiet (base b : Nat) (w w' : World) : Prop where
  below : Below base w w'
  blk : w'.heap[b]? = w.heap[b]?
  bytes : ∀ (k : Nat) (c : Array Value) (f : Nat × Nat), w.heap[k]? = some (Obj.cells c 5 f) → w'.heap[k]? = w.heap[k]?
theorem Quiet.refl (base b : Nat) (w : World) : Quiet base b w w := ⟨Below.refl _ _, rfl, fun _ _ _ _ => rfl⟩
theorem Quiet.trans {base b : Nat} {x y z : World} (h : Quiet base b x y) (g : Quiet base b y z) : Quiet base b x z :=
  ⟨h.below.trans g.below, g.blk.trans h.blk, fun k c f hk => by
    have h1 := h.bytes k c f hk
    rw [← h1]
    exact g.bytes k c f (by rw [h1]; exact hk)⟩
theorem Quiet.new {base b : Nat} {w w' : World} (h : Below w.heap.size w w') (hb : base ≤ w.heap.size) (hl : b < w.heap.size) : Quiet base b w w' :=
  ⟨h.mono hb, h.block b hl, fun k _ _ hk => h.block k (Array.getElem?_eq_some_iff.1 hk).1⟩
theorem Quiet.drew {base b : Nat} (w : World) : Quiet base b w w.drew := ⟨(Below.refl _ _).drew, rfl, fun _ _ _ _ => rfl⟩

/-- Block p holds these cells, no bytes, and they may be written. -/
def PAt (w : World) (p : Nat) (cs : List Value) : Prop := RowAt w p cs ∧ ∃ (c : Array Value) (t : TypeId) (f : Nat × Nat), w.heap[p]? = some (Obj.cells c t f) ∧ t ≠ 5
theorem PAt.lt {w : World} {p : Nat} {cs : List Value} (h : PAt w p cs) : p < w.heap.size := h.1.lt
theorem PAt.of_block {w w' : World} {p : Nat} {cs : List Value} (h : PAt w p cs) (hb : w'.heap[p]? = w.heap[p]?) : PAt w' p cs := by
  obtain ⟨h1, c, t, f, h2, h3⟩ := h
  exact ⟨h1.of_block hb, c, t, f, by rw [hb]; exact h2, h3⟩
theorem PAt.keeps {av : Nat → Prop} {w w' : World} {p : Nat} {cs : List Value} (h : PAt w p cs) (hk : Keeps av w w') (ha : av p) : PAt w' p cs := by
  obtain ⟨c, t, f, h2, h3⟩ := h.2
  exact h.of_block (hk p c t f h2 h3 ha)
theorem PAt.below {w w' : World} {p : Nat} {cs : List Value} (h : PAt w p cs) (hb : Below w.heap.size w w') : PAt w' p cs := h.of_block (hb.block _ h.lt)
theorem PAt.drew {w : World} {p : Nat} {cs : List Value} (h : PAt w p cs) : PAt w.drew p cs := h.of_block rfl
theorem heap_setCell_typed {w : World} {p : Addr} {c : Array Value} {t : TypeId} {f : Nat × Nat} (h : w.heap[p.block]? = some (Obj.cells c t f)) (u : Value) : ∃ c', (w.setCell p u).heap[p.block]? = some (Obj.cells c' t f) := by
  refine ⟨if p.spot.isSome then c else c.setIfInBounds p.off u, ?_⟩
  simp only [World.setCell]
  rw [Array.getElem?_modify, if_pos rfl, h]
  rfl
theorem PAt.set {w : World} {p : Nat} {cs : List Value} (h : PAt w p cs) (j : Nat) (hj : j < cs.length) (u : Value) : PAt (w.setCell ⟨p, j, none⟩ u) p (cs.set j u) := by
  obtain ⟨h1, c, t, f, h2, h3⟩ := h
  obtain ⟨c', h4⟩ := heap_setCell_typed (p := ⟨p, j, none⟩) h2 u
  exact ⟨h1.set j hj u, c', t, f, h4, h3⟩
theorem PAt.new (w : World) (cs : List Value) (hl : 0 < cs.length) (t : TypeId) (ht : t ≠ 5) {H : Nat} (hH : w.heap.size = H) : PAt (w.alloc (.cells cs.toArray t)) H cs :=
  ⟨RowAt.new w cs hl t hH, cs.toArray, t, (0, 0), by subst hH; exact heap_alloc_new w _, ht⟩
theorem PAt.quiet {w : World} {p : Nat} {cs : List Value} (h : PAt w p cs) {base b : Nat} (hp : base ≤ p) (hb : p ≠ b) (o : Nat) (u : Value) : Quiet base b w (w.setCell ⟨p, o, none⟩ u) := by
  obtain ⟨_, c, t, f, h2, h3⟩ := h
  refine ⟨(Below.refl _ _).setCell hp _, Below.heap_setCell _ _ _ _ (Ne.symm hb), fun k c' f' hk => Below.heap_setCell _ _ _ _ fun e => ?_⟩
  subst e
  rw [h2] at hk
  injection hk with hk
  injection hk with _ hk _
  exact h3 hk
/-- The cells at a place of a list. -/
def At (cs : List Value) (o : Nat) (es : List Value) : Prop := ∀ i, i < es.length → cs[o + i]? = es[i]?
def putL (cs : List Value) (o : Nat) (es : List Value) : List Value := cs.take o ++ es ++ cs.drop (o + es.length)
theorem At.le {cs es : List Value} {o : Nat} (h : At cs o es) (h0 : 0 < es.length) : o + es.length ≤ cs.length := by
  have h1 := h (es.length - 1) (by omega)
  rw [List.getElem?_eq_getElem (show es.length - 1 < es.length by omega)] at h1
  have := (List.getElem?_eq_some_iff.1 h1).1
  omega
theorem putL_get {cs es : List Value} {o : Nat} (hl : o + es.length ≤ cs.length) (i : Nat) : (putL cs o es)[i]? = if o ≤ i ∧ i < o + es.length then es[i - o]? else cs[i]? := by
  unfold putL
  have h1 : (cs.take o).length = o := by rw [List.length_take]; omega
  by_cases h : i < o
  · rw [if_neg (by omega), List.append_assoc, List.getElem?_append_left (by omega), List.getElem?_take, if_pos h]
  · by_cases h2 : i < o + es.length
    · rw [if_pos ⟨by omega, h2⟩, List.getElem?_append_left (by rw [List.length_append]; omega), List.getElem?_append_right (by omega), h1]
    · rw [if_neg (by omega), List.getElem?_append_right (by rw [List.length_append]; omega), List.getElem?_drop, List.length_append, h1]
      congr 1; omega
theorem putL_length {cs es : List Value} {o : Nat} (hl : o + es.length ≤ cs.length) : (putL cs o es).length = cs.length := by
  unfold putL
  simp only [List.length_append, List.length_take, List.length_drop]
  omega
theorem At.put_same {cs es : List Value} {o : Nat} (hl : o + es.length ≤ cs.length) : At (putL cs o es) o es := fun i hi => by
  rw [putL_get hl, if_pos ⟨by omega, by omega⟩]
  congr 1; omega
theorem At.put_other {cs es fs : List Value} {o q : Nat} (h : At cs q fs) (hl : o + es.length ≤ cs.length) (hd : q + fs.length ≤ o ∨ o + es.length ≤ q) : At (putL cs o es) q fs := fun i hi => by
  rw [putL_get hl, if_neg (by omega)]
  exact h i hi
theorem putL_put {cs es fs : List Value} {o : Nat} (hl : o + es.length + fs.length ≤ cs.length) : putL (putL cs o es) (o + es.length) fs = putL cs o (es ++ fs) := by
  apply List.ext_getElem?
  intro i
  have h1 : (putL cs o es).length = cs.length := putL_length (by omega)
  rw [putL_get (by omega), putL_get (by omega), putL_get (by rw [List.length_append]; omega)]
  rw [List.length_append]
  by_cases h : i < o
  · rw [if_neg (by omega), if_neg (by omega), if_neg (by omega)]
  · by_cases h2 : i < o + es.length
    · rw [if_neg (by omega), if_pos ⟨by omega, h2⟩, if_pos ⟨by omega, by omega⟩, List.getElem?_append_left (by omega)]
    · by_cases h3 : i < o + es.length + fs.length
      · rw [if_pos ⟨by omega, h3⟩, if_pos ⟨by omega, by omega⟩, List.getElem?_append_right (by omega)]
        congr 1; omega
      · rw [if_neg (by omega), if_neg (by omega), if_neg (by omega)]
theorem putL_one {cs : List Value} {o : Nat} (hl : o < cs.length) (u : Value) : cs.set o u = putL cs o [u] := by
  apply List.ext_getElem?
  intro i
  rw [putL_get (by simp; omega)]
  by_cases h : i = o
  · subst h
    rw [List.getElem?_set_self hl, if_pos ⟨by omega, by simp⟩]
    simp
  · rw [List.getElem?_set_ne (by omega), if_neg (by simp; omega)]
theorem putL_whole {cs es : List Value} (h : es.length = cs.length) : putL cs 0 es = es := by
  unfold putL
  rw [List.take_zero, List.nil_append, Nat.zero_add, h, List.drop_length, List.append_nil]

/-- How values of a type lie in cells. -/
structure El (α : Type) where
  n : Nat
  rep : (Nat → Prop) → World → List Value → α → Prop
structure El.OK {α : Type} (E : El α) : Prop where
  pos : 0 < E.n
  len : ∀ {av w cs a}, E.rep av w cs a → cs.length = E.n
  one : ∀ {av w cs a}, E.rep av w cs a → ∀ v ∈ cs, v.oneCell' = true
  keep : ∀ {av w w' cs a}, E.rep av w cs a → Keeps av w w' → E.rep av w' cs a
  weak : ∀ {av av' w cs a}, E.rep av w cs a → (∀ k, av k → k < w.heap.size → av' k) → E.rep av' w cs a
/-- A slice of such values, in a block that holds no bytes. -/
def RdS {α : Type} (E : El α) (av : Nat → Prop) (w : World) (v : Value) (l : List α) : Prop := ∃ (a : Option Addr) (c : Nat), v = .slice a l.length c ∧ l.length ≤ c ∧ c ≤ 9223372036854775807 ∧ l.length ≤ 1000000 ∧
  (0 < l.length → ∃ (ab ao : Nat) (cs : Array Value) (t : TypeId) (f : Nat × Nat), a = some ⟨ab, ao, none⟩ ∧ w.heap[ab]? = some (Obj.cells cs t f) ∧ t ≠ 5 ∧ av ab ∧
    ∀ i, (hi : i < l.length) → ∃ es, E.rep av w es l[i] ∧ ∀ j, j < E.n → w.cell? ⟨ab, ao + i * E.n + j, none⟩ = es[j]?)
theorem RdS.slice {α : Type} {E : El α} {av : Nat → Prop} {w : World} {v : Value} {l : List α} (h : RdS E av w v l) : ∃ a c, v = .slice a l.length c := by
  obtain ⟨a, c, e, _⟩ := h
  exact ⟨a, c, e⟩
theorem RdS.le {α : Type} {E : El α} {av : Nat → Prop} {w : World} {v : Value} {l : List α} (h : RdS E av w v l) : l.length ≤ 1000000 := by
  obtain ⟨a, c, e, _, _, h, _⟩ := h
  exact h
theorem RdS.nil {α : Type} (E : El α) (av : Nat → Prop) (w : World) : RdS E av w (.slice none 0 0) [] := ⟨none, 0, rfl, Nat.le_refl _, by omega, by simp, fun h => absurd h (by simp)⟩
theorem RdS.keep {α : Type} {E : El α} (hE : E.OK) {av : Nat → Prop} {w w' : World} {v : Value} {l : List α} (h : RdS E av w v l) (hk : Keeps av w w') : RdS E av w' v l := by
  obtain ⟨a, c, e, h1, h2, h3, h4⟩ := h
  refine ⟨a, c, e, h1, h2, h3, fun h0 => ?_⟩
  obtain ⟨ab, ao, cs, t, f, ea, hb, ht, ha, hc⟩ := h4 h0
  have hs := hk ab cs t f hb ht ha
  refine ⟨ab, ao, cs, t, f, ea, by rw [hs]; exact hb, ht, ha, fun i hi => ?_⟩
  obtain ⟨es, e1, e2⟩ := hc i hi
  refine ⟨es, hE.keep e1 hk, fun j hj => ?_⟩
  rw [← e2 j hj]
  exact World.cell?_of_block (w := w) (a := ⟨ab, ao + i * E.n + j, none⟩) hs
theorem RdS.weak {α : Type} {E : El α} (hE : E.OK) {av av' : Nat → Prop} {w : World} {v : Value} {l : List α} (h : RdS E av w v l) (hk : ∀ k, av k → k < w.heap.size → av' k) : RdS E av' w v l := by
  obtain ⟨a, c, e, h1, h2, h3, h4⟩ := h
  refine ⟨a, c, e, h1, h2, h3, fun h0 => ?_⟩
  obtain ⟨ab, ao, cs, t, f, ea, hb, ht, ha, hc⟩ := h4 h0
  refine ⟨ab, ao, cs, t, f, ea, hb, ht, hk _ ha (Array.getElem?_eq_some_iff.1 hb).1, fun i hi => ?_⟩
  obtain ⟨es, e1, e2⟩ := hc i hi
  exact ⟨es, hE.weak e1 hk, e2⟩
def intE : El Int := ⟨1, fun _ _ cs x => cs = [.int .i64 x] ∧ I64 x⟩
def wordE : El Nat := ⟨1, fun _ _ cs x => cs = [.int .u64 x] ∧ x < 18446744073709551616⟩
def boolE : El Bool := ⟨1, fun _ _ cs x => cs = [.bool x]⟩
def strE : El ByteArray := ⟨1, fun _ _ cs x => cs = [.string x] ∧ x.size ≤ 10000000⟩
def rdE : El (Int × Int) := ⟨2, fun _ _ cs x => cs = [.int .i64 x.1, .int .i64 x.2] ∧ I64 x.1 ∧ I64 x.2⟩
def plaE : El Pla := ⟨4, fun _ _ cs x => cs = [.int .i64 x.f, .int .i64 x.a, .int .i64 x.b, .int .i64 x.c] ∧ okPla x⟩
def cntE : El Cnt := ⟨3, fun _ _ cs x => cs = [.string x.name, .int .i64 x.total, .int .i64 x.rej] ∧ x.name.size ≤ 10000000 ∧ I64 x.total ∧ I64 x.rej⟩
def sliE {α : Type} (E : El α) : El (List α) := ⟨1, fun av w cs l => ∃ v, cs = [v] ∧ RdS E av w v l⟩
theorem intE_ok : intE.OK := ⟨by decide, by rintro _ _ _ _ ⟨rfl, _⟩; rfl, by rintro _ _ _ _ ⟨rfl, _⟩ v hv; simp at hv; subst hv; rfl, fun h _ => h, fun h _ => h⟩
theorem wordE_ok : wordE.OK := ⟨by decide, by rintro _ _ _ _ ⟨rfl, _⟩; rfl, by rintro _ _ _ _ ⟨rfl, _⟩ v hv; simp at hv; subst hv; rfl, fun h _ => h, fun h _ => h⟩
theorem boolE_ok : boolE.OK := ⟨by decide, by rintro _ _ _ _ rfl; rfl, by rintro _ _ _ _ rfl v hv; simp at hv; subst hv; rfl, fun h _ => h, fun h _ => h⟩
theorem strE_ok : strE.OK := ⟨by decide, by rintro _ _ _ _ ⟨rfl, _⟩; rfl, by rintro _ _ _ _ ⟨rfl, _⟩ v hv; simp at hv; subst hv; rfl, fun h _ => h, fun h _ => h⟩
theorem rdE_ok : rdE.OK := ⟨by decide, by rintro _ _ _ _ ⟨rfl, _⟩; rfl, by rintro _ _ _ _ ⟨rfl, _⟩ v hv; simp at hv; rcases hv with rfl | rfl <;> rfl, fun h _ => h, fun h _ => h⟩
theorem plaE_ok : plaE.OK := ⟨by decide, by rintro _ _ _ _ ⟨rfl, _⟩; rfl, by rintro _ _ _ _ ⟨rfl, _⟩ v hv; simp at hv; rcases hv with rfl | rfl | rfl | rfl <;> rfl, fun h _ => h, fun h _ => h⟩
theorem cntE_ok : cntE.OK := ⟨by decide, by rintro _ _ _ _ ⟨rfl, _⟩; rfl, by rintro _ _ _ _ ⟨rfl, _⟩ v hv; simp at hv; rcases hv with rfl | rfl | rfl <;> rfl, fun h _ => h, fun h _ => h⟩
theorem sliE_ok {α : Type} {E : El α} (hE : E.OK) : (sliE E).OK :=
  ⟨Nat.one_pos, by rintro _ _ _ _ ⟨v, rfl, _⟩; rfl, by
    rintro _ _ _ _ ⟨v, rfl, h⟩ u hu
    simp at hu; subst hu
    obtain ⟨a, c, rfl⟩ := h.slice
    rfl, fun ⟨v, e, h⟩ hk => ⟨v, e, h.keep hE hk⟩, fun ⟨v, e, h⟩ hk => ⟨v, e, h.weak hE hk⟩⟩
def repCells (r : Rep) (v : Value) : List Value := [.int .i64 r.kind, .string r.name, .int .i64 r.time, .int .i64 r.pl.f, .int .i64 r.pl.a, .int .i64 r.pl.b, .int .i64 r.pl.c, v]
def repE : El Rep := ⟨8, fun av w cs r => ∃ v, cs = repCells r v ∧ I64 r.kind ∧ r.name.size ≤ 10000000 ∧ I64 r.time ∧ okPla r.pl ∧ RdS rdE av w v r.rds⟩
theorem oneCell_slice (a : Option Addr) (n c : Nat) : (Value.slice a n c).oneCell' = true := rfl
theorem repE_ok : repE.OK :=
  ⟨by decide, by rintro _ _ _ _ ⟨v, rfl, _⟩; rfl, by
    rintro _ _ _ _ ⟨v, rfl, _, _, _, _, h⟩ u hu
    obtain ⟨a, c, rfl⟩ := h.slice
    simp [repCells] at hu
    rcases hu with rfl | rfl | rfl | rfl | rfl | rfl | rfl | rfl <;> rfl, fun ⟨v, e, h1, h2, h3, h4, h⟩ hk => ⟨v, e, h1, h2, h3, h4, h.keep rdE_ok hk⟩, fun ⟨v, e, h1, h2, h3, h4, h⟩ hk => ⟨v, e, h1, h2, h3, h4, h.weak rdE_ok hk⟩⟩

/-! ### A walker in memory -/
structure WkM {σ : Type} (k : Wk σ) where
  base : Nat
  b : Nat
  ty : TypeId
  St : σ → World → Prop
section
variable {σ : Type} {k : Wk σ}
def WkM.ptr (K : WkM k) : Value := .pointer (some ⟨K.b, 0, none⟩)
def WkM.recv (K : WkM k) : Value := .iface K.ty K.ptr
def fresh (av : Nat → Prop) (w : World) : Nat → Prop := fun i => av i ∨ w.heap.size ≤ i
/-- What is known behind a walk over a value. -/
structure WPost (K : WkM k) {α : Type} (E : El α) (q : σ × α) (p o : Nat) (cs : List Value) (av : Nat → Prop) (w w' : World) : Prop where
  st : K.St q.1 w'
  fr : Fr K.base K.b p w w'
  val : ∃ es, PAt w' p (putL cs o es) ∧ E.rep (fresh av w) w' es q.2
/-- A function that walks over a value. -/
def Walks (K : WkM k) (f : FuncId) (recv : Value) (extra : List Value) {α : Type} (E : El α) (m : σ → α → σ × α) : Prop :=
  ∀ (s : σ) (x : α) (w : World) (p o : Nat) (cs es : List Value) (av : Nat → Prop), K.St s w → K.base ≤ p → p ≠ K.b → PAt w p cs → At cs o es → E.rep av w es x → (∀ i, av i → i ≠ K.b ∧ i ≠ p) → k.sz (m s x).1 ≤ 10000000 →
    Calls Tryz.prog f (recv :: .pointer (some ⟨p, o, none⟩) :: extra).toArray w fun e w' => e = .returned (.tuple #[]) ∧ WPost K E (m s x) p o cs av w w'
/-- A method of the walker. -/
structure Meth (K : WkM k) (name : String) (f : FuncId) : Prop where
  ahead : ∀ w, (nilAhead (Tryz.prog.types.size + Made.depth) K.ty K.ptr name).run Tryz.prog w = .ok (some false) w
  b : MethB Tryz.prog K.ty K.ptr name f K.ptr
structure WkM.OK (K : WkM k) : Prop where
  mono : k.Mono
  lt : ∀ {s w}, K.St s w → K.base ≤ K.b ∧ K.b < w.heap.size
  stable : ∀ {s w w'}, K.St s w → Quiet K.base K.b w w' → K.St s w'
  int : ∃ f, Meth K "synoptic/store.int" f ∧ Walks K f K.ptr [] intE k.int
  word : ∃ f, Meth K "synoptic/store.word" f ∧ Walks K f K.ptr [] wordE k.word
  bool : ∃ f, Meth K "synoptic/store.bool" f ∧ Walks K f K.ptr [] boolE k.bool
  text : ∃ f, Meth K "synoptic/store.text" f ∧ Walks K f K.ptr [] strE k.text
  count : ∃ f, Meth K "synoptic/store.count" f ∧ ∀ (s : σ) (n : Nat) (w : World), K.St s w → n ≤ 1000000 → k.sz (k.count s n).1 ≤ 10000000 →
    Calls Tryz.prog f #[K.ptr, .int .i64 n] w fun e w' => e = .returned (.int .i64 (k.count s n).2) ∧ (k.count s n).2 ≤ 1000000 ∧ K.St (k.count s n).1 w' ∧ Fr K.base K.b K.b w w'
end
end Go.Proofs.YtpknalpdcfjffaaGreat
/- A walk over a value's fields, one after the other; store.ints. -/
namespace Go.Proofs.YtpknalpdcfjffaaGreat
open Go Go.RowKit

section
variable {σ : Type} {k : Wk σ}
/-- In the midst of a walk over the value in block p: since w0 nothing has turned but the walker, block p, and what is new. -/
structure WS (K : WkM k) (p : Nat) (s : σ) (cs : List Value) (w0 w : World) : Prop where
  st : K.St s w
  fr : Fr K.base K.b p w0 w
  pa : PAt w p cs
theorem Fr.keep {base b p : Nat} {w w' : World} {α : Type} {E : El α} (hE : E.OK) {av : Nat → Prop} {es : List Value} {a : α} (hf : Fr base b p w w') (h : E.rep av w es a) (hav : ∀ i, av i → i ≠ b ∧ i ≠ p) : E.rep av w' es a :=
  hE.keep h (hf.keeps.mono fun i _ hi => hav i hi)
theorem fresh_av {av : Nat → Prop} {b p : Nat} {w0 : World} (hav : ∀ i, av i → i ≠ b ∧ i ≠ p) (hb : b < w0.heap.size) (hp : p < w0.heap.size) : ∀ i, fresh av w0 i → i ≠ b ∧ i ≠ p := by
  rintro i (h | h)
  · exact hav i h
  · exact ⟨by omega, by omega⟩
theorem WS.start {K : WkM k} {p : Nat} {s : σ} {cs : List Value} {w : World} (h1 : K.St s w) (h2 : PAt w p cs) : WS K p s cs w w := ⟨h1, Fr.refl _ _ _ _, h2⟩
theorem WS.drew {K : WkM k} (hK : K.OK) {p : Nat} {s : σ} {cs : List Value} {w0 w : World} (h : WS K p s cs w0 w) : WS K p s cs w0 w.drew := ⟨hK.stable h.st (Quiet.drew _), h.fr.trans (Fr.drew _), h.pa.drew⟩
theorem WS.new {K : WkM k} (hK : K.OK) {p : Nat} {s : σ} {cs : List Value} {w0 w w' : World} (h : WS K p s cs w0 w) (hb : Below w.heap.size w w') : WS K p s cs w0 w' := by
  have hl := hK.lt h.st
  exact ⟨hK.stable h.st (Quiet.new hb (by omega) hl.2), h.fr.trans (Fr.new hb (by omega)), h.pa.below hb⟩
/-- What one step leaves. -/
def Stepped (K : WkM k) {α : Type} (E : El α) (q : σ × α) (p o : Nat) (cs : List Value) (av : Nat → Prop) (w0 w : World) (e : Ending) (w' : World) : Prop :=
  e = .returned (.tuple #[]) ∧ ∃ es, WS K p q.1 (putL cs o es) w0 w' ∧ E.rep (fresh av w0) w' es q.2 ∧ es.length = E.n ∧ Fr K.base K.b p w w'
theorem WS.step {K : WkM k} {p o : Nat} {s : σ} {cs es : List Value} {w0 w : World} {f : FuncId} {recv : Value} {extra : List Value} {α : Type} {E : El α} {m : σ → α → σ × α} {x : α} {av : Nat → Prop} (h : WS K p s cs w0 w) (hW : Walks K f recv extra E m) (hE : E.OK)
    (hp : K.base ≤ p) (hpb : p ≠ K.b) (hat : At cs o es) (hr : E.rep av w0 es x) (hav : ∀ i, av i → i ≠ K.b ∧ i ≠ p) (hsz : k.sz (m s x).1 ≤ 10000000) :
    Calls Tryz.prog f (recv :: .pointer (some ⟨p, o, none⟩) :: extra).toArray w (Stepped K E (m s x) p o cs av w0 w) := by
  refine (hW s x w p o cs es av h.st hp hpb h.pa hat (h.fr.keep hE hr hav) hav hsz).mono ?_
  rintro e w' ⟨rfl, h1⟩
  obtain ⟨es', h2, h3⟩ := h1.val
  exact ⟨rfl, es', ⟨h1.st, h.fr.trans h1.fr, h2⟩, hE.weak h3 (fun i hi _ => hi.imp id fun h0 => Nat.le_trans h.fr.size h0), hE.len h3, h1.fr⟩
theorem Stepped.ws {K : WkM k} {α : Type} {E : El α} {q : σ × α} {p o : Nat} {cs : List Value} {av : Nat → Prop} {w0 w : World} {e : Ending} {w' : World} (h : Stepped K E q p o cs av w0 w e w') : ∃ es, WS K p q.1 (putL cs o es) w0 w' ∧ E.rep (fresh av w0) w' es q.2 ∧ es.length = E.n ∧ Fr K.base K.b p w w' := h.2
theorem WS.post {K : WkM k} {α : Type} {E : El α} {q : σ × α} {p o : Nat} {cs es : List Value} {av : Nat → Prop} {w0 w : World} (h : WS K p q.1 (putL cs o es) w0 w) (hr : E.rep (fresh av w0) w es q.2) : WPost K E q p o cs av w0 w := ⟨h.st, h.fr, es, h.pa, hr⟩

def ics64 (l : List Int) : List Value := l.map fun x => .int .i64 x
theorem runE_len {α : Type} (f : σ → α → σ × α) (z : α) (s : σ) (l : List α) : ∀ n, (runE f z s l n).2.length = n
  | 0 => rfl
  | n + 1 => by rw [runE, List.length_append, runE_len f z s l n]; rfl
/-- Pointers to the ints from q on, in a block of their own. -/
def Ptrs (w : World) (L p q n : Nat) : Prop := (∃ (c : Array Value) (t : TypeId) (f : Nat × Nat), w.heap[L]? = some (Obj.cells c t f) ∧ t ≠ 5) ∧ ∀ i, i < n → w.cell? ⟨L, i, none⟩ = some (.pointer (some ⟨p, q + i, none⟩))
theorem Ptrs.fr {w w' : World} {L p q n base b : Nat} (h : Ptrs w L p q n) (hf : Fr base b p w w') (h1 : L ≠ b) (h2 : L ≠ p) : Ptrs w' L p q n := by
  obtain ⟨⟨c, t, f, h3, h4⟩, h5⟩ := h
  have hs := hf.keeps L c t f h3 h4 ⟨h1, h2⟩
  refine ⟨⟨c, t, f, by rw [hs]; exact h3, h4⟩, fun i hi => ?_⟩
  rw [← h5 i hi]
  exact World.cell?_of_block (w := w) (a := ⟨L, i, none⟩) hs
/-- What store.ints leaves. -/
def IntsPost (K : WkM k) (q : σ × List Int) (p o : Nat) (cs : List Value) (w0 w : World) (e : Ending) (w' : World) : Prop :=
  e = .returned (.tuple #[]) ∧ WS K p q.1 (putL cs o (ics64 q.2)) w0 w' ∧ (∀ x ∈ q.2, I64 x) ∧ Fr K.base K.b p w w'
structure InL (K : WkM k) (p o L n : Nat) (q : σ × List Int) (cs : List Value) (w0 w wr : World) : Prop where
  ws : WS K p q.1 (putL cs o (ics64 q.2)) w0 wr
  rng : ∀ x ∈ q.2, I64 x
  fr : Fr K.base K.b p w wr
  ptrs : Ptrs wr L p o n
set_option maxHeartbeats 16000000 in
set_option maxRecDepth 100000 in
theorem ints_any (K : WkM k) (hK : K.OK) (p o L : Nat) (s : σ) (cs : List Value) (xs : List Int) (w0 w : World) (h : WS K p s cs w0 w) (hp : K.base ≤ p) (hpb : p ≠ K.b) (hat : At cs o (ics64 xs)) (h0 : 0 < xs.length) (hx : ∀ x ∈ xs, I64 x) (hxs : xs.length ≤ 10)
    (hP : Ptrs w L p o xs.length) (hL : L ≠ K.b) (hLp : L ≠ p) (hsz : k.sz (runE k.int 0 s xs xs.length).1 ≤ 10000000) :
    Calls Tryz.prog 61 #[K.recv, .slice (some ⟨L, 0, none⟩) xs.length xs.length] w (IntsPost K (runE k.int 0 s xs xs.length) p o cs w0 w) := by
  have HK := Lib.hid hK
  obtain ⟨fi, mi, wi⟩ := hK.int
  have HM := Lib.hid mi
  have hle := hat.le (by unfold ics64; rw [List.length_map]; exact h0)
  have HAt := Lib.hid hat
  have hle : o + xs.length ≤ cs.length := by unfold ics64 at hle; rw [List.length_map] at hle; exact hle
  have HLe := Lib.hid hle
  have HSz := Lib.hid hsz
  have HX := Lib.hid hx
  have HI : Hid (InL K p o L xs.length (runE k.int 0 s xs 0) cs w0 w w) := ⟨⟨h.st, h.fr, by
    have e : putL cs o (ics64 (runE k.int 0 s xs 0).2) = cs := by
      show cs.take o ++ [] ++ cs.drop (o + 0) = cs
      rw [List.append_nil, Nat.add_zero, List.take_append_drop]
    rw [e]; exact h.pa⟩, by simp [runE], Fr.refl _ _ _ _, hP⟩
  have n0 : (xs.length : Int) ≤ 10 := by omega
  clear h hP hat hle hsz hx hK
  go_enter Tryz.func61, Tryz.ntmps61
  go_wp2_with fail
  go_loopw [8] (fun kv wr => ∃ i : Nat, kv = .int .i64 i ∧ i ≤ xs.length ∧ Hid (InL K p o L xs.length (runE k.int 0 s xs i) cs w0 w wr)) (fun kv _ => (20 - intOf kv).toNat)
  case atStart => exact ⟨0, rfl, by omega, HI⟩
  case round =>
    clear HI
    obtain ⟨i, rfl, hi, hs⟩ := hrel
    by_cases hlt : i < xs.length
    · have i0 : (i : Int) < (xs.length : Int) := by omega
      have hc := hs.out.ptrs.2 i hlt
      have hln := runE_len k.int 0 s xs i
      have HAi : Hid (At (putL cs o (ics64 (runE k.int 0 s xs i).2)) (o + i) [.int .i64 (xs.getD i 0)]) := by
        refine At.put_other (fun j hj => ?_) (by unfold ics64; rw [List.length_map, hln]; have := HLe.out; omega) (Or.inr (by unfold ics64; rw [List.length_map, hln]; omega))
        obtain rfl : j = 0 := by simpa using hj
        have := HAt.out i (by unfold ics64; rw [List.length_map]; exact hlt)
        rw [Nat.add_zero, this]
        simp [ics64, hlt]
      have HRi : Hid (intE.rep (fun _ => False) w0 [.int .i64 (xs.getD i 0)] (xs.getD i 0)) := ⟨rfl, by
        have : xs.getD i 0 = xs[i] := by simp [hlt]
        rw [this]; exact HX.out _ (List.getElem_mem hlt)⟩
      have HSi : Hid (k.sz (k.int (runE k.int 0 s xs i).1 (xs.getD i 0)).1 ≤ 10000000) := Nat.le_trans (Wk.Mono.run_le HK.out.mono.int 0 s xs (i + 1) xs.length (by omega)) HSz.out
      have HNx : Hid (∀ es, putL (putL cs o (ics64 (runE k.int 0 s xs i).2)) (o + i) es = putL cs o (ics64 (runE k.int 0 s xs i).2 ++ es) ∨ es.length ≠ 1) := fun es => by
        by_cases he : es.length = 1
        · left
          have e1 : (ics64 (runE k.int 0 s xs i).2).length = i := by unfold ics64; rw [List.length_map, hln]
          have := putL_put (cs := cs) (es := ics64 (runE k.int 0 s xs i).2) (fs := es) (o := o) (by rw [e1, he]; have := HLe.out; omega)
          rw [e1] at this
          exact this
        · right; exact he
      clear hln
      go_wp2_with (refine wpList_invoke rfl HM.out.b _ _ _ rfl rfl [.pointer (some ⟨p, o + i, none⟩)] rfl (hs.out.ws.step wi intE_ok hp hpb HAi.out HRi.out (fun _ h => h.elim) HSi.out) ?_; intro e w2 hst; refine ⟨_, hst.1, ?_⟩)
      have HN : Hid (InL K p o L xs.length (runE k.int 0 s xs (i + 1)) cs w0 w w2) := by
        obtain ⟨es, h1, ⟨h2, h2'⟩, h3, h4⟩ := hst.2
        have h5 := (HNx.out es).resolve_right (by rw [h3]; simp [intE])
        rw [h5, h2] at h1
        have e2 : ics64 (runE k.int 0 s xs (i + 1)).2 = ics64 (runE k.int 0 s xs i).2 ++ [.int .i64 (k.int (runE k.int 0 s xs i).1 (xs.getD i 0)).2] := by simp [runE, ics64]
        refine ⟨?_, fun x hx => ?_, hs.out.fr.trans h4, hs.out.ptrs.fr h4 hL hLp⟩
        · rw [e2]; exact h1
        · rw [runE] at hx
          rcases List.mem_append.1 hx with hx | hx
          · exact hs.out.rng x hx
          · simp at hx; subst hx; exact h2'
      clear hst HAi HRi HSi HNx hs hc
      go_wp2_with fail
      go_roundw
      case rel => exact ⟨i + 1, by go_num, by omega, HN⟩
      case measure => simp [intOf]; omega
    · obtain rfl : i = xs.length := by omega
      go_wp2_with fail
      go_end0
      exact ⟨rfl, hs.out.ws, hs.out.rng, hs.out.fr⟩
/-- One field: what is behind the fields before it. -/
def Field (K : WkM k) {α : Type} (E : El α) (q : σ × α) (p o : Nat) (cs pre : List Value) (av : Nat → Prop) (w0 w : World) (e : Ending) (w' : World) : Prop :=
  e = .returned (.tuple #[]) ∧ ∃ es, WS K p q.1 (putL cs o (pre ++ es)) w0 w' ∧ E.rep (fresh av w0) w' es q.2 ∧ es.length = E.n ∧ Fr K.base K.b p w w'
theorem At.mid {cs a m c : List Value} {o : Nat} (h : At cs o (a ++ m ++ c)) : At cs (o + a.length) m := fun i hi => by
  have h1 := h (a.length + i) (by simp only [List.length_append]; omega)
  rw [Nat.add_assoc, h1, List.append_assoc, List.getElem?_append_right (by omega), List.getElem?_append_left (by omega)]
  congr 1; omega
theorem At.field {cs pre a m c : List Value} {o : Nat} (h : At cs o (a ++ m ++ c)) (ha : a.length = pre.length) (hm : 0 < m.length) : At (putL cs o pre) (o + pre.length) m := by
  have hle := h.le (by simp only [List.length_append]; omega)
  simp only [List.length_append] at hle
  have := h.mid
  rw [ha] at this
  exact this.put_other (by omega) (Or.inr (by omega))
theorem WS.field {K : WkM k} {p o : Nat} {s : σ} {cs pre a es c : List Value} {w0 w : World} {f : FuncId} {recv : Value} {extra : List Value} {α : Type} {E : El α} {m : σ → α → σ × α} {x : α} {av : Nat → Prop} (h : WS K p s (putL cs o pre) w0 w) (hW : Walks K f recv extra E m) (hE : E.OK)
    (hp : K.base ≤ p) (hpb : p ≠ K.b) (hat : At cs o (a ++ es ++ c)) (ha : a.length = pre.length) (hr : E.rep av w0 es x) (hav : ∀ i, av i → i ≠ K.b ∧ i ≠ p) (q : Nat) (hq : q = o + pre.length) (hsz : k.sz (m s x).1 ≤ 10000000) :
    Calls Tryz.prog f (recv :: .pointer (some ⟨p, q, none⟩) :: extra).toArray w (Field K E (m s x) p o cs pre av w0 w) := by
  subst hq
  have he := hE.len hr
  have h0 := hE.pos
  have hle := hat.le (by simp only [List.length_append]; omega)
  simp only [List.length_append] at hle
  refine (h.step hW hE hp hpb (hat.field ha (by omega)) hr hav hsz).mono ?_
  rintro e w' ⟨rfl, es', h1, h2, h3, h4⟩
  refine ⟨rfl, es', ?_, h2, h3, h4⟩
  rw [putL_put (by omega)] at h1
  exact h1
theorem WS.whole {K : WkM k} {p o : Nat} {s : σ} {cs : List Value} {w0 w : World} (h : WS K p s cs w0 w) : WS K p s (putL cs o []) w0 w := by
  have e : putL cs o [] = cs := by
    show cs.take o ++ [] ++ cs.drop (o + 0) = cs
    rw [List.append_nil, Nat.add_zero, List.take_append_drop]
  rw [e]; exact h
/-- Some ints, at a place of the value. -/
def FieldInts (K : WkM k) (q : σ × List Int) (p o : Nat) (cs pre : List Value) (w0 w : World) (e : Ending) (w' : World) : Prop :=
  e = .returned (.tuple #[]) ∧ WS K p q.1 (putL cs o (pre ++ ics64 q.2)) w0 w' ∧ (∀ x ∈ q.2, I64 x) ∧ Fr K.base K.b p w w'
theorem WS.ints {K : WkM k} (hK : K.OK) {p o L : Nat} {s : σ} {cs pre a es c : List Value} {xs : List Int} {w0 w : World} (h : WS K p s (putL cs o pre) w0 w) (hp : K.base ≤ p) (hpb : p ≠ K.b) (hat : At cs o (a ++ es ++ c)) (he : es = ics64 xs) (ha : a.length = pre.length) (h0 : 0 < xs.length) (hx : ∀ x ∈ xs, I64 x) (hxs : xs.length ≤ 10)
    (q : Nat) (hq : q = o + pre.length) (hP : Ptrs w L p q xs.length) (hL : L ≠ K.b) (hLp : L ≠ p) (n : Nat) (hn : n = xs.length) (hsz : k.sz (runE k.int 0 s xs xs.length).1 ≤ 10000000) :
    Calls Tryz.prog 61 #[K.recv, .slice (some ⟨L, 0, none⟩) n n] w (FieldInts K (runE k.int 0 s xs n) p o cs pre w0 w) := by
  subst hq he hn
  have hl : (ics64 xs).length = xs.length := by unfold ics64; rw [List.length_map]
  have hle := hat.le (by simp only [List.length_append]; omega)
  simp only [List.length_append] at hle
  refine (ints_any K hK p (o + pre.length) L s _ xs w0 w h hp hpb (hat.field ha (by omega)) h0 hx hxs hP hL hLp hsz).mono ?_
  rintro e w' ⟨rfl, h1, h2, h3⟩
  refine ⟨rfl, ?_, h2, h3⟩
  have e2 : (ics64 (runE k.int 0 s xs xs.length).2).length = xs.length := by unfold ics64; rw [List.length_map, runE_len]
  rw [putL_put (by rw [e2]; omega)] at h1
  exact h1
theorem ptrs_of {w : World} {H p q n : Nat} {cs : List Value} (hH : w.heap.size = H) (hn : cs.length = n) (hc : ∀ i, i < n → cs[i]? = some (.pointer (some ⟨p, q + i, none⟩))) : Ptrs (w.alloc (.cells cs.toArray 114)) H p q n := by
  subst hH
  have hh := heap_alloc_new w (.cells cs.toArray 114)
  refine ⟨⟨_, _, _, hh, by decide⟩, fun i hi => ?_⟩
  simp only [World.cell?, hh]
  simpa using hc i hi
theorem RdS.next {α : Type} {E : El α} (hE : E.OK) {av : Nat → Prop} {w0 w w' : World} {v : Value} {l : List α} {base b p : Nat} (h : RdS E (fresh av w0) w v l) (hf : Fr base b p w w') (hav : ∀ i, av i → i ≠ b ∧ i ≠ p) (hb : b < w0.heap.size) (hp : p < w0.heap.size) : RdS E (fresh av w0) w' v l :=
  h.keep hE (hf.keeps.mono fun i _ hi => fresh_av hav hb hp i hi)
end
end Go.Proofs.YtpknalpdcfjffaaGreat
