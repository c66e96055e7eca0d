/- What a text of a reading reads as, plain: a good text is read back, and every other text is refused. No conditions, no walk. -/
import Derived.Test.YtanfbfmchhbgfaaDoorFormE
import Derived.Test.YtanfbfmchhbgfaaDoorLet
namespace Go.Proofs.YtanfbfmchhbgfaaDoor
open Go Go.RowKit

def isD (b : UInt8) : Bool := 48 ≤ b.toNat && b.toNat ≤ 57
def valL (l : List UInt8) : Nat := l.foldl (fun a b => 10 * a + (b.toNat - 48)) 0
theorem valL_snoc (l : List UInt8) (b : UInt8) : valL (l ++ [b]) = 10 * valL l + (b.toNat - 48) := by simp [valL, List.foldl_append]
theorem valL_lt : ∀ (k : Nat) (l : List UInt8), l.length = k → (∀ b ∈ l, isD b = true) → valL l < 10 ^ k
  | 0, l, h, _ => by
    have : l = [] := List.eq_nil_of_length_eq_zero h
    subst this; simp [valL]
  | k + 1, l, h, hd => by
    obtain ⟨l', b, rfl⟩ : ∃ l' b, l = l' ++ [b] := ⟨l.dropLast, l.getLast (by intro e; subst e; simp at h), (List.dropLast_concat_getLast _).symm⟩
    have ih := valL_lt k l' (by simp at h; exact h) (fun x hx => hd x (by simp [hx]))
    have hb := hd b (by simp)
    simp [isD] at hb
    rw [valL_snoc, Nat.pow_succ]
    omega
theorem decW_isD : ∀ (k n : Nat), ∀ b ∈ decW k n, isD b = true
  | 0, _, b, h => by simp [decW] at h
  | k + 1, n, b, h => by
    rw [decW_step, List.mem_append] at h
    rcases h with h | h
    · exact decW_isD k _ b h
    · simp at h; subst h
      have := digit_nat (n % 10) (by omega)
      simp only [isD, this]; simp; omega
theorem valL_decW : ∀ (k n : Nat), n < 10 ^ k → valL (decW k n) = n
  | 0, n, h => by simp at h; subst h; rfl
  | k + 1, n, h => by
    rw [decW_step, valL_snoc, valL_decW k (n / 10) (pow_div h), digit_nat _ (by omega)]
    omega

/-- The value that the text behind a letter has. -/
def parseV (t : List UInt8) : Int := if Lib.hasPrefix t [45] = true then -(valL (Lib.trimPrefix t [45]) : Int) else (valL (Lib.trimPrefix t [45]) : Int)
/-- What a text reads as: the element, the value, the error. -/
def parseR (s : ByteArray) : Int × Int × Int :=
  match s.data.toList with
  | [] => (0, 0, 3)
  | a :: t =>
    if byL ⟨#[a]⟩ ≠ 0 ∧ (∀ b ∈ Lib.trimPrefix t [45], isD b = true) ∧ chk (byL ⟨#[a]⟩) (parseV t) = 0 ∧ fmtS (byL ⟨#[a]⟩) (parseV t) = s then (byL ⟨#[a]⟩, parseV t, 0) else (0, 0, 3)

theorem hasPrefix_45 (t : List UInt8) : Lib.hasPrefix t [45] = (t.head? == some 45) := by
  cases t with
  | nil => rfl
  | cons a b => simp [Lib.hasPrefix, List.isPrefixOf]; exact BEq.comm
theorem trimPrefix_45 (t : List UInt8) : Lib.trimPrefix t [45] = if t.head? == some 45 then t.tail else t := by
  unfold Lib.trimPrefix; rw [hasPrefix_45]; simp

/-- The shape of a good text. -/
theorem fmt_shape {c v : Int} (h : chk c v = 0) : ∃ a, letter c = ⟨#[a]⟩ ∧ byL ⟨#[a]⟩ = c ∧ 4 ≤ (digits c).toNat ∧ (digits c).toNat ≤ 5 ∧ v.natAbs < 10 ^ (digits c).toNat ∧
    fmtS c v = ⟨(a :: ((if v < 0 then [45] else []) ++ decW (digits c).toNat v.natAbs)).toArray⟩ := by
  obtain ⟨_, h1, h2, _, _, he⟩ := chk_ok h
  obtain ⟨a, ha⟩ := letter_ok he
  have hl := least_le c
  have hp := pow_ok he
  refine ⟨a, ha, by rw [← ha]; exact byL_letter c he, ?_, by omega, ?_, ?_⟩
  · unfold digits; split <;> (try split) <;> omega
  · generalize 10 ^ (digits c).toNat = p at *; omega
  · unfold fmtS fmtL; rw [if_pos h, ha]; rfl

theorem good_tail {c v : Int} (h : chk c v = 0) {t : List UInt8} (e : t = (if v < 0 then [45] else []) ++ decW (digits c).toNat v.natAbs) :
    Lib.trimPrefix t [45] = decW (digits c).toNat v.natAbs ∧ Lib.hasPrefix t [45] = decide (v < 0) := by
  obtain ⟨a, _, _, h4, _, _, _⟩ := fmt_shape h
  rw [hasPrefix_45, trimPrefix_45]
  by_cases hv : v < 0
  · rw [if_pos hv] at e; subst e; simp [hv]
  · rw [if_neg hv, List.nil_append] at e
    have : t.head? ≠ some 45 := by
      intro hh
      have hm : (45 : UInt8) ∈ t := by
        cases t with
        | nil => simp at hh
        | cons x y => simp at hh; simp [hh]
      rw [e] at hm
      have := decW_isD _ _ _ hm
      simp [isD] at this
    have hb : (t.head? == some 45) = false := by simpa using this
    rw [hb]
    simp [hv, e]

theorem parse_fmt {c v : Int} (h : chk c v = 0) : parseR (fmtS c v) = (c, v, 0) := by
  obtain ⟨a, ha, hb, h4, h5, hp, hf⟩ := fmt_shape h
  obtain ⟨g1, g2⟩ := good_tail h rfl
  have he := (chk_ok h).2.2.2.2.2
  have hval := valL_decW _ _ hp
  have hv : parseV ((if v < 0 then [45] else []) ++ decW (digits c).toNat v.natAbs) = v := by
    unfold parseV
    rw [g1, g2, hval]
    by_cases q : v < 0
    · rw [if_pos (by simpa using q)]; omega
    · rw [if_neg (by simpa using q)]; omega
  have hs : (fmtS c v).data.toList = a :: ((if v < 0 then [45] else []) ++ decW (digits c).toNat v.natAbs) := by rw [hf]
  unfold parseR
  rw [hs]
  simp only [hb, hv, g1]
  rw [if_pos ⟨by omega, decW_isD _ _, h, trivial⟩]

/-- Whatever is read is a good text. -/
theorem parse_good (s : ByteArray) : (parseR s).2.2 = 3 ∧ parseR s = (0, 0, 3) ∨ chk (parseR s).1 (parseR s).2.1 = 0 ∧ fmtS (parseR s).1 (parseR s).2.1 = s ∧ (parseR s).2.2 = 0 := by
  unfold parseR
  split
  · left; exact ⟨rfl, rfl⟩
  · split
    · rename_i h; right; exact ⟨h.2.2.1, h.2.2.2, rfl⟩
    · left; exact ⟨rfl, rfl⟩
/-- A text that is no good text's is refused. -/
theorem parse_bad {s : ByteArray} (h : ∀ c v, chk c v = 0 → fmtS c v ≠ s) : parseR s = (0, 0, 3) := by
  rcases parse_good s with q | q
  · exact q.2
  · exact absurd q.2.1 (h _ _ q.1)
theorem parseR_at {s : ByteArray} {a : UInt8} {t : List UInt8} {c : Int} (hs : s.data.toList = a :: t) (hc : byL ⟨#[a]⟩ = c) (h0 : c ≠ 0) (hd : ∀ b ∈ Lib.trimPrefix t [45], isD b = true) :
    (chk c (parseV t) = 0 ∧ fmtS c (parseV t) = s → parseR s = (c, parseV t, 0)) ∧ (¬ (chk c (parseV t) = 0 ∧ fmtS c (parseV t) = s) → parseR s = (0, 0, 3)) := by
  have hR : parseR s = if byL ⟨#[a]⟩ ≠ 0 ∧ (∀ b ∈ Lib.trimPrefix t [45], isD b = true) ∧ chk (byL ⟨#[a]⟩) (parseV t) = 0 ∧ fmtS (byL ⟨#[a]⟩) (parseV t) = s then (byL ⟨#[a]⟩, parseV t, 0) else (0, 0, 3) := by
    unfold parseR; rw [hs]
  rw [hc] at hR
  constructor
  · intro h; rw [if_pos ⟨h0, hd, h.1, h.2⟩] at hR; exact hR
  · intro h; rw [if_neg (fun q => h ⟨q.2.2.1, q.2.2.2⟩)] at hR; exact hR
def zeroR : Value := .agg #[.int .i64 0, .int .i64 0]
def parseAns (s : ByteArray) : Value := .tuple #[.agg #[.int .i64 (parseR s).1, .int .i64 (parseR s).2.1], .int .i64 (parseR s).2.2]
theorem parseAns_bad {s : ByteArray} (h : parseR s = (0, 0, 3)) : parseAns s = .tuple #[zeroR, .int .i64 3] := by unfold parseAns; rw [h]; rfl
theorem parseAns_good {s : ByteArray} {c v : Int} (h : parseR s = (c, v, 0)) : parseAns s = .tuple #[.agg #[.int .i64 c, .int .i64 v], .int .i64 0] := by unfold parseAns; rw [h]
end Go.Proofs.YtanfbfmchhbgfaaDoor
