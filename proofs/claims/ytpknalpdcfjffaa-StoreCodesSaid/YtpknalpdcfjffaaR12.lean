/- StoreCrashes answers true at every input. No conditions. -/
import Derived.Test.YtpknalpdcfjffaaR11
set_option linter.unusedVariables false
set_option linter.unusedSimpArgs false
set_option linter.unnecessarySimpa false
/- slices.Clone of bytes, and store.Cut. -/
namespace Go.Proofs.Ytpknalpdcfjffaa
open Go Go.RowKit

theorem ownB_lit0 {w : World} {base : Nat} (hb : base ≤ w.heap.size) : OwnB (w.alloc (.cells #[] 5)) base (.slice (some ⟨w.heap.size, 0, none⟩) 0 0) [] :=
  ⟨rfl, Or.inr ⟨w.heap.size, 0, #[], rfl, hb, heap_alloc_new w _, Nat.le_refl 0, by decide, rfl, rfl⟩⟩
theorem eq_nil (w : World) (c : Nat) : (binOp .eql 22 (.slice none 0 c) (.slice none 0 0)).run Try.prog w = .ok (.bool true) w := by kernel_rfl
theorem eq_some (w : World) (A : Addr) (n c : Nat) : (binOp .eql 22 (.slice (some A) n c) (.slice none 0 0)).run Try.prog w = .ok (.bool false) w := by kernel_rfl
def CloneIs (l : List UInt8) (w : World) (e : Ending) (w' : World) : Prop := ∃ v', e = .returned v' ∧ OwnB w' w.heap.size v' l ∧ Below w.heap.size w w'
set_option maxHeartbeats 16000000 in
set_option maxRecDepth 100000 in
theorem clone_any (v : Value) (l : List UInt8) (w : World) (h : BytesL w w.heap.size v l) (hm : l.length ≤ 150000000000000) : Calls Try.prog 35 #[v] w (CloneIs l w) := by
  obtain ⟨a, c, rfl⟩ := h.slice
  cases a with
  | none =>
    have hl : l = [] := by
      obtain ⟨a', c', e, _, _, h3⟩ := h
      cases l with
      | nil => rfl
      | cons x r =>
        obtain ⟨ab, ao, ea, _⟩ := h3 0 (by simp)
        subst ea
        simp at e
    subst hl
    clear h hm
    have hq := eq_nil w c
    go_enter Try.func35, Try.ntmps35
    go_wp2_with fail
    go_ret
    exact ⟨_, rfl, World.ownsRow_nil _ _ _ _, Below.refl _ _⟩
  | some A =>
    have hB : Below w.heap.size w (w.alloc (.cells #[] 5)) := (Below.refl _ _).alloc (Nat.le_refl _) _
    obtain ⟨v2, w2, hrun, ho, hb⟩ := append_bl (ownB_lit0 (Nat.le_refl w.heap.size)) (h.below hB) (by simp) hm hB.size 22
    rw [List.nil_append] at ho
    have HRun := Lib.hid hrun
    have HO := Lib.hid ho
    have HB := Lib.hid (hB.trans hb)
    clear h hm hB hrun ho hb
    have hq := eq_some w A l.length c
    go_enter Try.func35, Try.ntmps35
    go_wp2_with (first
      | (at_builtin; refine wpList_append_run rfl _ _ _ rfl _ _ _ _ rfl rfl HRun.out ?_; clear HRun)
      | fail)
    go_ret
    exact ⟨_, rfl, HO.out, HB.out⟩
def CutIs (l : List UInt8) (n : Int) (w : World) (e : Ending) (w' : World) : Prop := CloneIs (l.take (l.length - (min (max n 0) l.length).toNat)) w e w'
set_option maxHeartbeats 16000000 in
set_option maxRecDepth 100000 in
theorem cut_any (v : Value) (l : List UInt8) (n : Int) (hn : I64 n) (w : World) (h : BytesL w w.heap.size v l) (hm : l.length ≤ 150000000000000) : Calls Try.prog 19 #[v, .int .i64 n] w (CutIs l n w) := by
  obtain ⟨a, c, rfl⟩ := h.slice
  have HL := Lib.hid h
  have hlc : l.length ≤ c := by
    obtain ⟨a', c', e, h1, _⟩ := h
    obtain ⟨_, rfl⟩ : a = a' ∧ c = c' := by simpa using e
    exact h1
  have m0 : (l.length : Int) ≤ 150000000000000 := by omega
  have m1 : (l.length : Int) ≤ (c : Int) := by omega
  have HM := Lib.hid hm
  clear h hm
  unfold I64 at hn
  have fin : ∀ K : Nat, K = l.length - (min (max n 0) l.length).toNat → Hid (Calls Try.prog 35 #[.slice a K c] w (CutIs l n w)) := fun K hK => by
    subst hK
    exact clone_any _ _ w (HL.out.take _ (by omega)) (by rw [List.length_take]; have := HM.out; omega)
  have HF := Lib.hid fin
  clear fin
  by_cases h0 : n < 0
  · have H := HF.out l.length (by omega)
    clear HF
    go_enter Try.func19, Try.ntmps19
    go_wp2_with fail
    refine H.out.mono ?_
    rintro e w2 ⟨v2, rfl, ho, hb⟩
    have HO := Lib.hid ho
    have HB := Lib.hid hb
    clear ho hb
    go_wp2_with fail
    go_ret
    exact ⟨_, rfl, HO.out, HB.out⟩
  · obtain ⟨k, rfl⟩ := Int.eq_ofNat_of_zero_le (show 0 ≤ n by omega)
    by_cases h1 : k ≤ l.length
    · have h1' : (k : Int) ≤ (l.length : Int) := by omega
      have H := HF.out (l.length - k) (by omega)
      clear HF
      have hs : ((l.length : Int) - (k : Int)).toNat = l.length - k := by omega
      go_enter Try.func19, Try.ntmps19
      go_wp2_with fail
      refine H.out.mono ?_
      rintro e w2 ⟨v2, rfl, ho, hb⟩
      have HO := Lib.hid ho
      have HB := Lib.hid hb
      clear ho hb
      go_wp2_with fail
      go_ret
      exact ⟨_, rfl, HO.out, HB.out⟩
    · have h1' : (l.length : Int) < (k : Int) := by omega
      have H := HF.out 0 (by omega)
      clear HF
      go_enter Try.func19, Try.ntmps19
      go_wp2_with fail
      refine H.out.mono ?_
      rintro e w2 ⟨v2, rfl, ho, hb⟩
      have HO := Lib.hid ho
      have HB := Lib.hid hb
      clear ho hb
      go_wp2_with fail
      go_ret
      exact ⟨_, rfl, HO.out, HB.out⟩
end Go.Proofs.Ytpknalpdcfjffaa
/- store.Append. -/
namespace Go.Proofs.Ytpknalpdcfjffaa
open Go Go.RowKit

/-- What Append gives: the journal with the entries behind it, or the first error. -/
def appRes : List UInt8 → List Ent → List UInt8 × Int
  | acc, [] => (acc, 0)
  | acc, x :: xs => if (encRes x.kind (entB x)).2 = 0 then appRes (acc ++ (encRes x.kind (entB x)).1) xs else ([], (encRes x.kind (entB x)).2)
theorem encRes_len (k : Int) (o : Option (List UInt8)) : (encRes k o).1.length ≤ 1048576 := by
  unfold encRes
  cases o with
  | none => simp
  | some b =>
    simp only
    split
    · simp
    · simp only [List.length_append, be_length, List.length_cons]; omega
theorem encRes_int (k : Int) (o : Option (List UInt8)) : 0 ≤ (encRes k o).2 ∧ (encRes k o).2 ≤ 4 := by
  unfold encRes
  cases o with
  | none => simp
  | some b => simp only; split <;> simp
def AppIs (jl : List UInt8) (xs : List Ent) (w : World) (e : Ending) (w' : World) : Prop := ∃ v, e = .returned (.tuple #[v, .int .i64 (appRes jl xs).2]) ∧ OwnB w' w.heap.size v (appRes jl xs).1 ∧ Below w.heap.size w w'
theorem log_load {w : World} {b o : Nat} {es : List Value} (h : w.rangeAt b o es) (hl : es.length = 38) : (loadVar 54 ⟨b, o, none⟩).run Try.prog w = .ok (.agg es.toArray) w := run_loadVar_mid w b o _ es _ h Try.underlying54 rfl (by rw [sz_ent, hl])
/-- An element, as it lies in whatever world keeps what was there. -/
theorem RdS.atBelow {α : Type} {E : El α} {av : Nat → Prop} {w : World} {a : Option Addr} {n c : Nat} {l : List α} (hE : E.OK) (h : RdS E av w (.slice a n c) l) (i : Nat) (hi : i < l.length) :
    ∃ (ab ao : Nat) (es : List Value), a = some ⟨ab, ao, none⟩ ∧ ∀ W, Below w.heap.size w W → E.rep av W es l[i] ∧ W.rangeAt ab (ao + i * E.n) es := by
  obtain ⟨ab, ao, es, ea, e1, e2⟩ := h.at hE i hi
  refine ⟨ab, ao, es, ea, fun W hW => ⟨hE.keep e1 (Keeps.of_below hW), fun j v hj => ?_⟩⟩
  have h1 := e2 j v hj
  exact cell_then hW h1
theorem OwnB.grownB {w w' : World} {base : Nat} {v : Value} {l : List UInt8} (h : OwnB w base v l) (hb : Below w.heap.size w w') : OwnB w' base v l := ownsRow_below h hb
set_option maxHeartbeats 16000000 in
set_option maxRecDepth 100000 in
theorem app_any (v lv : Value) (jl : List UInt8) (xs : List Ent) (av : Nat → Prop) (w : World) (h : BytesL w w.heap.size v jl) (hx : RdS entE av w lv xs) (hs : ∀ x ∈ xs, ∀ b, entB x = some b → b.length ≤ 9000000) (hm : jl.length + 1048576 * xs.length ≤ 900000000) :
    Calls Try.prog 17 #[v, lv] w (AppIs jl xs w) := by
  have HX := Lib.hid hx
  have HS := Lib.hid hs
  have HM := Lib.hid hm
  have nl := hx.le
  obtain ⟨la, lc, rfl⟩ := hx.slice
  have HC := Lib.hid (clone_any v jl w h (by omega))
  clear hx hs hm h
  obtain ⟨n, hn⟩ : ∃ n, n = xs.length := ⟨_, rfl⟩
  rw [← hn] at HX nl ⊢
  have HN := Lib.hid hn
  clear hn
  have m1 : (n : Int) ≤ 1000000 := by omega
  go_enter Try.func17, Try.ntmps17
  go_wp2_with fail
  refine HC.out.mono ?_
  rintro e w1 ⟨v1, rfl, ho, hb⟩
  have HO := Lib.hid (And.intro ho hb)
  clear ho hb HC
  go_wp2_with fail
  go_loopw [6, 15] (fun ov kv wr => ∃ (i : Nat) (acc : List UInt8), kv = .int .i64 i ∧ i ≤ n ∧ Hid (OwnB wr w.heap.size ov acc ∧ Below w.heap.size w wr) ∧ Hid (appRes jl xs = appRes acc (xs.drop i) ∧ acc.length + 1048576 * (n - i) ≤ 900000000)) (fun _ kv _ => (2000000 - intOf kv).toNat)
  case atStart => exact ⟨0, jl, rfl, by omega, HO, ⟨by simp, by have := HM.out; have := HN.out; omega⟩⟩
  case round =>
    clear HO
    obtain ⟨i, acc, rfl, hi, HS1, HA⟩ := hrel
    by_cases hin : i < n
    · have i0 : (i : Int) < (n : Int) := by omega
      have hil : i < xs.length := by have := HN.out; omega
      obtain ⟨ab, ao, es, rfl, hal⟩ := HX.out.atBelow entE_ok i hil
      obtain ⟨hre, hrg⟩ := hal wr HS1.out.2
      have hdr : xs.drop i = xs[i] :: xs.drop (i + 1) := List.drop_eq_getElem_cons hil
      have hsm := HS.out _ (List.getElem_mem hil)
      generalize xs[i] = x at hre hdr hsm
      have HRe := Lib.hid hre
      have HRg : Hid (wr.rangeAt ab (ao + i * 38) es) := hrg
      have HEl : es.length = 38 := entE_ok.len hre
      have HDr := Lib.hid hdr
      have HSm := Lib.hid hsm
      clear hre hrg hdr hsm hil hal
      go_wp2_with (first
        | (refine list_loadAgg (log_load HRg.out HEl) rfl _ rfl rfl ?_)
        | (refine list_storeAgg rfl _ _ rfl wr.heap.size 0 rfl es rfl (by rw [sz_ent, HEl]) (entE_ok.one HRe.out) (log_there wr _ (by rw [HEl]; exact Nat.le_refl 38)) ?_
           intro w4 hw
           have h4 := log_new wr es HEl hw
           have HP4 := Lib.hid h4.1
           have HB4 := Lib.hid (below_then HS1.out.2 h4.2)
           have HO4 := Lib.hid (HS1.out.1.grownB h4.2)
           have HR4 := Lib.hid (entE_ok.keep HRe.out (Keeps.of_below h4.2))
           clear hw h4 HRe HRg)
        | (refine list_loadAgg (ent_load0 w4 wr.heap.size es HEl HP4.out.1.range) rfl _ rfl rfl ?_)
        | fail)
      have hei := encRes_int x.kind (entB x)
      have hel := encRes_len x.kind (entB x)
      refine (encode_any x es av w4 HR4.out HSm.out).mono ?_
      rintro e w5 ⟨v5, rfl, ho5, hb5⟩
      have hap : appRes acc (xs.drop i) = if (encRes x.kind (entB x)).2 = 0 then appRes (acc ++ (encRes x.kind (entB x)).1) (xs.drop (i + 1)) else ([], (encRes x.kind (entB x)).2) := by rw [HDr.out]; rfl
      generalize encRes x.kind (entB x) = q at hei hel ho5 hap ⊢
      obtain ⟨qb, qe⟩ := q
      dsimp only at hei hel ho5 hap ⊢
      obtain ⟨a5, c5, rfl⟩ := ho5.slice
      have HB5 := Lib.hid (below_then HB4.out hb5)
      have ho5' : BytesL w5 w5.heap.size (.slice a5 qb.length c5) qb := ho5.bl
      have hoA : OwnB w5 w.heap.size u6 acc := HO4.out.grownB hb5
      have HEi := Lib.hid hei
      by_cases he : qe = 0
      · subst he
        rw [if_pos rfl] at hap
        obtain ⟨v6, w6, hrun, ho6, hb6⟩ := append_bl hoA ho5' (by have := HA.out.2; omega) (by omega) HB5.out.size 22
        have HRun := Lib.hid hrun
        have HN6 : Hid (OwnB w6 w.heap.size v6 (acc ++ qb) ∧ Below w.heap.size w w6) := ⟨ho6, HB5.out.trans hb6⟩
        have HA6 : Hid (appRes jl xs = appRes (acc ++ qb) (xs.drop (i + 1)) ∧ (acc ++ qb).length + 1048576 * (n - (i + 1)) ≤ 900000000) := by
          refine ⟨HA.out.1.trans hap, ?_⟩
          have h1 := HA.out.2
          have h2 : 1048576 * (n - i) = 1048576 * (n - (i + 1)) + 1048576 := by
            rw [show n - i = n - (i + 1) + 1 by omega, Nat.mul_add]
          rw [List.length_append]; omega
        clear hei hel ho5 hap ho5' hoA hrun ho6 hb6 hb5 HB5 HO4 HB4 HR4 HP4 HA HS1 HDr
        go_wp2_with (first
          | (at_builtin; refine wpList_append_run rfl _ _ _ rfl _ _ _ _ rfl rfl HRun.out ?_; clear HRun)
          | fail)
        go_roundw
        case rel => exact ⟨i + 1, _, by go_num, by omega, HN6, HA6⟩
        case measure => simp [intOf]; omega
      · rw [if_neg he] at hap
        have HF : Hid (AppIs jl xs w (.returned (.tuple #[.slice none 0 0, .int .i64 qe])) w5) := ⟨_, by rw [HA.out.1, hap], by rw [HA.out.1, hap]; exact OwnB.nil _ _, HB5.out⟩
        have hne : (qe != 0) = true := by simpa using he
        clear hei hel ho5 hap ho5' hoA hb5 HB5 HO4 HB4 HR4 HP4 HA HS1 HDr
        go_wp2_with fail
        go_ret2
        exact HF.out
    · obtain rfl : n = i := by omega
      have HF : Hid (AppIs jl xs w (.returned (.tuple #[u6, .int .i64 0])) wr) := by
        have e : xs.drop n = [] := List.drop_eq_nil_of_le (by have := HN.out; omega)
        refine ⟨_, by rw [HA.out.1, e]; rfl, by rw [HA.out.1, e]; exact HS1.out.1, HS1.out.2⟩
      clear HA HS1
      go_wp2_with fail
      go_ret2
      exact HF.out
end Go.Proofs.Ytpknalpdcfjffaa
/- store.Read. -/
namespace Go.Proofs.Ytpknalpdcfjffaa
open Go Go.RowKit

theorem decRes_ok (l : List UInt8) (h : (decRes l).2.2 = 0) : 8 ≤ (decRes l).2.1 ∧ (decRes l).2.1 ≤ l.length := by
  by_cases h1 : l.length < 4
  · unfold decRes at h; rw [if_pos h1] at h; simp at h
  by_cases h2 : 1048576 < num (l.take 4) + 8
  · unfold decRes at h; rw [if_neg h1, if_pos h2] at h; simp at h
  by_cases h3 : l.length < num (l.take 4) + 8
  · unfold decRes at h; rw [if_neg h1, if_neg h2, if_pos h3] at h; simp at h
  unfold decRes at h ⊢
  rw [if_neg h1, if_neg h2, if_neg h3] at h ⊢
  split at h
  · simp at h
  · rename_i h4
    rw [if_neg h4]
    split at h
    · simp at h
    · rename_i h5
      rw [if_neg h5]
      split at h
      · simp at h
      · rename_i h6
        rw [if_neg h6]
        split at h
        · dsimp only
          omega
        · simp at h
theorem decRes_err (l : List UInt8) : 0 ≤ (decRes l).2.2 ∧ (decRes l).2.2 ≤ 11 := by
  unfold decRes
  repeat' split
  all_goals (simp only; omega)
/-- What Read gives, by fuel. -/
def readRes : Nat → List UInt8 → List Ent × Nat
  | 0, _ => ([], 0)
  | f + 1, l => if (decRes l).2.2 = 0 then ((decRes l).1 :: (readRes f (l.drop (decRes l).2.1)).1, (decRes l).2.1 + (readRes f (l.drop (decRes l).2.1)).2) else ([], 0)
theorem read_fuel : ∀ (f g : Nat) (l : List UInt8), l.length < f → l.length < g → readRes f l = readRes g l
  | 0, _, _, h, _ => by omega
  | _ + 1, 0, _, _, h => by omega
  | f + 1, g + 1, l, h1, h2 => by
    simp only [readRes]
    by_cases he : (decRes l).2.2 = 0
    · rw [if_pos he, if_pos he]
      have hd := decRes_ok l he
      have := read_fuel f g (l.drop (decRes l).2.1) (by rw [List.length_drop]; omega) (by rw [List.length_drop]; omega)
      rw [this]
    · rw [if_neg he, if_neg he]
def readAll (l : List UInt8) : List Ent × Nat := readRes (l.length + 1) l
theorem readAll_step (l : List UInt8) : readAll l = if (decRes l).2.2 = 0 then ((decRes l).1 :: (readAll (l.drop (decRes l).2.1)).1, (decRes l).2.1 + (readAll (l.drop (decRes l).2.1)).2) else ([], 0) := by
  unfold readAll
  rw [readRes]
  by_cases he : (decRes l).2.2 = 0
  · rw [if_pos he, if_pos he]
    have hd := decRes_ok l he
    rw [read_fuel l.length ((l.drop (decRes l).2.1).length + 1) (l.drop (decRes l).2.1) (by rw [List.length_drop]; omega) (by omega)]
  · rw [if_neg he, if_neg he]
theorem RowE.below {α : Type} {E : El α} {T : TypeId} {base : Nat} {w w' : World} {v : Value} {l : List α} (hE : E.OK) (h : RowE E T base w v l) (hb : Below w.heap.size w w') : RowE E T base w' v l := by
  obtain ⟨cc, h1, h2⟩ := h
  refine ⟨cc, ownsRow_below h1 hb, fun j hj => ?_⟩
  obtain ⟨es, e1, e2⟩ := h2 j hj
  exact ⟨es, hE.keep e1 (Keeps.of_below hb), e2⟩
theorem BytesL.up {w : World} {base B : Nat} {v : Value} {l : List UInt8} (h : BytesL w base v l) (hB : base ≤ B) : BytesL w B v l := by
  obtain ⟨a, c, e, h1, h2, h3⟩ := h
  exact ⟨a, c, e, h1, h2, fun i hi => by obtain ⟨ab, ao, ea, hlt, hc⟩ := h3 i hi; exact ⟨ab, ao, ea, Nat.lt_of_lt_of_le hlt hB, hc⟩⟩
theorem logT : ElT 54 56 38 aggOf (kc 0) := elT_row Try.underlying56 Try.underlying54 rfl (z := .agg (kc 0).toArray) (by_ := 480) (by kernel_rfl) rfl (by decide) (by decide) (by decide) (by decide) (kc_length 0)
def ReadIs (l : List UInt8) (w : World) (e : Ending) (w' : World) : Prop := ∃ v, e = .returned (.tuple #[v, .int .i64 ((readAll l).2 : Nat)]) ∧ RdS entE (w.heap.size ≤ ·) w' v (readAll l).1 ∧ Below w.heap.size w w'
set_option maxHeartbeats 16000000 in
set_option maxRecDepth 100000 in
theorem read_any (v : Value) (l : List UInt8) (w : World) (h : BytesL w w.heap.size v l) (hm : l.length ≤ 900000) : Calls Try.prog 18 #[v] w (ReadIs l w) := by
  obtain ⟨a, c, rfl⟩ := h.slice
  have hlc : l.length ≤ c ∧ c ≤ 9223372036854775807 := by
    obtain ⟨a', c', e, h1, h2, _⟩ := h
    obtain ⟨_, rfl⟩ : a = a' ∧ c = c' := by simpa using e
    exact ⟨h1, h2⟩
  have HL := Lib.hid h
  have HM := Lib.hid hm
  obtain ⟨n, hn⟩ : ∃ n, n = l.length := ⟨_, rfl⟩
  rw [← hn] at HL hlc ⊢
  have HN := Lib.hid hn
  have m1 : (n : Int) ≤ 900000 := by omega
  have m2 : (n : Int) ≤ (c : Int) := by omega
  have m3 : (c : Int) ≤ 9223372036854775807 := by omega
  have HLc := Lib.hid hlc
  clear h hm hn hlc
  have HS : Hid (RowE entE 54 w.heap.size w (.slice none 0 0) [] ∧ Below w.heap.size w w) := ⟨.nil, Below.refl _ _⟩
  go_enter Try.func18, Try.ntmps18
  go_wp2_with fail
  go_loopw [4, 5] (fun lv kv wr => ∃ (i : Nat) (done : List Ent), kv = .int .i64 i ∧ i ≤ n ∧ Hid (RowE entE 54 w.heap.size wr lv done ∧ Below w.heap.size w wr) ∧ Hid (readAll l = (done ++ (readAll (l.drop i)).1, i + (readAll (l.drop i)).2) ∧ done.length ≤ i)) (fun _ kv _ => (2000000 - intOf kv).toNat)
  case atStart => exact ⟨0, [], rfl, by omega, HS, ⟨by simp, by simp⟩⟩
  case round =>
    clear HS
    obtain ⟨i, done, rfl, hi, HS1, HA⟩ := hrel
    have i0 : (i : Int) ≤ (n : Int) := by omega
    have i1 : (i : Int) ≤ (c : Int) := by omega
    by_cases hci : c = i
    · have hni : n = i := by omega
      have hd0 : l.drop i = [] := List.drop_eq_nil_of_le (by have := HN.out; omega)
      have HNe : Hid ((decRes (l.drop i)).2.2 ≠ 0) := by unfold Hid; rw [hd0]; decide
      have HBl : Hid (BytesL wr wr.heap.size (.slice a (n - i) 0) (l.drop i)) := by
        have h1 : BytesL wr w.heap.size (.slice a n c) l := HL.out.below HS1.out.2
        have h2 := h1.drop (a2 := a) i (by have := HN.out; omega) (fun h => by have := HN.out; omega)
        rw [← HN.out] at h2
        have e : c - i = 0 := by omega
        rw [e] at h2
        exact h2.up HS1.out.2.size
      clear hd0 hni
      go_wp2_with fail
      obtain ⟨va, vc, rfl⟩ := HS1.out.1.slice
      refine (decode_any _ (l.drop i) wr HBl.out).mono ?_
      rintro e w3 ⟨cs, rfl, hrep, hb3⟩
      have hei := decRes_err (l.drop i)
      have HcsL : cs.length = 38 := entE_ok.len hrep
      have HRp := Lib.hid hrep
      have HB3 := Lib.hid hb3
      obtain ⟨qn, hqn⟩ : ∃ q, q = (decRes (l.drop i)).2.1 := ⟨_, rfl⟩
      obtain ⟨qe, hqe⟩ : ∃ q, q = (decRes (l.drop i)).2.2 := ⟨_, rfl⟩
      rw [← hqn, ← hqe]
      have HQn := Lib.hid hqn
      have HQe := Lib.hid hqe
      clear hrep hb3 hqn hqe HBl
      have hne : (qe != 0) = true := by rw [HQe.out]; simpa using HNe.out
      clear hei
      go_wp2_with (first
        | (refine list_storeAgg rfl _ _ rfl w3.heap.size 0 rfl cs rfl (by rw [sz_ent, HcsL]) (entE_ok.one HRp.out) (log_there w3 _ (Nat.le_of_eq HcsL)) ?_
           intro w4 hw
           have h4 := log_new w3 cs HcsL hw
           have HP4 := Lib.hid h4.1
           have HBx : Hid (Below wr.heap.size wr w4) := below_then HB3.out h4.2
           have HB4 := Lib.hid (HS1.out.2.trans (HBx.out.mono HS1.out.2.size))
           have HR4 := Lib.hid (HS1.out.1.below entE_ok HBx.out)
           have HRp4 := Lib.hid (entE_ok.keep HRp.out (Keeps.of_below h4.2))
           clear hw h4 HB3)
        | fail)
      have hdl : done.length ≤ 1000000 := by have := HA.out.2; have := HM.out; have := HN.out; omega
      have HF : Hid (ReadIs l w (.returned (.tuple #[.slice va done.length vc, .int .i64 (i : Nat)])) w4) := by
        have e1 : readAll l = (done, i) := by rw [HA.out.1, readAll_step, if_neg HNe.out]; simp
        exact ⟨_, by rw [e1], by rw [e1]; exact HR4.out.rd entE_ok (by decide) hdl, HB4.out⟩
      clear HA HR4 HB4
      go_wp2_with fail
      go_ret2
      exact HF.out
    · have HBl : Hid (BytesL wr wr.heap.size (.slice (Option.map (fun x => x.add i) a) (n - i) (c - i)) (l.drop i)) := by
        have h1 : BytesL wr w.heap.size (.slice a n c) l := HL.out.below HS1.out.2
        have h2 := h1.drop (a2 := Option.map (fun x => x.add i) a) i (by have := HN.out; omega) (fun _ ab ao e => by rw [e]; simp [Addr.add_mid])
        rw [← HN.out] at h2
        exact h2.up HS1.out.2.size
      go_wp2_with fail
      obtain ⟨va, vc, rfl⟩ := HS1.out.1.slice
      refine (decode_any _ (l.drop i) wr HBl.out).mono ?_
      rintro e w3 ⟨cs, rfl, hrep, hb3⟩
      have hei := decRes_err (l.drop i)
      have HcsL : cs.length = 38 := entE_ok.len hrep
      have HRp := Lib.hid hrep
      have HB3 := Lib.hid hb3
      obtain ⟨qn, hqn⟩ : ∃ q, q = (decRes (l.drop i)).2.1 := ⟨_, rfl⟩
      obtain ⟨qe, hqe⟩ : ∃ q, q = (decRes (l.drop i)).2.2 := ⟨_, rfl⟩
      rw [← hqn, ← hqe]
      have HQn := Lib.hid hqn
      have HQe := Lib.hid hqe
      clear hrep hb3 hqn hqe HBl
      by_cases he : qe = 0
      · subst he
        have HQ0 : Hid ((decRes (l.drop i)).2.2 = 0) := HQe.out.symm
        have hq8 := decRes_ok _ HQ0.out
        rw [← HQn.out, List.length_drop, ← HN.out] at hq8
        have HQ8 := Lib.hid hq8
        have q1 : (qn : Int) ≤ 900000 := by omega
        clear hq8 hei
        go_wp2_with (first
          | (refine list_storeAgg rfl _ _ rfl w3.heap.size 0 rfl cs rfl (by rw [sz_ent, HcsL]) (entE_ok.one HRp.out) (log_there w3 _ (Nat.le_of_eq HcsL)) ?_
             intro w4 hw
             have h4 := log_new w3 cs HcsL hw
             have HP4 := Lib.hid h4.1
             have HBx : Hid (Below wr.heap.size wr w4) := below_then HB3.out h4.2
             have HB4 := Lib.hid (HS1.out.2.trans (HBx.out.mono HS1.out.2.size))
             have HR4 := Lib.hid (HS1.out.1.below entE_ok HBx.out)
             have HRp4 := Lib.hid (entE_ok.keep HRp.out (Keeps.of_below h4.2))
             clear hw h4 HB3)
          | (refine list_loadAgg (ent_load0 w4 w3.heap.size cs HcsL HP4.out.1.range) rfl _ rfl rfl ?_
             have hre : entE.rep (avR w.heap.size (.slice va done.length vc)) w4 cs (decRes (l.drop i)).1 := entE_ok.weak HRp4.out fun k hk _ => by
               have h1 : wr.heap.size ≤ k := hk
               refine ⟨Nat.le_trans HS1.out.2.size h1, fun e => ?_⟩
               have := (HS1.out.1.lt k e).2
               omega
             obtain ⟨v6, w6, hrun, hr6, hb6⟩ := RowE.append entE_ok logT HR4.out hre (by have := HA.out.2; have := HM.out; have := HN.out; omega) HB4.out.size 56
             have HRun := Lib.hid hrun
             have HS6 : Hid (RowE entE 54 w.heap.size w6 v6 (done ++ [(decRes (l.drop i)).1]) ∧ Below w.heap.size w w6) := ⟨hr6, HB4.out.trans hb6⟩
             clear hre hrun hr6 hb6)
          | (refine list_lit logT rfl _ rfl cs rfl HcsL (entE_ok.one HRp4.out) ?_)
          | (at_builtin; refine wpList_append_run rfl _ _ _ rfl _ _ _ _ rfl rfl HRun.out ?_; clear HRun)
          | fail)
        go_roundw
        case rel =>
          refine ⟨i + qn, _, by go_num, by have := HQ8.out; omega, HS6, ?_, ?_⟩
          · rw [HA.out.1, readAll_step, if_pos HQ0.out, ← HQn.out, List.drop_drop, List.append_assoc]
            simp [Nat.add_assoc]
          · rw [List.length_append]
            have := HA.out.2; have := HQ8.out
            simp; omega
        case measure => have := HQ8.out; simp [intOf]; omega
      · have HNe : Hid ((decRes (l.drop i)).2.2 ≠ 0) := by unfold Hid; rw [← HQe.out]; exact he
        have hne : (qe != 0) = true := by simpa using he
        clear hei he
        go_wp2_with (first
          | (refine list_storeAgg rfl _ _ rfl w3.heap.size 0 rfl cs rfl (by rw [sz_ent, HcsL]) (entE_ok.one HRp.out) (log_there w3 _ (Nat.le_of_eq HcsL)) ?_
             intro w4 hw
             have h4 := log_new w3 cs HcsL hw
             have HP4 := Lib.hid h4.1
             have HBx : Hid (Below wr.heap.size wr w4) := below_then HB3.out h4.2
             have HB4 := Lib.hid (HS1.out.2.trans (HBx.out.mono HS1.out.2.size))
             have HR4 := Lib.hid (HS1.out.1.below entE_ok HBx.out)
             have HRp4 := Lib.hid (entE_ok.keep HRp.out (Keeps.of_below h4.2))
             clear hw h4 HB3)
          | fail)
        have hdl : done.length ≤ 1000000 := by have := HA.out.2; have := HM.out; have := HN.out; omega
        have HF : Hid (ReadIs l w (.returned (.tuple #[.slice va done.length vc, .int .i64 (i : Nat)])) w4) := by
          have e1 : readAll l = (done, i) := by rw [HA.out.1, readAll_step, if_neg HNe.out]; simp
          exact ⟨_, by rw [e1], by rw [e1]; exact HR4.out.rd entE_ok (by decide) hdl, HB4.out⟩
        clear HA HR4 HB4
        go_wp2_with fail
        go_ret2
        exact HF.out
end Go.Proofs.Ytpknalpdcfjffaa
/- StoreCrashes in plain data: what a journal that was cut or damaged is read as. No walk. -/
namespace Go.Proofs.Ytpknalpdcfjffaa
open Go Go.RowKit

def encX (x : Ent) : List UInt8 := encB x.kind ((entB x).getD [])
def encs (xs : List Ent) : List UInt8 := xs.flatMap encX
def good (x : Ent) : Prop := okEnt x.kind x ∧ 1 ≤ x.kind ∧ x.kind ≤ 4 ∧ ∃ b, entB x = some b ∧ b.length ≤ 20000
theorem good.enc {x : Ent} (h : good x) : encRes x.kind (entB x) = (encX x, 0) ∧ 9 ≤ (encX x).length ∧ (encX x).length ≤ 20009 := by
  obtain ⟨_, _, _, b, hb, hl⟩ := h
  unfold encX
  rw [hb, encRes_some _ _ (by omega)]
  have hE := encB_length x.kind b
  exact ⟨rfl, show 9 ≤ (encB x.kind b).length by omega, show (encB x.kind b).length ≤ 20009 by omega⟩
theorem good.dec {x : Ent} (h : good x) (rest : List UInt8) : decRes (encX x ++ rest) = (x, (encX x).length, 0) := by
  obtain ⟨h1, h2, h3, b, hb, hl⟩ := h
  unfold encX
  rw [hb]
  show decRes (encB x.kind b ++ rest) = (x, (encB x.kind b).length, 0)
  rw [dec_enc x.kind x b rest h1 hb (by omega) ⟨h2, h3⟩, encB_length]
theorem good.cut {x : Ent} (h : good x) (m : Nat) (hm : m < (encX x).length) : (decRes ((encX x).take m)).2.2 ≠ 0 := by
  obtain ⟨h1, h2, h3, b, hb, hl⟩ := h
  unfold encX at hm ⊢
  rw [hb] at hm ⊢
  have hm : m < (encB x.kind b).length := hm
  show (decRes ((encB x.kind b).take m)).2.2 ≠ 0
  rw [encB_length] at hm
  have hL : ((encB x.kind b).take m).length = m := by rw [List.length_take, encB_length]; omega
  by_cases h4 : m < 4
  · unfold decRes; rw [if_pos (by omega)]; decide
  · have e4 : ((encB x.kind b).take m).take 4 = be 4 (b.length + 1) := by
      rw [List.take_take, show min 4 m = 4 by omega, encB, List.append_assoc, List.take_left' (be_length 4 _)]
    have hn : num (be 4 (b.length + 1)) = b.length + 1 := num_be 4 _ (by rw [pow4]; omega)
    unfold decRes
    simp only [e4, hn]
    rw [if_neg (by omega), if_neg (by omega), if_pos (by omega)]
    decide
theorem read_encs : ∀ (xs : List Ent) (t : List UInt8), (∀ x ∈ xs, good x) → readAll (encs xs ++ t) = (xs ++ (readAll t).1, (encs xs).length + (readAll t).2)
  | [], t, _ => by simp [encs]
  | x :: xs, t, h => by
    have hx := h x (by simp)
    have e : encs (x :: xs) ++ t = encX x ++ (encs xs ++ t) := by simp [encs]
    have hd := hx.dec (encs xs ++ t)
    rw [e, readAll_step, hd]
    dsimp only
    rw [if_pos rfl, List.drop_left, read_encs xs t fun y hy => h y (by simp [hy])]
    simp [encs, Nat.add_assoc]
theorem readAll_stop {t : List UInt8} (h : (decRes t).2.2 ≠ 0) : readAll t = ([], 0) := by rw [readAll_step, if_neg h]
theorem readAll_nil : readAll [] = ([], 0) := readAll_stop (by decide)
/-- How far the first i entries go. -/
def endN (xs : List Ent) (i : Nat) : Nat := (encs (xs.take i)).length
theorem encs_append (xs ys : List Ent) : encs (xs ++ ys) = encs xs ++ encs ys := by simp [encs]
theorem endN_zero (xs : List Ent) : endN xs 0 = 0 := by simp [endN, encs]
theorem endN_all (xs : List Ent) : endN xs xs.length = (encs xs).length := by simp [endN]
theorem endN_succ (xs : List Ent) (i : Nat) (h : i < xs.length) : endN xs (i + 1) = endN xs i + (encX xs[i]).length := by
  unfold endN
  rw [show xs.take (i + 1) = xs.take i ++ [xs[i]] by rw [List.take_add_one]; simp [h], encs_append, List.length_append]
  simp [encs]
theorem endN_snoc (xs : List Ent) (x : Ent) (i : Nat) (h : i ≤ xs.length) : endN (xs ++ [x]) i = endN xs i := by
  unfold endN; rw [List.take_append_of_le_length h]
/-- A journal cut within an entry gives the entries before it. -/
theorem read_cut (xs : List Ent) (hg : ∀ x ∈ xs, good x) (T m : Nat) (h1 : endN xs m ≤ T) (h2 : m < xs.length → T < endN xs (m + 1)) :
    readAll ((encs xs).take T) = (xs.take m, endN xs m) := by
  have e : encs xs = encs (xs.take m) ++ encs (xs.drop m) := by rw [← encs_append, List.take_append_drop]
  have e2 : (encs xs).take T = encs (xs.take m) ++ (encs (xs.drop m)).take (T - endN xs m) := by
    rw [e, List.take_append, List.take_of_length_le (by exact h1)]
    rfl
  have hgt : ∀ x ∈ xs.take m, good x := fun x hx => hg x (List.mem_of_mem_take hx)
  rw [e2, read_encs _ _ hgt]
  have hz : readAll ((encs (xs.drop m)).take (T - endN xs m)) = ([], 0) := by
    rcases Nat.lt_or_ge m xs.length with hlt | hge
    · have hx := hg _ (List.getElem_mem hlt)
      have h3 := endN_succ xs m hlt
      have h4 := h2 hlt
      have e3 : encs (xs.drop m) = encX xs[m] ++ encs (xs.drop (m + 1)) := by
        rw [List.drop_eq_getElem_cons hlt, encs, encs, List.flatMap_cons]
      rw [e3, List.take_append_of_le_length (by omega)]
      exact readAll_stop (hx.cut _ (by omega))
    · rw [List.drop_eq_nil_of_le hge]
      simp only [encs, List.flatMap_nil, List.take_nil]
      exact readAll_nil
  rw [hz]
  simp [endN]
/-- The last index below i whose end lies within T. -/
def whole (xs : List Ent) (T : Nat) : Nat → Nat
  | 0 => 0
  | i + 1 => if endN xs i ≤ T then i else whole xs T i
theorem whole_lt (xs : List Ent) (T : Nat) : ∀ i, 0 < i → whole xs T i < i
  | 0, h => by omega
  | i + 1, _ => by
    unfold whole
    split
    · omega
    · rcases Nat.eq_zero_or_pos i with rfl | hi
      · simp [whole]
      · have := whole_lt xs T i hi; omega
theorem whole_in (xs : List Ent) (T : Nat) : ∀ i, endN xs (whole xs T i) ≤ T
  | 0 => by unfold whole; rw [endN_zero]; omega
  | i + 1 => by
    unfold whole
    split
    · assumption
    · exact whole_in xs T i
theorem whole_max (xs : List Ent) (T : Nat) : ∀ i k, whole xs T i < k → k < i → T < endN xs k
  | 0, k, _, h => by omega
  | i + 1, k, h1, h2 => by
    unfold whole at h1
    split at h1
    · omega
    · rename_i hn
      rcases Nat.lt_or_ge k i with hk | hk
      · exact whole_max xs T i k h1 hk
      · obtain rfl : k = i := by omega
        omega
theorem read_whole (xs : List Ent) (hg : ∀ x ∈ xs, good x) (T : Nat) : readAll ((encs xs).take T) = (xs.take (whole xs T (xs.length + 1)), endN xs (whole xs T (xs.length + 1))) := by
  have h1 := whole_lt xs T (xs.length + 1) (by omega)
  exact read_cut xs hg T _ (whole_in xs T _) (fun h => whole_max xs T (xs.length + 1) (whole xs T (xs.length + 1) + 1) (by omega) (by omega))
/-- Whatever becomes of the last entry's bytes, those before it are read. -/
theorem read_before (xs : List Ent) (hg : ∀ x ∈ xs, good x) (d : List UInt8) (m : Nat) (hd : d.take (endN xs m) = encs (xs.take m)) : ∃ r, (readAll d).1 = xs.take m ++ r := by
  have e : d = encs (xs.take m) ++ d.drop (endN xs m) := by rw [← hd, List.take_append_drop]
  rw [e, read_encs _ _ fun x hx => hg x (List.mem_of_mem_take hx)]
  exact ⟨_, rfl⟩
end Go.Proofs.Ytpknalpdcfjffaa
/- Slices that grow side by side: what lies in the elements lies outside of the other's row, too. No walk. -/
namespace Go.Proofs.Ytpknalpdcfjffaa
open Go Go.RowKit

def RowD {α : Type} (E : El α) (T : TypeId) (base : Nat) (bad : Nat → Prop) (w : World) (v : Value) (l : List α) : Prop :=
  ∃ cc, w.ownsRow base T E.n v l.length cc ∧ ∀ j, (hj : j < l.length) → ∃ es, E.rep (fun k => avR base v k ∧ ¬ bad k) w es l[j] ∧ ∀ q, q < E.n → cc[j * E.n + q]? = es[q]?
section
variable {α : Type} {E : El α} {T ST : TypeId} {ev : List Value → Value} {zc : List Value} {base : Nat} {bad bad' : Nat → Prop} {w w' : World} {v : Value} {l : List α}
theorem RowD.nil : RowD E T base bad w (.slice none 0 0) ([] : List α) := ⟨[], World.ownsRow_nil _ _ _ _, fun j hj => by simp at hj⟩
theorem RowD.e (hE : E.OK) (h : RowD E T base bad w v l) : RowE E T base w v l := by
  obtain ⟨cc, h1, h2⟩ := h
  exact ⟨cc, h1, fun j hj => by obtain ⟨es, e1, e2⟩ := h2 j hj; exact ⟨es, hE.weak e1 fun k hk _ => hk.1, e2⟩⟩
theorem RowD.typed (h : RowD E T base bad w v l) : ∀ g, v.ownBlock = some g → base ≤ g ∧ g < w.heap.size ∧ ∃ c f, w.heap[g]? = some (.cells c T f) := by
  obtain ⟨cc, h1, _⟩ := h
  exact fun g hg => ⟨(ownsRow_typed h1 g hg).1, (World.ownsRow.lt h1 g hg).2, (ownsRow_typed h1 g hg).2⟩
theorem RowD.kept (hE : E.OK) {r : Nat} (h : RowD E T base bad w v l) (hk : KeptBut r w w') (hr : r < base) : RowD E T base bad w' v l := by
  obtain ⟨cc, h1, h2⟩ := h
  refine ⟨cc, ownsRow_block h1 fun g hg => ?_, fun j hj => ?_⟩
  · obtain ⟨h3, h4⟩ := World.ownsRow.lt h1 g hg
    exact hk.2 g h4 (by omega)
  · obtain ⟨es, e1, e2⟩ := h2 j hj
    exact ⟨es, hE.keep e1 (hk.keeps fun h => by have := h.1.1; omega), e2⟩
theorem RowD.below (hE : E.OK) (h : RowD E T base bad w v l) (hb : Below w.heap.size w w') : RowD E T base bad w' v l := by
  obtain ⟨cc, h1, h2⟩ := h
  refine ⟨cc, ownsRow_below h1 hb, fun j hj => ?_⟩
  obtain ⟨es, e1, e2⟩ := h2 j hj
  exact ⟨es, hE.keep e1 (Keeps.of_below hb), e2⟩
/-- The other's row grew. -/
theorem RowD.other (hE : E.OK) (h : RowD E T base bad w v l) (hk : ∀ g, g < w.heap.size → ¬ bad g → w'.heap[g]? = w.heap[g]?) (hv : ∀ g, v.ownBlock = some g → ¬ bad g) (hb : ∀ g, g < w.heap.size → bad' g → bad g) : RowD E T base bad' w' v l := by
  obtain ⟨cc, h1, h2⟩ := h
  refine ⟨cc, ownsRow_block h1 fun g hg => hk g (World.ownsRow.lt h1 g hg).2 (hv g hg), fun j hj => ?_⟩
  obtain ⟨es, e1, e2⟩ := h2 j hj
  have r4 : E.rep (fun k => (avR base v k ∧ ¬ bad k) ∧ k < w.heap.size) w es l[j] := hE.weak e1 fun g h5 h6 => ⟨h5, h6⟩
  have r5 : E.rep (fun k => (avR base v k ∧ ¬ bad k) ∧ k < w.heap.size) w' es l[j] := hE.keep r4 fun g c t f e4 e5 e6 => hk g e6.2 e6.1.2
  exact ⟨es, hE.weak r5 fun g h5 _ => ⟨h5.1.1, fun hb' => h5.1.2 (hb g h5.2 hb')⟩, e2⟩
theorem RowD.append (hE : E.OK) (hT : ElT T ST E.n ev zc) (h : RowD E T base bad w v l) {es : List Value} {x : α} (he : E.rep (fun k => avR base v k ∧ ¬ bad k) w es x) (hm : l.length ≤ 1000000) (hb : base ≤ w.heap.size) (ty : TypeId) :
    ∃ (v' : Value) (w' : World), (Builtin.append_ #[ST, ST] ty #[v, .slice (some ⟨w.heap.size, 0, none⟩) 1 1]).run Try.prog (w.alloc (.cells es.toArray T)) = .ok v' w' ∧ RowD E T base bad w' v' (l ++ [x]) ∧ Below base w w' ∧
      (∀ g, g < w.heap.size → v.ownBlock ≠ some g → w'.heap[g]? = w.heap[g]?) ∧ (v'.ownBlock = v.ownBlock ∨ ∀ g, v'.ownBlock = some g → w.heap.size < g) := by
  obtain ⟨cc, r1, r2⟩ := h
  obtain ⟨v', w4, a1, a2, a3, a4⟩ := hT.append r1 (hE.len he) (hE.one he) hm hb ty
  have hg : ∀ g, v.ownBlock = some g → base ≤ g ∧ g < w.heap.size := fun g hg => World.ownsRow.lt r1 g hg
  have hal : Below w.heap.size w (w.alloc (.cells es.toArray T)) := (Below.refl _ _).alloc (Nat.le_refl _) _
  have keepA : ∀ g, g < w.heap.size → v.ownBlock ≠ some g → w4.heap[g]? = w.heap[g]? := fun g hg1 hg2 => by
    rw [a3.block g (by simp; omega) (fun e => hg2 e.symm)]
    exact hal.block g hg1
  have hw4 : Below base w w4 := by
    refine ⟨?_, ?_, ?_, ?_, fun g hg1 => keepA g (by omega) (fun e => by have := hg g e; omega)⟩
    · rw [a3.os]; exact hal.os
    · rw [a3.tape]; exact hal.tape
    · rw [a3.output]; exact hal.output
    · exact Nat.le_trans hal.size a3.size
  have avl' : ∀ g, avR base v g → g < w.heap.size → avR base v' g := by
    rintro g ⟨hg1, hg2⟩ hg3
    refine ⟨hg1, fun e => ?_⟩
    rcases a4 with a4 | a4
    · exact hg2 (a4 ▸ e)
    · have := a4 g e; omega
  have move : ∀ es' y, E.rep (fun k => avR base v k ∧ ¬ bad k) w es' y → E.rep (fun k => avR base v' k ∧ ¬ bad k) w4 es' y := fun es' y e1 => by
    have r4 : E.rep (fun g => (avR base v g ∧ ¬ bad g) ∧ g < w.heap.size) w es' y := hE.weak e1 fun g h5 h6 => ⟨h5, h6⟩
    have r5 : E.rep (fun g => (avR base v g ∧ ¬ bad g) ∧ g < w.heap.size) w4 es' y := hE.keep r4 fun g c t f e4 e5 e6 => keepA g e6.2 e6.1.1.2
    exact hE.weak r5 fun g h5 _ => ⟨avl' g h5.1.1 h5.2, h5.1.2⟩
  have hcc : cc.length = l.length * E.n := r1.1
  refine ⟨v', w4, a1, ⟨cc ++ es, by rw [List.length_append]; exact a2, fun j hj => ?_⟩, hw4, keepA, a4⟩
  rw [List.length_append] at hj
  have hj : j < l.length + 1 := hj
  rcases Nat.lt_or_ge j l.length with hji | hji
  · obtain ⟨es', e1, e2⟩ := r2 j hji
    refine ⟨es', by rw [List.getElem_append_left hji]; exact move _ _ e1, fun q hq => ?_⟩
    rw [List.getElem?_append_left (by
      rw [hcc]
      have : (j + 1) * E.n ≤ l.length * E.n := Nat.mul_le_mul_right _ hji
      rw [Nat.add_mul] at this; omega)]
    exact e2 q hq
  · obtain rfl : j = l.length := by omega
    refine ⟨es, by rw [List.getElem_append_right (Nat.le_refl _)]; simpa using move _ _ he, fun q hq => ?_⟩
    have e5 : l.length * E.n + q - l.length * E.n = q := by omega
    rw [List.getElem?_append_right (by rw [hcc]; omega), hcc, e5]
end
end Go.Proofs.Ytpknalpdcfjffaa
/- StoreCrashes answers true. -/
namespace Go.Proofs.Ytpknalpdcfjffaa
open Go Go.RowKit

theorem OwnB.monoB {w : World} {base B : Nat} {v : Value} {l : List UInt8} (h : OwnB w base v l) (hB : B ≤ base) : OwnB w B v l := by
  obtain ⟨h1, h2⟩ := h
  refine ⟨h1, ?_⟩
  rcases h2 with h2 | ⟨g, cap, cur, e, hg, r⟩
  · exact Or.inl h2
  · exact Or.inr ⟨g, cap, cur, e, Nat.le_trans hB hg, r⟩
theorem OwnB.keptB {w w' : World} {base r : Nat} {v : Value} {l : List UInt8} (h : OwnB w base v l) (hk : KeptBut r w w') (hr : r < base) : OwnB w' base v l := ownsRow_block h fun g hg => by
  obtain ⟨h3, h4⟩ := World.ownsRow.lt h g hg
  exact hk.2 g h4 (by omega)
/-- The ends of the entries, a zero first. -/
def endsL (xs : List Ent) : List Int := (List.range (xs.length + 1)).map fun i => ((endN xs i : Nat) : Int)
theorem endsL_length (xs : List Ent) : (endsL xs).length = xs.length + 1 := by simp [endsL]
theorem endsL_snoc (xs : List Ent) (x : Ent) : endsL (xs ++ [x]) = endsL xs ++ [((encs (xs ++ [x])).length : Int)] := by
  unfold endsL
  rw [List.length_append, show xs.length + [x].length + 1 = xs.length + 1 + 1 from rfl, List.range_succ, List.map_append]
  congr 1
  · apply List.map_congr_left
    intro i hi
    rw [endN_snoc xs x i (by simp at hi; omega)]
  · simp only [List.map_cons, List.map_nil]
    rw [show xs.length + 1 = (xs ++ [x]).length by simp, endN_all]
/-- In the midst of the first loop. -/
structure CrS (w : World) (B b base : Nat) (jv lv ev : Value) (xs : List Ent) (wr : World) : Prop where
  st : St w B b wr
  oj : OwnB wr base jv (encs xs)
  ol : RowD entE 54 base (fun k => ev.ownBlock = some k) wr lv xs
  oe : RowD intE 3 base (fun _ => False) wr ev (endsL xs)
  ok : ∀ x ∈ xs, good x
  sz : base ≤ wr.heap.size
  bb : b < base
  wb : w.heap.size ≤ base
section
variable {w wr wr' : World} {B b base : Nat} {jv lv ev : Value} {xs : List Ent}
theorem CrS.below (h : CrS w B b base jv lv ev xs wr) (hb : Below wr.heap.size wr wr') : CrS w B b base jv lv ev xs wr' := ⟨h.st.below hb, h.oj.grownB hb, h.ol.below entE_ok hb, h.oe.below intE_ok hb, h.ok, Nat.le_trans h.sz hb.size, h.bb, h.wb⟩
theorem CrS.call (h : CrS w B b base jv lv ev xs wr) (hs : St wr B b wr') : CrS w B b base jv lv ev xs wr' := ⟨h.st.then hs, h.oj.keptB (KeptBut.st hs) h.bb, h.ol.kept entE_ok (KeptBut.st hs) h.bb, h.oe.kept intE_ok (KeptBut.st hs) h.bb, h.ok, Nat.le_trans h.sz hs.2.size, h.bb, h.wb⟩
theorem typed_ne {w : World} {g : Nat} {c c' : Array Value} {f f' : Nat × Nat} {T T' : TypeId} (h1 : w.heap[g]? = some (Obj.cells c T f)) (h2 : w.heap[g]? = some (Obj.cells c' T' f')) (hT : T ≠ T') : False := by
  rw [h1] at h2
  injection h2 with h2
  injection h2 with _ h2 _
  exact hT h2
theorem CrS.push (h : CrS w B b base jv lv ev xs wr) {x : Ent} {cs : List Value} {w5 w8 : World} {bv : Value} {B8 : Nat} (hg : good x) (hs : St wr B b w5) (hrep : entE.rep (wr.heap.size ≤ ·) w5 cs x) (hb : Below w5.heap.size w5 w8) (hj : OwnB w8 B8 bv (encs xs ++ encX x)) (hB8 : base ≤ B8) (hl : xs.length ≤ 4) (hM : (encs xs ++ encX x).length ≤ 1000000) (ty ty' : TypeId) :
    ∃ (v10 : Value) (w10 : World) (v12 : Value) (w12 : World), (Builtin.append_ #[56, 56] ty #[lv, .slice (some ⟨w8.heap.size, 0, none⟩) 1 1]).run Try.prog (w8.alloc (.cells cs.toArray 54)) = .ok v10 w10 ∧
      (Builtin.append_ #[37, 37] ty' #[ev, .slice (some ⟨w10.heap.size, 0, none⟩) 1 1]).run Try.prog (w10.alloc (.cells #[.int .i64 ((encs xs ++ encX x).length : Int)] 3)) = .ok v12 w12 ∧ CrS w B b base bv v10 v12 (xs ++ [x]) w12 := by
  have h8 := (h.call hs).below hb
  have he : entE.rep (fun k => avR base lv k ∧ ¬ ev.ownBlock = some k) w8 cs x := entE_ok.weak (entE_ok.keep hrep (Keeps.of_below hb)) fun k hk _ => by
    have h1 : wr.heap.size ≤ k := hk
    refine ⟨⟨Nat.le_trans h.sz h1, fun e => ?_⟩, fun e => ?_⟩
    · have := (h.ol.typed k e).2.1; omega
    · have := (h.oe.typed k e).2.1; omega
  obtain ⟨v10, w10, r10, d10, b10, k10, f10⟩ := RowD.append entE_ok logT h8.ol he (by omega) h8.sz ty
  have neLE : ∀ g, ev.ownBlock = some g → lv.ownBlock ≠ some g := fun g h1 h2 => by
    obtain ⟨_, _, c, f, e1⟩ := h8.oe.typed g h1
    obtain ⟨_, _, c', f', e2⟩ := h8.ol.typed g h2
    exact typed_ne e1 e2 (by decide)
  have oe10 : RowD intE 3 base (fun _ => False) w10 ev (endsL xs) := by
    obtain ⟨cc, q1, q2⟩ := h8.oe
    exact ⟨cc, ownsRow_block q1 fun g hg => k10 g (World.ownsRow.lt q1 g hg).2 (neLE g hg), q2⟩
  have oj10 : OwnB w10 B8 bv (encs xs ++ encX x) := ownsRow_block hj fun g hg => k10 g (World.ownsRow.lt hj g hg).2 fun e => by
    obtain ⟨_, c, f, e1⟩ := ownsRow_typed hj g hg
    obtain ⟨_, _, c', f', e2⟩ := h8.ol.typed g e
    exact typed_ne e1 e2 (by decide)
  have hi : I64 ((encs xs ++ encX x).length : Int) := by unfold I64; omega
  obtain ⟨v12, w12, r12, d12, b12, k12, f12⟩ := RowD.append intE_ok intT oe10 (es := [.int .i64 ((encs xs ++ encX x).length : Int)]) (x := ((encs xs ++ encX x).length : Int)) ⟨rfl, hi⟩ (by rw [endsL_length]; omega) (Nat.le_trans h8.sz b10.size) ty'
  refine ⟨v10, w10, v12, w12, r10, r12, ⟨(h8.st.grown b10 h.bb h.wb).grown b12 h.bb h.wb, ?_, ?_, ?_, ?_, Nat.le_trans (Nat.le_trans h8.sz b10.size) b12.size, h.bb, h.wb⟩⟩
  · have e : encs (xs ++ [x]) = encs xs ++ encX x := by simp [encs]
    rw [e]
    refine OwnB.monoB (base := B8) ?_ hB8
    exact ownsRow_block oj10 fun g hg => k12 g (World.ownsRow.lt oj10 g hg).2 fun e => by
      obtain ⟨_, c, f, e1⟩ := ownsRow_typed oj10 g hg
      obtain ⟨_, _, c', f', e2⟩ := oe10.typed g e
      exact typed_ne e1 e2 (by decide)
  · refine d10.other entE_ok (fun g hg hn => k12 g hg hn) (fun g h1 h2 => ?_) fun g hg hb' => ?_
    · obtain ⟨_, _, c, f, e1⟩ := d10.typed g h1
      obtain ⟨_, _, c', f', e2⟩ := oe10.typed g h2
      exact typed_ne e1 e2 (by decide)
    · rcases f12 with f12 | f12
      · rw [← f12]; exact hb'
      · have := f12 g hb'; omega
  · rw [endsL_snoc, encs_append]
    have e : encs [x] = encX x := by simp [encs]
    rw [e]
    exact d12
  · intro y hy
    rcases List.mem_append.1 hy with hy | hy
    · exact h.ok y hy
    · simp at hy; subst hy; exact hg
end
theorem lit_zero {w : World} {base : Nat} (hb : base ≤ w.heap.size) : RowD intE 3 base (fun _ => False) (w.alloc (.cells #[.int .i64 0] 3)) (.slice (some ⟨w.heap.size, 0, none⟩) 1 1) (endsL []) := by
  refine ⟨[.int .i64 0], ⟨rfl, Or.inr ⟨w.heap.size, 1, _, rfl, hb, heap_alloc_new w _, Nat.le_refl 1, by decide, rfl, rfl⟩⟩, fun j hj => ?_⟩
  have hj : j < 1 := hj
  obtain rfl : j = 0 := by omega
  refine ⟨[.int .i64 0], ⟨by simp [endsL, endN, encs], by simp [endsL, endN, encs, I64]⟩, fun q hq => ?_⟩
  have hq : q < 1 := hq
  obtain rfl : q = 0 := by omega
  rfl
theorem endsL_get (xs : List Ent) (i : Nat) (hi : i < (endsL xs).length) : (endsL xs)[i] = (endN xs i : Nat) := by simp [endsL]
/-- An end, where it lies. -/
theorem end_cell {av : Nat → Prop} {w : World} {a : Option Addr} {n c : Nat} {xs : List Ent} (h : RdS intE av w (.slice a n c) (endsL xs)) (i : Nat) (hi : i ≤ xs.length) : ∃ eb eo : Nat, a = some ⟨eb, eo, none⟩ ∧ ∀ W, Below w.heap.size w W → W.cell? ⟨eb, eo + i, none⟩ = some (.int .i64 (endN xs i : Nat)) := by
  have hi' : i < (endsL xs).length := by rw [endsL_length]; omega
  obtain ⟨eb, eo, es, ea, hal⟩ := h.atBelow intE_ok i hi'
  refine ⟨eb, eo, ea, fun W hW => ?_⟩
  obtain ⟨⟨rfl, _⟩, h2⟩ := hal W hW
  have := h2 0 _ rfl
  rw [endsL_get] at this
  simpa [intE, Addr.add] using this
theorem OwnB.set {w : World} {base g n cap : Nat} {l : List UInt8} (h : OwnB w base (.slice (some ⟨g, 0, none⟩) n cap) l) (k : Nat) (c : UInt8) : OwnB (w.setCell ⟨g, k, none⟩ (.int .u8 (c.toNat : Nat))) base (.slice (some ⟨g, 0, none⟩) n cap) (l.set k c) := by
  obtain ⟨h1, h2⟩ := h
  rcases h2 with ⟨e, _⟩ | ⟨g', cap', cur, e, hg, hh, hc, hm, hsz, htk⟩
  · cases e
  · obtain ⟨rfl, rfl, rfl⟩ : g = g' ∧ n = l.length ∧ cap = cap' := by simpa using e
    have hb : bcs (l.set k c) = (bcs l).set k (.int .u8 (c.toNat : Nat)) := by simp [bcs, List.map_set]
    refine ⟨by simp [bcs], Or.inr ⟨g, cap, cur.setIfInBounds k (.int .u8 (c.toNat : Nat)), by simp, hg, ?_, by simpa using hc, hm, by simpa using hsz, ?_⟩⟩
    · simp only [World.setCell]
      rw [Array.getElem?_modify, if_pos rfl, hh]
      rfl
    · rw [hb, ← htk, Array.toList_setIfInBounds, List.length_set, List.take_set]
theorem xor_byte (a b : Int) : ∃ c : UInt8, bits .xor .u8 a b = ((c.toNat : Nat) : Int) := by
  have h : ∃ x, bits .xor .u8 a b = IntKind.u8.wrap x := ⟨_, rfl⟩
  obtain ⟨x, hx⟩ := h
  rw [hx]
  exact ⟨k8 x, wrap_k8 x⟩
theorem OwnB.block {w : World} {base : Nat} {v : Value} {l : List UInt8} (h : OwnB w base v l) (h0 : 0 < l.length) : ∃ g cap, v = .slice (some ⟨g, 0, none⟩) l.length cap ∧ base ≤ g ∧ ∀ k, (hk : k < l.length) → w.cell? ⟨g, k, none⟩ = some (.int .u8 (l[k].toNat : Nat)) ∧ w.frozen? ⟨g, k, none⟩ = false := by
  have h' := h
  obtain ⟨h1, h2⟩ := h
  rcases h2 with ⟨e, h0'⟩ | ⟨g, cap, cur, e, hg, hh, hc, hm, hsz, htk⟩
  · omega
  · refine ⟨g, cap, e, hg, fun k hk => ⟨?_, ?_⟩⟩
    · have := World.ownsRow.cells h' (g := g) (by rw [e]; rfl) k (.int .u8 (l[k].toNat : Nat)) (by simp [bcs, hk])
      rw [Go.WideShapes.add_plain, Nat.zero_add] at this
      exact this
    · simp only [World.frozen?, hh]
      simp
theorem get_pre {α : Type} {l xs r : List α} {Z i : Nat} (h : l = xs.take Z ++ r) (hi : i < Z) (hx : i < xs.length) (hl : i < l.length) : l[i] = xs[i] := by
  subst h
  rw [List.getElem_append_left (by rw [List.length_take]; omega)]
  simp
theorem rd_lit1 {w : World} {cs : List Value} {x : Ent} (h : entE.rep (fun _ => True) w cs x) : RdS entE (fun _ => True) (w.alloc (.cells cs.toArray 54)) (.slice (some ⟨w.heap.size, 0, none⟩) 1 1) [x] := by
  refine ⟨some ⟨w.heap.size, 0, none⟩, 1, rfl, Nat.le_refl 1, by omega, by simp, fun _ => ⟨w.heap.size, 0, cs.toArray, 54, (0, 0), rfl, heap_alloc_new w _, by decide, trivial, fun i hi => ?_⟩⟩
  have hi : i < 1 := hi
  obtain rfl : i = 0 := by omega
  refine ⟨cs, entE_ok.keep h (Keeps.of_below ((Below.refl _ _).alloc (Nat.le_refl _) _)), fun j hj => ?_⟩
  have hl : cs.length = 38 := entE_ok.len h
  have h1 := (PAt.new w cs (by omega) 54 (by decide) rfl).1.2.1 j (by rw [hl]; exact hj)
  simp only [Nat.zero_mul, Nat.zero_add]
  exact h1
set_option maxHeartbeats 16000000 in
set_option maxRecDepth 100000 in
theorem crash_any (v : Value) (ct att byv : Nat) (h1 : ct ≤ 65535) (h2 : att ≤ 65535) (h3 : byv ≤ 255) (w : World) (hc : U8At w w.heap.size v) : Calls Try.prog 5 #[v, .int .u16 ct, .int .u16 att, .int .u8 byv] w (TrueIs w) := by
  have HC := Lib.hid hc
  clear hc
  go_enter Try.func5, Try.ntmps5
  go_wp2_with fail
  refine (awake_any w).mono ?_
  rintro e w1 ⟨rfl, hb1⟩
  have HB1 := Lib.hid hb1
  have HC1 := Lib.hid (HC.out.below hb1)
  clear hb1 HC
  go_wp2_with fail
  refine (cnew_ok v 300 w.heap.size w1 HB1.out.size (by decide) HC1.out).mono ?_
  rintro e w2 ⟨rfl, hcd, hb2, hsz⟩
  clear hsz
  have HB2 := Lib.hid (below_then HB1.out hb2)
  have HLo : Hid (w.heap.size ≤ w1.heap.size) := HB1.out.size
  have HS0 : Hid (CrS w2 w.heap.size w1.heap.size w2.heap.size (.slice none 0 0) (.slice none 0 0) (.slice (some ⟨w2.heap.size, 0, none⟩) 1 1) [] (w2.alloc (.cells #[.int .i64 0] 3))) :=
    ⟨(St.start hcd).alloc _, OwnB.nil _ _, .nil, lit_zero (Nat.le_refl _), fun x hx => by simp at hx, by simp, hcd.lt, Nat.le_refl _⟩
  clear hcd hb2 HB1 HC1
  go_wp2_with fail
  generalize w2.alloc (.cells #[.int .i64 0] 3) = w3 at HS0 ⊢
  refine (next_ok w.heap.size w1.heap.size 4 w3 HS0.out.st.1 (by omega) (by omega)).mono ?_
  rintro e w4 ⟨kk, k0, k4, rfl, hs⟩
  obtain ⟨kk, rfl⟩ := Int.eq_ofNat_of_zero_le k0
  have HS := Lib.hid (HS0.out.call hs)
  clear hs HS0
  go_wp2_with fail
  go_loopw [10, 11, 12, 13] (fun jv ev lv kv wr => ∃ (k : Nat) (xs : List Ent), kv = .int .i64 k ∧ xs.length + k ≤ 4 ∧ 1 ≤ xs.length + k ∧ Hid (CrS w2 w.heap.size w1.heap.size w2.heap.size jv lv ev xs wr)) (fun _ _ _ kv _ => (intOf kv).toNat)
  case atStart => exact ⟨kk + 1, [], by go_num, by simp; omega, by simp, HS⟩
  case round =>
    clear HS
    obtain ⟨k, xs, rfl, hk, hk1, HS⟩ := hrel
    obtain ⟨ja, jc, rfl⟩ := HS.out.oj.slice
    obtain ⟨la, lc, rfl⟩ := (HS.out.ol.e entE_ok).slice
    obtain ⟨ea, ec, rfl⟩ := (HS.out.oe.e intE_ok).slice
    have HL := Lib.hid hk
    have HL1 := Lib.hid hk1
    clear hk hk1
    by_cases hk0 : 0 < k
    · have i0 : (0 : Int) < (k : Int) := by omega
      go_wp2_with fail
      refine (entry_ok w.heap.size w1.heap.size wr HS.out.st.1).mono ?_
      rintro e w5 ⟨x, cs, rfl, hrep, hcan, hsm, hst⟩
      have HS5 := Lib.hid (HS.out.call hst)
      have hok := canon_ok hrep hcan
      have HG : Hid (good x) := ⟨hok.1, hok.2.1, hok.2.2, ent_short hcan hsm⟩
      have HcsL : cs.length = 38 := entE_ok.len hrep
      have HSt := Lib.hid hst
      have HRep := Lib.hid hrep
      have HJ : Hid ((encs xs).length ≤ 20009 * xs.length) := flat_bound xs fun y hy => (HS.out.ok y hy).enc.2.2
      clear hok hcan hsm hst hrep
      obtain ⟨J, hJ⟩ : ∃ J, J = (encs xs).length := ⟨_, rfl⟩
      rw [← hJ]
      have HJe := Lib.hid hJ
      clear hJ
      go_wp2_with (first
        | (refine list_storeAgg rfl _ _ rfl w5.heap.size 0 rfl cs rfl (by rw [sz_ent, HcsL]) (entE_ok.one HRep.out) (log_there w5 _ (Nat.le_of_eq HcsL)) ?_
           intro w6 hw
           have h4 := log_new w5 cs HcsL hw
           have HP6 := Lib.hid h4.1
           have HB6 := Lib.hid h4.2
           have HR6 := Lib.hid (entE_ok.weak (av' := fun _ => True) (entE_ok.keep HRep.out (Keeps.of_below h4.2)) fun _ _ _ => trivial)
           clear hw h4)
        | (refine list_loadAgg (ent_load0 w6 w5.heap.size cs HcsL HP6.out.1.range) rfl _ rfl rfl ?_)
        | (refine list_lit logT rfl _ rfl cs rfl HcsL (entE_ok.one HR6.out) ?_)
        | fail)
      have hal : Below w6.heap.size w6 (w6.alloc (.cells cs.toArray 54)) := (Below.refl _ _).alloc (Nat.le_refl _) _
      have HB7 : Hid (Below w5.heap.size w5 (w6.alloc (.cells cs.toArray 54))) := below_then HB6.out hal
      have HRd : Hid (RdS entE (fun _ => True) (w6.alloc (.cells cs.toArray 54)) (.slice (some ⟨w6.heap.size, 0, none⟩) 1 1) [x]) := rd_lit1 HR6.out
      have HP7 := Lib.hid (HP6.out.below hal)
      generalize w6.alloc (.cells cs.toArray 54) = w7 at HB7 HRd HP7 ⊢
      have app1 : appRes (encs xs) [x] = (encs xs ++ encX x, 0) := by
        simp only [appRes]
        rw [HG.out.enc.1, if_pos rfl]
      have HJb : Hid (BytesL w7 w7.heap.size (.slice ja J jc) (encs xs)) := by
        have := (HS5.out.below HB7.out).oj.bl
        rw [HJe.out]; exact this
      clear hal HP6 HB6 HR6
      refine (app_any _ _ (encs xs) [x] (fun _ => True) w7 HJb.out HRd.out (fun y hy b hb => ?_) (by have := HJ.out; have := HL.out; simp; omega)).mono ?_
      · simp at hy; subst hy
        obtain ⟨_, _, _, b', hb', hl'⟩ := HG.out
        rw [hb] at hb'
        obtain rfl := Option.some.inj hb'
        omega
      rintro e w8 ⟨bv, rfl, hob, hb8⟩
      rw [app1] at hob ⊢
      have hEl := HG.out.enc.2
      have hMl : (encs xs ++ encX x).length = J + (encX x).length := by rw [List.length_append, HJe.out]
      obtain ⟨v10, w10, v12, w12, r10, r12, hS⟩ := HS.out.push HG.out HSt.out HRep.out (below_then HB7.out hb8) hob (Nat.le_trans HS5.out.sz HB7.out.size) (by have := HL.out; omega) (by have := HJ.out; rw [hMl, HJe.out]; have := HL.out; omega) 56 37
      obtain ⟨ba, bc, rfl⟩ := hob.slice
      obtain ⟨M, hM⟩ : ∃ M, M = (encs xs ++ encX x).length := ⟨_, rfl⟩
      dsimp only at hob r10 r12 hS ⊢
      rw [← hM] at r12 hS ⊢
      have hJM : J < M := by omega
      have j0 : (J : Int) < (M : Int) := by omega
      have j1 : ((M : Int) ≤ (J : Int)) = False := by simp; omega
      have HR10 := Lib.hid r10
      have HR12 := Lib.hid r12
      have HS12 := Lib.hid hS
      have HP8 := Lib.hid (HP7.out.below hb8)
      have HR8 := Lib.hid (entE_ok.keep HRep.out (Keeps.of_below (below_then HB7.out hb8)))
      have hk2 : k ≤ 4 := by have := HL.out; omega
      clear hob r10 r12 hS hEl hMl hM hb8 app1 HJb HRd HB7 HP7 HS5 HSt HRep HS
      go_wp2_with (first
        | (refine list_loadAgg (ent_load0 w8 w5.heap.size cs HcsL HP8.out.1.range) rfl _ rfl rfl ?_)
        | (refine list_lit logT rfl _ rfl cs rfl HcsL (entE_ok.one HR8.out) ?_)
        | (at_builtin; refine wpList_append_run rfl _ _ _ rfl _ _ _ _ rfl rfl HR10.out ?_; clear HR10)
        | (refine list_lit intT rfl _ rfl [.int .i64 (M : Int)] rfl rfl (all_one rfl) ?_)
        | (at_builtin; refine wpList_append_run rfl _ _ _ rfl _ _ _ _ rfl rfl HR12.out ?_; clear HR12)
        | fail)
      go_roundw
      case rel => exact ⟨k - 1, _, by go_num, by have := HL.out; simp; omega, by simp; omega, HS12⟩
      case measure => simp [intOf]; omega
    · obtain rfl : k = 0 := by omega
      have HK : Hid (1 ≤ xs.length ∧ xs.length ≤ 4) := ⟨by have := HL1.out; omega, by have := HL.out; omega⟩
      have HJ : Hid ((encs xs).length ≤ 20009 * xs.length) := flat_bound xs fun y hy => (HS.out.ok y hy).enc.2.2
      obtain ⟨J, hJ⟩ : ∃ J, J = (encs xs).length := ⟨_, rfl⟩
      have hJ9 : 9 ≤ J := by
        have h1 := HK.out
        have h2 := endN_succ xs 0 (by omega)
        have h3 := (HS.out.ok _ (List.getElem_mem (show 0 < xs.length by omega))).enc.2.1
        have h4 : endN xs 1 ≤ J := by
          rw [hJ]
          have e : encs xs = encs (xs.take 1) ++ encs (xs.drop 1) := by rw [← encs_append, List.take_append_drop]
          rw [e, List.length_append]; exact Nat.le_add_right _ _
        rw [endN_zero] at h2
        have h2 : endN xs 1 = 0 + _ := h2
        omega
      have hJb : J ≤ 90000 := by have := HJ.out; have := HK.out; omega
      rw [← hJ]
      have HJe := Lib.hid hJ
      obtain ⟨E, hE⟩ : ∃ E, E = (endsL xs).length := ⟨_, rfl⟩
      rw [← hE]
      have hE1 : E = xs.length + 1 := by rw [hE, endsL_length]
      obtain ⟨X, hX⟩ : ∃ X, X = xs.length := ⟨_, rfl⟩
      rw [← hX] at hE1 ⊢
      have hXb : 1 ≤ X ∧ X ≤ 4 := by have := HK.out; omega
      obtain ⟨n, hn⟩ : ∃ n, n = ct % (J + 1) := ⟨_, rfl⟩
      have hnJ : n ≤ J := by have := Nat.mod_lt ct (show 0 < J + 1 by omega); omega
      have htm : (ct : Int).tmod ((J : Int) + 1) = (n : Int) := by rw [hn]; exact Int.ofNat_tmod ct (J + 1) ▸ rfl
      have HX := Lib.hid hX
      have HEd := Lib.hid ((HS.out.oe.e intE_ok).rd intE_ok (by decide) (by rw [endsL_length, ← hX]; omega))
      have HLd := Lib.hid ((HS.out.ol.e entE_ok).rd entE_ok (by decide) (by rw [← hX]; omega))
      rw [← hE] at HEd
      rw [← hX] at HLd
      have HOj : Hid (OwnB wr w2.heap.size (.slice ja J jc) (encs xs)) := by rw [hJ]; exact HS.out.oj
      have HBw : Hid (Below w.heap.size w wr) := HB2.out.trans ((HS.out.st.2.mono HB2.out.size).below HLo.out)
      have HGd := Lib.hid HS.out.ok
      have hw1 : J - n ≤ (encs xs).length := by rw [← hJ]; omega
      clear hJ hE HL HL1 hn HS HJ HK
      obtain ⟨m, hm⟩ : ∃ m, m = whole xs (J - n) (X + 1) := ⟨_, rfl⟩
      have hmX : m ≤ X := by have := whole_lt xs (J - n) (X + 1) (by omega); omega
      have HMm := Lib.hid hm
      have HXe := Lib.hid hX
      have e9 : (E : Int) ≤ 5 := by omega
      have n9 : (n : Int) ≤ (J : Int) := by omega
      have J9 : (J : Int) ≤ 90000 := by omega
      have HE1 := Lib.hid hE1
      clear hm hX hw1 hE1
      go_wp2_with fail
      obtain ⟨wq, rfl⟩ : ∃ wq : World, wq = wr := ⟨_, rfl⟩
      go_loopw [18, 77] (fun wv kv wr => ∃ i : Nat, kv = .int .i64 i ∧ i ≤ E ∧ wv = .int .i64 (whole xs (J - n) i : Nat) ∧ wr = wq) (fun _ kv _ => (10 - intOf kv).toNat)
      case atStart => exact ⟨0, rfl, by omega, rfl, rfl⟩
      case round =>
        obtain ⟨i, rfl, hi, rfl, rfl⟩ := hrel
        by_cases hin : i < E
        · have i0 : (i : Int) < (E : Int) := by omega
          obtain ⟨eb, eo, rfl, hcell⟩ := end_cell HEd.out i (by have := HE1.out; have := HXe.out; omega)
          have hc := hcell wr (Below.refl _ _)
          have hwh : whole xs (J - n) (i + 1) = if endN xs i ≤ J - n then i else whole xs (J - n) i := rfl
          generalize endN xs i = en at hc hwh
          by_cases hle : en ≤ J - n
          · have q : (en : Int) ≤ (J : Int) - (n : Int) := by omega
            rw [if_pos hle] at hwh
            have HWh := Lib.hid hwh
            clear hwh hcell
            go_wp2_with fail
            go_roundw
            case rel => exact ⟨i + 1, by go_num, by omega, by rw [HWh.out], trivial⟩
            case measure => simp [intOf]; omega
          · have q : decide ((en : Int) ≤ (J : Int) - (n : Int)) = false := decide_eq_false (by omega)
            rw [if_neg hle] at hwh
            have HWh := Lib.hid hwh
            clear hwh hcell
            go_wp2_with fail
            go_roundw
            case rel => exact ⟨i + 1, by go_num, by omega, by rw [HWh.out], trivial⟩
            case measure => simp [intOf]; omega
        · obtain rfl : E = i := by omega
          have hmw : whole xs (J - n) E = m := by rw [HMm.out, HE1.out]
          rw [hmw]
          have hnI : I64 (n : Int) := by unfold I64; omega
          clear hmw hi hin
          go_wp2_with fail
          refine (cut_any _ (encs xs) n hnI wr HOj.out.bl (by rw [← HJe.out]; omega)).mono ?_
          rintro e w3 ⟨v3, rfl, ho3, hb3⟩
          have hcut : (encs xs).length - (min (max (n : Int) 0) (encs xs).length).toNat = J - n := by rw [← HJe.out]; omega
          rw [hcut] at ho3
          have HO3 := Lib.hid ho3.bl
          have HB3 := Lib.hid hb3
          clear ho3 hb3 hcut
          go_wp2_with fail
          refine (read_any v3 ((encs xs).take (J - n)) w3 HO3.out (by rw [List.length_take, ← HJe.out]; omega)).mono ?_
          rintro e w4 ⟨v4, rfl, hr4, hb4⟩
          have hrw : readAll ((encs xs).take (J - n)) = (xs.take m, endN xs m) := by
            rw [HMm.out, HXe.out]; exact read_whole xs HGd.out (J - n)
          rw [hrw] at hr4 ⊢
          dsimp only at hr4 ⊢
          have hB34 : Below wr.heap.size wr w4 := below_then HB3.out hb4
          have HR4 := Lib.hid hr4
          have HB4 := Lib.hid hB34
          have hml : (xs.take m).length = m := by rw [List.length_take, ← HXe.out]; omega
          obtain ⟨pa, pc, rfl⟩ := hr4.slice
          rw [hml] at HR4 ⊢
          obtain ⟨eb, eo, rfl, hcell⟩ := end_cell HEd.out m (by rw [← HXe.out]; exact hmX)
          have hc := hcell w4 hB34
          have m0 : (m : Int) < (E : Int) := by have := HE1.out; omega
          clear hr4 hb4 hrw hB34 HB3 HO3 hml hcell
          go_wp2_with fail
          obtain ⟨wo, rfl⟩ : ∃ wo : World, wo = wr := ⟨_, rfl⟩
          go_loopw [112] (fun kv wr => ∃ i : Nat, kv = .int .i64 i ∧ i ≤ m ∧ Hid (Below w4.heap.size w4 wr)) (fun kv _ => (10 - intOf kv).toNat)
          case atStart => exact ⟨0, rfl, by omega, Below.refl _ _⟩
          case round =>
            obtain ⟨i, rfl, hi, HBr⟩ := hrel
            by_cases hin : i < m
            · have i0 : (i : Int) < (m : Int) := by omega
              have i1 : (i : Int) < (X : Int) := by omega
              obtain ⟨pb, po, es1, ea1, hal1⟩ := HR4.out.atBelow entE_ok i (by rw [List.length_take, ← HXe.out]; omega)
              obtain ⟨lb, lo, es2, ea2, hal2⟩ := HLd.out.atBelow entE_ok i (by rw [← HXe.out]; omega)
              subst ea1 ea2
              obtain ⟨hr1, hg1⟩ := hal1 wr.drew ((HBr.out).trans (Below.refl _ _).drew)
              obtain ⟨hr2, hg2⟩ := hal2 wr.drew ((below_then HB4.out HBr.out).trans (Below.refl _ _).drew)
              have hy : (xs.take m)[i]'(by rw [List.length_take, ← HXe.out]; omega) = xs[i]'(by rw [← HXe.out]; omega) := by simp
              rw [hy] at hr1
              have hgy := HGd.out _ (List.getElem_mem (show i < xs.length by rw [← HXe.out]; omega))
              generalize xs[i]'(by rw [← HXe.out]; omega) = y at hr1 hr2 hgy
              have HE1 : es1.length = 38 := entE_ok.len hr1
              have HE2 : es2.length = 38 := entE_ok.len hr2
              have HR1 := Lib.hid (entE_ok.weak (av' := fun _ => True) hr1 fun _ _ _ => trivial)
              have HR2 := Lib.hid (entE_ok.weak (av' := fun _ => True) hr2 fun _ _ _ => trivial)
              have HSr : Hid (wr.drew.rangeAt pb (po + i * 38) es1 ∧ wr.drew.rangeAt lb (lo + i * 38) es2) := ⟨hg1, hg2⟩
              have HBk : Hid (∀ b, entB y = some b → b.length ≤ 9000000) := fun b hb => by
                obtain ⟨_, _, _, b', hb', hl'⟩ := hgy
                rw [hb] at hb'
                obtain rfl := Option.some.inj hb'
                omega
              clear hr1 hr2 hg1 hg2 hal1 hal2 hy hgy
              go_upto_region 29 with fail
              refine wp_region_seqL (by kernel_rfl) (fun w' => w'.rangeAt pb (po + i * 38) es1 ∧ w'.rangeAt lb (lo + i * 38) es2) 8 [(0, 0), (1, 0), (2, 0), (3, 1), (4, 0), (5, 0), (6, 0), (7, 1), (8, 2), (9, 0)] (by kernel_rfl) (HSr.out) ?_
              refine sl_q (d := some 115) rfl rfl rfl (.slice (some ⟨pb, po, none⟩) m pc) (fun w => rfl) ?_
              simp only [Act.put, List.setIfInBounds_toArray, List.set_cons_zero, List.set_cons_succ]
              refine sl_q (d := some 116) rfl rfl rfl (.int .i64 i) (fun w => rfl) ?_
              simp only [Act.put, List.setIfInBounds_toArray, List.set_cons_zero, List.set_cons_succ]
              refine sl_q (d := some 117) rfl rfl rfl (.pointer (some ⟨pb, po + i * 38, none⟩)) (fun w => by simp [execOp, Act.eval, i0, i1, go_sem]) ?_
              simp only [Act.put, List.setIfInBounds_toArray, List.set_cons_zero, List.set_cons_succ]
              refine sl_load (d := some 118) rfl rfl rfl _ _ rfl ⟨pb, po + i * 38, none⟩ rfl (.agg es1.toArray) (fun w hw => log_load hw.1 HE1) ?_
              simp only [Act.put, List.setIfInBounds_toArray, List.set_cons_zero, List.set_cons_succ]
              refine sl_q (d := some 119) rfl rfl rfl (.slice (some ⟨lb, lo, none⟩) X lc) (fun w => rfl) ?_
              simp only [Act.put, List.setIfInBounds_toArray, List.set_cons_zero, List.set_cons_succ]
              refine sl_q (d := some 120) rfl rfl rfl (.int .i64 i) (fun w => rfl) ?_
              simp only [Act.put, List.setIfInBounds_toArray, List.set_cons_zero, List.set_cons_succ]
              refine sl_q (d := some 121) rfl rfl rfl (.pointer (some ⟨lb, lo + i * 38, none⟩)) (fun w => by simp [execOp, Act.eval, i0, i1, go_sem]) ?_
              simp only [Act.put, List.setIfInBounds_toArray, List.set_cons_zero, List.set_cons_succ]
              refine sl_load (d := some 122) rfl rfl rfl _ _ rfl ⟨lb, lo + i * 38, none⟩ rfl (.agg es2.toArray) (fun w hw => log_load hw.2 HE2) ?_
              simp only [Act.put, List.setIfInBounds_toArray, List.set_cons_zero, List.set_cons_succ]
              refine sl_call (d := some 123) rfl rfl rfl ⟨_, Try.func11, by kernel_rfl, by kernel_rfl⟩ _ _ _ rfl rfl [.agg es1.toArray, .agg es2.toArray] rfl (same_any y y es1 es2 (fun _ => True) wr.drew HR1.out HR2.out HBk.out HBk.out) ?_
              rintro e w6 ⟨rfl, hb6⟩
              rw [sameB_self]
              have HB6 := Lib.hid hb6
              clear hb6
              refine ⟨_, rfl, (fun h => by cases h), ?_⟩
              simp only [Act.put, List.setIfInBounds_toArray, List.set_cons_zero, List.set_cons_succ]
              refine sl_q (d := some 124) rfl rfl rfl (.bool false) (fun w => by simp [execOp, Act.eval, go_sem]) ?_
              simp only [Act.put, List.setIfInBounds_toArray, List.set_cons_zero, List.set_cons_succ]
              refine sl_end ?_
              have HBn : Hid (Below w4.heap.size w4 w6) := below_then (HBr.out.trans (Below.refl _ _).drew) HB6.out
              clear HSr HR1 HR2 HBk HB6 HBr
              go_wp2_with fail
              go_roundw
              case rel => exact ⟨i + 1, by go_num, by omega, HBn⟩
              case measure => simp [intOf]; omega
            · obtain rfl : m = i := by omega
              have hl0 := HBr.out
              obtain ⟨Z, hZ⟩ : ∃ Z, Z = X - 1 := ⟨_, rfl⟩
              have hZX : X = Z + 1 := by omega
              have hEZ : E = Z + 2 := by have := HE1.out; omega
              have hZx : Z < xs.length := by rw [← HXe.out]; omega
              obtain ⟨eb2, eo2, he2, hcell2⟩ := end_cell HEd.out Z (Nat.le_of_lt hZx)
              obtain ⟨rfl, rfl⟩ : eb = eb2 ∧ eo = eo2 := by simpa using he2
              have hcl := hcell2 wr (below_then HB4.out hl0)
              have hlast := endN_succ xs Z hZx
              have h9 := (HGd.out _ (List.getElem_mem hZx)).enc.2.1
              have hall : endN xs (Z + 1) = J := by rw [HJe.out, ← endN_all, ← HXe.out, hZX]
              obtain ⟨last, hla⟩ : ∃ last, last = endN xs Z := ⟨_, rfl⟩
              rw [← hla] at hcl hlast
              have hlJ : last + 9 ≤ J := by omega
              obtain ⟨r, hr⟩ : ∃ r, r = att % (J - last) := ⟨_, rfl⟩
              have hrl : r < J - last := by rw [hr]; exact Nat.mod_lt _ (by omega)
              obtain ⟨K, hK⟩ : ∃ K, K = last + r := ⟨_, rfl⟩
              have hKJ : K < J := by omega
              have htm2 : (att : Int).tmod ((J : Int) - (last : Int)) = (r : Int) := by
                rw [hr, show (J : Int) - (last : Int) = ((J - last : Nat) : Int) by omega]
                exact Int.ofNat_tmod att (J - last) ▸ rfl
              have hz1 : (E : Int) - 2 = (Z : Int) := by omega
              have l1 : (last : Int) ≤ (J : Int) := by omega
              have l2 : ¬ ((J : Int) - (last : Int) = 0) := by omega
              have z1 : (Z : Int) < (E : Int) := by omega
              have hsrc : BytesL wr wr.heap.size (.slice ja (encs xs).length jc) (encs xs) := by
                have := (HOj.out.bl.below (HB4.out.trans (hl0.mono HB4.out.size))).up (below_then HB4.out hl0).size
                rw [← HJe.out]; exact this
              obtain ⟨v7, w7, hrun, ho7, hb7⟩ := append_bl (OwnB.nil wr wr.heap.size) hsrc (by simp) (by rw [← HJe.out]; omega) (Nat.le_refl _) 22
              rw [List.nil_append] at ho7
              rw [← HJe.out] at hrun
              obtain ⟨g, cap, rfl, hgb, hgc⟩ := ho7.block (by rw [← HJe.out]; omega)
              rw [← HJe.out] at ho7 hrun
              obtain ⟨k1, k2⟩ := hgc K (by rw [← HJe.out]; omega)
              generalize (encs xs)[K]'(by rw [← HJe.out]; omega) = z at k1
              obtain ⟨c', hc'⟩ := xor_byte ((z.toNat : Nat) : Int) ((byv : Nat) : Int)
              have hset := ho7.set K c'
              rw [← hc'] at hset
              have hdt : ((encs xs).set K c').take (endN xs Z) = encs (xs.take Z) := by
                rw [← hla, List.take_set_of_le (by omega)]
                have e : encs xs = encs (xs.take Z) ++ encs (xs.drop Z) := by rw [← encs_append, List.take_append_drop]
                rw [e, List.take_left' (by rw [hla]; rfl)]
              obtain ⟨rr, hrr⟩ := read_before xs HGd.out ((encs xs).set K c') Z hdt
              have HSz := Lib.hid (below_then HB4.out hl0).size
              have HRun := Lib.hid hrun
              have HSet := Lib.hid hset
              have HRr := Lib.hid hrr
              have HB8 := Lib.hid (below_then (below_then HB4.out hl0) hb7)
              have HZ := Lib.hid (And.intro hZX hEZ)
              have kb : (K : Int) < (J : Int) := by omega
              have kw : (last : Int) + (r : Int) = (K : Int) := by omega
              have HGb := Lib.hid hgb
              clear hK hl0 hZ hZX hEZ he2 hcell2 hlast h9 hall hla hr hsrc hrun ho7 hb7 hgc hset hdt hrr hc hc'
              go_upto_region 35 with (first
                | (at_builtin; refine wpList_append_run rfl _ _ _ rfl _ _ _ _ rfl rfl HRun.out ?_; clear HRun)
                | fail)
              go_wp2_with (first
                | (refine list_skipE rfl _ _ rfl (w7.setCell ⟨g, K, none⟩ (.int .u8 (bits .xor .u8 ((z.toNat : Nat) : Int) ((byv : Nat) : Int)))) (by simp [execOp, Act.eval, k1, k2, go_sem]) ?_
                   intro w8 hw
                   have HO8 : Hid (OwnB w8 wr.heap.size (.slice (some ⟨g, 0, none⟩) J cap) ((encs xs).set K c')) := by rw [hw]; exact HSet.out
                   have HB9 : Hid (Below wr.heap.size w7 w8) := by rw [hw]; exact (Below.refl _ _).setCell HGb.out _
                   clear hw HSet)
                | fail)
              have HB10 := Lib.hid (HB8.out.trans (HB9.out.mono HSz.out))
              refine (read_any _ ((encs xs).set K c') w8 HO8.out.bl (by rw [List.length_set, ← HJe.out]; omega)).mono ?_
              rintro e w9 ⟨v9, rfl, hr9, hb9⟩
              obtain ⟨ql, hql⟩ : ∃ q, q = (readAll ((encs xs).set K c')).1 := ⟨_, rfl⟩
              obtain ⟨qn, hqn⟩ : ∃ q, q = (readAll ((encs xs).set K c')).2 := ⟨_, rfl⟩
              rw [← hql] at hr9
              rw [← hqn]
              have hqe : ql = xs.take Z ++ rr := by rw [hql]; exact HRr.out
              obtain ⟨qa, qc, rfl⟩ := hr9.slice
              obtain ⟨Q, hQ⟩ : ∃ Q, Q = ql.length := ⟨_, rfl⟩
              have hZQ : Z ≤ Q := by
                rw [hQ, hqe, List.length_append, List.length_take, ← HXe.out]
                have := HZ.out; omega
              rw [← hQ] at hr9 ⊢
              have HQl : Hid (Z ≤ Q ∧ Q = ql.length) := ⟨hZQ, hQ⟩
              have HQe := Lib.hid hqe
              have HR9 := Lib.hid hr9
              have HB11 := Lib.hid (below_then HB10.out hb9)
              have Q9 : (Q : Int) ≤ 1000000 := by have := hr9.le; omega
              have hz3 : (X : Int) - 1 = (Z : Int) := by have := HZ.out; omega
              have q0 : decide ((Q : Int) < (Z : Int)) = false := decide_eq_false (by omega)
              have q1 : (Z : Int) ≤ (Q : Int) := by omega
              clear hql hqn hqe hQ hZQ hr9 hb9 HB10 HB9 HB8 HO8 k1 k2 kb kw htm htm2 hcl hz1 l1 l2
              go_wp2_with fail
              obtain ⟨wo2, rfl⟩ : ∃ wo2 : World, wo2 = wr := ⟨_, rfl⟩
              go_loopw [28] (fun kv wr => ∃ i : Nat, kv = .int .i64 i ∧ i ≤ Z ∧ Hid (Below w9.heap.size w9 wr)) (fun kv _ => (10 - intOf kv).toNat)
              case atStart => exact ⟨0, rfl, by omega, Below.refl _ _⟩
              case round =>
                obtain ⟨i, rfl, hi, HBr⟩ := hrel
                by_cases hin : i < Z
                · have i0 : (i : Int) < (Z : Int) := by omega
                  have i1 : (i : Int) < (X : Int) := by have := HZ.out; omega
                  have i2 : (i : Int) < (Q : Int) := by have := HQl.out; omega
                  obtain ⟨pb, po, es1, ea1, hal1⟩ := HR9.out.atBelow entE_ok i (by have := HQl.out; omega)
                  obtain ⟨lb, lo, es2, ea2, hal2⟩ := HLd.out.atBelow entE_ok i (by rw [← HXe.out]; have := HZ.out; omega)
                  subst ea1 ea2
                  obtain ⟨hr1, hg1⟩ := hal1 wr.drew ((HBr.out).trans (Below.refl _ _).drew)
                  obtain ⟨hr2, hg2⟩ := hal2 wr.drew ((below_then HB11.out HBr.out).trans (Below.refl _ _).drew)
                  have hy : ql[i]'(by have := HQl.out; omega) = xs[i]'(by rw [← HXe.out]; have := HZ.out; omega) := get_pre HQe.out hin _ _
                  rw [hy] at hr1
                  have hgy := HGd.out _ (List.getElem_mem (show i < xs.length by rw [← HXe.out]; have := HZ.out; omega))
                  generalize xs[i]'(by rw [← HXe.out]; have := HZ.out; omega) = y at hr1 hr2 hgy
                  have HE1 : es1.length = 38 := entE_ok.len hr1
                  have HE2 : es2.length = 38 := entE_ok.len hr2
                  have HR1 := Lib.hid (entE_ok.weak (av' := fun _ => True) hr1 fun _ _ _ => trivial)
                  have HR2 := Lib.hid (entE_ok.weak (av' := fun _ => True) hr2 fun _ _ _ => trivial)
                  have HSr : Hid (wr.drew.rangeAt pb (po + i * 38) es1 ∧ wr.drew.rangeAt lb (lo + i * 38) es2) := ⟨hg1, hg2⟩
                  have HBk : Hid (∀ b, entB y = some b → b.length ≤ 9000000) := fun b hb => by
                    obtain ⟨_, _, _, b', hb', hl'⟩ := hgy
                    rw [hb] at hb'
                    obtain rfl := Option.some.inj hb'
                    omega
                  clear hr1 hr2 hg1 hg2 hal1 hal2 hy hgy
                  go_upto_region 42 with fail
                  refine wp_region_seqL (by kernel_rfl) (fun w' => w'.rangeAt pb (po + i * 38) es1 ∧ w'.rangeAt lb (lo + i * 38) es2) 8 [(0, 0), (1, 0), (2, 0), (3, 1), (4, 0), (5, 0), (6, 0), (7, 1), (8, 2), (9, 0)] (by kernel_rfl) (HSr.out) ?_
                  refine sl_q (d := some 168) rfl rfl rfl (.slice (some ⟨pb, po, none⟩) Q qc) (fun w => rfl) ?_
                  simp only [Act.put, List.setIfInBounds_toArray, List.set_cons_zero, List.set_cons_succ]
                  refine sl_q (d := some 169) rfl rfl rfl (.int .i64 i) (fun w => rfl) ?_
                  simp only [Act.put, List.setIfInBounds_toArray, List.set_cons_zero, List.set_cons_succ]
                  refine sl_q (d := some 170) rfl rfl rfl (.pointer (some ⟨pb, po + i * 38, none⟩)) (fun w => by simp [execOp, Act.eval, i2, go_sem]) ?_
                  simp only [Act.put, List.setIfInBounds_toArray, List.set_cons_zero, List.set_cons_succ]
                  refine sl_load (d := some 171) rfl rfl rfl _ _ rfl ⟨pb, po + i * 38, none⟩ rfl (.agg es1.toArray) (fun w hw => log_load hw.1 HE1) ?_
                  simp only [Act.put, List.setIfInBounds_toArray, List.set_cons_zero, List.set_cons_succ]
                  refine sl_q (d := some 172) rfl rfl rfl (.slice (some ⟨lb, lo, none⟩) X lc) (fun w => rfl) ?_
                  simp only [Act.put, List.setIfInBounds_toArray, List.set_cons_zero, List.set_cons_succ]
                  refine sl_q (d := some 173) rfl rfl rfl (.int .i64 i) (fun w => rfl) ?_
                  simp only [Act.put, List.setIfInBounds_toArray, List.set_cons_zero, List.set_cons_succ]
                  refine sl_q (d := some 174) rfl rfl rfl (.pointer (some ⟨lb, lo + i * 38, none⟩)) (fun w => by simp [execOp, Act.eval, i1, go_sem]) ?_
                  simp only [Act.put, List.setIfInBounds_toArray, List.set_cons_zero, List.set_cons_succ]
                  refine sl_load (d := some 175) rfl rfl rfl _ _ rfl ⟨lb, lo + i * 38, none⟩ rfl (.agg es2.toArray) (fun w hw => log_load hw.2 HE2) ?_
                  simp only [Act.put, List.setIfInBounds_toArray, List.set_cons_zero, List.set_cons_succ]
                  refine sl_call (d := some 176) rfl rfl rfl ⟨_, Try.func11, by kernel_rfl, by kernel_rfl⟩ _ _ _ rfl rfl [.agg es1.toArray, .agg es2.toArray] rfl (same_any y y es1 es2 (fun _ => True) wr.drew HR1.out HR2.out HBk.out HBk.out) ?_
                  rintro e w6 ⟨rfl, hb6⟩
                  rw [sameB_self]
                  have HB6 := Lib.hid hb6
                  clear hb6
                  refine ⟨_, rfl, (fun h => by cases h), ?_⟩
                  simp only [Act.put, List.setIfInBounds_toArray, List.set_cons_zero, List.set_cons_succ]
                  refine sl_q (d := some 177) rfl rfl rfl (.bool false) (fun w => by simp [execOp, Act.eval, go_sem]) ?_
                  simp only [Act.put, List.setIfInBounds_toArray, List.set_cons_zero, List.set_cons_succ]
                  refine sl_end ?_
                  have HBn : Hid (Below w9.heap.size w9 w6) := below_then (HBr.out.trans (Below.refl _ _).drew) HB6.out
                  clear HSr HR1 HR2 HBk HB6 HBr
                  go_wp2_with fail
                  go_roundw
                  case rel => exact ⟨i + 1, by go_num, by omega, HBn⟩
                  case measure => simp [intOf]; omega
                · obtain rfl : Z = i := by omega
                  have HF := Lib.hid (below_then HBw.out (below_then HB11.out HBr.out))
                  clear HBr
                  go_wp2_with fail
                  go_ret
                  exact ⟨rfl, HF.out⟩
end Go.Proofs.Ytpknalpdcfjffaa
/- StoreCrashes answers true at every input. No conditions. -/

namespace Go.Proofs.Ytpknalpdcfjffaa.crashes
open Go Go.ChangeShapes Go.WideShapes Go.ChangeAt Go.RowKit

set_option maxRecDepth 100000 in
theorem lifted (os : Os) (started : os.Started) (H : Type) (enc : TypeId × Value → H) :
    ReturnsInHanded {} Try.checked os 5 .any (Rows.storeCrashesSpec.pre6 enc Try.prog Try.f5 Rows.storeCrashesRow.domain false) (Rows.storeCrashesSpec.post enc Try.prog Try.f5 false true false false) := by
  refine returnsInHanded_of_change_sized (C := Try.checked) own started (by kernel_rfl) Try.func5
    (ChangeSpec.witness6 (enc := enc) (C := Try.checked) false ⟨#[], #[.slice none 0 0, .int .u16 0, .int .u16 0, .int .u8 0], []⟩ 8 (by kernel_rfl) (by kernel_rfl) (by kernel_rfl) (by kernel_rfl)) ?_
  intro W base args ds gs before hval hW _ hsz _
  have hW' := hW
  obtain ⟨p, q, hA0, hV, rfl, _, _⟩ := hW
  have hA : DataW.TrodAll enc Try.prog W 0 (fun _ => true) true Try.f5.params.toList args.toList ds p := hA0
  rw [Try.params5] at hA hval
  obtain ⟨v0, vs0, d0, ds0, p0, q0, hargs, rfl, rfl, h0, r0⟩ := trodAll_cons hA
  obtain ⟨v1, vs1, d1, ds1, p1, q1, hargs1, rfl, rfl, h1, r1⟩ := trodAll_cons r0
  obtain ⟨v2, vs2, d2, ds2, p2, q2, hargs2, rfl, rfl, h2, r2⟩ := trodAll_cons r1
  obtain ⟨v3, vs3, d3, ds3, p3, q3, hargs3, rfl, rfl, h3, r3⟩ := trodAll_cons r2
  obtain ⟨rfl, rfl, rfl⟩ := trodAll_nil r3
  obtain rfl : args = #[v0, v1, v2, v3] := by cases args; simp_all
  obtain ⟨rfl, rfl⟩ := trodVars_none hV
  have hc := open_codes (hval 0 22 v0 rfl rfl) h0
  obtain ⟨x1, rfl, rfl, rfl, wx1⟩ := open_int Try.underlying23 (hval 1 23 v1 rfl rfl) h1
  obtain ⟨x2, rfl, rfl, rfl, wx2⟩ := open_int Try.underlying23 (hval 2 23 v2 rfl rfl) h2
  obtain ⟨x3, rfl, rfl, rfl, wx3⟩ := open_int Try.underlying5 (hval 3 5 v3 rfl rfl) h3
  have e1 : IntKind.u16.min = 0 := rfl
  have e2 : IntKind.u16.max = 65535 := rfl
  have e3 : IntKind.u8.min = 0 := rfl
  have e4 : IntKind.u8.max = 255 := rfl
  simp only [Lit.wf, Bool.and_eq_true, decide_eq_true_eq] at wx1 wx2 wx3
  obtain ⟨n1, rfl⟩ := Int.eq_ofNat_of_zero_le (show 0 ≤ x1 by omega)
  obtain ⟨n2, rfl⟩ := Int.eq_ofNat_of_zero_le (show 0 ≤ x2 by omega)
  obtain ⟨n3, rfl⟩ := Int.eq_ofNat_of_zero_le (show 0 ≤ x3 by omega)
  refine (crash_any v0 n1 n2 n3 (by omega) (by omega) (by omega) W hc).mono fun e W' ⟨he, hb⟩ => ?_
  subst he
  exact ⟨_, rfl, law_post laid_out (by kernel_rfl) (by kernel_rfl) Try.underlying4 hW' rfl rfl hb⟩

theorem said : Rows.StoreCrashesSaid :=
  OpenClaim.holds_of_wide 5 Try.f5 rfl rfl rfl rfl rfl rfl rfl ⟨rfl, rfl, rfl, rfl, rfl⟩ rfl rfl rfl rfl rfl (by kernel_rfl) Try.func5 (by kernel_rfl)
    (of_decide_eq_true (by kernel_rfl)) (by unfold Func.isWrapper; first | (rw [if_pos (by decide +kernel)]; kernel_rfl) | (rw [if_neg (by decide +kernel)]; exact ⟨rfl, rfl⟩))
    (fun os started H enc _ => lifted os started H enc)
end Go.Proofs.Ytpknalpdcfjffaa.crashes

namespace Go.Proofs.Ytpknalpdcfjffaa
theorem crashes_said : Rows.StoreCrashesSaid := crashes.said
#print axioms crashes_said
end Go.Proofs.Ytpknalpdcfjffaa
