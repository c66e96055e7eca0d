/- StoreCodes answers true at every input. No conditions. -/
import Derived.Test.YtpknalpdcfjffaaR14
set_option linter.unusedVariables false
set_option linter.unusedSimpArgs false
set_option linter.unnecessarySimpa false
/- What the reference's Decode answers; laws for its walk. No walk. -/
namespace Go.Proofs.Ytpknalpdcfjffaa
open Go Go.RowKit

theorem rgetS_of {l : List UInt8} {p n : Nat} (h : n ≤ l.length - p) : rgetS l p true n = (p + n, true, num ((l.drop p).take n)) := by
  unfold rgetS; rw [if_pos ⟨rfl, h⟩]
theorem rgetS_not {l : List UInt8} {p n : Nat} {ok : Bool} (h : ¬ n ≤ l.length - p) : rgetS l p ok n = (p, false, 0) := by
  unfold rgetS; rw [if_neg (fun h' => h h'.2)]
theorem num_one (x : UInt8) : num [x] = x.toNat := by simp [num]
theorem take_one_drop {l : List UInt8} {p : Nat} (h : p < l.length) : (l.drop p).take 1 = [l.getD p 0] := by
  rw [List.drop_eq_getElem_cons h, List.getD_eq_getElem?_getD, List.getElem?_eq_getElem h]
  rfl
/-- The entry where all bytes were used, or the error. -/
def finR {α : Type} (z : α) (Z : Nat) : Option (α × List UInt8) → α × Nat × Int
  | some (x, []) => (x, Z, 0)
  | _ => (z, 0, 3)
section
variable {l : List UInt8} {N : Nat}
theorem dec_chk (h4 : ¬ l.length < 4) (hN : N = num (l.take 4)) (h1 : ¬ 1048576 < N + 8) (h2 : ¬ l.length < N + 8) (hc : chk (l.take (N + 4)) ≠ num ((l.drop (N + 4)).take 4)) : decRes l = (.zero, 0, 10) := by
  have e : (l.take (N + 8)).drop (N + 4) = (l.drop (N + 4)).take 4 := by rw [List.drop_take]; congr 1; omega
  subst hN
  unfold decRes
  rw [if_neg h4, if_neg h1, if_neg h2, e, if_pos hc]
theorem dec_kind (h4 : ¬ l.length < 4) (hN : N = num (l.take 4)) (h1 : ¬ 1048576 < N + 8) (h2 : ¬ l.length < N + 8) (hc : chk (l.take (N + 4)) = num ((l.drop (N + 4)).take 4)) (K : Nat) (q : Nat) (o : Bool) (hK : rgetS (l.take (N + 4)) 4 true 1 = (q, o, K)) :
    (¬ (1 ≤ K ∧ K ≤ 4) → decRes l = (.zero, 0, 4)) ∧ (1 ≤ K ∧ K ≤ 4 → q = 5 ∧ o = true ∧ decRes l = finR .zero (N + 8) (pEnt (K : Nat) ((l.take (N + 4)).drop 5))) := by
  have e : (l.take (N + 8)).drop (N + 4) = (l.drop (N + 4)).take 4 := by rw [List.drop_take]; congr 1; omega
  have hl : (l.take (N + 4)).length = N + 4 := by rw [List.length_take]; omega
  have hd : decRes l = if N = 0 then (.zero, 0, (4 : Int))
      else if ¬ (1 ≤ ((l.getD 4 0).toNat : Int) ∧ ((l.getD 4 0).toNat : Int) ≤ 4) then (.zero, 0, 4)
      else finR .zero (N + 8) (pEnt ((l.getD 4 0).toNat : Nat) ((l.take (N + 4)).drop 5)) := by
    subst hN
    unfold decRes
    rw [if_neg h4, if_neg h1, if_neg h2, e, if_neg (fun h => h hc)]
    congr 2
    rcases pEnt ((l.getD 4 0).toNat : Nat) ((l.take (num (l.take 4) + 4)).drop 5) with _ | ⟨x, _ | _⟩ <;> rfl
  rw [hd]
  by_cases hN0 : N = 0
  · rw [if_pos hN0]
    rw [rgetS_not (by rw [hl]; omega)] at hK
    injection hK with _ hK
    injection hK with _ hK
    exact ⟨fun _ => rfl, fun h => by omega⟩
  · rw [if_neg hN0]
    have hg : (l.take (N + 4)).getD 4 0 = l.getD 4 0 := by
      rw [List.getD_eq_getElem?_getD, List.getD_eq_getElem?_getD, List.getElem?_take, if_pos (by omega)]
    rw [rgetS_of (by rw [hl]; omega), take_one_drop (by rw [hl]; omega), num_one, hg] at hK
    injection hK with h5 hK
    injection hK with h6 hK
    rw [hK]
    refine ⟨fun h => by rw [if_pos (by omega)], fun h => ⟨h5.symm, h6.symm, by rw [if_neg (by omega)]⟩⟩
end
theorem dec_fin {α : Type} {P : Ps α} {z : α} {lt : List UInt8} {p' Z M : Nat} {ok' : Bool} {x : α} (h : Went P lt 5 true p' ok' x) (hM : lt.length = M) :
    finR z Z (P (lt.drop 5)) = if ok' = true ∧ p' = M then (x, Z, 0) else (z, 0, 3) := by
  cases ok' with
  | false => rw [h.no rfl rfl, if_neg (by simp)]; rfl
  | true =>
    rw [(h.got rfl).2]
    have := h.le
    by_cases hp : p' = M
    · rw [if_pos ⟨rfl, hp⟩, List.drop_eq_nil_of_le (by omega)]; rfl
    · rw [if_neg (fun h => hp h.2)]
      have : (lt.drop p').length ≠ 0 := by rw [List.length_drop]; omega
      cases hd : lt.drop p' with
      | nil => rw [hd] at this; exact absurd rfl this
      | cons u v => rfl
/-- Between the calls of Decode: the result's variable still empty, the bytes. -/
structure DS (a : Option Addr) (c : Nat) (l : List UInt8) (w W : World) : Prop where
  r : PAt W w.heap.size (kc 0)
  b : Below w.heap.size w W
  s : BytesL W w.heap.size (.slice a l.length c) l
section
variable {a : Option Addr} {c : Nat} {l : List UInt8} {w W W' : World}
theorem DS.lt (h : DS a c l w W) : w.heap.size < W.heap.size := h.r.lt
theorem DS.new (h : DS a c l w W) (hb : Below W.heap.size W W') : DS a c l w W' := ⟨h.r.below hb, h.b.trans (hb.mono h.b.size), h.s.below (hb.mono h.b.size)⟩
theorem DS.call (h : DS a c l w W) : BytesL W W.heap.size (.slice a l.length c) l := h.s.up h.b.size
end
theorem var_new (W : World) (z es : List Value) (hz : 0 < z.length) (T : TypeId) (hT : T ≠ 5) (hl : es.length = z.length) {W' : World} (hW : W' = (W.alloc (.cells z.toArray T)).setCells W.heap.size 0 es) : PAt W' W.heap.size es ∧ Below W.heap.size W W' := by
  rw [hW]
  exact ⟨(PAt.new W z hz T hT rfl).setCells es hl, ((Below.refl _ _).alloc (Nat.le_refl _) _).trans ((apartR_setCells _ _ _ _).below (Nat.le_refl _))⟩
theorem var_there (W : World) (z : List Value) (hz : 0 < z.length) (T : TypeId) (hT : T ≠ 5) (n : Nat) (hn : n ≤ z.length) : (W.alloc (.cells z.toArray T)).there W.heap.size 0 n := (PAt.new W z hz T hT rfl).1.there hn
theorem DS.newAt {a : Option Addr} {c : Nat} {l : List UInt8} {w W W' : World} {B : Nat} (h : DS a c l w W) (hb : Below B W W') (hB : w.heap.size < B) : DS a c l w W' := ⟨h.r.of_block (hb.block _ hB), h.b.trans (hb.mono (Nat.le_of_lt hB)), h.s.below (hb.mono (Nat.le_of_lt hB))⟩
/-- A variable is made (X); then an elder one is stored, then the new one. -/
structure Two (W : World) (B : Nat) (rs z : List Value) (Wa : World) : Prop where
  old : PAt Wa B rs
  new : PAt Wa W.heap.size z
  below : Below B W Wa
  same : ∀ k, k < W.heap.size → k ≠ B → Wa.heap[k]? = W.heap[k]?
theorem two_old {W X Wa : World} {B : Nat} {rs0 z : List Value} (hX : Below W.heap.size W X) (hz : PAt X W.heap.size z) (hP : PAt W B rs0) (rs : List Value) (hl : rs.length = rs0.length) (ha : Wa = X.setCells B 0 rs) : Two W B rs z Wa := by
  have hlt := hP.lt
  have hA := apartR_setCells B rs 0 X
  rw [← ha] at hA
  exact ⟨by rw [ha]; exact (hP.below hX).setCells rs hl, hz.of_block (hA.2.2.2.2 _ (by omega)), (hX.mono (by omega)).trans (hA.below (Nat.le_refl _)), fun k hk hn => (hA.2.2.2.2 k hn).trans (hX.block k hk)⟩
theorem Two.put {W Wa Wb : World} {B : Nat} {rs z : List Value} (h : Two W B rs z Wa) (hB : B < W.heap.size) (es : List Value) (hl : es.length = z.length) (hb : Wb = Wa.setCells W.heap.size 0 es) : Two W B rs es Wb := by
  have hA := apartR_setCells W.heap.size es 0 Wa
  rw [← hb] at hA
  exact ⟨h.old.of_block (hA.2.2.2.2 _ (by omega)), by rw [hb]; exact h.new.setCells es hl, h.below.trans (hA.below (by omega)), fun k hk hn => (hA.2.2.2.2 k (by omega)).trans (h.same k hk hn)⟩
theorem run_buildR (a : Option Addr) (n c : Nat) (p : Int) (w : World) : (Instr.build 96 #[(0, .slice a n c), (1, .int .i64 p), (2, .bool true)]).run Try.prog w = .ok (.agg #[.slice a n c, .int .i64 p, .bool true]) w := by kernel_rfl
theorem run_buildR0 (a : Option Addr) (n c : Nat) (w : World) : (Instr.build 96 #[(0, .slice a n c), (2, .bool true)]).run Try.prog w = .ok (.agg #[.slice a n c, .int .i64 0, .bool true]) w := by kernel_rfl
end Go.Proofs.Ytpknalpdcfjffaa
/- The reference's Decode. Printed by gen_rdec.py. -/
namespace Go.Proofs.Ytpknalpdcfjffaa
open Go Go.RowKit

set_option maxHeartbeats 16000000 in
set_option maxRecDepth 100000 in
theorem rdecode_any (v : Value) (l : List UInt8) (w : World) (h : BytesL w w.heap.size v l) : Calls Try.prog 15 #[v] w (DecIs l w) := by
  obtain ⟨a, c, rfl⟩ := h.slice
  obtain ⟨hlc, hcm⟩ : l.length ≤ c ∧ c ≤ 9223372036854775807 := by
    obtain ⟨a', c', e, q1, q2, _⟩ := h
    obtain ⟨_, rfl⟩ : a = a' ∧ c = c' := by simpa using e
    exact ⟨q1, q2⟩
  have HBa : Hid (Below w.heap.size w (w.alloc (.cells #[.int .i64 0, .int .i64 0, .int .i64 0, .string ⟨#[]⟩, .int .i64 0, .int .i64 0, .int .i64 0, .int .i64 0, .int .i64 0, .slice none 0 0, .int .i64 0, .int .i64 0, .int .i64 0, .string ⟨#[]⟩, .int .i64 0, .bool false, .int .i64 0, .int .i64 0, .int .i64 0, .int .i64 0, .slice none 0 0, .int .i64 0, .int .i64 0, .int .i64 0, .slice none 0 0, .slice none 0 0, .slice none 0 0, .slice none 0 0, .int .i64 0, .int .u64 0, .int .i64 0, .int .i64 0, .int .i64 0, .int .i64 0, .slice none 0 0, .slice none 0 0, .slice none 0 0, .slice none 0 0] 54))) := (Below.refl _ _).alloc (Nat.le_refl _) _
  have HA : Hid (DS a c l w (w.alloc (.cells #[.int .i64 0, .int .i64 0, .int .i64 0, .string ⟨#[]⟩, .int .i64 0, .int .i64 0, .int .i64 0, .int .i64 0, .int .i64 0, .slice none 0 0, .int .i64 0, .int .i64 0, .int .i64 0, .string ⟨#[]⟩, .int .i64 0, .bool false, .int .i64 0, .int .i64 0, .int .i64 0, .int .i64 0, .slice none 0 0, .int .i64 0, .int .i64 0, .int .i64 0, .slice none 0 0, .slice none 0 0, .slice none 0 0, .slice none 0 0, .int .i64 0, .int .u64 0, .int .i64 0, .int .i64 0, .int .i64 0, .int .i64 0, .slice none 0 0, .slice none 0 0, .slice none 0 0, .slice none 0 0] 54))) := ⟨PAt.new w (kc 0) (by rw [kc_length]; decide) _ (by decide) rfl, HBa.out, h.below HBa.out⟩
  have l0 : (l.length : Int) ≤ (c : Int) := by omega
  have l1 : (c : Int) ≤ 9223372036854775807 := by omega
  have HLc := Lib.hid hlc
  clear h hlc hcm HBa
  go_enter Try.func15, Try.ntmps15
  have hb0 := run_build0
  have hbR0 := run_buildR0
  have hbR := run_buildR
  go_upto_region 1 with fail
  generalize w.alloc (.cells #[.int .i64 0, .int .i64 0, .int .i64 0, .string ⟨#[]⟩, .int .i64 0, .int .i64 0, .int .i64 0, .int .i64 0, .int .i64 0, .slice none 0 0, .int .i64 0, .int .i64 0, .int .i64 0, .string ⟨#[]⟩, .int .i64 0, .bool false, .int .i64 0, .int .i64 0, .int .i64 0, .int .i64 0, .slice none 0 0, .int .i64 0, .int .i64 0, .int .i64 0, .slice none 0 0, .slice none 0 0, .slice none 0 0, .slice none 0 0, .int .i64 0, .int .u64 0, .int .i64 0, .int .i64 0, .int .i64 0, .int .i64 0, .slice none 0 0, .slice none 0 0, .slice none 0 0, .slice none 0 0] 54) = wA at HA ⊢
  by_cases h4 : l.length < 4
  · have i4 : (l.length : Int) < 4 := by omega
    have HD : Hid (decRes l = (.zero, 0, 11)) := by unfold Hid decRes; rw [if_pos h4]
    go_wp2_with (first
      | ((first | with_reducible refine gate_st ?_ | with_reducible refine gate_stw ?_); refine row_store rfl _ _ rfl w.heap.size rfl (kc 0) (kc 0) rfl HA.out.r.1 rfl rowT_ent (kc_one 0) ?_; intro w9 e9 h9)
      | fail)
    exact ret_row3 rfl _ _ _ _ e9 rowT_ent rfl rfl rfl rfl (DecIs.err 11 HD.out (HA.out.b.trans (h9.below (Nat.le_refl _))))
  have i4 : (4 : Int) ≤ (l.length : Int) := by omega
  have H4 := Lib.hid h4
  have HR4 : Hid (rgetS l 0 true 4 = (4, true, num (l.take 4))) := rgetS_of (by omega)
  have hn4 := num_lt (l.take 4)
  rw [show (l.take 4).length = 4 by rw [List.length_take]; omega, show (256 : Nat) ^ 4 = 4294967296 by decide] at hn4
  obtain ⟨N, hN⟩ : ∃ N, N = num (l.take 4) := ⟨_, rfl⟩
  rw [← hN] at HR4 hn4
  have HN := Lib.hid hN
  have HN4 := Lib.hid hn4
  clear h4 hN hn4
  go_wp2_with fail
  refine (rget_any a c l 0 true 4 (by omega) wA HA.out.call (Nat.zero_le _)).mono ?_
  rintro e w2 ⟨rfl, hb⟩
  rw [HR4.out]
  have HB := Lib.hid (HA.out.new hb)
  clear hb HA HR4
  go_upto_region 4 with (first
    | ((first | with_reducible refine gate_st ?_ | with_reducible refine gate_stw ?_); refine list_storeAgg rfl _ _ rfl w2.heap.size 0 rfl (rdV a l.length c 4 true) rfl (by rw [sz_rd]; rfl) (all_one rfl) (var_there w2 [.slice none 0 0, .int .i64 0, .bool false] (by decide) 96 (by decide) 3 (by decide)) ?_
       intro w3 hW
       have hn := var_new w2 [.slice none 0 0, .int .i64 0, .bool false] (rdV a l.length c 4 true) (by decide) 96 (by decide) rfl hW
       have P5 := Lib.hid hn.1
       have HC := Lib.hid (HB.out.new hn.2)
       clear hW hn HB)
    | fail)
  clear P5
  have n0 : (N : Int) < 4294967296 := by have := HN4.out; omega
  by_cases hlim : 1048576 < N + 8
  · have i6 : (1048576 : Int) < (N : Int) + 8 := by omega
    have HD : Hid (decRes l = (.zero, 0, 2)) := by unfold Hid decRes; rw [if_neg H4.out, ← HN.out, if_pos hlim]
    go_wp2_with (first
      | ((first | with_reducible refine gate_st ?_ | with_reducible refine gate_stw ?_); refine row_store rfl _ _ rfl w.heap.size rfl (kc 0) (kc 0) rfl HC.out.r.1 rfl rowT_ent (kc_one 0) ?_; intro w9 e9 h9)
      | fail)
    exact ret_row3 rfl _ _ _ _ e9 rowT_ent rfl rfl rfl rfl (DecIs.err 2 HD.out (HC.out.b.trans (h9.below (Nat.le_refl _))))
  have i6 : decide ((1048576 : Int) < (N : Int) + 8) = false := decide_eq_false (by omega)
  by_cases hsh : l.length < N + 8
  · have i7 : (l.length : Int) < (N : Int) + 8 := by omega
    have HD : Hid (decRes l = (.zero, 0, 11)) := by unfold Hid decRes; rw [if_neg H4.out, ← HN.out, if_neg hlim, if_pos hsh]
    go_wp2_with (first
      | ((first | with_reducible refine gate_st ?_ | with_reducible refine gate_stw ?_); refine row_store rfl _ _ rfl w.heap.size rfl (kc 0) (kc 0) rfl HC.out.r.1 rfl rowT_ent (kc_one 0) ?_; intro w9 e9 h9)
      | fail)
    exact ret_row3 rfl _ _ _ _ e9 rowT_ent rfl rfl rfl rfl (DecIs.err 11 HD.out (HC.out.b.trans (h9.below (Nat.le_refl _))))
  have i7 : decide ((l.length : Int) < (N : Int) + 8) = false := decide_eq_false (by omega)
  have HLim := Lib.hid hlim
  have HSh := Lib.hid hsh
  have n2 : (N : Int) ≤ 1048568 := by omega
  clear hlim hsh
  go_upto_region 9 with fail
  obtain ⟨M, hM⟩ : ∃ M, M = N + 4 := ⟨_, rfl⟩
  rw [show (4 : Int) + (N : Int) = (M : Int) by omega]
  have HM := Lib.hid hM
  have HMl : Hid (M + 4 ≤ l.length ∧ M ≤ 1048572 ∧ 4 ≤ M) := by have := HSh.out; unfold Hid; omega
  have HRm : Hid (rgetS l M true 4 = (M + 4, true, num ((l.drop M).take 4))) := rgetS_of (by have := HMl.out; omega)
  obtain ⟨D, hD⟩ : ∃ D, D = num ((l.drop M).take 4) := ⟨_, rfl⟩
  rw [← hD] at HRm
  have HDd := Lib.hid hD
  clear hM hD n0 n2 i6 i7
  go_wp2_with fail
  refine (rget_any a c l M true 4 (by omega) w3 HC.out.call (by have := HMl.out; omega)).mono ?_
  rintro e w4 ⟨rfl, hb⟩
  rw [HRm.out]
  have HE := Lib.hid (HC.out.new hb)
  clear hb HC HRm
  go_upto_region 10 with (first
    | ((first | with_reducible refine gate_st ?_ | with_reducible refine gate_stw ?_); refine list_storeAgg rfl _ _ rfl w4.heap.size 0 rfl (rdV a l.length c (M + 4) true) rfl (by rw [sz_rd]; rfl) (all_one rfl) (var_there w4 [.slice none 0 0, .int .i64 0, .bool false] (by decide) 96 (by decide) 3 (by decide)) ?_
       intro w5 hW
       have hn := var_new w4 [.slice none 0 0, .int .i64 0, .bool false] (rdV a l.length c (M + 4) true) (by decide) 96 (by decide) rfl hW
       have P8 := Lib.hid hn.1
       have HF := Lib.hid (HE.out.new hn.2)
       clear hW hn HE)
    | fail)
  clear P8
  have m0 : (M : Int) ≤ (c : Int) := by have := HMl.out; have := HLc.out; omega
  have m1 : (0 : Int) ≤ (M : Int) := by omega
  obtain ⟨C, hC⟩ : ∃ C, C = chk (l.take M) := ⟨_, rfl⟩
  have HCd := Lib.hid hC
  clear hC
  go_wp2_with fail
  refine (rchecksum_any _ (l.take M) w5 (HF.out.s.take M (by have := HMl.out; omega)).r (by rw [List.length_take]; have := HMl.out; omega)).mono ?_
  rintro e w6 ⟨rfl, rfl⟩
  rw [← HCd.out]
  have HLt : Hid ((l.take M).length = M) := by unfold Hid; rw [List.length_take]; have := HMl.out; omega
  by_cases hCD : D = C
  rotate_left
  · have hne : ((D : Int) != (C : Int)) = true := by simpa using (by omega : ¬ (D : Int) = (C : Int))
    have hne2 : ¬ ((D : Int) = (C : Int)) := by omega
    have HD : Hid (decRes l = (.zero, 0, 10)) := dec_chk H4.out HN.out HLim.out HSh.out (by rw [← HM.out, ← HCd.out, ← HDd.out]; exact fun h => hCD h.symm)
    go_wp2_with (first
      | ((first | with_reducible refine gate_st ?_ | with_reducible refine gate_stw ?_); refine row_store rfl _ _ rfl w.heap.size rfl (kc 0) (kc 0) rfl HF.out.r.1 rfl rowT_ent (kc_one 0) ?_; intro w9 e9 h9)
      | fail)
    exact ret_row3 rfl _ _ _ _ e9 rowT_ent rfl rfl rfl rfl (DecIs.err 10 HD.out (HF.out.b.trans (h9.below (Nat.le_refl _))))
  have hne : ((D : Int) != (C : Int)) = false := by simpa using (by omega : (D : Int) = (C : Int))
  have hne2 : (D : Int) = (C : Int) := by omega
  have HCD : Hid (chk (l.take (N + 4)) = num ((l.drop (N + 4)).take 4)) := by unfold Hid; rw [← HM.out, ← HCd.out, ← HDd.out]; exact hCD.symm
  obtain ⟨q, hq⟩ : ∃ q, q = rgetS (l.take M) 4 true 1 := ⟨_, rfl⟩
  obtain ⟨q1, q2, K⟩ := q
  have HQ := Lib.hid hq.symm
  have HKd := Lib.hid (dec_kind H4.out HN.out HLim.out HSh.out HCD.out K q1 q2 (by rw [← HM.out]; exact hq.symm))
  have HTk : Hid (BytesL w5 w5.heap.size (.slice a (l.take M).length c) (l.take M)) := by unfold Hid; rw [HLt.out]; exact HF.out.call.take M (by have := HMl.out; omega)
  clear hq hCD
  go_wp2_with fail
  have hget := rget_any a c (l.take M) 4 true 1 (by omega) w5 HTk.out (by rw [HLt.out]; have := HMl.out; omega)
  rw [HLt.out] at hget
  refine hget.mono ?_
  rintro e w7 ⟨rfl, hb⟩
  rw [HQ.out, HLt.out]
  have HG := Lib.hid (HF.out.new hb)
  have HGl : Hid (w.heap.size < w7.heap.size) := HG.out.lt
  have HK8 : Hid (K < 256) := by
    have h1 : (rgetS (l.take M) 4 true 1).2.2 < 256 := by
      unfold rgetS
      split
      · have h1 := num_lt (((l.take M).drop 4).take 1)
        exact Nat.lt_of_lt_of_le h1 (Nat.pow_le_pow_right (n := 256) (i := _) (j := 1) (by decide) (by rw [List.length_take]; omega))
      · decide
    rw [HQ.out] at h1
    exact h1
  clear hb hget HF hne hne2 HTk
  go_upto_region 13 with (first
    | ((first | with_reducible refine gate_st ?_ | with_reducible refine gate_stw ?_); refine list_storeAgg rfl _ _ rfl w7.heap.size 0 rfl (rdV a M c q1 q2) rfl (by rw [sz_rd]; rfl) (all_one rfl) (var_there w7 [.slice none 0 0, .int .i64 0, .bool false] (by decide) 96 (by decide) 3 (by decide)) ?_
       intro w8 hW
       have hn := var_new w7 [.slice none 0 0, .int .i64 0, .bool false] (rdV a M c q1 q2) (by decide) 96 (by decide) rfl hW
       have P10 := Lib.hid hn.1
       have HH := Lib.hid (HG.out.new hn.2)
       clear hW hn HG)
    | fail)
  have k0 : (K : Int) < 256 := by have := HK8.out; omega
  by_cases hK : 1 ≤ K ∧ K ≤ 4
  rotate_left
  · have HDk := Lib.hid (HKd.out.1 hK)
    have hc : (K : Int) < 1 ∨ (4 : Int) < (K : Int) := by omega
    clear hK
    rcases hc with hc | hc
    · have hc2 : K = 0 := by omega
      subst hc2
      have HD : Hid (decRes l = (.zero, 0, 4)) := HDk.out
      go_wp2_with (first
        | ((first | with_reducible refine gate_st ?_ | with_reducible refine gate_stw ?_); refine row_store rfl _ _ rfl w.heap.size rfl (kc 0) (kc 0) rfl HH.out.r.1 rfl rowT_ent (kc_one 0) ?_; intro w9 e9 h9)
        | fail)
      exact ret_row3 rfl _ _ _ _ e9 rowT_ent rfl rfl rfl rfl (DecIs.err 4 HD.out (HH.out.b.trans (h9.below (Nat.le_refl _))))
    · have hc2 : decide ((K : Int) < 1) = false := decide_eq_false (by omega)
      have HD : Hid (decRes l = (.zero, 0, 4)) := HDk.out
      go_wp2_with (first
        | ((first | with_reducible refine gate_st ?_ | with_reducible refine gate_stw ?_); refine row_store rfl _ _ rfl w.heap.size rfl (kc 0) (kc 0) rfl HH.out.r.1 rfl rowT_ent (kc_one 0) ?_; intro w9 e9 h9)
        | fail)
      exact ret_row3 rfl _ _ _ _ e9 rowT_ent rfl rfl rfl rfl (DecIs.err 4 HD.out (HH.out.b.trans (h9.below (Nat.le_refl _))))
  obtain ⟨h5, h6, h7⟩ := HKd.out.2 hK
  subst h5
  subst h6
  have HD7 := Lib.hid h7
  have k1 : decide ((K : Int) < 1) = false := decide_eq_false (by omega)
  have k2 : decide ((4 : Int) < (K : Int)) = false := decide_eq_false (by omega)
  have HK := Lib.hid hK
  have HTk8 : Hid (BytesL w8 w8.heap.size (.slice a (l.take M).length c) (l.take M)) := by unfold Hid; rw [HLt.out]; exact HH.out.call.take M (by have := HMl.out; omega)
  have HM5 : Hid (5 ≤ M) := by
    have h1 := HQ.out
    unfold rgetS at h1
    split at h1
    · rename_i hx; rw [HLt.out] at hx; unfold Hid; omega
    · injection h1 with _ h1
      injection h1 with h1 _
      cases h1
  clear h7 hK
  go_upto_region 15 with fail
  go_wp2_with (first | ((first | with_reducible refine gate_ld ?_ | with_reducible refine gate_ldw ?_); refine list_loadAgg (rd_load w8 w7.heap.size (rdV a M c 5 true) rfl P10.out.1.range) rfl _ rfl rfl ?_) | fail)
  have hrest := gotRest a c (l.take M) 5 true w8 HTk8.out (by rw [HLt.out]; exact HM5.out) (by rw [HLt.out]; have := HMl.out; omega) K HK.out
  rw [HLt.out] at hrest
  refine hrest.mono ?_
  rintro e w9 ⟨p', ok', es, x, rfl, hrep, hwent, hb⟩
  rw [HLt.out]
  have HI := Lib.hid (HH.out.new hb)
  have HRe := Lib.hid hrep
  have HW := Lib.hid (dec_fin (z := Ent.zero) (Z := N + 8) hwent HLt.out)
  have HEs : Hid (es.length = 38) := entE_ok.len hrep
  have HOne := Lib.hid (entE_ok.one hrep)
  have P10' := Lib.hid (P10.out.below hb)
  have H78 : Hid (w.heap.size < w7.heap.size ∧ w7.heap.size < w8.heap.size) := ⟨HGl.out, P10.out.lt⟩
  have HDf : Hid (decRes l = if ok' = true ∧ p' = M then (x, N + 8, 0) else (.zero, 0, 3)) := by
    unfold Hid
    rw [HD7.out, ← HM.out]
    exact HW.out
  clear hrep hwent hb hrest HH P10 HTk8 HD7 HW HKd HQ
  have HX : Hid (Below w9.heap.size w9 (w9.alloc (.cells #[.int .i64 0, .int .i64 0, .int .i64 0, .string ⟨#[]⟩, .int .i64 0, .int .i64 0, .int .i64 0, .int .i64 0, .int .i64 0, .slice none 0 0, .int .i64 0, .int .i64 0, .int .i64 0, .string ⟨#[]⟩, .int .i64 0, .bool false, .int .i64 0, .int .i64 0, .int .i64 0, .int .i64 0, .slice none 0 0, .int .i64 0, .int .i64 0, .int .i64 0, .slice none 0 0, .slice none 0 0, .slice none 0 0, .slice none 0 0, .int .i64 0, .int .u64 0, .int .i64 0, .int .i64 0, .int .i64 0, .int .i64 0, .slice none 0 0, .slice none 0 0, .slice none 0 0, .slice none 0 0] 54)) ∧ PAt (w9.alloc (.cells #[.int .i64 0, .int .i64 0, .int .i64 0, .string ⟨#[]⟩, .int .i64 0, .int .i64 0, .int .i64 0, .int .i64 0, .int .i64 0, .slice none 0 0, .int .i64 0, .int .i64 0, .int .i64 0, .string ⟨#[]⟩, .int .i64 0, .bool false, .int .i64 0, .int .i64 0, .int .i64 0, .int .i64 0, .slice none 0 0, .int .i64 0, .int .i64 0, .int .i64 0, .slice none 0 0, .slice none 0 0, .slice none 0 0, .slice none 0 0, .int .i64 0, .int .u64 0, .int .i64 0, .int .i64 0, .int .i64 0, .int .i64 0, .slice none 0 0, .slice none 0 0, .slice none 0 0, .slice none 0 0] 54)) w9.heap.size (kc 0)) := ⟨(Below.refl _ _).alloc (Nat.le_refl _) _, PAt.new w9 (kc 0) (by rw [kc_length]; decide) _ (by decide) rfl⟩
  go_upto_region 16 with (first
    | ((first | with_reducible refine gate_st ?_ | with_reducible refine gate_stw ?_); refine list_storeAgg rfl _ _ rfl w9.heap.size 0 rfl es rfl (by rw [sz_ent, HEs.out]) HOne.out (H2.out.new.thereMid 0 _ (by rw [HEs.out, kc_length]; decide)) ?_
       intro wb hwb
       have H3 := Lib.hid (H2.out.put P10'.out.lt es (by rw [HEs.out, kc_length]) hwb)
       clear hwb H2)
    | ((first | with_reducible refine gate_st ?_ | with_reducible refine gate_stw ?_); refine list_storeAgg rfl _ _ rfl w7.heap.size 0 rfl (rdV a M c p' ok') rfl (by rw [sz_rd]; rfl) (all_one rfl) ((P10'.out.below HX.out.1).thereMid 0 3 (by simp [rdV])) ?_
       intro wa hwa
       have H2 := Lib.hid (two_old HX.out.1 HX.out.2 P10'.out (rdV a M c p' ok') rfl hwa)
       clear hwa HX)
    | fail)
  have P12 := Lib.hid H3.out.new
  have P13 := Lib.hid H3.out.old
  have HJ := Lib.hid (HI.out.newAt H3.out.below H78.out.1)
  have HRf : Hid (entE.rep (fun k => w.heap.size < k) wb es x) := by
    have h1 := entE_ok.weak (av' := fun k => w8.heap.size ≤ k ∧ k < w9.heap.size) HRe.out fun k h2 h3 => ⟨h2, h3⟩
    refine entE_ok.weak (entE_ok.keep h1 fun k _ _ _ _ _ ha => H3.out.same k ha.2 (by have := H78.out; have := ha.1; omega)) fun k h2 _ => ?_
    have := H78.out; have := h2.1
    show w.heap.size < k
    omega
  clear H3 HI HRe P10'
  have k10 : wb.cell? ⟨w7.heap.size, 2, none⟩ = some (.bool ok') := P13.out.1.at 2 rfl
  have k11 : wb.cell? ⟨w7.heap.size, 1, none⟩ = some (.int .i64 p') := P13.out.1.at 1 rfl
  clear k0 k1 k2
  by_cases hok : ok' = true
  rotate_left
  · have hok : ok' = false := by simpa using hok
    subst hok
    have HDk : Hid (decRes l = (.zero, 0, 3)) := by unfold Hid; rw [HDf.out, if_neg (by simp)]
    clear HDf
    have HD : Hid (decRes l = (.zero, 0, 3)) := HDk.out
    go_wp2_with (first
      | ((first | with_reducible refine gate_st ?_ | with_reducible refine gate_stw ?_); refine row_store rfl _ _ rfl w.heap.size rfl (kc 0) (kc 0) rfl HJ.out.r.1 rfl rowT_ent (kc_one 0) ?_; intro w9 e9 h9)
      | fail)
    exact ret_row3 rfl _ _ _ _ e9 rowT_ent rfl rfl rfl rfl (DecIs.err 3 HD.out (HJ.out.b.trans (h9.below (Nat.le_refl _))))
  subst hok
  by_cases hpM : p' = M
  rotate_left
  · have HDk : Hid (decRes l = (.zero, 0, 3)) := by unfold Hid; rw [HDf.out, if_neg (fun h => hpM h.2)]
    have hne : ((p' : Int) != (M : Int)) = true := by simpa using (by omega : ¬ (p' : Int) = (M : Int))
    have hne2 : ¬ ((p' : Int) = (M : Int)) := by omega
    clear HDf
    have HD : Hid (decRes l = (.zero, 0, 3)) := HDk.out
    go_wp2_with (first
      | ((first | with_reducible refine gate_st ?_ | with_reducible refine gate_stw ?_); refine row_store rfl _ _ rfl w.heap.size rfl (kc 0) (kc 0) rfl HJ.out.r.1 rfl rowT_ent (kc_one 0) ?_; intro w9 e9 h9)
      | fail)
    exact ret_row3 rfl _ _ _ _ e9 rowT_ent rfl rfl rfl rfl (DecIs.err 3 HD.out (HJ.out.b.trans (h9.below (Nat.le_refl _))))
  subst hpM
  have HDk : Hid (decRes l = (x, N + 8, 0)) := by unfold Hid; rw [HDf.out, if_pos ⟨rfl, rfl⟩]
  clear HDf
  have m3 : (p' : Int) ≤ 1048572 := by have := HMl.out; omega
  have HE38 := Lib.hid (ent_load wb w9.heap.size es HEs.out P12.out.1.range)
  go_wp2_with (first
    | ((first | with_reducible refine gate_ld ?_ | with_reducible refine gate_ldw ?_); refine list_loadAgg HE38.out rfl _ rfl rfl ?_)
    | ((first | with_reducible refine gate_st ?_ | with_reducible refine gate_stw ?_); refine row_store rfl _ _ rfl w.heap.size rfl (kc 0) es rfl HJ.out.r.1 (by rw [HEs.out, kc_length]) rowT_ent HOne.out ?_; intro wz ez hz)
    | fail)
  refine ret_row3 rfl _ _ _ _ ez (by rw [HEs.out]; exact rowT_ent) rfl rfl rfl rfl ⟨es, by rw [HDk.out]; have := HM.out; simp; omega, ?_, HJ.out.b.trans (hz.below (Nat.le_refl _))⟩
  rw [HDk.out]
  exact entE_ok.weak (entE_ok.keep HRf.out fun k _ _ _ _ _ ha => hz.2.2.2.2 k (by have h1 : w.heap.size < k := ha; omega)) fun k h1 _ => Nat.le_of_lt h1
end Go.Proofs.Ytpknalpdcfjffaa
/- Laws for the walk of StoreCodes. No walk. -/
namespace Go.Proofs.Ytpknalpdcfjffaa
open Go Go.RowKit

theorem entB_none {x : Ent} : entB x = none ↔ ¬ (x.kind = 1 ∨ x.kind = 2 ∨ x.kind = 3 ∨ x.kind = 4) := by
  unfold entB
  split
  · simp_all
  · split
    · simp_all
    · split
      · simp_all
      · split <;> simp_all
theorem same_eq (x y : Ent) : sameB x y = rsameB x y := by
  unfold sameB rsameB bodyB
  by_cases hk : x.kind = y.kind
  · rw [decide_eq_true hk, Bool.true_and, Bool.true_and]
    cases hx : entB x with
    | none =>
      have : entB y = none := by rw [entB_none, ← hk, ← entB_none]; exact hx
      rw [this]; rfl
    | some b =>
      cases hy : entB y with
      | none =>
        have : entB x = none := by rw [entB_none, hk, ← entB_none]; exact hy
        rw [hx] at this; cases this
      | some d =>
        simp only [Option.getD_some, hk]
        rw [Bool.eq_iff_iff, beq_iff_eq, beq_iff_eq]
        simp
  · rw [decide_eq_false hk, Bool.false_and, Bool.false_and]
theorem odd_short {x : Ent} (hs : smEnt x) (k : Int) : ∀ b, entB { x with kind := k } = some b → b.length ≤ 20000 := by
  obtain ⟨h1, h2, h3, h4⟩ := hs
  intro b hb
  unfold entB at hb
  dsimp only at hb
  split at hb
  · obtain rfl := Option.some.inj hb; simp [ints_length]
  · split at hb
    · obtain rfl := Option.some.inj hb
      have := repB_length h1
      simp only [List.length_append, ints_length, List.length_cons, List.length_nil]; omega
    · split at hb
      · obtain rfl := Option.some.inj hb
        simp only [List.length_append, ints_length, List.length_cons, List.length_nil, strB_length, boolB_length, placeB_length, readingsB_length]; omega
      · split at hb
        · obtain rfl := Option.some.inj hb
          rcases h4 with h4 | h4
          · rw [h4]; decide
          · have := cycB_length h4; omega
        · cases hb
theorem zero_none : entB Ent.zero = none := rfl
theorem dec_small (l : List UInt8) : ∀ b, entB (decRes l).1 = some b → b.length ≤ 1048576 := by
  intro b hb
  have hz : ∀ (n : Nat) (e : Int), entB ((Ent.zero, n, e) : Ent × Nat × Int).1 = some b → b.length ≤ 1048576 := fun n e h => by
    have h : entB Ent.zero = some b := h
    rw [zero_none] at h; cases h
  unfold decRes at hb
  split at hb
  · exact hz _ _ hb
  · split at hb
    · exact hz _ _ hb
    · rename_i h1
      split at hb
      · exact hz _ _ hb
      · split at hb
        · exact hz _ _ hb
        · split at hb
          · exact hz _ _ hb
          · split at hb
            · exact hz _ _ hb
            · split at hb
              · rename_i x hx
                obtain ⟨b', hb', hl, _⟩ := ent_back _ _ _ _ hx
                have hb : entB x = some b := hb
                rw [hb'] at hb
                obtain rfl := Option.some.inj hb
                rw [List.append_nil] at hl
                rw [← hl, List.length_drop, List.length_take]
                omega
              · exact hz _ _ hb
theorem EntP.odd {av : Nat → Prop} {w : World} {x : Ent} {vR vB v0 v1 v2 v3 v4 v5 v6 v7 : Value} (h : EntP av w x vR vB v0 v1 v2 v3 v4 v5 v6 v7) {k : Int} (hk : I64 k) : EntP av w { x with kind := k } vR vB v0 v1 v2 v3 v4 v5 v6 v7 :=
  ⟨hk, h.now, h.rep, h.corr, h.arr, h.st, h.name, h.per, h.cyc⟩
/-- The cells of an entry, its slices written out. -/
theorem ent_slices {av : Nat → Prop} {w : World} {cs : List Value} {x : Ent} (h : entE.rep av w cs x) : ∃ (a : Nat → Option Addr) (n c : Nat → Nat), cs = entCells x (.slice (a 0) (n 0) (c 0)) (.slice (a 1) (n 1) (c 1)) (.slice (a 2) (n 2) (c 2)) (.slice (a 3) (n 3) (c 3)) (.slice (a 4) (n 4) (c 4)) (.slice (a 5) (n 5) (c 5)) (.slice (a 6) (n 6) (c 6)) (.slice (a 7) (n 7) (c 7)) (.slice (a 8) (n 8) (c 8)) (.slice (a 9) (n 9) (c 9)) ∧
    EntP av w x (.slice (a 0) (n 0) (c 0)) (.slice (a 1) (n 1) (c 1)) (.slice (a 2) (n 2) (c 2)) (.slice (a 3) (n 3) (c 3)) (.slice (a 4) (n 4) (c 4)) (.slice (a 5) (n 5) (c 5)) (.slice (a 6) (n 6) (c 6)) (.slice (a 7) (n 7) (c 7)) (.slice (a 8) (n 8) (c 8)) (.slice (a 9) (n 9) (c 9)) := by
  obtain ⟨vR, vB, v0, v1, v2, v3, v4, v5, v6, v7, rfl, h⟩ := h
  obtain ⟨aR, cR, rfl⟩ := h.rep.2.2.2.2.slice
  obtain ⟨aB, cB, rfl⟩ := h.per.2.2.slice
  have hc := h.cyc
  obtain ⟨u0, u1, u2, u3, u4, u5, u6, u7, e, _, _, _, r0, ⟨r1, r2, r3, _⟩, _, r4, r5, r6, r7⟩ := hc
  simp only [cycCells, List.cons.injEq] at e
  obtain ⟨_, _, _, rfl, rfl, rfl, rfl, _, _, _, _, _, _, rfl, rfl, rfl, rfl, _⟩ := e
  obtain ⟨a0, c0, rfl⟩ := r0.slice
  obtain ⟨a1, c1, rfl⟩ := r1.slice
  obtain ⟨a2, c2, rfl⟩ := r2.slice
  obtain ⟨a3, c3, rfl⟩ := r3.slice
  obtain ⟨a4, c4, rfl⟩ := r4.slice
  obtain ⟨a5, c5, rfl⟩ := r5.slice
  obtain ⟨a6, c6, rfl⟩ := r6.slice
  obtain ⟨a7, c7, rfl⟩ := r7.slice
  exact ⟨fun i => [aR, aB, a0, a1, a2, a3, a4, a5, a6, a7].getD i none, fun i => [x.rep.rds.length, x.bias.length, x.cyc.reps.length, x.cyc.ana.bg.length, x.cyc.ana.inc.length, x.cyc.ana.field.length, x.cyc.depth.length, x.cyc.flow.length, x.cyc.cycles.length, x.cyc.listed.length].getD i 0, fun i => [cR, cB, c0, c1, c2, c3, c4, c5, c6, c7].getD i 0, rfl, h⟩
theorem run_logs3 (x y : Ent) (a0 a1 a2 a3 a4 a5 a6 a7 a8 a9 : Option Addr) (n0 n1 n2 n3 n4 n5 n6 n7 n8 n9 c0 c1 c2 c3 c4 c5 c6 c7 c8 c9 : Nat) (w : World) :
    (Instr.buildSlice 56 3 #[(0, .agg (entCells x (.slice a0 n0 c0) (.slice a1 n1 c1) (.slice a2 n2 c2) (.slice a3 n3 c3) (.slice a4 n4 c4) (.slice a5 n5 c5) (.slice a6 n6 c6) (.slice a7 n7 c7) (.slice a8 n8 c8) (.slice a9 n9 c9)).toArray), (1, .agg (entCells y (.slice a0 n0 c0) (.slice a1 n1 c1) (.slice a2 n2 c2) (.slice a3 n3 c3) (.slice a4 n4 c4) (.slice a5 n5 c5) (.slice a6 n6 c6) (.slice a7 n7 c7) (.slice a8 n8 c8) (.slice a9 n9 c9)).toArray), (2, .agg (kc 0).toArray)]).run Try.prog w =
      .ok (.slice (some ⟨w.heap.size, 0, none⟩) 3 3) (w.alloc (.cells (entCells x (.slice a0 n0 c0) (.slice a1 n1 c1) (.slice a2 n2 c2) (.slice a3 n3 c3) (.slice a4 n4 c4) (.slice a5 n5 c5) (.slice a6 n6 c6) (.slice a7 n7 c7) (.slice a8 n8 c8) (.slice a9 n9 c9) ++ entCells y (.slice a0 n0 c0) (.slice a1 n1 c1) (.slice a2 n2 c2) (.slice a3 n3 c3) (.slice a4 n4 c4) (.slice a5 n5 c5) (.slice a6 n6 c6) (.slice a7 n7 c7) (.slice a8 n8 c8) (.slice a9 n9 c9) ++ kc 0).toArray 54)) := by kernel_rfl
theorem run_bytes6 (a0 a1 a2 a3 a4 a5 : Option Addr) (n0 n1 n2 n3 n4 n5 c0 c1 c2 c3 c4 c5 : Nat) (w : World) :
    (Instr.buildSlice 63 6 #[(0, .slice a0 n0 c0), (1, .slice a1 n1 c1), (2, .slice a2 n2 c2), (3, .slice a3 n3 c3), (4, .slice a4 n4 c4), (5, .slice a5 n5 c5)]).run Try.prog w =
      .ok (.slice (some ⟨w.heap.size, 0, none⟩) 6 6) (w.alloc (.cells #[.slice a0 n0 c0, .slice a1 n1 c1, .slice a2 n2 c2, .slice a3 n3 c3, .slice a4 n4 c4, .slice a5 n5 c5] 22)) := by kernel_rfl
theorem rd_lit3 {w : World} {c1 c2 c3 : List Value} {x1 x2 x3 : Ent} (h1 : entE.rep (fun _ => True) w c1 x1) (h2 : entE.rep (fun _ => True) w c2 x2) (h3 : entE.rep (fun _ => True) w c3 x3) : RdS entE (fun _ => True) (w.alloc (.cells (c1 ++ c2 ++ c3).toArray 54)) (.slice (some ⟨w.heap.size, 0, none⟩) 3 3) [x1, x2, x3] := by
  have l1 : c1.length = 38 := entE_ok.len h1
  have l2 : c2.length = 38 := entE_ok.len h2
  have l3 : c3.length = 38 := entE_ok.len h3
  have hk : Keeps (fun _ => True) w (w.alloc (.cells (c1 ++ c2 ++ c3).toArray 54)) := Keeps.of_below ((Below.refl _ _).alloc (Nat.le_refl _) _)
  have hlen : (c1 ++ c2 ++ c3).length = 114 := by simp only [List.length_append]; omega
  have hp := (PAt.new w (c1 ++ c2 ++ c3) (by omega) 54 (by decide) rfl).1.2.1
  refine ⟨some ⟨w.heap.size, 0, none⟩, 3, rfl, Nat.le_refl 3, by omega, by simp, fun _ => ⟨w.heap.size, 0, (c1 ++ c2 ++ c3).toArray, 54, (0, 0), rfl, heap_alloc_new w _, by decide, trivial, fun i hi => ?_⟩⟩
  have hi : i < 3 := hi
  have hcase : i = 0 ∨ i = 1 ∨ i = 2 := by omega
  rcases hcase with rfl | rfl | rfl
  · refine ⟨c1, entE_ok.keep h1 hk, fun j hj => ?_⟩
    have hj : j < 38 := hj
    have := hp (0 * 38 + j) (by omega)
    rw [List.append_assoc, List.getElem?_append_left (by omega)] at this
    simpa [entE] using this
  · refine ⟨c2, entE_ok.keep h2 hk, fun j hj => ?_⟩
    have hj : j < 38 := hj
    have := hp (1 * 38 + j) (by omega)
    rw [List.append_assoc, List.getElem?_append_right (by omega), List.getElem?_append_left (by omega), show 1 * 38 + j - c1.length = j by omega] at this
    simpa [entE] using this
  · refine ⟨c3, entE_ok.keep h3 hk, fun j hj => ?_⟩
    have hj : j < 38 := hj
    have := hp (2 * 38 + j) (by omega)
    rw [List.getElem?_append_right (by simp only [List.length_append]; omega), show 2 * 38 + j - (c1 ++ c2).length = j by simp only [List.length_append]; omega] at this
    simpa [entE] using this
end Go.Proofs.Ytpknalpdcfjffaa
/- States of the walk of StoreCodes. No walk. -/
namespace Go.Proofs.Ytpknalpdcfjffaa
open Go Go.RowKit

/-- Two entries in variables, and the given bytes. -/
structure SC2 (w : World) (bx by_ : Nat) (x y : Ent) (csx csy : List Value) (r : Value) (m : List UInt8) (W : World) : Prop where
  b : Below w.heap.size w W
  px : PAt W bx csx
  py : PAt W by_ csy
  rx : entE.rep (fun _ => True) W csx x
  ry : entE.rep (fun _ => True) W csy y
  r : BytesL W w.heap.size r m
theorem SC2.below {w W W' : World} {bx by_ : Nat} {x y : Ent} {csx csy : List Value} {r : Value} {m : List UInt8} (h : SC2 w bx by_ x y csx csy r m W) (hb : Below W.heap.size W W') : SC2 w bx by_ x y csx csy r m W' :=
  ⟨below_then h.b hb, h.px.below hb, h.py.below hb, entE_ok.keep h.rx (Keeps.of_below hb), entE_ok.keep h.ry (Keeps.of_below hb), h.r.below (hb.mono h.b.size)⟩
/-- Besides, an entry of the list, and the two encodings of it. -/
structure SC3 (w : World) (bx by_ bz : Nat) (x y z : Ent) (csx csy es : List Value) (r : Value) (m : List UInt8) (B : Nat) (v1 v2 : Value) (l : List UInt8) (W : World) : Prop where
  s : SC2 w bx by_ x y csx csy r m W
  pz : PAt W bz es
  rz : entE.rep (fun _ => True) W es z
  u : BytesL W B v1 l
  v : BytesL W B v2 l
  sz : B ≤ W.heap.size
theorem SC3.below {w W W' : World} {bx by_ bz : Nat} {x y z : Ent} {csx csy es : List Value} {r : Value} {m : List UInt8} {B : Nat} {v1 v2 : Value} {l : List UInt8} (h : SC3 w bx by_ bz x y z csx csy es r m B v1 v2 l W) (hb : Below W.heap.size W W') : SC3 w bx by_ bz x y z csx csy es r m B v1 v2 l W' :=
  ⟨h.s.below hb, h.pz.below hb, entE_ok.keep h.rz (Keeps.of_below hb), h.u.below (hb.mono h.sz), h.v.below (hb.mono h.sz), Nat.le_trans h.sz hb.size⟩
theorem OwnB.cap_le {w : World} {base : Nat} {a : Option Addr} {n c : Nat} {l : List UInt8} (h : OwnB w base (.slice a n c) l) : n ≤ c ∧ n = l.length := by
  obtain ⟨a', c', e, h1, _⟩ := h.bl
  simp only [Value.slice.injEq] at e
  omega
def C4 (C : Nat) : Obj := .cells #[.int .u8 ((C : Int) / 16777216), .int .u8 ((C : Int) / 65536 % 256), .int .u8 ((C : Int) / 256 % 256), .int .u8 ((C : Int) % 256)] 5
theorem cell_alloc_at (W : World) (cs : Array Value) (T : TypeId) (i : Nat) (u : Value) (h : cs[i]? = some u) : (W.alloc (.cells cs T)).cell? ⟨W.heap.size, 0 + i, none⟩ = some u := by
  have h1 := heap_alloc_new W (.cells cs T)
  have h2 : (W.alloc (.cells cs T)).heap[W.heap.size]'(by simp) = .cells cs T := by
    rw [Array.getElem?_eq_getElem (by simp)] at h1
    exact Option.some.inj h1
  simp [World.cell?, h2, h]
theorem sum_bytes (W : World) (C : Nat) (hC : C < 4294967296) : ∃ l : List UInt8, l.length = 4 ∧ BytesL (W.alloc (C4 C)) (W.heap.size + 1) (.slice (some ⟨W.heap.size, 0, none⟩) l.length 4) l := by
  have hb : ∀ n : Nat, n < 256 → ((UInt8.ofNat n).toNat : Nat) = n := fun n hn => by simp [UInt8.toNat_ofNat']; omega
  refine ⟨[UInt8.ofNat (C / 16777216), UInt8.ofNat (C / 65536 % 256), UInt8.ofNat (C / 256 % 256), UInt8.ofNat (C % 256)], rfl, some ⟨W.heap.size, 0, none⟩, 4, rfl, Nat.le_refl 4, by omega, fun i hi => ⟨W.heap.size, 0, rfl, by omega, ?_⟩⟩
  have hi : i < 4 := hi
  have hc : i = 0 ∨ i = 1 ∨ i = 2 ∨ i = 3 := by omega
  rcases hc with rfl | rfl | rfl | rfl
  · refine cell_alloc_at W _ _ 0 _ ?_
    show some _ = some _
    simp only [List.getElem_cons_zero, hb (C / 16777216) (by omega)]; rfl
  · refine cell_alloc_at W _ _ 1 _ ?_
    show some _ = some _
    simp only [List.getElem_cons_succ, List.getElem_cons_zero, hb (C / 65536 % 256) (by omega)]; rfl
  · refine cell_alloc_at W _ _ 2 _ ?_
    show some _ = some _
    simp only [List.getElem_cons_succ, List.getElem_cons_zero, hb (C / 256 % 256) (by omega)]; rfl
  · refine cell_alloc_at W _ _ 3 _ ?_
    show some _ = some _
    simp only [List.getElem_cons_succ, List.getElem_cons_zero, hb (C % 256) (by omega)]; rfl
theorem lit6_run {op : Oper} {a : Act} {w w' : World} {ST : TypeId} {u0 u1 u2 u3 u4 u5 v : Value} (hrun : (Instr.buildSlice ST 6 #[(0, u0), (1, u1), (2, u2), (3, u3), (4, u4), (5, u5)]).run Try.prog w = .ok v w') (y0 y1 y2 y3 y4 y5 : Operand) (ho : op.op = .buildSlice ST 6 #[(0, y0), (1, y1), (2, y2), (3, y3), (4, y4), (5, y5)])
    (h0 : a.eval y0 = u0) (h1 : a.eval y1 = u1) (h2 : a.eval y2 = u2) (h3 : a.eval y3 = u3) (h4 : a.eval y4 = u4) (h5 : a.eval y5 = u5) : (execOp a.eval op).run Try.prog w = .ok (.value v) w' := by
  have e : (#[(0, y0), (1, y1), (2, y2), (3, y3), (4, y4), (5, y5)] : Array (Nat × Operand)).map (fun (q : Nat × Operand) => (q.1, a.eval q.2)) = #[(0, u0), (1, u1), (2, u2), (3, u3), (4, u4), (5, u5)] := by simp [h0, h1, h2, h3, h4, h5]
  unfold execOp
  simp only [ho, e, Sem.run_bind, Sem.run_pure, Result.andThen_ok, hrun]
/-- Six slices of bytes in a row. -/
theorem six_at {W : World} {s0 s1 s2 s3 s4 s5 : Value} {l0 l1 l2 l3 l4 l5 : List UInt8} (h0 : BytesL W W.heap.size s0 l0) (h1 : BytesL W W.heap.size s1 l1) (h2 : BytesL W W.heap.size s2 l2) (h3 : BytesL W W.heap.size s3 l3) (h4 : BytesL W W.heap.size s4 l4) (h5 : BytesL W W.heap.size s5 l5) (T : TypeId) (hT : T ≠ 5) :
    ∀ i, i < 6 → ∃ sa sc l, (W.alloc (.cells #[s0, s1, s2, s3, s4, s5] T)).cell? ⟨W.heap.size, i, none⟩ = some (.slice sa l.length sc) ∧ BytesL (W.alloc (.cells #[s0, s1, s2, s3, s4, s5] T)) (W.alloc (.cells #[s0, s1, s2, s3, s4, s5] T)).heap.size (.slice sa l.length sc) l := by
  have hp := (PAt.new W [s0, s1, s2, s3, s4, s5] (by simp) T hT rfl).1
  have hb : Below W.heap.size W (W.alloc (.cells #[s0, s1, s2, s3, s4, s5] T)) := (Below.refl _ _).alloc (Nat.le_refl _) _
  have key : ∀ (i : Nat) (s : Value) (l : List UInt8), ([s0, s1, s2, s3, s4, s5] : List Value)[i]? = some s → BytesL W W.heap.size s l → ∃ sa sc l, (W.alloc (.cells #[s0, s1, s2, s3, s4, s5] T)).cell? ⟨W.heap.size, i, none⟩ = some (.slice sa l.length sc) ∧ BytesL (W.alloc (.cells #[s0, s1, s2, s3, s4, s5] T)) (W.alloc (.cells #[s0, s1, s2, s3, s4, s5] T)).heap.size (.slice sa l.length sc) l := fun i s l hi hs => by
    obtain ⟨sa, sc, rfl⟩ := hs.slice
    exact ⟨sa, sc, l, hp.at i hi, (hs.below hb).up hb.size⟩
  intro i hi
  have hc : i = 0 ∨ i = 1 ∨ i = 2 ∨ i = 3 ∨ i = 4 ∨ i = 5 := by omega
  rcases hc with rfl | rfl | rfl | rfl | rfl | rfl
  · exact key 0 s0 l0 rfl h0
  · exact key 1 s1 l1 rfl h1
  · exact key 2 s2 l2 rfl h2
  · exact key 3 s3 l3 rfl h3
  · exact key 4 s4 l4 rfl h4
  · exact key 5 s5 l5 rfl h5
theorem two_logs (W : World) : Below W.heap.size W ((W.alloc (.cells (kc 0).toArray 54)).alloc (.cells (kc 0).toArray 54)) ∧ PAt ((W.alloc (.cells (kc 0).toArray 54)).alloc (.cells (kc 0).toArray 54)) W.heap.size (kc 0) ∧ PAt ((W.alloc (.cells (kc 0).toArray 54)).alloc (.cells (kc 0).toArray 54)) (W.heap.size + 1) (kc 0) := by
  have h1 : PAt (W.alloc (.cells (kc 0).toArray 54)) W.heap.size (kc 0) := PAt.new W (kc 0) (by rw [kc_length]; decide) _ (by decide) rfl
  have hb : Below (W.alloc (.cells (kc 0).toArray 54)).heap.size (W.alloc (.cells (kc 0).toArray 54)) ((W.alloc (.cells (kc 0).toArray 54)).alloc (.cells (kc 0).toArray 54)) := (Below.refl _ _).alloc (Nat.le_refl _) _
  exact ⟨((Below.refl _ _).alloc (Nat.le_refl _) _).alloc (by simp) _, h1.below hb, PAt.new _ (kc 0) (by rw [kc_length]; decide) _ (by decide) (by simp)⟩
section
variable {W U U' : World} {N : Nat} {c1 c2 c3 c4 : List Value}
theorem pair_put1 (h : Below N W U ∧ PAt U N c1 ∧ PAt U (N + 1) c2) (es : List Value) (hl : es.length = c1.length) (hU : U' = U.setCells N 0 es) : Below N W U' ∧ PAt U' N es ∧ PAt U' (N + 1) c2 := by
  have hA := apartR_setCells N es 0 U
  rw [← hU] at hA
  exact ⟨h.1.trans (hA.below (Nat.le_refl _)), by rw [hU]; exact h.2.1.setCells es hl, h.2.2.of_block (hA.2.2.2.2 _ (by omega))⟩
theorem pair_put2 (h : Below N W U ∧ PAt U N c1 ∧ PAt U (N + 1) c2) (es : List Value) (hl : es.length = c2.length) (hU : U' = U.setCells (N + 1) 0 es) : Below N W U' ∧ PAt U' N c1 ∧ PAt U' (N + 1) es := by
  have hA := apartR_setCells (N + 1) es 0 U
  rw [← hU] at hA
  exact ⟨h.1.trans (hA.below (by omega)), h.2.1.of_block (hA.2.2.2.2 _ (by omega)), by rw [hU]; exact h.2.2.setCells es hl⟩
end
theorem SC2.start {w W U : World} {x y : Ent} {csx csy : List Value} {r : Value} {m : List UInt8} (hb : Below w.heap.size w W) (hr : BytesL W w.heap.size r m) (h : Below W.heap.size W U ∧ PAt U W.heap.size csx ∧ PAt U (W.heap.size + 1) csy) (hx : entE.rep (fun _ => True) W csx x) (hy : entE.rep (fun _ => True) W csy y) : SC2 w W.heap.size (W.heap.size + 1) x y csx csy r m U :=
  ⟨below_then hb h.1, h.2.1, h.2.2, entE_ok.keep hx (Keeps.of_below h.1), entE_ok.keep hy (Keeps.of_below h.1), hr.below (h.1.mono hb.size)⟩
theorem odd_put {W0 W W' : World} {N : Nat} {cs : List Value} {u : Value} (hp : PAt W N (u :: cs)) (hb : Below N W0 W) (kind : Int) (hW : W' = W.setCells N 0 [.int .i64 kind]) : PAt W' N (.int .i64 kind :: cs) ∧ Below N W0 W' := by
  have hA := apartR_setCells N [.int .i64 kind] 0 W
  rw [← hW] at hA
  refine ⟨?_, hb.trans (hA.below (Nat.le_refl _))⟩
  rw [hW]
  have := hp.setMid [.int .i64 kind] 0 (by simp)
  simpa using this
theorem list_lit3 {ops : Array Oper} {rest : List Oper} {op : Oper} {a : Act} {w w' : World} {Q : Exit → Act → World → Prop} {ST : TypeId} {u1 u2 u3 v : Value} (hrun : (Instr.buildSlice ST 3 #[(0, u1), (1, u2), (2, u3)]).run Try.prog w = .ok v w') (hgd : op.guard = none) (y1 y2 y3 : Operand) (ho : op.op = .buildSlice ST 3 #[(0, y1), (1, y2), (2, y3)]) (h1 : a.eval y1 = u1) (h2 : a.eval y2 = u2) (h3 : a.eval y3 = u3)
    (k : wpList Try.prog ops Q rest (a.put op.dst v) w') : wpList Try.prog ops Q (op :: rest) a w := by
  refine list_run hgd _ _ ?_ k
  have e : (#[(0, y1), (1, y2), (2, y3)] : Array (Nat × Operand)).map (fun (q : Nat × Operand) => (q.1, a.eval q.2)) = #[(0, u1), (1, u2), (2, u3)] := by simp [h1, h2, h3]
  unfold execOp
  simp only [ho, e, Sem.run_bind, Sem.run_pure, Result.andThen_ok, hrun]
end Go.Proofs.Ytpknalpdcfjffaa
/- StoreCodes answers true. Printed by gen_scod.py. -/
namespace Go.Proofs.Ytpknalpdcfjffaa
open Go Go.RowKit

set_option maxHeartbeats 16000000 in
set_option maxRecDepth 100000 in
theorem scod_any (v r : Value) (m : List UInt8) (att byv : Nat) (kind : Int) (ha : att ≤ 65535) (hby : byv ≤ 255) (hki : I64 kind) (w : World) (hc : U8At w w.heap.size v) (hm : BytesL w w.heap.size r m) (hlen : m.length ≤ 140737488351232) : Calls Try.prog 3 #[r, v, .int .u16 att, .int .u8 byv, .int .i64 kind] w (TrueIs w) := by
  have HC := Lib.hid hc
  have HM := Lib.hid hm
  have HLn := Lib.hid hlen
  have HKi := Lib.hid hki
  have HAt := Lib.hid ha
  have HBy := Lib.hid hby
  clear hc hm hlen hki ha hby
  go_enter Try.func3, Try.ntmps3
  go_wp2_with fail
  refine (awake_any w).mono ?_
  rintro e w1 ⟨rfl, hb1⟩
  have HB1 := Lib.hid hb1
  have HC1 := Lib.hid (HC.out.below hb1)
  have HM1 := Lib.hid (HM.out.below hb1)
  clear hb1 HC HM
  go_wp2_with fail
  refine (cnew_ok v 200 w.heap.size w1 HB1.out.size (by decide) HC1.out).mono ?_
  rintro e w2 ⟨rfl, hcd, hb2, _⟩
  have HB2 := Lib.hid (below_then HB1.out hb2)
  have HM2 := Lib.hid (HM1.out.below (hb2.mono HB1.out.size))
  have HCd := Lib.hid hcd
  have HLo : Hid (w.heap.size ≤ w1.heap.size) := HB1.out.size
  clear hcd hb2 HB1 HC1 HM1
  go_wp2_with fail
  refine (entry_ok w.heap.size w1.heap.size w2 HCd.out).mono ?_
  rintro e w3 ⟨x, csx, rfl, hrep, hcan, hsm, hst⟩
  have HX : Hid (canon x ∧ smEnt x) := ⟨hcan, hsm⟩
  have HRx := Lib.hid hrep
  have HSt := Lib.hid hst
  have HCl : Hid (w1.heap.size < w2.heap.size) := HCd.out.lt
  clear hrep hcan hsm hst HCd
  go_wp2_with fail
  refine (entry_ok w.heap.size w1.heap.size w3 HSt.out.1).mono ?_
  rintro e w4 ⟨y, csy, rfl, hrep, hcan, hsm, hst⟩
  have HY : Hid (canon y ∧ smEnt y) := ⟨hcan, hsm⟩
  have HB4 : Hid (Below w.heap.size w w4) := HB2.out.trans (((HSt.out.then hst).2.mono HB2.out.size).below HLo.out)
  have HM4 := Lib.hid (HM2.out.below (((HSt.out.then hst).2.mono HB2.out.size).below HLo.out))
  have hrx := entE_ok.keep HRx.out ((KeptBut.st hst).keeps (by have := HCl.out; omega))
  obtain ⟨xa, xan, xac, rfl, hpx⟩ := ent_slices hrx
  obtain ⟨ya, yan, yac, rfl, hpy⟩ := ent_slices hrep
  have HPx := Lib.hid (EntP.weak (av' := fun _ => True) hpx fun _ _ _ => trivial)
  have HPy := Lib.hid (EntP.weak (av' := fun _ => True) hpy fun _ _ _ => trivial)
  clear hrep hcan hsm hst hrx hpx hpy HRx HSt HB2 HM2
  have HU : Hid (Below w4.heap.size w4 ((w4.alloc (.cells #[.int .i64 0, .int .i64 0, .int .i64 0, .string ⟨#[]⟩, .int .i64 0, .int .i64 0, .int .i64 0, .int .i64 0, .int .i64 0, .slice none 0 0, .int .i64 0, .int .i64 0, .int .i64 0, .string ⟨#[]⟩, .int .i64 0, .bool false, .int .i64 0, .int .i64 0, .int .i64 0, .int .i64 0, .slice none 0 0, .int .i64 0, .int .i64 0, .int .i64 0, .slice none 0 0, .slice none 0 0, .slice none 0 0, .slice none 0 0, .int .i64 0, .int .u64 0, .int .i64 0, .int .i64 0, .int .i64 0, .int .i64 0, .slice none 0 0, .slice none 0 0, .slice none 0 0, .slice none 0 0] 54)).alloc (.cells #[.int .i64 0, .int .i64 0, .int .i64 0, .string ⟨#[]⟩, .int .i64 0, .int .i64 0, .int .i64 0, .int .i64 0, .int .i64 0, .slice none 0 0, .int .i64 0, .int .i64 0, .int .i64 0, .string ⟨#[]⟩, .int .i64 0, .bool false, .int .i64 0, .int .i64 0, .int .i64 0, .int .i64 0, .slice none 0 0, .int .i64 0, .int .i64 0, .int .i64 0, .slice none 0 0, .slice none 0 0, .slice none 0 0, .slice none 0 0, .int .i64 0, .int .u64 0, .int .i64 0, .int .i64 0, .int .i64 0, .int .i64 0, .slice none 0 0, .slice none 0 0, .slice none 0 0, .slice none 0 0] 54)) ∧ PAt ((w4.alloc (.cells #[.int .i64 0, .int .i64 0, .int .i64 0, .string ⟨#[]⟩, .int .i64 0, .int .i64 0, .int .i64 0, .int .i64 0, .int .i64 0, .slice none 0 0, .int .i64 0, .int .i64 0, .int .i64 0, .string ⟨#[]⟩, .int .i64 0, .bool false, .int .i64 0, .int .i64 0, .int .i64 0, .int .i64 0, .slice none 0 0, .int .i64 0, .int .i64 0, .int .i64 0, .slice none 0 0, .slice none 0 0, .slice none 0 0, .slice none 0 0, .int .i64 0, .int .u64 0, .int .i64 0, .int .i64 0, .int .i64 0, .int .i64 0, .slice none 0 0, .slice none 0 0, .slice none 0 0, .slice none 0 0] 54)).alloc (.cells #[.int .i64 0, .int .i64 0, .int .i64 0, .string ⟨#[]⟩, .int .i64 0, .int .i64 0, .int .i64 0, .int .i64 0, .int .i64 0, .slice none 0 0, .int .i64 0, .int .i64 0, .int .i64 0, .string ⟨#[]⟩, .int .i64 0, .bool false, .int .i64 0, .int .i64 0, .int .i64 0, .int .i64 0, .slice none 0 0, .int .i64 0, .int .i64 0, .int .i64 0, .slice none 0 0, .slice none 0 0, .slice none 0 0, .slice none 0 0, .int .i64 0, .int .u64 0, .int .i64 0, .int .i64 0, .int .i64 0, .int .i64 0, .slice none 0 0, .slice none 0 0, .slice none 0 0, .slice none 0 0] 54)) w4.heap.size (kc 0) ∧ PAt ((w4.alloc (.cells #[.int .i64 0, .int .i64 0, .int .i64 0, .string ⟨#[]⟩, .int .i64 0, .int .i64 0, .int .i64 0, .int .i64 0, .int .i64 0, .slice none 0 0, .int .i64 0, .int .i64 0, .int .i64 0, .string ⟨#[]⟩, .int .i64 0, .bool false, .int .i64 0, .int .i64 0, .int .i64 0, .int .i64 0, .slice none 0 0, .int .i64 0, .int .i64 0, .int .i64 0, .slice none 0 0, .slice none 0 0, .slice none 0 0, .slice none 0 0, .int .i64 0, .int .u64 0, .int .i64 0, .int .i64 0, .int .i64 0, .int .i64 0, .slice none 0 0, .slice none 0 0, .slice none 0 0, .slice none 0 0] 54)).alloc (.cells #[.int .i64 0, .int .i64 0, .int .i64 0, .string ⟨#[]⟩, .int .i64 0, .int .i64 0, .int .i64 0, .int .i64 0, .int .i64 0, .slice none 0 0, .int .i64 0, .int .i64 0, .int .i64 0, .string ⟨#[]⟩, .int .i64 0, .bool false, .int .i64 0, .int .i64 0, .int .i64 0, .int .i64 0, .slice none 0 0, .int .i64 0, .int .i64 0, .int .i64 0, .slice none 0 0, .slice none 0 0, .slice none 0 0, .slice none 0 0, .int .i64 0, .int .u64 0, .int .i64 0, .int .i64 0, .int .i64 0, .int .i64 0, .slice none 0 0, .slice none 0 0, .slice none 0 0, .slice none 0 0] 54)) (w4.heap.size + 1) (kc 0)) := two_logs w4
  go_upto_region 5 with (first
    | ((first | with_reducible refine gate_st ?_ | with_reducible refine gate_stw ?_); refine list_storeAgg rfl _ _ rfl (w4.heap.size + 1) 0 rfl (entCells y (.slice (ya 0) (yan 0) (yac 0)) (.slice (ya 1) (yan 1) (yac 1)) (.slice (ya 2) (yan 2) (yac 2)) (.slice (ya 3) (yan 3) (yac 3)) (.slice (ya 4) (yan 4) (yac 4)) (.slice (ya 5) (yan 5) (yac 5)) (.slice (ya 6) (yan 6) (yac 6)) (.slice (ya 7) (yan 7) (yac 7)) (.slice (ya 8) (yan 8) (yac 8)) (.slice (ya 9) (yan 9) (yac 9))) rfl (by rw [sz_ent]; rfl) (all_one rfl) (HU1.out.2.2.thereMid 0 38 (by rw [kc_length]; decide)) ?_
       intro w6 hw
       have HV := Lib.hid (pair_put2 HU1.out (entCells y (.slice (ya 0) (yan 0) (yac 0)) (.slice (ya 1) (yan 1) (yac 1)) (.slice (ya 2) (yan 2) (yac 2)) (.slice (ya 3) (yan 3) (yac 3)) (.slice (ya 4) (yan 4) (yac 4)) (.slice (ya 5) (yan 5) (yac 5)) (.slice (ya 6) (yan 6) (yac 6)) (.slice (ya 7) (yan 7) (yac 7)) (.slice (ya 8) (yan 8) (yac 8)) (.slice (ya 9) (yan 9) (yac 9))) rfl hw)
       clear hw HU1)
    | ((first | with_reducible refine gate_st ?_ | with_reducible refine gate_stw ?_); refine list_storeAgg rfl _ _ rfl w4.heap.size 0 rfl (entCells x (.slice (xa 0) (xan 0) (xac 0)) (.slice (xa 1) (xan 1) (xac 1)) (.slice (xa 2) (xan 2) (xac 2)) (.slice (xa 3) (xan 3) (xac 3)) (.slice (xa 4) (xan 4) (xac 4)) (.slice (xa 5) (xan 5) (xac 5)) (.slice (xa 6) (xan 6) (xac 6)) (.slice (xa 7) (xan 7) (xac 7)) (.slice (xa 8) (xan 8) (xac 8)) (.slice (xa 9) (xan 9) (xac 9))) rfl (by rw [sz_ent]; rfl) (all_one rfl) (HU.out.2.1.thereMid 0 38 (by rw [kc_length]; decide)) ?_
       intro w5 hw
       have HU1 := Lib.hid (pair_put1 HU.out (entCells x (.slice (xa 0) (xan 0) (xac 0)) (.slice (xa 1) (xan 1) (xac 1)) (.slice (xa 2) (xan 2) (xac 2)) (.slice (xa 3) (xan 3) (xac 3)) (.slice (xa 4) (xan 4) (xac 4)) (.slice (xa 5) (xan 5) (xac 5)) (.slice (xa 6) (xan 6) (xac 6)) (.slice (xa 7) (xan 7) (xac 7)) (.slice (xa 8) (xan 8) (xac 8)) (.slice (xa 9) (xan 9) (xac 9))) rfl hw)
       clear hw HU)
    | fail)
  have HS6 : Hid (SC2 w w4.heap.size (w4.heap.size + 1) x y (entCells x (.slice (xa 0) (xan 0) (xac 0)) (.slice (xa 1) (xan 1) (xac 1)) (.slice (xa 2) (xan 2) (xac 2)) (.slice (xa 3) (xan 3) (xac 3)) (.slice (xa 4) (xan 4) (xac 4)) (.slice (xa 5) (xan 5) (xac 5)) (.slice (xa 6) (xan 6) (xac 6)) (.slice (xa 7) (xan 7) (xac 7)) (.slice (xa 8) (xan 8) (xac 8)) (.slice (xa 9) (xan 9) (xac 9))) (entCells y (.slice (ya 0) (yan 0) (yac 0)) (.slice (ya 1) (yan 1) (yac 1)) (.slice (ya 2) (yan 2) (yac 2)) (.slice (ya 3) (yan 3) (yac 3)) (.slice (ya 4) (yan 4) (yac 4)) (.slice (ya 5) (yan 5) (yac 5)) (.slice (ya 6) (yan 6) (yac 6)) (.slice (ya 7) (yan 7) (yac 7)) (.slice (ya 8) (yan 8) (yac 8)) (.slice (ya 9) (yan 9) (yac 9))) r m w6) := SC2.start HB4.out HM4.out HV.out (EntP.shut HPx.out) (EntP.shut HPy.out)
  have HPx6 := Lib.hid (HPx.out.keep (Keeps.of_below HV.out.1))
  clear HV HB4 HM4 HPx HPy
  generalize hbx : w4.heap.size = bx at HS6 ⊢
  generalize hby : bx + 1 = by_ at HS6 ⊢
  clear hbx hby
  go_upto_region 6 with (first
    | ((first | with_reducible refine gate_ld ?_ | with_reducible refine gate_ldw ?_); refine list_loadAgg (ent_load0 w6 bx (entCells x (.slice (xa 0) (xan 0) (xac 0)) (.slice (xa 1) (xan 1) (xac 1)) (.slice (xa 2) (xan 2) (xac 2)) (.slice (xa 3) (xan 3) (xac 3)) (.slice (xa 4) (xan 4) (xac 4)) (.slice (xa 5) (xan 5) (xac 5)) (.slice (xa 6) (xan 6) (xac 6)) (.slice (xa 7) (xan 7) (xac 7)) (.slice (xa 8) (xan 8) (xac 8)) (.slice (xa 9) (xan 9) (xac 9))) rfl HS6.out.px.1.range) rfl _ rfl rfl ?_)
    | ((first | with_reducible refine gate_st ?_ | with_reducible refine gate_stw ?_); refine list_storeAgg rfl _ _ rfl w6.heap.size 0 rfl (entCells x (.slice (xa 0) (xan 0) (xac 0)) (.slice (xa 1) (xan 1) (xac 1)) (.slice (xa 2) (xan 2) (xac 2)) (.slice (xa 3) (xan 3) (xac 3)) (.slice (xa 4) (xan 4) (xac 4)) (.slice (xa 5) (xan 5) (xac 5)) (.slice (xa 6) (xan 6) (xac 6)) (.slice (xa 7) (xan 7) (xac 7)) (.slice (xa 8) (xan 8) (xac 8)) (.slice (xa 9) (xan 9) (xac 9))) rfl (by rw [sz_ent]; rfl) (all_one rfl) (log_there w6 _ (Nat.le_refl 38)) ?_
       intro w7 hw
       have h4 := log_new w6 (entCells x (.slice (xa 0) (xan 0) (xac 0)) (.slice (xa 1) (xan 1) (xac 1)) (.slice (xa 2) (xan 2) (xac 2)) (.slice (xa 3) (xan 3) (xac 3)) (.slice (xa 4) (xan 4) (xac 4)) (.slice (xa 5) (xan 5) (xac 5)) (.slice (xa 6) (xan 6) (xac 6)) (.slice (xa 7) (xan 7) (xac 7)) (.slice (xa 8) (xan 8) (xac 8)) (.slice (xa 9) (xan 9) (xac 9))) rfl hw
       have HPo := Lib.hid h4.1
       have HS7 := Lib.hid (HS6.out.below h4.2)
       have HB7 := Lib.hid h4.2
       clear hw h4)
    | fail)
  go_upto_region 7 with (first
    | ((first | with_reducible refine gate_st ?_ | with_reducible refine gate_stw ?_); refine list_storeV rfl _ _ rfl w6.heap.size 0 rfl (.int .i64 kind) rfl [.int .i64 kind] rfl (by kernel_rfl) (all_one rfl) (HPo.out.thereMid 0 1 (show 1 ≤ 38 by decide)) ?_
       intro w8 hw
       have h8 := odd_put HPo.out HB7.out kind hw
       have HPo8 : Hid (PAt w8 w6.heap.size (entCells { x with kind := kind } (.slice (xa 0) (xan 0) (xac 0)) (.slice (xa 1) (xan 1) (xac 1)) (.slice (xa 2) (xan 2) (xac 2)) (.slice (xa 3) (xan 3) (xac 3)) (.slice (xa 4) (xan 4) (xac 4)) (.slice (xa 5) (xan 5) (xac 5)) (.slice (xa 6) (xan 6) (xac 6)) (.slice (xa 7) (xan 7) (xac 7)) (.slice (xa 8) (xan 8) (xac 8)) (.slice (xa 9) (xan 9) (xac 9)))) := h8.1
       have HS8 := Lib.hid (HS6.out.below h8.2)
       have HPx8 := Lib.hid (HPx6.out.keep (Keeps.of_below h8.2))
       clear hw h8 HS7 HS6 HPx6 HPo HB7)
    | fail)
  generalize w6.heap.size = bo at HPo8 ⊢
  have HPo9 := Lib.hid (HPx8.out.odd HKi.out)
  have hb0 := run_build0
  have hl3 := run_logs3 x { x with kind := kind } (xa 0) (xa 1) (xa 2) (xa 3) (xa 4) (xa 5) (xa 6) (xa 7) (xa 8) (xa 9) (xan 0) (xan 1) (xan 2) (xan 3) (xan 4) (xan 5) (xan 6) (xan 7) (xan 8) (xan 9) (xac 0) (xac 1) (xac 2) (xac 3) (xac 4) (xac 5) (xac 6) (xac 7) (xac 8) (xac 9) w8
  have HRd : Hid (RdS entE (fun _ => True) (w8.alloc (.cells (entCells x (.slice (xa 0) (xan 0) (xac 0)) (.slice (xa 1) (xan 1) (xac 1)) (.slice (xa 2) (xan 2) (xac 2)) (.slice (xa 3) (xan 3) (xac 3)) (.slice (xa 4) (xan 4) (xac 4)) (.slice (xa 5) (xan 5) (xac 5)) (.slice (xa 6) (xan 6) (xac 6)) (.slice (xa 7) (xan 7) (xac 7)) (.slice (xa 8) (xan 8) (xac 8)) (.slice (xa 9) (xan 9) (xac 9)) ++ entCells { x with kind := kind } (.slice (xa 0) (xan 0) (xac 0)) (.slice (xa 1) (xan 1) (xac 1)) (.slice (xa 2) (xan 2) (xac 2)) (.slice (xa 3) (xan 3) (xac 3)) (.slice (xa 4) (xan 4) (xac 4)) (.slice (xa 5) (xan 5) (xac 5)) (.slice (xa 6) (xan 6) (xac 6)) (.slice (xa 7) (xan 7) (xac 7)) (.slice (xa 8) (xan 8) (xac 8)) (.slice (xa 9) (xan 9) (xac 9)) ++ kc 0).toArray 54)) (.slice (some ⟨w8.heap.size, 0, none⟩) 3 3) [x, { x with kind := kind }, Ent.zero]) := rd_lit3 (EntP.shut HPx8.out) (EntP.shut HPo9.out) (kc_rep _ _ 0 I64.zero)
  have HS9 := Lib.hid (HS8.out.below (W' := w8.alloc (.cells (entCells x (.slice (xa 0) (xan 0) (xac 0)) (.slice (xa 1) (xan 1) (xac 1)) (.slice (xa 2) (xan 2) (xac 2)) (.slice (xa 3) (xan 3) (xac 3)) (.slice (xa 4) (xan 4) (xac 4)) (.slice (xa 5) (xan 5) (xac 5)) (.slice (xa 6) (xan 6) (xac 6)) (.slice (xa 7) (xan 7) (xac 7)) (.slice (xa 8) (xan 8) (xac 8)) (.slice (xa 9) (xan 9) (xac 9)) ++ entCells { x with kind := kind } (.slice (xa 0) (xan 0) (xac 0)) (.slice (xa 1) (xan 1) (xac 1)) (.slice (xa 2) (xan 2) (xac 2)) (.slice (xa 3) (xan 3) (xac 3)) (.slice (xa 4) (xan 4) (xac 4)) (.slice (xa 5) (xan 5) (xac 5)) (.slice (xa 6) (xan 6) (xac 6)) (.slice (xa 7) (xan 7) (xac 7)) (.slice (xa 8) (xan 8) (xac 8)) (.slice (xa 9) (xan 9) (xac 9)) ++ kc 0).toArray 54)) ((Below.refl _ _).alloc (Nat.le_refl _) _))
  generalize w8.alloc (.cells (entCells x (.slice (xa 0) (xan 0) (xac 0)) (.slice (xa 1) (xan 1) (xac 1)) (.slice (xa 2) (xan 2) (xac 2)) (.slice (xa 3) (xan 3) (xac 3)) (.slice (xa 4) (xan 4) (xac 4)) (.slice (xa 5) (xan 5) (xac 5)) (.slice (xa 6) (xan 6) (xac 6)) (.slice (xa 7) (xan 7) (xac 7)) (.slice (xa 8) (xan 8) (xac 8)) (.slice (xa 9) (xan 9) (xac 9)) ++ entCells { x with kind := kind } (.slice (xa 0) (xan 0) (xac 0)) (.slice (xa 1) (xan 1) (xac 1)) (.slice (xa 2) (xan 2) (xac 2)) (.slice (xa 3) (xan 3) (xac 3)) (.slice (xa 4) (xan 4) (xac 4)) (.slice (xa 5) (xan 5) (xac 5)) (.slice (xa 6) (xan 6) (xac 6)) (.slice (xa 7) (xan 7) (xac 7)) (.slice (xa 8) (xan 8) (xac 8)) (.slice (xa 9) (xan 9) (xac 9)) ++ kc 0).toArray 54) = w9 at hl3 HRd HS9
  generalize hbl : w8.heap.size = bl at hl3 HRd
  go_wp2_with (first
    | ((first | with_reducible refine gate_ld ?_ | with_reducible refine gate_ldw ?_); refine list_loadAgg (ent_load0 w8 bx (entCells x (.slice (xa 0) (xan 0) (xac 0)) (.slice (xa 1) (xan 1) (xac 1)) (.slice (xa 2) (xan 2) (xac 2)) (.slice (xa 3) (xan 3) (xac 3)) (.slice (xa 4) (xan 4) (xac 4)) (.slice (xa 5) (xan 5) (xac 5)) (.slice (xa 6) (xan 6) (xac 6)) (.slice (xa 7) (xan 7) (xac 7)) (.slice (xa 8) (xan 8) (xac 8)) (.slice (xa 9) (xan 9) (xac 9))) rfl HS8.out.px.1.range) rfl _ rfl rfl ?_)
    | ((first | with_reducible refine gate_ld ?_ | with_reducible refine gate_ldw ?_); refine list_loadAgg (ent_load0 w8 bo (entCells { x with kind := kind } (.slice (xa 0) (xan 0) (xac 0)) (.slice (xa 1) (xan 1) (xac 1)) (.slice (xa 2) (xan 2) (xac 2)) (.slice (xa 3) (xan 3) (xac 3)) (.slice (xa 4) (xan 4) (xac 4)) (.slice (xa 5) (xan 5) (xac 5)) (.slice (xa 6) (xan 6) (xac 6)) (.slice (xa 7) (xan 7) (xac 7)) (.slice (xa 8) (xan 8) (xac 8)) (.slice (xa 9) (xan 9) (xac 9))) rfl HPo8.out.1.range) rfl _ rfl rfl ?_)
    | ((first | with_reducible refine gate_li ?_ | with_reducible refine gate_liw ?_); refine list_lit3 (by exact hl3) rfl _ _ _ rfl rfl rfl rfl ?_)
    | fail)
  have hz2 : ∀ z, z = x ∨ z = { x with kind := kind } ∨ z = Ent.zero → ∀ b, entB z = some b → b.length ≤ 20000 := by
    rintro z (rfl | rfl | rfl) b hb
    · obtain ⟨b', hb', hl'⟩ := ent_short HX.out.1 HX.out.2
      rw [hb] at hb'
      obtain rfl := Option.some.inj hb'
      exact hl'
    · exact odd_short HX.out.2 kind b hb
    · rw [zero_none] at hb; cases hb
  have HZb := Lib.hid hz2
  have HBx : Hid (∀ b, entB x = some b → b.length ≤ 20000) := hz2 x (Or.inl rfl)
  have HBy' : Hid (∀ b, entB y = some b → b.length ≤ 20000) := fun b hb => by
    obtain ⟨b', hb', hl'⟩ := ent_short HY.out.1 HY.out.2
    rw [hb] at hb'
    obtain rfl := Option.some.inj hb'
    exact hl'
  clear hz2 hl3 HPx8 HPo9 HPo8 HS8 hbl
  go_loopw [51, 16, 17, 18, 19, 20] (fun kv _ _ _ _ _ wr => ∃ i : Nat, kv = .int .i64 i ∧ i ≤ 3 ∧ Hid (Below w9.heap.size w9 wr)) (fun kv _ _ _ _ _ _ => (10 - intOf kv).toNat)
  case atStart => exact ⟨0, rfl, by omega, Below.refl _ _⟩
  case round =>
    obtain ⟨i, rfl, hi, HBr⟩ := hrel
    have HS := Lib.hid (HS9.out.below HBr.out)
    by_cases hin : i < 3
    · have i0 : (i : Int) < 3 := by omega
      have i9 : i ≤ 3 := by omega
      obtain ⟨lb, lo, es, ea, hal⟩ := HRd.out.atBelow entE_ok i hin
      obtain ⟨rfl, rfl⟩ : bl = lb ∧ 0 = lo := by simpa using ea
      obtain ⟨hrz, hrg⟩ := hal wr HBr.out
      have hzz : ([x, { x with kind := kind }, Ent.zero][i]'hin) = x ∨ ([x, { x with kind := kind }, Ent.zero][i]'hin) = { x with kind := kind } ∨ ([x, { x with kind := kind }, Ent.zero][i]'hin) = Ent.zero := by
        have hc : i = 0 ∨ i = 1 ∨ i = 2 := by omega
        rcases hc with rfl | rfl | rfl
        · exact Or.inl rfl
        · exact Or.inr (Or.inl rfl)
        · exact Or.inr (Or.inr rfl)
      have hzb := HZb.out _ hzz
      generalize ([x, { x with kind := kind }, Ent.zero][i]'hin) = z at hrz hzb
      clear hzz hal ea
      rw [Nat.zero_add] at hrg
      have HZn := Lib.hid hzb
      have HRz := Lib.hid hrz
      have HRg := Lib.hid hrg
      have HesL : es.length = 38 := entE_ok.len hrz
      have HOne := Lib.hid (entE_ok.one hrz)
      clear hrz hrg hzb
      go_upto_region 10 with (first
        | ((first | with_reducible refine gate_ld ?_ | with_reducible refine gate_ldw ?_); refine list_loadAgg (log_load HRg.out HesL) rfl _ rfl rfl ?_)
        | ((first | with_reducible refine gate_st ?_ | with_reducible refine gate_stw ?_); refine list_storeAgg rfl _ _ rfl wr.heap.size 0 rfl es rfl (by rw [sz_ent, HesL]) HOne.out (log_there wr _ (Nat.le_of_eq HesL)) ?_
           intro w10 hw
           have h4 := log_new wr es HesL hw
           have HPz := Lib.hid h4.1
           have HBz := Lib.hid h4.2
           have HSz := Lib.hid (HS.out.below h4.2)
           have HRz2 := Lib.hid (entE_ok.keep HRz.out (Keeps.of_below h4.2))
           clear hw h4 HS HRz)
        | fail)
      have HBz2 : Hid (Below w9.heap.size w9 w10) := below_then HBr.out HBz.out
      generalize wr.heap.size = bz at HPz ⊢
      clear HBr HBz HRg HOne
      go_wp2_with (first
        | ((first | with_reducible refine gate_ld ?_ | with_reducible refine gate_ldw ?_); refine list_loadAgg (ent_load0 w10 bz es HesL HPz.out.1.range) rfl _ rfl rfl ?_)
        | fail)
      refine (encode_any z es (fun _ => True) w10 HRz2.out (fun b hb => by have := HZn.out b hb; omega)).mono ?_
      rintro e w11 ⟨v1, rfl, ho, hb⟩
      have HS11 := Lib.hid (HSz.out.below hb)
      have HP11 := Lib.hid (HPz.out.below hb)
      have HR11 := Lib.hid (entE_ok.keep HRz2.out (Keeps.of_below hb))
      have HO1 := Lib.hid ho
      have HB11 := Lib.hid (below_then HBz2.out hb)
      clear ho hb HSz HPz HRz2 HBz2
      go_wp2_with (first
        | ((first | with_reducible refine gate_ld ?_ | with_reducible refine gate_ldw ?_); refine list_loadAgg (ent_load0 w11 bz es HesL HP11.out.1.range) rfl _ rfl rfl ?_)
        | fail)
      refine (renc_any z es (fun _ => True) w11 HR11.out (fun b hb => by have := HZn.out b hb; omega)).mono ?_
      rintro e w12 ⟨v2, rfl, ho, hb⟩
      generalize encRes z.kind (entB z) = R at HO1 ho ⊢
      obtain ⟨R1, R2⟩ := R
      dsimp only at HO1 ho ⊢
      obtain ⟨a1, c1, rfl⟩ := HO1.out.slice
      obtain ⟨a2, c2, rfl⟩ := ho.slice
      have H12 : Hid (SC3 w bx by_ bz x y z (entCells x (.slice (xa 0) (xan 0) (xac 0)) (.slice (xa 1) (xan 1) (xac 1)) (.slice (xa 2) (xan 2) (xac 2)) (.slice (xa 3) (xan 3) (xac 3)) (.slice (xa 4) (xan 4) (xac 4)) (.slice (xa 5) (xan 5) (xac 5)) (.slice (xa 6) (xan 6) (xac 6)) (.slice (xa 7) (xan 7) (xac 7)) (.slice (xa 8) (xan 8) (xac 8)) (.slice (xa 9) (xan 9) (xac 9))) (entCells y (.slice (ya 0) (yan 0) (yac 0)) (.slice (ya 1) (yan 1) (yac 1)) (.slice (ya 2) (yan 2) (yac 2)) (.slice (ya 3) (yan 3) (yac 3)) (.slice (ya 4) (yan 4) (yac 4)) (.slice (ya 5) (yan 5) (yac 5)) (.slice (ya 6) (yan 6) (yac 6)) (.slice (ya 7) (yan 7) (yac 7)) (.slice (ya 8) (yan 8) (yac 8)) (.slice (ya 9) (yan 9) (yac 9))) es r m w12.heap.size (.slice a1 R1.length c1) (.slice a2 R1.length c2) R1 w12) := ⟨HS11.out.below hb, HP11.out.below hb, entE_ok.keep HR11.out (Keeps.of_below hb), (HO1.out.grownB hb).bl, ho.bl, Nat.le_refl _⟩
      have HB12 : Hid (Below w9.heap.size w9 w12) := below_then HB11.out hb
      clear ho hb HS11 HP11 HR11 HO1 HB11
      go_upto_region 12 with fail
      have H13 := Lib.hid (H12.out.below (Below.refl _ _).drew)
      have HB13 : Hid (Below w9.heap.size w9 w12.drew) := HB12.out.drew
      refine wp_region_seqL (by kernel_rfl) (fun w' => SC3 w bx by_ bz x y z (entCells x (.slice (xa 0) (xan 0) (xac 0)) (.slice (xa 1) (xan 1) (xac 1)) (.slice (xa 2) (xan 2) (xac 2)) (.slice (xa 3) (xan 3) (xac 3)) (.slice (xa 4) (xan 4) (xac 4)) (.slice (xa 5) (xan 5) (xac 5)) (.slice (xa 6) (xan 6) (xac 6)) (.slice (xa 7) (xan 7) (xac 7)) (.slice (xa 8) (xan 8) (xac 8)) (.slice (xa 9) (xan 9) (xac 9))) (entCells y (.slice (ya 0) (yan 0) (yac 0)) (.slice (ya 1) (yan 1) (yac 1)) (.slice (ya 2) (yan 2) (yac 2)) (.slice (ya 3) (yan 3) (yac 3)) (.slice (ya 4) (yan 4) (yac 4)) (.slice (ya 5) (yan 5) (yac 5)) (.slice (ya 6) (yan 6) (yac 6)) (.slice (ya 7) (yan 7) (yac 7)) (.slice (ya 8) (yan 8) (yac 8)) (.slice (ya 9) (yan 9) (yac 9))) es r m w12.heap.size (.slice a1 R1.length c1) (.slice a2 R1.length c2) R1 w') 25 [(0, 0), (1, 0), (2, 0), (3, 0), (4, 0), (5, 1), (6, 0), (7, 1), (8, 0), (9, 0), (10, 0), (11, 1), (12, 1), (14, 1), (15, 1), (13, 2), (16, 2), (17, 0), (18, 0), (19, 0), (20, 1), (21, 1), (23, 1), (24, 1), (22, 2), (25, 2), (26, 0), (27, 0)] (by kernel_rfl) (H13.out) ?_
      refine sl_q (d := some 65) rfl rfl rfl (.int .i64 R2) (fun w => rfl) ?_
      simp only [Act.put, List.setIfInBounds_toArray, List.set_cons_zero, List.set_cons_succ]
      refine sl_q (d := some 66) rfl rfl rfl (.int .i64 R2) (fun w => rfl) ?_
      simp only [Act.put, List.setIfInBounds_toArray, List.set_cons_zero, List.set_cons_succ]
      refine sl_q (d := some 67) rfl rfl rfl (.bool false) (fun w => by simp [execOp, Act.eval, go_sem]) ?_
      simp only [Act.put, List.setIfInBounds_toArray, List.set_cons_zero, List.set_cons_succ]
      refine sl_q (d := some 68) rfl rfl rfl (.bool false) (fun w => rfl) ?_
      simp only [Act.put, List.setIfInBounds_toArray, List.set_cons_zero, List.set_cons_succ]
      refine sl_q (d := some 69) rfl rfl rfl (.slice a1 R1.length c1) (fun w => rfl) ?_
      simp only [Act.put, List.setIfInBounds_toArray, List.set_cons_zero, List.set_cons_succ]
      refine sl_s (d := some 70) rfl rfl rfl (.string ⟨R1.toArray⟩) (fun w hw => by have hw0 := bytesR_conv hw.u.r; simp [execOp, Act.eval, hw0, go_sem]) ?_
      simp only [Act.put, List.setIfInBounds_toArray, List.set_cons_zero, List.set_cons_succ]
      refine sl_q (d := some 71) rfl rfl rfl (.slice a2 R1.length c2) (fun w => rfl) ?_
      simp only [Act.put, List.setIfInBounds_toArray, List.set_cons_zero, List.set_cons_succ]
      refine sl_s (d := some 72) rfl rfl rfl (.string ⟨R1.toArray⟩) (fun w hw => by have hw0 := bytesR_conv hw.v.r; simp [execOp, Act.eval, hw0, go_sem]) ?_
      simp only [Act.put, List.setIfInBounds_toArray, List.set_cons_zero, List.set_cons_succ]
      refine sl_q (d := some 73) rfl rfl rfl (.bool false) (fun w => by simp [execOp, Act.eval, go_sem]) ?_
      simp only [Act.put, List.setIfInBounds_toArray, List.set_cons_zero, List.set_cons_succ]
      refine sl_q (d := some 74) rfl rfl rfl (.bool false) (fun w => by simp [execOp, Act.eval, go_sem]) ?_
      simp only [Act.put, List.setIfInBounds_toArray, List.set_cons_zero, List.set_cons_succ]
      refine sl_q (d := some 75) rfl rfl rfl (.bool false) (fun w => rfl) ?_
      simp only [Act.put, List.setIfInBounds_toArray, List.set_cons_zero, List.set_cons_succ]
      refine sl_load (d := some 76) rfl rfl rfl _ _ rfl ⟨bx, 0, none⟩ rfl (.agg (entCells x (.slice (xa 0) (xan 0) (xac 0)) (.slice (xa 1) (xan 1) (xac 1)) (.slice (xa 2) (xan 2) (xac 2)) (.slice (xa 3) (xan 3) (xac 3)) (.slice (xa 4) (xan 4) (xac 4)) (.slice (xa 5) (xan 5) (xac 5)) (.slice (xa 6) (xan 6) (xac 6)) (.slice (xa 7) (xan 7) (xac 7)) (.slice (xa 8) (xan 8) (xac 8)) (.slice (xa 9) (xan 9) (xac 9))).toArray) (fun w hw => ent_load0 w bx (entCells x (.slice (xa 0) (xan 0) (xac 0)) (.slice (xa 1) (xan 1) (xac 1)) (.slice (xa 2) (xan 2) (xac 2)) (.slice (xa 3) (xan 3) (xac 3)) (.slice (xa 4) (xan 4) (xac 4)) (.slice (xa 5) (xan 5) (xac 5)) (.slice (xa 6) (xan 6) (xac 6)) (.slice (xa 7) (xan 7) (xac 7)) (.slice (xa 8) (xan 8) (xac 8)) (.slice (xa 9) (xan 9) (xac 9))) rfl hw.s.px.1.range) ?_
      simp only [Act.put, List.setIfInBounds_toArray, List.set_cons_zero, List.set_cons_succ]
      refine sl_load (d := some 77) rfl rfl rfl _ _ rfl ⟨bz, 0, none⟩ rfl (.agg es.toArray) (fun w hw => ent_load0 w bz es HesL hw.pz.1.range) ?_
      simp only [Act.put, List.setIfInBounds_toArray, List.set_cons_zero, List.set_cons_succ]
      refine sl_load (d := some 79) rfl rfl rfl _ _ rfl ⟨bx, 0, none⟩ rfl (.agg (entCells x (.slice (xa 0) (xan 0) (xac 0)) (.slice (xa 1) (xan 1) (xac 1)) (.slice (xa 2) (xan 2) (xac 2)) (.slice (xa 3) (xan 3) (xac 3)) (.slice (xa 4) (xan 4) (xac 4)) (.slice (xa 5) (xan 5) (xac 5)) (.slice (xa 6) (xan 6) (xac 6)) (.slice (xa 7) (xan 7) (xac 7)) (.slice (xa 8) (xan 8) (xac 8)) (.slice (xa 9) (xan 9) (xac 9))).toArray) (fun w hw => ent_load0 w bx (entCells x (.slice (xa 0) (xan 0) (xac 0)) (.slice (xa 1) (xan 1) (xac 1)) (.slice (xa 2) (xan 2) (xac 2)) (.slice (xa 3) (xan 3) (xac 3)) (.slice (xa 4) (xan 4) (xac 4)) (.slice (xa 5) (xan 5) (xac 5)) (.slice (xa 6) (xan 6) (xac 6)) (.slice (xa 7) (xan 7) (xac 7)) (.slice (xa 8) (xan 8) (xac 8)) (.slice (xa 9) (xan 9) (xac 9))) rfl hw.s.px.1.range) ?_
      simp only [Act.put, List.setIfInBounds_toArray, List.set_cons_zero, List.set_cons_succ]
      refine sl_load (d := some 80) rfl rfl rfl _ _ rfl ⟨bz, 0, none⟩ rfl (.agg es.toArray) (fun w hw => ent_load0 w bz es HesL hw.pz.1.range) ?_
      simp only [Act.put, List.setIfInBounds_toArray, List.set_cons_zero, List.set_cons_succ]
      refine sl_call (d := some 78) rfl rfl rfl ⟨_, Try.func11, by kernel_rfl, by kernel_rfl⟩ _ _ _ rfl rfl [.agg (entCells x (.slice (xa 0) (xan 0) (xac 0)) (.slice (xa 1) (xan 1) (xac 1)) (.slice (xa 2) (xan 2) (xac 2)) (.slice (xa 3) (xan 3) (xac 3)) (.slice (xa 4) (xan 4) (xac 4)) (.slice (xa 5) (xan 5) (xac 5)) (.slice (xa 6) (xan 6) (xac 6)) (.slice (xa 7) (xan 7) (xac 7)) (.slice (xa 8) (xan 8) (xac 8)) (.slice (xa 9) (xan 9) (xac 9))).toArray, .agg es.toArray] rfl (same_any x z (entCells x (.slice (xa 0) (xan 0) (xac 0)) (.slice (xa 1) (xan 1) (xac 1)) (.slice (xa 2) (xan 2) (xac 2)) (.slice (xa 3) (xan 3) (xac 3)) (.slice (xa 4) (xan 4) (xac 4)) (.slice (xa 5) (xan 5) (xac 5)) (.slice (xa 6) (xan 6) (xac 6)) (.slice (xa 7) (xan 7) (xac 7)) (.slice (xa 8) (xan 8) (xac 8)) (.slice (xa 9) (xan 9) (xac 9))) (es) (fun _ => True) w12.drew H13.out.s.rx H13.out.rz (fun b hb => by have := HBx.out b hb; omega) (fun b hb => by have := HZn.out b hb; omega)) ?_
      rintro e w14 ⟨rfl, hb⟩
      have H14 := Lib.hid (H13.out.below hb)
      have HB14 := Lib.hid (below_then HB13.out hb)
      clear hb
      refine ⟨_, rfl, (fun _ => H14.out), ?_⟩
      simp only [Act.put, List.setIfInBounds_toArray, List.set_cons_zero, List.set_cons_succ]
      refine sl_call (d := some 81) rfl rfl rfl ⟨_, Try.func12, by kernel_rfl, by kernel_rfl⟩ _ _ _ rfl rfl [.agg (entCells x (.slice (xa 0) (xan 0) (xac 0)) (.slice (xa 1) (xan 1) (xac 1)) (.slice (xa 2) (xan 2) (xac 2)) (.slice (xa 3) (xan 3) (xac 3)) (.slice (xa 4) (xan 4) (xac 4)) (.slice (xa 5) (xan 5) (xac 5)) (.slice (xa 6) (xan 6) (xac 6)) (.slice (xa 7) (xan 7) (xac 7)) (.slice (xa 8) (xan 8) (xac 8)) (.slice (xa 9) (xan 9) (xac 9))).toArray, .agg es.toArray] rfl (rsame_any x z (entCells x (.slice (xa 0) (xan 0) (xac 0)) (.slice (xa 1) (xan 1) (xac 1)) (.slice (xa 2) (xan 2) (xac 2)) (.slice (xa 3) (xan 3) (xac 3)) (.slice (xa 4) (xan 4) (xac 4)) (.slice (xa 5) (xan 5) (xac 5)) (.slice (xa 6) (xan 6) (xac 6)) (.slice (xa 7) (xan 7) (xac 7)) (.slice (xa 8) (xan 8) (xac 8)) (.slice (xa 9) (xan 9) (xac 9))) (es) (fun _ => True) w14 H14.out.s.rx H14.out.rz (fun b hb => by have := HBx.out b hb; omega) (fun b hb => by have := HZn.out b hb; omega)) ?_
      rintro e w15 ⟨rfl, hb⟩
      have H15 := Lib.hid (H14.out.below hb)
      have HB15 := Lib.hid (below_then HB14.out hb)
      clear hb
      refine ⟨_, rfl, (fun _ => H15.out), ?_⟩
      simp only [Act.put, List.setIfInBounds_toArray, List.set_cons_zero, List.set_cons_succ]
      refine sl_q (d := some 82) rfl rfl rfl (.bool false) (fun w => by simp [execOp, Act.eval, same_eq, go_sem]) ?_
      simp only [Act.put, List.setIfInBounds_toArray, List.set_cons_zero, List.set_cons_succ]
      refine sl_q (d := some 83) rfl rfl rfl (.bool false) (fun w => by simp [execOp, Act.eval, go_sem]) ?_
      simp only [Act.put, List.setIfInBounds_toArray, List.set_cons_zero, List.set_cons_succ]
      refine sl_q (d := some 84) rfl rfl rfl (.bool false) (fun w => rfl) ?_
      simp only [Act.put, List.setIfInBounds_toArray, List.set_cons_zero, List.set_cons_succ]
      refine sl_load (d := some 85) rfl rfl rfl _ _ rfl ⟨bz, 0, none⟩ rfl (.agg es.toArray) (fun w hw => ent_load0 w bz es HesL hw.pz.1.range) ?_
      simp only [Act.put, List.setIfInBounds_toArray, List.set_cons_zero, List.set_cons_succ]
      refine sl_load (d := some 86) rfl rfl rfl _ _ rfl ⟨by_, 0, none⟩ rfl (.agg (entCells y (.slice (ya 0) (yan 0) (yac 0)) (.slice (ya 1) (yan 1) (yac 1)) (.slice (ya 2) (yan 2) (yac 2)) (.slice (ya 3) (yan 3) (yac 3)) (.slice (ya 4) (yan 4) (yac 4)) (.slice (ya 5) (yan 5) (yac 5)) (.slice (ya 6) (yan 6) (yac 6)) (.slice (ya 7) (yan 7) (yac 7)) (.slice (ya 8) (yan 8) (yac 8)) (.slice (ya 9) (yan 9) (yac 9))).toArray) (fun w hw => ent_load0 w by_ (entCells y (.slice (ya 0) (yan 0) (yac 0)) (.slice (ya 1) (yan 1) (yac 1)) (.slice (ya 2) (yan 2) (yac 2)) (.slice (ya 3) (yan 3) (yac 3)) (.slice (ya 4) (yan 4) (yac 4)) (.slice (ya 5) (yan 5) (yac 5)) (.slice (ya 6) (yan 6) (yac 6)) (.slice (ya 7) (yan 7) (yac 7)) (.slice (ya 8) (yan 8) (yac 8)) (.slice (ya 9) (yan 9) (yac 9))) rfl hw.s.py.1.range) ?_
      simp only [Act.put, List.setIfInBounds_toArray, List.set_cons_zero, List.set_cons_succ]
      refine sl_load (d := some 88) rfl rfl rfl _ _ rfl ⟨bz, 0, none⟩ rfl (.agg es.toArray) (fun w hw => ent_load0 w bz es HesL hw.pz.1.range) ?_
      simp only [Act.put, List.setIfInBounds_toArray, List.set_cons_zero, List.set_cons_succ]
      refine sl_load (d := some 89) rfl rfl rfl _ _ rfl ⟨by_, 0, none⟩ rfl (.agg (entCells y (.slice (ya 0) (yan 0) (yac 0)) (.slice (ya 1) (yan 1) (yac 1)) (.slice (ya 2) (yan 2) (yac 2)) (.slice (ya 3) (yan 3) (yac 3)) (.slice (ya 4) (yan 4) (yac 4)) (.slice (ya 5) (yan 5) (yac 5)) (.slice (ya 6) (yan 6) (yac 6)) (.slice (ya 7) (yan 7) (yac 7)) (.slice (ya 8) (yan 8) (yac 8)) (.slice (ya 9) (yan 9) (yac 9))).toArray) (fun w hw => ent_load0 w by_ (entCells y (.slice (ya 0) (yan 0) (yac 0)) (.slice (ya 1) (yan 1) (yac 1)) (.slice (ya 2) (yan 2) (yac 2)) (.slice (ya 3) (yan 3) (yac 3)) (.slice (ya 4) (yan 4) (yac 4)) (.slice (ya 5) (yan 5) (yac 5)) (.slice (ya 6) (yan 6) (yac 6)) (.slice (ya 7) (yan 7) (yac 7)) (.slice (ya 8) (yan 8) (yac 8)) (.slice (ya 9) (yan 9) (yac 9))) rfl hw.s.py.1.range) ?_
      simp only [Act.put, List.setIfInBounds_toArray, List.set_cons_zero, List.set_cons_succ]
      refine sl_call (d := some 87) rfl rfl rfl ⟨_, Try.func11, by kernel_rfl, by kernel_rfl⟩ _ _ _ rfl rfl [.agg es.toArray, .agg (entCells y (.slice (ya 0) (yan 0) (yac 0)) (.slice (ya 1) (yan 1) (yac 1)) (.slice (ya 2) (yan 2) (yac 2)) (.slice (ya 3) (yan 3) (yac 3)) (.slice (ya 4) (yan 4) (yac 4)) (.slice (ya 5) (yan 5) (yac 5)) (.slice (ya 6) (yan 6) (yac 6)) (.slice (ya 7) (yan 7) (yac 7)) (.slice (ya 8) (yan 8) (yac 8)) (.slice (ya 9) (yan 9) (yac 9))).toArray] rfl (same_any z y (es) (entCells y (.slice (ya 0) (yan 0) (yac 0)) (.slice (ya 1) (yan 1) (yac 1)) (.slice (ya 2) (yan 2) (yac 2)) (.slice (ya 3) (yan 3) (yac 3)) (.slice (ya 4) (yan 4) (yac 4)) (.slice (ya 5) (yan 5) (yac 5)) (.slice (ya 6) (yan 6) (yac 6)) (.slice (ya 7) (yan 7) (yac 7)) (.slice (ya 8) (yan 8) (yac 8)) (.slice (ya 9) (yan 9) (yac 9))) (fun _ => True) w15 H15.out.rz H15.out.s.ry (fun b hb => by have := HZn.out b hb; omega) (fun b hb => by have := HBy'.out b hb; omega)) ?_
      rintro e w16 ⟨rfl, hb⟩
      have H16 := Lib.hid (H15.out.below hb)
      have HB16 := Lib.hid (below_then HB15.out hb)
      clear hb
      refine ⟨_, rfl, (fun _ => H16.out), ?_⟩
      simp only [Act.put, List.setIfInBounds_toArray, List.set_cons_zero, List.set_cons_succ]
      refine sl_call (d := some 90) rfl rfl rfl ⟨_, Try.func12, by kernel_rfl, by kernel_rfl⟩ _ _ _ rfl rfl [.agg es.toArray, .agg (entCells y (.slice (ya 0) (yan 0) (yac 0)) (.slice (ya 1) (yan 1) (yac 1)) (.slice (ya 2) (yan 2) (yac 2)) (.slice (ya 3) (yan 3) (yac 3)) (.slice (ya 4) (yan 4) (yac 4)) (.slice (ya 5) (yan 5) (yac 5)) (.slice (ya 6) (yan 6) (yac 6)) (.slice (ya 7) (yan 7) (yac 7)) (.slice (ya 8) (yan 8) (yac 8)) (.slice (ya 9) (yan 9) (yac 9))).toArray] rfl (rsame_any z y (es) (entCells y (.slice (ya 0) (yan 0) (yac 0)) (.slice (ya 1) (yan 1) (yac 1)) (.slice (ya 2) (yan 2) (yac 2)) (.slice (ya 3) (yan 3) (yac 3)) (.slice (ya 4) (yan 4) (yac 4)) (.slice (ya 5) (yan 5) (yac 5)) (.slice (ya 6) (yan 6) (yac 6)) (.slice (ya 7) (yan 7) (yac 7)) (.slice (ya 8) (yan 8) (yac 8)) (.slice (ya 9) (yan 9) (yac 9))) (fun _ => True) w16 H16.out.rz H16.out.s.ry (fun b hb => by have := HZn.out b hb; omega) (fun b hb => by have := HBy'.out b hb; omega)) ?_
      rintro e w17 ⟨rfl, hb⟩
      have H17 := Lib.hid (H16.out.below hb)
      have HB17 := Lib.hid (below_then HB16.out hb)
      clear hb
      refine ⟨_, rfl, (fun h => by cases h), ?_⟩
      simp only [Act.put, List.setIfInBounds_toArray, List.set_cons_zero, List.set_cons_succ]
      refine sl_q (d := some 91) rfl rfl rfl (.bool false) (fun w => by simp [execOp, Act.eval, same_eq, go_sem]) ?_
      simp only [Act.put, List.setIfInBounds_toArray, List.set_cons_zero, List.set_cons_succ]
      refine sl_q (d := some 92) rfl rfl rfl (.bool false) (fun w => by simp [execOp, Act.eval, go_sem]) ?_
      simp only [Act.put, List.setIfInBounds_toArray, List.set_cons_zero, List.set_cons_succ]
      refine sl_end ?_
      go_wp2_with fail
      go_roundw
      case rel => exact ⟨i + 1, by go_num, by omega, HB17⟩
      case measure => simp [intOf]; omega
    · obtain rfl : i = 3 := by omega
      clear hi hin HZb
      go_upto_region 15 with fail
      go_wp2_with (first
        | ((first | with_reducible refine gate_ld ?_ | with_reducible refine gate_ldw ?_); refine list_loadAgg (ent_load0 wr bx (entCells x (.slice (xa 0) (xan 0) (xac 0)) (.slice (xa 1) (xan 1) (xac 1)) (.slice (xa 2) (xan 2) (xac 2)) (.slice (xa 3) (xan 3) (xac 3)) (.slice (xa 4) (xan 4) (xac 4)) (.slice (xa 5) (xan 5) (xac 5)) (.slice (xa 6) (xan 6) (xac 6)) (.slice (xa 7) (xan 7) (xac 7)) (.slice (xa 8) (xan 8) (xac 8)) (.slice (xa 9) (xan 9) (xac 9))) rfl HS.out.px.1.range) rfl _ rfl rfl ?_)
        | fail)
      refine (renc_any x (entCells x (.slice (xa 0) (xan 0) (xac 0)) (.slice (xa 1) (xan 1) (xac 1)) (.slice (xa 2) (xan 2) (xac 2)) (.slice (xa 3) (xan 3) (xac 3)) (.slice (xa 4) (xan 4) (xac 4)) (.slice (xa 5) (xan 5) (xac 5)) (.slice (xa 6) (xan 6) (xac 6)) (.slice (xa 7) (xan 7) (xac 7)) (.slice (xa 8) (xan 8) (xac 8)) (.slice (xa 9) (xan 9) (xac 9))) (fun _ => True) wr HS.out.rx (fun b hb => by have := HBx.out b hb; omega)).mono ?_
      rintro e wa ⟨v1, rfl, ho, hb⟩
      obtain ⟨bb, hbb, hbl⟩ := ent_short HX.out.1 HX.out.2
      rw [hbb, encRes_some _ _ (by omega)] at ho ⊢
      obtain ⟨N, hN⟩ : ∃ N, N = bb.length + 9 := ⟨_, rfl⟩
      have hEl : (encB x.kind bb).length = N := by rw [encB_length, hN]
      have HNb : Hid (9 ≤ N ∧ N ≤ 20009) := ⟨by omega, by omega⟩
      generalize encB x.kind bb = E at ho hEl ⊢
      dsimp only at ho ⊢
      obtain ⟨a1, c1, rfl⟩ := ho.slice
      have HEl := Lib.hid hEl
      have HM1 := Lib.hid (HS.out.r.below (hb.mono HS.out.b.size))
      have HB1 := Lib.hid (below_then HS.out.b hb)
      have hxe : BytesL wa wa.heap.size (.slice a1 E.length c1) E := ho.bl
      obtain ⟨v2, wc, hrun, ho2, hb2⟩ := append_bl (OwnB.nil wa wa.heap.size) hxe (by simp) (by rw [hEl]; have := HNb.out; omega) (Nat.le_refl _) 22
      rw [List.nil_append] at ho2
      rw [hEl] at hrun ⊢
      obtain ⟨g, cap, rfl, hgb, hgc⟩ := ho2.block (by rw [hEl]; have := HNb.out; omega)
      rw [hEl] at ho2 hrun
      obtain ⟨K, hK⟩ : ∃ K, K = att % N := ⟨_, rfl⟩
      have hKN : K < N := by rw [hK]; exact Nat.mod_lt _ (by have := HNb.out; omega)
      have htm : (att : Int).tmod (N : Int) = (K : Int) := by rw [hK]; exact Int.ofNat_tmod att N ▸ rfl
      obtain ⟨k1, k2⟩ := hgc K (by rw [hEl]; exact hKN)
      generalize E[K]'(by rw [hEl]; exact hKN) = zb at k1
      obtain ⟨c', hc'⟩ := xor_byte ((zb.toNat : Nat) : Int) ((byv : Nat) : Int)
      have hset := ho2.set K c'
      rw [← hc'] at hset
      have HRun := Lib.hid hrun
      have HSet := Lib.hid hset
      have HGb := Lib.hid hgb
      have HM2 := Lib.hid (HM1.out.below (hb2.mono HB1.out.size))
      have HB2 := Lib.hid (below_then HB1.out hb2)
      have HE1 : Hid (BytesL wa wa.heap.size (.slice a1 N c1) E) := by have := hxe; rw [hEl] at this; exact this
      have HE2 := Lib.hid (HE1.out.below hb2)
      have HSz : Hid (w.heap.size ≤ wa.heap.size ∧ wa.heap.size ≤ wc.heap.size) := ⟨HB1.out.size, hb2.size⟩
      have kb : (K : Int) < (N : Int) := by omega
      have kn : (N : Int) ≤ 20009 := by have := HNb.out; omega
      have kz : ¬ ((N : Int) = 0) := by have := HNb.out; omega
      have h2 := HAt.out
      have h3 := HBy.out
      clear hN hbb hbl hb hxe hrun ho ho2 hgb hgc hset hc' hb2 hK hKN hEl HS HBr
      go_upto_region 17 with (first
        | (at_builtin; refine wpList_append_run rfl _ _ _ rfl _ _ _ _ rfl rfl HRun.out ?_; clear HRun)
        | fail)
      go_upto_region 18 with (first
        | ((first | with_reducible refine gate_st ?_ | with_reducible refine gate_stw ?_); refine list_skipE rfl _ _ rfl (wc.setCell ⟨g, K, none⟩ (.int .u8 (bits .xor .u8 ((zb.toNat : Nat) : Int) ((byv : Nat) : Int)))) (by simp [execOp, Act.eval, k1, k2, go_sem]) ?_
           intro wd hw
           have HO4 : Hid (OwnB wd wa.heap.size (.slice (some ⟨g, 0, none⟩) N cap) (E.set K c')) := by rw [hw]; exact HSet.out
           have HBd : Hid (Below wa.heap.size wc wd) := by rw [hw]; exact (Below.refl _ _).setCell HGb.out _
           clear hw HSet)
        | fail)
      have HE3 := Lib.hid (HE2.out.below HBd.out)
      have HB3 := Lib.hid (HB2.out.trans (HBd.out.mono HSz.out.1))
      have HM3 := Lib.hid (HM2.out.below (HBd.out.mono HSz.out.1))
      have HSz3 : Hid (wa.heap.size ≤ wd.heap.size) := Nat.le_trans HSz.out.2 HBd.out.size
      obtain ⟨F, hF⟩ : ∃ F, F = N - 4 := ⟨_, rfl⟩
      have hNF : (N : Int) - 4 = (F : Int) := by have := HNb.out; omega
      have hFc : (F : Int) ≤ (cap : Int) := by have := HO4.out.cap_le; have := HNb.out; omega
      have hF0 : (0 : Int) ≤ (F : Int) := by omega
      have HFN : Hid (F ≤ N ∧ F ≤ 20009) := by have := HNb.out; unfold Hid; omega
      have HOl : Hid ((E.set K c').length = N) := by unfold Hid; rw [List.length_set]; exact HEl.out
      have HTk : Hid (BytesL wd wd.heap.size (.slice (some ⟨g, 0, none⟩) F cap) ((E.set K c').take F)) := HO4.out.bl.take F (by rw [HOl.out]; exact HFN.out.1)
      have HTl : Hid (((E.set K c').take F).length = F) := by unfold Hid; rw [List.length_take, HOl.out]; have := HFN.out; omega
      clear hF HBd HB2 HM2 HE2 HE1 k1 k2 htm kb
      go_wp2_with fail
      refine (rchecksum_any _ ((E.set K c').take F) wd HTk.out.r (by rw [HTl.out]; have := HFN.out; omega)).mono ?_
      rintro e we ⟨rfl, rfl⟩
      have hclt := chk_lt ((E.set K c').take F)
      generalize chk ((E.set K c').take F) = C at hclt ⊢
      have c0 : (C : Int) < 4294967296 := by omega
      obtain ⟨v5, w5, hrun5, ho5, hb5⟩ := append_bl (OwnB.nil wd wd.heap.size) (by rw [HTl.out]; exact HTk.out) (by simp) (by rw [HTl.out]; have := HFN.out; omega) (Nat.le_refl _) 22
      rw [List.nil_append] at ho5
      rw [HTl.out] at hrun5
      have HRun5 := Lib.hid hrun5
      have HO5 := Lib.hid ho5
      have HB5 := Lib.hid hb5
      clear hrun5 ho5 hb5 hclt
      obtain ⟨l4, hl4, hx4⟩ := sum_bytes w5 C (by omega)
      have hal : Below w5.heap.size w5 (w5.alloc (C4 C)) := (Below.refl _ _).alloc (Nat.le_refl _) _
      obtain ⟨v6, w6, hrun6, ho6, hb6⟩ := append_bl (HO5.out.grownB hal) hx4 (by rw [HTl.out]; have := HFN.out; omega) (by rw [hl4]; omega) (Nat.le_trans HB5.out.size hal.size) 22
      rw [hl4] at hrun6
      have hb36 : Below wd.heap.size wd w6 := HB5.out.trans ((hal.mono HB5.out.size).trans hb6)
      have HRun6 := Lib.hid hrun6
      have HR6 := Lib.hid ho6.bl
      have HE6 := Lib.hid (HE3.out.below (hb36.mono HSz3.out))
      have HO6 := Lib.hid ((HO4.out.grownB hb36).bl)
      have HM6 := Lib.hid (HM3.out.below (hb36.mono HB3.out.size))
      have HB6 := Lib.hid (below_then HB3.out hb36)
      have HSz6 : Hid (wa.heap.size ≤ w6.heap.size) := Nat.le_trans HSz3.out hb36.size
      obtain ⟨g6, c6, rfl⟩ := ho6.slice
      generalize (E.set K c').take F ++ l4 = RR at HR6 HRun6
      clear hl4 hx4 hal hrun6 ho6 hb6 hb36 HO5 HB5 HE3 HO4 HM3 HB3 HSz HSz3 HTk HTl
      go_wp2_with (first
        | (at_builtin; refine wpList_append_run rfl _ _ _ rfl _ _ _ _ rfl rfl HRun5.out ?_; clear HRun5)
        | (at_builtin; refine wpList_append_run rfl _ _ _ rfl _ _ _ _ rfl rfl HRun6.out ?_; clear HRun6)
        | fail)
      obtain ⟨ra, rc, rfl⟩ := HM6.out.slice
      obtain ⟨K2, hK2⟩ : ∃ K2, K2 = att % (N + 1) := ⟨_, rfl⟩
      have hK2N : K2 ≤ N := by have := Nat.mod_lt att (show 0 < N + 1 by omega); omega
      have htm2 : (att : Int).tmod ((N : Int) + 1) = (K2 : Int) := by rw [hK2]; exact Int.ofNat_tmod att (N + 1) ▸ rfl
      have nz : ¬ ((N : Int) + 1 = 0) := by omega
      have hwA : IntKind.i64.wrap (att : Int) = (att : Int) := by simp [IntKind.wrap, IntKind.signed, IntKind.bits] <;> omega
      have hwN : IntKind.i64.wrap ((N : Int) + 1) = (N : Int) + 1 := by simp [IntKind.wrap, IntKind.signed, IntKind.bits] <;> omega
      obtain ⟨q1, q2⟩ : N ≤ c1 ∧ c1 ≤ 9223372036854775807 := by
        obtain ⟨a', c', e, q1, q2, _⟩ := HE6.out
        simp only [Value.slice.injEq] at e
        have := HEl.out
        exact ⟨by omega, by omega⟩
      have p0 : (0 : Int) ≤ (K2 : Int) := by omega
      have p1 : (K2 : Int) ≤ (c1 : Int) := by omega
      have HPre : Hid (BytesL w6.drew w6.drew.heap.size (.slice a1 K2 c1) (E.take K2)) := ((HE6.out.below ((Below.refl _ _).drew)).take K2 (by rw [HEl.out]; exact hK2N)).up HSz6.out
      have HEd := Lib.hid ((HE6.out.below ((Below.refl _ _).drew (w := w6))).up HSz6.out)
      have HMd := Lib.hid ((HM6.out.below ((Below.refl _ _).drew (w := w6))).up HB6.out.size)
      have HRd6 := Lib.hid (HR6.out.below ((Below.refl _ _).drew (w := w6)))
      have HOd := Lib.hid (HO6.out.below ((Below.refl _ _).drew (w := w6)))
      have HBd : Hid (Below w.heap.size w w6.drew) := HB6.out.drew
      obtain ⟨v8, wx, hrun8, ho8, hb8⟩ := append_bl (OwnB.nil w6.drew w6.drew.heap.size) (by rw [HEl.out]; exact HEd.out) (by simp) (by rw [HEl.out]; have := HNb.out; omega) (Nat.le_refl _) 22
      rw [List.nil_append] at ho8
      rw [HEl.out] at hrun8
      obtain ⟨v9, wy, hrun9, ho9, hb9⟩ := append_bl ho8 (HMd.out.below hb8) (by rw [HEl.out]; have := HNb.out; omega) (by have := HLn.out; omega) hb8.size 22
      generalize E ++ m = EM at ho9 hrun9
      obtain ⟨a9, c9, rfl⟩ := ho9.slice
      have hb89 := hb8.trans hb9
      have HSix := Lib.hid (six_at ((HMd.out.below hb89).up hb89.size) ((HEd.out.below hb89).up hb89.size) ((HOd.out.below hb89).up hb89.size) ((HRd6.out.below hb89).up hb89.size) ((HPre.out.below hb89).up hb89.size) ho9.bl 22 (by decide))
      have HBy9 : Hid (Below w.heap.size w wy) := below_then HBd.out hb89
      have hl6 := run_bytes6 ra a1 (some ⟨g, 0, none⟩) g6 a1 a9 m.length N N RR.length K2 EM.length rc c1 cap c6 c1 c9 wy
      have HRun8 := Lib.hid hrun8
      have HRun9 := Lib.hid hrun9
      have HL6 := Lib.hid hl6
      clear hK2 hK2N q1 q2 HPre HE6 HM6 HR6 HO6 HB6 HSz6 HEd HMd HRd6 HOd HBd hrun8 ho8 hb8 hrun9 ho9 hb9 hb89 hl6
      refine wp_region_seqL (by kernel_rfl) (fun _ => True) 16 [(0, 0), (1, 0), (2, 0), (3, 0), (4, 0), (5, 0), (6, 0), (7, 0), (8, 0), (9, 0), (10, 0), (11, 0), (12, 0), (14, 0), (18, 0), (13, 2), (15, 2), (16, 2), (17, 0)] (by kernel_rfl) (trivial) ?_
      refine sl_q (d := some 136) rfl rfl rfl (.slice ra m.length rc) (fun w => rfl) ?_
      simp only [Act.put, List.setIfInBounds_toArray, List.set_cons_zero, List.set_cons_succ]
      refine sl_q (d := some 137) rfl rfl rfl (.slice a1 N c1) (fun w => rfl) ?_
      simp only [Act.put, List.setIfInBounds_toArray, List.set_cons_zero, List.set_cons_succ]
      refine sl_q (d := some 138) rfl rfl rfl (.slice (some ⟨g, 0, none⟩) N cap) (fun w => rfl) ?_
      simp only [Act.put, List.setIfInBounds_toArray, List.set_cons_zero, List.set_cons_succ]
      refine sl_q (d := some 139) rfl rfl rfl (.slice g6 RR.length c6) (fun w => rfl) ?_
      simp only [Act.put, List.setIfInBounds_toArray, List.set_cons_zero, List.set_cons_succ]
      refine sl_q (d := some 140) rfl rfl rfl (.slice a1 N c1) (fun w => rfl) ?_
      simp only [Act.put, List.setIfInBounds_toArray, List.set_cons_zero, List.set_cons_succ]
      refine sl_q (d := some 141) rfl rfl rfl (.int .u16 att) (fun w => rfl) ?_
      simp only [Act.put, List.setIfInBounds_toArray, List.set_cons_zero, List.set_cons_succ]
      refine sl_q (d := some 142) rfl rfl rfl (.int .i64 att) (fun w => by simp [execOp, Act.eval, go_sem, hwA]) ?_
      simp only [Act.put, List.setIfInBounds_toArray, List.set_cons_zero, List.set_cons_succ]
      refine sl_q (d := some 143) rfl rfl rfl (.slice a1 N c1) (fun w => rfl) ?_
      simp only [Act.put, List.setIfInBounds_toArray, List.set_cons_zero, List.set_cons_succ]
      refine sl_q (d := some 144) rfl rfl rfl (.int .i64 N) (fun w => by simp [execOp, Act.eval, go_sem]) ?_
      simp only [Act.put, List.setIfInBounds_toArray, List.set_cons_zero, List.set_cons_succ]
      refine sl_q (d := some 145) rfl rfl rfl (.int .i64 ((N : Int) + 1)) (fun w => by simp [execOp, Act.eval, go_sem, hwN]) ?_
      simp only [Act.put, List.setIfInBounds_toArray, List.set_cons_zero, List.set_cons_succ]
      refine sl_q (d := some 146) rfl rfl rfl (.int .i64 (K2 : Nat)) (fun w => by simp [execOp, Act.eval, go_sem, htm2, nz]) ?_
      simp only [Act.put, List.setIfInBounds_toArray, List.set_cons_zero, List.set_cons_succ]
      refine sl_q (d := some 147) rfl rfl rfl (.slice a1 K2 c1) (fun w => by simp [execOp, Act.eval, go_sem, p0, p1]) ?_
      simp only [Act.put, List.setIfInBounds_toArray, List.set_cons_zero, List.set_cons_succ]
      refine sl_q (d := some 148) rfl rfl rfl (.slice a1 N c1) (fun w => rfl) ?_
      simp only [Act.put, List.setIfInBounds_toArray, List.set_cons_zero, List.set_cons_succ]
      refine sl_q (d := some 150) rfl rfl rfl (.slice ra m.length rc) (fun w => rfl) ?_
      simp only [Act.put, List.setIfInBounds_toArray, List.set_cons_zero, List.set_cons_succ]
      refine sl_q (d := some 154) rfl rfl rfl (.int .i64 0) (fun w => rfl) ?_
      simp only [Act.put, List.setIfInBounds_toArray, List.set_cons_zero, List.set_cons_succ]
      refine sl_run (d := some 149) rfl rfl rfl (v8) wx (run_append _ _ _ rfl _ _ rfl rfl HRun8.out) (fun _ => trivial) ?_
      simp only [Act.put, List.setIfInBounds_toArray, List.set_cons_zero, List.set_cons_succ]
      refine sl_run (d := some 151) rfl rfl rfl (.slice a9 EM.length c9) wy (run_append _ _ _ rfl _ _ rfl rfl HRun9.out) (fun _ => trivial) ?_
      simp only [Act.put, List.setIfInBounds_toArray, List.set_cons_zero, List.set_cons_succ]
      refine sl_run (d := some 152) rfl rfl rfl (.slice (some ⟨wy.heap.size, 0, none⟩) 6 6) (wy.alloc (.cells #[.slice ra m.length rc, .slice a1 N c1, .slice (some ⟨g, 0, none⟩) N cap, .slice g6 RR.length c6, .slice a1 K2 c1, .slice a9 EM.length c9] 22)) (lit6_run HL6.out _ _ _ _ _ _ rfl rfl rfl rfl rfl rfl rfl) (fun _ => trivial) ?_
      simp only [Act.put, List.setIfInBounds_toArray, List.set_cons_zero, List.set_cons_succ]
      refine sl_q (d := some 153) rfl rfl rfl (.int .i64 6) (fun w => by simp [execOp, Act.eval, go_sem]) ?_
      simp only [Act.put, List.setIfInBounds_toArray, List.set_cons_zero, List.set_cons_succ]
      refine sl_end ?_
      have HBz : Hid (Below w.heap.size w (wy.alloc (.cells #[.slice ra m.length rc, .slice a1 N c1, .slice (some ⟨g, 0, none⟩) N cap, .slice g6 RR.length c6, .slice a1 K2 c1, .slice a9 EM.length c9] 22))) := below_then HBy9.out ((Below.refl _ _).alloc (Nat.le_refl _) _)
      generalize wy.alloc (.cells #[.slice ra m.length rc, .slice a1 N c1, .slice (some ⟨g, 0, none⟩) N cap, .slice g6 RR.length c6, .slice a1 K2 c1, .slice a9 EM.length c9] 22) = wL at HSix HBz ⊢
      generalize wy.heap.size = bl at HSix ⊢
      clear hwA hwN htm2 nz p0 p1 hNF hFc hF0 c0 kn kz h2 h3
      go_wp2_with fail
      obtain ⟨wout, rfl⟩ : ∃ wout : World, wout = wr := ⟨_, rfl⟩
      go_loopw [154] (fun kv wr => ∃ i : Nat, kv = .int .i64 i ∧ i ≤ 6 ∧ Hid (Below wL.heap.size wL wr)) (fun kv _ => (10 - intOf kv).toNat)
      case atStart => exact ⟨0, rfl, by omega, Below.refl _ _⟩
      case round =>
        obtain ⟨i, rfl, hi, HBr⟩ := hrel
        by_cases hin : i < 6
        · have i0 : (i : Int) < 6 := by omega
          have i9 : i ≤ 6 := by omega
          obtain ⟨sa, sc, l, hcell, hbl⟩ := HSix.out i hin
          have k0 : wr.cell? ⟨bl, i, none⟩ = some (.slice sa l.length sc) := cell_then HBr.out hcell
          have HBl := Lib.hid ((hbl.below HBr.out).up HBr.out.size)
          clear hcell hbl
          go_wp2_with fail
          refine (decode_any _ l wr HBl.out).mono ?_
          rintro e wm ⟨ds, rfl, hrep, hb⟩
          have HBl2 := Lib.hid ((HBl.out.below hb).up hb.size)
          have HBm := Lib.hid (below_then HBr.out hb)
          have HDl : Hid (∀ b, entB (decRes l).1 = some b → b.length ≤ 1048576) := dec_small l
          obtain ⟨R, hR⟩ : ∃ R, R = decRes l := ⟨_, rfl⟩
          rw [← hR] at hrep HDl ⊢
          have HRe := Lib.hid hR.symm
          obtain ⟨R1, R2, R3⟩ := R
          dsimp only at hrep HDl ⊢
          have HdL : ds.length = 38 := entE_ok.len hrep
          have HD1 := Lib.hid (entE_ok.weak (av' := fun _ => True) hrep fun _ _ _ => trivial)
          clear hrep hb hR HBl HBr
          go_upto_region 25 with (first
            | ((first | with_reducible refine gate_st ?_ | with_reducible refine gate_stw ?_); refine list_storeAgg rfl _ _ rfl wm.heap.size 0 rfl ds rfl (by rw [sz_ent, HdL]) (entE_ok.one HD1.out) (log_there wm _ (Nat.le_of_eq HdL)) ?_
               intro wn hw
               have h4 := log_new wm ds HdL hw
               have HPn := Lib.hid h4.1
               have HBn := Lib.hid (below_then HBm.out h4.2)
               have HD2 := Lib.hid (entE_ok.keep HD1.out (Keeps.of_below h4.2))
               have HBl3 := Lib.hid ((HBl2.out.below h4.2).up h4.2.size)
               clear hw h4 HBm HD1 HBl2)
            | fail)
          generalize wm.heap.size = bp at HPn ⊢
          go_wp2_with fail
          refine (rdecode_any _ l wn HBl3.out).mono ?_
          rintro e wo ⟨fs, rfl, hrep, hb⟩
          rw [HRe.out] at hrep ⊢
          have HfL : fs.length = 38 := entE_ok.len hrep
          have HF1 := Lib.hid (entE_ok.weak (av' := fun _ => True) hrep fun _ _ _ => trivial)
          have HBo := Lib.hid (below_then HBn.out hb)
          have HPo := Lib.hid (HPn.out.below hb)
          have HD3 := Lib.hid (entE_ok.keep HD2.out (Keeps.of_below hb))
          clear hrep hb HBn HPn HD2 HBl3
          go_upto_region 26 with (first
            | ((first | with_reducible refine gate_st ?_ | with_reducible refine gate_stw ?_); refine list_storeAgg rfl _ _ rfl wo.heap.size 0 rfl fs rfl (by rw [sz_ent, HfL]) (entE_ok.one HF1.out) (log_there wo _ (Nat.le_of_eq HfL)) ?_
               intro wq hw
               have h4 := log_new wo fs HfL hw
               have HPq := Lib.hid h4.1
               have HPp := Lib.hid (HPo.out.below h4.2)
               have HBq := Lib.hid (below_then HBo.out h4.2)
               have HD4 := Lib.hid (entE_ok.keep HD3.out (Keeps.of_below h4.2))
               have HF2 := Lib.hid (entE_ok.keep HF1.out (Keeps.of_below h4.2))
               clear hw h4 HBo HPo HD3 HF1)
            | fail)
          generalize wo.heap.size = bq at HPq ⊢
          go_wp2_with (first
            | ((first | with_reducible refine gate_ld ?_ | with_reducible refine gate_ldw ?_); refine list_loadAggG (ent_load0 wq bp ds HdL HPp.out.1.range) rfl _ rfl rfl ?_)
            | ((first | with_reducible refine gate_ld ?_ | with_reducible refine gate_ldw ?_); refine list_loadAggG (ent_load0 wq bq fs HfL HPq.out.1.range) rfl _ rfl rfl ?_)
            | fail)
          refine (rsame_any R1 R1 ds fs (fun _ => True) wq HD4.out HF2.out (fun b hb => by have := HDl.out b hb; omega) (fun b hb => by have := HDl.out b hb; omega)).mono ?_
          rintro e ws ⟨rfl, hb⟩
          rw [rsameB_self]
          have HBs := Lib.hid (below_then HBq.out hb)
          clear hb HBq HPp HPq HD4 HF2
          go_wp2_with fail
          go_roundw
          case rel => exact ⟨i + 1, by go_num, by omega, HBs⟩
          case measure => simp [intOf]; omega
        · obtain rfl : i = 6 := by omega
          have HFin : Hid (Below w.heap.size w wr) := below_then HBz.out HBr.out
          clear hi hin HBr HSix
          go_wp2_with fail
          go_ret
          exact ⟨rfl, HFin.out⟩
end Go.Proofs.Ytpknalpdcfjffaa
/- StoreCodes answers true at every input. No conditions. -/

namespace Go.Proofs.Ytpknalpdcfjffaa.codes
open Go Go.ChangeShapes Go.WideShapes Go.ChangeAt Go.RowKit

set_option maxRecDepth 100000 in
theorem lifted (os : Os) (started : os.Started) (H : Type) (enc : TypeId × Value → H) :
    ReturnsInHanded {} Try.checked os 3 .any (Rows.storeCodesSpec.pre6 enc Try.prog Try.f3 Rows.storeCodesRow.domain false) (Rows.storeCodesSpec.post enc Try.prog Try.f3 false true false false) := by
  refine returnsInHanded_of_change_sized (C := Try.checked) own started (by kernel_rfl) Try.func3
    (ChangeSpec.witness6 (enc := enc) (C := Try.checked) false ⟨#[], #[.slice none 0 0, .slice none 0 0, .int .u16 0, .int .u8 0, .int .i64 0], []⟩ 8 (by kernel_rfl) (by kernel_rfl) (by kernel_rfl) (by kernel_rfl)) ?_
  intro W base args ds gs before hval hW _ hsz _
  have hW' := hW
  obtain ⟨p, q, hA0, hV, rfl, _, _⟩ := hW
  have hA : DataW.TrodAll enc Try.prog W 0 (fun _ => true) true Try.f3.params.toList args.toList ds p := hA0
  rw [Try.params3] at hA hval hsz
  obtain ⟨v0, vs0, d0, ds0, p0, q0, hargs, rfl, rfl, h0, r0⟩ := trodAll_cons hA
  obtain ⟨v1, vs1, d1, ds1, p1, q1, hargs1, rfl, rfl, h1, r1⟩ := trodAll_cons r0
  obtain ⟨v2, vs2, d2, ds2, p2, q2, hargs2, rfl, rfl, h2, r2⟩ := trodAll_cons r1
  obtain ⟨v3, vs3, d3, ds3, p3, q3, hargs3, rfl, rfl, h3, r3⟩ := trodAll_cons r2
  obtain ⟨v4, vs4, d4, ds4, p4, q4, hargs4, rfl, rfl, h4, r4⟩ := trodAll_cons r3
  obtain ⟨rfl, rfl, rfl⟩ := trodAll_nil r4
  obtain rfl : args = #[v0, v1, v2, v3, v4] := by cases args; simp_all
  obtain ⟨rfl, rfl⟩ := trodVars_none hV
  obtain ⟨m, hm, hl⟩ := open_bytes (hval 0 22 v0 rfl rfl) h0
  have hc := open_codes (hval 1 22 v1 rfl rfl) h1
  have hml := hl _ _ 0 hsz rfl rfl
  obtain ⟨x2, rfl, rfl, rfl, wx2⟩ := open_int Try.underlying23 (hval 2 23 v2 rfl rfl) h2
  obtain ⟨x3, rfl, rfl, rfl, wx3⟩ := open_int Try.underlying5 (hval 3 5 v3 rfl rfl) h3
  obtain ⟨x4, rfl, rfl, rfl, wx4⟩ := open_int Try.underlying3 (hval 4 3 v4 rfl rfl) h4
  have e1 : IntKind.u16.min = 0 := rfl
  have e2 : IntKind.u16.max = 65535 := rfl
  have e3 : IntKind.u8.min = 0 := rfl
  have e4 : IntKind.u8.max = 255 := rfl
  have e5 : IntKind.i64.min = -9223372036854775808 := rfl
  have e6 : IntKind.i64.max = 9223372036854775807 := rfl
  simp only [Lit.wf, Bool.and_eq_true, decide_eq_true_eq] at wx2 wx3 wx4
  obtain ⟨n2, rfl⟩ := Int.eq_ofNat_of_zero_le (show 0 ≤ x2 by omega)
  obtain ⟨n3, rfl⟩ := Int.eq_ofNat_of_zero_le (show 0 ≤ x3 by omega)
  refine (scod_any v1 v0 m n2 n3 x4 (by omega) (by omega) (by unfold I64; omega) W hc hm hml).mono fun e W' ⟨he, hb⟩ => ?_
  subst he
  exact ⟨_, rfl, law_post laid_out (by kernel_rfl) (by kernel_rfl) Try.underlying4 hW' rfl rfl hb⟩

theorem said : Rows.StoreCodesSaid :=
  OpenClaim.holds_of_wide 3 Try.f3 rfl rfl rfl rfl rfl rfl rfl ⟨rfl, rfl, rfl, rfl, rfl⟩ rfl rfl rfl rfl rfl (by kernel_rfl) Try.func3 (by kernel_rfl)
    (of_decide_eq_true (by kernel_rfl)) (by unfold Func.isWrapper; first | (rw [if_pos (by decide +kernel)]; kernel_rfl) | (rw [if_neg (by decide +kernel)]; exact ⟨rfl, rfl⟩))
    (fun os started H enc _ => lifted os started H enc)
end Go.Proofs.Ytpknalpdcfjffaa.codes

namespace Go.Proofs.Ytpknalpdcfjffaa
theorem codes_said : Rows.StoreCodesSaid := codes.said
#print axioms codes_said
end Go.Proofs.Ytpknalpdcfjffaa
