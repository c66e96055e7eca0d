/- Part 12 of the proof: laws on memory and what functions of the program return. No conditions but those that each theorem names. -/
import Derived.Test.YtpknalpdcfjffaaGreatR11
set_option linter.unusedVariables false
set_option linter.unusedSimpArgs false
/- The reference's getString. -/
namespace Go.Proofs.YtpknalpdcfjffaaGreat
open Go Go.RowKit

theorem rcountS_le (l : List UInt8) (p : Nat) (ok : Bool) (s : Nat) (hs : 1 ≤ s) (hp : p ≤ l.length) : (rcountS l p ok s).1 + (rcountS l p ok s).2.2 ≤ l.length := by
  have h1 := rgetS_le l p ok 4 hp
  unfold rcountS
  split
  · rename_i h
    have h2 := Nat.div_le_self (l.length - (rgetS l p ok 4).1) s
    have h3 := h.2
    show (rgetS l p ok 4).1 + (rgetS l p ok 4).2.2 ≤ l.length
    omega
  · exact h1
theorem BytesL.conv {w : World} {B : Nat} {v : Value} {l : List UInt8} (h : BytesL w B v l) : (convert 22 9 v).run Tryz.prog w = .ok (.string ⟨l.toArray⟩) w := by
  obtain ⟨a, c, rfl, h1, h2, h3⟩ := h
  cases a with
  | none =>
    have : l = [] := by
      cases l with
      | nil => rfl
      | cons x r => obtain ⟨_, _, e, _⟩ := h3 0 (by simp); cases e
    subst this
    exact run_bytes_none w c
  | some A =>
    refine run_convert_bytes_back (P := Tryz.prog) w 22 9 5 A c l Tryz.underlying22 Tryz.underlying5 Tryz.underlying9 (fun j hj => ?_)
    obtain ⟨ab, ao, e, _, hc⟩ := h3 j hj
    obtain rfl := Option.some.inj e
    rw [Go.WideShapes.add_plain]
    exact hc
theorem GetS.int {a : Option Addr} {c p K : Nat} {l : List UInt8} {w W W' : World} {ok : Bool} (h : GetS a c l w p ok W) (hK : K ≤ l.length) (hW : W' = W.setCells w.heap.size 1 [.int .i64 (K : Int)]) : GetS a c l w K ok W' := by
  have hb : Below w.heap.size W W' := by rw [hW]; exact (apartR_setCells _ _ _ _).below (Nat.le_refl _)
  refine ⟨by rw [hW]; exact h.x.setMid [.int .i64 (K : Int)] 1 (by simp [rdV]), ?_, h.below.trans hb, h.src.below hb, hK⟩
  rw [hW]
  exact h.r.of_block ((setCells_kept w.heap.size [.int .i64 (K : Int)] 1 W).2 _ h.r.lt (by omega))
/-- What getString gives. -/
def rtextS (l : List UInt8) (p : Nat) (ok : Bool) : Nat × Bool × List UInt8 := ((rcountS l p ok 1).1 + (rcountS l p ok 1).2.2, (rcountS l p ok 1).2.1, (l.drop (rcountS l p ok 1).1).take (rcountS l p ok 1).2.2)
def RStrIs (a : Option Addr) (c : Nat) (l : List UInt8) (p : Nat) (ok : Bool) (w : World) (e : Ending) (w' : World) : Prop := e = .returned (.tuple #[.agg (rdV a l.length c (rtextS l p ok).1 (rtextS l p ok).2.1).toArray, .string ⟨(rtextS l p ok).2.2.toArray⟩]) ∧ Below w.heap.size w w'
set_option maxHeartbeats 16000000 in
set_option maxRecDepth 100000 in
theorem rgetString_any (a : Option Addr) (c : Nat) (l : List UInt8) (p : Nat) (ok : Bool) (w : World) (h : BytesL w w.heap.size (.slice a l.length c) l) (hp : p ≤ l.length) :
    Calls Tryz.prog 54 #[.agg (rdV a l.length c p ok).toArray] w (RStrIs a c l p ok w) := by
  have hlc : l.length ≤ c ∧ c ≤ 9223372036854775807 := by
    obtain ⟨a', c', e, h1, h2, _⟩ := h
    obtain ⟨_, rfl⟩ : a = a' ∧ c = c' := by simpa using e
    exact ⟨h1, h2⟩
  have H0 := Lib.hid (GetS.start (ok := ok) h hp)
  clear h hp
  go_enter Tryz.func54, Tryz.ntmps54
  go_upto_region 1 with fail
  generalize (w.alloc (.cells (rdV a l.length c p ok).toArray 99)).alloc (.cells #[.slice none 0 0, .int .i64 0, .bool false] 99) = w0 at H0 ⊢
  go_wp2_with (first
    | (refine list_loadAgg (rd_load w0 w.heap.size (rdV a l.length c p ok) rfl H0.out.x.1.range) rfl _ rfl rfl ?_)
    | fail)
  refine (rcount_any a c l p ok 1 (by omega) w0 (H0.out.src.up H0.out.below.size) H0.out.le).mono ?_
  rintro e w1 ⟨rfl, hb1⟩
  have H1 := Lib.hid (H0.out.new hb1)
  have hle := rcountS_le l p ok 1 (by omega) H0.out.le
  obtain ⟨q, hq⟩ : ∃ q, q = rcountS l p ok 1 := ⟨_, rfl⟩
  rw [← hq] at hle ⊢
  obtain ⟨q1, q2, q3⟩ := q
  have HQ := Lib.hid hq
  clear hq
  dsimp only at hle ⊢
  have HLe : Hid (q1 ≤ l.length) := by unfold Hid; omega
  clear hb1 H0
  go_upto_region 2 with (first
    | (refine list_storeAgg rfl _ _ rfl w.heap.size 0 rfl (rdV a l.length c q1 q2) rfl (by rw [sz_rd]; rfl) (all_one rfl) (H1.out.x.thereMid 0 3 (by simp [rdV])) ?_
       intro w2 hw
       have H2 := Lib.hid (H1.out.put HLe.out hw)
       clear hw)
    | fail)
  have k0 : w2.cell? ⟨w.heap.size, 0, none⟩ = some (.slice a l.length c) := H2.out.x.1.at 0 rfl
  have k1 : w2.cell? ⟨w.heap.size, 1, none⟩ = some (.int .i64 q1) := H2.out.x.1.at 1 rfl
  obtain ⟨K, hK⟩ : ∃ K, K = q1 + q3 := ⟨_, rfl⟩
  have kw : (q1 : Int) + (q3 : Int) = (K : Int) := by omega
  have e1 : (q1 : Int) ≤ (K : Int) := by omega
  have e2 : (K : Int) ≤ (c : Int) := by omega
  have e3 : (c : Int) ≤ 9223372036854775807 := by omega
  have e4 : (K : Int) - (q1 : Int) = (q3 : Int) := by omega
  have HK := Lib.hid hK
  clear hK
  have HRes : Hid (rtextS l p ok = (K, q2, (l.drop q1).take q3)) := by unfold Hid rtextS; rw [← HQ.out, HK.out]
  have HKl : Hid (K ≤ l.length) := by unfold Hid; have := HK.out; omega
  generalize ht : (l.drop q1).take q3 = t at HRes
  by_cases hcq : c = q1
  · have h0 : t = [] := by rw [← ht, show q3 = 0 by have := HK.out; omega]; rfl
    have hk0 : K - q1 = 0 := by omega
    have hcv := BytesL.conv (w := w2) (B := 0) (v := .slice a (K - q1) 0) (l := t) ⟨a, 0, by rw [h0, hk0]; rfl, by rw [h0]; exact Nat.le_refl 0, by omega, fun i hi => by rw [h0] at hi; simp at hi⟩
    have HT := Lib.hid ht
    clear ht h0 hk0 hlc
    subst hcq
    go_upto_region 3 with fail
    go_upto_region 4 with (first
      | (refine list_storeEl intT rfl _ _ rfl w.heap.size 1 rfl [.int .i64 (K : Int)] rfl rfl (all_one rfl) (H2.out.x.thereMid 1 1 (by simp [rdV])) ?_
         intro w3 hw
         have H3 := Lib.hid (H2.out.int (K := K) HKl.out hw)
         clear hw k0 k1)
      | fail)
    go_wp2_with (first
      | (refine list_loadAgg (rd_load w3 w.heap.size (rdV a l.length c K q2) rfl H3.out.x.1.range) rfl _ rfl rfl ?_)
      | (refine list_storeAgg rfl _ _ rfl (w.heap.size + 1) 0 rfl (rdV a l.length c K q2) rfl (by rw [sz_rd]; rfl) (all_one rfl) (H3.out.r.thereMid 0 3 (by simp)) ?_
         intro w4 hw
         have H4 := Lib.hid (H3.out.fin hw)
         clear hw)
      | fail)
    refine ret_row2 rfl _ _ _ H4.out.1.1 rowT_rd rfl rfl rfl ⟨?_, H4.out.2⟩
    rw [HRes.out]
    rfl
  · have hsl : BytesL w2 w.heap.size (.slice (Option.map (fun x => x.add q1) a) (K - q1) (c - q1)) t := by
      have h1 := (H2.out.src.take K HKl.out)
      have hlK : (l.take K).length = K := by rw [List.length_take]; have := HKl.out; omega
      have h2 := h1.drop (a2 := Option.map (fun x => x.add q1) a) q1 (by rw [hlK]; omega) (fun _ ab ao e => by rw [e]; simp [Addr.add_mid])
      rw [hlK] at h2
      have e : (l.take K).drop q1 = t := by rw [← ht, List.drop_take, HK.out, Nat.add_sub_cancel_left]
      rw [e] at h2
      exact h2
    have hcv := hsl.conv
    have HT := Lib.hid ht
    clear ht hsl hlc
    go_upto_region 3 with fail
    go_upto_region 4 with (first
      | (refine list_storeEl intT rfl _ _ rfl w.heap.size 1 rfl [.int .i64 (K : Int)] rfl rfl (all_one rfl) (H2.out.x.thereMid 1 1 (by simp [rdV])) ?_
         intro w3 hw
         have H3 := Lib.hid (H2.out.int (K := K) HKl.out hw)
         clear hw k0 k1)
      | fail)
    go_wp2_with (first
      | (refine list_loadAgg (rd_load w3 w.heap.size (rdV a l.length c K q2) rfl H3.out.x.1.range) rfl _ rfl rfl ?_)
      | (refine list_storeAgg rfl _ _ rfl (w.heap.size + 1) 0 rfl (rdV a l.length c K q2) rfl (by rw [sz_rd]; rfl) (all_one rfl) (H3.out.r.thereMid 0 3 (by simp)) ?_
         intro w4 hw
         have H4 := Lib.hid (H3.out.fin hw)
         clear hw)
      | fail)
    refine ret_row2 rfl _ _ _ H4.out.1.1 rowT_rd rfl rfl rfl ⟨?_, H4.out.2⟩
    rw [HRes.out]
    rfl
end Go.Proofs.YtpknalpdcfjffaaGreat
/- What the reference's readers answer, beside the parsers. No walk. -/
namespace Go.Proofs.YtpknalpdcfjffaaGreat
open Go Go.RowKit

/-- A reader that stood at p goes to p', and reads x where all fitted. -/
structure Went {α : Type} (P : Ps α) (l : List UInt8) (p : Nat) (ok : Bool) (p' : Nat) (ok' : Bool) (x : α) : Prop where
  le : p' ≤ l.length
  got : ok' = true → ok = true ∧ P (l.drop p) = some (x, l.drop p')
  no : ok = true → ok' = false → P (l.drop p) = none
section
variable {α β : Type} {P : Ps α} {Q : α → Ps β} {l : List UInt8} {p p1 p2 : Nat} {ok ok1 ok2 : Bool} {x : α} {y : β}
theorem Went.ret (h : p ≤ l.length) (x : α) : Went (Ps.ret x) l p ok p ok x := ⟨h, fun h => ⟨h, rfl⟩, fun h1 h2 => by rw [h1] at h2; cases h2⟩
theorem Went.bind (h : Went P l p ok p1 ok1 x) (g : Went (Q x) l p1 ok1 p2 ok2 y) : Went (P.bind Q) l p ok p2 ok2 y := by
  refine ⟨g.le, fun h2 => ?_, fun h0 h2 => ?_⟩
  · obtain ⟨h1, e2⟩ := g.got h2
    obtain ⟨h0, e1⟩ := h.got h1
    exact ⟨h0, by rw [Ps.bind_of e1]; exact e2⟩
  · cases ok1 with
    | false => exact Ps.bind_no (h.no h0 rfl)
    | true => rw [Ps.bind_of (h.got rfl).2]; exact g.no rfl h2
theorem Went.map (h : Went P l p ok p1 ok1 x) (f : α → β) : Went (P.bind fun a => .ret (f a)) l p ok p1 ok1 (f x) := h.bind (Went.ret h.le (f x))
theorem Went.of_eq {P' : Ps α} (h : Went P l p ok p1 ok1 x) (e : P (l.drop p) = P' (l.drop p)) : Went P' l p ok p1 ok1 x := ⟨h.le, fun h1 => by rw [← e]; exact h.got h1, fun h0 h1 => by rw [← e]; exact h.no h0 h1⟩
end
theorem went_num (l : List UInt8) (p : Nat) (ok : Bool) (n : Nat) (hp : p ≤ l.length) : Went (pNum n) l p ok (rgetS l p ok n).1 (rgetS l p ok n).2.1 (rgetS l p ok n).2.2 := by
  refine ⟨rgetS_le l p ok n hp, fun h => ?_, fun h0 h => ?_⟩
  · unfold rgetS at h ⊢
    split at h
    · rename_i hc
      rw [if_pos hc]
      refine ⟨hc.1, ?_⟩
      unfold pNum
      rw [if_pos (by rw [List.length_drop]; exact hc.2), List.drop_drop]
    · cases h
  · unfold rgetS at h
    split at h
    · cases h
    · rename_i hc
      unfold pNum
      rw [if_neg (fun h => hc ⟨h0, by rw [List.length_drop] at h; exact h⟩)]
theorem went_int (l : List UInt8) (p : Nat) (ok : Bool) (hp : p ≤ l.length) : Went pInt l p ok (rgetS l p ok 8).1 (rgetS l p ok 8).2.1 (i64of (rgetS l p ok 8).2.2) := (went_num l p ok 8 hp).map i64of
/-- What count answers. -/
structure Cnted (s : Nat) (l : List UInt8) (p : Nat) (ok : Bool) (p' : Nat) (ok' : Bool) (n : Nat) : Prop where
  le : p' + n * s ≤ l.length
  got : ok' = true → ok = true ∧ pNum 4 (l.drop p) = some (n, l.drop p')
  no : ok = true → ok' = false → ∀ {β : Type} (f : Nat → Ps β), (∀ n m y r, f n m = some (y, r) → n * s ≤ m.length) → (pNum 4).bind f (l.drop p) = none
  zero : ok' = false → n = 0
theorem cnted (l : List UInt8) (p : Nat) (ok : Bool) (s : Nat) (hs : 1 ≤ s) (hp : p ≤ l.length) : Cnted s l p ok (rcountS l p ok s).1 (rcountS l p ok s).2.1 (rcountS l p ok s).2.2 := by
  have hg := went_num l p ok 4 hp
  unfold rcountS
  split
  · rename_i h
    obtain ⟨h1, h2⟩ := hg.got h.1
    have h3 := hg.le
    have h4 := Nat.mul_le_of_le_div s _ _ h.2
    exact ⟨by show (rgetS l p ok 4).1 + (rgetS l p ok 4).2.2 * s ≤ l.length; omega, fun _ => ⟨h1, h2⟩, fun _ h => (by cases h), fun h => (by cases h)⟩
  · rename_i h
    refine ⟨by simpa using hg.le, fun h => (by cases h), fun h0 _ => ?_, fun _ => rfl⟩
    intro β f hf
    cases hok : (rgetS l p ok 4).2.1 with
    | false => exact Ps.bind_no (hg.no h0 hok)
    | true =>
      rw [Ps.bind_of (hg.got hok).2]
      cases hq : f (rgetS l p ok 4).2.2 (l.drop (rgetS l p ok 4).1) with
      | none => rfl
      | some v =>
        obtain ⟨y, r⟩ := v
        have h1 := hf _ _ _ _ hq
        rw [List.length_drop] at h1
        exact absurd ⟨hok, (Nat.le_div_iff_mul_le (by omega)).2 h1⟩ h
theorem Cnted.lt {s : Nat} {l : List UInt8} {p p' : Nat} {ok ok' : Bool} {n : Nat} (h : Cnted s l p ok p' ok' n) : p' ≤ l.length := by have := h.le; omega
theorem Cnted.small {s : Nat} {l : List UInt8} {p p' : Nat} {ok ok' : Bool} {n : Nat} (h : Cnted s l p ok p' ok' n) (hs : 1 ≤ s) : n ≤ l.length := by
  have := h.le
  have := Nat.le_mul_of_pos_right n (show 0 < s by omega)
  omega
theorem went_text (l : List UInt8) (p : Nat) (ok : Bool) (hp : p ≤ l.length) : Went pText l p ok (rtextS l p ok).1 (rtextS l p ok).2.1 ⟨(rtextS l p ok).2.2.toArray⟩ := by
  have hc := cnted l p ok 1 (by omega) hp
  have hle := hc.le
  rw [Nat.mul_one] at hle
  refine ⟨hle, fun h => ?_, fun h0 h => ?_⟩
  · obtain ⟨h1, h2⟩ := hc.got h
    refine ⟨h1, ?_⟩
    unfold pText
    rw [Ps.bind_of h2]
    unfold pBytes
    rw [if_pos (by rw [List.length_drop]; omega), List.drop_drop]
    rfl
  · refine hc.no h0 h pBytes fun n m y r hy => ?_
    unfold pBytes at hy
    split at hy
    · rename_i hn; omega
    · cases hy
/-- A parser takes at least so many bytes. -/
def Takes {α : Type} (P : Ps α) (s : Nat) : Prop := ∀ l x r, P l = some (x, r) → r.length + s ≤ l.length
section
variable {α β : Type} {P : Ps α} {Q : α → Ps β} {s t : Nat}
theorem Takes.ret (x : α) : Takes (Ps.ret x) 0 := fun l y r h => by
  obtain ⟨_, rfl⟩ : x = y ∧ l = r := by simpa [Ps.ret] using h
  simp
theorem Takes.bind (h : Takes P s) (g : ∀ x, Takes (Q x) t) : Takes (P.bind Q) (s + t) := fun l y r e => by
  obtain ⟨x, r1, e1, e2⟩ := Ps.bind_some e
  have := h _ _ _ e1
  have := g x _ _ _ e2
  omega
theorem Takes.less (h : Takes P s) (hs : t ≤ s) : Takes P t := fun l x r e => by have := h l x r e; omega
theorem Takes.bind' (h : Takes P s) (g : ∀ x, Takes (Q x) t) {u : Nat} (hu : u = s + t) : Takes (P.bind Q) u := hu ▸ h.bind g
theorem takes_num (k : Nat) : Takes (pNum k) k := fun l x r e => by
  unfold pNum at e
  split at e
  · rename_i h
    obtain ⟨_, rfl⟩ : _ ∧ l.drop k = r := by simpa using e
    rw [List.length_drop]; omega
  · cases e
theorem takes_int : Takes pInt 8 := (takes_num 8).bind fun _ => Takes.ret _
theorem takes_any (h : ∀ l x r, P l = some (x, r) → r.length ≤ l.length) : Takes P 0 := fun l x r e => h l x r e
theorem takes_bytes (n : Nat) : Takes (pBytes n) n := fun l x r e => by
  unfold pBytes at e
  split at e
  · rename_i h
    obtain ⟨_, rfl⟩ : _ ∧ l.drop n = r := by simpa using e
    rw [List.length_drop]; omega
  · cases e
theorem takes_text : Takes pText 4 := (takes_num 4).bind fun n => (takes_bytes n).less (Nat.zero_le _)
theorem takes_n (h : Takes P s) : ∀ n, Takes (pN P n) (n * s)
  | 0 => fun l y r e => by
    have := Takes.ret ([] : List α) l y r e
    omega
  | n + 1 => by
    have := h.bind fun a => (takes_n h n).bind fun l => Takes.ret (a :: l)
    rw [Nat.add_mul, Nat.one_mul]
    exact this.less (by omega)
theorem takes_list (h : Takes P s) : Takes (pList P) 4 := (takes_num 4).bind fun n => (takes_n h n).less (Nat.zero_le _)
theorem takes_pla : Takes pPla 32 := takes_int.bind' (fun _ => takes_int.bind' (fun _ => takes_int.bind' (fun _ => takes_int.bind' (fun _ => Takes.ret _) rfl) rfl) rfl) rfl
theorem takes_rd : Takes pRd 16 := takes_int.bind' (fun _ => takes_int.bind' (fun _ => Takes.ret _) rfl) rfl
theorem takes_cnt : Takes pCnt 20 := takes_text.bind' (fun _ => takes_int.bind' (fun _ => takes_int.bind' (fun _ => Takes.ret _) rfl) rfl) rfl
theorem takes_rep : Takes pRep 56 := takes_int.bind' (fun _ => takes_text.bind' (fun _ => takes_int.bind' (fun _ => takes_pla.bind' (fun _ => (takes_list takes_rd).bind' (fun _ => Takes.ret _) rfl) rfl) rfl) rfl) rfl
end
/-! ### Lists -/
section
variable {α : Type} {P : Ps α} {l : List UInt8} {p p1 p2 : Nat} {ok ok1 ok2 : Bool} {x : α} {xs ys : List α} {s n i : Nat}
theorem pN_end (P : Ps α) : ∀ (i : Nat) (m : List UInt8), pN P (i + 1) m = ((pN P i).bind fun xs => P.bind fun x => .ret (xs ++ [x])) m
  | 0, m => by
    show (P.bind fun a => (Ps.ret []).bind fun l => .ret (a :: l)) m = (P.bind fun x => .ret ([] ++ [x])) m
    rfl
  | i + 1, m => by
    have h0 : pN P (i + 1 + 1) m = (P.bind fun a => (pN P (i + 1)).bind fun l => .ret (a :: l)) m := rfl
    have h1 : ∀ m, pN P (i + 1) m = (P.bind fun a => (pN P i).bind fun l => .ret (a :: l)) m := fun _ => rfl
    rw [h0]
    cases hp : P m with
    | none =>
      rw [Ps.bind_no hp, Ps.bind_no]
      rw [h1, Ps.bind_no hp]
    | some v =>
      obtain ⟨a, r⟩ := v
      rw [Ps.bind_of hp]
      cases hq : pN P i r with
      | none =>
        have : pN P (i + 1) r = none := by rw [pN_end P i r, Ps.bind_no hq]
        rw [Ps.bind_no this, Ps.bind_no]
        rw [h1, Ps.bind_of hp, Ps.bind_no hq]
      | some v =>
        obtain ⟨xs, r2⟩ := v
        have h2 : pN P (i + 1) m = some (a :: xs, r2) := by rw [h1, Ps.bind_of hp, Ps.bind_of hq]; rfl
        rw [Ps.bind_of h2]
        have h3 := pN_end P i r
        rw [Ps.bind_of hq] at h3
        cases hr : P r2 with
        | none => rw [Ps.bind_no hr] at h3 ⊢; rw [Ps.bind_no h3]
        | some v =>
          obtain ⟨y, r3⟩ := v
          rw [Ps.bind_of hr] at h3 ⊢
          have h4 : pN P (i + 1) r = some (xs ++ [y], r3) := h3
          rw [Ps.bind_of h4]; rfl
theorem Went.nil (h : p ≤ l.length) : Went (pN P 0) l p ok p ok [] := Went.ret h []
theorem Went.snoc (h : Went (pN P i) l p ok p1 ok1 xs) (g : Went P l p1 ok1 p2 ok2 x) : Went (pN P (i + 1)) l p ok p2 ok2 (xs ++ [x]) :=
  (h.bind (Q := fun xs => P.bind fun x => .ret (xs ++ [x])) (g.map fun x => xs ++ [x])).of_eq (pN_end P i _).symm
theorem Went.short (h : Went (pN P i) l p ok p1 false xs) (hi : i ≤ n) : Went (pN P n) l p ok p1 false ys := by
  refine ⟨h.le, fun h => (by cases h), fun h0 _ => ?_⟩
  have h1 := h.no h0 rfl
  obtain ⟨k, rfl⟩ := Nat.exists_eq_add_of_le hi
  clear hi
  induction k with
  | zero => exact h1
  | succ k ih => rw [← Nat.add_assoc, pN_end, Ps.bind_no ih]
theorem Cnted.list (h : Cnted s l p ok p1 ok1 n) (hP : Takes P s) (g : Went (pN P n) l p1 ok1 p2 ok2 xs) : Went (pList P) l p ok p2 ok2 xs := by
  refine ⟨g.le, fun h2 => ?_, fun h0 h2 => ?_⟩
  · obtain ⟨h1, e2⟩ := g.got h2
    obtain ⟨h0, e1⟩ := h.got h1
    exact ⟨h0, by unfold pList; rw [Ps.bind_of e1]; exact e2⟩
  · unfold pList
    cases ok1 with
    | false => exact h.no h0 rfl _ fun n m y r e => by have := takes_n hP n m y r e; omega
    | true => rw [Ps.bind_of (h.got rfl).2]; exact g.no rfl h2
end
end Go.Proofs.YtpknalpdcfjffaaGreat
/- What stands between the steps of a reader of several fields. No walk. -/
namespace Go.Proofs.YtpknalpdcfjffaaGreat
open Go Go.RowKit

/-- What is so of all that lies from base on stays so while that is not turned. -/
def Stab (base : Nat) (D : World → Prop) : Prop := ∀ W W' : World, W.heap.size ≤ W'.heap.size → (∀ k, base ≤ k → k < W.heap.size → W'.heap[k]? = W.heap[k]?) → D W → D W'
theorem Stab.true (base : Nat) : Stab base fun _ => True := fun _ _ _ _ h => h
theorem Stab.and {base : Nat} {D E : World → Prop} (h : Stab base D) (g : Stab base E) : Stab base fun W => D W ∧ E W := fun W W' h1 h2 h3 => ⟨h W W' h1 h2 h3.1, g W W' h1 h2 h3.2⟩
theorem Stab.rds {α : Type} {E : El α} (hE : E.OK) (base : Nat) (v : Value) (l : List α) : Stab base fun W => RdS E (base ≤ ·) W v l := fun W W' _ h2 h3 => h3.keep hE fun k _ _ _ e _ ha => h2 k ha (Array.getElem?_eq_some_iff.1 e).1
theorem Stab.rep {α : Type} {E : El α} (hE : E.OK) (base : Nat) (cs : List Value) (x : α) : Stab base fun W => E.rep (base ≤ ·) W cs x := fun W W' _ h2 h3 => hE.keep h3 fun k _ _ _ e _ ha => h2 k ha (Array.getElem?_eq_some_iff.1 e).1
theorem Stab.row {α : Type} {E : El α} (hE : E.OK) (T : TypeId) (base : Nat) (v : Value) (l : List α) : Stab base fun W => RowE E T base W v l := fun W W' _ h2 h => by
  obtain ⟨cc, h1, h3⟩ := h
  refine ⟨cc, ownsRow_block h1 fun g hg => ?_, fun j hj => ?_⟩
  · obtain ⟨h4, h5⟩ := World.ownsRow.lt h1 g hg
    exact h2 g h4 h5
  · obtain ⟨es, e1, e2⟩ := h3 j hj
    exact ⟨es, hE.keep e1 fun k _ _ _ e _ ha => h2 k ha.1 (Array.getElem?_eq_some_iff.1 e).1, e2⟩
theorem RdS.up {α : Type} {E : El α} (hE : E.OK) {b b' : Nat} {W : World} {v : Value} {l : List α} (h : RdS E (b ≤ ·) W v l) (hb : b' ≤ b) : RdS E (b' ≤ ·) W v l := h.weak hE fun _ h1 _ => Nat.le_trans hb h1
/-- From W0 to W only the reader's variable is turned, and what is new since. -/
structure RdK (a : Option Addr) (c : Nat) (l : List UInt8) (w W0 : World) (p : Nat) (ok : Bool) (W : World) : Prop where
  x : PAt W w.heap.size (rdV a l.length c p ok)
  low : Below w.heap.size w W
  same : ∀ k, k < W0.heap.size → k ≠ w.heap.size → W.heap[k]? = W0.heap[k]?
  size : W0.heap.size ≤ W.heap.size
  lt : w.heap.size < W0.heap.size
  src : BytesL W w.heap.size (.slice a l.length c) l
  le : p ≤ l.length
section
variable {a : Option Addr} {c p p' : Nat} {l : List UInt8} {w W0 W W' : World} {ok ok' : Bool} {V b : Nat} {cs es : List Value} {D : World → Prop}
theorem RdK.here (h : RdK a c l w W0 p ok W) : RdK a c l w W p ok W := ⟨h.x, h.low, fun _ _ _ => rfl, Nat.le_refl _, h.x.lt, h.src, h.le⟩
theorem RdK.then (h : RdK a c l w W0 p ok W) (g : RdK a c l w W p' ok' W') : RdK a c l w W0 p' ok' W' :=
  ⟨g.x, g.low, fun k hk hn => (g.same k (Nat.lt_of_lt_of_le hk h.size) hn).trans (h.same k hk hn), Nat.le_trans h.size g.size, h.lt, g.src, g.le⟩
theorem RdK.call_src (h : RdK a c l w W0 p ok W) : BytesL W W.heap.size (.slice a l.length c) l := h.src.up (Nat.le_of_lt h.x.lt)
theorem RdK.new (h : RdK a c l w W0 p ok W) (hb : Below W.heap.size W W') : RdK a c l w W0 p ok W' :=
  ⟨h.x.below hb, h.low.trans (hb.mono (Nat.le_of_lt h.x.lt)), fun k hk hn => (hb.block k (Nat.lt_of_lt_of_le hk h.size)).trans (h.same k hk hn), Nat.le_trans h.size hb.size, h.lt, h.src.below (hb.mono (Nat.le_of_lt h.x.lt)), h.le⟩
theorem RdK.put (h : RdK a c l w W0 p ok W) (hp : p' ≤ l.length) (hW : W' = W.setCells w.heap.size 0 (rdV a l.length c p' ok')) : RdK a c l w W0 p' ok' W' := by
  have hA := apartR_setCells w.heap.size (rdV a l.length c p' ok') 0 W
  rw [← hW] at hA
  have hb : Below w.heap.size W W' := hA.below (Nat.le_refl _)
  refine ⟨by rw [hW]; exact h.x.setCells _ rfl, h.low.trans hb, fun k hk hn => (hA.2.2.2.2 k hn).trans (h.same k hk hn), by rw [hA.2.2.2.1]; exact h.size, h.lt, h.src.below hb, hp⟩
theorem RdK.bool (h : RdK a c l w W0 p ok W) (hW : W' = W.setCells w.heap.size 2 [.bool ok']) : RdK a c l w W0 p ok' W' := by
  have hA := apartR_setCells w.heap.size [.bool ok'] 2 W
  rw [← hW] at hA
  have hb : Below w.heap.size W W' := hA.below (Nat.le_refl _)
  refine ⟨by rw [hW]; exact h.x.setMid [.bool ok'] 2 (by simp [rdV]), h.low.trans hb, fun k hk hn => (hA.2.2.2.2 k hn).trans (h.same k hk hn), by rw [hA.2.2.2.1]; exact h.size, h.lt, h.src.below hb, h.le⟩
/-- A store elsewhere, in what is new since W0. -/
theorem RdK.other (h : RdK a c l w W0 p ok W) (hV : W0.heap.size ≤ V) {o : Nat} (hW : W' = W.setCells V o es) : RdK a c l w W0 p ok W' := by
  have hA := apartR_setCells V es o W
  rw [← hW] at hA
  have hlt := h.lt
  have hb : Below w.heap.size W W' := hA.below (by omega)
  refine ⟨h.x.of_block (hA.2.2.2.2 _ (by omega)), h.low.trans hb, fun k hk hn => (hA.2.2.2.2 k (by omega)).trans (h.same k hk hn), by rw [hA.2.2.2.1]; exact h.size, h.lt, h.src.below hb, h.le⟩
theorem RdK.at (h : RdK a c l w W0 p ok W) (hb : PAt W0 b cs) (hn : b ≠ w.heap.size) : PAt W b cs := hb.of_block (h.same b hb.lt hn)
theorem RdK.stab (h : RdK a c l w W0 p ok W) {base : Nat} (hs : Stab base D) (hb : w.heap.size < base) (hd : D W0) : D W := hs W0 W h.size (fun k hk hk' => h.same k hk' (by omega)) hd
/-- In the midst of a reader of several fields: its variable V, and the data of what is read. -/
structure GV (a : Option Addr) (c : Nat) (l : List UInt8) (w W0 : World) (V p : Nat) (ok : Bool) (cs : List Value) (D : World → Prop) (W : World) : Prop where
  k : RdK a c l w W0 p ok W
  v : PAt W V cs
  d : D W
  hv : W0.heap.size ≤ V
  hs : Stab (V + 1) D
theorem GV.new (h : GV a c l w W0 V p ok cs D W) (hb : Below W.heap.size W W') : GV a c l w W0 V p ok cs D W' :=
  ⟨h.k.new hb, h.v.below hb, h.hs W W' hb.size (fun k _ hk => hb.block k hk) h.d, h.hv, h.hs⟩
theorem GV.more {E : World → Prop} (h : GV a c l w W0 V p ok cs D W) (hs : Stab (V + 1) E) (he : E W) : GV a c l w W0 V p ok cs (fun W => D W ∧ E W) W := ⟨h.k, h.v, ⟨h.d, he⟩, h.hv, h.hs.and hs⟩
theorem GV.other (h : GV a c l w W0 V p ok cs D W) (g : RdK a c l w W p' ok' W') : GV a c l w W0 V p' ok' cs D W' := by
  have := h.hv
  have := h.k.lt
  exact ⟨h.k.then g, g.at h.v (by omega), g.stab h.hs (by omega) h.d, h.hv, h.hs⟩
theorem GV.put (h : GV a c l w W0 V p ok cs D W) (hp : p' ≤ l.length) (hW : W' = W.setCells w.heap.size 0 (rdV a l.length c p' ok')) : GV a c l w W0 V p' ok' cs D W' := h.other (h.k.here.put hp hW)
theorem GV.bool (h : GV a c l w W0 V p ok cs D W) (hW : W' = W.setCells w.heap.size 2 [.bool ok']) : GV a c l w W0 V p ok' cs D W' := h.other (h.k.here.bool hW)
theorem GV.set (h : GV a c l w W0 V p ok cs D W) {o : Nat} (hl : o + es.length ≤ cs.length) (hW : W' = W.setCells V o es) : GV a c l w W0 V p ok (cs.take o ++ es ++ cs.drop (o + es.length)) D W' := by
  have hA := apartR_setCells V es o W
  rw [← hW] at hA
  exact ⟨h.k.other h.hv hW, by rw [hW]; exact h.v.setMid es o hl, h.hs W W' (by rw [hA.2.2.2.1]; exact Nat.le_refl _) (fun k hk _ => hA.2.2.2.2 k (by omega)) h.d, h.hv, h.hs⟩
theorem GV.le (h : GV a c l w W0 V p ok cs D W) : V < W.heap.size := h.v.lt
theorem GV.rdr (h : GV a c l w W0 V p ok cs D W) : (loadVar 99 ⟨w.heap.size, 0, none⟩).run Tryz.prog W = .ok (.agg (rdV a l.length c p ok).toArray) W := rd_load W w.heap.size _ rfl h.k.x.1.range
/-- The end: both results are stored. -/
theorem GV.fin (h : GV a c l w W0 V p ok cs D W) {z1 z : List Value} (r1 : PAt W0 (w.heap.size + 1) z1) (r2 : PAt W0 (w.heap.size + 2) z) (hl1 : z1.length = 3) (hl : cs.length = z.length) {W1 : World} (h1 : W1 = W.setCells (w.heap.size + 1) 0 (rdV a l.length c p ok)) (h2 : W' = W1.setCells (w.heap.size + 2) 0 cs) :
    PAt W' (w.heap.size + 1) (rdV a l.length c p ok) ∧ PAt W' (w.heap.size + 2) cs ∧ D W' ∧ Below w.heap.size w W' := by
  have hV := h.hv
  have q1 := r1.lt
  have q2 := r2.lt
  have hA := apartR_setCells (w.heap.size + 1) (rdV a l.length c p ok) 0 W
  rw [← h1] at hA
  have hB := apartR_setCells (w.heap.size + 2) cs 0 W1
  rw [← h2] at hB
  have e1 : PAt W1 (w.heap.size + 1) (rdV a l.length c p ok) := by rw [h1]; exact (h.k.at r1 (by omega)).setCells _ (by rw [hl1]; rfl)
  have e2 : PAt W1 (w.heap.size + 2) z := (h.k.at r2 (by omega)).of_block (hA.2.2.2.2 _ (by omega))
  refine ⟨e1.of_block (hB.2.2.2.2 _ (by omega)), by rw [h2]; exact e2.setCells _ hl, h.hs W W' (by rw [hB.2.2.2.1, hA.2.2.2.1]; exact Nat.le_refl _) (fun k hk _ => (hB.2.2.2.2 k (by omega)).trans (hA.2.2.2.2 k (by omega))) h.d, h.k.low.trans ((hA.below (by omega)).trans (hB.below (by omega)))⟩
/-- The end, before its stores: what they ask for. -/
theorem GV.last (h : GV a c l w W0 V p ok cs D W) {z1 z : List Value} (r1 : PAt W0 (w.heap.size + 1) z1) (r2 : PAt W0 (w.heap.size + 2) z) (hl1 : z1.length = 3) (hl : cs.length = z.length) :
    GV a c l w W0 V p ok cs D W.drew ∧ W.drew.there (w.heap.size + 1) 0 3 ∧ PAt (W.drew.setCells (w.heap.size + 1) 0 (rdV a l.length c p ok)) w.heap.size (rdV a l.length c p ok) ∧ PAt (W.drew.setCells (w.heap.size + 1) 0 (rdV a l.length c p ok)) V cs ∧
    (W.drew.setCells (w.heap.size + 1) 0 (rdV a l.length c p ok)).there (w.heap.size + 2) 0 cs.length := by
  have hd : GV a c l w W0 V p ok cs D W.drew := h.new ((Below.refl _ _).drew)
  have hV := h.hv
  have q1 := r1.lt
  have q2 := r2.lt
  have hA := apartR_setCells (w.heap.size + 1) (rdV a l.length c p ok) 0 W.drew
  refine ⟨hd, (hd.k.at r1 (by omega)).thereMid 0 3 (by omega), hd.k.x.of_block (hA.2.2.2.2 _ (by omega)), hd.v.of_block (hA.2.2.2.2 _ (by omega)), ?_⟩
  exact ((hd.k.at r2 (by omega)).of_block (hA.2.2.2.2 _ (by omega))).thereMid 0 _ (by omega)
end
/-- The state when a reader of several fields begins. -/
theorem GV.start {a : Option Addr} {c p : Nat} {l : List UInt8} {w : World} {ok : Bool} (h : BytesL w w.heap.size (.slice a l.length c) l) (hp : p ≤ l.length) (z : List Value) (hz : 0 < z.length) (T : TypeId) (hT : T ≠ 5) {W0 : World}
    (h0 : W0 = ((w.alloc (.cells (rdV a l.length c p ok).toArray 99)).alloc (.cells #[.slice none 0 0, .int .i64 0, .bool false] 99)).alloc (.cells z.toArray T)) :
    GV a c l w W0 W0.heap.size p ok z (fun _ => True) (W0.alloc (.cells z.toArray T)) ∧ PAt W0 (w.heap.size + 1) [.slice none 0 0, .int .i64 0, .bool false] ∧ PAt W0 (w.heap.size + 2) z ∧ W0.heap.size = w.heap.size + 3 := by
  have hg := GetS.start (ok := ok) h hp
  have hb : Below ((w.alloc (.cells (rdV a l.length c p ok).toArray 99)).alloc (.cells #[.slice none 0 0, .int .i64 0, .bool false] 99)).heap.size _ (((w.alloc (.cells (rdV a l.length c p ok).toArray 99)).alloc (.cells #[.slice none 0 0, .int .i64 0, .bool false] 99)).alloc (.cells z.toArray T)) := (Below.refl _ _).alloc (Nat.le_refl _) _
  have hg2 := hg.new hb
  rw [← h0] at hg2
  have hsz : W0.heap.size = w.heap.size + 3 := by rw [h0]; simp
  have hbv : Below W0.heap.size W0 (W0.alloc (.cells z.toArray T)) := (Below.refl _ _).alloc (Nat.le_refl _) _
  have r2 : PAt W0 (w.heap.size + 2) z := by rw [h0]; exact PAt.new _ z hz T hT (by simp)
  have hk : RdK a c l w W0 p ok W0 := ⟨hg2.x, hg2.below, fun _ _ _ => rfl, Nat.le_refl _, by omega, hg2.src, hp⟩
  exact ⟨⟨hk.new hbv, PAt.new W0 z hz T hT rfl, trivial, Nat.le_refl _, Stab.true _⟩, hg2.r, r2, hsz⟩
/-! ### Operations -/
theorem store_runV {op : Oper} {a : Act} {w : World} {T : TypeId} (x y : Operand) (ho : op.op = .store T x y) (b o : Nat) (hx : a.eval x = .pointer (some ⟨b, o, none⟩)) (v : Value) (hy : a.eval y = v) (es : List Value) (hc : v.cells = es.toArray) (hsz : (Tryz.prog.info? T).map (·.size) = some es.length) (h1 : ∀ v ∈ es, v.oneCell' = true) (ht : w.there b o es.length) :
    (execOp a.eval op).run Tryz.prog w = .ok .skip (w.setCells b o es) := by
  have hst : (storeVar T ⟨b, o, none⟩ v).run Tryz.prog w = .ok () (w.setCells b o es) := by
    rw [storeVar_cells, hc]
    exact run_storeVar_mid w b o T es.toArray (by rw [List.size_toArray]; exact ht) (by rw [hsz, List.size_toArray]) (all_oneCell_toArray h1)
  unfold execOp
  simp only [ho, hx, hy, Instr.storeAt, Instr.sureAddr, Sem.run_bind, Sem.run_pure, Result.andThen_ok, hst]
theorem list_storeV {ops : Array Oper} {rest : List Oper} {op : Oper} {a : Act} {w : World} {Q : Exit → Act → World → Prop} {T : TypeId} (hgd : op.guard = none) (x y : Operand) (ho : op.op = .store T x y) (b o : Nat) (hx : a.eval x = .pointer (some ⟨b, o, none⟩)) (v : Value) (hy : a.eval y = v) (es : List Value) (hc : v.cells = es.toArray) (hsz : (Tryz.prog.info? T).map (·.size) = some es.length) (h1 : ∀ v ∈ es, v.oneCell' = true) (ht : w.there b o es.length)
    (k : ∀ w', w' = w.setCells b o es → wpList Tryz.prog ops Q rest (a.put op.dst undef) w') : wpList Tryz.prog ops Q (op :: rest) a w :=
  list_skip hgd _ (store_runV x y ho b o hx v hy es hc hsz h1 ht) (k _ rfl)
/-- The end of a reader that returns the reader and a row. -/
theorem ret_rows {fn : Func} {R : Ending → World → Prop} {a : Act} {w : World} {i j : Nat} {t t' : TypeId} (hfn : fn.results = #[.cell i t, .cell j t']) (b b' : Nat) (cs cs' : List Value) (h : RowAt w b cs) (h' : RowAt w b' cs') (ht : RowT t cs.length) (ht' : RowT t' cs'.length) (hp : a.tmps.getD i undef = .pointer (some ⟨b, 0, none⟩)) (hp' : a.tmps.getD j undef = .pointer (some ⟨b', 0, none⟩)) (hd : a.defers = [])
    (hR : R (.returned (.tuple #[.agg cs.toArray, .agg cs'.toArray])) w) : bodyPost Tryz.prog fn R .ret a w := by
  refine bodyPost_ret ?_ hd hR
  have hl := h.loadVar ht
  have hl' := h'.loadVar ht'
  unfold results
  rw [hfn]
  simp [hp, hp', asAddr, hl, hl', -Array.getD_eq_getD_getElem?]
/-! ### Gates: an arm is tried at its own operation alone (refined with reducible transparency) -/
theorem gate_st {P : Program} {ops : Array Oper} {Q : Exit → Act → World → Prop} {d : Option Tmp} {T : TypeId} {x y : Operand} {ty : TypeId} {ps : String} {af : Array Edge} {g : Option (Nat × Bool)} {rest : List Oper} {a : Act} {w : World} (h : wpList P ops Q (⟨d, .store T x y, ty, ps, af, g⟩ :: rest) a w) : wpList P ops Q (⟨d, .store T x y, ty, ps, af, g⟩ :: rest) a w := h
theorem gate_stw {P : Program} {K : Act → World → Prop} {Q : Exit → Act → World → Prop} {d : Option Tmp} {T : TypeId} {x y : Operand} {ty : TypeId} {ps : String} {af : Array Edge} {g : Option (Nat × Bool)} {a : Act} {w : World} (h : Oper.wp P ⟨d, .store T x y, ty, ps, af, g⟩ a w K Q) : Oper.wp P ⟨d, .store T x y, ty, ps, af, g⟩ a w K Q := h
theorem gate_ld {P : Program} {ops : Array Oper} {Q : Exit → Act → World → Prop} {d : Option Tmp} {T : TypeId} {x : Operand} {ty : TypeId} {ps : String} {af : Array Edge} {g : Option (Nat × Bool)} {rest : List Oper} {a : Act} {w : World} (h : wpList P ops Q (⟨d, .load T x, ty, ps, af, g⟩ :: rest) a w) : wpList P ops Q (⟨d, .load T x, ty, ps, af, g⟩ :: rest) a w := h
theorem gate_ldw {P : Program} {K : Act → World → Prop} {Q : Exit → Act → World → Prop} {d : Option Tmp} {T : TypeId} {x : Operand} {ty : TypeId} {ps : String} {af : Array Edge} {g : Option (Nat × Bool)} {a : Act} {w : World} (h : Oper.wp P ⟨d, .load T x, ty, ps, af, g⟩ a w K Q) : Oper.wp P ⟨d, .load T x, ty, ps, af, g⟩ a w K Q := h
theorem gate_li {P : Program} {ops : Array Oper} {Q : Exit → Act → World → Prop} {d : Option Tmp} {T : TypeId} {n : Nat} {xs : Array (Nat × Operand)} {ty : TypeId} {ps : String} {af : Array Edge} {g : Option (Nat × Bool)} {rest : List Oper} {a : Act} {w : World} (h : wpList P ops Q (⟨d, .buildSlice T n xs, ty, ps, af, g⟩ :: rest) a w) : wpList P ops Q (⟨d, .buildSlice T n xs, ty, ps, af, g⟩ :: rest) a w := h
theorem gate_liw {P : Program} {K : Act → World → Prop} {Q : Exit → Act → World → Prop} {d : Option Tmp} {T : TypeId} {n : Nat} {xs : Array (Nat × Operand)} {ty : TypeId} {ps : String} {af : Array Edge} {g : Option (Nat × Bool)} {a : Act} {w : World} (h : Oper.wp P ⟨d, .buildSlice T n xs, ty, ps, af, g⟩ a w K Q) : Oper.wp P ⟨d, .buildSlice T n xs, ty, ps, af, g⟩ a w K Q := h
/-! ### Contracts -/
def GotI (a : Option Addr) (c : Nat) (l : List UInt8) (p : Nat) (ok : Bool) (w : World) (e : Ending) (w' : World) : Prop := ∃ p' ok' x, e = .returned (.tuple #[.agg (rdV a l.length c p' ok').toArray, .int .i64 x]) ∧ I64 x ∧ Went pInt l p ok p' ok' x ∧ Below w.heap.size w w'
def GotT (a : Option Addr) (c : Nat) (l : List UInt8) (p : Nat) (ok : Bool) (w : World) (e : Ending) (w' : World) : Prop := ∃ p' ok' x, e = .returned (.tuple #[.agg (rdV a l.length c p' ok').toArray, .string x]) ∧ x.size ≤ 10000000 ∧ Went pText l p ok p' ok' x ∧ Below w.heap.size w w'
def GotN (n : Nat) (a : Option Addr) (c : Nat) (l : List UInt8) (p : Nat) (ok : Bool) (w : World) (e : Ending) (w' : World) : Prop := ∃ p' ok' x, e = .returned (.tuple #[.agg (rdV a l.length c p' ok').toArray, .int .u64 (x : Nat)]) ∧ x < 256 ^ n ∧ Went (pNum n) l p ok p' ok' x ∧ Below w.heap.size w w'
def GotC (s : Nat) (a : Option Addr) (c : Nat) (l : List UInt8) (p : Nat) (ok : Bool) (w : World) (e : Ending) (w' : World) : Prop := ∃ p' ok' n, e = .returned (.tuple #[.agg (rdV a l.length c p' ok').toArray, .int .i64 (n : Nat)]) ∧ n ≤ 1048576 / s ∧ Cnted s l p ok p' ok' n ∧ Below w.heap.size w w'
def GotS {α : Type} (E : El α) (P : Ps (List α)) (a : Option Addr) (c : Nat) (l : List UInt8) (p : Nat) (ok : Bool) (w : World) (e : Ending) (w' : World) : Prop := ∃ p' ok' v x, e = .returned (.tuple #[.agg (rdV a l.length c p' ok').toArray, v]) ∧ RdS E (w.heap.size ≤ ·) w' v x ∧ Went P l p ok p' ok' x ∧ Below w.heap.size w w'
def GotR {α : Type} (E : El α) (P : Ps α) (a : Option Addr) (c : Nat) (l : List UInt8) (p : Nat) (ok : Bool) (w : World) (e : Ending) (w' : World) : Prop := ∃ p' ok' es x, e = .returned (.tuple #[.agg (rdV a l.length c p' ok').toArray, .agg es.toArray]) ∧ E.rep (w.heap.size ≤ ·) w' es x ∧ Went P l p ok p' ok' x ∧ Below w.heap.size w w'
section
variable (a : Option Addr) (c : Nat) (l : List UInt8) (p : Nat) (ok : Bool) (w : World) (h : BytesL w w.heap.size (.slice a l.length c) l) (hp : p ≤ l.length)
include h hp
theorem gotN (n : Nat) (hn : n ≤ 8) : Calls Tryz.prog 36 #[.agg (rdV a l.length c p ok).toArray, .int .i64 n] w (GotN n a c l p ok w) :=
  (rget_any a c l p ok n hn w h hp).mono fun e w' ⟨h1, h2⟩ => ⟨_, _, _, h1, by
    unfold rgetS
    split
    · have h1 := num_lt ((l.drop p).take n)
      exact Nat.lt_of_lt_of_le h1 (Nat.pow_le_pow_right (by decide) (by rw [List.length_take]; omega))
    · exact Nat.pow_pos (by decide), went_num l p ok n hp, h2⟩
theorem gotI : Calls Tryz.prog 52 #[.agg (rdV a l.length c p ok).toArray] w (GotI a c l p ok w) :=
  (rgetInt_any a c l p ok w h hp).mono fun e w' ⟨h1, h2⟩ => ⟨_, _, _, h1, i64of_I64 (rgetS_lt l p ok), went_int l p ok hp, h2⟩
theorem gotT (hl : l.length ≤ 1048576) : Calls Tryz.prog 54 #[.agg (rdV a l.length c p ok).toArray] w (GotT a c l p ok w) :=
  (rgetString_any a c l p ok w h hp).mono fun e w' ⟨h1, h2⟩ => ⟨_, _, _, h1, by
    rw [← size_list]
    show ((l.drop _).take _).length ≤ _
    rw [List.length_take, List.length_drop]; omega, went_text l p ok hp, h2⟩
theorem gotC (hl : l.length ≤ 1048576) (s : Nat) (hs : 1 ≤ s) (hs2 : s ≤ 100) : Calls Tryz.prog 77 #[.agg (rdV a l.length c p ok).toArray, .int .i64 s] w (GotC s a c l p ok w) :=
  (rcount_any a c l p ok s ⟨hs, hs2⟩ w h hp).mono fun e w' ⟨h1, h2⟩ => ⟨_, _, _, h1, by
    have := (cnted l p ok s hs hp).le
    rw [Nat.le_div_iff_mul_le (by omega)]; omega, cnted l p ok s hs hp, h2⟩
end
end Go.Proofs.YtpknalpdcfjffaaGreat
/- The reference's getPlace. Printed by gen_rdr.py. -/
namespace Go.Proofs.YtpknalpdcfjffaaGreat
open Go Go.RowKit

theorem rowT_pla : RowT 29 4 := ⟨by kernel_rfl, _, Tryz.underlying29, rfl⟩
set_option maxHeartbeats 16000000 in
set_option maxRecDepth 100000 in
theorem gotPla (a : Option Addr) (c : Nat) (l : List UInt8) (p : Nat) (ok : Bool) (w : World) (h : BytesL w w.heap.size (.slice a l.length c) l) (hp : p ≤ l.length) :
    Calls Tryz.prog 75 #[.agg (rdV a l.length c p ok).toArray] w (GotR plaE pPla a c l p ok w) := by
  obtain ⟨h0, r1, r2, hsz⟩ := GV.start (ok := ok) h hp [.int .i64 0, .int .i64 0, .int .i64 0, .int .i64 0] (by decide) 29 (by decide) rfl
  have H0 := Lib.hid h0
  have R1 := Lib.hid r1
  have R2 := Lib.hid r2
  have HZ := Lib.hid hsz
  clear h0 r1 r2 hsz h hp
  go_enter Tryz.func75, Tryz.ntmps75
  go_upto_region 1 with fail
  generalize ((w.alloc (.cells (rdV a l.length c p ok).toArray 99)).alloc (.cells #[.slice none 0 0, .int .i64 0, .bool false] 99)).alloc (.cells #[.int .i64 0, .int .i64 0, .int .i64 0, .int .i64 0] 29) = W0 at H0 R1 R2 HZ ⊢
  go_upto_region 2 with fail
  have H : Hid (GV a c l w W0 W0.heap.size p ok [.int .i64 0, .int .i64 0, .int .i64 0, .int .i64 0] _ (W0.alloc (.cells #[.int .i64 0, .int .i64 0, .int .i64 0, .int .i64 0] 29))) := H0
  clear H0
  generalize W0.alloc (.cells #[.int .i64 0, .int .i64 0, .int .i64 0, .int .i64 0] 29) = W at H ⊢
  generalize W0.heap.size = V at H HZ ⊢
  go_wp2_with (first | ((first | with_reducible refine gate_ld ?_ | with_reducible refine gate_ldw ?_); refine list_loadAgg H.out.rdr rfl _ rfl rfl ?_) | fail)
  refine (gotI a c l p ok W H.out.k.call_src H.out.k.le).mono ?_
  rintro e W1 ⟨p1, ok1, x1, rfl, hx, hwent, hb⟩
  have HW1 := Lib.hid hwent
  have HX1 := Lib.hid hx
  have G1 := Lib.hid (H.out.new hb)
  clear hwent hb hx H
  go_upto_region 3 with (first
    | ((first | with_reducible refine gate_st ?_ | with_reducible refine gate_stw ?_); refine list_storeAgg rfl _ _ rfl w.heap.size 0 rfl (rdV a l.length c p1 ok1) rfl (by rw [sz_rd]; rfl) (all_one rfl) (G1.out.k.x.thereMid 0 3 (by simp [rdV])) ?_
       intro wA hwA
       have A1 := Lib.hid (G1.out.put HW1.out.le hwA)
       clear hwA G1)
    | ((first | with_reducible refine gate_st ?_ | with_reducible refine gate_stw ?_); refine list_storeV rfl _ _ rfl V 0 rfl (.int .i64 x1) rfl [.int .i64 x1] rfl (by kernel_rfl) (all_one rfl) (A1.out.v.thereMid 0 1 (by simp)) ?_
       intro V1 hwB
       have H1 : Hid (GV a c l w W0 V p1 ok1 [.int .i64 x1, .int .i64 0, .int .i64 0, .int .i64 0] _ V1) := A1.out.set (by simp) hwB
       clear hwB A1)
    | fail)
  go_wp2_with (first | ((first | with_reducible refine gate_ld ?_ | with_reducible refine gate_ldw ?_); refine list_loadAgg H1.out.rdr rfl _ rfl rfl ?_) | fail)
  refine (gotI a c l p1 ok1 V1 H1.out.k.call_src H1.out.k.le).mono ?_
  rintro e W2 ⟨p2, ok2, x2, rfl, hx, hwent, hb⟩
  have HW2 := Lib.hid hwent
  have HX2 := Lib.hid hx
  have G2 := Lib.hid (H1.out.new hb)
  clear hwent hb hx H1
  go_upto_region 4 with (first
    | ((first | with_reducible refine gate_st ?_ | with_reducible refine gate_stw ?_); refine list_storeAgg rfl _ _ rfl w.heap.size 0 rfl (rdV a l.length c p2 ok2) rfl (by rw [sz_rd]; rfl) (all_one rfl) (G2.out.k.x.thereMid 0 3 (by simp [rdV])) ?_
       intro wA hwA
       have A2 := Lib.hid (G2.out.put HW2.out.le hwA)
       clear hwA G2)
    | ((first | with_reducible refine gate_st ?_ | with_reducible refine gate_stw ?_); refine list_storeV rfl _ _ rfl V 1 rfl (.int .i64 x2) rfl [.int .i64 x2] rfl (by kernel_rfl) (all_one rfl) (A2.out.v.thereMid 1 1 (by simp)) ?_
       intro V2 hwB
       have H2 : Hid (GV a c l w W0 V p2 ok2 [.int .i64 x1, .int .i64 x2, .int .i64 0, .int .i64 0] _ V2) := A2.out.set (by simp) hwB
       clear hwB A2)
    | fail)
  go_wp2_with (first | ((first | with_reducible refine gate_ld ?_ | with_reducible refine gate_ldw ?_); refine list_loadAgg H2.out.rdr rfl _ rfl rfl ?_) | fail)
  refine (gotI a c l p2 ok2 V2 H2.out.k.call_src H2.out.k.le).mono ?_
  rintro e W3 ⟨p3, ok3, x3, rfl, hx, hwent, hb⟩
  have HW3 := Lib.hid hwent
  have HX3 := Lib.hid hx
  have G3 := Lib.hid (H2.out.new hb)
  clear hwent hb hx H2
  go_upto_region 5 with (first
    | ((first | with_reducible refine gate_st ?_ | with_reducible refine gate_stw ?_); refine list_storeAgg rfl _ _ rfl w.heap.size 0 rfl (rdV a l.length c p3 ok3) rfl (by rw [sz_rd]; rfl) (all_one rfl) (G3.out.k.x.thereMid 0 3 (by simp [rdV])) ?_
       intro wA hwA
       have A3 := Lib.hid (G3.out.put HW3.out.le hwA)
       clear hwA G3)
    | ((first | with_reducible refine gate_st ?_ | with_reducible refine gate_stw ?_); refine list_storeV rfl _ _ rfl V 2 rfl (.int .i64 x3) rfl [.int .i64 x3] rfl (by kernel_rfl) (all_one rfl) (A3.out.v.thereMid 2 1 (by simp)) ?_
       intro V3 hwB
       have H3 : Hid (GV a c l w W0 V p3 ok3 [.int .i64 x1, .int .i64 x2, .int .i64 x3, .int .i64 0] _ V3) := A3.out.set (by simp) hwB
       clear hwB A3)
    | fail)
  go_wp2_with (first | ((first | with_reducible refine gate_ld ?_ | with_reducible refine gate_ldw ?_); refine list_loadAgg H3.out.rdr rfl _ rfl rfl ?_) | fail)
  refine (gotI a c l p3 ok3 V3 H3.out.k.call_src H3.out.k.le).mono ?_
  rintro e W4 ⟨p4, ok4, x4, rfl, hx, hwent, hb⟩
  have HW4 := Lib.hid hwent
  have HX4 := Lib.hid hx
  have G4 := Lib.hid (H3.out.new hb)
  clear hwent hb hx H3
  go_upto_region 6 with (first
    | ((first | with_reducible refine gate_st ?_ | with_reducible refine gate_stw ?_); refine list_storeAgg rfl _ _ rfl w.heap.size 0 rfl (rdV a l.length c p4 ok4) rfl (by rw [sz_rd]; rfl) (all_one rfl) (G4.out.k.x.thereMid 0 3 (by simp [rdV])) ?_
       intro wA hwA
       have A4 := Lib.hid (G4.out.put HW4.out.le hwA)
       clear hwA G4)
    | ((first | with_reducible refine gate_st ?_ | with_reducible refine gate_stw ?_); refine list_storeV rfl _ _ rfl V 3 rfl (.int .i64 x4) rfl [.int .i64 x4] rfl (by kernel_rfl) (all_one rfl) (A4.out.v.thereMid 3 1 (by simp)) ?_
       intro V4 hwB
       have H4 : Hid (GV a c l w W0 V p4 ok4 [.int .i64 x1, .int .i64 x2, .int .i64 x3, .int .i64 x4] _ V4) := A4.out.set (by simp) hwB
       clear hwB A4)
    | fail)
  obtain ⟨hd, ht1, hs1, hs2, ht2⟩ := H4.out.last R1.out R2.out rfl rfl
  have HD := Lib.hid hd
  have HT1 := Lib.hid ht1
  have HT2 := Lib.hid ht2
  have HS := Lib.hid (And.intro hs1 hs2)
  clear hd ht1 hs1 hs2 ht2
  refine wp_region_seqL (by kernel_rfl) (fun w' => PAt w' w.heap.size (rdV a l.length c p4 ok4) ∧ PAt w' V [.int .i64 x1, .int .i64 x2, .int .i64 x3, .int .i64 x4]) 3 [(0, 1), (1, 1), (2, 2), (3, 2)] (by kernel_rfl) ⟨HD.out.k.x, HD.out.v⟩ ?_
  refine sl_load (d := some 29) rfl rfl rfl _ _ rfl ⟨w.heap.size, 0, none⟩ rfl (.agg (rdV a l.length c p4 ok4).toArray) (fun w1 hw => rd_load w1 _ _ rfl hw.1.1.range) ?_
  simp only [Act.put, List.setIfInBounds_toArray, List.set_cons_zero, List.set_cons_succ]
  refine sl_load (d := some 30) rfl rfl rfl _ _ rfl ⟨V, 0, none⟩ rfl (.agg ([.int .i64 x1, .int .i64 x2, .int .i64 x3, .int .i64 x4] : List Value).toArray) (fun w1 hw => hw.2.1.loadVar rowT_pla) ?_
  simp only [Act.put, List.setIfInBounds_toArray, List.set_cons_zero, List.set_cons_succ]
  refine sl_skip (d := none) rfl rfl rfl _ (store_runV _ _ rfl (w.heap.size + 1) 0 rfl (.agg (rdV a l.length c p4 ok4).toArray) rfl (rdV a l.length c p4 ok4) rfl (by rw [sz_rd]; rfl) (all_one rfl) HT1.out) (fun _ => HS.out) ?_
  simp only [Act.put, List.setIfInBounds_toArray, List.set_cons_zero, List.set_cons_succ]
  refine sl_skip (d := none) rfl rfl rfl _ (store_runV _ _ rfl (w.heap.size + 2) 0 rfl (.agg ([.int .i64 x1, .int .i64 x2, .int .i64 x3, .int .i64 x4] : List Value).toArray) rfl [.int .i64 x1, .int .i64 x2, .int .i64 x3, .int .i64 x4] rfl (by kernel_rfl) (all_one rfl) HT2.out) (fun h => by cases h) ?_
  simp only [Act.put, List.setIfInBounds_toArray, List.set_cons_zero, List.set_cons_succ]
  refine sl_end ?_
  go_wp2_with fail
  obtain ⟨e1, e2, hd, hb⟩ := HD.out.fin R1.out R2.out rfl rfl rfl rfl
  refine ret_rows rfl _ _ _ _ e1.1 e2.1 rowT_rd rowT_pla rfl rfl rfl ?_
  exact ⟨p4, ok4, _, ⟨x1, x2, x3, x4⟩, rfl, ⟨rfl, HX1.out, HX2.out, HX3.out, HX4.out⟩, (HW1.out).bind ((HW2.out).bind ((HW3.out).bind ((HW4.out).bind (Went.ret HW4.out.le _)))), hb⟩
end Go.Proofs.YtpknalpdcfjffaaGreat
/- Loops of the reference's readers. No walk. -/
namespace Go.Proofs.YtpknalpdcfjffaaGreat
open Go Go.RowKit

section
variable {a : Option Addr} {c p p' p0 i V : Nat} {l : List UInt8} {w W0 W W' : World} {ok ok' ok0 : Bool}
theorem RdK.above (h : RdK a c l w W0 p ok W) (hb : Below W0.heap.size W W') : RdK a c l w W0 p ok W' :=
  ⟨h.x.of_block (hb.block _ h.lt), h.low.trans (hb.mono (Nat.le_of_lt h.lt)), fun k hk hn => (hb.block k hk).trans (h.same k hk hn), Nat.le_trans h.size hb.size, h.lt, h.src.below (hb.mono (Nat.le_of_lt h.lt)), h.le⟩
theorem GetS.k (h : GetS a c l w p ok W) : RdK a c l w W p ok W := ⟨h.x, h.below, fun _ _ _ => rfl, Nat.le_refl _, h.x.lt, h.src, h.le⟩
theorem RdK.rdr (h : RdK a c l w W0 p ok W) : (loadVar 99 ⟨w.heap.size, 0, none⟩).run Tryz.prog W = .ok (.agg (rdV a l.length c p ok).toArray) W := rd_load W w.heap.size _ rfl h.x.1.range
/-- The end: the reader is stored as a result. -/
theorem RdK.fin (h : RdK a c l w W0 p ok W) {z1 : List Value} (r1 : PAt W0 (w.heap.size + 1) z1) (hl1 : z1.length = 3) (h1 : W' = W.setCells (w.heap.size + 1) 0 (rdV a l.length c p ok)) :
    PAt W' (w.heap.size + 1) (rdV a l.length c p ok) ∧ Below w.heap.size w W' ∧ ∀ {D : World → Prop}, Stab (w.heap.size + 2) D → D W → D W' := by
  have hA := apartR_setCells (w.heap.size + 1) (rdV a l.length c p ok) 0 W
  rw [← h1] at hA
  refine ⟨by rw [h1]; exact (h.at r1 (by omega)).setCells _ (by rw [hl1]; rfl), h.low.trans (hA.below (by omega)), fun hs hd => hs W W' (by rw [hA.2.2.2.1]; exact Nat.le_refl _) (fun k hk _ => hA.2.2.2.2 k (by omega)) hd⟩
/-- A variable of a round. -/
theorem GV.fresh (h : RdK a c l w W0 p ok W) (z : List Value) (hz : 0 < z.length) (T : TypeId) (hT : T ≠ 5) : GV a c l w W W.heap.size p ok z (fun _ => True) (W.alloc (.cells z.toArray T)) :=
  ⟨h.here.new ((Below.refl _ _).alloc (Nat.le_refl _) _), PAt.new W z hz T hT rfl, trivial, Nat.le_refl _, Stab.true _⟩
end
/-- A row that a loop fills: i elements are read. -/
structure RW {α : Type} (E : El α) (T : TypeId) (P : Ps α) (l : List UInt8) (b p0 : Nat) (ok0 : Bool) (i p : Nat) (ok : Bool) (v : Value) (xs : List α) (W : World) : Prop where
  row : RowE E T b W v xs
  len : xs.length = i
  went : Went (pN P i) l p0 ok0 p ok xs
  size : b ≤ W.heap.size
section
variable {α : Type} {E : El α} {T ST : TypeId} {ev : List Value → Value} {zc : List Value} {P : Ps α} {a : Option Addr} {b c p p' p0 i : Nat} {l : List UInt8} {w W0 W W' : World} {ok ok' ok0 : Bool} {v : Value} {xs : List α}
theorem RW.start (hp : p ≤ l.length) (hb : b ≤ W.heap.size) : RW E T P l b p ok 0 p ok (.slice none 0 0) [] W := ⟨.nil, rfl, Went.nil hp, hb⟩
theorem RW.next (hE : E.OK) (hT : ElT T ST E.n ev zc) (h : RW E T P l b p0 ok0 i p ok v xs W) (hk : RdK a c l w W p' ok' W') (hlt : w.heap.size < b) {es : List Value} {x : α} (hre : E.rep (W.heap.size ≤ ·) W' es x) (hw : Went P l p ok p' ok' x) (hm : i ≤ 1000000) (ty : TypeId) :
    ∃ (v' : Value) (W2 : World), (Builtin.append_ #[ST, ST] ty #[v, .slice (some ⟨W'.heap.size, 0, none⟩) 1 1]).run Tryz.prog (W'.alloc (.cells es.toArray T)) = .ok v' W2 ∧ RW E T P l b p0 ok0 (i + 1) p' ok' v' (xs ++ [x]) W2 ∧ Below b W' W2 := by
  have hrow : RowE E T b W' v xs := hk.stab (Stab.row hE T b v xs) hlt h.row
  have hre' : E.rep (avR b v) W' es x := hE.weak hre fun k hk _ => by
    have h1 : W.heap.size ≤ k := hk
    refine ⟨Nat.le_trans h.size h1, fun e => ?_⟩
    have := (h.row.lt k e).2
    omega
  have hs := Nat.le_trans h.size hk.size
  obtain ⟨v', W2, hrun, hr, hb⟩ := RowE.append hE hT hrow hre' (by rw [h.len]; exact hm) hs ty
  exact ⟨v', W2, hrun, ⟨hr, by rw [List.length_append, h.len]; rfl, h.went.snoc hw, Nat.le_trans hs hb.size⟩, hb⟩
theorem RW.slice (h : RW E T P l b p0 ok0 i p ok v xs W) : ∃ sa sc, v = .slice sa i sc := by
  obtain ⟨sa, sc, e⟩ := h.row.slice
  exact ⟨sa, sc, by rw [e, h.len]⟩
theorem RW.rds (hE : E.OK) (hT : T ≠ 5) (h : RW E T P l b p0 ok0 i p ok v xs W) (hm : i ≤ 1000000) : RdS E (b ≤ ·) W v xs := h.row.rd hE hT (by rw [h.len]; exact hm)
end
/-- A loop of a reader that appends to a slice of its own. -/
structure RL {α : Type} (E : El α) (T : TypeId) (P : Ps α) (a : Option Addr) (c : Nat) (l : List UInt8) (w W0 : World) (p0 : Nat) (ok0 : Bool) (i p : Nat) (ok : Bool) (v : Value) (xs : List α) (W : World) : Prop where
  k : RdK a c l w W0 p ok W
  r : RW E T P l W0.heap.size p0 ok0 i p ok v xs W
/-- A loop that appends to a field of the variable V; W0 is the world before the variable, WL that before the loop. -/
structure LV {α : Type} (E : El α) (T : TypeId) (P : Ps α) (a : Option Addr) (c : Nat) (l : List UInt8) (w W0 : World) (V : Nat) (WL : World) (p0 : Nat) (ok0 : Bool) (i p : Nat) (ok : Bool) (cs : List Value) (v : Value) (xs : List α) (W : World) : Prop where
  g : GV a c l w W0 V p ok cs (fun _ => True) W
  vl : V < WL.heap.size
  same : ∀ k, V < k → k < WL.heap.size → W.heap[k]? = WL.heap[k]?
  r : RW E T P l WL.heap.size p0 ok0 i p ok v xs W
section
variable {α : Type} {E : El α} {T ST : TypeId} {ev : List Value → Value} {zc : List Value} {P : Ps α} {a : Option Addr} {c p p' p0 i V : Nat} {l : List UInt8} {w W0 W W' WL : World} {ok ok' ok0 : Bool} {v : Value} {xs : List α} {cs : List Value}
theorem RL.start (k : RdK a c l w W0 p ok W0) : RL E T P a c l w W0 p ok 0 p ok (.slice none 0 0) [] W0 := ⟨k, RW.start k.le (Nat.le_refl _)⟩
theorem RL.next (hE : E.OK) (hT : ElT T ST E.n ev zc) (h : RL E T P a c l w W0 p0 ok0 i p ok v xs W) (hk : RdK a c l w W p' ok' W') {es : List Value} {x : α} (hre : E.rep (W.heap.size ≤ ·) W' es x) (hw : Went P l p ok p' ok' x) (hm : i ≤ 1000000) (ty : TypeId) :
    ∃ (v' : Value) (W2 : World), (Builtin.append_ #[ST, ST] ty #[v, .slice (some ⟨W'.heap.size, 0, none⟩) 1 1]).run Tryz.prog (W'.alloc (.cells es.toArray T)) = .ok v' W2 ∧ RL E T P a c l w W0 p0 ok0 (i + 1) p' ok' v' (xs ++ [x]) W2 := by
  obtain ⟨v', W2, h1, h2, h3⟩ := h.r.next hE hT hk h.k.lt hre hw hm ty
  exact ⟨v', W2, h1, (h.k.then hk).above h3, h2⟩
theorem GV.weak {D D' : World → Prop} (h : GV a c l w W0 V p ok cs D W) (hs : Stab (V + 1) D') (hd : D' W) : GV a c l w W0 V p ok cs D' W := ⟨h.k, h.v, hd, h.hv, hs⟩
theorem LV.start {D : World → Prop} (h : GV a c l w W0 V p ok cs D W) : LV E T P a c l w W0 V W p ok 0 p ok cs (.slice none 0 0) [] W := ⟨h.weak (Stab.true _) trivial, h.le, fun _ _ _ => rfl, RW.start h.k.le (Nat.le_refl _)⟩
theorem LV.at (h : LV E T P a c l w W0 V WL p0 ok0 i p ok cs v xs W) (hk : RdK a c l w W p' ok' W') : PAt W' V cs := by
  have := h.g.hv
  have := h.g.k.lt
  exact hk.at h.g.v (by omega)
theorem LV.next (hE : E.OK) (hT : ElT T ST E.n ev zc) (h : LV E T P a c l w W0 V WL p0 ok0 i p ok cs v xs W) (hk : RdK a c l w W p' ok' W') {es : List Value} {x : α} (hre : E.rep (W.heap.size ≤ ·) W' es x) (hw : Went P l p ok p' ok' x) (hm : i ≤ 1000000) (ty : TypeId) :
    ∃ (v' : Value) (W2 : World), (Builtin.append_ #[ST, ST] ty #[v, .slice (some ⟨W'.heap.size, 0, none⟩) 1 1]).run Tryz.prog (W'.alloc (.cells es.toArray T)) = .ok v' W2 ∧ PAt W2 V cs ∧ (∃ sa sc, v' = .slice sa (i + 1) sc) ∧
      ∀ off, off + 1 ≤ cs.length → ∀ W3, W3 = W2.setCells V off [v'] → LV E T P a c l w W0 V WL p0 ok0 (i + 1) p' ok' (cs.take off ++ [v'] ++ cs.drop (off + 1)) v' (xs ++ [x]) W3 := by
  have q1 := h.g.hv
  have q2 := h.g.k.lt
  have q3 := h.vl
  obtain ⟨v', W2, h1, h2, h3⟩ := h.r.next hE hT hk (by omega) hre hw hm ty
  have hv2 : PAt W2 V cs := (h.at hk).of_block (h3.block V h.vl)
  have hk2 : RdK a c l w W0 p' ok' W2 := by
    have h4 := h.g.k.then hk
    exact ⟨h4.x.of_block (h3.block _ (by omega)), h4.low.trans (h3.mono (by omega)), fun k hk hn => (h3.block k (by omega)).trans (h4.same k hk hn), Nat.le_trans h4.size h3.size, h4.lt, h4.src.below (h3.mono (by omega)), h4.le⟩
  refine ⟨v', W2, h1, hv2, h2.slice, fun off hl W3 hW => ?_⟩
  have hA := apartR_setCells V [v'] off W2
  rw [← hW] at hA
  have hg2 : GV a c l w W0 V p' ok' cs (fun _ => True) W2 := ⟨hk2, hv2, trivial, h.g.hv, Stab.true _⟩
  refine ⟨hg2.set (by simpa using hl) hW, h.vl, fun k hk1 hk2' => ?_, ⟨?_, h2.len, h2.went, by rw [hA.2.2.2.1]; exact h2.size⟩⟩
  · have e1 := hA.2.2.2.2 k (by omega)
    have e2 := h3.block k hk2'
    have e3 := hk.same k (Nat.lt_of_lt_of_le hk2' h.r.size) (by omega)
    rw [e1, e2, e3]; exact h.same k hk1 hk2'
  · exact Stab.row hE T WL.heap.size v' _ W2 W3 (by rw [hA.2.2.2.1]; exact Nat.le_refl _) (fun k hk _ => hA.2.2.2.2 k (by omega)) h2.row
/-- What was read before the loop. -/
theorem LV.old {β : Type} {F : El β} (hF : F.OK) (h : LV E T P a c l w W0 V WL p0 ok0 i p ok cs v xs W) {u : Value} {ys : List β} (hd : RdS F (V + 1 ≤ ·) WL u ys) : RdS F (V + 1 ≤ ·) W u ys := by
  have h1 : RdS F (fun k => V + 1 ≤ k ∧ k < WL.heap.size) WL u ys := hd.weak hF fun k h2 h3 => ⟨h2, h3⟩
  exact (h1.keep hF fun k _ _ _ _ _ ha => h.same k ha.1 ha.2).weak hF fun k h2 _ => h2.1
theorem LV.fin (hE : E.OK) (hT : T ≠ 5) (h : LV E T P a c l w W0 V WL p0 ok0 i p ok cs v xs W) (hm : i ≤ 1000000) : GV a c l w W0 V p ok cs (fun W => RdS E (V + 1 ≤ ·) W v xs) W :=
  h.g.weak (Stab.rds hE (V + 1) v xs) ((h.r.rds hE hT hm).up hE h.vl)
end
end Go.Proofs.YtpknalpdcfjffaaGreat
/- The reference's getReadings. Printed by gen_rdr.py. -/
namespace Go.Proofs.YtpknalpdcfjffaaGreat
open Go Go.RowKit

theorem rowT_rdg : RowT 77 2 := ⟨by kernel_rfl, _, Tryz.underlying77, rfl⟩
theorem rdg_load (w : World) (b : Nat) (es : List Value) (hl : es.length = 2) (hr : w.rangeAt b 0 es) : (loadVar 77 ⟨b, 0, none⟩).run Tryz.prog w = .ok (.agg es.toArray) w := run_loadVar_mid w b 0 _ es _ hr Tryz.underlying77 rfl (by rw [hl]; kernel_rfl)
set_option maxHeartbeats 16000000 in
set_option maxRecDepth 100000 in
theorem gotRds (a : Option Addr) (c : Nat) (l : List UInt8) (p : Nat) (ok : Bool) (w : World) (h : BytesL w w.heap.size (.slice a l.length c) l) (hp : p ≤ l.length) (hl : l.length ≤ 1048576) :
    Calls Tryz.prog 76 #[.agg (rdV a l.length c p ok).toArray] w (GotS rdE (pList pRd) a c l p ok w) := by
  have H := Lib.hid (GetS.start (ok := ok) h hp).k
  have R1 := Lib.hid (GetS.start (ok := ok) h hp).r
  have HL := Lib.hid hl
  clear h hp hl
  go_enter Tryz.func76, Tryz.ntmps76
  go_upto_region 1 with fail
  generalize (w.alloc (.cells (rdV a l.length c p ok).toArray 99)).alloc (.cells #[.slice none 0 0, .int .i64 0, .bool false] 99) = Wr at H R1 ⊢
  go_wp2_with (first | ((first | with_reducible refine gate_ld ?_ | with_reducible refine gate_ldw ?_); refine list_loadAgg H.out.rdr rfl _ rfl rfl ?_) | fail)
  refine (gotC a c l p ok Wr H.out.call_src H.out.le HL.out 16 (by omega) (by omega)).mono ?_
  rintro e W1 ⟨p1, ok1, n, rfl, hn, hc, hb⟩
  have HC := Lib.hid hc
  have HN : Hid (n ≤ 65536) := hn
  have G := Lib.hid (H.out.new hb)
  clear hb hc hn H
  go_upto_region 2 with (first
    | ((first | with_reducible refine gate_st ?_ | with_reducible refine gate_stw ?_); refine list_storeAgg rfl _ _ rfl w.heap.size 0 rfl (rdV a l.length c p1 ok1) rfl (by rw [sz_rd]; rfl) (all_one rfl) (G.out.x.thereMid 0 3 (by simp [rdV])) ?_
       intro W0 hwA
       have A := Lib.hid (G.out.put HC.out.lt hwA)
       clear hwA G)
    | fail)
  have R2 := Lib.hid (A.out.at R1.out (by omega))
  have HS : Hid (RL rdE 77 pRd a c l w W0 p1 ok1 0 p1 ok1 (.slice none 0 0) [] W0) := RL.start A.out.here
  have hn : (n : Int) ≤ 65536 := by have := HN.out; omega
  clear A R1
  go_wp2_with fail
  go_loopw [5, 6, 7] (fun v kv uv wr => ∃ (i p2 : Nat) (ok2 : Bool) (xs : List (Int × Int)), kv = .int .i64 i ∧ i ≤ n ∧ Hid (RL rdE 77 pRd a c l w W0 p1 ok1 i p2 ok2 v xs wr)) (fun _ kv _ _ => (2000000 - intOf kv).toNat)
  case atStart => exact ⟨0, p1, ok1, [], rfl, by omega, HS⟩
  case round =>
    clear HS
    obtain ⟨i, p2, ok2, xs, rfl, hi, H⟩ := hrel
    obtain ⟨sa, sc, rfl⟩ := H.out.r.slice
    by_cases hin : i < n
    · have hin' : (i : Int) < (n : Int) := by omega
      have i1 : (i : Int) ≤ 65536 := by omega
      go_upto_region 7 with fail
      have HV : Hid (GV a c l w wr wr.heap.size p2 ok2 [.int .i64 0, .int .i64 0] _ (wr.alloc (.cells #[.int .i64 0, .int .i64 0] 77))) := GV.fresh H.out.k [.int .i64 0, .int .i64 0] (by decide) 77 (by decide)
      generalize wr.alloc (.cells #[.int .i64 0, .int .i64 0] 77) = Wv at HV ⊢
      generalize wr.heap.size = V at HV ⊢
      have HI : Hid (i ≤ 65536) := by unfold Hid; omega
      go_wp2_with (first | ((first | with_reducible refine gate_ld ?_ | with_reducible refine gate_ldw ?_); refine list_loadAgg HV.out.rdr rfl _ rfl rfl ?_) | fail)
      refine (gotI a c l p2 ok2 Wv HV.out.k.call_src HV.out.k.le).mono ?_
      rintro e Wf1 ⟨pf1, okf1, xf1, rfl, hx, hwent, hb⟩
      have HWf1 := Lib.hid hwent
      have HXf1 := Lib.hid hx
      have Gf1 := Lib.hid (HV.out.new hb)
      clear hwent hb hx HV
      go_upto_region 8 with (first
        | ((first | with_reducible refine gate_st ?_ | with_reducible refine gate_stw ?_); refine list_storeAgg rfl _ _ rfl w.heap.size 0 rfl (rdV a l.length c pf1 okf1) rfl (by rw [sz_rd]; rfl) (all_one rfl) (Gf1.out.k.x.thereMid 0 3 (by simp [rdV])) ?_
           intro wA hwA
           have Af1 := Lib.hid (Gf1.out.put HWf1.out.le hwA)
           clear hwA Gf1)
        | ((first | with_reducible refine gate_st ?_ | with_reducible refine gate_stw ?_); refine list_storeV rfl _ _ rfl V 0 rfl (.int .i64 xf1) rfl [.int .i64 xf1] rfl (by kernel_rfl) (all_one rfl) (Af1.out.v.thereMid 0 1 (by simp)) ?_
           intro Vf1 hwB
           have Hf1 : Hid (GV a c l w wr V pf1 okf1 [.int .i64 xf1, .int .i64 0] _ Vf1) := Af1.out.set (by simp) hwB
           clear hwB Af1)
        | fail)
      go_wp2_with (first | ((first | with_reducible refine gate_ld ?_ | with_reducible refine gate_ldw ?_); refine list_loadAgg Hf1.out.rdr rfl _ rfl rfl ?_) | fail)
      refine (gotI a c l pf1 okf1 Vf1 Hf1.out.k.call_src Hf1.out.k.le).mono ?_
      rintro e Wf2 ⟨pf2, okf2, xf2, rfl, hx, hwent, hb⟩
      have HWf2 := Lib.hid hwent
      have HXf2 := Lib.hid hx
      have Gf2 := Lib.hid (Hf1.out.new hb)
      clear hwent hb hx Hf1
      go_upto_region 9 with (first
        | ((first | with_reducible refine gate_st ?_ | with_reducible refine gate_stw ?_); refine list_storeAgg rfl _ _ rfl w.heap.size 0 rfl (rdV a l.length c pf2 okf2) rfl (by rw [sz_rd]; rfl) (all_one rfl) (Gf2.out.k.x.thereMid 0 3 (by simp [rdV])) ?_
           intro wA hwA
           have Af2 := Lib.hid (Gf2.out.put HWf2.out.le hwA)
           clear hwA Gf2)
        | ((first | with_reducible refine gate_st ?_ | with_reducible refine gate_stw ?_); refine list_storeV rfl _ _ rfl V 1 rfl (.int .i64 xf2) rfl [.int .i64 xf2] rfl (by kernel_rfl) (all_one rfl) (Af2.out.v.thereMid 1 1 (by simp)) ?_
           intro Vf2 hwB
           have Hf2 : Hid (GV a c l w wr V pf2 okf2 [.int .i64 xf1, .int .i64 xf2] _ Vf2) := Af2.out.set (by simp) hwB
           clear hwB Af2)
        | fail)
      have HW : Hid (Went pRd l p2 ok2 pf2 okf2 (xf1, xf2)) := (HWf1.out).bind ((HWf2.out).bind (Went.ret HWf2.out.le _))
      obtain ⟨v4, W4, hrun, h4⟩ := H.out.next rdE_ok rdT Hf2.out.k (es := [.int .i64 xf1, .int .i64 xf2]) ⟨rfl, HXf1.out, HXf2.out⟩ HW.out (by have := HI.out; omega) 30
      have HRun := Lib.hid hrun
      have HS4 := Lib.hid h4
      clear hrun h4
      go_wp2_with (first
        | ((first | with_reducible refine gate_ld ?_ | with_reducible refine gate_ldw ?_); refine list_loadAgg (rdg_load _ _ _ rfl Hf2.out.v.1.range) rfl _ rfl rfl ?_)
        | ((first | with_reducible refine gate_li ?_ | with_reducible refine gate_liw ?_); refine list_lit rdT rfl _ rfl [.int .i64 xf1, .int .i64 xf2] rfl rfl (all_one rfl) ?_)
        | (at_builtin; refine wpList_append_run rfl _ _ _ rfl _ _ _ _ rfl rfl HRun.out ?_; clear HRun)
        | fail)
      go_roundw
      case rel => exact ⟨i + 1, pf2, okf2, _, by go_num, by omega, HS4⟩
      case measure => simp [intOf]; omega
    · obtain rfl : i = n := by omega
      have HR3 := Lib.hid (H.out.k.at R2.out (by omega))
      have HRd := Lib.hid (H.out.r.rds rdE_ok (by decide) (by omega))
      have HW := Lib.hid (HC.out.list takes_rd H.out.r.went)
      have HLt : Hid (w.heap.size + 1 < W0.heap.size) := R2.out.lt
      clear hi hin hn
      go_wp2_with (first
        | ((first | with_reducible refine gate_ld ?_ | with_reducible refine gate_ldw ?_); refine list_loadAgg H.out.k.rdr rfl _ rfl rfl ?_)
        | ((first | with_reducible refine gate_st ?_ | with_reducible refine gate_stw ?_); refine list_storeAgg rfl _ _ rfl (w.heap.size + 1) 0 rfl (rdV a l.length c p2 ok2) rfl (by rw [sz_rd]; rfl) (all_one rfl) (HR3.out.thereMid 0 3 (by simp)) ?_
           intro W5 hw
           have H5 := Lib.hid (H.out.k.fin R2.out rfl hw)
           clear hw)
        | fail)
      refine ret_row2 rfl _ _ _ H5.out.1.1 rowT_rd rfl rfl rfl ⟨p2, ok2, _, xs, rfl, ?_, HW.out, H5.out.2.1⟩
      exact (H5.out.2.2 (Stab.rds rdE_ok _ _ _) (HRd.out.up rdE_ok (by have := HLt.out; omega))).up rdE_ok (by omega)
end Go.Proofs.YtpknalpdcfjffaaGreat
/- The reference's getReport. Printed by gen_rdr.py. -/
namespace Go.Proofs.YtpknalpdcfjffaaGreat
open Go Go.RowKit

set_option maxHeartbeats 16000000 in
set_option maxRecDepth 100000 in
theorem gotRep (a : Option Addr) (c : Nat) (l : List UInt8) (p : Nat) (ok : Bool) (w : World) (h : BytesL w w.heap.size (.slice a l.length c) l) (hp : p ≤ l.length) (hl : l.length ≤ 1048576) :
    Calls Tryz.prog 53 #[.agg (rdV a l.length c p ok).toArray] w (GotR repE pRep a c l p ok w) := by
  obtain ⟨h0, r1, r2, hsz⟩ := GV.start (ok := ok) h hp [.int .i64 0, .string ⟨#[]⟩, .int .i64 0, .int .i64 0, .int .i64 0, .int .i64 0, .int .i64 0, .slice none 0 0] (by decide) 32 (by decide) rfl
  have H0 := Lib.hid h0
  have R1 := Lib.hid r1
  have R2 := Lib.hid r2
  have HZ := Lib.hid hsz
  have HL := Lib.hid hl
  clear hl
  clear h0 r1 r2 hsz h hp
  go_enter Tryz.func53, Tryz.ntmps53
  go_upto_region 1 with fail
  generalize ((w.alloc (.cells (rdV a l.length c p ok).toArray 99)).alloc (.cells #[.slice none 0 0, .int .i64 0, .bool false] 99)).alloc (.cells #[.int .i64 0, .string ⟨#[]⟩, .int .i64 0, .int .i64 0, .int .i64 0, .int .i64 0, .int .i64 0, .slice none 0 0] 32) = W0 at H0 R1 R2 HZ ⊢
  go_upto_region 2 with fail
  have H : Hid (GV a c l w W0 W0.heap.size p ok [.int .i64 0, .string ⟨#[]⟩, .int .i64 0, .int .i64 0, .int .i64 0, .int .i64 0, .int .i64 0, .slice none 0 0] _ (W0.alloc (.cells #[.int .i64 0, .string ⟨#[]⟩, .int .i64 0, .int .i64 0, .int .i64 0, .int .i64 0, .int .i64 0, .slice none 0 0] 32))) := H0
  clear H0
  generalize W0.alloc (.cells #[.int .i64 0, .string ⟨#[]⟩, .int .i64 0, .int .i64 0, .int .i64 0, .int .i64 0, .int .i64 0, .slice none 0 0] 32) = W at H ⊢
  generalize W0.heap.size = V at H HZ ⊢
  go_wp2_with (first | ((first | with_reducible refine gate_ld ?_ | with_reducible refine gate_ldw ?_); refine list_loadAgg H.out.rdr rfl _ rfl rfl ?_) | fail)
  refine (gotI a c l p ok W H.out.k.call_src H.out.k.le).mono ?_
  rintro e W1 ⟨p1, ok1, x1, rfl, hx, hwent, hb⟩
  have HW1 := Lib.hid hwent
  have HX1 := Lib.hid hx
  have G1 := Lib.hid (H.out.new hb)
  clear hwent hb hx H
  go_upto_region 3 with (first
    | ((first | with_reducible refine gate_st ?_ | with_reducible refine gate_stw ?_); refine list_storeAgg rfl _ _ rfl w.heap.size 0 rfl (rdV a l.length c p1 ok1) rfl (by rw [sz_rd]; rfl) (all_one rfl) (G1.out.k.x.thereMid 0 3 (by simp [rdV])) ?_
       intro wA hwA
       have A1 := Lib.hid (G1.out.put HW1.out.le hwA)
       clear hwA G1)
    | ((first | with_reducible refine gate_st ?_ | with_reducible refine gate_stw ?_); refine list_storeV rfl _ _ rfl V 0 rfl (.int .i64 x1) rfl [.int .i64 x1] rfl (by kernel_rfl) (all_one rfl) (A1.out.v.thereMid 0 1 (by simp)) ?_
       intro V1 hwB
       have H1 : Hid (GV a c l w W0 V p1 ok1 [.int .i64 x1, .string ⟨#[]⟩, .int .i64 0, .int .i64 0, .int .i64 0, .int .i64 0, .int .i64 0, .slice none 0 0] _ V1) := A1.out.set (by simp) hwB
       clear hwB A1)
    | fail)
  go_wp2_with (first | ((first | with_reducible refine gate_ld ?_ | with_reducible refine gate_ldw ?_); refine list_loadAgg H1.out.rdr rfl _ rfl rfl ?_) | fail)
  refine (gotT a c l p1 ok1 V1 H1.out.k.call_src H1.out.k.le HL.out).mono ?_
  rintro e W2 ⟨p2, ok2, x2, rfl, hx, hwent, hb⟩
  have HW2 := Lib.hid hwent
  have HX2 := Lib.hid hx
  have G2 := Lib.hid (H1.out.new hb)
  clear hwent hb hx H1
  go_upto_region 4 with (first
    | ((first | with_reducible refine gate_st ?_ | with_reducible refine gate_stw ?_); refine list_storeAgg rfl _ _ rfl w.heap.size 0 rfl (rdV a l.length c p2 ok2) rfl (by rw [sz_rd]; rfl) (all_one rfl) (G2.out.k.x.thereMid 0 3 (by simp [rdV])) ?_
       intro wA hwA
       have A2 := Lib.hid (G2.out.put HW2.out.le hwA)
       clear hwA G2)
    | ((first | with_reducible refine gate_st ?_ | with_reducible refine gate_stw ?_); refine list_storeV rfl _ _ rfl V 1 rfl (.string x2) rfl [.string x2] rfl (by kernel_rfl) (all_one rfl) (A2.out.v.thereMid 1 1 (by simp)) ?_
       intro V2 hwB
       have H2 : Hid (GV a c l w W0 V p2 ok2 [.int .i64 x1, .string x2, .int .i64 0, .int .i64 0, .int .i64 0, .int .i64 0, .int .i64 0, .slice none 0 0] _ V2) := A2.out.set (by simp) hwB
       clear hwB A2)
    | fail)
  go_wp2_with (first | ((first | with_reducible refine gate_ld ?_ | with_reducible refine gate_ldw ?_); refine list_loadAgg H2.out.rdr rfl _ rfl rfl ?_) | fail)
  refine (gotI a c l p2 ok2 V2 H2.out.k.call_src H2.out.k.le).mono ?_
  rintro e W3 ⟨p3, ok3, x3, rfl, hx, hwent, hb⟩
  have HW3 := Lib.hid hwent
  have HX3 := Lib.hid hx
  have G3 := Lib.hid (H2.out.new hb)
  clear hwent hb hx H2
  go_upto_region 5 with (first
    | ((first | with_reducible refine gate_st ?_ | with_reducible refine gate_stw ?_); refine list_storeAgg rfl _ _ rfl w.heap.size 0 rfl (rdV a l.length c p3 ok3) rfl (by rw [sz_rd]; rfl) (all_one rfl) (G3.out.k.x.thereMid 0 3 (by simp [rdV])) ?_
       intro wA hwA
       have A3 := Lib.hid (G3.out.put HW3.out.le hwA)
       clear hwA G3)
    | ((first | with_reducible refine gate_st ?_ | with_reducible refine gate_stw ?_); refine list_storeV rfl _ _ rfl V 2 rfl (.int .i64 x3) rfl [.int .i64 x3] rfl (by kernel_rfl) (all_one rfl) (A3.out.v.thereMid 2 1 (by simp)) ?_
       intro V3 hwB
       have H3 : Hid (GV a c l w W0 V p3 ok3 [.int .i64 x1, .string x2, .int .i64 x3, .int .i64 0, .int .i64 0, .int .i64 0, .int .i64 0, .slice none 0 0] _ V3) := A3.out.set (by simp) hwB
       clear hwB A3)
    | fail)
  go_wp2_with (first | ((first | with_reducible refine gate_ld ?_ | with_reducible refine gate_ldw ?_); refine list_loadAgg H3.out.rdr rfl _ rfl rfl ?_) | fail)
  refine (gotPla a c l p3 ok3 V3 H3.out.k.call_src H3.out.k.le).mono ?_
  rintro e W4 ⟨p4, ok4, es, x4, rfl, hx, hwent, hb⟩
  have HW4 := Lib.hid hwent
  obtain ⟨rfl, hx⟩ := hx
  have HX4 := Lib.hid hx
  have G4 := Lib.hid (H3.out.new hb)
  clear hwent hb hx H3
  go_upto_region 6 with (first
    | ((first | with_reducible refine gate_st ?_ | with_reducible refine gate_stw ?_); refine list_storeAgg rfl _ _ rfl w.heap.size 0 rfl (rdV a l.length c p4 ok4) rfl (by rw [sz_rd]; rfl) (all_one rfl) (G4.out.k.x.thereMid 0 3 (by simp [rdV])) ?_
       intro wA hwA
       have A4 := Lib.hid (G4.out.put HW4.out.le hwA)
       clear hwA G4)
    | ((first | with_reducible refine gate_st ?_ | with_reducible refine gate_stw ?_); refine list_storeV rfl _ _ rfl V 3 rfl (.agg #[.int .i64 x4.f, .int .i64 x4.a, .int .i64 x4.b, .int .i64 x4.c]) rfl [.int .i64 x4.f, .int .i64 x4.a, .int .i64 x4.b, .int .i64 x4.c] rfl (by kernel_rfl) (all_one rfl) (A4.out.v.thereMid 3 4 (by simp)) ?_
       intro V4 hwB
       have H4 : Hid (GV a c l w W0 V p4 ok4 [.int .i64 x1, .string x2, .int .i64 x3, .int .i64 x4.f, .int .i64 x4.a, .int .i64 x4.b, .int .i64 x4.c, .slice none 0 0] _ V4) := A4.out.set (by simp) hwB
       clear hwB A4)
    | fail)
  go_wp2_with (first | ((first | with_reducible refine gate_ld ?_ | with_reducible refine gate_ldw ?_); refine list_loadAgg H4.out.rdr rfl _ rfl rfl ?_) | fail)
  refine (gotRds a c l p4 ok4 V4 H4.out.k.call_src H4.out.k.le HL.out).mono ?_
  rintro e W5 ⟨p5, ok5, v, x5, rfl, hx, hwent, hb⟩
  have HW5 := Lib.hid hwent
  obtain ⟨sa5, sc5, rfl⟩ := hx.slice
  have G5 := Lib.hid ((H4.out.new hb).more (Stab.rds rdE_ok (V + 1) _ _) (hx.up rdE_ok H4.out.le))
  clear hwent hb hx H4
  go_upto_region 7 with (first
    | ((first | with_reducible refine gate_st ?_ | with_reducible refine gate_stw ?_); refine list_storeAgg rfl _ _ rfl w.heap.size 0 rfl (rdV a l.length c p5 ok5) rfl (by rw [sz_rd]; rfl) (all_one rfl) (G5.out.k.x.thereMid 0 3 (by simp [rdV])) ?_
       intro wA hwA
       have A5 := Lib.hid (G5.out.put HW5.out.le hwA)
       clear hwA G5)
    | ((first | with_reducible refine gate_st ?_ | with_reducible refine gate_stw ?_); refine list_storeV rfl _ _ rfl V 7 rfl (.slice sa5 x5.length sc5) rfl [.slice sa5 x5.length sc5] rfl (by kernel_rfl) (all_one rfl) (A5.out.v.thereMid 7 1 (by simp)) ?_
       intro V5 hwB
       have H5 : Hid (GV a c l w W0 V p5 ok5 [.int .i64 x1, .string x2, .int .i64 x3, .int .i64 x4.f, .int .i64 x4.a, .int .i64 x4.b, .int .i64 x4.c, .slice sa5 x5.length sc5] _ V5) := A5.out.set (by simp) hwB
       clear hwB A5)
    | fail)
  obtain ⟨hd, ht1, hs1, hs2, ht2⟩ := H5.out.last R1.out R2.out rfl rfl
  have HD := Lib.hid hd
  have HT1 := Lib.hid ht1
  have HT2 := Lib.hid ht2
  have HS := Lib.hid (And.intro hs1 hs2)
  clear hd ht1 hs1 hs2 ht2
  refine wp_region_seqL (by kernel_rfl) (fun w' => PAt w' w.heap.size (rdV a l.length c p5 ok5) ∧ PAt w' V [.int .i64 x1, .string x2, .int .i64 x3, .int .i64 x4.f, .int .i64 x4.a, .int .i64 x4.b, .int .i64 x4.c, .slice sa5 x5.length sc5]) 3 [(0, 1), (1, 1), (2, 2), (3, 2)] (by kernel_rfl) ⟨HD.out.k.x, HD.out.v⟩ ?_
  refine sl_load (d := some 35) rfl rfl rfl _ _ rfl ⟨w.heap.size, 0, none⟩ rfl (.agg (rdV a l.length c p5 ok5).toArray) (fun w1 hw => rd_load w1 _ _ rfl hw.1.1.range) ?_
  simp only [Act.put, List.setIfInBounds_toArray, List.set_cons_zero, List.set_cons_succ]
  refine sl_load (d := some 36) rfl rfl rfl _ _ rfl ⟨V, 0, none⟩ rfl (.agg ([.int .i64 x1, .string x2, .int .i64 x3, .int .i64 x4.f, .int .i64 x4.a, .int .i64 x4.b, .int .i64 x4.c, .slice sa5 x5.length sc5] : List Value).toArray) (fun w1 hw => hw.2.1.loadVar rowT_rep) ?_
  simp only [Act.put, List.setIfInBounds_toArray, List.set_cons_zero, List.set_cons_succ]
  refine sl_skip (d := none) rfl rfl rfl _ (store_runV _ _ rfl (w.heap.size + 1) 0 rfl (.agg (rdV a l.length c p5 ok5).toArray) rfl (rdV a l.length c p5 ok5) rfl (by rw [sz_rd]; rfl) (all_one rfl) HT1.out) (fun _ => HS.out) ?_
  simp only [Act.put, List.setIfInBounds_toArray, List.set_cons_zero, List.set_cons_succ]
  refine sl_skip (d := none) rfl rfl rfl _ (store_runV _ _ rfl (w.heap.size + 2) 0 rfl (.agg ([.int .i64 x1, .string x2, .int .i64 x3, .int .i64 x4.f, .int .i64 x4.a, .int .i64 x4.b, .int .i64 x4.c, .slice sa5 x5.length sc5] : List Value).toArray) rfl [.int .i64 x1, .string x2, .int .i64 x3, .int .i64 x4.f, .int .i64 x4.a, .int .i64 x4.b, .int .i64 x4.c, .slice sa5 x5.length sc5] rfl (by kernel_rfl) (all_one rfl) HT2.out) (fun h => by cases h) ?_
  simp only [Act.put, List.setIfInBounds_toArray, List.set_cons_zero, List.set_cons_succ]
  refine sl_end ?_
  go_wp2_with fail
  obtain ⟨e1, e2, hd, hb⟩ := HD.out.fin R1.out R2.out rfl rfl rfl rfl
  refine ret_rows rfl _ _ _ _ e1.1 e2.1 rowT_rd rowT_rep rfl rfl rfl ?_
  exact ⟨p5, ok5, _, ⟨x1, x2, x3, x4, x5⟩, rfl, ⟨_, rfl, HX1.out, HX2.out, HX3.out, HX4.out, hd.2.up rdE_ok (by have := HZ.out; omega)⟩, (HW1.out).bind ((HW2.out).bind ((HW3.out).bind ((HW4.out).bind ((HW5.out).bind (Went.ret HW5.out.le _))))), hb⟩
end Go.Proofs.YtpknalpdcfjffaaGreat
/- The reference's getSlice. -/
namespace Go.Proofs.YtpknalpdcfjffaaGreat
open Go Go.RowKit

set_option maxHeartbeats 16000000 in
set_option maxRecDepth 100000 in
theorem gotInts (a : Option Addr) (c : Nat) (l : List UInt8) (p : Nat) (ok : Bool) (w : World) (h : BytesL w w.heap.size (.slice a l.length c) l) (hp : p ≤ l.length) (hl : l.length ≤ 1048576) :
    Calls Tryz.prog 79 #[.agg (rdV a l.length c p ok).toArray] w (GotS intE (pList pInt) a c l p ok w) := by
  have H := Lib.hid (GetS.start (ok := ok) h hp).k
  have R1 := Lib.hid (GetS.start (ok := ok) h hp).r
  have HL := Lib.hid hl
  clear h hp hl
  go_enter Tryz.func79, Tryz.ntmps79
  go_upto_region 1 with fail
  generalize (w.alloc (.cells (rdV a l.length c p ok).toArray 99)).alloc (.cells #[.slice none 0 0, .int .i64 0, .bool false] 99) = Wr at H R1 ⊢
  go_wp2_with (first | ((first | with_reducible refine gate_ld ?_ | with_reducible refine gate_ldw ?_); refine list_loadAgg H.out.rdr rfl _ rfl rfl ?_) | fail)
  refine (gotC a c l p ok Wr H.out.call_src H.out.le HL.out 8 (by omega) (by omega)).mono ?_
  rintro e W1 ⟨p1, ok1, n, rfl, hn, hc, hb⟩
  have HC := Lib.hid hc
  have HN : Hid (n ≤ 131072) := hn
  have G := Lib.hid (H.out.new hb)
  clear hb hc hn H
  go_upto_region 2 with (first
    | ((first | with_reducible refine gate_st ?_ | with_reducible refine gate_stw ?_); refine list_storeAgg rfl _ _ rfl w.heap.size 0 rfl (rdV a l.length c p1 ok1) rfl (by rw [sz_rd]; rfl) (all_one rfl) (G.out.x.thereMid 0 3 (by simp [rdV])) ?_
       intro W0 hwA
       have A := Lib.hid (G.out.put HC.out.lt hwA)
       clear hwA G)
    | fail)
  have R2 := Lib.hid (A.out.at R1.out (by omega))
  have HS : Hid (RL intE 3 pInt a c l w W0 p1 ok1 0 p1 ok1 (.slice none 0 0) [] W0) := RL.start A.out.here
  have hn : (n : Int) ≤ 131072 := by have := HN.out; omega
  clear A R1
  go_wp2_with fail
  go_loopw [5, 6, 7] (fun v kv uv wr => ∃ (i p2 : Nat) (ok2 : Bool) (xs : List Int), kv = .int .i64 i ∧ i ≤ n ∧ Hid (RL intE 3 pInt a c l w W0 p1 ok1 i p2 ok2 v xs wr)) (fun _ kv _ _ => (2000000 - intOf kv).toNat)
  case atStart => exact ⟨0, p1, ok1, [], rfl, by omega, HS⟩
  case round =>
    clear HS
    obtain ⟨i, p2, ok2, xs, rfl, hi, H⟩ := hrel
    obtain ⟨sa, sc, rfl⟩ := H.out.r.slice
    by_cases hin : i < n
    · have hin' : (i : Int) < (n : Int) := by omega
      have i1 : (i : Int) ≤ 131072 := by omega
      go_wp2_with (first | ((first | with_reducible refine gate_ld ?_ | with_reducible refine gate_ldw ?_); refine list_loadAgg H.out.k.rdr rfl _ rfl rfl ?_) | fail)
      refine (gotI a c l p2 ok2 wr H.out.k.call_src H.out.k.le).mono ?_
      rintro e W2 ⟨p3, ok3, x, rfl, hx, hwent, hb⟩
      have HW := Lib.hid hwent
      have HX := Lib.hid hx
      have G := Lib.hid (H.out.k.here.new hb)
      have HI : Hid (i ≤ 131072) := by unfold Hid; omega
      clear hb hx hwent
      go_upto_region 8 with (first
        | ((first | with_reducible refine gate_st ?_ | with_reducible refine gate_stw ?_); refine list_storeAgg rfl _ _ rfl w.heap.size 0 rfl (rdV a l.length c p3 ok3) rfl (by rw [sz_rd]; rfl) (all_one rfl) (G.out.x.thereMid 0 3 (by simp [rdV])) ?_
           intro W3 hwA
           have A := Lib.hid (G.out.put HW.out.le hwA)
           clear hwA G)
        | fail)
      obtain ⟨v4, W4, hrun, h4⟩ := H.out.next intE_ok intT A.out (es := [.int .i64 x]) ⟨rfl, HX.out⟩ HW.out (by have := HI.out; omega) 38
      have HRun := Lib.hid hrun
      have HS4 := Lib.hid h4
      clear hrun h4
      go_wp2_with (first
        | ((first | with_reducible refine gate_li ?_ | with_reducible refine gate_liw ?_); refine list_lit intT rfl _ rfl [.int .i64 x] rfl rfl (all_one rfl) ?_)
        | (at_builtin; refine wpList_append_run rfl _ _ _ rfl _ _ _ _ rfl rfl HRun.out ?_; clear HRun)
        | fail)
      go_roundw
      case rel => exact ⟨i + 1, p3, ok3, _, by go_num, by omega, HS4⟩
      case measure => simp [intOf]; omega
    · obtain rfl : i = n := by omega
      have HR3 := Lib.hid (H.out.k.at R2.out (by omega))
      have HRd := Lib.hid (H.out.r.rds intE_ok (by decide) (by omega))
      have HW := Lib.hid (HC.out.list takes_int H.out.r.went)
      have HLt : Hid (w.heap.size + 1 < W0.heap.size) := R2.out.lt
      clear hi hin hn
      go_wp2_with (first
        | ((first | with_reducible refine gate_ld ?_ | with_reducible refine gate_ldw ?_); refine list_loadAgg H.out.k.rdr rfl _ rfl rfl ?_)
        | ((first | with_reducible refine gate_st ?_ | with_reducible refine gate_stw ?_); refine list_storeAgg rfl _ _ rfl (w.heap.size + 1) 0 rfl (rdV a l.length c p2 ok2) rfl (by rw [sz_rd]; rfl) (all_one rfl) (HR3.out.thereMid 0 3 (by simp)) ?_
           intro W5 hw
           have H5 := Lib.hid (H.out.k.fin R2.out rfl hw)
           clear hw)
        | fail)
      refine ret_row2 rfl _ _ _ H5.out.1.1 rowT_rd rfl rfl rfl ⟨p2, ok2, _, xs, rfl, ?_, HW.out, H5.out.2.1⟩
      exact (H5.out.2.2 (Stab.rds intE_ok _ _ _) (HRd.out.up intE_ok (by have := HLt.out; omega))).up intE_ok (by omega)
end Go.Proofs.YtpknalpdcfjffaaGreat
/- The reference's getAnalysis. Printed by gen_rdr.py. -/
namespace Go.Proofs.YtpknalpdcfjffaaGreat
open Go Go.RowKit

theorem rowT_ana : RowT 45 8 := ⟨by kernel_rfl, _, Tryz.underlying45, rfl⟩
set_option maxHeartbeats 16000000 in
set_option maxRecDepth 100000 in
theorem gotAna (a : Option Addr) (c : Nat) (l : List UInt8) (p : Nat) (ok : Bool) (w : World) (h : BytesL w w.heap.size (.slice a l.length c) l) (hp : p ≤ l.length) (hl : l.length ≤ 1048576) :
    Calls Tryz.prog 78 #[.agg (rdV a l.length c p ok).toArray] w (GotR anaE pAna a c l p ok w) := by
  obtain ⟨h0, r1, r2, hsz⟩ := GV.start (ok := ok) h hp [.slice none 0 0, .slice none 0 0, .slice none 0 0, .int .i64 0, .int .u64 0, .int .i64 0, .int .i64 0, .int .i64 0] (by decide) 45 (by decide) rfl
  have H0 := Lib.hid h0
  have R1 := Lib.hid r1
  have R2 := Lib.hid r2
  have HZ := Lib.hid hsz
  have HL := Lib.hid hl
  clear hl
  clear h0 r1 r2 hsz h hp
  go_enter Tryz.func78, Tryz.ntmps78
  go_upto_region 1 with fail
  generalize ((w.alloc (.cells (rdV a l.length c p ok).toArray 99)).alloc (.cells #[.slice none 0 0, .int .i64 0, .bool false] 99)).alloc (.cells #[.slice none 0 0, .slice none 0 0, .slice none 0 0, .int .i64 0, .int .u64 0, .int .i64 0, .int .i64 0, .int .i64 0] 45) = W0 at H0 R1 R2 HZ ⊢
  go_upto_region 2 with fail
  have H : Hid (GV a c l w W0 W0.heap.size p ok [.slice none 0 0, .slice none 0 0, .slice none 0 0, .int .i64 0, .int .u64 0, .int .i64 0, .int .i64 0, .int .i64 0] _ (W0.alloc (.cells #[.slice none 0 0, .slice none 0 0, .slice none 0 0, .int .i64 0, .int .u64 0, .int .i64 0, .int .i64 0, .int .i64 0] 45))) := H0
  clear H0
  generalize W0.alloc (.cells #[.slice none 0 0, .slice none 0 0, .slice none 0 0, .int .i64 0, .int .u64 0, .int .i64 0, .int .i64 0, .int .i64 0] 45) = W at H ⊢
  generalize W0.heap.size = V at H HZ ⊢
  go_wp2_with (first | ((first | with_reducible refine gate_ld ?_ | with_reducible refine gate_ldw ?_); refine list_loadAgg H.out.rdr rfl _ rfl rfl ?_) | fail)
  refine (gotInts a c l p ok W H.out.k.call_src H.out.k.le HL.out).mono ?_
  rintro e W1 ⟨p1, ok1, v, x1, rfl, hx, hwent, hb⟩
  have HW1 := Lib.hid hwent
  obtain ⟨sa1, sc1, rfl⟩ := hx.slice
  have G1 := Lib.hid ((H.out.new hb).more (Stab.rds intE_ok (V + 1) _ _) (hx.up intE_ok H.out.le))
  clear hwent hb hx H
  go_upto_region 3 with (first
    | ((first | with_reducible refine gate_st ?_ | with_reducible refine gate_stw ?_); refine list_storeAgg rfl _ _ rfl w.heap.size 0 rfl (rdV a l.length c p1 ok1) rfl (by rw [sz_rd]; rfl) (all_one rfl) (G1.out.k.x.thereMid 0 3 (by simp [rdV])) ?_
       intro wA hwA
       have A1 := Lib.hid (G1.out.put HW1.out.le hwA)
       clear hwA G1)
    | ((first | with_reducible refine gate_st ?_ | with_reducible refine gate_stw ?_); refine list_storeV rfl _ _ rfl V 0 rfl (.slice sa1 x1.length sc1) rfl [.slice sa1 x1.length sc1] rfl (by kernel_rfl) (all_one rfl) (A1.out.v.thereMid 0 1 (by simp)) ?_
       intro V1 hwB
       have H1 : Hid (GV a c l w W0 V p1 ok1 [.slice sa1 x1.length sc1, .slice none 0 0, .slice none 0 0, .int .i64 0, .int .u64 0, .int .i64 0, .int .i64 0, .int .i64 0] _ V1) := A1.out.set (by simp) hwB
       clear hwB A1)
    | fail)
  go_wp2_with (first | ((first | with_reducible refine gate_ld ?_ | with_reducible refine gate_ldw ?_); refine list_loadAgg H1.out.rdr rfl _ rfl rfl ?_) | fail)
  refine (gotInts a c l p1 ok1 V1 H1.out.k.call_src H1.out.k.le HL.out).mono ?_
  rintro e W2 ⟨p2, ok2, v, x2, rfl, hx, hwent, hb⟩
  have HW2 := Lib.hid hwent
  obtain ⟨sa2, sc2, rfl⟩ := hx.slice
  have G2 := Lib.hid ((H1.out.new hb).more (Stab.rds intE_ok (V + 1) _ _) (hx.up intE_ok H1.out.le))
  clear hwent hb hx H1
  go_upto_region 4 with (first
    | ((first | with_reducible refine gate_st ?_ | with_reducible refine gate_stw ?_); refine list_storeAgg rfl _ _ rfl w.heap.size 0 rfl (rdV a l.length c p2 ok2) rfl (by rw [sz_rd]; rfl) (all_one rfl) (G2.out.k.x.thereMid 0 3 (by simp [rdV])) ?_
       intro wA hwA
       have A2 := Lib.hid (G2.out.put HW2.out.le hwA)
       clear hwA G2)
    | ((first | with_reducible refine gate_st ?_ | with_reducible refine gate_stw ?_); refine list_storeV rfl _ _ rfl V 1 rfl (.slice sa2 x2.length sc2) rfl [.slice sa2 x2.length sc2] rfl (by kernel_rfl) (all_one rfl) (A2.out.v.thereMid 1 1 (by simp)) ?_
       intro V2 hwB
       have H2 : Hid (GV a c l w W0 V p2 ok2 [.slice sa1 x1.length sc1, .slice sa2 x2.length sc2, .slice none 0 0, .int .i64 0, .int .u64 0, .int .i64 0, .int .i64 0, .int .i64 0] _ V2) := A2.out.set (by simp) hwB
       clear hwB A2)
    | fail)
  go_wp2_with (first | ((first | with_reducible refine gate_ld ?_ | with_reducible refine gate_ldw ?_); refine list_loadAgg H2.out.rdr rfl _ rfl rfl ?_) | fail)
  refine (gotInts a c l p2 ok2 V2 H2.out.k.call_src H2.out.k.le HL.out).mono ?_
  rintro e W3 ⟨p3, ok3, v, x3, rfl, hx, hwent, hb⟩
  have HW3 := Lib.hid hwent
  obtain ⟨sa3, sc3, rfl⟩ := hx.slice
  have G3 := Lib.hid ((H2.out.new hb).more (Stab.rds intE_ok (V + 1) _ _) (hx.up intE_ok H2.out.le))
  clear hwent hb hx H2
  go_upto_region 5 with (first
    | ((first | with_reducible refine gate_st ?_ | with_reducible refine gate_stw ?_); refine list_storeAgg rfl _ _ rfl w.heap.size 0 rfl (rdV a l.length c p3 ok3) rfl (by rw [sz_rd]; rfl) (all_one rfl) (G3.out.k.x.thereMid 0 3 (by simp [rdV])) ?_
       intro wA hwA
       have A3 := Lib.hid (G3.out.put HW3.out.le hwA)
       clear hwA G3)
    | ((first | with_reducible refine gate_st ?_ | with_reducible refine gate_stw ?_); refine list_storeV rfl _ _ rfl V 2 rfl (.slice sa3 x3.length sc3) rfl [.slice sa3 x3.length sc3] rfl (by kernel_rfl) (all_one rfl) (A3.out.v.thereMid 2 1 (by simp)) ?_
       intro V3 hwB
       have H3 : Hid (GV a c l w W0 V p3 ok3 [.slice sa1 x1.length sc1, .slice sa2 x2.length sc2, .slice sa3 x3.length sc3, .int .i64 0, .int .u64 0, .int .i64 0, .int .i64 0, .int .i64 0] _ V3) := A3.out.set (by simp) hwB
       clear hwB A3)
    | fail)
  go_wp2_with (first | ((first | with_reducible refine gate_ld ?_ | with_reducible refine gate_ldw ?_); refine list_loadAgg H3.out.rdr rfl _ rfl rfl ?_) | fail)
  refine (gotI a c l p3 ok3 V3 H3.out.k.call_src H3.out.k.le).mono ?_
  rintro e W4 ⟨p4, ok4, x4, rfl, hx, hwent, hb⟩
  have HW4 := Lib.hid hwent
  have HX4 := Lib.hid hx
  have G4 := Lib.hid (H3.out.new hb)
  clear hwent hb hx H3
  go_upto_region 6 with (first
    | ((first | with_reducible refine gate_st ?_ | with_reducible refine gate_stw ?_); refine list_storeAgg rfl _ _ rfl w.heap.size 0 rfl (rdV a l.length c p4 ok4) rfl (by rw [sz_rd]; rfl) (all_one rfl) (G4.out.k.x.thereMid 0 3 (by simp [rdV])) ?_
       intro wA hwA
       have A4 := Lib.hid (G4.out.put HW4.out.le hwA)
       clear hwA G4)
    | ((first | with_reducible refine gate_st ?_ | with_reducible refine gate_stw ?_); refine list_storeV rfl _ _ rfl V 3 rfl (.int .i64 x4) rfl [.int .i64 x4] rfl (by kernel_rfl) (all_one rfl) (A4.out.v.thereMid 3 1 (by simp)) ?_
       intro V4 hwB
       have H4 : Hid (GV a c l w W0 V p4 ok4 [.slice sa1 x1.length sc1, .slice sa2 x2.length sc2, .slice sa3 x3.length sc3, .int .i64 x4, .int .u64 0, .int .i64 0, .int .i64 0, .int .i64 0] _ V4) := A4.out.set (by simp) hwB
       clear hwB A4)
    | fail)
  go_wp2_with (first | ((first | with_reducible refine gate_ld ?_ | with_reducible refine gate_ldw ?_); refine list_loadAgg H4.out.rdr rfl _ rfl rfl ?_) | fail)
  refine (gotN a c l p4 ok4 V4 H4.out.k.call_src H4.out.k.le 8 (by omega)).mono ?_
  rintro e W5 ⟨p5, ok5, x5, rfl, hx, hwent, hb⟩
  have HW5 := Lib.hid hwent
  have HX5 := Lib.hid hx
  have G5 := Lib.hid (H4.out.new hb)
  clear hwent hb hx H4
  go_upto_region 7 with (first
    | ((first | with_reducible refine gate_st ?_ | with_reducible refine gate_stw ?_); refine list_storeAgg rfl _ _ rfl w.heap.size 0 rfl (rdV a l.length c p5 ok5) rfl (by rw [sz_rd]; rfl) (all_one rfl) (G5.out.k.x.thereMid 0 3 (by simp [rdV])) ?_
       intro wA hwA
       have A5 := Lib.hid (G5.out.put HW5.out.le hwA)
       clear hwA G5)
    | ((first | with_reducible refine gate_st ?_ | with_reducible refine gate_stw ?_); refine list_storeV rfl _ _ rfl V 4 rfl (.int .u64 (x5 : Nat)) rfl [.int .u64 (x5 : Nat)] rfl (by kernel_rfl) (all_one rfl) (A5.out.v.thereMid 4 1 (by simp)) ?_
       intro V5 hwB
       have H5 : Hid (GV a c l w W0 V p5 ok5 [.slice sa1 x1.length sc1, .slice sa2 x2.length sc2, .slice sa3 x3.length sc3, .int .i64 x4, .int .u64 (x5 : Nat), .int .i64 0, .int .i64 0, .int .i64 0] _ V5) := A5.out.set (by simp) hwB
       clear hwB A5)
    | fail)
  go_wp2_with (first | ((first | with_reducible refine gate_ld ?_ | with_reducible refine gate_ldw ?_); refine list_loadAgg H5.out.rdr rfl _ rfl rfl ?_) | fail)
  refine (gotI a c l p5 ok5 V5 H5.out.k.call_src H5.out.k.le).mono ?_
  rintro e W6 ⟨p6, ok6, x6, rfl, hx, hwent, hb⟩
  have HW6 := Lib.hid hwent
  have HX6 := Lib.hid hx
  have G6 := Lib.hid (H5.out.new hb)
  clear hwent hb hx H5
  go_upto_region 8 with (first
    | ((first | with_reducible refine gate_st ?_ | with_reducible refine gate_stw ?_); refine list_storeAgg rfl _ _ rfl w.heap.size 0 rfl (rdV a l.length c p6 ok6) rfl (by rw [sz_rd]; rfl) (all_one rfl) (G6.out.k.x.thereMid 0 3 (by simp [rdV])) ?_
       intro wA hwA
       have A6 := Lib.hid (G6.out.put HW6.out.le hwA)
       clear hwA G6)
    | ((first | with_reducible refine gate_st ?_ | with_reducible refine gate_stw ?_); refine list_storeV rfl _ _ rfl V 5 rfl (.int .i64 x6) rfl [.int .i64 x6] rfl (by kernel_rfl) (all_one rfl) (A6.out.v.thereMid 5 1 (by simp)) ?_
       intro V6 hwB
       have H6 : Hid (GV a c l w W0 V p6 ok6 [.slice sa1 x1.length sc1, .slice sa2 x2.length sc2, .slice sa3 x3.length sc3, .int .i64 x4, .int .u64 (x5 : Nat), .int .i64 x6, .int .i64 0, .int .i64 0] _ V6) := A6.out.set (by simp) hwB
       clear hwB A6)
    | fail)
  go_wp2_with (first | ((first | with_reducible refine gate_ld ?_ | with_reducible refine gate_ldw ?_); refine list_loadAgg H6.out.rdr rfl _ rfl rfl ?_) | fail)
  refine (gotI a c l p6 ok6 V6 H6.out.k.call_src H6.out.k.le).mono ?_
  rintro e W7 ⟨p7, ok7, x7, rfl, hx, hwent, hb⟩
  have HW7 := Lib.hid hwent
  have HX7 := Lib.hid hx
  have G7 := Lib.hid (H6.out.new hb)
  clear hwent hb hx H6
  go_upto_region 9 with (first
    | ((first | with_reducible refine gate_st ?_ | with_reducible refine gate_stw ?_); refine list_storeAgg rfl _ _ rfl w.heap.size 0 rfl (rdV a l.length c p7 ok7) rfl (by rw [sz_rd]; rfl) (all_one rfl) (G7.out.k.x.thereMid 0 3 (by simp [rdV])) ?_
       intro wA hwA
       have A7 := Lib.hid (G7.out.put HW7.out.le hwA)
       clear hwA G7)
    | ((first | with_reducible refine gate_st ?_ | with_reducible refine gate_stw ?_); refine list_storeV rfl _ _ rfl V 6 rfl (.int .i64 x7) rfl [.int .i64 x7] rfl (by kernel_rfl) (all_one rfl) (A7.out.v.thereMid 6 1 (by simp)) ?_
       intro V7 hwB
       have H7 : Hid (GV a c l w W0 V p7 ok7 [.slice sa1 x1.length sc1, .slice sa2 x2.length sc2, .slice sa3 x3.length sc3, .int .i64 x4, .int .u64 (x5 : Nat), .int .i64 x6, .int .i64 x7, .int .i64 0] _ V7) := A7.out.set (by simp) hwB
       clear hwB A7)
    | fail)
  go_wp2_with (first | ((first | with_reducible refine gate_ld ?_ | with_reducible refine gate_ldw ?_); refine list_loadAgg H7.out.rdr rfl _ rfl rfl ?_) | fail)
  refine (gotI a c l p7 ok7 V7 H7.out.k.call_src H7.out.k.le).mono ?_
  rintro e W8 ⟨p8, ok8, x8, rfl, hx, hwent, hb⟩
  have HW8 := Lib.hid hwent
  have HX8 := Lib.hid hx
  have G8 := Lib.hid (H7.out.new hb)
  clear hwent hb hx H7
  go_upto_region 10 with (first
    | ((first | with_reducible refine gate_st ?_ | with_reducible refine gate_stw ?_); refine list_storeAgg rfl _ _ rfl w.heap.size 0 rfl (rdV a l.length c p8 ok8) rfl (by rw [sz_rd]; rfl) (all_one rfl) (G8.out.k.x.thereMid 0 3 (by simp [rdV])) ?_
       intro wA hwA
       have A8 := Lib.hid (G8.out.put HW8.out.le hwA)
       clear hwA G8)
    | ((first | with_reducible refine gate_st ?_ | with_reducible refine gate_stw ?_); refine list_storeV rfl _ _ rfl V 7 rfl (.int .i64 x8) rfl [.int .i64 x8] rfl (by kernel_rfl) (all_one rfl) (A8.out.v.thereMid 7 1 (by simp)) ?_
       intro V8 hwB
       have H8 : Hid (GV a c l w W0 V p8 ok8 [.slice sa1 x1.length sc1, .slice sa2 x2.length sc2, .slice sa3 x3.length sc3, .int .i64 x4, .int .u64 (x5 : Nat), .int .i64 x6, .int .i64 x7, .int .i64 x8] _ V8) := A8.out.set (by simp) hwB
       clear hwB A8)
    | fail)
  obtain ⟨hd, ht1, hs1, hs2, ht2⟩ := H8.out.last R1.out R2.out rfl rfl
  have HD := Lib.hid hd
  have HT1 := Lib.hid ht1
  have HT2 := Lib.hid ht2
  have HS := Lib.hid (And.intro hs1 hs2)
  clear hd ht1 hs1 hs2 ht2
  refine wp_region_seqL (by kernel_rfl) (fun w' => PAt w' w.heap.size (rdV a l.length c p8 ok8) ∧ PAt w' V [.slice sa1 x1.length sc1, .slice sa2 x2.length sc2, .slice sa3 x3.length sc3, .int .i64 x4, .int .u64 (x5 : Nat), .int .i64 x6, .int .i64 x7, .int .i64 x8]) 3 [(0, 1), (1, 1), (2, 2), (3, 2)] (by kernel_rfl) ⟨HD.out.k.x, HD.out.v⟩ ?_
  refine sl_load (d := some 59) rfl rfl rfl _ _ rfl ⟨w.heap.size, 0, none⟩ rfl (.agg (rdV a l.length c p8 ok8).toArray) (fun w1 hw => rd_load w1 _ _ rfl hw.1.1.range) ?_
  simp only [Act.put, List.setIfInBounds_toArray, List.set_cons_zero, List.set_cons_succ]
  refine sl_load (d := some 60) rfl rfl rfl _ _ rfl ⟨V, 0, none⟩ rfl (.agg ([.slice sa1 x1.length sc1, .slice sa2 x2.length sc2, .slice sa3 x3.length sc3, .int .i64 x4, .int .u64 (x5 : Nat), .int .i64 x6, .int .i64 x7, .int .i64 x8] : List Value).toArray) (fun w1 hw => hw.2.1.loadVar rowT_ana) ?_
  simp only [Act.put, List.setIfInBounds_toArray, List.set_cons_zero, List.set_cons_succ]
  refine sl_skip (d := none) rfl rfl rfl _ (store_runV _ _ rfl (w.heap.size + 1) 0 rfl (.agg (rdV a l.length c p8 ok8).toArray) rfl (rdV a l.length c p8 ok8) rfl (by rw [sz_rd]; rfl) (all_one rfl) HT1.out) (fun _ => HS.out) ?_
  simp only [Act.put, List.setIfInBounds_toArray, List.set_cons_zero, List.set_cons_succ]
  refine sl_skip (d := none) rfl rfl rfl _ (store_runV _ _ rfl (w.heap.size + 2) 0 rfl (.agg ([.slice sa1 x1.length sc1, .slice sa2 x2.length sc2, .slice sa3 x3.length sc3, .int .i64 x4, .int .u64 (x5 : Nat), .int .i64 x6, .int .i64 x7, .int .i64 x8] : List Value).toArray) rfl [.slice sa1 x1.length sc1, .slice sa2 x2.length sc2, .slice sa3 x3.length sc3, .int .i64 x4, .int .u64 (x5 : Nat), .int .i64 x6, .int .i64 x7, .int .i64 x8] rfl (by kernel_rfl) (all_one rfl) HT2.out) (fun h => by cases h) ?_
  simp only [Act.put, List.setIfInBounds_toArray, List.set_cons_zero, List.set_cons_succ]
  refine sl_end ?_
  go_wp2_with fail
  obtain ⟨e1, e2, hd, hb⟩ := HD.out.fin R1.out R2.out rfl rfl rfl rfl
  refine ret_rows rfl _ _ _ _ e1.1 e2.1 rowT_rd rowT_ana rfl rfl rfl ?_
  have hz : w.heap.size ≤ V + 1 := by have := HZ.out; omega
  exact ⟨p8, ok8, _, ⟨x1, x2, x3, x4, x5, x6, x7, x8⟩, rfl, ⟨_, _, _, rfl, hd.1.1.2.up intE_ok hz, hd.1.2.up intE_ok hz, hd.2.up intE_ok hz, HX4.out, HX5.out, HX6.out, HX7.out, HX8.out⟩, (HW1.out).bind ((HW2.out).bind ((HW3.out).bind ((HW4.out).bind ((HW5.out).bind ((HW6.out).bind ((HW7.out).bind ((HW8.out).bind (Went.ret HW8.out.le _)))))))), hb⟩
end Go.Proofs.YtpknalpdcfjffaaGreat
