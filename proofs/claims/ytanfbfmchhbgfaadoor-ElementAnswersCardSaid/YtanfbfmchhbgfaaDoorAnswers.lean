/- ElementAnswers answers true at every input. No conditions. -/
import Derived.Test.YtanfbfmchhbgfaaDoorBent
import Derived.Test.YtanfbfmchhbgfaaDoorAwake
namespace Go.Proofs.YtanfbfmchhbgfaaDoor
open Go Go.RowKit

theorem Own.nilcap {w : World} {base : Nat} {v : Value} {rs : List (Int × Int)} (h : Own w base v rs) : ∀ len cap, v = .slice none len cap → cap = 0 := by
  intro len cap e
  obtain ⟨_, h2⟩ := h
  rcases h2 with ⟨e', _⟩ | ⟨g, c, cur, e', _⟩
  · rw [e] at e'; injection e'
  · rw [e] at e'; injection e' with e1; cases e1
theorem ints_single (w : World) {H : Nat} (hH : w.heap.size = H) (c : Int) : IntsR (w.alloc (.cells #[.int .i64 c] 3)) (.slice (some ⟨H, 0, none⟩) 1 1) [c] := by
  subst hH
  refine ⟨_, 1, 1, rfl, rfl, by omega, (fun h => by cases h), fun i hi => ⟨w.heap.size, 0, rfl, ?_⟩⟩
  obtain rfl : i = 0 := by omega
  simp

/-- What stands between two rounds of the law's loops. -/
structure Inv (w1 : World) (b : Nat) (v : Value) (rs : List (Int × Int)) (q : Nat) (c1 c2 : Int) (wr : World) : Prop where
  st : St w1 b b wr
  own : Own wr w1.heap.size v rs
  q0 : wr.cell? ⟨q, 0, none⟩ = some (.int .i64 c1)
  q1 : wr.cell? ⟨q, 1, none⟩ = some (.int .i64 c2)
theorem Inv.below {w1 : World} {b : Nat} {v : Value} {rs : List (Int × Int)} {q : Nat} {c1 c2 : Int} {wr w' : World} (h : Inv w1 b v rs q c1 c2 wr) (hb : Below wr.heap.size wr w') : Inv w1 b v rs q c1 c2 w' :=
  ⟨h.st.below hb, h.own.below hb, cell_then hb h.q0, cell_then hb h.q1⟩
theorem Inv.alloc {w1 : World} {b : Nat} {v : Value} {rs : List (Int × Int)} {q : Nat} {c1 c2 : Int} {wr : World} (h : Inv w1 b v rs q c1 c2 wr) (o : Obj) : Inv w1 b v rs q c1 c2 (wr.alloc o) := h.below ((Below.refl _ _).alloc (Nat.le_refl _) o)
theorem Inv.but {w1 : World} {b : Nat} {v : Value} {rs : List (Int × Int)} {q : Nat} {c1 c2 : Int} {wr w' : World} (h : Inv w1 b v rs q c1 c2 wr) (hs : St wr b b w') (hb : b < w1.heap.size) (hq : q ≠ b) : Inv w1 b v rs q c1 c2 w' :=
  ⟨h.st.then _ hs.1.choose_spec hs.2, h.own.but hs.2 hb, but_cell hs.2 hq h.q0, but_cell hs.2 hq h.q1⟩

/-- Three lists of at most sixty readings. -/
def In3 (q : Nat) (wr : World) : Prop := ∀ i, i < 3 → ∃ u r, wr.cell? ⟨q, i, none⟩ = some u ∧ RdsAt wr u r ∧ r.length ≤ 60
theorem In3.below {q : Nat} {wr w' : World} (h : In3 q wr) (hb : Below wr.heap.size wr w') : In3 q w' := by
  intro i hi
  obtain ⟨u, r, h1, h2, h3⟩ := h i hi
  exact ⟨u, r, cell_then hb h1, h2.below hb, h3⟩

set_option maxRecDepth 100000 in
set_option maxHeartbeats 8000000 in
theorem answers_short (rv lv cv : Value) (rr : List (Int × Int)) (zl cs : List Int) (code : Int) (S : ByteArray) (w : World) (hG : Glo w) (hr : RdsAt w rv rr) (hrn : rr.length ≤ 60) (hl : IntsAt w w.heap.size lv zl)
    (hc : IntsR w cv cs) (hcn : cs.length ≤ 60) (hS : S.size ≤ 60) :
    Calls Tryd.prog 6 #[rv, lv, cv, .int .i64 code, .string S] w fun e w' => e = .returned (.bool true) ∧ Below w.heap.size w w' := by
  have hs0 := hG.size
  have Hnew := Lib.hid (new_ok lv zl w hl)
  have HG := Lib.hid hG
  have Hr := Lib.hid hr
  have Hc := Lib.hid hc
  obtain ⟨ra, rlen, rcap, rfl, hrl, _⟩ := hr
  obtain ⟨ca, clen, ccap, rfl, hcl, _⟩ := hc
  have hrlen : rlen ≤ 60 := by omega
  have hclen : clen ≤ 60 := by omega
  have Hrn := Lib.hid hrn
  have Hcn := Lib.hid hcn
  clear hG hl hrl hcl hrn hcn
  go_enter Tryd.func6, Tryd.ntmps6
  go_wp2_with fail
  refine Hnew.out.mono ?_
  rintro r w1 ⟨rfl, hsrc, hb1, hz1⟩
  have hz1 : w.heap.size + 1 ≤ w1.heap.size := by omega
  have Hsrc := Lib.hid hsrc
  have HB := Lib.hid (fun wr (h : St w1 w.heap.size w.heap.size wr) => hb1.trans ((h.2.mono (by omega : w.heap.size ≤ w1.heap.size)).below (Nat.le_refl _)))
  clear hsrc Hnew hb1
  go_wp2_with fail
  refine (list_ok w.heap.size w.heap.size w1 Hsrc.out).mono ?_
  rintro r w2 ⟨v, rs, rfl, hown, _, hrl, hst⟩
  obtain ⟨va, vl, vc, rfl⟩ : ∃ a l c, v = .slice a l c := by obtain ⟨a, c, e⟩ := hown.form0; exact ⟨a, _, c, e⟩
  have Hown2 := Lib.hid hown
  have Hst2 := Lib.hid hst
  have Hrl := Lib.hid hrl
  have Hnc := Lib.hid hown.nilcap
  clear hown hst hrl
  go_wp2_with fail
  refine (range_ok w.heap.size w.heap.size (-1) 13 w2 Hst2.out.1 (by omega) (by omega) (by omega)).mono ?_
  rintro r w3 ⟨c2, hc1, hc2, rfl, hs3⟩
  have hz3 : w.heap.size < w3.heap.size := hs3.lt
  have HI3 : Hid (Inv w1 w.heap.size (.slice va vl vc) rs w3.heap.size code c2 (w3.alloc (.cells #[.int .i64 code, .int .i64 c2] 3))) :=
    ⟨(Hst2.out.then _ hs3.1.choose_spec hs3.2).alloc _, (Hown2.out.but hs3.2 (by omega)).alloc _, by simp, by simp⟩
  have hqb : w3.heap.size ≠ w.heap.size := by omega
  clear hs3 Hst2 Hown2
  go_wp2_with fail
  generalize w3.alloc (.cells #[.int .i64 code, .int .i64 c2] 3) = w4 at *
  generalize w3.heap.size = q at *
  have Hqb := Lib.hid hqb
  clear hqb
  go_loopw [54] (fun x wr => ∃ k : Nat, k ≤ 2 ∧ x = .int .i64 k ∧ Hid (Inv w1 w.heap.size (.slice va vl vc) rs q code c2 wr)) (fun x _ => (2 - intOf x).toNat)
  case atStart => exact ⟨0, by omega, rfl, HI3⟩
  case round =>
    obtain ⟨k, hk, rfl, hI⟩ := hrel
    by_cases hlt : k < 2
    · obtain ⟨c, hq⟩ : ∃ c : Int, Hid (wr.cell? ⟨q, k, none⟩ = some (.int .i64 c)) := by
        have : k = 0 ∨ k = 1 := by omega
        rcases this with rfl | rfl
        · exact ⟨_, hI.out.q0⟩
        · exact ⟨_, hI.out.q1⟩
      have hq' := hq.out
      have HGr := Lib.hid (HG.out.below (HB.out _ hI.out.st) hs0)
      have Hd := Lib.hid (fun w1 (h : Glo w1) => desc_any c w1 h.bnds)
      have Hrd := Lib.hid (fun w1 => rdesc_any c w1)
      have hi1 : Hid (infoOf c = infoV (letter c) (least c) (most c) (digits c)) := rfl
      generalize letter c = L at *
      generalize least c = lo at *
      generalize most c = hi at *
      generalize digits c = dg at *
      generalize hde : descE c = de at *
      have Hde := Lib.hid hde
      clear hde
      go_wp2_with fail
      refine (Hd.out _ HGr.out).mono ?_
      rintro r w5 ⟨rfl, hb⟩
      rw [hi1.out, Hde.out]
      unfold infoV
      have hI5 := Lib.hid ((hI.out.below hb).alloc (.cells #[.string L, .int .i64 lo, .int .i64 hi, .int .i64 dg] 39))
      clear hb
      go_wp2_with fail
      refine (Hrd.out _).mono ?_
      rintro r w6 ⟨rfl, hb⟩
      rw [hi1.out, Hde.out]
      unfold infoV
      have hI6 := Lib.hid ((hI5.out.below hb).alloc (.cells #[.string L, .int .i64 lo, .int .i64 hi, .int .i64 dg] 39))
      have x0 : w6.cell? ⟨w5.heap.size, 0, none⟩ = some (.string L) := cell_then hb (by simp)
      have x1 : w6.cell? ⟨w5.heap.size, 1, none⟩ = some (.int .i64 lo) := cell_then hb (by simp)
      have x2 : w6.cell? ⟨w5.heap.size, 2, none⟩ = some (.int .i64 hi) := cell_then hb (by simp)
      have x3 : w6.cell? ⟨w5.heap.size, 3, none⟩ = some (.int .i64 dg) := cell_then hb (by simp)
      have hz6 : w5.heap.size < w6.heap.size := World.block_lt_of_cell? (a := ⟨w5.heap.size, 0, none⟩) _ x0
      clear hb
      have HB7 := Lib.hid (bent_ok w.heap.size w.heap.size (.slice va vl vc) rs _ hI6.out.st.1 (hI6.out.own.rds (by have := Hrl.out; omega)) Hnc.out Hrl.out)
      go_wp2_with fail
      clear x0 x1 x2 x3
      refine HB7.out.mono ?_
      rintro r w7 ⟨bv, brs, rfl, hbo, hbl, hst⟩
      have hI7 := Lib.hid (hI6.out.but hst (by omega) Hqb.out)
      obtain ⟨ba, bl, bc, rfl⟩ : ∃ a l c, bv = .slice a l c := by obtain ⟨a, c, e⟩ := hbo.form0; exact ⟨a, _, c, e⟩
      have Hbr := Lib.hid (hbo.rds (by omega))
      have HB0 := Lib.hid (HB.out _ hI7.out.st)
      have HN3 : Hid (In3 w7.heap.size (w7.alloc (.cells #[.slice ra rlen rcap, .slice va vl vc, .slice ba bl bc] 45))) := by
        have hb : Below w7.heap.size w7 (w7.alloc (.cells #[.slice ra rlen rcap, .slice va vl vc, .slice ba bl bc] 45)) := (Below.refl _ _).alloc (Nat.le_refl _) _
        intro i hi
        have : i = 0 ∨ i = 1 ∨ i = 2 := by omega
        rcases this with rfl | rfl | rfl
        · exact ⟨_, rr, by simp, (Hr.out.below HB0.out).below hb, by have := Hrn.out; omega⟩
        · exact ⟨_, rs, by simp, (hI7.out.own.rds (by have := Hrl.out; omega)).below hb, by have := Hrl.out; omega⟩
        · exact ⟨_, brs, by simp, Hbr.out.below hb, by omega⟩
      have hI8 := Lib.hid (hI7.out.alloc (.cells #[.slice ra rlen rcap, .slice va vl vc, .slice ba bl bc] 45))
      clear hst hbo hbl HB7
      go_wp2_with fail
      generalize w7.alloc (.cells #[.slice ra rlen rcap, .slice va vl vc, .slice ba bl bc] 45) = w8 at *
      generalize w7.heap.size = q3 at *
      obtain ⟨wout, rfl⟩ : ∃ wout : World, wout = wr := ⟨_, rfl⟩
      go_loopw [83] (fun x wz => ∃ j : Nat, j ≤ 3 ∧ x = .int .i64 j ∧ Hid (Inv w1 w.heap.size (.slice va vl vc) rs q code c2 wz) ∧ Hid (In3 q3 wz)) (fun x _ => (3 - intOf x).toNat)
      case atStart => exact ⟨0, by omega, rfl, hI8, HN3⟩
      case round =>
        obtain ⟨j, hj, rfl, hIz, h3z⟩ := hrel
        by_cases hlj : j < 3
        · obtain ⟨u, r, hu, hur, hrl⟩ := h3z.out j hlj
          have HGz := Lib.hid (HG.out.below (HB.out _ hIz.out.st) hs0)
          have HCz := Lib.hid (Hc.out.below (HB.out _ hIz.out.st))
          have Hrl60 := Lib.hid hrl
          have R0 := Lib.hid hur
          have F1 := Lib.hid (fun w' (h : RdsAt w' u r) => find_any u r c w' h)
          have F2 := Lib.hid (fun w' (h : RdsAt w' u r) => rfind_any u r c w' h)
          have V1 := Lib.hid (fun w' (h : RdsAt w' u r) (g : Glo w') => validate_any u r w' g h)
          have V2 := Lib.hid (fun w' (h : RdsAt w' u r) => rvalidate_any u r w' h)
          generalize fv r c = vf at *
          generalize fo r c = of at *
          generalize valE r = ve at *
          clear hur hrl
          go_wp2_with fail
          refine (F1.out _ R0.out).mono ?_
          rintro e w10 ⟨rfl, hb⟩
          have R10 := Lib.hid (R0.out.below hb)
          have G10 := Lib.hid (HGz.out.below hb HGz.out.size)
          have C10 := Lib.hid (HCz.out.below hb)
          have B10 := hb
          clear hb
          go_wp2_with fail
          refine (F2.out _ R10.out).mono ?_
          rintro e w11 ⟨rfl, rfl⟩
          go_wp2_with fail
          refine (V1.out _ R10.out G10.out).mono ?_
          rintro e w12 ⟨rfl, hb⟩
          have R12 := Lib.hid (R10.out.below hb)
          have C12 := Lib.hid (C10.out.below hb)
          have B12 := below_then B10 hb
          clear hb B10
          go_wp2_with fail
          refine (V2.out _ R12.out).mono ?_
          rintro e w13 ⟨rfl, hb⟩
          have R13 := Lib.hid (R12.out.below hb)
          have C13 := Lib.hid (C12.out.below hb)
          have B13 := below_then B12 hb
          clear hb B12
          go_wp2_with fail
          refine (without_any u r _ cs _ R13.out (by have := Hrl60.out; omega) C13.out).mono ?_
          rintro e w14 ⟨y1, rfl, o1, hb⟩
          have R14 := Lib.hid (R13.out.below hb)
          have C14 := Lib.hid (C13.out.below hb)
          have Hwl : Hid ((wo cs r).length ≤ 60) := by
            unfold Hid wo
            have := List.length_filter_le (fun x : Int × Int => !cs.contains x.1) r
            have := Hrl60.out
            omega
          have O14 := Lib.hid (o1.rds (by have := Hwl.out; omega))
          have B14 := below_then B13 hb
          clear hb B13 o1
          go_wp2_with fail
          refine (rwithout_any u r _ cs _ R14.out (by have := Hrl60.out; omega) C14.out).mono ?_
          rintro e w15 ⟨y2, rfl, o2, hb⟩
          have R15 := Lib.hid (R14.out.below hb)
          have P15 := Lib.hid (O14.out.below hb)
          have O15 := Lib.hid (o2.rds (by have := Hwl.out; omega))
          have B15 := below_then B14 hb
          clear hb B14 o2
          go_wp2_with fail
          refine (rsame_eq y1 y2 _ _ P15.out O15.out).mono ?_
          rintro e w16 ⟨rfl, hb⟩
          have R16 := Lib.hid (R15.out.below hb)
          have B16 := below_then B15 hb
          have hsz16 := B16.size
          clear hb B15
          have R17 := Lib.hid (R16.out.alloc (.cells #[.int .i64 c] 3))
          have C17 := Lib.hid (ints_single w16 rfl c)
          have B17 := B16.alloc hsz16 (.cells #[.int .i64 c] 3)
          have Hwl1 : Hid ((wo [c] r).length ≤ 60) := by
            unfold Hid wo
            have := List.length_filter_le (fun x : Int × Int => ![c].contains x.1) r
            have := Hrl60.out
            omega
          go_wp2_with fail
          refine (without_any u r _ [c] _ R17.out (by have := Hrl60.out; omega) C17.out).mono ?_
          rintro e w18 ⟨y3, rfl, o3, hb⟩
          have R18 := Lib.hid (R17.out.below hb)
          have O18 := Lib.hid (o3.rds (by have := Hwl1.out; omega))
          have B18 := below_then B17 hb
          have hsz18 := B18.size
          clear hb B17 o3 B16
          have R19 := Lib.hid (R18.out.alloc (.cells #[.int .i64 c] 3))
          have O19 := Lib.hid (O18.out.alloc (.cells #[.int .i64 c] 3))
          have C19 := Lib.hid (ints_single w18 rfl c)
          have B19 := B18.alloc hsz18 (.cells #[.int .i64 c] 3)
          go_wp2_with fail
          refine (rwithout_any u r _ [c] _ R19.out (by have := Hrl60.out; omega) C19.out).mono ?_
          rintro e w20 ⟨y4, rfl, o4, hb⟩
          have P20 := Lib.hid (O19.out.below hb)
          have O20 := Lib.hid (o4.rds (by have := Hwl1.out; omega))
          have B20 := below_then B19 hb
          clear hb B19 B18 o4
          go_wp2_with fail
          refine (rsame_eq y3 y4 _ _ P20.out O20.out).mono ?_
          rintro e w21 ⟨rfl, hb⟩
          have B21 := Lib.hid (below_then B20 hb)
          clear hb B20
          go_wp2_with fail
          go_roundw
          case rel => exact ⟨j + 1, by omega, by go_num, hIz.out.below B21.out, h3z.out.below B21.out⟩
          case measure => simp [intOf]; omega
        · obtain rfl : j = 3 := by omega
          go_wp2_with fail
          go_roundw
          case rel => exact ⟨k + 1, by omega, by go_num, hIz⟩
          case measure => simp [intOf]; omega
    · obtain rfl : k = 2 := by omega
      go_wp2_with fail
      have hel : ∀ i, i < ([⟨#[80]⟩, ⟨#[75]⟩, ⟨#[90]⟩, ⟨#[]⟩, ⟨#[80, 84]⟩, ⟨#[112]⟩] : List ByteArray).length → (wr.alloc (.cells #[.string ⟨#[80]⟩, .string ⟨#[75]⟩, .string ⟨#[90]⟩, .string ⟨#[]⟩, .string ⟨#[80, 84]⟩, .string ⟨#[112]⟩] 9)).cell? ⟨wr.heap.size, i, none⟩ = some (.string (([⟨#[80]⟩, ⟨#[75]⟩, ⟨#[90]⟩, ⟨#[]⟩, ⟨#[80, 84]⟩, ⟨#[112]⟩] : List ByteArray).getD i ⟨#[]⟩)) := by
        intro i hi
        have : i = 0 ∨ i = 1 ∨ i = 2 ∨ i = 3 ∨ i = 4 ∨ i = 5 := by simp at hi; omega
        rcases this with rfl | rfl | rfl | rfl | rfl | rfl <;> simp
      have hlt2 : w.heap.size < wr.heap.size := hI.out.st.lt
      refine (text_any w.heap.size w.heap.size wr.heap.size [⟨#[80]⟩, ⟨#[75]⟩, ⟨#[90]⟩, ⟨#[]⟩, ⟨#[80, 84]⟩, ⟨#[112]⟩] _ (hI.out.st.alloc _).1 (by omega) (by simp) (by simp) hel).mono ?_
      clear hel
      rintro e w5 ⟨s2, hs2, rfl, hst⟩
      have hs2l : s2.size ≤ 60 := by
        simp only [List.mem_cons, List.not_mem_nil, or_false] at hs2
        rcases hs2 with rfl | rfl | rfl | rfl | rfl | rfl <;> decide
      have HB5 := Lib.hid (HB.out _ ((hI.out.st.alloc _).then _ hst.1.choose_spec hst.2))
      clear hst hs2
      have HB6 := Lib.hid (HB5.out.alloc (by have := HB5.out.size; omega) (.cells #[.string S, .string s2] 9))
      have t0 : (w5.alloc (.cells #[.string S, .string s2] 9)).cell? ⟨w5.heap.size, 0, none⟩ = some (.string S) := by simp
      have t1 : (w5.alloc (.cells #[.string S, .string s2] 9)).cell? ⟨w5.heap.size, 1, none⟩ = some (.string s2) := by simp
      go_wp2_with fail
      generalize w5.alloc (.cells #[.string S, .string s2] 9) = w6 at *
      generalize w5.heap.size = q4 at *
      have T0 := Lib.hid t0
      have T1 := Lib.hid t1
      clear t0 t1
      obtain ⟨wout, rfl⟩ : ∃ wout : World, wout = wr := ⟨_, rfl⟩
      go_loopw [144] (fun x wz => ∃ j : Nat, j ≤ 2 ∧ x = .int .i64 j ∧ Hid (Below w6.heap.size w6 wz)) (fun x _ => (2 - intOf x).toNat)
      case atStart => exact ⟨0, by omega, rfl, Below.refl _ _⟩
      case round =>
        obtain ⟨j, hj, rfl, hBz⟩ := hrel
        have HGz := Lib.hid (HG.out.below (HB6.out.trans (hBz.out.mono HB6.out.size)) hs0)
        by_cases hlj : j < 2
        · obtain ⟨s, hsl, hcell⟩ : ∃ s : ByteArray, s.size ≤ 60 ∧ Hid (wr.cell? ⟨q4, j, none⟩ = some (.string s)) := by
            have : j = 0 ∨ j = 1 := by omega
            rcases this with rfl | rfl
            · exact ⟨S, hS, cell_then hBz.out T0.out⟩
            · exact ⟨s2, hs2l, cell_then hBz.out T1.out⟩
          have hcell' := hcell.out
          have L1 := Lib.hid (byl_any s wr (by omega) HGz.out)
          have L2 := Lib.hid (rbyl_any s wr)
          generalize byL s = bl at *
          generalize byE s = be at *
          go_wp2_with fail
          refine L1.out.mono ?_
          rintro e w7 ⟨rfl, rfl⟩
          go_wp2_with fail
          refine L2.out.mono ?_
          rintro e w8 ⟨rfl, hb⟩
          have hB8 := Lib.hid (below_then hBz.out hb)
          clear hb
          go_wp2_with fail
          go_roundw
          case rel => exact ⟨j + 1, by omega, by go_num, hB8⟩
          case measure => simp [intOf]; omega
        · obtain rfl : j = 2 := by omega
          go_wp2_with fail
          refine (awake_any _ HGz.out).mono ?_
          rintro e w7 ⟨rfl, hb⟩
          go_wp2_with fail
          go_ret
          exact ⟨rfl, below_then (HB6.out.trans (hBz.out.mono HB6.out.size)) hb⟩
end Go.Proofs.YtanfbfmchhbgfaaDoor
