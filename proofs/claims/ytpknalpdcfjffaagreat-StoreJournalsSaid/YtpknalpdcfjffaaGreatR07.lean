/- Part 7 of the proof: laws on memory and what functions of the program return. No conditions but those that each theorem names. -/
import Derived.Test.YtpknalpdcfjffaaGreatR06
set_option linter.unusedVariables false
set_option linter.unusedSimpArgs false
/- The reference's grid of frequency one: how many edges. -/
namespace Go.Proofs.YtpknalpdcfjffaaGreat
open Go Go.RowKit

def OwnEd (w : World) (base : Nat) (v : Value) (n : Nat) : Prop := ∃ cs : List Value, w.ownsRow base 167 2 v n cs
theorem OwnEd.below {w w' : World} {base : Nat} {v : Value} {n : Nat} (h : OwnEd w base v n) (hb : Below w.heap.size w w') : OwnEd w' base v n := by
  obtain ⟨cs, h⟩ := h
  exact ⟨cs, ownsRow_below h hb⟩
theorem OwnEd.slice {w : World} {base : Nat} {v : Value} {n : Nat} (h : OwnEd w base v n) : ∃ a c, v = .slice a n c := by
  obtain ⟨cs, _, h⟩ := h
  rcases h with ⟨e, h0⟩ | ⟨g, cap, cur, e, _⟩
  · exact ⟨none, 0, by rw [e, h0]⟩
  · exact ⟨_, _, e⟩
theorem einfo : (Tryz.prog.info? 167).map (fun i => (i.zero, i.size, i.bytes)) = some (some (.agg #[.int .i64 0, .int .i64 0]), 2, 16) := by kernel_rfl
theorem append_ed {w : World} {base n : Nat} {v : Value} (h : OwnEd w base v n) (x y : Int) (hn : n ≤ 1000000000) (hb : base ≤ w.heap.size) (ty : TypeId) :
    ∃ (v' : Value) (w' : World), (Builtin.append_ #[124, 124] ty #[v, .slice (some ⟨w.heap.size, 0, none⟩) 1 1]).run Tryz.prog (w.alloc (.cells #[.int .i64 x, .int .i64 y] 167)) = .ok v' w' ∧
      OwnEd w' base v' (n + 1) ∧ Below base w w' := by
  obtain ⟨cs, h⟩ := h
  obtain ⟨v', w', h1, h2, h3⟩ := append_new 124 167 Tryz.underlying124 einfo rfl (by decide) h [.int .i64 x, .int .i64 y] 1 rfl (by intro u hu; simp at hu; rcases hu with rfl | rfl <;> rfl) hn (by omega) (by decide) hb ty
  exact ⟨v', w', h1, ⟨_, h2⟩, h3⟩
structure EdS (w3 wr : World) (v : Value) (n : Nat) : Prop where
  own : OwnEd wr w3.heap.size v n
  below : Below w3.heap.size w3 wr
def EdIs (w : World) (e : Ending) (w' : World) : Prop := ∃ (a : Option Addr) (n c : Nat), e = .returned (.tuple #[.slice a n c, .int .i64 0]) ∧ n ≤ 1440 ∧ Below w.heap.size w w'
set_option maxHeartbeats 16000000 in
set_option maxRecDepth 100000 in
theorem edges_any (w : World) : Calls Tryz.prog 48 #[.int .i64 1] w (EdIs w) := by
  go_enter Tryz.func48, Tryz.ntmps48
  go_wp2_with fail
  refine (count_any _).mono ?_
  rintro e w2 ⟨rfl, rfl⟩
  go_wp2_with fail
  refine (around_any _).mono ?_
  rintro e w3 ⟨H, rfl, har, hb3, _⟩
  have HAr := Lib.hid har
  have HB3 := Lib.hid hb3
  clear har hb3
  have HS : Hid (EdS w3 w3 (.slice none 0 0) 0) := ⟨⟨[], World.ownsRow_nil w3 _ _ 2⟩, Below.refl _ _⟩
  go_wp2_with fail
  go_loopw [4, 6] (fun lv kv wr => ∃ (c n : Nat) (ov : Value), ov = lv ∧ kv = .int .i64 c ∧ c ≤ 12 ∧ n ≤ c * 120 ∧ Hid (EdS w3 wr ov n)) (fun _ kv _ => (12 - intOf kv).toNat)
  case atStart => exact ⟨0, 0, _, rfl, rfl, by omega, by omega, HS⟩
  case round =>
    clear HS
    obtain ⟨c, n, ov, rfl, rfl, hc, hn, hs⟩ := hrel
    by_cases hlt : c < 12
    · have c0 : (c : Int) < 12 := by omega
      obtain ⟨_, a, n1, cc, hn1, hcell, hsm⟩ := HAr.out.2 c hlt
      have Hsm := Lib.hid hsm
      have hA := cell_then hs.out.below hcell
      have n10 : (n1 : Int) ≤ 120 := by omega
      clear hcell hsm
      obtain ⟨wout, rfl⟩ : ∃ wout : World, wout = wr := ⟨_, rfl⟩
      go_wp2_with fail
      go_loopw [4, 25] (fun lv kv wr => ∃ (i m : Nat) (ov : Value), ov = lv ∧ kv = .int .i64 i ∧ i ≤ n1 ∧ m ≤ c * 120 + i ∧ Hid (EdS w3 wr ov m)) (fun _ kv _ => (1000 - intOf kv).toNat)
      case atStart => exact ⟨0, n, _, rfl, rfl, by omega, by omega, hs⟩
      case round =>
        clear hs hA
        obtain ⟨i, m, ov, rfl, rfl, hi, hm, hs⟩ := hrel
        by_cases hil : i < n1
        · obtain ⟨ab, ao, z, rfl, z0, z1, hz⟩ := Hsm.out.at i hil
          have hz' := cell_then hs.out.below hz
          have i0 : (i : Int) < (n1 : Int) := by omega
          clear hz
          by_cases hcz : (c : Int) < z
          · have HAp : Hid (∃ (v' : Value) (w' : World), (Builtin.append_ #[124, 124] 124 #[ov, .slice (some ⟨wr.heap.size, 0, none⟩) 1 1]).run Tryz.prog (wr.alloc (.cells #[.int .i64 c, .int .i64 z] 167)) = .ok v' w' ∧ EdS w3 w' v' (m + 1)) := by
              obtain ⟨v', w', a1, a2, a3⟩ := append_ed hs.out.own c z (by omega) hs.out.below.size 124
              exact ⟨v', w', a1, a2, hs.out.below.trans a3⟩
            clear hs
            go_wp2_with (at_builtin; obtain ⟨v', w', hrun, hs'⟩ := HAp.out; have Hrun := Lib.hid hrun; have Hs' := Lib.hid hs'; clear hrun hs'; refine wpList_append_run rfl _ _ _ rfl _ _ _ _ rfl rfl Hrun.out ?_)
            go_roundw
            case rel => exact ⟨i + 1, m + 1, v', rfl, by go_num, by omega, by omega, Hs'⟩
            case measure => simp [intOf]; omega
          · go_wp2_with fail
            go_roundw
            case rel => exact ⟨i + 1, m, ov, rfl, by go_num, by omega, by omega, hs⟩
            case measure => simp [intOf]; omega
        · obtain rfl : i = n1 := by omega
          go_wp2_with fail
          go_roundw
          case rel => exact ⟨c + 1, m, ov, rfl, by go_num, by omega, by omega, hs⟩
          case measure => simp [intOf]; omega
    · obtain rfl : c = 12 := by omega
      obtain ⟨oa, oc, rfl⟩ := hs.out.own.slice
      go_wp2_with fail
      refine bodyPost_ret (v := .tuple #[.slice oa n oc, .int .i64 0]) (by simp [results, Tryz.results48, go_sem]) rfl ?_
      exact ⟨_, _, _, rfl, by omega, below_then HB3.out (hs.out.below)⟩
end Go.Proofs.YtpknalpdcfjffaaGreat
/- The choices of synopticfield: Signed. -/
namespace Go.Proofs.YtpknalpdcfjffaaGreat
open Go Go.RowKit

set_option maxHeartbeats 16000000 in
theorem signed_ok (B b : Nat) (m : Int) (w : World) (h : CodesIs w B b) (h1 : 0 ≤ m) (h2 : m ≤ 1000000000) :
    Calls Tryz.prog 51 #[.pointer (some ⟨b, 0, none⟩), .int .i64 m] w (IntIn (-m) m B b w) := by
  go_enter Tryz.func51, Tryz.ntmps51
  go_wp2_with fail
  refine (next_ok B b 256 w h (by omega) (by omega)).mono ?_
  rintro e w1 ⟨x, x0, x1, rfl, hs1⟩
  have HS1 := Lib.hid hs1
  clear hs1
  go_wp2_with fail
  refine (next_ok B b 256 w1 HS1.out.1 (by omega) (by omega)).mono ?_
  rintro e w2 ⟨y, y0, y1, rfl, hs2⟩
  have HS2 := Lib.hid (HS1.out.then hs2)
  clear hs2 HS1
  go_wp2_with fail
  refine (next_ok B b 256 w2 HS2.out.1 (by omega) (by omega)).mono ?_
  rintro e w3 ⟨z, z0, z1, rfl, hs3⟩
  have HS3 := Lib.hid (HS2.out.then hs3)
  clear hs3 HS2
  go_wp2_with fail
  have hq1 := Int.tmod_lt_of_pos (bits BinOp.or IntKind.i64 (bits BinOp.or IntKind.i64 (x * 65536) (y * 256)) z) (show 0 < m + 1 by omega)
  have hq2 := Int.lt_tmod_of_pos (bits BinOp.or IntKind.i64 (bits BinOp.or IntKind.i64 (x * 65536) (y * 256)) z) (show 0 < m + 1 by omega)
  generalize (bits BinOp.or IntKind.i64 (bits BinOp.or IntKind.i64 (x * 65536) (y * 256)) z).tmod (m + 1) = N at hq1 hq2 ⊢
  have hN : -m ≤ N ∧ N ≤ m := by omega
  obtain ⟨n1, n2⟩ := hN
  clear hq1 hq2
  refine (next_ok B b 2 w3 HS3.out.1 (by omega) (by omega)).mono ?_
  rintro e w4 ⟨s, s0, s1, rfl, hs4⟩
  have HS4 := Lib.hid (HS3.out.then hs4)
  clear hs4 HS3
  by_cases hs : s = 1
  · subst hs
    go_wp2_with fail
    go_ret
    exact ⟨_, by omega, by omega, rfl, HS4.out⟩
  · go_wp2_with fail
    go_ret
    exact ⟨N, n1, n2, rfl, HS4.out⟩
end Go.Proofs.YtpknalpdcfjffaaGreat
/- The choices of synopticfield: Vector. -/
namespace Go.Proofs.YtpknalpdcfjffaaGreat
open Go Go.RowKit

def ics (l : List Int) : List Value := l.map fun x => .int .i64 x
def OwnI (w : World) (base : Nat) (v : Value) (l : List Int) : Prop := w.ownsRow base 3 1 v l.length (ics l)
theorem OwnI.nil (w : World) (base : Nat) : OwnI w base (.slice none 0 0) [] := World.ownsRow_nil w base _ 1
theorem OwnI.below {w w' : World} {base : Nat} {v : Value} {l : List Int} (h : OwnI w base v l) (hb : Below w.heap.size w w') : OwnI w' base v l := ownsRow_below h hb
theorem OwnI.st {w w' : World} {base B b : Nat} {v : Value} {l : List Int} (h : OwnI w base v l) (hs : St w B b w') (hb : b < base) : OwnI w' base v l := ownsRow_but h hs.2 hb
theorem OwnI.mono {w : World} {base B : Nat} {v : Value} {l : List Int} (h : OwnI w base v l) (hB : B ≤ base) : OwnI w B v l := by
  obtain ⟨h1, h2⟩ := h
  refine ⟨h1, ?_⟩
  rcases h2 with h2 | ⟨g, cap, cur, e, hg, r⟩
  · exact Or.inl h2
  · exact Or.inr ⟨g, cap, cur, e, Nat.le_trans hB hg, r⟩
theorem OwnI.slice {w : World} {base : Nat} {v : Value} {l : List Int} (h : OwnI w base v l) : ∃ a c, v = .slice a l.length c := by
  rcases h.2 with ⟨e, h0⟩ | ⟨g, cap, cur, e, _⟩
  · exact ⟨none, 0, by rw [e, h0]⟩
  · exact ⟨_, _, e⟩
theorem iinfo : (Tryz.prog.info? 3).map (fun i => (i.zero, i.size, i.bytes)) = some (some (.int .i64 0), 1, 8) := by kernel_rfl
theorem append_i {w : World} {base : Nat} {v : Value} {l : List Int} (h : OwnI w base v l) (x : Int) (hn : l.length ≤ 1000000000) (hb : base ≤ w.heap.size) (ty : TypeId) :
    ∃ (v' : Value) (w' : World), (Builtin.append_ #[38, 38] ty #[v, .slice (some ⟨w.heap.size, 0, none⟩) 1 1]).run Tryz.prog (w.alloc (.cells #[.int .i64 x] 3)) = .ok v' w' ∧
      OwnI w' base v' (l ++ [x]) ∧ Below base w w' := by
  have h1 := append_new 38 3 Tryz.underlying38 iinfo rfl (by decide) h [.int .i64 x] 1 rfl (by intro u hu; simp at hu; subst hu; rfl) hn (by omega) (by decide) hb ty
  unfold OwnI
  rw [List.length_append]
  have e : ics (l ++ [x]) = ics l ++ [.int .i64 x] := by simp [ics]
  rw [e]; exact h1
/-- n ints within a limit, from o on in block g. -/
def LimAt (w : World) (g n : Nat) (lim : Int) : Prop := ∀ i, i < n → ∃ z : Int, -lim ≤ z ∧ z ≤ lim ∧ w.cell? ⟨g, i, none⟩ = some (.int .i64 z)
theorem LimAt.below {w w' : World} {g n : Nat} {lim : Int} (h : LimAt w g n lim) (hb : Below w.heap.size w w') : LimAt w' g n lim := fun i hi => by
  obtain ⟨z, z0, z1, hz⟩ := h i hi
  exact ⟨z, z0, z1, cell_then hb hz⟩
theorem LimAt.grown {w w' : World} {g n base : Nat} {lim : Int} (h : LimAt w g n lim) (hb : Below base w w') (hg : g < base) : LimAt w' g n lim := fun i hi => by
  obtain ⟨z, z0, z1, hz⟩ := h i hi
  exact ⟨z, z0, z1, by rw [hb.cell (p := ⟨g, i, none⟩) hg]; exact hz⟩
theorem LimAt.st {w w' : World} {g n B b : Nat} {lim : Int} (h : LimAt w g n lim) (hs : St w B b w') (hg : g ≠ b) : LimAt w' g n lim := fun i hi => by
  obtain ⟨z, z0, z1, hz⟩ := h i hi
  exact ⟨z, z0, z1, but_cell hs.2 hg hz⟩
def VecIs (lim : Int) (n B b : Nat) (w : World) (e : Ending) (w' : World) : Prop := ∃ (v : Value) (l : List Int), e = .returned v ∧ l.length = n ∧ (∀ x ∈ l, -lim ≤ x ∧ x ≤ lim) ∧ OwnI w' w.heap.size v l ∧ St w B b w'
structure VcS (w : World) (lim : Int) (B b base LB : Nat) (v : Value) (l : List Int) (wr : World) : Prop where
  own : OwnI wr base v l
  bnd : ∀ x ∈ l, -lim ≤ x ∧ x ≤ lim
  lit : LimAt wr LB 7 lim
  st : St w B b wr
  size : base ≤ wr.heap.size
theorem lits (w : World) (p q r s m lim : Int) (hp : -m ≤ p ∧ p ≤ m) (hq : -m ≤ q ∧ q ≤ m) (hr : -m ≤ r ∧ r ≤ m) (hs : -9 ≤ s ∧ s ≤ 9) (hm : 0 ≤ m ∧ m ≤ lim) (h9 : 9 ≤ lim) :
    LimAt (w.alloc (.cells #[.int .i64 p, .int .i64 q, .int .i64 r, .int .i64 s, .int .i64 0, .int .i64 m, .int .i64 (-m)] 3)) w.heap.size 7 lim := by
  intro i hi
  have hh : ∀ A, (w.alloc (.cells A 3)).heap[w.heap.size]? = some (.cells A 3 (0, 0)) := fun A => heap_alloc_new w _
  simp only [World.cell?, hh]
  have : i = 0 ∨ i = 1 ∨ i = 2 ∨ i = 3 ∨ i = 4 ∨ i = 5 ∨ i = 6 := by omega
  rcases this with rfl | rfl | rfl | rfl | rfl | rfl | rfl
  · exact ⟨p, by omega, by omega, rfl⟩
  · exact ⟨q, by omega, by omega, rfl⟩
  · exact ⟨r, by omega, by omega, rfl⟩
  · exact ⟨s, by omega, by omega, rfl⟩
  · exact ⟨0, by omega, by omega, rfl⟩
  · exact ⟨m, by omega, by omega, rfl⟩
  · exact ⟨-m, by omega, by omega, rfl⟩
set_option maxHeartbeats 16000000 in
set_option maxRecDepth 100000 in
theorem vector_ok (B b n : Nat) (m lim : Int) (w : World) (h : CodesIs w B b) (hn : n ≤ 5000) (h1 : 0 ≤ m ∧ m ≤ lim) (h2 : lim ≤ 1000000000) (h9 : 9 ≤ lim) :
    Calls Tryz.prog 33 #[.pointer (some ⟨b, 0, none⟩), .int .i64 n, .int .i64 m] w (VecIs lim n B b w) := by
  go_enter Tryz.func33, Tryz.ntmps33
  have hbw : Hid (b < w.heap.size) := h.lt
  have m0 : 0 ≤ m := h1.1
  have m1 : m ≤ 1000000000 := by omega
  have H1 := Lib.hid (And.intro h1 h9)
  clear h1 h2 h9
  go_wp2_with fail
  refine (signed_ok B b m w h m0 m1).mono ?_
  rintro e w1 ⟨p, p0, p1, rfl, hs1⟩
  have HS1 := Lib.hid hs1
  clear hs1 h
  go_wp2_with fail
  refine (signed_ok B b m w1 HS1.out.1 m0 m1).mono ?_
  rintro e w2 ⟨q, q0, q1, rfl, hs2⟩
  have HS2 := Lib.hid (HS1.out.then hs2)
  clear hs2 HS1
  go_wp2_with fail
  refine (signed_ok B b m w2 HS2.out.1 m0 m1).mono ?_
  rintro e w3 ⟨r, r0, r1, rfl, hs3⟩
  have HS3 := Lib.hid (HS2.out.then hs3)
  clear hs3 HS2
  go_wp2_with fail
  refine (signed_ok B b 9 w3 HS3.out.1 (by omega) (by omega)).mono ?_
  rintro e w4 ⟨s, s0, s1, rfl, hs4⟩
  have HS4 := Lib.hid (HS3.out.then hs4)
  clear hs4 HS3
  have HL : Hid (LimAt _ w4.heap.size 7 lim) := lits w4 p q r s m lim ⟨p0, p1⟩ ⟨q0, q1⟩ ⟨r0, r1⟩ ⟨s0, s1⟩ ⟨m0, H1.out.1.2⟩ H1.out.2
  have HLb : Hid (w4.heap.size ≠ b) := by have := HS4.out.lt; unfold Hid; omega
  obtain ⟨LB, hLB⟩ : ∃ LB, LB = w4.heap.size := ⟨_, rfl⟩
  obtain ⟨base, hbase⟩ : ∃ base, base = w4.heap.size + 1 := ⟨_, rfl⟩
  have HLB2 : Hid (LB < base ∧ w.heap.size ≤ base ∧ b < base) := by
    have h1 := HS4.out.size
    have h2 := hbw.out
    unfold Hid; omega
  have HSl : Hid (VcS w lim B b base LB (.slice none 0 0) [] (w4.alloc (.cells #[.int .i64 p, .int .i64 q, .int .i64 r, .int .i64 s, .int .i64 0, .int .i64 m, .int .i64 (-m)] 3))) :=
    ⟨OwnI.nil _ _, by simp, by rw [hLB]; exact HL.out, HS4.out.alloc _, by rw [hbase]; simp⟩
  rw [← hLB] at HLb
  have n0 : (n : Int) ≤ 5000 := by omega
  go_wp2_with fail
  try rw [← hLB]
  generalize w4.alloc (.cells #[.int .i64 p, .int .i64 q, .int .i64 r, .int .i64 s, .int .i64 0, .int .i64 m, .int .i64 (-m)] 3) = w5 at HSl ⊢
  clear HL HS4 hLB hbase p0 p1 q0 q1 r0 r1 s0 s1
  go_loopw [8, 9] (fun lv kv wr => ∃ (i : Nat) (ov : Value) (l : List Int), ov = lv ∧ kv = .int .i64 i ∧ i ≤ n ∧ l.length = i ∧ Hid (VcS w lim B b base LB ov l wr)) (fun _ kv _ => (10000 - intOf kv).toNat)
  case atStart => exact ⟨0, _, [], rfl, rfl, by omega, rfl, HSl⟩
  case round =>
    clear HSl
    obtain ⟨i, ov, l, rfl, rfl, hi, hl, hs⟩ := hrel
    by_cases hil : i < n
    · have i0 : (i : Int) < (n : Int) := by omega
      go_wp2_with fail
      refine (next_ok B b 7 wr hs.out.st.1 (by omega) (by omega)).mono ?_
      rintro e w6 ⟨x, x0, x1, rfl, hs6⟩
      obtain ⟨j, rfl⟩ := Int.eq_ofNat_of_zero_le x0
      have HV : Hid (VcS w lim B b base LB ov l w6) := ⟨hs.out.own.st hs6 HLB2.out.2.2, hs.out.bnd, hs.out.lit.st hs6 HLb.out, hs.out.st.then hs6, Nat.le_trans hs.out.size hs6.size⟩
      clear hs hs6
      obtain ⟨z, z0, z1, hz⟩ := HV.out.lit j (by omega)
      have HAp : Hid (∃ (v' : Value) (w' : World), (Builtin.append_ #[38, 38] 38 #[ov, .slice (some ⟨w6.heap.size, 0, none⟩) 1 1]).run Tryz.prog (w6.alloc (.cells #[.int .i64 z] 3)) = .ok v' w' ∧ VcS w lim B b base LB v' (l ++ [z]) w') := by
        obtain ⟨v', w', a1, a2, a3⟩ := append_i HV.out.own z (by omega) HV.out.size 38
        refine ⟨v', w', a1, a2, fun x hx => ?_, HV.out.lit.grown a3 HLB2.out.1, HV.out.st.grown a3 HLB2.out.2.2 HLB2.out.2.1, Nat.le_trans HV.out.size a3.size⟩
        rcases List.mem_append.1 hx with hx | hx
        · exact HV.out.bnd x hx
        · simp at hx; subst hx; exact ⟨z0, z1⟩
      clear HV z0 z1
      go_wp2_with (at_builtin; obtain ⟨v', w', hrun, hs'⟩ := HAp.out; have Hrun := Lib.hid hrun; have Hs' := Lib.hid hs'; clear hrun hs'; refine wpList_append_run rfl _ _ _ rfl _ _ _ _ rfl rfl Hrun.out ?_)
      go_roundw
      case rel => exact ⟨i + 1, v', l ++ [z], rfl, by go_num, by omega, by rw [List.length_append, hl]; rfl, Hs'⟩
      case measure => simp [intOf]; omega
    · obtain rfl : i = n := by omega
      obtain ⟨oa, oc, rfl⟩ := hs.out.own.slice
      go_wp2_with fail
      go_ret
      exact ⟨_, l, rfl, hl, hs.out.bnd, hs.out.own.mono HLB2.out.2.1, hs.out.st⟩
end Go.Proofs.YtpknalpdcfjffaaGreat
/- The choices of synopticfield: State, at frequency one. -/
namespace Go.Proofs.YtpknalpdcfjffaaGreat
open Go Go.RowKit

theorem KeptBut.st {w w' : World} {B b : Nat} (h : St w B b w') : KeptBut b w w' := ⟨h.2.size, fun k hk hn => h.2.block k hk hn⟩
def InR (w : World) (g n : Nat) (lo hi : Int) : Prop := ∀ i, i < n → ∃ z : Int, lo ≤ z ∧ z ≤ hi ∧ w.cell? ⟨g, i, none⟩ = some (.int .i64 z)
theorem InR.kept {w w' : World} {g n b : Nat} {lo hi : Int} (h : InR w g n lo hi) (hk : KeptBut b w w') (hg : g ≠ b) : InR w' g n lo hi := fun i hi => by
  obtain ⟨z, z0, z1, hz⟩ := h i hi
  exact ⟨z, z0, z1, hk.cell hz hg⟩
theorem in4 (w : World) (p q r s hi : Int) (hp : 0 ≤ p ∧ p ≤ hi) (hq : 0 ≤ q ∧ q ≤ hi) (hr : 0 ≤ r ∧ r ≤ hi) (hs : 0 ≤ s ∧ s ≤ hi) : InR (w.alloc (.cells #[.int .i64 p, .int .i64 q, .int .i64 r, .int .i64 s] 3)) w.heap.size 4 0 hi := by
  intro i hi
  have hh : ∀ A, (w.alloc (.cells A 3)).heap[w.heap.size]? = some (.cells A 3 (0, 0)) := fun A => heap_alloc_new w _
  simp only [World.cell?, hh]
  have : i = 0 ∨ i = 1 ∨ i = 2 ∨ i = 3 := by omega
  rcases this with rfl | rfl | rfl | rfl
  · exact ⟨p, hp.1, hp.2, rfl⟩
  · exact ⟨q, hq.1, hq.2, rfl⟩
  · exact ⟨r, hr.1, hr.2, rfl⟩
  · exact ⟨s, hs.1, hs.2, rfl⟩
theorem in3 (w : World) (p q r hi : Int) (hp : 0 ≤ p ∧ p ≤ hi) (hq : 0 ≤ q ∧ q ≤ hi) (hr : 0 ≤ r ∧ r ≤ hi) : InR (w.alloc (.cells #[.int .i64 p, .int .i64 q, .int .i64 r] 3)) w.heap.size 3 0 hi := by
  intro i hi
  have hh : ∀ A, (w.alloc (.cells A 3)).heap[w.heap.size]? = some (.cells A 3 (0, 0)) := fun A => heap_alloc_new w _
  simp only [World.cell?, hh]
  have : i = 0 ∨ i = 1 ∨ i = 2 := by omega
  rcases this with rfl | rfl | rfl
  · exact ⟨p, hp.1, hp.2, rfl⟩
  · exact ⟨q, hq.1, hq.2, rfl⟩
  · exact ⟨r, hr.1, hr.2, rfl⟩
theorem nodes1_any (w : World) : Calls Tryz.prog 49 #[.int .i64 1] w fun e w' => e = .returned (.int .i64 12) ∧ w = w' := by
  go_enter Tryz.func49, Tryz.ntmps49
  go_wp2_with fail
  go_ret
  exact ⟨rfl, rfl⟩
theorem clip_any (x lo hi : Int) (h : lo ≤ hi) (w : World) : Calls Tryz.prog 50 #[.int .i64 x, .int .i64 lo, .int .i64 hi] w fun e w' => ∃ y : Int, lo ≤ y ∧ y ≤ hi ∧ e = .returned (.int .i64 y) ∧ w = w' := by
  go_enter Tryz.func50, Tryz.ntmps50
  go_wp2_with fail
  all_goals go_ret
  all_goals refine ⟨_, ?_, ?_, rfl, rfl⟩
  all_goals first | omega | (rename_i h1 h2; rw [if_neg (by omega)] at h1; omega)
def FS3 (b : Nat) (ix : Nat) (v : Value) (w : World) : Prop := match ix with
  | 0 => ∃ LB : Nat, v = .slice (some ⟨LB, 0, none⟩) 4 4 ∧ LB ≠ b ∧ InR w LB 4 0 2500000
  | 1 => v = .pointer (some ⟨b, 0, none⟩)
  | 2 => ∃ j : Nat, j < 4 ∧ v = .int .i64 j
  | 3 => ∃ (LB o : Nat) (z : Int), v = .pointer (some ⟨LB, o, none⟩) ∧ LB ≠ b ∧ 0 ≤ z ∧ z ≤ 2500000 ∧ w.cell? ⟨LB, o, none⟩ = some (.int .i64 z)
  | 4 => ∃ z : Int, v = .int .i64 z ∧ 0 ≤ z ∧ z ≤ 2500000
  | 5 => ∃ LB : Nat, v = .slice (some ⟨LB, 0, none⟩) 3 3 ∧ LB ≠ b ∧ InR w LB 3 0 90000
  | 6 => v = .pointer (some ⟨b, 0, none⟩)
  | 7 => ∃ j : Nat, j < 3 ∧ v = .int .i64 j
  | 8 => ∃ (LB o : Nat) (z : Int), v = .pointer (some ⟨LB, o, none⟩) ∧ LB ≠ b ∧ 0 ≤ z ∧ z ≤ 90000 ∧ w.cell? ⟨LB, o, none⟩ = some (.int .i64 z)
  | 9 => ∃ z : Int, v = .int .i64 z ∧ 0 ≤ z ∧ z ≤ 90000
  | 10 => ∃ z : Int, v = .int .i64 z ∧ 0 ≤ z ∧ z ≤ 2500000
  | 11 => ∃ z : Int, v = .int .i64 z ∧ 0 ≤ z ∧ z ≤ 90000
  | _ => True
theorem FS3.kept {b : Nat} {w w' : World} (h : KeptBut b w w') (ix : Nat) (v : Value) (hF : FS3 b ix v w) : FS3 b ix v w' := by
  unfold FS3 at hF ⊢
  split at hF
  all_goals first
    | exact hF
    | (obtain ⟨LB, e, hn, hi⟩ := hF; exact ⟨LB, e, hn, hi.kept h hn⟩)
    | (obtain ⟨LB, o, z, e, hn, h0, h1, hc⟩ := hF; exact ⟨LB, o, z, e, hn, h0, h1, h.cell hc hn⟩)
theorem run_lit4 {w : World} (p q r s : Int) : (Instr.buildSlice 38 4 #[(0, .int .i64 p), (1, .int .i64 q), (2, .int .i64 r), (3, .int .i64 s)]).run Tryz.prog w = .ok (.slice (some ⟨w.heap.size, 0, none⟩) 4 4) (w.alloc (.cells #[.int .i64 p, .int .i64 q, .int .i64 r, .int .i64 s] 3)) := by
  simp [Instr.buildSlice, go_sem]
theorem run_lit3 {w : World} (p q r : Int) : (Instr.buildSlice 38 3 #[(0, .int .i64 p), (1, .int .i64 q), (2, .int .i64 r)]).run Tryz.prog w = .ok (.slice (some ⟨w.heap.size, 0, none⟩) 3 3) (w.alloc (.cells #[.int .i64 p, .int .i64 q, .int .i64 r] 3)) := by
  simp [Instr.buildSlice, go_sem]
def StateIs (B b : Nat) (w : World) (e : Ending) (w' : World) : Prop := ∃ (dv fv : Value) (dl fl : List Int), e = .returned (.agg #[.int .i64 1, dv, fv]) ∧ dl.length = 12 ∧ (∀ x ∈ dl, 0 ≤ x ∧ x ≤ 16777216) ∧ fl.length ≤ 1440 ∧ (∀ x ∈ fl, -1000000 ≤ x ∧ x ≤ 1000000) ∧
  OwnI w' w.heap.size dv dl ∧ OwnI w' w.heap.size fv fl ∧ St w B b w'
theorem OwnI.lt {w : World} {base : Nat} {v : Value} {l : List Int} (h : OwnI w base v l) : ∀ g, v.ownBlock = some g → base ≤ g ∧ g < w.heap.size := fun g hg => World.ownsRow.lt h g hg
theorem OwnI.keptBut {w w' : World} {base r : Nat} {v : Value} {l : List Int} (h : OwnI w base v l) (hk : KeptBut r w w') (hr : r < base) : OwnI w' base v l := ownsRow_of_same h (fun k h1 hk' => hk.2 k hk' (by omega))
theorem OwnI.inr {w : World} {base : Nat} {v : Value} {l : List Int} {lo hi : Int} (h : OwnI w base v l) (h0 : 0 < l.length) (hb : ∀ x ∈ l, lo ≤ x ∧ x ≤ hi) : ∃ g cap, v = .slice (some ⟨g, 0, none⟩) l.length cap ∧ base ≤ g ∧ InR w g l.length lo hi := by
  have h' := h
  obtain ⟨h1, h2⟩ := h
  rcases h2 with ⟨e, h0'⟩ | ⟨g, cap, cur, e, hg, hh, hc, _⟩
  · omega
  · refine ⟨g, cap, e, hg, fun i hi => ?_⟩
    have hm := hb _ (List.getElem_mem hi)
    have hj : (ics l)[i]? = some (.int .i64 l[i]) := by simp [ics, hi]
    have := World.ownsRow.cells h' (g := g) (by rw [e]; rfl) _ _ hj
    rw [Go.WideShapes.add_plain, Nat.zero_add] at this
    exact ⟨_, hm.1, hm.2, this⟩
theorem RowAt.kept {w w' : World} {g r : Nat} {cs : List Value} (h : RowAt w g cs) (hk : KeptBut r w w') (hg : g ≠ r) : RowAt w' g cs := h.of_block (hk.2 g h.lt hg)
def FS7 (r7 base L : Nat) (dv : Value) (dl : List Int) (p z : Int) (ix : Nat) (v : Value) (w : World) : Prop := match ix with
  | 0 => v = .pointer (some ⟨r7, 1, none⟩)
  | 1 => v = dv
  | 2 => v = .int .i64 p
  | 3 => v = .int .i64 z
  | 4 => v = .int .i64 (p + z)
  | 5 => ∃ y : Int, v = .int .i64 y ∧ 0 ≤ y ∧ y ≤ 16777216
  | 6 => v = .slice (some ⟨L, 0, none⟩) 1 1
  | 7 => ∃ y : Int, OwnI w base v (dl ++ [y]) ∧ 0 ≤ y ∧ y ≤ 16777216
  | 8 => v = .pointer (some ⟨r7, 1, none⟩)
  | _ => True
theorem FS7.kept {r7 base L : Nat} {dv : Value} {dl : List Int} {p z : Int} {w w' : World} (hr : r7 < base) (h : KeptBut r7 w w') (ix : Nat) (v : Value) (hF : FS7 r7 base L dv dl p z ix v w) : FS7 r7 base L dv dl p z ix v w' := by
  unfold FS7 at hF ⊢
  split at hF
  all_goals first
    | exact hF
    | (obtain ⟨y, ho, h0, h1⟩ := hF; exact ⟨y, ho.keptBut h hr, h0, h1⟩)
def SS7 (w w6 : World) (r7 base L : Nat) (dv fv : Value) (dl : List Int) (d : Nat → Bool) (w' : World) : Prop :=
  KeptBut r7 w6 w' ∧ Below w.heap.size w6 w' ∧ base ≤ w'.heap.size ∧ (d 7 = false → OwnI w' base dv dl) ∧
  (∃ x, RowAt w' r7 [.int .i64 1, x, fv] ∧ (d 1 = false → x = dv) ∧ (d 9 = true → ∃ y : Int, OwnI w' base x (dl ++ [y]) ∧ 0 ≤ y ∧ y ≤ 16777216)) ∧
  (d 6 = false → w'.heap.size = L) ∧ (d 6 = true → d 7 = false → ∃ y : Int, w'.cell? ⟨L, 0, none⟩ = some (.int .i64 y) ∧ 0 ≤ y ∧ y ≤ 16777216)
structure LpS (w w6 : World) (r7 base : Nat) (dv fv : Value) (dl : List Int) (wr : World) : Prop where
  kept : KeptBut r7 w6 wr
  below : Below w.heap.size w6 wr
  size : base ≤ wr.heap.size
  own : OwnI wr base dv dl
  row : RowAt wr r7 [.int .i64 1, dv, fv]
  bnd : ∀ x ∈ dl, 0 ≤ x ∧ x ≤ 16777216
theorem KeptBut.grown {r base : Nat} {w6 wx w' : World} (h : KeptBut r w6 wx) (hb : Below base wx w') (hw : w6.heap.size ≤ base) : KeptBut r w6 w' := ⟨Nat.le_trans h.1 hb.size, fun k hk hn => (hb.block k (Nat.lt_of_lt_of_le hk hw)).trans (h.2 k hk hn)⟩
theorem FS7.any {r7 base L : Nat} {dv : Value} {dl : List Int} {p z : Int} {w w' : World} (ix : Nat) (hx : ix ≠ 7) (v : Value) (hF : FS7 r7 base L dv dl p z ix v w) : FS7 r7 base L dv dl p z ix v w' := by
  unfold FS7 at hF ⊢
  split at hF
  all_goals first
    | exact hF
    | exact absurd rfl hx
theorem OwnI.keptNe {w w' : World} {B r : Nat} {v : Value} {l : List Int} (h : OwnI w B v l) (hk : KeptBut r w w') (hv : ∀ g, v.ownBlock = some g → g ≠ r) : OwnI w' B v l := by
  obtain ⟨h1, h2⟩ := h
  refine ⟨h1, ?_⟩
  rcases h2 with h2 | ⟨g, cap, cur, e, hg, hh, r⟩
  · exact Or.inl h2
  · refine Or.inr ⟨g, cap, cur, e, hg, ?_, r⟩
    rw [hk.2 g (Array.getElem?_eq_some_iff.1 hh).1 (hv g (by rw [e]; rfl))]
    exact hh
theorem rowT_s : RowT 47 3 := ⟨by kernel_rfl, _, Tryz.underlying47, rfl⟩
set_option maxHeartbeats 16000000 in
set_option maxRecDepth 100000 in
theorem state_ok (B b : Nat) (w : World) (h : CodesIs w B b) :
    Calls Tryz.prog 32 #[.pointer (some ⟨b, 0, none⟩), .int .i64 1] w (StateIs B b w) := by
  go_enter Tryz.func32, Tryz.ntmps32
  have hbw : Hid (b < w.heap.size) := h.lt
  have HSt0 : Hid (St w B b (w.alloc (.cells #[.int .i64 0, .slice none 0 0, .slice none 0 0] 47))) := (St.start h).alloc _
  have HR4 : Hid (RowAt (w.alloc (.cells #[.int .i64 0, .slice none 0 0, .slice none 0 0] 47)) w.heap.size [.int .i64 0, .slice none 0 0, .slice none 0 0]) := RowAt.new w [.int .i64 0, .slice none 0 0, .slice none 0 0] (by simp) _ rfl
  clear h
  go_wp2_with fail
  refine (edges_any _).mono ?_
  rintro e w1 ⟨ea, en, ec, rfl, hen, hb1⟩
  have HSt1 := Lib.hid (HSt0.out.below hb1)
  have HR41 := Lib.hid (HR4.out.below hb1)
  have HL : Hid (InR _ w1.heap.size 4 0 1000000) := in4 w1 0 30 5000 1000000 1000000 (by omega) (by omega) (by omega) (by omega)
  have HStL := Lib.hid (HSt1.out.alloc (.cells #[.int .i64 0, .int .i64 30, .int .i64 5000, .int .i64 1000000] 3))
  have HR4L := Lib.hid (HR41.out.alloc (.cells #[.int .i64 0, .int .i64 30, .int .i64 5000, .int .i64 1000000] 3))
  have HLb : Hid (w1.heap.size ≠ b) := by have := HSt1.out.lt; unfold Hid; omega
  clear HSt0 HR4 hb1 HSt1 HR41
  go_wp2_with fail
  refine (next_ok B b 4 _ HStL.out.1 (by omega) (by omega)).mono ?_
  rintro e w2 ⟨j, j0, j1, rfl, hs2⟩
  obtain ⟨j, rfl⟩ := Int.eq_ofNat_of_zero_le j0
  obtain ⟨z, z0, z1, hz⟩ := HL.out.kept (KeptBut.st hs2) HLb.out j (by omega)
  have HSt2 := Lib.hid (HStL.out.then hs2)
  have HR42 := Lib.hid (HR4L.out.but hs2.2 (by have := hbw.out; omega))
  clear hs2 HL HStL HR4L HLb
  go_wp2_with fail
  refine (vector_ok B b en z 1000000 w2 HSt2.out.1 (by omega) ⟨z0, z1⟩ (by omega) (by omega)).mono ?_
  rintro e w3 ⟨fv, fl, rfl, hfl, hfb, hfo, hs3⟩
  obtain ⟨fa, fc, rfl⟩ := hfo.slice
  have HSt3 := Lib.hid (HSt2.out.then hs3)
  have HR43 := Lib.hid (HR42.out.but hs3.2 (by have := hbw.out; omega))
  have HF := Lib.hid (And.intro hfl (And.intro hfb (And.intro (hfo.mono HSt2.out.size) hs3)))
  have HFg : Hid (∀ g, (Value.slice fa fl.length fc).ownBlock = some g → w.heap.size < g ∧ g < w3.heap.size) := fun g hg => by
    have h1 := hfo.lt g hg
    have h2 := HR42.out.lt
    omega
  clear hfl hfb hfo hs3 HSt2 HR42 hz z0 z1
  go_wp2_with fail
  have HSq : Hid (St w B b _) := HSt3.out.alloc (.cells #[.int .i64 1, .slice none 0 0, .slice fa fl.length fc] 47)
  have HR4q := Lib.hid (HR43.out.alloc (.cells #[.int .i64 1, .slice none 0 0, .slice fa fl.length fc] 47))
  have HR7q : Hid (RowAt (w3.alloc (.cells #[.int .i64 1, .slice none 0 0, .slice fa fl.length fc] 47)) w3.heap.size [.int .i64 1, .slice none 0 0, .slice fa fl.length fc]) := RowAt.new w3 [.int .i64 1, .slice none 0 0, .slice fa fl.length fc] (by simp) 47 rfl
  have HFq : Hid (OwnI _ w.heap.size (.slice fa fl.length fc) fl) := HF.out.2.2.1.below ((Below.refl _ _).alloc (Nat.le_refl _) (.cells #[.int .i64 1, .slice none 0 0, .slice fa fl.length fc] 47))
  have HFb : Hid (fl.length = en ∧ ∀ x ∈ fl, -1000000 ≤ x ∧ x ≤ 1000000) := ⟨HF.out.1, HF.out.2.1⟩
  have H7 : Hid (w3.heap.size ≠ b ∧ w.heap.size < w3.heap.size) := ⟨by have := HSt3.out.lt; omega, HR43.out.lt⟩
  obtain ⟨r7, hr7⟩ : ∃ r, r = w3.heap.size := ⟨_, rfl⟩
  rw [← hr7] at HR7q H7 HFg ⊢
  generalize w3.alloc (.cells #[.int .i64 1, .slice none 0 0, .slice fa fl.length fc] 47) = wq at HSq HR4q HR7q HFq ⊢
  clear HSt3 HR43 HF hr7
  refine wp_region_slots2 (by kernel_rfl) 59 rfl (by kernel_rfl) (by kernel_rfl) 28 10 8 2 (by kernel_rfl) (fun d w' => St wq B b w') (FS3 b) ?hS0 ?hop ?hend
  case hS0 => exact (St.start HSq.out.1).drew
  case hop =>
    refine ⟨?_, ?_, ?_, ?_, ?_, ?_, ?_, ?_, ?_, ?_, ?_, ?_, trivial⟩
    all_goals intro d ac wx hd hcl hS hA haft K hK
    · have hlt := hS.1.lt
      refine hop_val rfl (.slice (some ⟨wx.heap.size, 0, none⟩) 4 4) (w' := wx.alloc (.cells #[.int .i64 0, .int .i64 40, .int .i64 100000, .int .i64 2500000] 3)) ?_ (hK _ _ ⟨wx.heap.size, rfl, by omega, in4 wx 0 40 100000 2500000 2500000 (by omega) (by omega) (by omega) (by omega)⟩ (fun k' u _ h => FS3.kept (KeptBut.of ((Below.refl _ _).alloc (Nat.le_refl _) _)) k' u h) (hS.alloc _))
      simp [execOp, Act.eval, run_lit4, -Array.getD_eq_getD_getElem?]
    · have f0 : ac.tmps.getD 0 undef = .pointer (some ⟨b, 0, none⟩) := same_slot hA 0 (by kernel_rfl)
      refine hop_val rfl (.pointer (some ⟨b, 0, none⟩)) (w' := wx) ?_ (hK _ _ rfl (fun _ _ _ h => h) hS)
      simp [execOp, Act.eval, f0, go_sem, -Array.getD_eq_getD_getElem?]
    · have f29 : ac.tmps.getD 29 undef = .pointer (some ⟨b, 0, none⟩) := (haft ⟨1, .data⟩ (by simp) rfl).2 _ rfl
      refine hop_call rfl Tryz.func6 (by kernel_rfl) (by kernel_rfl) _ _ rfl #[.pointer (some ⟨b, 0, none⟩), .int .i64 4] (by simp only [List.map_toArray, List.map_cons, List.map_nil, Act.eval, f29]) _ (next_ok B b 4 wx hS.1 (by omega) (by omega)) ?_
      rintro e w' ⟨x, x0, x1, rfl, hs'⟩
      obtain ⟨j, rfl⟩ := Int.eq_ofNat_of_zero_le x0
      exact ⟨_, rfl, hK _ _ ⟨j, by omega, rfl⟩ (fun k' u _ h => FS3.kept (KeptBut.st hs') k' u h) (hS.then hs')⟩
    · obtain ⟨LB, e0, hn, hi⟩ := (haft ⟨0, .data⟩ (by simp) rfl).2 _ rfl
      obtain ⟨j, hj, e2⟩ := (haft ⟨2, .data⟩ (by simp) rfl).2 _ rfl
      have f28 : ac.tmps.getD 28 undef = .slice (some ⟨LB, 0, none⟩) 4 4 := e0
      have f30 : ac.tmps.getD 30 undef = .int .i64 j := e2
      obtain ⟨z, z0, z1, hz⟩ := hi j hj
      have j0 : (j : Int) < 4 := by omega
      refine hop_val rfl (.pointer (some ⟨LB, j, none⟩)) (w' := wx) ?_ (hK _ _ ⟨LB, j, z, rfl, hn, z0, z1, hz⟩ (fun _ _ _ h => h) hS)
      simp [execOp, Act.eval, f28, f30, j0, go_sem, -Array.getD_eq_getD_getElem?]
    · obtain ⟨LB, o, z, e3, hn, z0, z1, hz⟩ := (haft ⟨3, .data⟩ (by simp) rfl).2 _ rfl
      have f31 : ac.tmps.getD 31 undef = .pointer (some ⟨LB, o, none⟩) := e3
      refine hop_val rfl (.int .i64 z) (w' := wx) ?_ (hK _ _ ⟨z, rfl, z0, z1⟩ (fun _ _ _ h => h) hS)
      simp [execOp, Act.eval, f31, hz, go_sem, -Array.getD_eq_getD_getElem?]
    · have hlt := hS.1.lt
      refine hop_val rfl (.slice (some ⟨wx.heap.size, 0, none⟩) 3 3) (w' := wx.alloc (.cells #[.int .i64 0, .int .i64 30, .int .i64 90000] 3)) ?_ (hK _ _ ⟨wx.heap.size, rfl, by omega, in3 wx 0 30 90000 90000 (by omega) (by omega) (by omega)⟩ (fun k' u _ h => FS3.kept (KeptBut.of ((Below.refl _ _).alloc (Nat.le_refl _) _)) k' u h) (hS.alloc _))
      simp [execOp, Act.eval, run_lit3, -Array.getD_eq_getD_getElem?]
    · have f0 : ac.tmps.getD 0 undef = .pointer (some ⟨b, 0, none⟩) := same_slot hA 0 (by kernel_rfl)
      refine hop_val rfl (.pointer (some ⟨b, 0, none⟩)) (w' := wx) ?_ (hK _ _ rfl (fun _ _ _ h => h) hS)
      simp [execOp, Act.eval, f0, go_sem, -Array.getD_eq_getD_getElem?]
    · have f34 : ac.tmps.getD 34 undef = .pointer (some ⟨b, 0, none⟩) := (haft ⟨6, .data⟩ (by simp) rfl).2 _ rfl
      refine hop_call rfl Tryz.func6 (by kernel_rfl) (by kernel_rfl) _ _ rfl #[.pointer (some ⟨b, 0, none⟩), .int .i64 3] (by simp only [List.map_toArray, List.map_cons, List.map_nil, Act.eval, f34]) _ (next_ok B b 3 wx hS.1 (by omega) (by omega)) ?_
      rintro e w' ⟨x, x0, x1, rfl, hs'⟩
      obtain ⟨j, rfl⟩ := Int.eq_ofNat_of_zero_le x0
      exact ⟨_, rfl, hK _ _ ⟨j, by omega, rfl⟩ (fun k' u _ h => FS3.kept (KeptBut.st hs') k' u h) (hS.then hs')⟩
    · obtain ⟨LB, e0, hn, hi⟩ := (haft ⟨5, .data⟩ (by simp) rfl).2 _ rfl
      obtain ⟨j, hj, e2⟩ := (haft ⟨7, .data⟩ (by simp) rfl).2 _ rfl
      have f33 : ac.tmps.getD 33 undef = .slice (some ⟨LB, 0, none⟩) 3 3 := e0
      have f35 : ac.tmps.getD 35 undef = .int .i64 j := e2
      obtain ⟨z, z0, z1, hz⟩ := hi j hj
      have j0 : (j : Int) < 3 := by omega
      refine hop_val rfl (.pointer (some ⟨LB, j, none⟩)) (w' := wx) ?_ (hK _ _ ⟨LB, j, z, rfl, hn, z0, z1, hz⟩ (fun _ _ _ h => h) hS)
      simp [execOp, Act.eval, f33, f35, j0, go_sem, -Array.getD_eq_getD_getElem?]
    · obtain ⟨LB, o, z, e3, hn, z0, z1, hz⟩ := (haft ⟨8, .data⟩ (by simp) rfl).2 _ rfl
      have f36 : ac.tmps.getD 36 undef = .pointer (some ⟨LB, o, none⟩) := e3
      refine hop_val rfl (.int .i64 z) (w' := wx) ?_ (hK _ _ ⟨z, rfl, z0, z1⟩ (fun _ _ _ h => h) hS)
      simp [execOp, Act.eval, f36, hz, go_sem, -Array.getD_eq_getD_getElem?]
    · obtain ⟨z, e4, z0, z1⟩ := (haft ⟨4, .data⟩ (by simp) rfl).2 _ rfl
      have f32 : ac.tmps.getD 32 undef = .int .i64 z := e4
      refine hop_val rfl (.int .i64 z) (w' := wx) ?_ (hK _ _ ⟨z, rfl, z0, z1⟩ (fun _ _ _ h => h) hS)
      simp [execOp, Act.eval, f32, go_sem, -Array.getD_eq_getD_getElem?]
    · obtain ⟨z, e4, z0, z1⟩ := (haft ⟨9, .data⟩ (by simp) rfl).2 _ rfl
      have f37 : ac.tmps.getD 37 undef = .int .i64 z := e4
      refine hop_val rfl (.int .i64 z) (w' := wx) ?_ (hK _ _ ⟨z, rfl, z0, z1⟩ (fun _ _ _ h => h) hS)
      simp [execOp, Act.eval, f37, go_sem, -Array.getD_eq_getD_getElem?]
  case hend =>
    intro u wd d hd hS hF
    obtain ⟨p, hp, p0, p1⟩ : ∃ z : Int, u 8 = .int .i64 z ∧ 0 ≤ z ∧ z ≤ 2500000 := hF 10 _ rfl
    obtain ⟨q, hq, q0, q1⟩ : ∃ z : Int, u 9 = .int .i64 z ∧ 0 ≤ z ∧ z ≤ 90000 := hF 11 _ rfl
    have HSd := Lib.hid (HSq.out.then hS)
    have HR4d := Lib.hid (HR4q.out.but hS.2 (by have := hbw.out; omega))
    have HR7d := Lib.hid (HR7q.out.but hS.2 H7.out.1)
    have HFd := Lib.hid (HFq.out.st hS hbw.out)
    clear hF hd hS d HSq HR4q HR7q HFq
    simp only [mixL]
    rw [hp, hq]
    go_wp2_with fail
    refine (nodes1_any wd).mono ?_
    rintro e w5 ⟨rfl, rfl⟩
    go_wp2_with fail
    refine (vector_ok B b 12 q 90000 wd HSd.out.1 (by omega) ⟨q0, q1⟩ (by omega) (by omega)).mono ?_
    rintro e w6 ⟨vv, vl, rfl, hvl, hvb, hvo, hs6⟩
    obtain ⟨g, gc, rfl, hg, hin⟩ := hvo.inr (by omega) hvb
    have HIn : Hid (InR w6 g 12 (-90000) 90000) := by rw [hvl] at hin; exact hin
    have HS6 := Lib.hid (HSd.out.then hs6)
    have HR46 := Lib.hid (HR4d.out.but hs6.2 (by have := hbw.out; omega))
    have HR76 := Lib.hid (HR7d.out.but hs6.2 H7.out.1)
    have HF6 := Lib.hid (HFd.out.st hs6 hbw.out)
    have Hg7 : Hid (g ≠ r7) := by have := HR7d.out.lt; unfold Hid; omega
    rw [hvl]
    clear hvb hvo hs6 hin hg HSd HR4d HR7d HFd hvl
    obtain ⟨base, hbase⟩ : ∃ base, base = w6.heap.size := ⟨_, rfl⟩
    have HW6 : Hid (w6.heap.size ≤ base) := Nat.le_of_eq hbase.symm
    have HRB : Hid (r7 < base) := by unfold Hid; rw [hbase]; exact HR76.out.lt
    have HWB : Hid (w.heap.size ≤ base) := by have := H7.out.2; have := HRB.out; unfold Hid; omega
    have HLp : Hid (LpS w w6 r7 base (.slice none 0 0) (.slice fa fl.length fc) [] w6) := ⟨⟨Nat.le_refl _, fun _ _ _ => rfl⟩, Below.refl _ _, Nat.le_of_eq hbase, OwnI.nil _ _, HR76.out, by simp⟩
    clear hbase HR76
    go_wp2_with fail
    go_loopw [44, 11] (fun kv _ wr => ∃ (i : Nat) (dv : Value) (dl : List Int), kv = .int .i64 i ∧ i ≤ 12 ∧ dl.length = i ∧ Hid (LpS w w6 r7 base dv (.slice fa fl.length fc) dl wr)) (fun kv _ _ => (12 - intOf kv).toNat)
    case atStart => exact ⟨0, _, [], rfl, by omega, rfl, HLp⟩
    case round =>
      clear HLp
      obtain ⟨i, dv, dl, rfl, hi, hl, hs⟩ := hrel
      by_cases hil : i < 12
      · have i0 : (i : Int) < 12 := by omega
        obtain ⟨z, z0, z1, hz⟩ := HIn.out.kept hs.out.kept Hg7.out i hil
        have HZ : Hid (0 ≤ p ∧ p ≤ 2500000 ∧ -90000 ≤ z ∧ z ≤ 90000) := ⟨p0, p1, z0, z1⟩
        have HDl : Hid (dl.length ≤ 12) := by unfold Hid; omega
        have Hdo := Lib.hid hs.out.own
        go_upto_region 7 with fail
        clear hz
        obtain ⟨L, hL⟩ : ∃ L, L = wr.heap.size := ⟨_, rfl⟩
        refine wp_region_slots (by kernel_rfl) 59 rfl (by kernel_rfl) (by kernel_rfl) 48 9 (by kernel_rfl) (SS7 w w6 r7 base L dv (.slice fa fl.length fc) dl) (FS7 r7 base L dv dl p z) ?hS1 ?hop1 ?hend1
        case hS1 => exact ⟨hs.out.kept, hs.out.below.drew, hs.out.size, fun _ => hs.out.own.below (Below.refl _ _).drew, ⟨dv, hs.out.row.drew, fun _ => rfl, fun h => by simp at h⟩, fun _ => hL.symm, fun h => by simp at h⟩
        case hop1 =>
          refine ⟨?_, ?_, ?_, ?_, ?_, ?_, ?_, ?_, ?_, ?_, trivial⟩
          all_goals intro d ac wx hd hcl hS hA haft K hK
          · have f7 : ac.tmps.getD 7 undef = .pointer (some ⟨r7, 0, none⟩) := same_slot hA 7 (by kernel_rfl)
            refine hop_val rfl (.pointer (some ⟨r7, 1, none⟩)) (w' := wx) ?_ (hK _ _ rfl (fun _ _ _ h => h) hS)
            simp [execOp, Act.eval, f7, go_sem, -Array.getD_eq_getD_getElem?]
          · have f48 : ac.tmps.getD 48 undef = .pointer (some ⟨r7, 1, none⟩) := (haft ⟨0, .data⟩ (by simp) rfl).2 _ rfl
            obtain ⟨s1, s2, s3, s4, ⟨x, hx, hx1, hx2⟩, s6, s7⟩ := hS
            obtain rfl := hx1 hd
            have c1 := hx.at 1 rfl
            refine hop_val rfl x (w' := wx) ?_ (hK _ _ rfl (fun _ _ _ h => h) ⟨s1, s2, s3, s4, ⟨x, hx, fun h => by simp at h, hx2⟩, s6, s7⟩)
            obtain ⟨xa, xc, rfl⟩ := Hdo.out.slice
            simp [execOp, Act.eval, f48, c1, go_sem, -Array.getD_eq_getD_getElem?]
          · have f8 : ac.tmps.getD 8 undef = .int .i64 p := same_slot hA 8 (by kernel_rfl)
            refine hop_val rfl (.int .i64 p) (w' := wx) ?_ (hK _ _ rfl (fun _ _ _ h => h) hS)
            simp [execOp, Act.eval, f8, go_sem, -Array.getD_eq_getD_getElem?]
          · have f11 : ac.tmps.getD 11 undef = .int .i64 z := same_slot hA 11 (by kernel_rfl)
            refine hop_val rfl (.int .i64 z) (w' := wx) ?_ (hK _ _ rfl (fun _ _ _ h => h) hS)
            simp [execOp, Act.eval, f11, go_sem, -Array.getD_eq_getD_getElem?]
          · have f50 : ac.tmps.getD 50 undef = .int .i64 p := (haft ⟨2, .data⟩ (by simp) rfl).2 _ rfl
            have f51 : ac.tmps.getD 51 undef = .int .i64 z := (haft ⟨3, .data⟩ (by simp) rfl).2 _ rfl
            refine hop_val rfl (.int .i64 (p + z)) (w' := wx) ?_ (hK _ _ rfl (fun _ _ _ h => h) hS)
            simp [execOp, Act.eval, f50, f51, go_sem, -Array.getD_eq_getD_getElem?]
            exact IntWalk.i64_in _ (by have := HZ.out; omega)
          · have f52 : ac.tmps.getD 52 undef = .int .i64 (p + z) := (haft ⟨4, .data⟩ (by simp) rfl).2 _ rfl
            refine hop_call rfl Tryz.func50 (by kernel_rfl) (by kernel_rfl) _ _ rfl #[.int .i64 (p + z), .int .i64 0, .int .i64 16777216] (by simp only [List.map_toArray, List.map_cons, List.map_nil, Act.eval, f52]) _ (clip_any (p + z) 0 16777216 (by omega) wx) ?_
            rintro e w' ⟨y, y0, y1, rfl, rfl⟩
            exact ⟨_, rfl, hK _ _ ⟨y, rfl, y0, y1⟩ (fun _ _ _ h => h) hS⟩
          · obtain ⟨y, e5, y0, y1⟩ := (haft ⟨5, .data⟩ (by simp) rfl).2 _ rfl
            have f53 : ac.tmps.getD 53 undef = .int .i64 y := e5
            obtain ⟨s1, s2, s3, s4, ⟨x, hx, hx1, hx2⟩, s6, s7⟩ := hS
            have hL := s6 hd
            have hB : Below wx.heap.size wx (wx.alloc (.cells #[.int .i64 y] 3)) := (Below.refl _ _).alloc (Nat.le_refl _) _
            refine hop_val rfl (.slice (some ⟨wx.heap.size, 0, none⟩) 1 1) (w' := wx.alloc (.cells #[.int .i64 y] 3)) ?_ (hK _ _ (by rw [hL]; rfl) (fun k' u _ h => FS7.kept HRB.out (KeptBut.of hB) k' u h) ⟨s1.trans (KeptBut.of hB), s2.trans (hB.mono (Nat.le_trans HWB.out s3)), Nat.le_trans s3 hB.size, fun h => (s4 h).below hB, ⟨x, hx.below hB, hx1, fun h => ?_⟩, fun h => by simp at h, fun _ _ => ⟨y, ?_, y0, y1⟩⟩)
            · simp [execOp, Act.eval, f53, run_lit, -Array.getD_eq_getD_getElem?]
            · obtain ⟨y', o1, o2⟩ := hx2 h
              exact ⟨y', o1.below hB, o2⟩
            · rw [← hL]
              have hh : (wx.alloc (.cells #[.int .i64 y] 3)).heap[wx.heap.size]? = some (.cells #[.int .i64 y] 3 (0, 0)) := heap_alloc_new wx _
              simp only [World.cell?, hh]
              rfl
          · have f49 : ac.tmps.getD 49 undef = dv := (haft ⟨1, .data⟩ (by simp) rfl).2 _ rfl
            have f54 : ac.tmps.getD 54 undef = .slice (some ⟨L, 0, none⟩) 1 1 := (haft ⟨6, .data⟩ (by simp) rfl).2 _ rfl
            obtain ⟨s1, s2, s3, s4, ⟨x, hx, hx1, hx2⟩, s6, s7⟩ := hS
            have d6 := (haft ⟨6, .data⟩ (by simp) rfl).1
            obtain ⟨y, hy, y0, y1⟩ := s7 d6 hd
            have hnews : ∀ j u, [Value.int .i64 y][j]? = some u → wx.cell? ((⟨L, 0, none⟩ : Addr).add j) = some u := by
              intro j u hj
              match j, hj with
              | 0, hj => rw [Go.WideShapes.add_plain]; simp at hj; subst hj; exact hy
              | j + 1, hj => simp at hj
            obtain ⟨v', w', hrun, hown, hbl, hgr⟩ := append_at 38 3 Tryz.underlying38 iinfo rfl (by decide) (s4 hd) ⟨L, 0, none⟩ 1 1 [.int .i64 y] rfl hnews (by intro u hu; simp at hu; subst hu; rfl) (by have := HDl.out; omega) (by omega) (by decide) s3 38
            have hown' : OwnI w' base v' (dl ++ [y]) := by
              unfold OwnI
              rw [List.length_append]
              have e : ics (dl ++ [y]) = ics dl ++ [.int .i64 y] := by simp [ics]
              rw [e]; exact hown
            refine hop_val rfl v' (w' := w') ?_ (hK _ _ ⟨y, hown', y0, y1⟩ (fun k' u hk' h => FS7.any k' (by rintro rfl; rw [hk'] at hd; cases hd) u h) ⟨s1.grown hbl HW6.out, s2.trans (hbl.mono HWB.out), Nat.le_trans s3 hbl.size, fun h => by simp at h, ⟨x, hx.of_block (hbl.block _ HRB.out), hx1, fun h => ?_⟩, fun h => ?_, fun _ h => by simp at h⟩)
            · unfold execOp
              simp only [resolve, invoke, builtin, Sem.run_bind, Sem.run_pure, Result.andThen_ok, List.map_toArray, List.map_cons, List.map_nil, Act.eval, f49, f54, hrun]
            · have h : d 9 = true := h
              have := hcl 9 _ rfl h ⟨7, .data⟩ (by simp) rfl
              rw [this] at hd; cases hd
            · have h : d 6 = false := h
              rw [d6] at h; cases h
          · have f7 : ac.tmps.getD 7 undef = .pointer (some ⟨r7, 0, none⟩) := same_slot hA 7 (by kernel_rfl)
            refine hop_val rfl (.pointer (some ⟨r7, 1, none⟩)) (w' := wx) ?_ (hK _ _ rfl (fun _ _ _ h => h) hS)
            simp [execOp, Act.eval, f7, go_sem, -Array.getD_eq_getD_getElem?]
          · obtain ⟨y, ho, y0, y1⟩ := (haft ⟨7, .data⟩ (by simp) rfl).2 _ rfl
            obtain ⟨va, vc, e7⟩ := ho.slice
            have ho : OwnI wx base (ac.tmps.getD 55 undef) (dl ++ [y]) := ho
            have f55 : ac.tmps.getD 55 undef = .slice va (dl ++ [y]).length vc := e7
            rw [f55] at ho
            have f56 : ac.tmps.getD 56 undef = .pointer (some ⟨r7, 1, none⟩) := (haft ⟨8, .data⟩ (by simp) rfl).2 _ rfl
            obtain ⟨s1, s2, s3, s4, ⟨x, hx, hx1, hx2⟩, s6, s7⟩ := hS
            have d7 := (haft ⟨7, .data⟩ (by simp) rfl).1
            have d6 := (haft ⟨6, .phase⟩ (by simp) rfl).1
            have d1 := (haft ⟨1, .phase⟩ (by simp) rfl).1
            have q0 := hx.at 1 rfl
            have q1 := hx.2.2 1 (by simp)
            refine hop_none rfl (w' := wx.setCell ⟨r7, 1, none⟩ (.slice va (dl ++ [y]).length vc)) ?_ (hK undef _ trivial (fun k' u _ h => FS7.kept HRB.out (KeptBut.set r7 wx 1 _) k' u h) ⟨s1.trans (KeptBut.set r7 wx 1 _), s2.setCell (Nat.le_of_lt H7.out.2) _, by simpa [World.setCell] using s3, fun h => ?_, ⟨_, hx.set 1 (by simp) _, fun h => ?_, fun _ => ⟨y, ho.keptBut (KeptBut.set r7 wx 1 _) HRB.out, y0, y1⟩⟩, fun h => ?_, fun _ h => ?_⟩)
            · simp [execOp, Act.eval, f55, f56, q0, q1, go_sem, -Array.getD_eq_getD_getElem?]
            · have h : d 7 = false := h
              rw [d7] at h; cases h
            · have h : d 1 = false := h
              rw [d1] at h; cases h
            · have h : d 6 = false := h
              rw [d6] at h; cases h
            · have h : d 7 = false := h
              rw [d7] at h; cases h
        case hend1 =>
          intro u2 we d hd hS hF
          obtain ⟨s1, s2, s3, s4, ⟨x, hx, hx1, hx2⟩, s6, s7⟩ := hS
          obtain ⟨y, ho, y0, y1⟩ := hx2 (hd 9 (by simp))
          have HLe : Hid (LpS w w6 r7 base x (.slice fa fl.length fc) (dl ++ [y]) we) := ⟨s1, s2, s3, ho, hx, fun v hv => by
            rcases List.mem_append.1 hv with hv | hv
            · exact hs.out.bnd v hv
            · simp at hv; subst hv; exact ⟨y0, y1⟩⟩
          clear hF hd hx2 s1 s2 s3 s4 s6 s7 hx1 hx ho d hs
          simp only [mixL]
          go_wp2_with fail
          go_roundw
          case rel => exact ⟨i + 1, x, dl ++ [y], by go_num, by omega, by rw [List.length_append, hl]; rfl, HLe⟩
          case measure => simp [intOf]; omega
      · obtain rfl : i = 12 := by omega
        obtain ⟨da, dc, rfl⟩ := hs.out.own.slice
        have HR4e : Hid (RowAt wr w.heap.size [.int .i64 0, .slice none 0 0, .slice none 0 0]) := HR46.out.kept hs.out.kept (by have := H7.out.2; omega)
        have HR7e := Lib.hid hs.out.row
        go_wp2_with (first
          | (refine row_load rfl _ rfl _ rfl _ HR7e.out rowT_s ?_)
          | (refine row_store rfl _ _ rfl _ rfl _ [.int .i64 1, .slice da dl.length dc, .slice fa fl.length fc] rfl HR4e.out rfl rowT_s (by intro v hv; simp at hv; rcases hv with rfl | rfl | rfl <;> rfl) ?_; intro w8 e8 h8))
        refine ret_row rfl _ _ e8 rowT_s rfl rfl ?_
        have hk8 : KeptBut w.heap.size wr w8 := ⟨Nat.le_of_eq h8.2.2.2.1.symm, fun k _ hn => h8.2.2.2.2 k hn⟩
        refine ⟨_, _, dl, fl, rfl, hl, hs.out.bnd, by rw [HFb.out.1]; exact hen, HFb.out.2, ?_, ?_, ?_⟩
        · exact (hs.out.own.keptBut hk8 (by have := H7.out.2; have := HRB.out; omega)).mono HWB.out
        · exact (HF6.out.keptNe hs.out.kept (fun g hg => by have := HFg.out g hg; omega)).keptNe hk8 (fun g hg => by have := HFg.out g hg; omega)
        · exact (HS6.out.grown hs.out.below hbw.out (Nat.le_refl _)).grown (h8.below (Nat.le_refl _)) hbw.out (Nat.le_refl _)
end Go.Proofs.YtpknalpdcfjffaaGreat
/- Slices that the law's makers of entries append to. No walk. -/
namespace Go.Proofs.YtpknalpdcfjffaaGreat
open Go Go.RowKit

/-- Where an element's data may lie: from base on, outside of the row itself. -/
def avR (base : Nat) (v : Value) (k : Nat) : Prop := base ≤ k ∧ v.ownBlock ≠ some k
/-- An own slice of such values: nothing of it lies below base. -/
def RowE {α : Type} (E : El α) (T : TypeId) (base : Nat) (w : World) (v : Value) (l : List α) : Prop :=
  ∃ cc, w.ownsRow base T E.n v l.length cc ∧ ∀ j, (hj : j < l.length) → ∃ es, E.rep (avR base v) w es l[j] ∧ ∀ q, q < E.n → cc[j * E.n + q]? = es[q]?
theorem KeptBut.keeps {r : Nat} {av : Nat → Prop} {w w' : World} (h : KeptBut r w w') (hr : ¬ av r) : Keeps av w w' := fun k c t f e _ ha =>
  h.2 k (Array.getElem?_eq_some_iff.1 e).1 (fun e' => hr (e' ▸ ha))
section
variable {α : Type} {E : El α} {T ST : TypeId} {ev : List Value → Value} {zc : List Value} {base : Nat} {w w' : World} {v : Value} {l : List α}
theorem RowE.nil : RowE E T base w (.slice none 0 0) ([] : List α) := ⟨[], World.ownsRow_nil _ _ _ _, fun j hj => by simp at hj⟩
theorem RowE.slice (h : RowE E T base w v l) : ∃ a c, v = .slice a l.length c := by
  obtain ⟨cc, h1, _⟩ := h
  rcases h1.2 with ⟨e, h0⟩ | ⟨g, cap, cur, e, _⟩
  · exact ⟨none, 0, by rw [e, h0]⟩
  · exact ⟨_, _, e⟩
theorem RowE.lt (h : RowE E T base w v l) : ∀ g, v.ownBlock = some g → base ≤ g ∧ g < w.heap.size := by
  obtain ⟨cc, h1, _⟩ := h
  exact fun g hg => World.ownsRow.lt h1 g hg
theorem RowE.kept (hE : E.OK) {r : Nat} (h : RowE E T base w v l) (hk : KeptBut r w w') (hr : r < base) : RowE E T base w' v l := by
  obtain ⟨cc, h1, h2⟩ := h
  refine ⟨cc, ownsRow_block h1 fun g hg => ?_, fun j hj => ?_⟩
  · obtain ⟨h3, h4⟩ := World.ownsRow.lt h1 g hg
    exact hk.2 g h4 (by omega)
  · obtain ⟨es, e1, e2⟩ := h2 j hj
    exact ⟨es, hE.keep e1 (hk.keeps fun h => by have := h.1; omega), e2⟩
theorem RowE.append (hE : E.OK) (hT : ElT T ST E.n ev zc) (h : RowE E T base w v l) {es : List Value} {x : α} (he : E.rep (avR base v) w es x) (hm : l.length ≤ 1000000) (hb : base ≤ w.heap.size) (ty : TypeId) :
    ∃ (v' : Value) (w' : World), (Builtin.append_ #[ST, ST] ty #[v, .slice (some ⟨w.heap.size, 0, none⟩) 1 1]).run Tryz.prog (w.alloc (.cells es.toArray T)) = .ok v' w' ∧ RowE E T base w' v' (l ++ [x]) ∧ Below base w w' := by
  obtain ⟨cc, r1, r2⟩ := h
  obtain ⟨v', w4, a1, a2, a3, a4⟩ := hT.append r1 (hE.len he) (hE.one he) hm hb ty
  have hg : ∀ g, v.ownBlock = some g → base ≤ g ∧ g < w.heap.size := fun g hg => World.ownsRow.lt r1 g hg
  have hal : Below w.heap.size w (w.alloc (.cells es.toArray T)) := (Below.refl _ _).alloc (Nat.le_refl _) _
  have keepA : ∀ g, g < w.heap.size → v.ownBlock ≠ some g → w4.heap[g]? = w.heap[g]? := fun g hg1 hg2 => by
    rw [a3.block g (by simp; omega) (fun e => hg2 e.symm)]
    exact hal.block g hg1
  have hw4 : Below base w w4 := by
    refine ⟨?_, ?_, ?_, ?_, fun g hg1 => keepA g (by omega) (fun e => by have := hg g e; omega)⟩
    · rw [a3.os]; exact hal.os
    · rw [a3.tape]; exact hal.tape
    · rw [a3.output]; exact hal.output
    · exact Nat.le_trans hal.size a3.size
  have avl' : ∀ g, avR base v g → g < w.heap.size → avR base v' g := by
    rintro g ⟨hg1, hg2⟩ hg3
    refine ⟨hg1, fun e => ?_⟩
    rcases a4 with a4 | a4
    · exact hg2 (a4 ▸ e)
    · have := a4 g e; omega
  have move : ∀ es' y, E.rep (avR base v) w es' y → E.rep (avR base v') w4 es' y := fun es' y e1 => by
    have r4 : E.rep (fun g => avR base v g ∧ g < w.heap.size) w es' y := hE.weak e1 fun g h5 h6 => ⟨h5, h6⟩
    have r5 : E.rep (fun g => avR base v g ∧ g < w.heap.size) w4 es' y := hE.keep r4 fun g c t f e4 e5 e6 => keepA g e6.2 e6.1.2
    exact hE.weak r5 fun g h5 _ => avl' g h5.1 h5.2
  have hcc : cc.length = l.length * E.n := r1.1
  refine ⟨v', w4, a1, ⟨cc ++ es, by rw [List.length_append]; exact a2, fun j hj => ?_⟩, hw4⟩
  rw [List.length_append] at hj
  have hj : j < l.length + 1 := hj
  rcases Nat.lt_or_ge j l.length with hji | hji
  · obtain ⟨es', e1, e2⟩ := r2 j hji
    refine ⟨es', by rw [List.getElem_append_left hji]; exact move _ _ e1, fun q hq => ?_⟩
    rw [List.getElem?_append_left (by
      rw [hcc]
      have : (j + 1) * E.n ≤ l.length * E.n := Nat.mul_le_mul_right _ hji
      rw [Nat.add_mul] at this; omega)]
    exact e2 q hq
  · obtain rfl : j = l.length := by omega
    refine ⟨es, by rw [List.getElem_append_right (Nat.le_refl _)]; simpa using move _ _ he, fun q hq => ?_⟩
    have e5 : l.length * E.n + q - l.length * E.n = q := by omega
    rw [List.getElem?_append_right (by rw [hcc]; omega), hcc, e5]
theorem RowE.rd (hE : E.OK) (hT : T ≠ 5) (h : RowE E T base w v l) (hi : l.length ≤ 1000000) : RdS E (base ≤ ·) w v l := by
  obtain ⟨cc, r1, r2⟩ := h
  have r1' := r1
  obtain ⟨h1, h2⟩ := r1
  rcases h2 with ⟨e, h0⟩ | ⟨g, cap, cur, e, hg, hh, hc, hm, hsz, htk⟩
  · exact ⟨none, 0, by rw [e, h0], by omega, by omega, by omega, fun h => by omega⟩
  · refine ⟨some ⟨g, 0, none⟩, cap, e, by omega, by unfold maxLen at hm; omega, by omega, fun h0 => ⟨g, 0, cur, T, (0, 0), rfl, hh, hT, hg, fun j hj => ?_⟩⟩
    obtain ⟨es, e1, e2⟩ := r2 j hj
    refine ⟨es, hE.weak e1 fun g' h5 _ => h5.1, fun q hq => ?_⟩
    rw [← e2 q hq]
    have hlt : j * E.n + q < cc.length := by
      rw [h1]
      have : (j + 1) * E.n ≤ l.length * E.n := Nat.mul_le_mul_right _ (by omega)
      rw [Nat.add_mul] at this; omega
    have := World.ownsRow.cells r1' (g := g) (by rw [e]; rfl) (j * E.n + q) _ (List.getElem?_eq_getElem hlt)
    rw [Addr.add_mid, Nat.zero_add] at this
    rw [Nat.zero_add, this, List.getElem?_eq_getElem hlt]
end
/-- Ints of the choices. -/
theorem OwnI.rd {w : World} {base : Nat} {v : Value} {l : List Int} {lo hi : Int} (h : OwnI w base v l) (hb : ∀ x ∈ l, lo ≤ x ∧ x ≤ hi) (h0 : -9223372036854775808 ≤ lo) (h1 : hi ≤ 9223372036854775807) (hl : l.length ≤ 1000000) : RdS intE (base ≤ ·) w v l :=
  RowE.rd intE_ok (by decide) ⟨ics l, h, fun j hj => ⟨[.int .i64 l[j]], ⟨rfl, by
    have := hb _ (List.getElem_mem hj)
    unfold I64; omega⟩, fun q hq => by
    have hq : q < 1 := hq
    obtain rfl : q = 0 := by omega
    show (ics l)[j * 1 + 0]? = _
    simp [ics, hj]⟩⟩ hl
/-- A block's cells in the midst turned. -/
theorem PAt.setMid {p : Nat} : ∀ (es : List Value) (o : Nat) {w : World} {cs : List Value}, PAt w p cs → o + es.length ≤ cs.length → PAt (w.setCells p o es) p (cs.take o ++ es ++ cs.drop (o + es.length))
  | [], o, w, cs, h, _ => by
    have : cs.take o ++ ([] : List Value) ++ cs.drop (o + ([] : List Value).length) = cs := by simp
    rw [this]; exact h
  | v :: r, o, w, cs, h, hl => by
    have hl' : o + 1 + r.length ≤ cs.length := by simp at hl; omega
    have h1 := PAt.setMid r (o + 1) (h.set o (by omega) v) (by simp; omega)
    have e : (cs.set o v).take (o + 1) ++ r ++ (cs.set o v).drop (o + 1 + r.length) = cs.take o ++ (v :: r) ++ cs.drop (o + (v :: r).length) := by
      have e1 : (cs.set o v).take (o + 1) = cs.take o ++ [v] := by
        rw [List.take_add_one, List.take_set_of_le (Nat.le_refl _), List.getElem?_set_self (by omega)]; rfl
      rw [e1, List.drop_set_of_lt (by omega), List.length_cons, show o + 1 + r.length = o + (r.length + 1) by omega]
      simp
    rw [← e]; exact h1
theorem setCells_kept (p : Nat) : ∀ (es : List Value) (o : Nat) (w : World), KeptBut p w (w.setCells p o es)
  | [], _, w => ⟨Nat.le_refl _, fun _ _ _ => rfl⟩
  | v :: r, o, w => (KeptBut.set p w o v).trans (setCells_kept p r (o + 1) _)
theorem St.setCells {w0 : World} {B b p : Nat} (hp : w0.heap.size ≤ p) (hn : p ≠ b) (hB : B ≤ p) : ∀ (es : List Value) (o : Nat) {w : World}, St w0 B b w → St w0 B b (w.setCells p o es)
  | [], _, _, h => h
  | v :: r, o, _, h => St.setCells hp hn hB r (o + 1) (h.setCell hp hn hB v)
end Go.Proofs.YtpknalpdcfjffaaGreat
/- The law's name. -/
namespace Go.Proofs.YtpknalpdcfjffaaGreat
open Go Go.RowKit

def NameIs (B b : Nat) (w : World) (e : Ending) (w' : World) : Prop := ∃ s : ByteArray, s.size ≤ 5 ∧ e = .returned (.string s) ∧ St w B b w'
def StrAt (w : World) (g n : Nat) : Prop := ∀ i, i < n → ∃ s : ByteArray, s.size ≤ 5 ∧ w.cell? ⟨g, i, none⟩ = some (.string s)
theorem StrAt.kept {w w' : World} {g n b : Nat} (h : StrAt w g n) (hk : KeptBut b w w') (hg : g ≠ b) : StrAt w' g n := fun i hi => by
  obtain ⟨z, z0, hz⟩ := h i hi
  exact ⟨z, z0, hk.cell hz hg⟩
theorem str5 (w : World) (p q r s t : ByteArray) (hp : p.size ≤ 5) (hq : q.size ≤ 5) (hr : r.size ≤ 5) (hs : s.size ≤ 5) (ht : t.size ≤ 5) : StrAt (w.alloc (.cells #[.string p, .string q, .string r, .string s, .string t] 9)) w.heap.size 5 := by
  intro i hi
  have hh : ∀ A, (w.alloc (.cells A 9)).heap[w.heap.size]? = some (.cells A 9 (0, 0)) := fun A => heap_alloc_new w _
  simp only [World.cell?, hh]
  have : i = 0 ∨ i = 1 ∨ i = 2 ∨ i = 3 ∨ i = 4 := by omega
  rcases this with rfl | rfl | rfl | rfl | rfl
  · exact ⟨p, hp, rfl⟩
  · exact ⟨q, hq, rfl⟩
  · exact ⟨r, hr, rfl⟩
  · exact ⟨s, hs, rfl⟩
  · exact ⟨t, ht, rfl⟩
set_option maxHeartbeats 4000000 in
theorem name_ok (B b : Nat) (w : World) (h : CodesIs w B b) :
    Calls Tryz.prog 21 #[.pointer (some ⟨b, 0, none⟩)] w (NameIs B b w) := by
  have hbw : Hid (b < w.heap.size) := h.lt
  have HL : Hid (StrAt (w.alloc (.cells #[.string ⟨#[]⟩, .string ⟨#[65, 66, 49, 50, 51]⟩, .string ⟨#[120, 32, 121]⟩, .string ⟨#[0, 255]⟩, .string ⟨#[90, 90, 90, 90, 90]⟩] 9)) w.heap.size 5) := str5 w _ _ _ _ _ (by decide) (by decide) (by decide) (by decide) (by decide)
  have HS := Lib.hid ((St.start h).alloc (.cells #[.string ⟨#[]⟩, .string ⟨#[65, 66, 49, 50, 51]⟩, .string ⟨#[120, 32, 121]⟩, .string ⟨#[0, 255]⟩, .string ⟨#[90, 90, 90, 90, 90]⟩] 9))
  clear h
  go_enter Tryz.func21, Tryz.ntmps21
  go_wp2_with fail
  generalize w.alloc (.cells #[.string ⟨#[]⟩, .string ⟨#[65, 66, 49, 50, 51]⟩, .string ⟨#[120, 32, 121]⟩, .string ⟨#[0, 255]⟩, .string ⟨#[90, 90, 90, 90, 90]⟩] 9) = w0 at HL HS ⊢
  refine (next_ok B b 5 w0 HS.out.1 (by omega) (by omega)).mono ?_
  rintro e w1 ⟨x, x0, x1, rfl, hs⟩
  obtain ⟨x, rfl⟩ := Int.eq_ofNat_of_zero_le x0
  obtain ⟨z, z0, hz⟩ := HL.out.kept (KeptBut.st hs) (by have := hbw.out; omega) x (by omega)
  have HS1 := Lib.hid (HS.out.then hs)
  have HZ := Lib.hid z0
  have hx : (x : Int) < 5 := by omega
  clear hs z0 HL HS x0 x1
  go_wp2_with fail
  go_ret
  exact ⟨z, HZ.out, rfl, HS1.out⟩
end Go.Proofs.YtpknalpdcfjffaaGreat
/- What is so in the midst of the law's makers of entries. No walk. -/
namespace Go.Proofs.YtpknalpdcfjffaaGreat
open Go Go.RowKit

theorem KeptBut.below' {w w' : World} {r base : Nat} (h : Below base w w') (hs : w.heap.size ≤ base) : KeptBut r w w' := ⟨h.size, fun k hk _ => h.block k (by omega)⟩
/-- The choices stand, and the maker's variable holds these cells. -/
structure Mk (w : World) (B b P : Nat) (cs : List Value) (W : World) : Prop where
  st : St w B b W
  pa : PAt W P cs
  lo : b < P
  in_ : w.heap.size ≤ P
  bb : B ≤ b
section
variable {w W W' : World} {B b P base : Nat} {cs : List Value} {α : Type} {E : El α} {T : TypeId} {v : Value} {l : List α}
theorem Mk.lt (h : Mk w B b P cs W) : P < W.heap.size := h.pa.lt
theorem Mk.call (h : Mk w B b P cs W) (hs : St W B b W') : Mk w B b P cs W' := ⟨h.st.then hs, h.pa.of_block (hs.2.block P h.pa.lt (by have := h.lo; omega)), h.lo, h.in_, h.bb⟩
theorem Mk.grown (h : Mk w B b P cs W) (hb : Below base W W') (hp : P < base) : Mk w B b P cs W' := ⟨h.st.grown hb (by have := h.lo; omega) (by have := h.in_; omega), h.pa.of_block (hb.block P hp), h.lo, h.in_, h.bb⟩
theorem Mk.alloc (h : Mk w B b P cs W) (o : Obj) : Mk w B b P cs (W.alloc o) := h.grown ((Below.refl _ _).alloc (Nat.le_refl _) _) h.lt
theorem Mk.drew (h : Mk w B b P cs W) : Mk w B b P cs W.drew := ⟨h.st.drew, h.pa.drew, h.lo, h.in_, h.bb⟩
theorem Mk.set (h : Mk w B b P cs W) (o : Nat) (u : Value) (hl : o < cs.length) : Mk w B b P (cs.set o u) (W.setCell ⟨P, o, none⟩ u) := ⟨h.st.setCell h.in_ (by have := h.lo; simp; omega) (by have := h.lo; have := h.bb; simp; omega) u, h.pa.set o hl u, h.lo, h.in_, h.bb⟩
theorem Mk.mid (h : Mk w B b P cs W) (o : Nat) (es : List Value) (hl : o + es.length ≤ cs.length) : Mk w B b P (cs.take o ++ es ++ cs.drop (o + es.length)) (W.setCells P o es) :=
  ⟨h.st.setCells h.in_ (by have := h.lo; omega) (by have := h.lo; have := h.bb; omega) es o, h.pa.setMid es o hl, h.lo, h.in_, h.bb⟩
theorem Mk.new (h : St w B b W) (hb : B ≤ b) (cs : List Value) (hl : 0 < cs.length) (t : TypeId) (ht : t ≠ 5) : Mk w B b W.heap.size cs (W.alloc (.cells cs.toArray t)) :=
  ⟨h.alloc _, PAt.new W cs hl t ht rfl, h.lt, h.size, hb⟩
/-- All that stood at W0 stands, but for the choices and the maker's variable. -/
structure Kp (b P : Nat) (W0 W : World) : Prop where
  size : W0.heap.size ≤ W.heap.size
  same : ∀ k, k < W0.heap.size → k ≠ b → k ≠ P → W.heap[k]? = W0.heap[k]?
theorem Kp.refl (b P : Nat) (W : World) : Kp b P W W := ⟨Nat.le_refl _, fun _ _ _ _ => rfl⟩
theorem Kp.kept {r : Nat} {W0 : World} (h : Kp b P W0 W) (hk : KeptBut r W W') (hr : r = b ∨ r = P ∨ W0.heap.size ≤ r) : Kp b P W0 W' := ⟨Nat.le_trans h.size hk.1, fun k hk' h1 h2 => by
  rw [hk.2 k (Nat.lt_of_lt_of_le hk' h.size) (by rcases hr with rfl | rfl | hr <;> first | assumption | omega)]
  exact h.same k hk' h1 h2⟩
theorem Kp.below {W0 : World} (h : Kp b P W0 W) (hb : Below W0.heap.size W W') : Kp b P W0 W' := ⟨Nat.le_trans h.size hb.size, fun k hk h1 h2 => (hb.block k hk).trans (h.same k hk h1 h2)⟩
theorem Kp.keeps {W0 : World} (h : Kp b P W0 W) : Keeps (nb b P) W0 W := fun k c t f e _ ha => h.same k (Array.getElem?_eq_some_iff.1 e).1 ha.1 ha.2
theorem Kp.trans {W0 : World} (h : Kp b P W0 W) (g : Kp b P W W') : Kp b P W0 W' := ⟨Nat.le_trans h.size g.size, fun k hk h1 h2 => (g.same k (Nat.lt_of_lt_of_le hk h.size) h1 h2).trans (h.same k hk h1 h2)⟩
theorem Kp.st (h : St W B b W') : Kp b P W W' := (Kp.refl b P W).kept (KeptBut.st h) (Or.inl rfl)
theorem Kp.alloc (o : Obj) : Kp b P W (W.alloc o) := (Kp.refl b P W).below ((Below.refl _ _).alloc (Nat.le_refl _) _)
theorem Kp.drew : Kp b P W W.drew := ⟨Nat.le_refl _, fun _ _ _ _ => rfl⟩
theorem Kp.set (o : Nat) (u : Value) : Kp b P W (W.setCell ⟨P, o, none⟩ u) := (Kp.refl b P W).kept (KeptBut.set P W o u) (Or.inr (Or.inl rfl))
theorem Kp.mid (o : Nat) (es : List Value) : Kp b P W (W.setCells P o es) := (Kp.refl b P W).kept (setCells_kept P es o W) (Or.inr (Or.inl rfl))
/-- A row that grows beside. -/
structure Lp (E : El α) (T : TypeId) (w : World) (B b P : Nat) (cs : List Value) (W0 : World) (v : Value) (l : List α) (W : World) : Prop where
  m : Mk w B b P cs W
  row : RowE E T W0.heap.size W v l
  kp : Kp b P W0 W
  pb : P < W0.heap.size
section
variable {W0 : World}
theorem Lp.start (h : Mk w B b P cs W) : Lp E T w B b P cs W (.slice none 0 0) [] W := ⟨h, .nil, .refl _ _ _, h.lt⟩
theorem Lp.kept (hE : E.OK) (h : Lp E T w B b P cs W0 v l W) {cs' : List Value} (hm : Mk w B b P cs' W') (r : Nat) (hk : KeptBut r W W') (hr : r = b ∨ r = P) : Lp E T w B b P cs' W0 v l W' :=
  ⟨hm, h.row.kept hE hk (by have := h.pb; have := h.m.lo; rcases hr with rfl | rfl <;> omega), h.kp.kept hk (by rcases hr with hr | hr <;> simp [hr]), h.pb⟩
theorem Lp.call (hE : E.OK) (h : Lp E T w B b P cs W0 v l W) (hs : St W B b W') : Lp E T w B b P cs W0 v l W' := h.kept hE (h.m.call hs) b (KeptBut.st hs) (Or.inl rfl)
theorem Lp.alloc (hE : E.OK) (h : Lp E T w B b P cs W0 v l W) (o : Obj) : Lp E T w B b P cs W0 v l (W.alloc o) := h.kept hE (h.m.alloc o) b (KeptBut.below' ((Below.refl _ _).alloc (Nat.le_refl _) _) (Nat.le_refl _)) (Or.inl rfl)
theorem Lp.drew (hE : E.OK) (h : Lp E T w B b P cs W0 v l W) : Lp E T w B b P cs W0 v l W.drew := h.kept hE h.m.drew b ⟨Nat.le_refl _, fun _ _ _ => rfl⟩ (Or.inl rfl)
theorem Lp.next {v' : Value} {l' : List α} (h : Lp E T w B b P cs W0 v l W) (hr : RowE E T W0.heap.size W' v' l') (hb : Below W0.heap.size W W') : Lp E T w B b P cs W0 v' l' W' := ⟨h.m.grown hb h.pb, hr, h.kp.below hb, h.pb⟩
theorem Lp.set (hE : E.OK) (h : Lp E T w B b P cs W0 v l W) (o : Nat) (u : Value) (hl : o < cs.length) : Lp E T w B b P (cs.set o u) W0 v l (W.setCell ⟨P, o, none⟩ u) := h.kept hE (h.m.set o u hl) P (KeptBut.set P W o u) (Or.inr rfl)
theorem Lp.rd (hE : E.OK) (hT : T ≠ 5) (h : Lp E T w B b P cs W0 v l W) (hl : l.length ≤ 1000000) : RdS E (nb b P) W v l := (h.row.rd hE hT hl).weak hE fun k hk _ => by
  have := h.pb; have := h.m.lo
  have hk : W0.heap.size ≤ k := hk
  exact ⟨by omega, by omega⟩
end
end
section
variable {P : Program} {T ST : TypeId} {n : Nat} {ev : List Value → Value} {zc : List Value} {op : Oper} {a : Act}
theorem lit_run (hT : ElT T ST n ev zc) (y : Operand) (ho : op.op = .buildSlice ST 1 #[(0, y)]) (w : World) (es : List Value) (hy : a.eval y = ev es) (hl : es.length = n) (h1 : ∀ v ∈ es, v.oneCell' = true) :
    (execOp a.eval op).run Tryz.prog w = .ok (.value (.slice (some ⟨w.heap.size, 0, none⟩) 1 1)) (w.alloc (.cells es.toArray T)) := by
  have e : (#[(0, y)] : Array (Nat × Operand)).map (fun (q : Nat × Operand) => (q.1, a.eval q.2)) = #[(0, ev es)] := by simp [hy]
  unfold execOp
  simp only [ho, e, Sem.run_bind, Sem.run_pure, Result.andThen_ok, hT.lit w es hl h1]
end
end Go.Proofs.YtpknalpdcfjffaaGreat
/- The law's report. Printed by gen_law.py. -/
namespace Go.Proofs.YtpknalpdcfjffaaGreat
open Go Go.RowKit

def RepIs (B b : Nat) (w : World) (e : Ending) (w' : World) : Prop := ∃ (r : Rep) (cs : List Value), e = .returned (.agg cs.toArray) ∧ repE.rep (w.heap.size ≤ ·) w' cs r ∧ r.rds.length ≤ 2 ∧ r.name.size ≤ 5 ∧ St w B b w'
theorem rowT_rep : RowT 32 8 := ⟨by kernel_rfl, _, Tryz.underlying32, rfl⟩
set_option maxHeartbeats 16000000 in
set_option maxRecDepth 100000 in
theorem report_ok (B b : Nat) (w : World) (h : CodesIs w B b) :
    Calls Tryz.prog 20 #[.pointer (some ⟨b, 0, none⟩)] w (RepIs B b w) := by
  have hle := h.le
  have hbw : Hid (b < w.heap.size) := h.lt
  have H0 := Lib.hid (Mk.new (St.start h) hle [.int .i64 0, .string ⟨#[]⟩, .int .i64 0, .int .i64 0, .int .i64 0, .int .i64 0, .int .i64 0, .slice none 0 0] (by decide) 32 (by decide))
  clear h hle
  go_enter Tryz.func20, Tryz.ntmps20
  go_wp2_with fail
  generalize w.alloc (.cells #[.int .i64 0, .string ⟨#[]⟩, .int .i64 0, .int .i64 0, .int .i64 0, .int .i64 0, .int .i64 0, .slice none 0 0] 32) = w0 at H0 ⊢
  refine (int_ok B b w0 H0.out.st.1).mono ?_
  rintro e w1 ⟨x1, hx, rfl, hs⟩
  have H1 := Lib.hid (H0.out.call hs)
  have HX1 := Lib.hid hx
  clear hs hx H0
  go_wp2_with fail
  refine (name_ok B b w1 H1.out.st.1).mono ?_
  rintro e w2 ⟨x2, hx, rfl, hs⟩
  have H2 := Lib.hid (H1.out.call hs)
  have HX2 := Lib.hid hx
  clear hs hx H1
  go_wp2_with fail
  refine (int_ok B b w2 H2.out.st.1).mono ?_
  rintro e w3 ⟨x3, hx, rfl, hs⟩
  have H3 := Lib.hid (H2.out.call hs)
  have HX3 := Lib.hid hx
  clear hs hx H2
  go_wp2_with fail
  refine (place_ok B b w3 H3.out.st.1).mono ?_
  rintro e w4 ⟨f, p, q, r, f0, f1, p0, p1, q0, q1, r0, r1, rfl, hs⟩
  have H4 := Lib.hid (H3.out.call hs)
  have HX4 : Hid (okPla ⟨f, p, q, r⟩) := by unfold Hid; simp only [okPla, okI, I64]; omega
  clear hs H3 f0 f1 p0 p1 q0 q1 r0 r1
  go_wp2_with fail
  have HM : Hid (Mk w B b w4.heap.size (repCells ⟨x1, x2, x3, ⟨f, p, q, r⟩, []⟩ (.slice none 0 0)) (w4.alloc (.cells #[.int .i64 x1, .string x2, .int .i64 x3, .int .i64 f, .int .i64 p, .int .i64 q, .int .i64 r, .slice none 0 0] 32))) := Mk.new H4.out.st H4.out.bb (repCells ⟨x1, x2, x3, ⟨f, p, q, r⟩, []⟩ (.slice none 0 0)) (by simp [repCells]) 32 (by decide)
  have HR := Lib.hid (H4.out.alloc (.cells #[.int .i64 x1, .string x2, .int .i64 x3, .int .i64 f, .int .i64 p, .int .i64 q, .int .i64 r, .slice none 0 0] 32))
  have HRP : Hid (w.heap.size < w4.heap.size) := H4.out.lt
  generalize w4.heap.size = P at HM HRP ⊢
  generalize w4.alloc (.cells #[.int .i64 x1, .string x2, .int .i64 x3, .int .i64 f, .int .i64 p, .int .i64 q, .int .i64 r, .slice none 0 0] 32) = wM at HM HR ⊢
  clear H4
  refine (next_ok B b 3 wM HM.out.st.1 (by omega) (by omega)).mono ?_
  rintro e W0 ⟨n, n0, n1, rfl, hs⟩
  obtain ⟨n, rfl⟩ := Int.eq_ofNat_of_zero_le n0
  have HR0 := Lib.hid (HR.out.call hs)
  have HS := Lib.hid (Lp.start (E := rdE) (T := 77) (HM.out.call hs))
  clear hs HM HR
  go_wp2_with fail
  go_loopw [4] (fun kv wr => ∃ (k : Nat) (v : Value) (l : List (Int × Int)), kv = .int .i64 k ∧ l.length + k ≤ 2 ∧ Hid (Lp rdE 77 w B b P (repCells ⟨x1, x2, x3, ⟨f, p, q, r⟩, []⟩ v) W0 v l wr)) (fun kv _ => (intOf kv).toNat)
  case atStart => exact ⟨n, _, [], rfl, by simp; omega, HS⟩
  case round =>
    clear HS
    obtain ⟨k, v, l, rfl, hk, H0⟩ := hrel
    by_cases hk0 : 0 < k
    · have k0 : (0 : Int) < (k : Int) := by omega
      obtain ⟨va0, vc0, rfl⟩ := H0.out.row.slice
      have HL := Lib.hid hk
      clear hk
      go_upto_region 5 with fail
      refine wp_region_seqL (by kernel_rfl) (fun w' => PAt w' P (repCells ⟨x1, x2, x3, ⟨f, p, q, r⟩, []⟩ (.slice va0 l.length vc0))) 10 [(0, 0), (1, 1), (2, 0), (4, 0), (3, 2), (5, 2), (6, 0), (7, 2), (8, 2), (9, 0), (10, 2)] (by kernel_rfl) (H0.out.m.pa.drew) ?_
      refine sl_q (d := some 20) rfl rfl rfl (.pointer (some ⟨P, 7, none⟩)) (fun w => by go_simp) ?_
      simp only [Act.put, List.setIfInBounds_toArray, List.set_cons_zero, List.set_cons_succ]
      refine sl_s (d := some 21) rfl rfl rfl (.slice va0 l.length vc0) (fun w hw => by have hw0 := hw.1.at 7 rfl; simp [execOp, Act.eval, hw0, go_sem]) ?_
      simp only [Act.put, List.setIfInBounds_toArray, List.set_cons_zero, List.set_cons_succ]
      refine sl_q (d := some 22) rfl rfl rfl (.pointer (some ⟨b, 0, none⟩)) (fun w => rfl) ?_
      simp only [Act.put, List.setIfInBounds_toArray, List.set_cons_zero, List.set_cons_succ]
      refine sl_q (d := some 24) rfl rfl rfl (.pointer (some ⟨b, 0, none⟩)) (fun w => rfl) ?_
      simp only [Act.put, List.setIfInBounds_toArray, List.set_cons_zero, List.set_cons_succ]
      refine sl_call (d := some 23) rfl rfl rfl ⟨_, Tryz.func6, by kernel_rfl, by kernel_rfl⟩ _ _ _ rfl rfl [.pointer (some ⟨b, 0, none⟩), .int .i64 12] rfl (next_ok B b 12 (wr.drew) ((H0.out.drew rdE_ok).m.st.1) (by omega) (by omega)) ?_
      rintro e w1 ⟨y1, p1, q1, rfl, hs⟩
      have H1 := Lib.hid ((H0.out.drew rdE_ok).call rdE_ok hs)
      clear hs
      have HY1 : Hid (0 ≤ y1 ∧ y1 ≤ 11) := ⟨p1, by omega⟩
      clear p1 q1
      refine ⟨_, rfl, fun _ => H1.out.m.pa, ?_⟩
      simp only [Act.put, List.setIfInBounds_toArray, List.set_cons_zero, List.set_cons_succ]
      refine sl_call (d := some 25) rfl rfl rfl ⟨_, Tryz.func19, by kernel_rfl, by kernel_rfl⟩ _ _ _ rfl rfl [.pointer (some ⟨b, 0, none⟩)] rfl (int_ok B b (w1) (H1.out.m.st.1)) ?_
      rintro e w2 ⟨y2, hx, rfl, hs⟩
      have H2 := Lib.hid (H1.out.call rdE_ok hs)
      have HY2 := Lib.hid hx
      clear hs hx
      refine ⟨_, rfl, fun _ => H2.out.m.pa, ?_⟩
      simp only [Act.put, List.setIfInBounds_toArray, List.set_cons_zero, List.set_cons_succ]
      refine sl_q (d := some 26) rfl rfl rfl (.agg #[.int .i64 y1, .int .i64 y2]) (fun w => by simp [execOp, Act.eval, Instr.build, go_sem]) ?_
      simp only [Act.put, List.setIfInBounds_toArray, List.set_cons_zero, List.set_cons_succ]
      have hre : rdE.rep (avR W0.heap.size (.slice va0 l.length vc0)) (w2) [.int .i64 y1, .int .i64 y2] (y1, y2) := ⟨rfl, by have := HY1.out; unfold I64; omega, HY2.out⟩
      obtain ⟨va, wa, hrun, hr, hb⟩ := RowE.append rdE_ok rdT H2.out.row hre (by have := HL.out; omega) H2.out.kp.size 30
      have HA := Lib.hid (Lp.next H2.out hr hb)
      have HRun := Lib.hid hrun
      clear hrun hr hb
      refine sl_run (d := some 27) rfl rfl rfl (.slice (some ⟨(w2).heap.size, 0, none⟩) 1 1) ((w2).alloc (.cells ([.int .i64 y1, .int .i64 y2]).toArray 77)) (lit_run rdT _ rfl _ [.int .i64 y1, .int .i64 y2] rfl (rdE_ok.len hre) (rdE_ok.one hre)) (fun _ => (H2.out.alloc rdE_ok _).m.pa) ?_
      clear hre
      simp only [Act.put, List.setIfInBounds_toArray, List.set_cons_zero, List.set_cons_succ]
      refine sl_run (d := some 28) rfl rfl rfl va wa (run_append _ _ _ rfl _ _ rfl rfl HRun.out) (fun _ => HA.out.m.pa) ?_
      simp only [Act.put, List.setIfInBounds_toArray, List.set_cons_zero, List.set_cons_succ]
      refine sl_q (d := some 29) rfl rfl rfl (.pointer (some ⟨P, 7, none⟩)) (fun w => by go_simp) ?_
      simp only [Act.put, List.setIfInBounds_toArray, List.set_cons_zero, List.set_cons_succ]
      obtain ⟨va1, va2, va3⟩ := HA.out.row.slice
      subst va3
      have q0 := HA.out.m.pa.1.at 7 rfl
      have q1 := HA.out.m.pa.1.2.2 7 (by simp [repCells])
      have HZ := Lib.hid (HA.out.set rdE_ok 7 (.slice va1 (l ++ [(y1, y2)]).length va2) (by simp [repCells]))
      clear HA
      refine sl_skip (d := none) rfl rfl rfl (wa.setCell ⟨P, 7, none⟩ (.slice va1 (l ++ [(y1, y2)]).length va2)) (by simp [execOp, Act.eval, q0, q1, go_sem]) (fun h => by cases h) ?_
      clear q0 q1
      simp only [Act.put, List.setIfInBounds_toArray, List.set_cons_zero, List.set_cons_succ]
      refine sl_end ?_
      have HZ1 : Hid (Lp rdE 77 w B b P (repCells ⟨x1, x2, x3, ⟨f, p, q, r⟩, []⟩ (.slice va1 (l ++ [(y1, y2)]).length va2)) W0 (.slice va1 (l ++ [(y1, y2)]).length va2) (l ++ [(y1, y2)]) (wa.setCell ⟨P, 7, none⟩ (.slice va1 (l ++ [(y1, y2)]).length va2))) := HZ
      generalize wa.setCell ⟨P, 7, none⟩ (.slice va1 (l ++ [(y1, y2)]).length va2) = wz at HZ1 ⊢
      clear HZ HRun H0 H1 H2
      have hk2 : k ≤ 2 := by have := HL.out; omega
      go_wp2_with fail
      go_roundw
      case rel => exact ⟨k - 1, _, _, by go_num, by have := HL.out; simp; omega, HZ1⟩
      case measure => simp [intOf]; omega
    · obtain rfl : k = 0 := by omega
      obtain ⟨va0, vc0, rfl⟩ := H0.out.row.slice
      have HL := Lib.hid hk
      have HRR := Lib.hid ((HR0.out.pa).of_block (H0.out.kp.same w.heap.size HR0.out.lt (by have := hbw.out; omega) (by have := HRP.out; omega)))
      have HRd := Lib.hid (H0.out.row.rd rdE_ok (by decide) (by omega))
      have HS := Lib.hid H0.out.m.st
      have HPa := Lib.hid H0.out.m.pa
      have HB := Lib.hid H0.out.m.bb
      have HW0 : Hid (w.heap.size < W0.heap.size) := HR0.out.lt
      clear hk H0 HR0
      go_wp2_with (first
        | (refine list_load repT rfl _ rfl P 0 rfl (repCells ⟨x1, x2, x3, ⟨f, p, q, r⟩, []⟩ (.slice va0 l.length vc0)) rfl HPa.out.1.range ?_)
        | (refine list_store repT rfl _ _ rfl w.heap.size rfl (repCells ⟨x1, x2, x3, ⟨f, p, q, r⟩, []⟩ (.slice va0 l.length vc0)) rfl rfl (by intro v hv; simp [repCells] at hv; rcases hv with rfl | rfl | rfl | rfl | rfl | rfl | rfl | rfl <;> rfl) (HRR.out.1.there (by simp)) ?_))
      refine ret_row rfl _ _ (HRR.out.setCells (repCells ⟨x1, x2, x3, ⟨f, p, q, r⟩, []⟩ (.slice va0 l.length vc0)) rfl).1 rowT_rep rfl rfl ?_
      have hk8 := setCells_kept w.heap.size (repCells ⟨x1, x2, x3, ⟨f, p, q, r⟩, []⟩ (.slice va0 l.length vc0)) 0 wr
      refine ⟨⟨x1, x2, x3, ⟨f, p, q, r⟩, l⟩, _, rfl, ⟨_, rfl, HX1.out, Nat.le_trans HX2.out (by decide), HX3.out, HX4.out, ?_⟩, by have := HL.out; simpa using this, HX2.out, ?_⟩
      · exact (HRd.out.keep rdE_ok (hk8.keeps (by have := HW0.out; omega))).weak rdE_ok fun k hk _ => by
          have h1 : W0.heap.size ≤ k := hk
          have := HW0.out
          show w.heap.size ≤ k
          omega
      · exact St.setCells (Nat.le_refl _) (by have := hbw.out; omega) (by have := hbw.out; have := HB.out; omega) _ _ HS.out
end Go.Proofs.YtpknalpdcfjffaaGreat
/- The data of a cycle, its slices by name. No walk. -/
namespace Go.Proofs.YtpknalpdcfjffaaGreat
open Go Go.RowKit

def cycR (av : Nat → Prop) (w : World) (x : Cyc) (v0 v1 v2 v3 v4 v5 v6 v7 : Value) : Prop := I64 x.number ∧ I64 x.time ∧ I64 x.cutoff ∧ RdS repE av w v0 x.reps ∧
  (RdS intE av w v1 x.ana.bg ∧ RdS intE av w v2 x.ana.inc ∧ RdS intE av w v3 x.ana.field ∧ I64 x.ana.hi ∧ x.ana.lo < 18446744073709551616 ∧ I64 x.ana.anchor ∧ I64 x.ana.radius ∧ I64 x.ana.rounds) ∧
  I64 x.freq ∧ RdS intE av w v4 x.depth ∧ RdS intE av w v5 x.flow ∧ RdS (sliE cntE) av w v6 x.cycles ∧ RdS strE av w v7 x.listed
theorem cycR.keep {av : Nat → Prop} {w w' : World} {x : Cyc} {v0 v1 v2 v3 v4 v5 v6 v7 : Value} (h : cycR av w x v0 v1 v2 v3 v4 v5 v6 v7) (hk : Keeps av w w') : cycR av w' x v0 v1 v2 v3 v4 v5 v6 v7 := by
  obtain ⟨h1, h2, h3, h4, ⟨h5, h6, h7, h8⟩, h9, h10, h11, h12, h13⟩ := h
  exact ⟨h1, h2, h3, h4.keep repE_ok hk, ⟨h5.keep intE_ok hk, h6.keep intE_ok hk, h7.keep intE_ok hk, h8⟩, h9, h10.keep intE_ok hk, h11.keep intE_ok hk, h12.keep (sliE_ok cntE_ok) hk, h13.keep strE_ok hk⟩
theorem cycR.weak {av av' : Nat → Prop} {w : World} {x : Cyc} {v0 v1 v2 v3 v4 v5 v6 v7 : Value} (h : cycR av w x v0 v1 v2 v3 v4 v5 v6 v7) (hk : ∀ k, av k → k < w.heap.size → av' k) : cycR av' w x v0 v1 v2 v3 v4 v5 v6 v7 := by
  obtain ⟨h1, h2, h3, h4, ⟨h5, h6, h7, h8⟩, h9, h10, h11, h12, h13⟩ := h
  exact ⟨h1, h2, h3, h4.weak repE_ok hk, ⟨h5.weak intE_ok hk, h6.weak intE_ok hk, h7.weak intE_ok hk, h8⟩, h9, h10.weak intE_ok hk, h11.weak intE_ok hk, h12.weak (sliE_ok cntE_ok) hk, h13.weak strE_ok hk⟩
end Go.Proofs.YtpknalpdcfjffaaGreat
/- A cycle in the making. No walk. -/
namespace Go.Proofs.YtpknalpdcfjffaaGreat
open Go Go.RowKit

theorem RowE.kp {α : Type} {E : El α} {T : TypeId} {base b P : Nat} {W W' : World} {v : Value} {l : List α} (hE : E.OK) (h : RowE E T base W v l) (hk : Kp b P W W') (hb : b < base) (hp : P < base) : RowE E T base W' v l := by
  obtain ⟨cc, h1, h2⟩ := h
  refine ⟨cc, ownsRow_block h1 fun g hg => ?_, fun j hj => ?_⟩
  · obtain ⟨h3, h4⟩ := World.ownsRow.lt h1 g hg
    exact hk.same g h4 (by omega) (by omega)
  · obtain ⟨es, e1, e2⟩ := h2 j hj
    refine ⟨es, hE.keep e1 fun k c t f e _ ha => ?_, e2⟩
    have := ha.1
    exact hk.same k (Array.getElem?_eq_some_iff.1 e).1 (by omega) (by omega)
theorem Lp.kept' {α : Type} {E : El α} {T : TypeId} {w W W' W0 : World} {B b P : Nat} {cs cs' : List Value} {v : Value} {l : List α} (hE : E.OK) (h : Lp E T w B b P cs W0 v l W) (hk : Kp b P W W') (hm : Mk w B b P cs' W') : Lp E T w B b P cs' W0 v l W' :=
  ⟨hm, h.row.kp hE hk (by have := h.pb; have := h.m.lo; omega) h.pb, h.kp.trans hk, h.pb⟩
def zCyc : List Value := [.int .i64 0, .int .i64 0, .int .i64 0, .slice none 0 0, .slice none 0 0, .slice none 0 0, .slice none 0 0, .int .i64 0, .int .u64 0, .int .i64 0, .int .i64 0, .int .i64 0, .int .i64 0, .slice none 0 0, .slice none 0 0, .slice none 0 0, .slice none 0 0]
/-- A cycle in the making: its cells in block P, what they stand for; the result's variable still empty. -/
structure Cy (w : World) (B b P : Nat) (x : Cyc) (v0 v1 v2 v3 v4 v5 v6 v7 : Value) (W : World) : Prop where
  m : Mk w B b P (cycCells x v0 v1 v2 v3 v4 v5 v6 v7) W
  d : cycR (fun k => nb b P k ∧ w.heap.size < k) W x v0 v1 v2 v3 v4 v5 v6 v7
  r : PAt W w.heap.size zCyc
  rp : w.heap.size < P
  rb : b < w.heap.size
section
variable {w W W' : World} {B b P : Nat} {x : Cyc} {v0 v1 v2 v3 v4 v5 v6 v7 : Value}
theorem Cy.kp (h : Cy w B b P x v0 v1 v2 v3 v4 v5 v6 v7 W) (hk : Kp b P W W') (hm : Mk w B b P (cycCells x v0 v1 v2 v3 v4 v5 v6 v7) W') : Cy w B b P x v0 v1 v2 v3 v4 v5 v6 v7 W' :=
  ⟨hm, h.d.keep fun k c t f e e1 ha => hk.keeps k c t f e e1 ha.1, h.r.of_block (hk.same _ h.r.lt (by have := h.rb; omega) (by have := h.rp; omega)), h.rp, h.rb⟩
theorem Cy.call (h : Cy w B b P x v0 v1 v2 v3 v4 v5 v6 v7 W) (hs : St W B b W') : Cy w B b P x v0 v1 v2 v3 v4 v5 v6 v7 W' := h.kp (Kp.st hs) (h.m.call hs)
theorem Cy.alloc (h : Cy w B b P x v0 v1 v2 v3 v4 v5 v6 v7 W) (o : Obj) : Cy w B b P x v0 v1 v2 v3 v4 v5 v6 v7 (W.alloc o) := h.kp (Kp.alloc o) (h.m.alloc o)
theorem Cy.put (h : Cy w B b P x v0 v1 v2 v3 v4 v5 v6 v7 W) {x' : Cyc} {u0 u1 u2 u3 u4 u5 u6 u7 : Value} (hk : Kp b P W W') (hm : Mk w B b P (cycCells x' u0 u1 u2 u3 u4 u5 u6 u7) W') (hd : cycR (fun k => nb b P k ∧ w.heap.size < k) W' x' u0 u1 u2 u3 u4 u5 u6 u7) : Cy w B b P x' u0 u1 u2 u3 u4 u5 u6 u7 W' :=
  ⟨hm, hd, h.r.of_block (hk.same _ h.r.lt (by have := h.rb; omega) (by have := h.rp; omega)), h.rp, h.rb⟩
theorem Cy.dk (h : Cy w B b P x v0 v1 v2 v3 v4 v5 v6 v7 W) (hk : Kp b P W W') : cycR (fun k => nb b P k ∧ w.heap.size < k) W' x v0 v1 v2 v3 v4 v5 v6 v7 := h.d.keep fun k c t f e e1 ha => hk.keeps k c t f e e1 ha.1
/-- A slice made since lies in what the cycle may hold. -/
theorem Cy.rd {α : Type} {E : El α} (hE : E.OK) {base : Nat} {v : Value} {l : List α} (h : RdS E (base ≤ ·) W' v l) (hp : P < base) (hb : b < base) (hw : w.heap.size < base) : RdS E (fun k => nb b P k ∧ w.heap.size < k) W' v l := h.weak hE fun k hk _ => by
  have hk : base ≤ k := hk
  exact ⟨⟨by omega, by omega⟩, by omega⟩
end
theorem u64_nat (x : Int) : ∃ lo : Nat, IntKind.u64.wrap x = (lo : Int) ∧ lo < 18446744073709551616 := by
  refine ⟨(IntKind.u64.wrap x).toNat, ?_, ?_⟩ <;> · simp [IntKind.wrap, IntKind.signed, IntKind.bits] <;> omega
end Go.Proofs.YtpknalpdcfjffaaGreat
