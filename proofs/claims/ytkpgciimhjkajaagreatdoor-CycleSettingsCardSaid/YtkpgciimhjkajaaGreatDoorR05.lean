/- Part 5 of the proof: laws on memory and what functions of the program return. No conditions but those that each theorem names. -/
import Derived.Test.YtkpgciimhjkajaaGreatDoorR04
import Derived.BigQuiet
import Derived.Deep.QuietTactic
import Derived.Deep.OwnRows
import Derived.Laws.OwnMore
import Derived.Test.YtkpgciimhjkajaaGreatDoorShelf
import Derived.Sort.OwnSortedInts
set_option linter.unusedVariables false
set_option linter.unusedSimpArgs false
/- The reference's grid at any frequency: around. -/
namespace Go.Proofs.YtkpgciimhjkajaaGreatDoor
open Go Go.RowKit
structure ArX (w wr : World) (H g : Nat) (cs : List Tri) (ls : List (List Nat)) : Prop where
  ar : ArE wr H ls
  cl : TrsAt wr g cs
  low : g < H
  below : Below w.heap.size w wr
  base : w.heap.size ≤ H
theorem ArX.then {w wr w' : World} {H g : Nat} {cs : List Tri} {ls : List (List Nat)} (h : ArX w wr H g cs ls) (hb : Below wr.heap.size wr w') : ArX w w' H g cs ls := ⟨h.ar.below hb, h.cl.below hb, h.low, below_then h.below hb, h.base⟩
theorem sinfoN : (Tryz.prog.info? 34).map (fun i => (i.zero, i.size, i.bytes)) = some (some (.slice none 0 0), 1, 24) := by kernel_rfl
abbrev nilsN (N : Nat) : Array Value := madeCells #[.slice none 0 0] N
theorem nilsN_at {N i : Nat} (h : i < N) : (nilsN N)[i]? = some (.slice none 0 0) := by
  have e := toList_madeCells_one (.slice none 0 0) N
  rw [← Array.getElem?_toList, e]; simp [h]
theorem ArE.fresh (w : World) (N : Nat) : ArE (w.alloc (.cells (nilsN N) 34)) w.heap.size (List.replicate N []) := by
  refine ⟨by simp, fun i hi => ?_⟩
  rw [List.length_replicate] at hi
  have hh : (w.alloc (.cells (nilsN N) 34)).heap[w.heap.size]? = some (.cells (nilsN N) 34 (0, 0)) := heap_alloc_new w _
  refine ⟨by unfold World.frozen?; simp only [hh]; simp, none, 0, 0, by simp, ?_, by rw [List.getElem_replicate]; exact SmE.nil _ _⟩
  simp only [World.cell?, hh]
  rw [nilsN_at hi]; rfl
theorem sm_fromE {w : World} {H n cc : Nat} {a : Option Addr} {l : List Nat} (h : SmE w H (.slice a n cc) l) (hn : n = l.length) (hcc : n ≤ cc) (k : Nat) (hk : k ≤ n) : SmE w H (.slice (if cc = k then a else a.map (·.add k)) (n - k) (cc - k)) (l.drop k) := by
  subst hn
  refine h.drop k hk _ (fun h1 ab ao e => ?_) ?_
  · subst e
    rw [if_neg (by omega)]
    simp [Go.WideShapes.add_plain]
  · obtain ⟨a', _, e, _, _, _, h6⟩ := h
    obtain ⟨rfl, _⟩ : a = a' ∧ _ := by simpa using e
    rcases h6 with rfl | ⟨ab, ao, rfl⟩
    · left; split <;> rfl
    · right
      by_cases hc : cc = k
      · rw [if_pos hc]; exact ⟨_, _, rfl⟩
      · rw [if_neg hc]; exact ⟨_, _, by simp [Go.WideShapes.add_plain]; exact ⟨rfl, rfl⟩⟩
theorem sm_toE {w : World} {H n cc : Nat} {a : Option Addr} {l : List Nat} (h : SmE w H (.slice a n cc) l) (hn : n = l.length) (k : Nat) (hk : k ≤ n) : SmE w H (.slice a k k) (l.take k) := by
  subst hn
  exact h.take k hk
theorem sm_litE {w : World} {H : Nat} (hH : H < w.heap.size) (q : Nat) : SmE (w.alloc (.cells #[.int .i64 (q : Int)] 3)) H (.slice (some ⟨w.heap.size, 0, none⟩) 1 1) [q] := by
  have hh : (w.alloc (.cells #[.int .i64 (q : Int)] 3)).heap[w.heap.size]? = some (.cells #[.int .i64 (q : Int)] 3 (0, 0)) := heap_alloc_new w _
  refine ⟨_, 1, rfl, Nat.le_refl _, by omega, fun _ => ⟨w.heap.size, 0, rfl, by omega, fun j u hj => ?_⟩, Or.inr ⟨_, _, rfl⟩⟩
  simp only [World.cell?, hh]
  match j, hj with
  | 0, hj => simpa [nv] using hj
  | j + 1, hj => simp at hj
def FE3 (N H B m k n cc : Nat) (a : Option Addr) (qi : Int) (q : Nat) (l : List Nat) (ix : Nat) (v : Value) (w : World) : Prop := match ix with
  | 0 => v = .pointer (some ⟨B, 1, none⟩)
  | 1 => v = .int .i64 qi
  | 2 => SmE w H v [q] ∧ ∃ A, v = .slice A 1 1
  | 3 => v = .slice (some ⟨H, 0, none⟩) N N
  | 4 => v = .pointer (some ⟨B, 0, none⟩)
  | 5 => v = .int .i64 m
  | 6 => v = .pointer (some ⟨H, m, none⟩)
  | 7 => v = .slice a n cc
  | 8 => v = .int .i64 k
  | 9 => SmE w H v (l.drop k)
  | 10 => SmE w H v ([q] ++ l.drop k)
  | 11 => SmE w H v ([q] ++ l.drop k)
  | _ => True
def FE4 (N H B m k n cc : Nat) (a : Option Addr) (rv : Value) (q : Nat) (l : List Nat) (ix : Nat) (v : Value) (w : World) : Prop := match ix with
  | 0 => v = .slice (some ⟨H, 0, none⟩) N N
  | 1 => v = .pointer (some ⟨B, 0, none⟩)
  | 2 => v = .int .i64 m
  | 3 => v = .slice (some ⟨H, 0, none⟩) N N
  | 4 => v = .pointer (some ⟨B, 0, none⟩)
  | 5 => v = .int .i64 m
  | 6 => v = .pointer (some ⟨H, m, none⟩)
  | 7 => v = .slice a n cc
  | 8 => v = .int .i64 k
  | 9 => v = .int .i64 k
  | 10 => SmE w H v (l.take k) ∧ ∃ A, v = .slice A k k
  | 11 => v = rv
  | 12 => SmE w H v (l.take k ++ ([q] ++ l.drop k))
  | 13 => v = .pointer (some ⟨H, m, none⟩)
  | _ => True
theorem FE3.kept {N H B m k n cc : Nat} {a : Option Addr} {qi : Int} {q : Nat} {l : List Nat} {w w' : World} (h : KeptBut H w w') (ix : Nat) (v : Value) (hF : FE3 N H B m k n cc a qi q l ix v w) : FE3 N H B m k n cc a qi q l ix v w' := by
  unfold FE3 at hF ⊢
  split at hF
  all_goals first | exact hF | exact ⟨hF.1.kept h.2, hF.2⟩ | exact SmE.kept hF h.2
theorem FE4.kept {N H B m k n cc : Nat} {a : Option Addr} {rv : Value} {q : Nat} {l : List Nat} {w w' : World} (h : KeptBut H w w') (ix : Nat) (v : Value) (hF : FE4 N H B m k n cc a rv q l ix v w) : FE4 N H B m k n cc a rv q l ix v w' := by
  unfold FE4 at hF ⊢
  split at hF
  all_goals first | exact hF | exact ⟨hF.1.kept h.2, hF.2⟩ | exact SmE.kept hF h.2
theorem ite_below {w w' : World} {H : Nat} {p q : Bool} {l m : List (List Nat)} (h : if p = true then ArE w H l else ArE w H m) (hb : Below w.heap.size w w') (e : p = q) : if q = true then ArE w' H l else ArE w' H m := by
  subst e
  cases p
  · exact ArE.below h hb
  · exact ArE.below h hb
set_option maxHeartbeats 16000000 in
set_option maxRecDepth 100000 in
theorem around_n (n0 : Nat) (hn0 : Fq n0) (N : Nat) (hN : N = 10 * n0 * n0 + 2) (w : World) :
    Calls Tryz.prog 44 #[.int .i64 n0] w fun e w' => ∃ H : Nat, e = .returned (.slice (some ⟨H, 0, none⟩) N N) ∧ ArE w' H (adjN N (cellsN n0)) ∧ Below w.heap.size w w' ∧ w.heap.size ≤ H := by
  have HCe := Lib.hid (fun w' => cells_n n0 hn0 w')
  have HCo := Lib.hid (fun w' => count_n n0 hn0 w')
  rw [← hN] at HCo
  obtain ⟨cs, hcs⟩ : ∃ cs, cs = cellsN n0 := ⟨_, rfl⟩
  have hok := cellsN_ok hn0
  rw [← hcs, ← hN] at hok
  have HOk : Hid (∀ c ∈ cs, c.1 < N ∧ c.2.1 < N ∧ c.2.2 < N) := fun c hc => by have := hok c hc; omega
  have hraw := rawTo_len (n := n0) (k := 20) (i := 0) (j := 0) hn0.2 (Nat.le_refl _) (Nat.zero_le _) (Nat.zero_le _)
  rw [rawTo_end] at hraw
  have hml : cs.length ≤ 3000 := by rw [hcs, (cellsN_perm n0).length_eq]; exact hraw
  have hN8 : 2 ≤ N ∧ N ≤ 1000 := by
    have h8 : n0 ≤ 8 := hn0.2
    have := Nat.mul_le_mul (Nat.mul_le_mul_left 10 h8) h8
    omega
  have hc0 : 0 < cs.length := by
    rw [hcs, (cellsN_perm n0).length_eq]
    rcases hn0.cases with rfl | rfl | rfl | rfl | rfl | rfl | rfl | rfl <;> (show 0 < (_ :: _ : List Tri).length; simp)
  obtain ⟨M, hM⟩ : ∃ M, M = cs.length := ⟨_, rfl⟩
  have HM : Hid (M = cs.length) := hM
  rw [← hM] at hml hc0
  have HPl : Hid (∀ c i, adjTo N cs c i = adjTo N cs c i) := fun _ _ => rfl
  have HL0 : Hid (∀ c i, ∀ l ∈ adjTo N cs c i, l.length ≤ 30000) := fun c i l hl => adjTo_rows N cs c i (by rw [← hM]; omega) l hl
  rw [← hcs]
  rw [← hcs] at HCe
  clear hcs hok hraw hM hN hn0 HPl
  go_enter Tryz.func44, Tryz.ntmps44
  go_wp2_with fail
  refine (HCe.out _).mono ?_
  rintro e w1 ⟨v, rfl, hown, hb1⟩
  obtain ⟨g, cap, rfl, hg, hcap, hcm, hc⟩ := hown.at (by rw [← HM.out]; exact hc0)
  rw [← HM.out] at hcap ⊢
  have hMc : (M : Int) ≤ (cap : Int) := by omega
  have HC : Hid (M ≤ cap ∧ cap ≤ 9223372036854775807) := ⟨hcap, hcm⟩
  have HCl : Hid (TrsAt w1 g cs) := hc
  have HB1 := Lib.hid hb1
  clear hown hcap hcm hc hg hb1
  go_wp2_with fail
  refine (HCo.out _).mono ?_
  rintro e w2 ⟨rfl, rfl⟩
  have hmk := run_make_row' (P := Tryz.prog) 92 34 (.slice none 0 0) 24 Tryz.underlying92 sinfoN rfl .i64 .i64 N (by omega) (by omega)
  go_wp2_with fail
  have HS : Hid (ArX w (w1.alloc (.cells (nilsN N) 34)) w1.heap.size g cs (adjTo N cs 0 0)) := ⟨by rw [adjTo_start]; exact ArE.fresh w1 N, HCl.out.below ((Below.refl _ _).alloc (Nat.le_refl _) _), by
    have h := HCl.out 0 (by rw [← HM.out]; exact hc0) 0 _ rfl
    exact World.block_lt_of_cell? _ _ h, HB1.out.alloc HB1.out.size _, HB1.out.size⟩
  obtain ⟨H, hH⟩ : ∃ H, H = w1.heap.size := ⟨_, rfl⟩
  rw [← hH] at HS ⊢
  generalize w1.alloc (.cells (nilsN N) 34) = w2 at HS ⊢
  clear hH HCl HB1 hmk
  go_loopw [22] (fun kv wr => ∃ c : Nat, c ≤ M ∧ kv = .int .i64 c ∧ Hid (ArX w wr H g cs (adjTo N cs c 0))) (fun kv _ => (3000 - intOf kv).toNat)
  case atStart => exact ⟨0, by omega, rfl, HS⟩
  case round =>
    clear HS
    obtain ⟨c, hc, rfl, hs⟩ := hrel
    by_cases hlt : c < M
    · have c0 : (c : Int) < (M : Int) := by omega
      have c2 : (c : Int) ≤ 3000 := by omega
      have hcl : c < cs.length := by rw [← HM.out]; exact hlt
      have hcc := hs.out.cl c hcl
      have HOc := Lib.hid (HOk.out cs[c] (List.getElem_mem hcl))
      have HGc : Hid (cs.getD c (0, 0, 0) = cs[c]) := by unfold Hid; rw [List.getD_eq_getElem?_getD, List.getElem?_eq_getElem hcl]; rfl
      have HStp := Lib.hid (fun i hi => adjTo_step N cs c i hi)
      have HNx := Lib.hid (adjTo_next N cs c hcl)
      rw [HGc.out] at HStp
      generalize cs[c] = tr at *
      obtain ⟨x, hxe⟩ : ∃ x : Int, x = (tr.1 : Int) := ⟨_, rfl⟩
      obtain ⟨y, hye⟩ : ∃ x : Int, x = (tr.2.1 : Int) := ⟨_, rfl⟩
      obtain ⟨z, hze⟩ : ∃ x : Int, x = (tr.2.2 : Int) := ⟨_, rfl⟩
      have hx : wr.cell? ⟨g, c * 3, none⟩ = some (.int .i64 x) := by rw [hxe]; exact hcc 0 _ rfl
      have hy : wr.cell? ⟨g, c * 3 + 1, none⟩ = some (.int .i64 y) := by rw [hye]; exact hcc 1 _ rfl
      have hz : wr.cell? ⟨g, c * 3 + 2, none⟩ = some (.int .i64 z) := by rw [hze]; exact hcc 2 _ rfl
      have Hxe := Lib.hid (And.intro hxe (And.intro hye hze))
      clear hxe hye hze hcc hcl
      go_wp2_with fail
      have HS3 : Hid (ArX w _ H g cs (adjTo N cs c 0)) := hs.out.then (((Below.refl _ _).alloc (Nat.le_refl _) (.cells #[.int .i64 x, .int .i64 y, .int .i64 z] 114)).alloc (by simp) (.cells #[.int .i64 x, .int .i64 y, .int .i64 x, .int .i64 z, .int .i64 y, .int .i64 z, .int .i64 y, .int .i64 x, .int .i64 z, .int .i64 x, .int .i64 z, .int .i64 y] 62))
      have HP3 : Hid (PrsAt _ _ (prs tr)) := PrsAt.new (wr.alloc (.cells #[.int .i64 x, .int .i64 y, .int .i64 z] 114)) x y z tr Hxe.out.1 Hxe.out.2.1 Hxe.out.2.2 62
      have HPH : Hid ((wr.alloc (.cells #[.int .i64 x, .int .i64 y, .int .i64 z] 114)).heap.size ≠ H) := by
        have := hs.out.ar.1
        unfold Hid; simp; omega
      obtain ⟨PB, hPB⟩ : ∃ PB, PB = (wr.alloc (.cells #[.int .i64 x, .int .i64 y, .int .i64 z] 114)).heap.size := ⟨_, rfl⟩
      have hPB' : PB = wr.heap.size + 1 := by rw [hPB]; simp
      rw [← hPB] at HP3 HPH
      try rw [← hPB']
      try rw [← hPB]
      generalize (wr.alloc (.cells #[.int .i64 x, .int .i64 y, .int .i64 z] 114)).alloc (.cells #[.int .i64 x, .int .i64 y, .int .i64 x, .int .i64 z, .int .i64 y, .int .i64 z, .int .i64 y, .int .i64 x, .int .i64 z, .int .i64 x, .int .i64 z, .int .i64 y] 62) = w3 at HS3 HP3 ⊢
      clear hPB hPB' hx hy hz hs Hxe
      have HOp : Hid (∀ i, (hi : i < 6) → ((prs tr)[i]'hi).1 < N ∧ ((prs tr)[i]'hi).2 < N) := by
        intro i hi
        have h := HOc.out
        have : i = 0 ∨ i = 1 ∨ i = 2 ∨ i = 3 ∨ i = 4 ∨ i = 5 := by omega
        rcases this with rfl | rfl | rfl | rfl | rfl | rfl
        · exact ⟨h.1, h.2.1⟩
        · exact ⟨h.1, h.2.2⟩
        · exact ⟨h.2.1, h.2.2⟩
        · exact ⟨h.2.1, h.1⟩
        · exact ⟨h.2.2, h.1⟩
        · exact ⟨h.2.2, h.2.1⟩
      obtain ⟨wout, rfl⟩ : ∃ wout : World, wout = wr := ⟨_, rfl⟩
      go_loopw [58] (fun kv wr => ∃ i : Nat, i ≤ 6 ∧ kv = .int .i64 i ∧ Hid (ArX w wr H g cs (adjTo N cs c i)) ∧ Hid (PrsAt wr PB (prs tr))) (fun kv _ => (6 - intOf kv).toNat)
      case atStart => exact ⟨0, by omega, rfl, HS3, HP3⟩
      case round =>
        clear HS3 HP3
        obtain ⟨i, hi, rfl, hs, hp⟩ := hrel
        by_cases hil : i < 6
        · have i0 : (i : Int) < 6 := by omega
          have hpp := hp.out i (show i < (prs tr).length from hil)
          have hop := HOp.out i hil
          have HSi2 := Lib.hid (HStp.out i hil)
          generalize (prs tr)[i]'hil = pq at *
          obtain ⟨m, q'⟩ := pq
          simp only at hpp hop HSi2
          obtain ⟨hp0, hq0⟩ := hpp
          obtain ⟨hmN, hqN⟩ := hop
          have HmN := Lib.hid hmN
          have p1 : (m : Int) < (N : Int) := by omega
          have HqN := Lib.hid hqN
          obtain ⟨q, hqe⟩ : ∃ q : Int, q = (q' : Int) := ⟨_, rfl⟩
          rw [← hqe] at hq0
          have Hqe := Lib.hid hqe
          clear hqe hmN hqN
          go_upto_block 4 with fail
          have HBx : Hid (_ ∧ _) := box2 wr m q 62
          have HSi : Hid (ArX w _ H g cs (adjTo N cs c i)) := hs.out.then ((Below.refl _ _).alloc (Nat.le_refl _) (.cells #[.int .i64 m, .int .i64 q] 62))
          have HPi : Hid (PrsAt _ PB (prs tr)) := hp.out.below ((Below.refl _ _).alloc (Nat.le_refl _) (.cells #[.int .i64 m, .int .i64 q] 62))
          have HBH : Hid (wr.heap.size ≠ H ∧ PB ≠ wr.heap.size) := by
            have h1 := hs.out.ar.1
            have h2 := World.block_lt_of_cell? _ _ hp0
            refine ⟨?_, ?_⟩
            · omega
            · simp at h2; omega
          obtain ⟨B, hB⟩ : ∃ B, B = wr.heap.size := ⟨_, rfl⟩
          rw [← hB] at HBx HBH ⊢
          generalize wr.alloc (.cells #[.int .i64 m, .int .i64 q] 62) = wi at HBx HSi HPi ⊢
          clear hp0 hq0 hs hp hB
          obtain ⟨wrr, rfl⟩ : ∃ wrr : World, wrr = wr := ⟨_, rfl⟩
          obtain ⟨L, hL⟩ : ∃ L, L = adjTo N cs c i := ⟨_, rfl⟩
          have HLl : Hid (L.length = N) := by unfold Hid; rw [hL]; exact adjTo_length N cs c i
          have hmL : m < L.length := by rw [HLl.out]; exact HmN.out
          have HLr : Hid (∀ l ∈ L, l.length ≤ 30000) := by unfold Hid; rw [hL]; exact HL0.out c i
          rw [← hL] at HSi HSi2
          clear hL
          obtain ⟨hf, a, n, cc, hn, hcell, hsm⟩ := HSi.out.ar.2 m hmL
          have hl30 := HLr.out _ (List.getElem_mem hmL)
          have HLg : Hid (L.getD m [] = L[m]) := by unfold Hid; rw [List.getD_eq_getElem?_getD, List.getElem?_eq_getElem hmL]; rfl
          have HmL := Lib.hid hmL
          obtain ⟨ll, hll⟩ : ∃ ll, ll = L[m] := ⟨_, rfl⟩
          replace hn : n = ll.length := by rw [hll]; exact hn
          replace hsm : SmE wi H (.slice a n cc) ll := by rw [hll]; exact hsm
          replace hl30 : ll.length ≤ 30000 := by rw [hll]; exact hl30
          replace HLg : Hid (L.getD m [] = ll) := by rw [hll]; exact HLg
          clear hll hmL
          have Hf := Lib.hid hf
          have Hn := Lib.hid hn
          have Hcell := Lib.hid hcell
          have Hsm := Lib.hid hsm
          have Hcc : Hid (n ≤ cc ∧ cc ≤ 9223372036854775807) := by
            obtain ⟨_, c', e, h1, h2, _⟩ := hsm
            obtain ⟨_, _, rfl⟩ : _ ∧ n = ll.length ∧ cc = c' := by simpa using e
            exact ⟨by omega, h2⟩
          have hn' : n ≤ 30000 := by omega
          clear hf hn hcell hsm
          go_cut [10] (fun kv wx => ∃ k : Nat, k ≤ n ∧ kv = .int .i64 k ∧ (∀ m, (hm : m < ll.length) → m < k → ll[m] < q') ∧ (∀ hk : k < ll.length, ¬ ll[k] < q') ∧ Below wi.heap.size wi wx)
          case first =>
            go_wp2_with fail
            go_loopw [10] (fun kv wr => ∃ k : Nat, k ≤ n ∧ kv = .int .i64 k ∧ Hid (∀ m, (hm : m < ll.length) → m < k → ll[m] < q') ∧ Hid (Below wi.heap.size wi wr)) (fun kv _ => (40000 - intOf kv).toNat)
            case atStart => exact ⟨0, by omega, rfl, fun m _ h => absurd h (Nat.not_lt_zero m), Below.refl _ _⟩
            case round =>
              obtain ⟨k, hk, rfl, hlow, hb⟩ := hrel
              have hB0 := cell_then hb.out HBx.out.1
              have hB1 := cell_then hb.out HBx.out.2
              have hA := cell_then hb.out Hcell.out
              by_cases hkn : k < n
              · have hkl : k < ll.length := by rw [← Hn.out]; exact hkn
                obtain ⟨ab, ao, rfl, hz⟩ := Hsm.out.at k hkl
                obtain ⟨z, hze⟩ : ∃ z : Int, z = (ll[k] : Int) := ⟨_, rfl⟩
                rw [← hze] at hz
                have Hze : Hid (z = (ll[k] : Int)) := hze
                clear hze
                have hz' := cell_then hb.out hz
                have k0 : (k : Int) < (n : Int) := by omega
                have k1 : (k : Int) ≤ 30000 := by omega
                clear hz
                by_cases hzq : z < q
                · go_wp2_with fail
                  go_quiet (fail)
                  go_wp2_with fail
                  go_roundw
                  case rel => exact ⟨k + 1, by omega, by go_num, fun m hm hmk => by
                    by_cases e : m = k
                    · subst e; have h1 := Hze.out; have h2 := Hqe.out; omega
                    · exact hlow.out m hm (by omega), belowN hb.out _⟩
                  case measure => simp [intOf]; omega
                · have e0 : decide (z < q) = false := by simp; omega
                  have e1 : q ≤ z := by omega
                  go_wp2_with fail
                  go_quiet (fail)
                  go_wp2_with fail
                  go_meet
                  exact ⟨k, hk, rfl, hlow.out, fun _ h => by have h1 := Hze.out; have h2 := Hqe.out; omega, belowN hb.out _⟩
              · have hkn' : k = n := by omega
                have e0 : decide ((k : Int) < (n : Int)) = false := by simp; omega
                clear hkn'
                go_wp2_with fail
                go_quiet (fail)
                go_wp2_with fail
                go_meet
                exact ⟨k, hk, rfl, hlow.out, fun h => absurd h (by have := Hn.out; omega), belowN hb.out _⟩
          case rest =>
            obtain ⟨k, hk, rfl, hlow, hstop, hb⟩ := hcut
            have HIns := Lib.hid (insU_at q' ll k (by have := Hn.out; omega) hlow hstop)
            clear hlow hstop
            have Hbc := Lib.hid hb
            have hB0 := cell_then hb HBx.out.1
            have hB1 := cell_then hb HBx.out.2
            have hA := cell_then hb Hcell.out
            clear hb
            go_upto_region 12 with fail
            go_cut [105] (fun bv wx => ∃ b : Bool, bv = .bool b ∧ (b = true → insU q' ll = ll) ∧ (b = false → insU q' ll = ll.take k ++ q' :: ll.drop k) ∧ Below wi.heap.size wi wx)
            case first =>
              by_cases hkn : k < n
              · have hkl : k < ll.length := by rw [← Hn.out]; exact hkn
                obtain ⟨ab, ao, rfl, hz⟩ := Hsm.out.at k hkl
                obtain ⟨z, hze⟩ : ∃ z : Int, z = (ll[k] : Int) := ⟨_, rfl⟩
                rw [← hze] at hz
                have HI1 : Hid (z = q → insU q' ll = ll) := fun e => HIns.out.1 hkl (by have := Hqe.out; omega)
                have HI2 : Hid (z ≠ q → insU q' ll = ll.take k ++ q' :: ll.drop k) := fun e => HIns.out.2 (fun _ h => e (by have := Hqe.out; omega))
                clear hze
                have hz' := cell_then Hbc.out hz
                have k0 : (k : Int) < (n : Int) := by omega
                have k1 : (k : Int) ≤ 30000 := by omega
                clear hz
                by_cases hzq : z = q
                · subst hzq
                  go_wp2_with fail
                  go_quiet (fail)
                  try go_wp2_with fail
                  go_meet
                  exact ⟨_, rfl, fun _ => HI1.out (by first | rfl | trivial), fun h => by simp at h, belowN Hbc.out _⟩
                · have e0 : (z == q) = false := by simpa using hzq
                  go_wp2_with fail
                  go_quiet (fail)
                  try go_wp2_with fail
                  go_meet
                  exact ⟨_, rfl, fun h => by simp at h, fun _ => HI2.out hzq, belowN Hbc.out _⟩
              · have hkn' : k = n := by omega
                have e0 : decide ((k : Int) < (n : Int)) = false := by simp; omega
                clear hkn'
                go_wp2_with fail
                go_quiet (fail)
                try go_wp2_with fail
                go_meet
                exact ⟨_, rfl, fun h => by simp at h, fun _ => HIns.out.2 (fun h => absurd h (by have := Hn.out; omega)), belowN Hbc.out _⟩
            case rest =>
              obtain ⟨b, rfl, hb1, hb2, hb⟩ := hcut
              clear Hbc hB0 hB1 hA
              have Hbc := Lib.hid hb
              cases b with
              | true =>
                have HT : Hid (adjTo N cs c (i + 1) = L) := by
                  unfold Hid
                  rw [HSi2.out]
                  unfold adjStep
                  simp only
                  rw [HLg.out, hb1 rfl]
                  have hm := HmL.out
                  have e := HLg.out
                  rw [List.getD_eq_getElem?_getD, List.getElem?_eq_getElem hm] at e
                  have e : L[m] = ll := e
                  rw [← e, List.set_getElem_self]
                clear hb1 hb2
                go_wp2_with fail
                go_roundw
                case rel => exact ⟨i + 1, by omega, by go_num, by rw [HT.out]; exact HSi.out.then hb, HPi.out.below hb⟩
                case measure => simp [intOf]; omega
              | false =>
                have HT : Hid (adjTo N cs c (i + 1) = L.set m (ll.take k ++ q' :: ll.drop k)) := by
                  unfold Hid
                  rw [HSi2.out]
                  unfold adjStep
                  simp only
                  rw [HLg.out, hb2 rfl]
                clear hb hb1 hb2
                go_upto_region 13 with fail
                have Hk := Lib.hid hk
                have HH : Hid (H < wi.heap.size) := HSi.out.ar.1
                have hl30 : Hid (ll.length ≤ 30000) := hl30
                have M1 : (m : Int) < (N : Int) := p1
                refine wp_region_slots2 (by kernel_rfl) 134 rfl (by kernel_rfl) (by kernel_rfl) 106 11 11 1 (by kernel_rfl) (fun d w' => Below wi.heap.size wi w') (FE3 N H B m k n cc a q q' ll) ?hS0 ?hop ?hend
                case hS0 => exact Hbc.out.drew
                case hop =>
                  refine ⟨?_, ?_, ?_, ?_, ?_, ?_, ?_, ?_, ?_, ?_, ?_, ?_, trivial⟩
                  all_goals intro d ac wx hd hcl hS hA haft K hK
                  · have f9 : ac.tmps.getD 9 undef = .pointer (some ⟨B, 0, none⟩) := same_slot hA 9 (by kernel_rfl)
                    refine hop_val rfl (.pointer (some ⟨B, 1, none⟩)) (w' := wx) ?_ (hK _ _ rfl (fun _ _ _ h => h) hS)
                    simp [execOp, Act.eval, f9, go_sem, -Array.getD_eq_getD_getElem?]
                  · have c1 := cell_then hS HBx.out.2
                    have f106 : ac.tmps.getD 106 undef = .pointer (some ⟨B, 1, none⟩) := (haft ⟨0, .data⟩ (by simp) rfl).2 _ rfl
                    refine hop_val rfl (.int .i64 q) (w' := wx) ?_ (hK _ _ rfl (fun _ _ _ h => h) hS)
                    simp [execOp, Act.eval, f106, c1, go_sem, -Array.getD_eq_getD_getElem?]
                  · have f107 : ac.tmps.getD 107 undef = .int .i64 q := (haft ⟨1, .data⟩ (by simp) rfl).2 _ rfl
                    refine hop_val rfl (.slice (some ⟨wx.heap.size, 0, none⟩) 1 1) (w' := wx.alloc (.cells #[.int .i64 q] 3)) ?_ (hK _ _ ⟨by have h := sm_litE (Nat.lt_of_lt_of_le HH.out hS.size) q'; rw [← Hqe.out] at h; exact h, _, rfl⟩ (fun k' u _ h => FE3.kept (KeptBut.of ((Below.refl _ _).alloc (Nat.le_refl _) _)) k' u h) (hS.alloc hS.size _))
                    simp [execOp, Act.eval, f107, run_lit, -Array.getD_eq_getD_getElem?]
                  · have f5 : ac.tmps.getD 5 undef = .slice (some ⟨H, 0, none⟩) N N := same_slot hA 5 (by kernel_rfl)
                    refine hop_val rfl (.slice (some ⟨H, 0, none⟩) N N) (w' := wx) ?_ (hK _ _ rfl (fun _ _ _ h => h) hS)
                    simp [execOp, Act.eval, f5, go_sem, -Array.getD_eq_getD_getElem?]
                  · have f9 : ac.tmps.getD 9 undef = .pointer (some ⟨B, 0, none⟩) := same_slot hA 9 (by kernel_rfl)
                    refine hop_val rfl (.pointer (some ⟨B, 0, none⟩)) (w' := wx) ?_ (hK _ _ rfl (fun _ _ _ h => h) hS)
                    simp [execOp, Act.eval, f9, go_sem, -Array.getD_eq_getD_getElem?]
                  · have c0 := cell_then hS HBx.out.1
                    have f110 : ac.tmps.getD 110 undef = .pointer (some ⟨B, 0, none⟩) := (haft ⟨4, .data⟩ (by simp) rfl).2 _ rfl
                    refine hop_val rfl (.int .i64 m) (w' := wx) ?_ (hK _ _ rfl (fun _ _ _ h => h) hS)
                    simp [execOp, Act.eval, f110, c0, go_sem, -Array.getD_eq_getD_getElem?]
                  · have f109 : ac.tmps.getD 109 undef = .slice (some ⟨H, 0, none⟩) N N := (haft ⟨3, .data⟩ (by simp) rfl).2 _ rfl
                    have f111 : ac.tmps.getD 111 undef = .int .i64 m := (haft ⟨5, .data⟩ (by simp) rfl).2 _ rfl
                    refine hop_val rfl (.pointer (some ⟨H, m, none⟩)) (w' := wx) ?_ (hK _ _ rfl (fun _ _ _ h => h) hS)
                    simp [execOp, Act.eval, f109, f111, M1, go_sem, -Array.getD_eq_getD_getElem?]
                  · have ch := cell_then hS Hcell.out
                    have f112 : ac.tmps.getD 112 undef = .pointer (some ⟨H, m, none⟩) := (haft ⟨6, .data⟩ (by simp) rfl).2 _ rfl
                    refine hop_val rfl (.slice a n cc) (w' := wx) ?_ (hK _ _ rfl (fun _ _ _ h => h) hS)
                    simp [execOp, Act.eval, f112, ch, go_sem, -Array.getD_eq_getD_getElem?]
                  · have f10 : ac.tmps.getD 10 undef = .int .i64 k := same_slot hA 10 (by kernel_rfl)
                    refine hop_val rfl (.int .i64 k) (w' := wx) ?_ (hK _ _ rfl (fun _ _ _ h => h) hS)
                    simp [execOp, Act.eval, f10, go_sem, -Array.getD_eq_getD_getElem?]
                  · have f113 : ac.tmps.getD 113 undef = .slice a n cc := (haft ⟨7, .data⟩ (by simp) rfl).2 _ rfl
                    have f114 : ac.tmps.getD 114 undef = .int .i64 k := (haft ⟨8, .data⟩ (by simp) rfl).2 _ rfl
                    refine hop_val rfl (.slice (if cc = k then a else a.map (·.add k)) (n - k) (cc - k)) (w' := wx) ?_ (hK _ _ (sm_fromE (Hsm.out.below hS) Hn.out Hcc.out.1 k Hk.out) (fun _ _ _ h => h) hS)
                    simp [execOp, Act.eval, f113, f114, run_from a n cc k Hk.out, -Array.getD_eq_getD_getElem?]
                  · obtain ⟨g108, A8, e108⟩ := (haft ⟨2, .data⟩ (by simp) rfl).2 _ rfl
                    have g115 := (haft ⟨9, .data⟩ (by simp) rfl).2 _ rfl
                    have f108 : ac.tmps.getD 108 undef = .slice A8 1 1 := e108
                    obtain ⟨x115, f115⟩ : ∃ x, ac.tmps.getD 115 undef = x := ⟨_, rfl⟩
                    have g108 : SmE wx H (ac.tmps.getD 108 undef) [q'] := g108
                    have g115 : SmE wx H (ac.tmps.getD 115 undef) (ll.drop k) := g115
                    rw [f108] at g108
                    rw [f115] at g115
                    obtain ⟨v', w', hrun, hv', hb'⟩ := sm_appendE g108 ⟨_, rfl⟩ g115 (Nat.lt_of_lt_of_le HH.out hS.size) (by rw [List.length_drop]; have := hl30.out; simp; omega) 34
                    refine hop_val rfl v' (w' := w') ?_ (hK _ _ hv' (fun k' u _ h => FE3.kept (KeptBut.of hb') k' u h) (below_then hS hb'))
                    unfold execOp
                    simp only [resolve, invoke, builtin, Sem.run_bind, Sem.run_pure, Result.andThen_ok, List.map_toArray, List.map_cons, List.map_nil, Act.eval, f108, f115, hrun]
                  · have g116 : SmE wx H (ac.tmps.getD 116 undef) ([q'] ++ ll.drop k) := (haft ⟨10, .data⟩ (by simp) rfl).2 _ rfl
                    refine hop_val rfl (ac.tmps.getD 116 undef) (w' := wx) ?_ (hK _ _ g116 (fun _ _ _ h => h) hS)
                    simp [execOp, Act.eval, go_sem, -Array.getD_eq_getD_getElem?]
                case hend =>
                  intro u wd d hd hS hF
                  have hrv : SmE wd H (u 11) ([q'] ++ ll.drop k) := hF 11 _ rfl
                  obtain ⟨rv, hrveq⟩ : ∃ rv, rv = u 11 := ⟨_, rfl⟩
                  rw [← hrveq] at hrv
                  have Hrd := Lib.hid hrv
                  have HSd : Hid (ArX w wd H g cs L) := HSi.out.then hS
                  have HPd : Hid (PrsAt wd PB (prs tr)) := HPi.out.below hS
                  have HBd : Hid (wd.cell? ⟨B, 0, none⟩ = some (.int .i64 m)) := cell_then hS HBx.out.1
                  have HCd : Hid (wd.cell? ⟨H, m, none⟩ = some (.slice a n cc)) := cell_then hS Hcell.out
                  have Hsd : Hid (SmE wd H (.slice a n cc) ll) := Hsm.out.below hS
                  have HH2 : Hid (H < wd.heap.size) := HSd.out.ar.1
                  have HBase : Hid (w.heap.size ≤ H) := HSd.out.base
                  clear hF hd hS hrv d
                  simp only [mixL]
                  rw [← hrveq]
                  clear hrveq
                  go_upto_region 14 with fail
                  refine wp_region_slots (by kernel_rfl) 134 rfl (by kernel_rfl) (by kernel_rfl) 117 14 (by kernel_rfl) (fun d w' => Below w.heap.size w w' ∧ KeptBut H wd w' ∧ (if d 14 = true then ArE w' H (L.set m (ll.take k ++ q' :: ll.drop k)) else ArE w' H L) ∧ (d 14 = false → w'.cell? ⟨H, m, none⟩ = some (.slice a n cc))) (FE4 N H B m k n cc a rv q' ll) ?hS1 ?hop1 ?hend1
                  case hS1 => exact ⟨HSd.out.below.drew, ⟨Nat.le_refl _, fun _ _ _ => rfl⟩, by rw [if_neg (by simp)]; exact HSd.out.ar.below (Below.refl _ _).drew, fun _ => HCd.out⟩
                  case hop1 =>
                    refine ⟨?_, ?_, ?_, ?_, ?_, ?_, ?_, ?_, ?_, ?_, ?_, ?_, ?_, ?_, ?_, trivial⟩
                    all_goals intro d ac wx hd hcl hS hA haft K hK
                    · have f5 : ac.tmps.getD 5 undef = .slice (some ⟨H, 0, none⟩) N N := same_slot hA 5 (by kernel_rfl)
                      refine hop_val rfl (.slice (some ⟨H, 0, none⟩) N N) (w' := wx) ?_ (hK _ _ rfl (fun _ _ _ h => h) hS)
                      simp [execOp, Act.eval, f5, go_sem, -Array.getD_eq_getD_getElem?]
                    · have f9 : ac.tmps.getD 9 undef = .pointer (some ⟨B, 0, none⟩) := same_slot hA 9 (by kernel_rfl)
                      refine hop_val rfl (.pointer (some ⟨B, 0, none⟩)) (w' := wx) ?_ (hK _ _ rfl (fun _ _ _ h => h) hS)
                      simp [execOp, Act.eval, f9, go_sem, -Array.getD_eq_getD_getElem?]
                    · have c0 := hS.2.1.cell HBd.out HBH.out.1
                      have f118 : ac.tmps.getD 118 undef = .pointer (some ⟨B, 0, none⟩) := (haft ⟨1, .data⟩ (by simp) rfl).2 _ rfl
                      refine hop_val rfl (.int .i64 m) (w' := wx) ?_ (hK _ _ rfl (fun _ _ _ h => h) hS)
                      simp [execOp, Act.eval, f118, c0, go_sem, -Array.getD_eq_getD_getElem?]
                    · have f5 : ac.tmps.getD 5 undef = .slice (some ⟨H, 0, none⟩) N N := same_slot hA 5 (by kernel_rfl)
                      refine hop_val rfl (.slice (some ⟨H, 0, none⟩) N N) (w' := wx) ?_ (hK _ _ rfl (fun _ _ _ h => h) hS)
                      simp [execOp, Act.eval, f5, go_sem, -Array.getD_eq_getD_getElem?]
                    · have f9 : ac.tmps.getD 9 undef = .pointer (some ⟨B, 0, none⟩) := same_slot hA 9 (by kernel_rfl)
                      refine hop_val rfl (.pointer (some ⟨B, 0, none⟩)) (w' := wx) ?_ (hK _ _ rfl (fun _ _ _ h => h) hS)
                      simp [execOp, Act.eval, f9, go_sem, -Array.getD_eq_getD_getElem?]
                    · have c0 := hS.2.1.cell HBd.out HBH.out.1
                      have f121 : ac.tmps.getD 121 undef = .pointer (some ⟨B, 0, none⟩) := (haft ⟨4, .data⟩ (by simp) rfl).2 _ rfl
                      refine hop_val rfl (.int .i64 m) (w' := wx) ?_ (hK _ _ rfl (fun _ _ _ h => h) hS)
                      simp [execOp, Act.eval, f121, c0, go_sem, -Array.getD_eq_getD_getElem?]
                    · have f120 : ac.tmps.getD 120 undef = .slice (some ⟨H, 0, none⟩) N N := (haft ⟨3, .data⟩ (by simp) rfl).2 _ rfl
                      have f122 : ac.tmps.getD 122 undef = .int .i64 m := (haft ⟨5, .data⟩ (by simp) rfl).2 _ rfl
                      refine hop_val rfl (.pointer (some ⟨H, m, none⟩)) (w' := wx) ?_ (hK _ _ rfl (fun _ _ _ h => h) hS)
                      simp [execOp, Act.eval, f120, f122, M1, go_sem, -Array.getD_eq_getD_getElem?]
                    · have h14 : d 14 = false := by
                        cases hd14 : d 14 with
                        | false => rfl
                        | true =>
                          have := hcl 14 _ rfl hd14 ⟨7, .phase⟩ (by simp) rfl
                          rw [hd] at this; cases this
                      have ch := hS.2.2.2 h14
                      have f123 : ac.tmps.getD 123 undef = .pointer (some ⟨H, m, none⟩) := (haft ⟨6, .data⟩ (by simp) rfl).2 _ rfl
                      refine hop_val rfl (.slice a n cc) (w' := wx) ?_ (hK _ _ rfl (fun _ _ _ h => h) hS)
                      simp [execOp, Act.eval, f123, ch, go_sem, -Array.getD_eq_getD_getElem?]
                    · have f10 : ac.tmps.getD 10 undef = .int .i64 k := same_slot hA 10 (by kernel_rfl)
                      refine hop_val rfl (.int .i64 k) (w' := wx) ?_ (hK _ _ rfl (fun _ _ _ h => h) hS)
                      simp [execOp, Act.eval, f10, go_sem, -Array.getD_eq_getD_getElem?]
                    · have f10 : ac.tmps.getD 10 undef = .int .i64 k := same_slot hA 10 (by kernel_rfl)
                      refine hop_val rfl (.int .i64 k) (w' := wx) ?_ (hK _ _ rfl (fun _ _ _ h => h) hS)
                      simp [execOp, Act.eval, f10, go_sem, -Array.getD_eq_getD_getElem?]
                    · have f124 : ac.tmps.getD 124 undef = .slice a n cc := (haft ⟨7, .data⟩ (by simp) rfl).2 _ rfl
                      have f125 : ac.tmps.getD 125 undef = .int .i64 k := (haft ⟨8, .data⟩ (by simp) rfl).2 _ rfl
                      have f126 : ac.tmps.getD 126 undef = .int .i64 k := (haft ⟨9, .data⟩ (by simp) rfl).2 _ rfl
                      refine hop_val rfl (.slice a k k) (w' := wx) ?_ (hK _ _ ⟨sm_toE (Hsd.out.kept hS.2.1.2) Hn.out k Hk.out, _, rfl⟩ (fun _ _ _ h => h) hS)
                      simp [execOp, Act.eval, f124, f125, f126, run_to a n cc k Hk.out Hcc.out.1, -Array.getD_eq_getD_getElem?]
                    · have f11 : ac.tmps.getD 11 undef = rv := same_slot hA 11 (by kernel_rfl)
                      refine hop_val rfl (rv) (w' := wx) ?_ (hK _ _ rfl (fun _ _ _ h => h) hS)
                      simp [execOp, Act.eval, f11, go_sem, -Array.getD_eq_getD_getElem?]
                    · obtain ⟨g127, A7, e127⟩ := (haft ⟨10, .data⟩ (by simp) rfl).2 _ rfl
                      have f127 : ac.tmps.getD 127 undef = .slice A7 k k := e127
                      have f128 : ac.tmps.getD 128 undef = rv := (haft ⟨11, .data⟩ (by simp) rfl).2 _ rfl
                      have g127 : SmE wx H (ac.tmps.getD 127 undef) (ll.take k) := g127
                      rw [f127] at g127
                      have hlt := Nat.lt_of_lt_of_le HH2.out hS.2.1.1
                      have hkt : (ll.take k).length = k := by rw [List.length_take]; have h1 := Hk.out; have h2 := Hn.out; omega
                      obtain ⟨v', w', hrun, hv', hb'⟩ := sm_appendE g127 ⟨A7, by rw [hkt]⟩ (Hrd.out.kept hS.2.1.2) hlt (by rw [hkt, List.length_append, List.length_drop]; have h1 := Hk.out; have h2 := Hn.out; have h3 := hl30.out; simp; omega) 34
                      refine hop_val rfl v' (w' := w') ?_ (hK _ _ hv' (fun k' u _ h => FE4.kept (KeptBut.of hb') k' u h) ⟨below_then hS.1 hb', hS.2.1.trans (KeptBut.of hb'), (ite_below hS.2.2.1 hb' (by simp)), fun h => cell_then hb' (hS.2.2.2 (by simpa using h))⟩)
                      unfold execOp
                      simp only [resolve, invoke, builtin, Sem.run_bind, Sem.run_pure, Result.andThen_ok, List.map_toArray, List.map_cons, List.map_nil, Act.eval, f127, f128, hrun]
                    · have f117 : ac.tmps.getD 117 undef = .slice (some ⟨H, 0, none⟩) N N := (haft ⟨0, .data⟩ (by simp) rfl).2 _ rfl
                      have f119 : ac.tmps.getD 119 undef = .int .i64 m := (haft ⟨2, .data⟩ (by simp) rfl).2 _ rfl
                      refine hop_val rfl (.pointer (some ⟨H, m, none⟩)) (w' := wx) ?_ (hK _ _ rfl (fun _ _ _ h => h) hS)
                      simp [execOp, Act.eval, f117, f119, M1, go_sem, -Array.getD_eq_getD_getElem?]
                    · have g129 : SmE wx H (ac.tmps.getD 129 undef) (ll.take k ++ ([q'] ++ ll.drop k)) := (haft ⟨12, .data⟩ (by simp) rfl).2 _ rfl
                      have f130 : ac.tmps.getD 130 undef = .pointer (some ⟨H, m, none⟩) := (haft ⟨13, .data⟩ (by simp) rfl).2 _ rfl
                      have hAr : ArE wx H L := by have h := hS.2.2.1; rw [if_neg (by rw [hd]; simp)] at h; exact h
                      obtain ⟨q1, a0, n0', c0, _, q0, _⟩ := hAr.2 m HmL.out
                      obtain ⟨a9, c9, hsl⟩ : ∃ a c, ac.tmps.getD 129 undef = .slice a (ll.take k ++ ([q'] ++ ll.drop k)).length c := by obtain ⟨a, c, e, _⟩ := g129; exact ⟨a, c, e⟩
                      rw [hsl] at g129
                      obtain ⟨nn, hnn⟩ : ∃ nn, nn = (ll.take k ++ ([q'] ++ ll.drop k)).length := ⟨_, rfl⟩
                      rw [← hnn] at hsl g129
                      refine hop_none rfl (w' := wx.setCell ⟨H, m, none⟩ (.slice a9 nn c9)) ?_ (hK undef _ trivial (fun k' u _ h => FE4.kept (KeptBut.set H _ m _) k' u h) ⟨hS.1.setCell HBase.out _, hS.2.1.trans (KeptBut.set H _ m _), by rw [if_pos (by simp)]; exact hAr.set hnn g129 HmL.out, fun h => by simp at h⟩)
                      simp [execOp, Act.eval, f130, hsl, q0, q1, go_sem, -Array.getD_eq_getD_getElem?]
                  case hend1 =>
                    intro u2 we d hd hS hF
                    have hAr := hS.2.2.1
                    rw [if_pos (hd 14 (by decide))] at hAr
                    have HSe : Hid (ArX w we H g cs (adjTo N cs c (i + 1))) := ⟨by rw [HT.out]; exact hAr, HSd.out.cl.kept hS.2.1.2 (by have := HSd.out.low; omega), HSd.out.low, hS.1, HBase.out⟩
                    have HPe : Hid (PrsAt we PB (prs tr)) := HPd.out.kept hS.2.1.2 HPH.out
                    clear hF hd hS d hAr
                    simp only [mixL]
                    go_wp2_with fail
                    go_roundw
                    case rel => exact ⟨i + 1, by omega, by go_num, HSe, HPe⟩
                    case measure => simp [intOf]; omega
        · obtain rfl : i = 6 := by omega
          go_wp2_with fail
          go_roundw
          case rel => exact ⟨c + 1, by omega, by go_num, by rw [← HNx.out]; exact hs⟩
          case measure => simp [intOf]; omega
    · obtain rfl : c = M := by omega
      have HE : Hid (ArE wr H (adjN N cs)) := by
        have h := hs.out.ar
        rw [HM.out, adjTo_end] at h
        exact h
      have e0 : decide ((c : Int) < (c : Int)) = false := by simp
      go_wp2_with fail
      go_ret
      exact ⟨H, rfl, HE.out, hs.out.below, hs.out.base⟩
end Go.Proofs.YtkpgciimhjkajaaGreatDoor
/- The reference's grid at any frequency: its edges. -/
namespace Go.Proofs.YtkpgciimhjkajaaGreatDoor
open Go Go.RowKit
def ecl (e : Ed) : List Value := [.int .i64 (e.1 : Int), .int .i64 (e.2 : Int)]
def ecells (l : List Ed) : List Value := l.flatMap ecl
theorem ecells_append (a b : List Ed) : ecells (a ++ b) = ecells a ++ ecells b := by simp [ecells]
theorem ecells_length (l : List Ed) : (ecells l).length = l.length * 2 := by
  induction l with
  | nil => rfl
  | cons p r ih => simp [ecells, ecl] at ih ⊢; omega
theorem ecells_at : ∀ (l : List Ed) (i : Nat) (h : i < l.length) (j : Nat), j < 2 → (ecells l)[i * 2 + j]? = (ecl l[i])[j]?
  | p :: r, 0, _, j, hj => by
    show (ecl p ++ ecells r)[0 * 2 + j]? = _
    rw [Nat.zero_mul, Nat.zero_add, List.getElem?_append_left (by show j < 2; exact hj)]; rfl
  | p :: r, i + 1, h, j, hj => by
    show (ecl p ++ ecells r)[(i + 1) * 2 + j]? = _
    rw [List.getElem?_append_right (by show 2 ≤ _; omega)]
    have e : (i + 1) * 2 + j - (ecl p).length = i * 2 + j := by show _ - 2 = _; omega
    rw [e]
    exact ecells_at r i (by simpa using h) j hj
def OwnE2 (w : World) (base : Nat) (v : Value) (l : List Ed) : Prop := w.ownsRow base 95 2 v l.length (ecells l)
theorem OwnE2.nil (w : World) (base : Nat) : OwnE2 w base (.slice none 0 0) [] := World.ownsRow_nil w base _ 2
theorem OwnE2.below {w w' : World} {base : Nat} {v : Value} {l : List Ed} (h : OwnE2 w base v l) (hb : Below w.heap.size w w') : OwnE2 w' base v l := ownsRow_below h hb
theorem OwnE2.mono {w : World} {base B : Nat} {v : Value} {l : List Ed} (h : OwnE2 w base v l) (hB : B ≤ base) : OwnE2 w B v l := by
  obtain ⟨h1, h2⟩ := h
  refine ⟨h1, ?_⟩
  rcases h2 with h2 | ⟨g, cap, cur, e, hg, r⟩
  · exact Or.inl h2
  · exact Or.inr ⟨g, cap, cur, e, Nat.le_trans hB hg, r⟩
theorem OwnE2.slice {w : World} {base : Nat} {v : Value} {l : List Ed} (h : OwnE2 w base v l) : ∃ a c, v = .slice a l.length c := by
  rcases h.2 with ⟨e, h0⟩ | ⟨g, cap, cur, e, _⟩
  · exact ⟨none, 0, by rw [e, h0]⟩
  · exact ⟨_, _, e⟩
theorem OwnE2.at {w : World} {base : Nat} {v : Value} {l : List Ed} (h : OwnE2 w base v l) (h0 : 0 < l.length) : ∃ g cap, v = .slice (some ⟨g, 0, none⟩) l.length cap ∧ base ≤ g ∧ l.length ≤ cap ∧ cap ≤ 9223372036854775807 ∧ ∀ i, (hi : i < l.length) → w.rangeAt g (i * 2) (ecl l[i]) := by
  have h' := h
  obtain ⟨h1, h2⟩ := h
  rcases h2 with ⟨e, h0'⟩ | ⟨g, cap, cur, e, hg, hh, hc, hm, _⟩
  · omega
  · refine ⟨g, cap, e, hg, hc, by unfold maxLen at hm; omega, fun i hi j u hj => ?_⟩
    have hlt : j < 2 := (List.getElem?_eq_some_iff.1 hj).1
    rw [← ecells_at l i hi j hlt] at hj
    have := World.ownsRow.cells h' (g := g) (by rw [e]; rfl) _ _ hj
    rwa [Go.WideShapes.add_plain, Nat.zero_add] at this
theorem einfoN : (Tryz.prog.info? 95).map (fun i => (i.zero, i.size, i.bytes)) = some (some (.agg #[.int .i64 0, .int .i64 0]), 2, 16) := by kernel_rfl
theorem append_e2 {w : World} {base : Nat} {v : Value} {l : List Ed} (h : OwnE2 w base v l) (x : Ed) (hn : l.length ≤ 1000000000) (hb : base ≤ w.heap.size) (ty : TypeId) :
    ∃ (v' : Value) (w' : World), (Builtin.append_ #[76, 76] ty #[v, .slice (some ⟨w.heap.size, 0, none⟩) 1 1]).run Tryz.prog (w.alloc (.cells #[.int .i64 (x.1 : Int), .int .i64 (x.2 : Int)] 95)) = .ok v' w' ∧
      OwnE2 w' base v' (l ++ [x]) ∧ Below base w w' := by
  obtain ⟨v', w', h1, h2, h3⟩ := append_new 76 95 Tryz.underlying76 einfoN rfl (by decide) h [.int .i64 (x.1 : Int), .int .i64 (x.2 : Int)] 1 rfl (by intro u hu; simp at hu; rcases hu with rfl | rfl <;> rfl) hn (by omega) (by decide) hb ty
  refine ⟨v', w', h1, ?_, h3⟩
  unfold OwnE2
  rw [ecells_append, List.length_append]
  exact h2
def edTo (ls : List (List Nat)) (c i : Nat) : List Ed := ((List.range c).flatMap fun a => ((ls.getD a []).filter fun b => decide (a < b)).map fun b => (a, b)) ++ (((ls.getD c []).take i).filter fun b => decide (c < b)).map fun b => (c, b)
theorem edTo_step (ls : List (List Nat)) (c i : Nat) (l : List Nat) (hl : ls.getD c [] = l) (hi : i < l.length) : edTo ls c (i + 1) = if c < l[i] then edTo ls c i ++ [(c, l[i])] else edTo ls c i := by
  unfold edTo
  rw [hl, List.take_succ_eq_append_getElem hi, List.filter_append, List.map_append, ← List.append_assoc]
  split
  · rename_i h; simp [h]
  · rename_i h; simp [h]
theorem edTo_next (ls : List (List Nat)) (c : Nat) : edTo ls c (ls.getD c []).length = edTo ls (c + 1) 0 := by
  unfold edTo
  rw [List.range_succ, List.flatMap_append, List.take_length]
  simp
theorem edTo_end (ls : List (List Nat)) : edTo ls ls.length 0 = edR ls := by simp [edTo, edR]
theorem edTo_len (ls : List (List Nat)) (t : Nat) (h : ∀ l ∈ ls, l.length ≤ t) (c i : Nat) : (edTo ls c i).length ≤ t * c + t := by
  have hg : ∀ a, (ls.getD a []).length ≤ t := fun a => by
    by_cases ha : a < ls.length
    · rw [List.getD_eq_getElem?_getD, List.getElem?_eq_getElem ha]; exact h _ (List.getElem_mem ha)
    · rw [List.getD_eq_getElem?_getD, List.getElem?_eq_none (by omega)]; exact Nat.zero_le _
  unfold edTo
  rw [List.length_append, List.length_map]
  have h1 := flat_len (fun a => ((ls.getD a []).filter fun b => decide (a < b)).map fun b => (a, b)) t (fun a => by rw [List.length_map]; exact Nat.le_trans (List.length_filter_le _ _) (hg a)) (List.range c)
  have h2 : (((ls.getD c []).take i).filter fun b => decide (c < b)).length ≤ t := by
    refine Nat.le_trans (List.length_filter_le _ _) ?_
    rw [List.length_take]
    have := hg c
    omega
  rw [List.length_range] at h1
  omega
structure EdX (w3 wr : World) (v : Value) (l : List Ed) : Prop where
  own : OwnE2 wr w3.heap.size v l
  below : Below w3.heap.size w3 wr
set_option maxHeartbeats 16000000 in
set_option maxRecDepth 100000 in
theorem edges_n (n0 : Nat) (hn0 : Fq n0) (w : World) : Calls Tryz.prog 24 #[.int .i64 n0] w fun e w' => ∃ v, e = .returned (.tuple #[v, .int .i64 0]) ∧ OwnE2 w' w.heap.size v (edgesN n0) ∧ Below w.heap.size w w' := by
  obtain ⟨N, hN⟩ : ∃ N, N = 10 * n0 * n0 + 2 := ⟨_, rfl⟩
  have HCo := Lib.hid (fun w' => count_n n0 hn0 w')
  have HAr0 := Lib.hid (fun w' => around_n n0 hn0 N hN w')
  have hrows := adjTo_rows N (cellsN n0) (cellsN n0).length 0 (by
    have hraw := rawTo_len (n := n0) (k := 20) (i := 0) (j := 0) hn0.2 (Nat.le_refl _) (Nat.zero_le _) (Nat.zero_le _)
    rw [rawTo_end] at hraw
    rw [(cellsN_perm n0).length_eq]; omega)
  rw [adjTo_end] at hrows
  have hed : edgesN n0 = edR (adjN N (cellsN n0)) := by rw [hN]; rfl
  rw [← hN] at HCo
  have hN8 : 2 ≤ N ∧ N ≤ 1000 := by
    have h8 : n0 ≤ 8 := hn0.2
    have := Nat.mul_le_mul (Nat.mul_le_mul_left 10 h8) h8
    omega
  have hlen : (adjN N (cellsN n0)).length = N := by unfold adjN; rw [adj_length]; simp
  rw [hed]
  clear hed hN hn0
  generalize adjN N (cellsN n0) = ls at *
  have HLs : Hid (ls.length = N ∧ ∀ l ∈ ls, l.length ≤ 30000) := ⟨hlen, hrows⟩
  have hN0 : ((N : Int) == 0) = false := by simp; omega
  clear hlen hrows
  go_enter Tryz.func24, Tryz.ntmps24
  go_wp2_with fail
  refine (HCo.out _).mono ?_
  rintro e w2 ⟨rfl, rfl⟩
  go_wp2_with fail
  refine (HAr0.out _).mono ?_
  rintro e w3 ⟨H, rfl, har, hb3, _⟩
  have HAr := Lib.hid har
  have HB3 := Lib.hid hb3
  clear har hb3
  have HS : Hid (EdX w3 w3 (.slice none 0 0) (edTo ls 0 0)) := ⟨OwnE2.nil _ _, Below.refl _ _⟩
  go_wp2_with fail
  try simp only [hN0]
  go_loopw [4, 6] (fun lv kv wr => ∃ (c : Nat) (ov : Value), ov = lv ∧ kv = .int .i64 c ∧ c ≤ N ∧ Hid (EdX w3 wr ov (edTo ls c 0))) (fun _ kv _ => (1000 - intOf kv).toNat)
  case atStart => exact ⟨0, _, rfl, rfl, by omega, HS⟩
  case round =>
    clear HS
    obtain ⟨c, ov, rfl, rfl, hc, hs⟩ := hrel
    by_cases hlt : c < N
    · have c0 : (c : Int) < (N : Int) := by omega
      have c1 : (N : Int) ≤ 1000 := by omega
      have hcl : c < ls.length := by rw [HLs.out.1]; exact hlt
      obtain ⟨_, a, n1, cc, hn1, hcell, hsm⟩ := HAr.out.2 c hcl
      have hl30 := HLs.out.2 _ (List.getElem_mem hcl)
      have HGd : Hid (ls.getD c [] = ls[c]) := by unfold Hid; rw [List.getD_eq_getElem?_getD, List.getElem?_eq_getElem hcl]; rfl
      obtain ⟨ll, hll⟩ : ∃ ll, ll = ls[c] := ⟨_, rfl⟩
      have Hn1 : Hid (n1 = ll.length) := by rw [hll]; exact hn1
      have Hsm : Hid (SmE w3 H (.slice a n1 cc) ll) := by rw [hll]; exact hsm
      have hl30' : ll.length ≤ 30000 := by rw [hll]; exact hl30
      have HGl : Hid (ls.getD c [] = ll) := by rw [hll]; exact HGd
      have hA := cell_then hs.out.below hcell
      have n10 : (n1 : Int) ≤ 30000 := by have := Hn1.out; omega
      have HNx := Lib.hid (edTo_next ls c)
      rw [HGl.out, ← Hn1.out] at HNx
      have Hbnd : Hid (∀ i, (edTo ls c i).length ≤ 30000 * c + 30000) := fun i => edTo_len ls 30000 HLs.out.2 c i
      clear hcell hsm hn1 hl30 hll HGd hcl
      obtain ⟨wout, rfl⟩ : ∃ wout : World, wout = wr := ⟨_, rfl⟩
      go_wp2_with fail
      go_loopw [4, 25] (fun lv kv wr => ∃ (i : Nat) (ov : Value), ov = lv ∧ kv = .int .i64 i ∧ i ≤ n1 ∧ Hid (EdX w3 wr ov (edTo ls c i))) (fun _ kv _ => (40000 - intOf kv).toNat)
      case atStart => exact ⟨0, _, rfl, rfl, by omega, hs⟩
      case round =>
        clear hs hA
        obtain ⟨i, ov, rfl, rfl, hi, hs⟩ := hrel
        by_cases hil : i < n1
        · have hil' : i < ll.length := by rw [← Hn1.out]; exact hil
          obtain ⟨ab, ao, rfl, hz⟩ := Hsm.out.at i hil'
          have HStp := Lib.hid (edTo_step ls c i ll HGl.out hil')
          obtain ⟨z, hze⟩ : ∃ z, z = ll[i] := ⟨_, rfl⟩
          rw [← hze] at hz HStp
          clear hze
          have hz' := cell_then hs.out.below hz
          have i0 : (i : Int) < (n1 : Int) := by omega
          clear hz
          by_cases hcz : c < z
          · have hcz' : (c : Int) < (z : Int) := by omega
            have HStp2 : Hid (edTo ls c (i + 1) = edTo ls c i ++ [(c, z)]) := by unfold Hid; rw [HStp.out, if_pos hcz]
            have HAp : Hid (∃ (v' : Value) (w' : World), (Builtin.append_ #[76, 76] 76 #[ov, .slice (some ⟨wr.heap.size, 0, none⟩) 1 1]).run Tryz.prog (wr.alloc (.cells #[.int .i64 c, .int .i64 z] 95)) = .ok v' w' ∧ EdX w3 w' v' (edTo ls c (i + 1))) := by
              obtain ⟨v', w', a1, a2, a3⟩ := append_e2 hs.out.own (c, z) (by have := Hbnd.out i; omega) hs.out.below.size 76
              exact ⟨v', w', a1, by rw [HStp2.out]; exact a2, hs.out.below.trans a3⟩
            clear hs HStp HStp2
            go_wp2_with (at_builtin; obtain ⟨v', w', hrun, hs'⟩ := HAp.out; have Hrun := Lib.hid hrun; have Hs' := Lib.hid hs'; clear hrun hs'; refine wpList_append_run rfl _ _ _ rfl _ _ _ _ rfl rfl Hrun.out ?_)
            go_roundw
            case rel => exact ⟨i + 1, v', rfl, by go_num, by omega, Hs'⟩
            case measure => simp [intOf]; omega
          · have HStp2 : Hid (edTo ls c (i + 1) = edTo ls c i) := by unfold Hid; rw [HStp.out, if_neg hcz]
            have hcz' : ¬ (c : Int) < (z : Int) := by omega
            clear HStp
            go_wp2_with fail
            go_roundw
            case rel => exact ⟨i + 1, ov, rfl, by go_num, by omega, by rw [HStp2.out]; exact hs⟩
            case measure => simp [intOf]; omega
        · obtain rfl : i = n1 := by omega
          have e0 : decide ((i : Int) < (i : Int)) = false := by simp
          go_wp2_with fail
          go_roundw
          case rel => exact ⟨c + 1, ov, rfl, by go_num, by omega, by rw [← HNx.out]; exact hs⟩
          case measure => simp [intOf]; omega
    · obtain rfl : c = N := by omega
      have HE : Hid (OwnE2 wr w3.heap.size ov (edR ls) ∧ Below w3.heap.size w3 wr) := by
        have h := hs.out.own
        rw [← HLs.out.1, edTo_end] at h
        exact ⟨h, hs.out.below⟩
      obtain ⟨oa, oc, hov⟩ := HE.out.1.slice
      have e0 : decide ((c : Int) < (c : Int)) = false := by simp
      clear hs
      go_wp2_with fail
      refine bodyPost_ret (v := .tuple #[ov, .int .i64 0]) (by simp [results, Tryz.results24, go_sem]) rfl ?_
      exact ⟨_, rfl, HE.out.1.mono HB3.out.size, below_then HB3.out HE.out.2⟩
end Go.Proofs.YtkpgciimhjkajaaGreatDoor
/- The program's grid: a cell is added. -/
namespace Go.Proofs.YtkpgciimhjkajaaGreatDoor
open Go Go.RowKit Go.Sort Go.Lib
theorem perm_sum {l m : List Int} (h : l.Perm m) : l.foldr (· + ·) 0 = m.foldr (· + ·) 0 := by
  induction h with
  | nil => rfl
  | cons x _ ih => simp only [List.foldr_cons, ih]
  | swap x y l => simp only [List.foldr_cons]; omega
  | trans _ _ ih1 ih2 => exact ih1.trans ih2
theorem tri3_sorted (a b c : Nat) : ([(a : Int), (b : Int), (c : Int)].mergeSort fun x y => decide (x ≤ y)) = [((tri3 a b c).1 : Int), ((tri3 a b c).2.1 : Int), ((tri3 a b c).2.2 : Int)] := by
  have hp := List.mergeSort_perm [(a : Int), (b : Int), (c : Int)] (fun x y => decide (x ≤ y))
  have hs := List.pairwise_mergeSort (le := fun x y : Int => decide (x ≤ y)) (fun a b c h1 h2 => by simp at *; omega) (fun a b => by simp; omega) [(a : Int), (b : Int), (c : Int)]
  have hl : ([(a : Int), (b : Int), (c : Int)].mergeSort fun x y => decide (x ≤ y)).length = 3 := by rw [hp.length_eq]; rfl
  generalize ([(a : Int), (b : Int), (c : Int)].mergeSort fun x y => decide (x ≤ y)) = l at *
  match l, hl with
  | [x, y, z], _ =>
    have hxy : x ≤ y ∧ x ≤ z ∧ y ≤ z := by simp at hs; omega
    have hx : x ∈ [(a : Int), (b : Int), (c : Int)] := hp.mem_iff.1 (by simp)
    have hz : z ∈ [(a : Int), (b : Int), (c : Int)] := hp.mem_iff.1 (by simp)
    have ha : (a : Int) ∈ [x, y, z] := hp.mem_iff.2 (by simp)
    have hb : (b : Int) ∈ [x, y, z] := hp.mem_iff.2 (by simp)
    have hc : (c : Int) ∈ [x, y, z] := hp.mem_iff.2 (by simp)
    have hsum : x + (y + (z + 0)) = (a : Int) + (b + (c + 0)) := by
      have := perm_sum hp
      simpa only [List.foldr_cons, List.foldr_nil] using this
    simp at hx hz ha hb hc
    have h1 : x = ((tri3 a b c).1 : Int) := by simp only [tri3]; omega
    have h3 : z = ((tri3 a b c).2.2 : Int) := by simp only [tri3]; omega
    have h2 : y = ((tri3 a b c).2.1 : Int) := by simp only [tri3] at *; omega
    rw [h1, h2, h3]
theorem ixP_0 (f1 a1 b1 c1 f2 a2 b2 c2 f3 a3 b3 c3 : Int) (w : World) : (Instr.index 183 (.agg #[.int .i64 f1, .int .i64 a1, .int .i64 b1, .int .i64 c1, .int .i64 f2, .int .i64 a2, .int .i64 b2, .int .i64 c2, .int .i64 f3, .int .i64 a3, .int .i64 b3, .int .i64 c3]) (.int .i64 0)).run Tryz.prog w = .ok (.agg #[.int .i64 f1, .int .i64 a1, .int .i64 b1, .int .i64 c1]) w := by kernel_rfl
theorem ixP_1 (f1 a1 b1 c1 f2 a2 b2 c2 f3 a3 b3 c3 : Int) (w : World) : (Instr.index 183 (.agg #[.int .i64 f1, .int .i64 a1, .int .i64 b1, .int .i64 c1, .int .i64 f2, .int .i64 a2, .int .i64 b2, .int .i64 c2, .int .i64 f3, .int .i64 a3, .int .i64 b3, .int .i64 c3]) (.int .i64 1)).run Tryz.prog w = .ok (.agg #[.int .i64 f2, .int .i64 a2, .int .i64 b2, .int .i64 c2]) w := by kernel_rfl
theorem ixP_2 (f1 a1 b1 c1 f2 a2 b2 c2 f3 a3 b3 c3 : Int) (w : World) : (Instr.index 183 (.agg #[.int .i64 f1, .int .i64 a1, .int .i64 b1, .int .i64 c1, .int .i64 f2, .int .i64 a2, .int .i64 b2, .int .i64 c2, .int .i64 f3, .int .i64 a3, .int .i64 b3, .int .i64 c3]) (.int .i64 2)).run Tryz.prog w = .ok (.agg #[.int .i64 f3, .int .i64 a3, .int .i64 b3, .int .i64 c3]) w := by kernel_rfl
theorem own_grown {w w' : World} {base e sz n K : Nat} {v : Value} {cs : List Value} (h : w.ownsRow base e sz v n cs) (hg : w.grownBy w' (some K)) (hv : ∀ g, v.ownBlock = some g → g ≠ K) : w'.ownsRow base e sz v n cs := by
  obtain ⟨o1, o2⟩ := h
  refine ⟨o1, ?_⟩
  rcases o2 with o2 | ⟨g, cap, cur, e, hg', hh, r⟩
  · exact Or.inl o2
  · refine Or.inr ⟨g, cap, cur, e, hg', ?_, r⟩
    rw [hg.block g (Array.getElem?_eq_some_iff.1 hh).1 (by have := hv g (by rw [e]; rfl); simpa using this)]
    exact hh
theorem NetN.net_of {w w' : World} {B mb n : Nat} {nv cv ev xv : Value} (h : NetN w B mb n nv cv ev xv) (h1 : w'.heap[B]? = w.heap[B]?) (h2 : w'.heap[mb]? = w.heap[mb]?) : NetN w' B mb n nv cv ev xv := ⟨h.row.of_block h1, h.map.of_block h2⟩
structure MC (w : World) (B mb n : Nat) (nv cv ev xv : Value) (base : Nat) (L : List Tri) (K : Nat) (x y z : Int) (wr : World) : Prop where
  net : NetN wr B mb n nv cv ev xv
  own : wr.ownsRow base 114 3 cv L.length (tcells L)
  nums : RowAt wr K [.int .i64 x, .int .i64 y, .int .i64 z]
  below : Below w.heap.size w wr
theorem MC.then {w : World} {B mb n : Nat} {nv cv ev xv : Value} {base : Nat} {L : List Tri} {K : Nat} {x y z : Int} {w1 w2 : World} (h : MC w B mb n nv cv ev xv base L K x y z w1) (hb : Below w1.heap.size w1 w2) : MC w B mb n nv cv ev xv base L K x y z w2 :=
  ⟨h.net.then hb, ownsRow_below h.own hb, h.nums.below hb, below_then h.below hb⟩
theorem MC.put {w : World} {B mb n : Nat} {nv cv ev xv : Value} {base : Nat} {L : List Tri} {K : Nat} {x y z x' y' z' : Int} {w1 : World} (h : MC w B mb n nv cv ev xv base L K x y z w1) (hK : w.heap.size ≤ K) (hB : B < w.heap.size) (hm : mb < w.heap.size) (hv : ∀ g, cv.ownBlock = some g → g < w.heap.size) (i : Nat) (hi : i < 3) (u : Int)
    (e : ([.int .i64 x, .int .i64 y, .int .i64 z] : List Value).set i (.int .i64 u) = [.int .i64 x', .int .i64 y', .int .i64 z']) : MC w B mb n nv cv ev xv base L K x' y' z' (w1.setCell ⟨K, i, none⟩ (.int .i64 u)) := by
  have hk : ∀ k, k ≠ K → (w1.setCell ⟨K, i, none⟩ (.int .i64 u)).heap[k]? = w1.heap[k]? := fun k hk => Below.heap_setCell _ _ _ _ (by simpa using hk)
  refine ⟨⟨h.net.row.of_block (hk B (by omega)), h.net.map.of_block (hk mb (by omega))⟩, ?_, by rw [← e]; exact h.nums.set i hi _, h.below.setCell hK _⟩
  obtain ⟨o1, o2⟩ := h.own
  refine ⟨o1, ?_⟩
  rcases o2 with o2 | ⟨g, cap, cur, e, hg, hh, r⟩
  · exact Or.inl o2
  · refine Or.inr ⟨g, cap, cur, e, hg, ?_, r⟩
    rw [hk g (by have := hv g (by rw [e]; rfl); omega)]
    exact hh
set_option maxHeartbeats 16000000 in
set_option maxRecDepth 100000 in
theorem mcell_any (n B mb : Nat) (nv cv ev xv : Value) (p1 p2 p3 : Pl) (I1 I2 I3 : Nat)
    (hA1 : ∀ w', NetN w' B mb n nv cv ev xv → Crn w' → Calls Tryz.prog 131 #[.pointer (some ⟨B, 0, none⟩), p1.val] w' fun e w'' => e = .returned (.int .i64 (I1 : Int)) ∧ Below w'.heap.size w' w'')
    (hA2 : ∀ w', NetN w' B mb n nv cv ev xv → Crn w' → Calls Tryz.prog 131 #[.pointer (some ⟨B, 0, none⟩), p2.val] w' fun e w'' => e = .returned (.int .i64 (I2 : Int)) ∧ Below w'.heap.size w' w'')
    (hA3 : ∀ w', NetN w' B mb n nv cv ev xv → Crn w' → Calls Tryz.prog 131 #[.pointer (some ⟨B, 0, none⟩), p3.val] w' fun e w'' => e = .returned (.int .i64 (I3 : Int)) ∧ Below w'.heap.size w' w'')
    (base : Nat) (L : List Tri) (hL : L.length ≤ 4000) (w : World) (hN : NetN w B mb n nv cv ev xv) (hcr : Crn w) (hO : w.ownsRow base 114 3 cv L.length (tcells L)) (hB : B < base) (hm : mb < B) (hb : base ≤ w.heap.size) :
    Calls Tryz.prog 115 #[.pointer (some ⟨B, 0, none⟩), tri3V p1 p2 p3] w fun e w' => ∃ cv', e = .returned (.tuple #[]) ∧ NetN w' B mb n nv cv' ev xv ∧ w'.ownsRow base 114 3 cv' (L.length + 1) (tcells (L ++ [tri3 I1 I2 I3])) ∧ Below B w w' ∧ (∀ k, k < w.heap.size → k ≠ B → cv.ownBlock ≠ some k → w'.heap[k]? = w.heap[k]?) := by
  have HA1 := Lib.hid hA1
  have HA2 := Lib.hid hA2
  have HA3 := Lib.hid hA3
  have HO := Lib.hid hO
  have HCr := Lib.hid (fun w' (h : Below w.heap.size w w') => hcr.then h)
  have Hid1 := Lib.hid (And.intro hL (And.intro hB (And.intro hm hb)))
  have HT := Lib.hid (tri3_sorted I1 I2 I3)
  obtain ⟨f1, a1, b1, c1⟩ := p1
  obtain ⟨f2, a2, b2, c2⟩ := p2
  obtain ⟨f3, a3, b3, c3⟩ := p3
  have hx0 := ixP_0 f1 a1 b1 c1 f2 a2 b2 c2 f3 a3 b3 c3
  have hx1 := ixP_1 f1 a1 b1 c1 f2 a2 b2 c2 f3 a3 b3 c3
  have hx2 := ixP_2 f1 a1 b1 c1 f2 a2 b2 c2 f3 a3 b3 c3
  have HS : Hid (MC w B mb n nv cv ev xv base L (w.heap.size + 1) 0 0 0 ((w.alloc (.cells #[.int .i64 f1, .int .i64 a1, .int .i64 b1, .int .i64 c1, .int .i64 f2, .int .i64 a2, .int .i64 b2, .int .i64 c2, .int .i64 f3, .int .i64 a3, .int .i64 b3, .int .i64 c3] 183)).alloc (.cells #[.int .i64 0, .int .i64 0, .int .i64 0] 97))) := by
    have hbl : Below w.heap.size w ((w.alloc (.cells #[.int .i64 f1, .int .i64 a1, .int .i64 b1, .int .i64 c1, .int .i64 f2, .int .i64 a2, .int .i64 b2, .int .i64 c2, .int .i64 f3, .int .i64 a3, .int .i64 b3, .int .i64 c3] 183)).alloc (.cells #[.int .i64 0, .int .i64 0, .int .i64 0] 97)) := ((Below.refl _ _).alloc (Nat.le_refl _) _).alloc (by simp) _
    exact ⟨hN.then hbl, ownsRow_below hO hbl, RowAt.new _ [.int .i64 0, .int .i64 0, .int .i64 0] (by simp) _ (by simp), hbl⟩
  have HRP : Hid (RowAt ((w.alloc (.cells #[.int .i64 f1, .int .i64 a1, .int .i64 b1, .int .i64 c1, .int .i64 f2, .int .i64 a2, .int .i64 b2, .int .i64 c2, .int .i64 f3, .int .i64 a3, .int .i64 b3, .int .i64 c3] 183)).alloc (.cells #[.int .i64 0, .int .i64 0, .int .i64 0] 97)) w.heap.size [.int .i64 f1, .int .i64 a1, .int .i64 b1, .int .i64 c1, .int .i64 f2, .int .i64 a2, .int .i64 b2, .int .i64 c2, .int .i64 f3, .int .i64 a3, .int .i64 b3, .int .i64 c3]) := (RowAt.new _ [.int .i64 f1, .int .i64 a1, .int .i64 b1, .int .i64 c1, .int .i64 f2, .int .i64 a2, .int .i64 b2, .int .i64 c2, .int .i64 f3, .int .i64 a3, .int .i64 b3, .int .i64 c3] (by simp) _ rfl).alloc _
  have HPut : Hid (∀ {K : Nat} {x y z x' y' z' : Int} {w1 : World}, MC w B mb n nv cv ev xv base L K x y z w1 → w.heap.size ≤ K → ∀ (i : Nat), i < 3 → ∀ (u : Int), ([.int .i64 x, .int .i64 y, .int .i64 z] : List Value).set i (.int .i64 u) = [.int .i64 x', .int .i64 y', .int .i64 z'] → MC w B mb n nv cv ev xv base L K x' y' z' (w1.setCell ⟨K, i, none⟩ (.int .i64 u))) :=
    fun h hK i hi u e => h.put hK (by omega) (by omega) (fun g hg => (World.ownsRow.lt hO g hg).2) i hi u e
  have HCv : Hid (∀ g, cv.ownBlock = some g → g < w.heap.size) := fun g hg => (World.ownsRow.lt hO g hg).2
  clear hA1 hA2 hA3 hN hcr hO hL hB hm hb
  unfold tri3V
  simp only [Pl.cells, List.cons_append, List.nil_append]
  unfold Pl.val at HA1 HA2 HA3
  simp only at HA1 HA2 HA3
  go_enter Tryz.func115, Tryz.ntmps115
  go_upto_region 2 with fail
  obtain ⟨wz, hwz⟩ : ∃ x, x = (w.alloc (.cells #[.int .i64 f1, .int .i64 a1, .int .i64 b1, .int .i64 c1, .int .i64 f2, .int .i64 a2, .int .i64 b2, .int .i64 c2, .int .i64 f3, .int .i64 a3, .int .i64 b3, .int .i64 c3] 183)).alloc (.cells #[.int .i64 0, .int .i64 0, .int .i64 0] 97) := ⟨_, rfl⟩
  obtain ⟨K, hK⟩ : ∃ x, x = w.heap.size + 1 := ⟨_, rfl⟩
  rw [← hwz, ← hK] at HS
  rw [← hwz] at HRP
  rw [← hwz, ← hK]
  have HK : Hid (w.heap.size ≤ K) := by unfold Hid; omega
  clear hwz hK
  go_wp2_with (refine row_load rfl _ rfl _ rfl _ HRP.out rowT_3 ?_)
  refine wp_loop_rounds 4 ?_
  rw [rounds_succ]
  go_wp2_with fail
  have HSa1 := Lib.hid (HS.out.then ((Below.refl _ _).alloc (Nat.le_refl _) (.cells #[.int .i64 f1, .int .i64 a1, .int .i64 b1, .int .i64 c1] 122)))
  refine (HA1.out _ HSa1.out.net (HCr.out _ HSa1.out.below)).mono ?_
  rintro e wa1 ⟨rfl, hb⟩
  have HSb1 := Lib.hid (HSa1.out.then hb)
  have ca1 := HSb1.out.nums.at 0 rfl
  have fa1 := HSb1.out.nums.2.2 0 (by simp)
  have HSc1 : Hid (MC w B mb n nv cv ev xv base L K I1 0 0 (wa1.setCell ⟨K, 0, none⟩ (.int .i64 I1))) := HPut.out HSb1.out HK.out 0 (by omega) I1 rfl
  clear hb HSa1 HSb1 HS
  go_wp2_with fail
  obtain ⟨wc1, hwc⟩ : ∃ x, x = wa1.setCell ⟨K, 0, none⟩ (.int .i64 I1) := ⟨_, rfl⟩
  rw [← hwc] at HSc1 ⊢
  clear hwc ca1 fa1
  rw [rounds_succ]
  go_wp2_with fail
  have HSa2 := Lib.hid (HSc1.out.then ((Below.refl _ _).alloc (Nat.le_refl _) (.cells #[.int .i64 f2, .int .i64 a2, .int .i64 b2, .int .i64 c2] 122)))
  refine (HA2.out _ HSa2.out.net (HCr.out _ HSa2.out.below)).mono ?_
  rintro e wa2 ⟨rfl, hb⟩
  have HSb2 := Lib.hid (HSa2.out.then hb)
  have ca2 := HSb2.out.nums.at 1 rfl
  have fa2 := HSb2.out.nums.2.2 1 (by simp)
  have HSc2 : Hid (MC w B mb n nv cv ev xv base L K I1 I2 0 (wa2.setCell ⟨K, 1, none⟩ (.int .i64 I2))) := HPut.out HSb2.out HK.out 1 (by omega) I2 rfl
  clear hb HSa2 HSb2 HSc1
  go_wp2_with fail
  obtain ⟨wc2, hwc⟩ : ∃ x, x = wa2.setCell ⟨K, 1, none⟩ (.int .i64 I2) := ⟨_, rfl⟩
  rw [← hwc] at HSc2 ⊢
  clear hwc ca2 fa2
  rw [rounds_succ]
  go_wp2_with fail
  have HSa3 := Lib.hid (HSc2.out.then ((Below.refl _ _).alloc (Nat.le_refl _) (.cells #[.int .i64 f3, .int .i64 a3, .int .i64 b3, .int .i64 c3] 122)))
  refine (HA3.out _ HSa3.out.net (HCr.out _ HSa3.out.below)).mono ?_
  rintro e wa3 ⟨rfl, hb⟩
  have HSb3 := Lib.hid (HSa3.out.then hb)
  have ca3 := HSb3.out.nums.at 2 rfl
  have fa3 := HSb3.out.nums.2.2 2 (by simp)
  have HSc3 : Hid (MC w B mb n nv cv ev xv base L K I1 I2 I3 (wa3.setCell ⟨K, 2, none⟩ (.int .i64 I3))) := HPut.out HSb3.out HK.out 2 (by omega) I3 rfl
  clear hb HSa3 HSb3 HSc2
  go_wp2_with fail
  obtain ⟨wc3, hwc⟩ : ∃ x, x = wa3.setCell ⟨K, 2, none⟩ (.int .i64 I3) := ⟨_, rfl⟩
  rw [← hwc] at HSc3 ⊢
  clear hwc ca3 fa3
  rw [rounds_succ]
  go_wp2_with fail
  have hH : Holds (Value.int .i64) wc3 K 0 ([(I1 : Int), (I2 : Int), (I3 : Int)].toArray) := by
    intro j hj
    have hj : j < 3 := hj
    have : j = 0 ∨ j = 1 ∨ j = 2 := by omega
    rcases this with rfl | rfl | rfl
    · exact ⟨HSc3.out.nums.at 0 rfl, HSc3.out.nums.2.2 0 (by simp)⟩
    · exact ⟨HSc3.out.nums.at 1 rfl, HSc3.out.nums.2.2 1 (by simp)⟩
    · exact ⟨HSc3.out.nums.at 2 rfl, HSc3.out.nums.2.2 2 (by simp)⟩
  refine (Tryz.slices_Sort_int K 0 3 [(I1 : Int), (I2 : Int), (I3 : Int)] wc3 hH HSc3.out.nums.lt (by simp)).mono ?_
  rintro e w' ⟨rfl, nn, os, rfl⟩
  rw [HT.out]
  obtain ⟨x1, hx1e⟩ : ∃ x : Int, x = ((tri3 I1 I2 I3).1 : Int) := ⟨_, rfl⟩
  obtain ⟨x2, hx2e⟩ : ∃ x : Int, x = ((tri3 I1 I2 I3).2.1 : Int) := ⟨_, rfl⟩
  obtain ⟨x3, hx3e⟩ : ∃ x : Int, x = ((tri3 I1 I2 I3).2.2 : Int) := ⟨_, rfl⟩
  rw [← hx1e, ← hx2e, ← hx3e]
  have hgr := grownBy_sortedI (w := wc3) (g := K) (n := nn) (os := os) [x1, x2, x3].toArray
  have hKd : RowAt (grow (putRow (Value.int .i64) (Sort.ahead wc3 nn) K 0 [x1, x2, x3].toArray) os) K [.int .i64 x1, .int .i64 x2, .int .i64 x3] := by
    have hlt : K < (putRow (Value.int .i64) (Sort.ahead wc3 nn) K 0 [x1, x2, x3].toArray).heap.size := by rw [size_putRow]; exact HSc3.out.nums.lt
    have hh := holds_grow (Value.int .i64) _ os K 0 _ hlt (holds_putRow (Value.int .i64) (Sort.ahead wc3 nn) K 0 _ [x1, x2, x3].toArray hH rfl)
    refine ⟨by simp, fun i hi => ?_, fun i hi => ?_⟩
    · have hi : i < 3 := hi
      have := (hh i hi).1
      rw [Nat.zero_add] at this
      have h3 : i = 0 ∨ i = 1 ∨ i = 2 := by omega
      rcases h3 with rfl | rfl | rfl <;> exact this
    · have hi : i < 3 := hi
      have := (hh i hi).2
      rw [Nat.zero_add] at this; exact this
  obtain ⟨wd, hwd⟩ : ∃ x, x = grow (putRow (Value.int .i64) (Sort.ahead wc3 nn) K 0 [x1, x2, x3].toArray) os := ⟨_, rfl⟩
  rw [← hwd] at hgr hKd ⊢
  have hK0 := HK.out
  have hB1 := Hid1.out.2.1
  have hm1 := Hid1.out.2.2.1
  have hb1 := Hid1.out.2.2.2
  have HNd : Hid (NetN wd B mb n nv cv ev xv) := ⟨HSc3.out.net.row.of_block (hgr.block B HSc3.out.net.row.lt (by simp; omega)), HSc3.out.net.map.of_block (hgr.block mb HSc3.out.net.map.lt (by simp; omega))⟩
  have HKd := Lib.hid hKd
  have HOd : Hid (wd.ownsRow base 114 3 cv L.length (tcells L)) := own_grown HSc3.out.own hgr (fun g hg => by have := HCv.out g hg; omega)
  have HBd : Hid (Below w.heap.size w wd) := HSc3.out.below.grown hgr (by have := HSc3.out.below.size; omega) (fun k hk => by cases hk; exact hK0)
  have Hxe := Lib.hid (And.intro hx1e (And.intro hx2e hx3e))
  clear hwd hgr hKd hH hx1e hx2e hx3e
  go_upto_region 8 with fail
  have hLl := Hid1.out.1
  have hsd := HBd.out.size
  obtain ⟨v9, w9, d1, d2, d3, d4⟩ := append_at 110 114 Tryz.underlying110 cinfo rfl (by decide) (World.ownsRow.alloc (ownsRow_below HOd.out (Below.refl _ _).drew) (.cells #[.int .i64 x1, .int .i64 x2, .int .i64 x3] 114)) ⟨wd.drew.heap.size, 0, none⟩ 1 1 [.int .i64 x1, .int .i64 x2, .int .i64 x3] rfl (World.news_of_block (cs := #[.int .i64 x1, .int .i64 x2, .int .i64 x3]) (t := 114) (fr := (0, 0)) (heap_alloc_new wd.drew _)) (by simp [Value.oneCell']) (by omega) (by omega) (by decide) (by simp; omega) 110
  have hal : Below wd.heap.size wd (wd.drew.alloc (.cells #[.int .i64 x1, .int .i64 x2, .int .i64 x3] 114)) := (Below.refl _ _).drew.alloc (Nat.le_refl _) _
  obtain ⟨a9, n9, c9, rfl⟩ : ∃ a n c, v9 = .slice a n c := by
    rcases d2.2 with ⟨e, _⟩ | ⟨g, cap, cur, e, _⟩
    · exact ⟨_, _, _, e⟩
    · exact ⟨_, _, _, e⟩
  have HApp := Lib.hid d1
  have hBl := HNd.out.row.lt
  have hKl := HKd.out.lt
  have HN9 : Hid (NetN w9 B mb n nv cv ev xv) := (HNd.out.then hal).net_of (d3.block B (by omega)) (d3.block mb (by omega))
  have HK9 : Hid (RowAt w9 K [.int .i64 x1, .int .i64 x2, .int .i64 x3]) := (HKd.out.below hal).of_block (d4.block K (by simp; omega) (fun e => by have := HCv.out K e.symm; omega))
  have C9 : Hid (w9.cell? ⟨B, 4, none⟩ = some cv ∧ w9.frozen? ⟨B, 4, none⟩ = false) := ⟨HN9.out.row.at 4 rfl, HN9.out.row.2.2 4 (by simp [netRow])⟩
  have HEnd : Hid (NetN (w9.setCell ⟨B, 4, none⟩ (.slice a9 n9 c9)) B mb n nv (.slice a9 n9 c9) ev xv ∧ (w9.setCell ⟨B, 4, none⟩ (.slice a9 n9 c9)).ownsRow base 114 3 (.slice a9 n9 c9) (L.length + 1) (tcells (L ++ [tri3 I1 I2 I3])) ∧ Below B w (w9.setCell ⟨B, 4, none⟩ (.slice a9 n9 c9)) ∧ (∀ k, k < w.heap.size → k ≠ B → cv.ownBlock ≠ some k → (w9.setCell ⟨B, 4, none⟩ (.slice a9 n9 c9)).heap[k]? = w.heap[k]?)) := by
    refine ⟨⟨HN9.out.row.set 4 (by simp [netRow]) _, HN9.out.map.of_block (Below.heap_setCell _ _ _ _ (by simp; omega))⟩, ?_, ?_, fun k hk hkB hkv => ?_⟩
    · rw [tcells_append]
      have e1 : tcells [tri3 I1 I2 I3] = [.int .i64 x1, .int .i64 x2, .int .i64 x3] := by rw [Hxe.out.1, Hxe.out.2.1, Hxe.out.2.2]; rfl
      rw [e1]
      exact ownsRow_of_same d2 (fun k h1 hk => Below.heap_setCell _ _ _ _ (by simp; omega))
    · have hfin : Below B w w9 := (HBd.out.mono (by omega)).trans ((hal.mono (by omega)).trans (d3.mono (by omega)))
      exact hfin.setCell (by simp) _
    · rw [Below.heap_setCell _ _ _ _ (by simpa using hkB), d4.block k (by simp; omega) (fun e => hkv e.symm), hal.block k (by omega), HBd.out.block k hk]
  clear d1 d2 d3 d4 hal
  refine wp_region_seqL (by kernel_rfl) (fun w' => NetN w' B mb n nv cv ev xv ∧ RowAt w' K [.int .i64 x1, .int .i64 x2, .int .i64 x3]) 16 [(0, 0), (1, 0), (2, 0), (3, 0), (4, 1), (5, 0), (6, 1), (7, 0), (8, 1), (9, 0), (10, 1), (11, 0), (12, 2), (13, 2), (14, 0), (15, 0), (16, 2)] (by kernel_rfl) (⟨HNd.out.then (Below.refl _ _).drew, HKd.out.drew⟩) ?_
  refine sl_q (d := some 20) rfl rfl rfl (.pointer (some ⟨B, 0, none⟩)) (fun w => rfl) ?_
  simp only [ap_s, ap_n, ls_z, ls_s]
  refine sl_q (d := some 21) rfl rfl rfl (.pointer (some ⟨B, 0, none⟩)) (fun w => rfl) ?_
  simp only [ap_s, ap_n, ls_z, ls_s]
  refine sl_q (d := some 22) rfl rfl rfl (.pointer (some ⟨B, 0, none⟩)) (fun w => rfl) ?_
  simp only [ap_s, ap_n, ls_z, ls_s]
  refine sl_q (d := some 23) rfl rfl rfl (.pointer (some ⟨B, 4, none⟩)) (fun w => by go_simp) ?_
  simp only [ap_s, ap_n, ls_z, ls_s]
  refine sl_s (d := some 24) rfl rfl rfl (cv) (fun w hw => by have c := hw.1.row.at 4 rfl; simp [execOp, Act.eval, go_sem, c]) ?_
  simp only [ap_s, ap_n, ls_z, ls_s]
  refine sl_q (d := some 25) rfl rfl rfl (.pointer (some ⟨K, 0, none⟩)) (fun w => by simp [execOp, Act.eval, go_sem]) ?_
  simp only [ap_s, ap_n, ls_z, ls_s]
  refine sl_s (d := some 26) rfl rfl rfl (.int .i64 x1) (fun w hw => by have c := hw.2.at 0 rfl; simp [execOp, Act.eval, go_sem, c]) ?_
  simp only [ap_s, ap_n, ls_z, ls_s]
  refine sl_q (d := some 27) rfl rfl rfl (.pointer (some ⟨K, 1, none⟩)) (fun w => by simp [execOp, Act.eval, go_sem]) ?_
  simp only [ap_s, ap_n, ls_z, ls_s]
  refine sl_s (d := some 28) rfl rfl rfl (.int .i64 x2) (fun w hw => by have c := hw.2.at 1 rfl; simp [execOp, Act.eval, go_sem, c]) ?_
  simp only [ap_s, ap_n, ls_z, ls_s]
  refine sl_q (d := some 29) rfl rfl rfl (.pointer (some ⟨K, 2, none⟩)) (fun w => by simp [execOp, Act.eval, go_sem]) ?_
  simp only [ap_s, ap_n, ls_z, ls_s]
  refine sl_s (d := some 30) rfl rfl rfl (.int .i64 x3) (fun w hw => by have c := hw.2.at 2 rfl; simp [execOp, Act.eval, go_sem, c]) ?_
  simp only [ap_s, ap_n, ls_z, ls_s]
  refine sl_q (d := some 31) rfl rfl rfl (.agg #[.int .i64 x1, .int .i64 x2, .int .i64 x3]) (fun w => by simp [execOp, Act.eval, go_sem]) ?_
  simp only [ap_s, ap_n, ls_z, ls_s]
  refine sl_run (d := some 32) rfl rfl rfl (.slice (some ⟨wd.drew.heap.size, 0, none⟩) 1 1) (wd.drew.alloc (.cells #[.int .i64 x1, .int .i64 x2, .int .i64 x3] 114)) (by simp [execOp, Act.eval, go_sem, Instr.buildSlice]) (fun _ => ⟨HNd.out.then ((Below.refl _ _).drew.alloc (Nat.le_refl _) _), HKd.out.drew.alloc _⟩) ?_
  simp only [ap_s, ap_n, ls_z, ls_s]
  refine sl_run (d := some 33) rfl rfl rfl (.slice a9 n9 c9) w9 (run_append _ _ _ rfl _ _ rfl rfl HApp.out) (fun _ => ⟨HN9.out, HK9.out⟩) ?_
  simp only [ap_s, ap_n, ls_z, ls_s]
  refine sl_q (d := some 34) rfl rfl rfl (.pointer (some ⟨B, 0, none⟩)) (fun w => rfl) ?_
  simp only [ap_s, ap_n, ls_z, ls_s]
  refine sl_q (d := some 35) rfl rfl rfl (.pointer (some ⟨B, 4, none⟩)) (fun w => by go_simp) ?_
  simp only [ap_s, ap_n, ls_z, ls_s]
  refine sl_skip (d := none) rfl rfl rfl (w9.setCell ⟨B, 4, none⟩ (.slice a9 n9 c9)) (by simp [execOp, Act.eval, go_sem, C9.out.1, C9.out.2]) (fun h => by cases h) ?_
  simp only [ap_s, ap_n, ls_z, ls_s]
  refine sl_end ?_
  go_wp2_with fail
  go_end0
  exact ⟨_, rfl, HEnd.out.1, HEnd.out.2.1, HEnd.out.2.2.1, HEnd.out.2.2.2⟩
end Go.Proofs.YtkpgciimhjkajaaGreatDoor
/- The program's grid: the cells at a place. -/
namespace Go.Proofs.YtkpgciimhjkajaaGreatDoor
open Go Go.RowKit
theorem wz_drew2 (w : World) : Below w.heap.size w w.drew.drew := (Below.refl _ _).drew.drew
theorem fq_h {n : Nat} (h : Fq n) : 1 ≤ 840 / n ∧ 840 / n ≤ 840 := ⟨h.pos, by have := Nat.div_le_self 840 n; omega⟩
set_option maxHeartbeats 16000000 in
set_option maxRecDepth 100000 in
theorem mcells_any (n : Nat) (hn : Fq n) (B mb : Nat) (nv cv ev xv : Value) (f i j : Nat) (hf : f < 20) (hij : i + j + 1 ≤ n) (base : Nat) (L : List Tri) (hL : L.length ≤ 3500) (w : World) (hN : NetN w B mb n nv cv ev xv) (hcr : Crn w)
    (hO : w.ownsRow base 114 3 cv L.length (tcells L)) (hB : B < base) (hm : mb < B) (hg : 0 < B) (hb : base ≤ w.heap.size) :
    Calls Tryz.prog 99 #[.pointer (some ⟨B, 0, none⟩), (bp n f i j (n - 1 - i - j)).val] w fun e w' => ∃ cv', e = .returned (.tuple #[]) ∧ NetN w' B mb n nv cv' ev xv ∧ w'.ownsRow base 114 3 cv' (L ++ cellAt n f i j).length (tcells (L ++ cellAt n f i j)) ∧ Below B w w' := by
  obtain ⟨m, hmm⟩ : ∃ m, m = n - 1 - i - j := ⟨_, rfl⟩
  rw [← hmm]
  have HUp := Lib.hid (fun w' cv (h : NetN w' B mb n nv cv ev xv) => up_any n B mb nv cv ev xv (bp n f i j m) (pt n f (i + 1) j) (pt n f i (j + 1)) (pt n f i j) (840 / n) rfl
    (by rw [bp_mv (up_h i n) (up_0 j n) (up_0 m n)]; exact bp_pt (by omega)) (by rw [bp_mv (up_0 i n) (up_h j n) (up_0 m n)]; exact bp_pt (by omega)) (by rw [bp_mv (up_0 i n) (up_0 j n) (up_h m n)]; exact bp_pt (by omega))
    (pt_sml hn hf (by omega)) (pt_sml hn hf (by omega)) (pt_sml hn hf (by omega)) w' h)
  have HC1 := Lib.hid (fun w' (h1 : NetN w' B mb n nv cv ev xv) (h2 : Crn w') h3 h4 => mcell_any n B mb nv cv ev xv (pt n f (i + 1) j) (pt n f i (j + 1)) (pt n f i j) _ _ _ (fun w' a b => mat_any n hn B mb nv cv ev xv f (i + 1) j hf (by omega) w' a b) (fun w' a b => mat_any n hn B mb nv cv ev xv f i (j + 1) hf (by omega) w' a b) (fun w' a b => mat_any n hn B mb nv cv ev xv f i j hf (by omega) w' a b) base L (by omega) w' h1 h2 h3 hB hm h4)
  have hu : upT n f i j = tri3 (idxN (nodesN n) (pt n f (i + 1) j)) (idxN (nodesN n) (pt n f i (j + 1))) (idxN (nodesN n) (pt n f i j)) := rfl
  rw [← hu] at HC1
  have HMv : Hid (i + j + 2 ≤ n → ∃ m', m = m' + 1 ∧ (∀ w', Calls Tryz.prog 118 #[(bp n f i j m).val, .int .i64 0, .int .i64 0, .int .i64 (-((840 / n : Nat) : Int))] w' fun e w'' => e = .returned (bp n f i j m').val ∧ Below w'.heap.size w' w'') ∧
      (∀ w' cv, NetN w' B mb n nv cv ev xv → Calls Tryz.prog 117 #[.pointer (some ⟨B, 0, none⟩), (bp n f i j m').val] w' fun e w'' => e = .returned (tri3V (pt n f i (j + 1)) (pt n f (i + 1) j) (pt n f (i + 1) (j + 1))) ∧ Below w'.heap.size w' w'') ∧
      (∀ w' cv, NetN w' B mb n nv cv ev xv → Crn w' → w'.ownsRow base 114 3 cv (L ++ [upT n f i j]).length (tcells (L ++ [upT n f i j])) → base ≤ w'.heap.size →
        Calls Tryz.prog 115 #[.pointer (some ⟨B, 0, none⟩), tri3V (pt n f i (j + 1)) (pt n f (i + 1) j) (pt n f (i + 1) (j + 1))] w' fun e w'' => ∃ cv', e = .returned (.tuple #[]) ∧ NetN w'' B mb n nv cv' ev xv ∧ w''.ownsRow base 114 3 cv' ((L ++ [upT n f i j]).length + 1) (tcells ((L ++ [upT n f i j]) ++ [dnT n f i j])) ∧ Below B w' w'' ∧ (∀ k, k < w'.heap.size → k ≠ B → cv.ownBlock ≠ some k → w''.heap[k]? = w'.heap[k]?))) := by
    intro hd
    obtain ⟨m', rfl⟩ : ∃ m', m = m' + 1 := ⟨m - 1, by omega⟩
    refine ⟨m', rfl, fun w' => moved_to _ _ _ _ _ (bp_mv (up_0 i n) (up_0 j n) (dn_h m' n)) ?_ w', fun w' cv h => ?_, fun w' cv h1 h2 h3 h4 => ?_⟩
    · have h1 := pt_ok hn hf (i := i) (j := j) (by omega)
      have h2 := fq_h hn
      have h3 : bp n f i j (m' + 2) = pt n f i j := bp_pt (by omega)
      rw [← h3] at h1
      have h4 := Nat.succ_mul (m' + 1) (840 / n)
      have h5 := Nat.succ_mul m' (840 / n)
      unfold Pl.Sml bp
      unfold bp at h1
      simp only at h1 ⊢
      have e1 : (m' + 2) * (840 / n) = m' * (840 / n) + 840 / n + 840 / n := by rw [← h5]; exact h4
      rw [e1] at h1
      omega
    · exact down_any n B mb nv cv ev xv (bp n f i j m') (pt n f i (j + 1)) (pt n f (i + 1) j) (pt n f (i + 1) (j + 1)) (840 / n) rfl
        (by rw [bp_mv (up_0 i n) (up_h j n) (up_h m' n)]; exact bp_pt (by omega)) (by rw [bp_mv (up_h i n) (up_0 j n) (up_h m' n)]; exact bp_pt (by omega)) (by rw [bp_mv (up_h i n) (up_h j n) (up_0 m' n)]; exact bp_pt (by omega))
        (pt_sml hn hf (by omega)) (pt_sml hn hf (by omega)) (pt_sml hn hf (by omega)) w' h
    · exact mcell_any n B mb nv cv ev xv (pt n f i (j + 1)) (pt n f (i + 1) j) (pt n f (i + 1) (j + 1)) _ _ _ (fun w' a b => mat_any n hn B mb nv cv ev xv f i (j + 1) hf (by omega) w' a b) (fun w' a b => mat_any n hn B mb nv cv ev xv f (i + 1) j hf (by omega) w' a b) (fun w' a b => mat_any n hn B mb nv cv ev xv f (i + 1) (j + 1) hf (by omega) w' a b) base (L ++ [upT n f i j]) (by simp; omega) w' h1 h2 h3 hB hm h4
  have HCell : Hid (cellAt n f i j = upT n f i j :: if i + j + 2 ≤ n then [dnT n f i j] else []) := rfl
  have HCr := Lib.hid (fun w' (h : Below B w w') => hcr.below h hg)
  have HGe : Hid (decide (((840 / n : Nat) : Int) ≤ ((m * (840 / n) : Nat) : Int)) = decide (i + j + 2 ≤ n)) := by
    have h2 := fq_h hn
    unfold Hid
    by_cases hd : i + j + 2 ≤ n
    · obtain ⟨m', rfl⟩ : ∃ m', m = m' + 1 := ⟨m - 1, by omega⟩
      have h5 := Nat.succ_mul m' (840 / n)
      have e : (m' + 1) * (840 / n) = m' * (840 / n) + 840 / n := h5
      rw [decide_eq_true hd, e]
      refine decide_eq_true ?_
      rw [Int.natCast_add]
      have := Int.natCast_nonneg (m' * (840 / n))
      generalize ((m' * (840 / n) : Nat) : Int) = t at *
      omega
    · have : m = 0 := by omega
      subst this
      rw [decide_eq_false hd]
      refine decide_eq_false ?_
      rw [Nat.zero_mul]
      omega
  have HNt := Lib.hid hN
  have HO := Lib.hid hO
  have Hid1 := Lib.hid (And.intro hL (And.intro hB (And.intro hm hb)))
  obtain ⟨h, hh⟩ : ∃ h, h = 840 / n := ⟨_, rfl⟩
  have Hh := Lib.hid hh
  rw [← hh] at HMv HGe
  have Hhb : Hid (h ≤ 840) := by rw [hh]; exact (fq_h hn).2
  clear hh
  have hbp : bp n f i j m = ⟨(f : Int), (bp n f i j m).a, (bp n f i j m).b, ((m * h : Nat) : Int)⟩ := by rw [Hh.out]; rfl
  obtain ⟨pa, hpa⟩ : ∃ x, x = (bp n f i j m).a := ⟨_, rfl⟩
  obtain ⟨pb, hpb⟩ : ∃ x, x = (bp n f i j m).b := ⟨_, rfl⟩
  obtain ⟨pc, hpc⟩ : ∃ x : Int, x = ((m * h : Nat) : Int) := ⟨_, rfl⟩
  rw [← hpa, ← hpb, ← hpc] at hbp
  rw [← hpc] at HGe
  rw [hbp] at HUp HMv ⊢
  clear hpa hpb hpc hbp hu hmm hN hcr hO hL hB hm hb hg hn hf hij
  have HS0 : Hid (NetN (w.alloc (.cells #[.int .i64 f, .int .i64 pa, .int .i64 pb, .int .i64 pc] 122)) B mb n nv cv ev xv) := HNt.out.then ((Below.refl _ _).alloc (Nat.le_refl _) _)
  have HR0 : Hid (RowAt (w.alloc (.cells #[.int .i64 f, .int .i64 pa, .int .i64 pb, .int .i64 pc] 122)) w.heap.size [.int .i64 f, .int .i64 pa, .int .i64 pb, .int .i64 pc]) := RowAt.new _ [.int .i64 f, .int .i64 pa, .int .i64 pb, .int .i64 pc] (by simp) _ rfl
  have HO0 : Hid ((w.alloc (.cells #[.int .i64 f, .int .i64 pa, .int .i64 pb, .int .i64 pc] 122)).ownsRow base 114 3 cv L.length (tcells L)) := ownsRow_below HO.out ((Below.refl _ _).alloc (Nat.le_refl _) _)
  have HB0 : Hid (Below w.heap.size w (w.alloc (.cells #[.int .i64 f, .int .i64 pa, .int .i64 pb, .int .i64 pc] 122))) := (Below.refl _ _).alloc (Nat.le_refl _) _
  have HCv : Hid (∀ g, cv.ownBlock = some g → g < w.heap.size) := fun g hg => (World.ownsRow.lt HO.out g hg).2
  have hbb := Hid1.out
  unfold Pl.val at HUp ⊢
  simp only at HUp ⊢
  go_enter Tryz.func99, Tryz.ntmps99
  go_wp2_with (refine row_load rfl _ rfl _ rfl _ HR0.out rowT_p ?_)
  refine (HUp.out _ _ HS0.out).mono ?_
  rintro e w1 ⟨rfl, hb1⟩
  have HS1 := Lib.hid (HS0.out.then hb1)
  have HR1 := Lib.hid (HR0.out.below hb1)
  have HO1 := Lib.hid (ownsRow_below HO0.out hb1)
  have HB1 := Lib.hid (below_then HB0.out hb1)
  clear hb1 HS0 HR0 HO0 HB0
  go_wp2_with fail
  refine (HC1.out _ HS1.out (HCr.out _ (HB1.out.mono (by omega))) HO1.out (by have := HB1.out.size; omega)).mono ?_
  rintro e w2 ⟨cv1, rfl, hN2, hO2, hb2, hk2⟩
  have hs1 := HB1.out.size
  have HS2 := Lib.hid hN2
  have HO2 : Hid (w2.ownsRow base 114 3 cv1 (L ++ [upT n f i j]).length (tcells (L ++ [upT n f i j]))) := by unfold Hid; rw [List.length_append]; exact hO2
  have HB2 : Hid (Below B w w2 ∧ w1.heap.size ≤ w2.heap.size) := ⟨(HB1.out.mono (by omega)).trans hb2, hb2.size⟩
  have HR2 := Lib.hid (HR1.out.of_block (hk2 w.heap.size HR1.out.lt (by omega) (fun e => by have := HCv.out _ e; omega)))
  clear hN2 hO2 hb2 hk2 HS1 HR1 HO1
  have c3 := HR2.out.at 3 rfl
  have cb := HS2.out.row.at 1 rfl
  rw [← Hh.out] at cb
  by_cases hd : i + j + 2 ≤ n
  · obtain ⟨m', hm', HMd, HDn, HC2⟩ := HMv.out hd
    have HMd := Lib.hid HMd
    have HDn := Lib.hid HDn
    have HC2 := Lib.hid HC2
    have hge : (h : Int) ≤ pc := by have := HGe.out; rw [decide_eq_true hd] at this; simpa using this
    have HE : Hid (L ++ cellAt n f i j = (L ++ [upT n f i j]) ++ [dnT n f i j]) := by unfold Hid; rw [HCell.out, if_pos hd]; simp
    clear HMv HCell HGe hd hm' HUp HC1
    go_upto_region 2 with fail
    go_region
    go_upto_region 3 with fail
    obtain ⟨pv, hpv⟩ : ∃ pv : Value, pv = .agg #[.int .i64 f, .int .i64 pa, .int .i64 pb, .int .i64 pc] := ⟨_, rfl⟩
    have Hpv := Lib.hid hpv
    have HNg : Hid (IntKind.i64.wrap (-(h : Int)) = -(h : Int)) := IntWalk.i64_in _ (by have := Hhb.out; omega)
    clear hpv c3 cb
    refine wp_region_seqL (by kernel_rfl) (fun w' => NetN w' B mb n nv cv1 ev xv ∧ RowAt w' w.heap.size [.int .i64 f, .int .i64 pa, .int .i64 pb, .int .i64 pc]) 10 [(0, 0), (1, 0), (2, 1), (3, 0), (4, 0), (5, 0), (6, 1), (7, 0), (8, 2), (9, 2), (10, 2)] (by kernel_rfl) (⟨HS2.out.then (wz_drew2 w2), HR2.out.below (wz_drew2 w2)⟩) ?_
    refine sl_q (d := some 16) rfl rfl rfl (.pointer (some ⟨B, 0, none⟩)) (fun w => rfl) ?_
    simp only [ap_s, ap_n, ls_z, ls_s]
    refine sl_q (d := some 17) rfl rfl rfl (.pointer (some ⟨B, 0, none⟩)) (fun w => rfl) ?_
    simp only [ap_s, ap_n, ls_z, ls_s]
    refine sl_load (d := some 18) rfl rfl rfl _ _ rfl ⟨w.heap.size, 0, none⟩ rfl (pv) (fun w hw => by rw [Hpv.out]; exact hw.2.loadVar rowT_p) ?_
    simp only [ap_s, ap_n, ls_z, ls_s]
    refine sl_q (d := some 19) rfl rfl rfl (.pointer (some ⟨B, 0, none⟩)) (fun w => rfl) ?_
    simp only [ap_s, ap_n, ls_z, ls_s]
    refine sl_q (d := some 20) rfl rfl rfl (.pointer (some ⟨B, 0, none⟩)) (fun w => rfl) ?_
    simp only [ap_s, ap_n, ls_z, ls_s]
    refine sl_q (d := some 21) rfl rfl rfl (.pointer (some ⟨B, 1, none⟩)) (fun w => by go_simp) ?_
    simp only [ap_s, ap_n, ls_z, ls_s]
    refine sl_s (d := some 22) rfl rfl rfl (.int .i64 (h : Int)) (fun w hw => by have c := hw.1.row.at 1 rfl; rw [← Hh.out] at c; simp [execOp, Act.eval, go_sem, c]) ?_
    simp only [ap_s, ap_n, ls_z, ls_s]
    refine sl_q (d := some 23) rfl rfl rfl (.int .i64 (-(h : Int))) (fun w => by simp [execOp, Act.eval, go_sem, HNg.out]) ?_
    simp only [ap_s, ap_n, ls_z, ls_s]
    refine sl_call (d := some 24) rfl rfl rfl ⟨_, Tryz.func118, by kernel_rfl, by kernel_rfl⟩ _ _ _ rfl rfl [pv, .int .i64 0, .int .i64 0, .int .i64 (-(h : Int))] rfl (by rw [Hpv.out]; exact HMd.out _) ?_
    rintro e w3 ⟨rfl, hb⟩
    have hbk : Below w2.heap.size w2 w3 := (wz_drew2 w2).trans hb
    have HS3 := Lib.hid (HS2.out.then hbk)
    have HR3 := Lib.hid (HR2.out.below hbk)
    have HO3 := Lib.hid (ownsRow_below HO2.out hbk)
    have HB3 : Hid (Below B w w3 ∧ w1.heap.size ≤ w3.heap.size) := ⟨HB2.out.1.trans (hbk.mono (by have h1 := HB2.out.2; omega)), Nat.le_trans HB2.out.2 hbk.size⟩
    clear hb hbk HS2 HR2 HO2 HB2
    refine ⟨_, rfl, fun _ => ⟨HS3.out, HR3.out⟩, ?_⟩
    simp only [ap_s, ap_n, ls_z, ls_s]
    refine sl_call (d := some 25) rfl rfl rfl ⟨_, Tryz.func117, by kernel_rfl, by kernel_rfl⟩ _ _ _ rfl rfl [.pointer (some ⟨B, 0, none⟩), Pl.val (bp n f i j m')] rfl (HDn.out _ _ HS3.out) ?_
    rintro e w4 ⟨rfl, hb⟩
    have hbk := hb
    have HS4 := Lib.hid (HS3.out.then hbk)
    have HR4 := Lib.hid (HR3.out.below hbk)
    have HO4 := Lib.hid (ownsRow_below HO3.out hbk)
    have HB4 : Hid (Below B w w4 ∧ w1.heap.size ≤ w4.heap.size) := ⟨HB3.out.1.trans (hbk.mono (by have h1 := HB3.out.2; omega)), Nat.le_trans HB3.out.2 hbk.size⟩
    clear hb hbk HS3 HR3 HO3 HB3
    refine ⟨_, rfl, fun _ => ⟨HS4.out, HR4.out⟩, ?_⟩
    simp only [ap_s, ap_n, ls_z, ls_s]
    refine sl_call (d := some 26) rfl rfl rfl ⟨_, Tryz.func115, by kernel_rfl, by kernel_rfl⟩ _ _ _ rfl rfl [.pointer (some ⟨B, 0, none⟩), tri3V (pt n f i (j + 1)) (pt n f (i + 1) j) (pt n f (i + 1) (j + 1))] rfl (HC2.out _ _ HS4.out (HCr.out _ HB4.out.1) HO4.out (by have := HB4.out.2; omega)) ?_
    rintro e w5 ⟨cv2, rfl, hN5, hO5, hb5, _⟩
    refine ⟨_, rfl, (fun h => by cases h), ?_⟩
    simp only [ap_s, ap_n, ls_z, ls_s]
    refine sl_end ?_
    go_wp2_with fail
    go_end0
    exact ⟨cv2, rfl, hN5, by rw [HE.out, List.length_append]; exact hO5, HB4.out.1.trans hb5⟩
  · have hge : ¬ (h : Int) ≤ pc := by have := HGe.out; rw [decide_eq_false hd] at this; simpa using this
    have HE : Hid (L ++ cellAt n f i j = L ++ [upT n f i j]) := by unfold Hid; rw [HCell.out, if_neg hd]
    clear HMv HCell HGe hd HUp HC1
    go_wp2_with fail
    go_region
    go_wp2_with fail
    go_end0
    exact ⟨cv1, rfl, HS2.out.then (Below.refl _ _).drew, by rw [HE.out]; exact ownsRow_below HO2.out (Below.refl _ _).drew, HB2.out.1.drew⟩
end Go.Proofs.YtkpgciimhjkajaaGreatDoor
/- The program's grid: the order of cells and of edges; a slice of structs sorted. -/
namespace Go.Proofs.YtkpgciimhjkajaaGreatDoor
open Go Go.RowKit Go.Sort Go.Lib
def or3 (x y z : Int) : Int := if x ≠ 0 then x else if y ≠ 0 then y else z
def or2 (x y : Int) : Int := if x ≠ 0 then x else y
set_option maxHeartbeats 4000000 in
set_option maxRecDepth 100000 in
theorem or3_any (g : Nat) (x y z : Int) (w : World) (h0 : w.cell? ⟨g, 0, none⟩ = some (.int .i64 x)) (h1 : w.cell? ⟨g, 1, none⟩ = some (.int .i64 y)) (h2 : w.cell? ⟨g, 2, none⟩ = some (.int .i64 z)) :
    Calls Tryz.prog 102 #[.slice (some ⟨g, 0, none⟩) 3 3] w fun e w' => e = .returned (.int .i64 (or3 x y z)) ∧ w = w' := by
  unfold or3
  by_cases hx : x = 0
  · subst hx
    by_cases hy : y = 0
    · subst hy
      by_cases hz : z = 0
      · subst hz
        go_enter Tryz.func102, Tryz.ntmps102
        go_wp2_with fail
        refine wp_loop_rounds 4 ?_
        repeat any_goals (rw [rounds_succ]; go_wp2_with fail)
        go_ret
        exact ⟨rfl, rfl⟩
      · have e0 : (z != 0) = true := by simpa using hz
        rw [if_neg (by simp), if_neg (by simp)]
        go_enter Tryz.func102, Tryz.ntmps102
        go_wp2_with fail
        refine wp_loop_rounds 4 ?_
        repeat any_goals (rw [rounds_succ]; go_wp2_with fail)
        go_ret
        exact ⟨rfl, rfl⟩
    · have e0 : (y != 0) = true := by simpa using hy
      rw [if_neg (by simp), if_pos hy]
      go_enter Tryz.func102, Tryz.ntmps102
      go_wp2_with fail
      refine wp_loop_rounds 4 ?_
      repeat any_goals (rw [rounds_succ]; go_wp2_with fail)
      go_ret
      exact ⟨rfl, rfl⟩
  · have e0 : (x != 0) = true := by simpa using hx
    rw [if_pos hx]
    go_enter Tryz.func102, Tryz.ntmps102
    go_wp2_with fail
    refine wp_loop_rounds 4 ?_
    repeat any_goals (rw [rounds_succ]; go_wp2_with fail)
    go_ret
    exact ⟨rfl, rfl⟩
set_option maxHeartbeats 4000000 in
set_option maxRecDepth 100000 in
theorem or2_any (g : Nat) (x y : Int) (w : World) (h0 : w.cell? ⟨g, 0, none⟩ = some (.int .i64 x)) (h1 : w.cell? ⟨g, 1, none⟩ = some (.int .i64 y)) :
    Calls Tryz.prog 102 #[.slice (some ⟨g, 0, none⟩) 2 2] w fun e w' => e = .returned (.int .i64 (or2 x y)) ∧ w = w' := by
  unfold or2
  by_cases hx : x = 0
  · subst hx
    by_cases hy : y = 0
    · subst hy
      go_enter Tryz.func102, Tryz.ntmps102
      go_wp2_with fail
      refine wp_loop_rounds 4 ?_
      repeat any_goals (rw [rounds_succ]; go_wp2_with fail)
      go_ret
      exact ⟨rfl, rfl⟩
    · have e0 : (y != 0) = true := by simpa using hy
      rw [if_neg (by simp)]
      go_enter Tryz.func102, Tryz.ntmps102
      go_wp2_with fail
      refine wp_loop_rounds 4 ?_
      repeat any_goals (rw [rounds_succ]; go_wp2_with fail)
      go_ret
      exact ⟨rfl, rfl⟩
  · have e0 : (x != 0) = true := by simpa using hx
    rw [if_pos hx]
    go_enter Tryz.func102, Tryz.ntmps102
    go_wp2_with fail
    refine wp_loop_rounds 4 ?_
    repeat any_goals (rw [rounds_succ]; go_wp2_with fail)
    go_ret
    exact ⟨rfl, rfl⟩
theorem cmp_int (x y : Int) (w : World) : Calls Tryz.prog 103 #[.int .i64 x, .int .i64 y] w fun e w' => e = .returned (.int .i64 (Lib.compareInt x y)) ∧ w' = w := AnyG.cmp_Compare_int Tryz.cmpInt x y w
def cfT (s t : Tri) : Int := or3 (Lib.compareInt s.1 t.1) (Lib.compareInt s.2.1 t.2.1) (Lib.compareInt s.2.2 t.2.2)
def cfE (s t : Ed) : Int := or2 (Lib.compareInt s.1 t.1) (Lib.compareInt s.2 t.2)
theorem ltT_iff (s t : Tri) : ltOf cfT s t = decide (LtT s t) := by
  unfold ltOf cfT or3 Lib.compareInt LtT
  apply decide_eq_decide.2
  repeat' split
  all_goals omega
theorem ltE_iff (s t : Ed) : ltOf cfE s t = decide (LtE s t) := by
  unfold ltOf cfE or2 Lib.compareInt LtE
  apply decide_eq_decide.2
  repeat' split
  all_goals omega
theorem swoT : SWO (ltOf cfT) where
  irrefl x := by rw [ltT_iff]; simp [LtT]
  trans x y z h1 h2 := by rw [ltT_iff] at *; simp only [decide_eq_true_eq] at *; unfold LtT at *; omega
  ntrans x y z h1 h2 := by rw [ltT_iff] at *; simp only [decide_eq_false_iff_not] at *; unfold LtT at *; omega
theorem swoE : SWO (ltOf cfE) where
  irrefl x := by rw [ltE_iff]; simp [LtE]
  trans x y z h1 h2 := by rw [ltE_iff] at *; simp only [decide_eq_true_eq] at *; unfold LtE at *; omega
  ntrans x y z h1 h2 := by rw [ltE_iff] at *; simp only [decide_eq_false_iff_not] at *; unfold LtE at *; omega
end Go.Proofs.YtkpgciimhjkajaaGreatDoor
/- The program's grid: the closures that order cells and edges. -/
namespace Go.Proofs.YtkpgciimhjkajaaGreatDoor
open Go Go.RowKit Go.Sort Go.Lib
theorem grow2 (W : World) (a b c : Obj) : ((((W.alloc a).alloc b).drew).alloc c) = grow (W.drewN 1) #[a, b, c] := by
  rw [alloc_eq_grow, alloc_eq_grow, alloc_eq_grow, grow_grow, drew_grow, grow_grow]; rfl
set_option maxHeartbeats 8000000 in
set_option maxRecDepth 100000 in
theorem cmpCells_any (s t : Tri) (W : World) : Calls Tryz.prog 101 #[.agg (tcl s).toArray, .agg (tcl t).toArray] W fun e w' => e = .returned (.int .i64 (cfT s t)) ∧ ∃ q os', w' = grow (W.drewN q) os' := by
  obtain ⟨s1, hs1⟩ : ∃ x : Int, x = (s.1 : Int) := ⟨_, rfl⟩
  obtain ⟨s2, hs2⟩ : ∃ x : Int, x = (s.2.1 : Int) := ⟨_, rfl⟩
  obtain ⟨s3, hs3⟩ : ∃ x : Int, x = (s.2.2 : Int) := ⟨_, rfl⟩
  obtain ⟨t1, ht1⟩ : ∃ x : Int, x = (t.1 : Int) := ⟨_, rfl⟩
  obtain ⟨t2, ht2⟩ : ∃ x : Int, x = (t.2.1 : Int) := ⟨_, rfl⟩
  obtain ⟨t3, ht3⟩ : ∃ x : Int, x = (t.2.2 : Int) := ⟨_, rfl⟩
  unfold cfT tcl
  rw [← hs1, ← hs2, ← hs3, ← ht1, ← ht2, ← ht3]
  clear hs1 hs2 hs3 ht1 ht2 ht3
  have HC1 := Lib.hid (fun w' => cmp_int s1 t1 w')
  have HC2 := Lib.hid (fun w' => cmp_int s2 t2 w')
  have HC3 := Lib.hid (fun w' => cmp_int s3 t3 w')
  generalize Lib.compareInt s1 t1 = r1 at *
  generalize Lib.compareInt s2 t2 = r2 at *
  generalize Lib.compareInt s3 t3 = r3 at *
  go_enter Tryz.func101, Tryz.ntmps101
  go_upto_region 1 with fail
  have hS0 : RowAt ((W.alloc (.cells #[.int .i64 s1, .int .i64 s2, .int .i64 s3] 114)).alloc (.cells #[.int .i64 t1, .int .i64 t2, .int .i64 t3] 114)) W.heap.size [.int .i64 s1, .int .i64 s2, .int .i64 s3] := (RowAt.new _ [.int .i64 s1, .int .i64 s2, .int .i64 s3] (by simp) _ rfl).alloc _
  have hS1 : RowAt ((W.alloc (.cells #[.int .i64 s1, .int .i64 s2, .int .i64 s3] 114)).alloc (.cells #[.int .i64 t1, .int .i64 t2, .int .i64 t3] 114)) (W.heap.size + 1) [.int .i64 t1, .int .i64 t2, .int .i64 t3] := RowAt.new _ [.int .i64 t1, .int .i64 t2, .int .i64 t3] (by simp) _ (by simp)
  obtain ⟨wz, hwz⟩ : ∃ x, x = (W.alloc (.cells #[.int .i64 s1, .int .i64 s2, .int .i64 s3] 114)).alloc (.cells #[.int .i64 t1, .int .i64 t2, .int .i64 t3] 114) := ⟨_, rfl⟩
  rw [← hwz] at hS0 hS1 ⊢
  have HSS := Lib.hid (And.intro hS0 hS1)
  have Hwz := Lib.hid hwz
  clear hwz hS0 hS1
  refine wp_region_seqL (by kernel_rfl) (fun w' => RowAt w' W.heap.size [.int .i64 s1, .int .i64 s2, .int .i64 s3] ∧ RowAt w' (W.heap.size + 1) [.int .i64 t1, .int .i64 t2, .int .i64 t3]) 16 [(0, 0), (1, 1), (2, 0), (3, 1), (5, 0), (6, 1), (7, 0), (8, 1), (10, 0), (11, 1), (12, 0), (13, 1), (4, 2), (9, 2), (14, 2), (15, 2), (16, 2), (17, 0)] (by kernel_rfl) (⟨HSS.out.1.drew, HSS.out.2.drew⟩) ?_
  refine sl_q (d := some 5) rfl rfl rfl (.pointer (some ⟨W.heap.size, 0, none⟩)) (fun w => by go_simp) ?_
  simp only [ap_s, ap_n, ls_z, ls_s]
  refine sl_s (d := some 6) rfl rfl rfl (.int .i64 s1) (fun w hw => by have c := hw.1.at 0 rfl; simp [execOp, Act.eval, go_sem, c]) ?_
  simp only [ap_s, ap_n, ls_z, ls_s]
  refine sl_q (d := some 7) rfl rfl rfl (.pointer (some ⟨W.heap.size + 1, 0, none⟩)) (fun w => by go_simp) ?_
  simp only [ap_s, ap_n, ls_z, ls_s]
  refine sl_s (d := some 8) rfl rfl rfl (.int .i64 t1) (fun w hw => by have c := hw.2.at 0 rfl; simp [execOp, Act.eval, go_sem, c]) ?_
  simp only [ap_s, ap_n, ls_z, ls_s]
  refine sl_q (d := some 10) rfl rfl rfl (.pointer (some ⟨W.heap.size, 1, none⟩)) (fun w => by go_simp) ?_
  simp only [ap_s, ap_n, ls_z, ls_s]
  refine sl_s (d := some 11) rfl rfl rfl (.int .i64 s2) (fun w hw => by have c := hw.1.at 1 rfl; simp [execOp, Act.eval, go_sem, c]) ?_
  simp only [ap_s, ap_n, ls_z, ls_s]
  refine sl_q (d := some 12) rfl rfl rfl (.pointer (some ⟨W.heap.size + 1, 1, none⟩)) (fun w => by go_simp) ?_
  simp only [ap_s, ap_n, ls_z, ls_s]
  refine sl_s (d := some 13) rfl rfl rfl (.int .i64 t2) (fun w hw => by have c := hw.2.at 1 rfl; simp [execOp, Act.eval, go_sem, c]) ?_
  simp only [ap_s, ap_n, ls_z, ls_s]
  refine sl_q (d := some 15) rfl rfl rfl (.pointer (some ⟨W.heap.size, 2, none⟩)) (fun w => by go_simp) ?_
  simp only [ap_s, ap_n, ls_z, ls_s]
  refine sl_s (d := some 16) rfl rfl rfl (.int .i64 s3) (fun w hw => by have c := hw.1.at 2 rfl; simp [execOp, Act.eval, go_sem, c]) ?_
  simp only [ap_s, ap_n, ls_z, ls_s]
  refine sl_q (d := some 17) rfl rfl rfl (.pointer (some ⟨W.heap.size + 1, 2, none⟩)) (fun w => by go_simp) ?_
  simp only [ap_s, ap_n, ls_z, ls_s]
  refine sl_s (d := some 18) rfl rfl rfl (.int .i64 t3) (fun w hw => by have c := hw.2.at 2 rfl; simp [execOp, Act.eval, go_sem, c]) ?_
  simp only [ap_s, ap_n, ls_z, ls_s]
  refine sl_call (d := some 9) rfl rfl rfl ⟨_, Tryz.func103, by kernel_rfl, by kernel_rfl⟩ _ _ _ rfl rfl [.int .i64 s1, .int .i64 t1] rfl (HC1.out _) ?_
  rintro e u1 ⟨rfl, rfl⟩
  refine ⟨_, rfl, fun _ => ⟨HSS.out.1.drew, HSS.out.2.drew⟩, ?_⟩
  simp only [ap_s, ap_n, ls_z, ls_s]
  refine sl_call (d := some 14) rfl rfl rfl ⟨_, Tryz.func103, by kernel_rfl, by kernel_rfl⟩ _ _ _ rfl rfl [.int .i64 s2, .int .i64 t2] rfl (HC2.out _) ?_
  rintro e u2 ⟨rfl, rfl⟩
  refine ⟨_, rfl, fun _ => ⟨HSS.out.1.drew, HSS.out.2.drew⟩, ?_⟩
  simp only [ap_s, ap_n, ls_z, ls_s]
  refine sl_call (d := some 19) rfl rfl rfl ⟨_, Tryz.func103, by kernel_rfl, by kernel_rfl⟩ _ _ _ rfl rfl [.int .i64 s3, .int .i64 t3] rfl (HC3.out _) ?_
  rintro e u3 ⟨rfl, rfl⟩
  refine ⟨_, rfl, fun _ => ⟨HSS.out.1.drew, HSS.out.2.drew⟩, ?_⟩
  simp only [ap_s, ap_n, ls_z, ls_s]
  refine sl_run (d := some 20) rfl rfl rfl (.slice (some ⟨wz.drew.heap.size, 0, none⟩) 3 3) (wz.drew.alloc (.cells #[.int .i64 r1, .int .i64 r2, .int .i64 r3] 3)) (by simp [execOp, Act.eval, go_sem, Instr.buildSlice]) (fun _ => ⟨HSS.out.1.drew.alloc _, HSS.out.2.drew.alloc _⟩) ?_
  simp only [ap_s, ap_n, ls_z, ls_s]
  refine sl_call (d := some 21) rfl rfl rfl ⟨_, Tryz.func102, by kernel_rfl, by kernel_rfl⟩ _ _ _ rfl rfl [.slice (some ⟨wz.drew.heap.size, 0, none⟩) 3 3] rfl (or3_any wz.drew.heap.size r1 r2 r3 _ (cell_new wz.drew _ _ rfl rfl) (cell_new wz.drew _ _ rfl rfl) (cell_new wz.drew _ _ rfl rfl)) ?_
  rintro e u9 ⟨rfl, rfl⟩
  refine ⟨_, rfl, (fun h => by cases h), ?_⟩
  simp only [ap_s, ap_n, ls_z, ls_s]
  refine sl_q (d := some 4) rfl rfl rfl (.int .i64 (or3 r1 r2 r3)) (fun w => rfl) ?_
  simp only [ap_s, ap_n, ls_z, ls_s]
  refine sl_end ?_
  go_wp2_with fail
  go_ret
  exact ⟨rfl, 1, _, by rw [Hwz.out]; exact grow2 _ _ _ _⟩
set_option maxHeartbeats 8000000 in
set_option maxRecDepth 100000 in
theorem cmpEdges_any (s t : Ed) (W : World) : Calls Tryz.prog 105 #[.agg (ecl s).toArray, .agg (ecl t).toArray] W fun e w' => e = .returned (.int .i64 (cfE s t)) ∧ ∃ q os', w' = grow (W.drewN q) os' := by
  obtain ⟨s1, hs1⟩ : ∃ x : Int, x = (s.1 : Int) := ⟨_, rfl⟩
  obtain ⟨s2, hs2⟩ : ∃ x : Int, x = (s.2 : Int) := ⟨_, rfl⟩
  obtain ⟨t1, ht1⟩ : ∃ x : Int, x = (t.1 : Int) := ⟨_, rfl⟩
  obtain ⟨t2, ht2⟩ : ∃ x : Int, x = (t.2 : Int) := ⟨_, rfl⟩
  unfold cfE ecl
  rw [← hs1, ← hs2, ← ht1, ← ht2]
  clear hs1 hs2 ht1 ht2
  have HC1 := Lib.hid (fun w' => cmp_int s1 t1 w')
  have HC2 := Lib.hid (fun w' => cmp_int s2 t2 w')
  generalize Lib.compareInt s1 t1 = r1 at *
  generalize Lib.compareInt s2 t2 = r2 at *
  go_enter Tryz.func105, Tryz.ntmps105
  go_upto_region 1 with fail
  have hS0 : RowAt ((W.alloc (.cells #[.int .i64 s1, .int .i64 s2] 95)).alloc (.cells #[.int .i64 t1, .int .i64 t2] 95)) W.heap.size [.int .i64 s1, .int .i64 s2] := (RowAt.new _ [.int .i64 s1, .int .i64 s2] (by simp) _ rfl).alloc _
  have hS1 : RowAt ((W.alloc (.cells #[.int .i64 s1, .int .i64 s2] 95)).alloc (.cells #[.int .i64 t1, .int .i64 t2] 95)) (W.heap.size + 1) [.int .i64 t1, .int .i64 t2] := RowAt.new _ [.int .i64 t1, .int .i64 t2] (by simp) _ (by simp)
  obtain ⟨wz, hwz⟩ : ∃ x, x = (W.alloc (.cells #[.int .i64 s1, .int .i64 s2] 95)).alloc (.cells #[.int .i64 t1, .int .i64 t2] 95) := ⟨_, rfl⟩
  rw [← hwz] at hS0 hS1 ⊢
  have HSS := Lib.hid (And.intro hS0 hS1)
  have Hwz := Lib.hid hwz
  clear hwz hS0 hS1
  refine wp_region_seqL (by kernel_rfl) (fun w' => RowAt w' W.heap.size [.int .i64 s1, .int .i64 s2] ∧ RowAt w' (W.heap.size + 1) [.int .i64 t1, .int .i64 t2]) 11 [(0, 0), (1, 1), (2, 0), (3, 1), (5, 0), (6, 1), (7, 0), (8, 1), (4, 2), (9, 2), (10, 2), (11, 2), (12, 0)] (by kernel_rfl) (⟨HSS.out.1.drew, HSS.out.2.drew⟩) ?_
  refine sl_q (d := some 5) rfl rfl rfl (.pointer (some ⟨W.heap.size, 0, none⟩)) (fun w => by go_simp) ?_
  simp only [ap_s, ap_n, ls_z, ls_s]
  refine sl_s (d := some 6) rfl rfl rfl (.int .i64 s1) (fun w hw => by have c := hw.1.at 0 rfl; simp [execOp, Act.eval, go_sem, c]) ?_
  simp only [ap_s, ap_n, ls_z, ls_s]
  refine sl_q (d := some 7) rfl rfl rfl (.pointer (some ⟨W.heap.size + 1, 0, none⟩)) (fun w => by go_simp) ?_
  simp only [ap_s, ap_n, ls_z, ls_s]
  refine sl_s (d := some 8) rfl rfl rfl (.int .i64 t1) (fun w hw => by have c := hw.2.at 0 rfl; simp [execOp, Act.eval, go_sem, c]) ?_
  simp only [ap_s, ap_n, ls_z, ls_s]
  refine sl_q (d := some 10) rfl rfl rfl (.pointer (some ⟨W.heap.size, 1, none⟩)) (fun w => by go_simp) ?_
  simp only [ap_s, ap_n, ls_z, ls_s]
  refine sl_s (d := some 11) rfl rfl rfl (.int .i64 s2) (fun w hw => by have c := hw.1.at 1 rfl; simp [execOp, Act.eval, go_sem, c]) ?_
  simp only [ap_s, ap_n, ls_z, ls_s]
  refine sl_q (d := some 12) rfl rfl rfl (.pointer (some ⟨W.heap.size + 1, 1, none⟩)) (fun w => by go_simp) ?_
  simp only [ap_s, ap_n, ls_z, ls_s]
  refine sl_s (d := some 13) rfl rfl rfl (.int .i64 t2) (fun w hw => by have c := hw.2.at 1 rfl; simp [execOp, Act.eval, go_sem, c]) ?_
  simp only [ap_s, ap_n, ls_z, ls_s]
  refine sl_call (d := some 9) rfl rfl rfl ⟨_, Tryz.func103, by kernel_rfl, by kernel_rfl⟩ _ _ _ rfl rfl [.int .i64 s1, .int .i64 t1] rfl (HC1.out _) ?_
  rintro e u1 ⟨rfl, rfl⟩
  refine ⟨_, rfl, fun _ => ⟨HSS.out.1.drew, HSS.out.2.drew⟩, ?_⟩
  simp only [ap_s, ap_n, ls_z, ls_s]
  refine sl_call (d := some 14) rfl rfl rfl ⟨_, Tryz.func103, by kernel_rfl, by kernel_rfl⟩ _ _ _ rfl rfl [.int .i64 s2, .int .i64 t2] rfl (HC2.out _) ?_
  rintro e u2 ⟨rfl, rfl⟩
  refine ⟨_, rfl, fun _ => ⟨HSS.out.1.drew, HSS.out.2.drew⟩, ?_⟩
  simp only [ap_s, ap_n, ls_z, ls_s]
  refine sl_run (d := some 15) rfl rfl rfl (.slice (some ⟨wz.drew.heap.size, 0, none⟩) 2 2) (wz.drew.alloc (.cells #[.int .i64 r1, .int .i64 r2] 3)) (by simp [execOp, Act.eval, go_sem, Instr.buildSlice]) (fun _ => ⟨HSS.out.1.drew.alloc _, HSS.out.2.drew.alloc _⟩) ?_
  simp only [ap_s, ap_n, ls_z, ls_s]
  refine sl_call (d := some 16) rfl rfl rfl ⟨_, Tryz.func102, by kernel_rfl, by kernel_rfl⟩ _ _ _ rfl rfl [.slice (some ⟨wz.drew.heap.size, 0, none⟩) 2 2] rfl (or2_any wz.drew.heap.size r1 r2 _ (cell_new wz.drew _ _ rfl rfl) (cell_new wz.drew _ _ rfl rfl)) ?_
  rintro e u9 ⟨rfl, rfl⟩
  refine ⟨_, rfl, (fun h => by cases h), ?_⟩
  simp only [ap_s, ap_n, ls_z, ls_s]
  refine sl_q (d := some 4) rfl rfl rfl (.int .i64 (or2 r1 r2)) (fun w => rfl) ?_
  simp only [ap_s, ap_n, ls_z, ls_s]
  refine sl_end ?_
  go_wp2_with fail
  go_ret
  exact ⟨rfl, 1, _, by rw [Hwz.out]; exact grow2 _ _ _ _⟩
end Go.Proofs.YtkpgciimhjkajaaGreatDoor
