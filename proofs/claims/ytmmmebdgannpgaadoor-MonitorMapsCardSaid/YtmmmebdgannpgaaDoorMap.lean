/- Map of the monitor returns the lines of a field of at most 300 ints. -/
import Derived.Test.YtmmmebdgannpgaaDoorChunk
namespace Go.Proofs.YtmmmebdgannpgaaDoor
open Go Go.RowKit Go.Shelf

attribute [local go_sem] Oper.semAt_some

theorem divided_any (n : Int) (hn : I64 n) (w : World) :
    Calls Tryd.prog 10 #[.int .i64 n, .int .i64 256] w fun e w' => e = .returned (.int .i64 (n / 256)) ∧ w = w' := by
  unfold I64 at hn
  have hr : n.tmod 256 = n - 256 * n.tdiv 256 := by have := Int.mul_tdiv_add_tmod n 256; omega
  by_cases h : n.tmod 256 < 0
  · have hq : n / 256 = n.tdiv 256 - 1 := by
      have h1 : n < 0 := by
        rcases Int.lt_or_le n 0 with q | q
        · exact q
        · have := Int.tmod_nonneg 256 q; omega
      have := Int.lt_tmod_of_pos n (show (0 : Int) < 256 by omega)
      omega
    rw [hq]
    have b1 : -9223372036854775808 < n.tdiv 256 := by omega
    have b2 : n.tdiv 256 ≤ 9223372036854775807 := by omega
    clear hq hr
    go_enter Tryd.func10, Tryd.ntmps10
    go_wp2
    go_ret
    exact ⟨rfl, rfl⟩
  · have hq : n / 256 = n.tdiv 256 := by
      have := Int.tmod_lt_of_pos n (show (0 : Int) < 256 by omega)
      omega
    rw [hq]
    clear hq hr
    go_enter Tryd.func10, Tryd.ntmps10
    go_wp2
    go_ret
    exact ⟨rfl, rfl⟩

/-- The numbers of a piece, as words. -/
def pieceW (zs : List Int) (k : Nat) : List (List UInt8) := ((zs.drop (10 * k)).take 10).map fun z => Lib.itoa (z / 256)
/-- The line of a piece. -/
def lineOf (zs : List Int) (k : Nat) : List UInt8 := wordsOf [] (pieceW zs k)

theorem isb_below {B b : Nat} {bs : List Value} {w w' : World} (h : Lib.IsBuilder WT 5 B b bs w) (hb : Below w.heap.size w w') : Lib.IsBuilder WT 5 B b bs w' := by
  have key : ∀ p, Lib.BuilderAt WT 5 B b p bs w → Lib.BuilderAt WT 5 B b p bs w' := by
    rintro p ⟨h1, v, h2, h3, h4⟩
    refine ⟨h1, v, ?_, ?_, h4⟩
    · rw [hb.block b (Array.getElem?_eq_some_iff.1 h2).1]; exact h2
    · obtain ⟨a1, a2⟩ := h3
      refine ⟨a1, ?_⟩
      rcases a2 with a2 | ⟨g, cap, cur, e, hg, hh, r⟩
      · exact .inl a2
      · exact .inr ⟨g, cap, cur, e, hg, by rw [hb.block g (Array.getElem?_eq_some_iff.1 hh).1]; exact hh, r⟩
  exact h.imp (key _) (key _)

theorem itoa_ne (n : Int) : Lib.itoa n ≠ [] := by
  unfold Lib.itoa
  split
  · simp
  · intro h
    have := congrArg List.length h
    rw [Lib.decDigits_length] at this
    have : 1 ≤ Lib.nDigits n.toNat := by
      unfold Lib.nDigits; split <;> omega
    simp at *
    omega
theorem wordsOf_ne (a : List UInt8) (ss : List (List UInt8)) (h : a ≠ [] ∨ ss ≠ []) (hs : ∀ s ∈ ss, s ≠ []) : wordsOf a ss ≠ [] := by
  induction ss generalizing a with
  | nil => simpa [wordsOf] using h
  | cons x l ih =>
    unfold wordsOf
    refine ih _ (Or.inl ?_) (fun s hs' => hs s (by simp [hs']))
    split
    · exact hs x (by simp)
    · simp

theorem wordsOf_append (a : List UInt8) (x y : List (List UInt8)) : wordsOf a (x ++ y) = wordsOf (wordsOf a x) y := by
  induction x generalizing a with
  | nil => rfl
  | cons s l ih => exact ih _
theorem isb_lt {B b : Nat} {bs : List Value} {w : World} (h : Lib.IsBuilder WT 5 B b bs w) : b < w.heap.size := by
  rcases h with h | h <;> exact h.lt
theorem isb_alloc {B b : Nat} {bs : List Value} {w : World} (h : Lib.IsBuilder WT 5 B b bs w) (o : Obj) : Lib.IsBuilder WT 5 B b bs (w.alloc o) := isb_below h ((Below.refl _ _).alloc (Nat.le_refl _) o)
theorem strs_one (w : World) (s : List UInt8) : StrsAt (w.alloc (.cells #[.string ⟨s.toArray⟩] 9)) w.heap.size [s] := by
  refine ⟨_, _, World.alloc_heap_new w _, fun i hi => ?_⟩
  obtain rfl : i = 0 := by simp at hi; omega
  rfl

/-- An append whose run is known, as a step of a region that draws, inside a fence. -/
theorem stepIn_append_run {F : Fence} {n : Nat} {P : Program} {ops : Array Oper} {o : Oper} {a : Act} {w : World} {K : Act → World → Prop} {Q : Exit → Act → World → Prop} {E : Prop} (hgd : o.guard = none) (s x : Operand) (t : TypeId)
    (ho : o.op = .call { callee := .builtin .append, args := #[s, x], argTypes := #[t, t] }) (v xv v' : Value) (w' : World) (hs : a.eval s = v) (hx : a.eval x = xv)
    (hrun : (Builtin.append_ #[t, t] o.type #[v, xv]).run P w = .ok v' w') (h : K (a.put o.dst v') w') :
    if Region.wanted o (yielded ops a.tmps) = true then Oper.wpIn F n P o a w K Q else E := by
  have hw : Region.wanted o (yielded ops a.tmps) = true := by simp [Region.wanted, hgd]
  rw [if_pos hw]
  refine ⟨?_, ?_⟩
  · simp [Oper.about, ho, resolve, Target.leads, Sem.run_pure]
  · rw [Oper.semAt_plain F _ _ (by rw [ho]; intro c h; cases h)]
    unfold execOp
    simp only [ho, resolve, invoke, builtin, Sem.run_bind, Sem.run_pure, Result.andThen_ok, List.map_toArray, List.map_cons, List.map_nil, hs, hx, hrun]
    exact h
theorem grown_of_below {W w' : World} (h : Below W.heap.size W w') : W.grownBy w' none := ⟨h.os, h.tape, h.output, h.size, fun k hk _ => h.block k hk⟩
theorem keepsOthers_of_below {W w' : World} (h : Below W.heap.size W w') : KeepsOthers W w' := ⟨h.size, fun k _ hk _ => (h.block k (Array.getElem?_eq_some_iff.1 hk).1).trans hk⟩

/-- The lines as cells. -/
def linesV (zs : List Int) (pre : List Nat) : List Value := pre.map fun k => Value.string ⟨(lineOf zs k).toArray⟩
theorem strinfo : (Tryd.prog.info? 9).map (fun i => (i.zero, i.size, i.bytes)) = some (some (.string ⟨#[]⟩), 1, 16) := by kernel_rfl

/-- The lines of a field, new. -/
def NewMap (zs : List Int) (w : World) (e : Ending) (w' : World) : Prop := ∃ v, e = .returned v ∧ w'.ownsRow w.heap.size 9 1 v ((zs.length + 9) / 10) (linesV zs (List.range ((zs.length + 9) / 10))) ∧ Below w.heap.size w w'

set_option maxRecDepth 100000 in
set_option maxHeartbeats 4000000 in
theorem map_any (v : Value) (zs : List Int) (w : World) (hT : Tab w) (hI : IntsIn w.heap.size w v zs) (hz : ∀ z ∈ zs, I64 z) (hlen : zs.length ≤ 300) :
    Calls Tryd.prog 5 #[v] w (NewMap zs w) := by
  obtain ⟨i0, hi, hz0, hz1, hz2⟩ := info_parts strinfo
  obtain ⟨va, vl, vc, rfl⟩ : ∃ a l c, v = .slice a l c := by rcases hI with ⟨a, c, e, _⟩ | ⟨b, off, cap, e, _⟩ <;> exact ⟨_, _, _, e⟩
  refine (callsIn_wide (n := 9)).1 ?_
  refine callsIn_of_wp_marks Tryd.func5 rfl trivial ?_ rfl
  simp only [Tryd.ntmps5, List.size_toArray, List.length_cons, List.length_nil, Nat.reduceAdd, Nat.reduceSub, Array.replicate_succ, Array.replicate_zero, List.push_toArray, List.append_toArray, List.nil_append, List.cons_append]
  gi_wp2_with (refine ⟨trivial, ?_⟩; gi_at_call 7; refine (callsIn_wide.2 (chunk_any _ _ _ _)).mono ?_; rintro e w' ⟨rfl, rfl⟩)
  have hB0 : Below w.heap.size w (((w.alloc (.cells #[.slice none 0 0] 24)).alloc (.cells #[.slice va vl vc] 22)).alloc (.cells #[.int .i64 10] 3)) := (((Below.refl _ w).alloc (Nat.le_refl _) _).alloc (by simp) _).alloc (by simp; omega) _
  have bO : Boxed (((w.alloc (.cells #[.slice none 0 0] 24)).alloc (.cells #[.slice va vl vc] 22)).alloc (.cells #[.int .i64 10] 3)) w.heap.size 24 (.slice none 0 0) := ((Boxed.new w 24 (.slice none 0 0)).alloc _).alloc _
  have bS := (Boxed.new (w.alloc (.cells #[.slice none 0 0] 24)) 22 (.slice va vl vc)).alloc (.cells #[.int .i64 10] 3)
  rw [World.size_alloc] at bS
  have bN := Boxed.new ((w.alloc (.cells #[.slice none 0 0] 24)).alloc (.cells #[.slice va vl vc] 22)) 3 (.int .i64 10)
  rw [World.size_alloc, World.size_alloc] at bN
  obtain ⟨Wc, hWc⟩ : ∃ Wc, Wc = ((w.alloc (.cells #[.slice none 0 0] 24)).alloc (.cells #[.slice va vl vc] 22)).alloc (.cells #[.int .i64 10] 3) := ⟨_, rfl⟩
  have hWsz : Wc.heap.size = w.heap.size + 3 := by rw [hWc]; simp
  rw [← hWc] at hB0 bO bS bN ⊢
  obtain ⟨ab, ao, hab⟩ : ∃ ab ao, atOf (.slice va vl vc) = (ab, ao) := ⟨_, _, rfl⟩
  have hstops := chunk_stops 8 (by omega) (w.heap.size + 1) (w.heap.size + 1 + 1) w.heap.size (.slice va vl vc) zs hlen Wc (by omega) (by omega) (by omega) bS.cell bN.cell (hI.below hB0)
  rw [hab] at hstops
  have HB0 := Lib.hid hB0
  have HbO := Lib.hid bO
  have HW := Lib.hid hWc
  have Hcell : Hid (∀ x : PieceNo zs, ∀ j, j < min 10 (zs.length - 10 * x.1) → w.cell? ⟨ab, ao + 10 * x.1 + j, none⟩ = some (.int .i64 (((zs.drop (10 * x.1)).take 10).getD j 0))) := by
    intro x j hj
    rcases hI with ⟨_, _, e, rfl⟩ | ⟨b, off, cap, e, h1, h2, h3, h4⟩
    · have := x.2; simp at this
    · rw [e] at hab
      obtain ⟨rfl, rfl⟩ : b = ab ∧ off = ao := by simpa [atOf] using hab
      have := h4 (10 * x.1 + j) (by omega)
      rw [show off + 10 * x.1 + j = off + (10 * x.1 + j) by omega, this]
      simp [List.getD_eq_getElem?_getD, List.getElem?_take_of_lt (show j < 10 by omega)]
  have HT := Lib.hid hT
  have Hz := Lib.hid hz
  refine wpIn_rangeFunc_ownG rfl (by omega) (gf := 12) (lb := #[.pointer (some ⟨w.heap.size + 1, 0, none⟩), .pointer (some ⟨w.heap.size + 1 + 1, 0, none⟩)]) rfl trivial (enters_of Tryd.func12 (by kernel_rfl) rfl)
    hstops (fun h k => KpC.trans h k) (fun W l o o' hl h ho hw => KpC.putObj (w := Wc) (by omega) W l o o' hl h ho hw) (Below.refl _ _) (fun _ => rfl)
    (fun pre W => (∃ u, Boxed W w.heap.size 24 u ∧ W.ownsRow w.heap.size 9 1 u pre.length (linesV zs (pre.map (·.1))) ∧ True) ∧ (Boxed W (w.heap.size + 1) 22 (.slice va vl vc) ∧ Boxed W (w.heap.size + 1 + 1) 3 (.int .i64 10)) ∧ Below w.heap.size w W)
    (fun _ _ _ => False)
    (OwnFrom.and (Own.from (holdsRow_own w.heap.size w.heap.size 24 9 1 (fun pre : List (PieceNo zs) => pre.length) (fun pre => linesV zs (pre.map (·.1))) (fun _ _ => True)) _) (OwnFrom.and (OwnFrom.and (Own.from (boxed_own _ _ (fun _ => .slice va vl vc)) _) (Own.from (boxed_own _ _ (fun _ => .int .i64 10)) _)) (ownFrom_below (Nat.le_refl _) (by omega))))
    (fun _ _ _ _ _ hs _ _ => hs)
    ⟨⟨_, bO, World.ownsRow_nil _ _ _ _, trivial⟩, ⟨bS, bN⟩, hB0⟩
    (fun x => { tmps := #[.slice va vl vc, undef, .slice none 0 0, .pointer (some ⟨w.heap.size, 0, none⟩), .slice (some ⟨ab, ao + 10 * x.1, none⟩) (min 10 (zs.length - 10 * x.1)) (min 10 (zs.length - 10 * x.1)), undef, undef, undef, .slice va vl vc, .func (.func 12) #[] #[.pointer (some ⟨w.heap.size + 1, 0, none⟩), .pointer (some ⟨w.heap.size + 1 + 1, 0, none⟩)], .slice (some ⟨ab, ao + 10 * x.1, none⟩) (min 10 (zs.length - 10 * x.1)) (min 10 (zs.length - 10 * x.1)), undef, undef, undef, undef, undef, undef, undef, undef, undef, undef, undef, undef, undef, undef, undef, undef, undef, undef, undef, undef, undef, undef, undef], defers := [] }) ?assign ?body ?done ?stop
  case assign =>
    intro l x W K hK
    dsimp only [piece]
    gi_wp2
    exact hK
  case body =>
    rintro l pre x W ⟨⟨u, hv, hrow, _⟩, ⟨hS, hN⟩, hB⟩ hlt
    have hsz := hB.size
    have HBW := Lib.hid hB
    have HTW := Lib.hid (HT.out.below hB)
    have Hv := Lib.hid hv
    have Hrow := Lib.hid hrow
    have HS := Lib.hid hS
    have HN := Lib.hid hN
    have Hplen : Hid (pre.length < (zs.length + 9) / 10) := hlt
    obtain ⟨k, hk⟩ := x
    dsimp only
    have Hcl := Lib.hid (fun j hj => Hcell.out ⟨k, hk⟩ j hj)
    have Hss : Hid ((pieceW zs k).length = min 10 (zs.length - 10 * k)) := by unfold Hid pieceW; simp
    have Hsj : Hid (∀ j, j < min 10 (zs.length - 10 * k) → ∃ z, ((zs.drop (10 * k)).take 10).getD j 0 = z ∧ I64 z ∧ (pieceW zs k).getD j [] = Lib.itoa (z / 256)) := by
      intro j hj
      have hjl : j < ((zs.drop (10 * k)).take 10).length := by simp; omega
      refine ⟨_, rfl, ?_, ?_⟩
      · rw [List.getD_eq_getElem?_getD, List.getElem?_eq_getElem hjl]
        exact Hz.out _ (List.mem_of_mem_drop (List.mem_of_mem_take (List.getElem_mem hjl)))
      · unfold pieceW
        rw [List.getD_eq_getElem?_getD, List.getD_eq_getElem?_getD, List.getElem?_map, List.getElem?_eq_getElem hjl]; rfl
    obtain ⟨m, hm⟩ : ∃ m, min 10 (zs.length - 10 * k) = m := ⟨_, rfl⟩
    rw [hm] at Hss
    simp only [hm] at Hcl Hsj ⊢
    have hm10 : m ≤ 10 := by omega
    have hm1 : 1 ≤ m := by omega
    have HB1 : Hid (Lib.IsBuilder WT 5 W.heap.size W.heap.size (Lib.byteCells []) (W.alloc (.cells #[.pointer none, .slice none 0 0] WT))) :=
      Or.inl ⟨Nat.le_refl _, _, World.alloc_heap_new W _, World.ownsRow_nil _ _ _ _, by simp [Value.ownBlock]⟩
    have HB2 : Hid (Below W.heap.size W (W.alloc (.cells #[.pointer none, .slice none 0 0] WT))) := (Below.refl _ _).alloc (Nat.le_refl _) _
    clear hB hv hrow hm hS hN hlt
    gi_wp2
    generalize W.alloc (.cells #[.pointer none, .slice none 0 0] WT) = W1 at *
    have HBs := Lib.hid (show W.heap.size ≤ W1.heap.size from HB2.out.size)
    gi_loopw [15] (fun y wr => ∃ j : Nat, j ≤ m ∧ y = .int .i64 j ∧ Hid (Lib.IsBuilder WT 5 W.heap.size W.heap.size (Lib.byteCells (wordsOf [] ((pieceW zs k).take j))) wr) ∧ Hid (Below W.heap.size W wr) ∧ Hid ((wordsOf [] ((pieceW zs k).take j)).length ≤ 22 * j)) (fun y _ => m - (intOf y).toNat)
    case atStart => exact ⟨0, by omega, rfl, HB1, HB2, by simp [Hid, wordsOf]⟩
    case round =>
      obtain ⟨j, hj, rfl, hb, hbel, hwl⟩ := hrel
      by_cases hltj : j < m
      · have hcell0 := Hcl.out j hltj
        obtain ⟨z, hzj, hz64, hsj⟩ := Hsj.out j hltj
        rw [hzj] at hcell0
        have hcell : wr.cell? ⟨ab, ao + 10 * k + j, none⟩ = some (.int .i64 z) := cell_then (HBW.out.trans (hbel.out.mono hsz)) hcell0
        have Hcw := Lib.hid hcell
        have Hzs := Lib.hid hsj
        have D1 := Lib.hid (fun w' => divided_any z hz64 w')
        have hz2 : I64 (z / 256) := by unfold I64 at *; omega
        have I1 := Lib.hid (fun w' h => itoa_any (z / 256) hz2 w' h)
        have HTr := Lib.hid (HTW.out.below (hbel.out.mono (Nat.le_refl _)))
        have hszr := hbel.out.size
        have Htk : Hid ((pieceW zs k).take (j + 1) = (pieceW zs k).take j ++ [Lib.itoa (z / 256)]) := by
          unfold Hid
          have := Hss.out
          rw [List.take_succ_eq_append_getElem (by omega), ← hsj]
          simp [List.getD_eq_getElem?_getD, show j < (pieceW zs k).length by omega]
        clear hcell0 hzj hsj hz64
        have Hil := Lib.hid (Lib.itoa_length_le (z / 256) hz2.1 hz2.2)
        have Hwl2 : Hid ((wordsOf [] ((pieceW zs k).take (j + 1))).length ≤ 22 * (j + 1)) := by
          unfold Hid
          rw [Htk.out, wordsOf_snoc]
          have h1 := hwl.out
          have h2 := Hil.out
          split
          · omega
          · rw [List.length_append, List.length_cons]; omega
        generalize Lib.itoa (z / 256) = s at *
        gi_wp2
        refine ⟨trivial, ?_⟩
        refine (CallsIn.inRound l (callsIn_wide.2 (D1.out wr))).mono ?_
        rintro e w2 ⟨rfl, rfl⟩
        gi_wp2
        refine ⟨trivial, ?_⟩
        refine (CallsIn.inRound l (callsIn_wide.2 (I1.out wr HTr.out))).mono ?_
        rintro e w2 ⟨rfl, hbi⟩
        have hb2 := Lib.hid (isb_alloc (isb_below hb.out hbi) (.cells #[.string ⟨s.toArray⟩] 9))
        have hbel2 := Lib.hid ((hbel.out.trans (hbi.mono hszr)).alloc (by have := hbi.size; omega) (.cells #[.string ⟨s.toArray⟩] 9))
        have hne : w2.heap.size ≠ W.heap.size := by have := isb_lt hb.out; have := hbi.size; omega
        have hs1 := Lib.hid (strs_one w2 s)
        have Hwa := Lib.hid (words_any W.heap.size W.heap.size w2.heap.size 1 1 _ [s] _ hb2.out hs1.out rfl hne (by have := hwl.out; have := Hil.out; simp; omega) hbel2.out.size)
        clear hbi hne
        gi_wp2
        refine ⟨trivial, ?_⟩
        refine (CallsIn.inRound l (callsIn_wide.2 Hwa.out)).mono ?_
        rintro e w3 ⟨rfl, h1, h2, _⟩
        have hb3 : Hid (Lib.IsBuilder WT 5 W.heap.size W.heap.size (Lib.byteCells (wordsOf [] ((pieceW zs k).take (j + 1)))) w3) := by
          unfold Hid
          rw [Htk.out, wordsOf_append]; exact h1
        have hbel3 := Lib.hid (hbel2.out.trans h2)
        clear h1 h2
        gi_wp2
        go_roundw
        case rel => exact ⟨j + 1, by omega, by go_num, hb3, hbel3, Hwl2⟩
        case measure => simp [intOf]; omega
      · obtain rfl : j = m := by omega
        have HL : Hid (wordsOf [] (pieceW zs k) ≠ []) := wordsOf_ne _ _ (Or.inr (by intro h; have := Hss.out; rw [h] at this; simp at this; omega)) (fun s hs => by
          unfold pieceW at hs
          rw [List.mem_map] at hs
          obtain ⟨z, _, rfl⟩ := hs
          exact itoa_ne _)
        have hb' := hb.out
        rw [List.take_of_length_le (by have := Hss.out; omega)] at hb'
        have Hb' := Lib.hid hb'
        have HV := Lib.hid (Hv.out.kept (grown_of_below hbel.out) (by simp))
        have hld : wr.cell? ⟨w.heap.size, 0, none⟩ = some u := HV.out.cell
        have HST := Lib.hid (string_any W.heap.size W.heap.size (wordsOf [] (pieceW zs k)) wr.drew (isb_below Hb'.out (Below.refl _ _).drew) HL.out)
        have Hlin : Hid (lineOf zs k = wordsOf [] (pieceW zs k)) := rfl
        have Hfin : Hid (∀ w5, Below W.heap.size wr.drew w5 → w5.cell? ⟨w.heap.size, 0, none⟩ = some u ∧ (w5.alloc (.cells #[.string ⟨(wordsOf [] (pieceW zs k)).toArray⟩] 9)).cell? ⟨w.heap.size, 0, none⟩ = some u ∧ ∃ v' w6,
            Hid ((Builtin.append_ #[24, 24] 24 #[u, .slice (some ⟨w5.heap.size, 0, none⟩) 1 1]).run Tryd.prog (w5.alloc (.cells #[.string ⟨(wordsOf [] (pieceW zs k)).toArray⟩] 9)) = .ok v' w6) ∧
            w6.cell? ⟨w.heap.size, 0, none⟩ = some u ∧ w6.frozen? ⟨w.heap.size, 0, none⟩ = false ∧ (∃ a' l' c', v' = .slice a' l' c') ∧
            Hid (ownPostG Wc.heap.size (KpC (w.heap.size + 1) (w.heap.size + 1 + 1) w.heap.size)
              (fun (pre : List (PieceNo zs)) W => (∃ u, Boxed W w.heap.size 24 u ∧ W.ownsRow w.heap.size 9 1 u pre.length (linesV zs (pre.map (·.1))) ∧ True) ∧ (Boxed W (w.heap.size + 1) 22 (.slice va vl vc) ∧ Boxed W (w.heap.size + 1 + 1) 3 (.int .i64 10)) ∧ Below w.heap.size w W)
              (fun _ _ _ => False) (pre ++ [⟨k, hk⟩]) W .normal { tmps := #[], defers := [] } (w6.setCell ⟨w.heap.size, 0, none⟩ v'))) := by
          intro w5 hb5
          have hW5 : Below W.heap.size W w5 := hbel.out.trans ((Below.refl _ _).drew.trans hb5)
          have v5 := Hv.out.kept (grown_of_below hW5) (by simp)
          have s5 := HS.out.kept (grown_of_below hW5) (by simp)
          have n5 := HN.out.kept (grown_of_below hW5) (by simp)
          have r5 := Hrow.out.kept (grown_of_below hW5) (by cases Value.ownBlock u <;> simp)
          have hsz5 := hW5.size
          obtain ⟨v', w6, hrun, hown', hgrow, _⟩ := run_append_own (P := Tryd.prog) (w5.alloc (.cells #[.string ⟨(wordsOf [] (pieceW zs k)).toArray⟩] 9)) w.heap.size 24 24 9 i0 (.string ⟨#[]⟩) 1 16 Tryd.underlying24 hi hz0 hz1 hz2 rfl (by decide)
            u pre.length _ (r5.alloc _) ⟨w5.heap.size, 0, none⟩ 1 1 [.string ⟨(wordsOf [] (pieceW zs k)).toArray⟩] rfl (cell_one_new _ _ _) (by simp [Value.oneCell']) (by have := Hplen.out; unfold maxLen; omega) (by have := Hplen.out; omega) (by simp; omega)
          obtain ⟨g', c', rfl⟩ := ownsRow_succ hown'
          obtain ⟨hv1, hv2, hr2, hk2, hb2⟩ := v5.appended (by decide) r5 (by omega) (Nat.le_refl _) hown' hgrow
          have s6 := ((s5.alloc (.cells #[.string ⟨(wordsOf [] (pieceW zs k)).toArray⟩] 9)).kept hgrow (s5.not_row (by decide) r5)).other (B' := w.heap.size) (by omega) (.slice (some ⟨g', 0, none⟩) (pre.length + 1) c')
          have n6 := ((n5.alloc (.cells #[.string ⟨(wordsOf [] (pieceW zs k)).toArray⟩] 9)).kept hgrow (n5.not_row (by decide) r5)).other (B' := w.heap.size) (by omega) (.slice (some ⟨g', 0, none⟩) (pre.length + 1) c')
          have hBf : Below w.heap.size W (w6.setCell ⟨w.heap.size, 0, none⟩ (.slice (some ⟨g', 0, none⟩) (pre.length + 1) c')) := (hW5.mono hsz).trans hb2
          refine ⟨v5.cell, (v5.alloc _).cell, _, w6, hrun, hv1.cell, hv1.frozen, ⟨_, _, _, rfl⟩, ?_⟩
          refine ⟨((keepsOthers_of_below hW5).trans hk2).from _, ⟨hBf, fun v i hi e => ?_⟩, ⟨_, hv2, ?_, trivial⟩, ⟨s6, n6⟩, HBW.out.trans hBf⟩
          · rcases hi with rfl | rfl
            · rw [HS.out.cell] at e; rw [s6.cell]; exact e
            · rw [HN.out.cell] at e; rw [n6.cell]; exact e
          · have : linesV zs ((pre ++ [(⟨k, hk⟩ : PieceNo zs)]).map (·.1)) = linesV zs (pre.map (·.1)) ++ [.string ⟨(wordsOf [] (pieceW zs k)).toArray⟩] := by
              unfold linesV; simp [lineOf]
            rw [this, List.length_append]; exact hr2
        clear hb'
        gi_wp2
        refine wpIn_region_any (by kernel_rfl) ?_
        change wpAnyIn _ _ _ _ _ _ _ _ _ (World.drew _)
        refine wpAnyIn_ready (rs := [0, 1]) (by kernel_rfl) (by simp) ?_
        refine AllReadyIn.cons rfl (fun K hK => ?_) ?_
        · go_simp
          refine hK _ _ ?_; clear hK K
          refine wpAnyIn_ready (rs := [1]) (by kernel_rfl) (by simp) ?_
          refine AllReadyIn.cons rfl (fun K hK => ?_) ?_
          · go_simp
            refine hK _ _ ?_; clear hK K
            refine wpAnyIn_ready (rs := [2]) (by kernel_rfl) (by simp) ?_
            refine AllReadyIn.cons rfl (fun K hK => ?_) ?_
            · go_simp
              refine hK _ _ ?_; clear hK K
              refine wpAnyIn_ready (rs := [3]) (by kernel_rfl) (by simp) ?_
              refine AllReadyIn.cons rfl (fun K hK => ?_) ?_
              · go_simp
                refine hK _ _ ?_; clear hK K
                refine wpAnyIn_ready (rs := [4]) (by kernel_rfl) (by simp) ?_
                refine AllReadyIn.cons rfl (fun K hK => ?_) ?_
                · go_simp
                  refine ⟨trivial, ?_⟩
                  refine (CallsIn.inRound l (callsIn_wide.2 HST.out)).mono ?_
                  rintro e w5 ⟨rfl, hb5⟩
                  obtain ⟨q1, q2, v', w6, Hrun, c6, f6, ⟨a', l', c', rfl⟩, Hpost⟩ := Hfin.out w5 hb5
                  refine hK _ _ ?_; clear hK K
                  refine wpAnyIn_ready (rs := [5]) (by kernel_rfl) (by simp) ?_
                  refine AllReadyIn.cons rfl (fun K hK => ?_) ?_
                  · go_simp
                    refine hK _ _ ?_; clear hK K
                    refine wpAnyIn_ready (rs := [6]) (by kernel_rfl) (by simp) ?_
                    refine AllReadyIn.cons rfl (fun K hK => ?_) ?_
                    · refine stepIn_append_run (by rfl) (.tmp 26) (.tmp 31) 24 (by rfl) _ _ _ _ (by rfl) (by rfl) Hrun.out ?_
                      refine hK _ _ ?_; clear hK K
                      refine wpAnyIn_ready (rs := [7]) (by kernel_rfl) (by simp) ?_
                      refine AllReadyIn.cons rfl (fun K hK => ?_) ?_
                      · go_simp
                        refine hK _ _ ?_; clear hK K
                        refine wpAnyIn_done (by kernel_rfl) ?_ _
                        gi_wp2
                        exact Hpost.out
                      exact AllReadyIn.nil
                    exact AllReadyIn.nil
                  exact AllReadyIn.nil
                exact AllReadyIn.nil
              exact AllReadyIn.nil
            exact AllReadyIn.nil
          exact AllReadyIn.nil
        refine AllReadyIn.cons rfl (fun K hK => ?_) ?_
        · go_simp
          refine hK _ _ ?_; clear hK K
          refine wpAnyIn_ready (rs := [0, 2]) (by kernel_rfl) (by simp) ?_
          refine AllReadyIn.cons rfl (fun K hK => ?_) ?_
          · go_simp
            refine hK _ _ ?_; clear hK K
            refine wpAnyIn_ready (rs := [2]) (by kernel_rfl) (by simp) ?_
            refine AllReadyIn.cons rfl (fun K hK => ?_) ?_
            · go_simp
              refine hK _ _ ?_; clear hK K
              refine wpAnyIn_ready (rs := [3]) (by kernel_rfl) (by simp) ?_
              refine AllReadyIn.cons rfl (fun K hK => ?_) ?_
              · go_simp
                refine hK _ _ ?_; clear hK K
                refine wpAnyIn_ready (rs := [4]) (by kernel_rfl) (by simp) ?_
                refine AllReadyIn.cons rfl (fun K hK => ?_) ?_
                · go_simp
                  refine ⟨trivial, ?_⟩
                  refine (CallsIn.inRound l (callsIn_wide.2 HST.out)).mono ?_
                  rintro e w5 ⟨rfl, hb5⟩
                  obtain ⟨q1, q2, v', w6, Hrun, c6, f6, ⟨a', l', c', rfl⟩, Hpost⟩ := Hfin.out w5 hb5
                  refine hK _ _ ?_; clear hK K
                  refine wpAnyIn_ready (rs := [5]) (by kernel_rfl) (by simp) ?_
                  refine AllReadyIn.cons rfl (fun K hK => ?_) ?_
                  · go_simp
                    refine hK _ _ ?_; clear hK K
                    refine wpAnyIn_ready (rs := [6]) (by kernel_rfl) (by simp) ?_
                    refine AllReadyIn.cons rfl (fun K hK => ?_) ?_
                    · refine stepIn_append_run (by rfl) (.tmp 26) (.tmp 31) 24 (by rfl) _ _ _ _ (by rfl) (by rfl) Hrun.out ?_
                      refine hK _ _ ?_; clear hK K
                      refine wpAnyIn_ready (rs := [7]) (by kernel_rfl) (by simp) ?_
                      refine AllReadyIn.cons rfl (fun K hK => ?_) ?_
                      · go_simp
                        refine hK _ _ ?_; clear hK K
                        refine wpAnyIn_done (by kernel_rfl) ?_ _
                        gi_wp2
                        exact Hpost.out
                      exact AllReadyIn.nil
                    exact AllReadyIn.nil
                  exact AllReadyIn.nil
                exact AllReadyIn.nil
              exact AllReadyIn.nil
            exact AllReadyIn.nil
          refine AllReadyIn.cons rfl (fun K hK => ?_) ?_
          · go_simp
            refine hK _ _ ?_; clear hK K
            refine wpAnyIn_ready (rs := [0, 3]) (by kernel_rfl) (by simp) ?_
            refine AllReadyIn.cons rfl (fun K hK => ?_) ?_
            · go_simp
              refine hK _ _ ?_; clear hK K
              refine wpAnyIn_ready (rs := [3]) (by kernel_rfl) (by simp) ?_
              refine AllReadyIn.cons rfl (fun K hK => ?_) ?_
              · go_simp
                refine hK _ _ ?_; clear hK K
                refine wpAnyIn_ready (rs := [4]) (by kernel_rfl) (by simp) ?_
                refine AllReadyIn.cons rfl (fun K hK => ?_) ?_
                · go_simp
                  refine ⟨trivial, ?_⟩
                  refine (CallsIn.inRound l (callsIn_wide.2 HST.out)).mono ?_
                  rintro e w5 ⟨rfl, hb5⟩
                  obtain ⟨q1, q2, v', w6, Hrun, c6, f6, ⟨a', l', c', rfl⟩, Hpost⟩ := Hfin.out w5 hb5
                  refine hK _ _ ?_; clear hK K
                  refine wpAnyIn_ready (rs := [5]) (by kernel_rfl) (by simp) ?_
                  refine AllReadyIn.cons rfl (fun K hK => ?_) ?_
                  · go_simp
                    refine hK _ _ ?_; clear hK K
                    refine wpAnyIn_ready (rs := [6]) (by kernel_rfl) (by simp) ?_
                    refine AllReadyIn.cons rfl (fun K hK => ?_) ?_
                    · refine stepIn_append_run (by rfl) (.tmp 26) (.tmp 31) 24 (by rfl) _ _ _ _ (by rfl) (by rfl) Hrun.out ?_
                      refine hK _ _ ?_; clear hK K
                      refine wpAnyIn_ready (rs := [7]) (by kernel_rfl) (by simp) ?_
                      refine AllReadyIn.cons rfl (fun K hK => ?_) ?_
                      · go_simp
                        refine hK _ _ ?_; clear hK K
                        refine wpAnyIn_done (by kernel_rfl) ?_ _
                        gi_wp2
                        exact Hpost.out
                      exact AllReadyIn.nil
                    exact AllReadyIn.nil
                  exact AllReadyIn.nil
                exact AllReadyIn.nil
              exact AllReadyIn.nil
            refine AllReadyIn.cons rfl (fun K hK => ?_) ?_
            · go_simp
              refine hK _ _ ?_; clear hK K
              refine wpAnyIn_ready (rs := [0, 4]) (by kernel_rfl) (by simp) ?_
              refine AllReadyIn.cons rfl (fun K hK => ?_) ?_
              · go_simp
                refine hK _ _ ?_; clear hK K
                refine wpAnyIn_ready (rs := [4]) (by kernel_rfl) (by simp) ?_
                refine AllReadyIn.cons rfl (fun K hK => ?_) ?_
                · go_simp
                  refine ⟨trivial, ?_⟩
                  refine (CallsIn.inRound l (callsIn_wide.2 HST.out)).mono ?_
                  rintro e w5 ⟨rfl, hb5⟩
                  obtain ⟨q1, q2, v', w6, Hrun, c6, f6, ⟨a', l', c', rfl⟩, Hpost⟩ := Hfin.out w5 hb5
                  refine hK _ _ ?_; clear hK K
                  refine wpAnyIn_ready (rs := [5]) (by kernel_rfl) (by simp) ?_
                  refine AllReadyIn.cons rfl (fun K hK => ?_) ?_
                  · go_simp
                    refine hK _ _ ?_; clear hK K
                    refine wpAnyIn_ready (rs := [6]) (by kernel_rfl) (by simp) ?_
                    refine AllReadyIn.cons rfl (fun K hK => ?_) ?_
                    · refine stepIn_append_run (by rfl) (.tmp 26) (.tmp 31) 24 (by rfl) _ _ _ _ (by rfl) (by rfl) Hrun.out ?_
                      refine hK _ _ ?_; clear hK K
                      refine wpAnyIn_ready (rs := [7]) (by kernel_rfl) (by simp) ?_
                      refine AllReadyIn.cons rfl (fun K hK => ?_) ?_
                      · go_simp
                        refine hK _ _ ?_; clear hK K
                        refine wpAnyIn_done (by kernel_rfl) ?_ _
                        gi_wp2
                        exact Hpost.out
                      exact AllReadyIn.nil
                    exact AllReadyIn.nil
                  exact AllReadyIn.nil
                exact AllReadyIn.nil
              refine AllReadyIn.cons rfl (fun K hK => ?_) ?_
              · go_simp
                refine ⟨trivial, ?_⟩
                refine (CallsIn.inRound l (callsIn_wide.2 HST.out)).mono ?_
                rintro e w5 ⟨rfl, hb5⟩
                obtain ⟨q1, q2, v', w6, Hrun, c6, f6, ⟨a', l', c', rfl⟩, Hpost⟩ := Hfin.out w5 hb5
                refine hK _ _ ?_; clear hK K
                refine wpAnyIn_ready (rs := [0, 5]) (by kernel_rfl) (by simp) ?_
                refine AllReadyIn.cons rfl (fun K hK => ?_) ?_
                · go_simp
                  refine hK _ _ ?_; clear hK K
                  refine wpAnyIn_ready (rs := [5]) (by kernel_rfl) (by simp) ?_
                  refine AllReadyIn.cons rfl (fun K hK => ?_) ?_
                  · go_simp
                    refine hK _ _ ?_; clear hK K
                    refine wpAnyIn_ready (rs := [6]) (by kernel_rfl) (by simp) ?_
                    refine AllReadyIn.cons rfl (fun K hK => ?_) ?_
                    · refine stepIn_append_run (by rfl) (.tmp 26) (.tmp 31) 24 (by rfl) _ _ _ _ (by rfl) (by rfl) Hrun.out ?_
                      refine hK _ _ ?_; clear hK K
                      refine wpAnyIn_ready (rs := [7]) (by kernel_rfl) (by simp) ?_
                      refine AllReadyIn.cons rfl (fun K hK => ?_) ?_
                      · go_simp
                        refine hK _ _ ?_; clear hK K
                        refine wpAnyIn_done (by kernel_rfl) ?_ _
                        gi_wp2
                        exact Hpost.out
                      exact AllReadyIn.nil
                    exact AllReadyIn.nil
                  exact AllReadyIn.nil
                refine AllReadyIn.cons rfl (fun K hK => ?_) ?_
                · go_simp
                  refine hK _ _ ?_; clear hK K
                  refine wpAnyIn_ready (rs := [0]) (by kernel_rfl) (by simp) ?_
                  refine AllReadyIn.cons rfl (fun K hK => ?_) ?_
                  · go_simp
                    refine hK _ _ ?_; clear hK K
                    refine wpAnyIn_ready (rs := [6]) (by kernel_rfl) (by simp) ?_
                    refine AllReadyIn.cons rfl (fun K hK => ?_) ?_
                    · refine stepIn_append_run (by rfl) (.tmp 26) (.tmp 31) 24 (by rfl) _ _ _ _ (by rfl) (by rfl) Hrun.out ?_
                      refine hK _ _ ?_; clear hK K
                      refine wpAnyIn_ready (rs := [7]) (by kernel_rfl) (by simp) ?_
                      refine AllReadyIn.cons rfl (fun K hK => ?_) ?_
                      · go_simp
                        refine hK _ _ ?_; clear hK K
                        refine wpAnyIn_done (by kernel_rfl) ?_ _
                        gi_wp2
                        exact Hpost.out
                      exact AllReadyIn.nil
                    exact AllReadyIn.nil
                  exact AllReadyIn.nil
                exact AllReadyIn.nil
              exact AllReadyIn.nil
            exact AllReadyIn.nil
          exact AllReadyIn.nil
        exact AllReadyIn.nil
  case done =>
    rintro D ys W hD hys ⟨⟨u, hv, hrow, _⟩, _, hB⟩ hK
    have hc := hv.cell
    have hyl : ys.length = (zs.length + 9) / 10 := by have := congrArg List.length hys; simpa using this
    rw [hys, hyl] at hrow
    have Hrow := Lib.hid hrow
    clear hys hyl hrow
    gi_wp2
    refine ⟨by simp, .inl ⟨_, _, rfl, run_takeDeferred hK, ?_⟩⟩
    exact ⟨_, results_tmp rfl _ _ _, u, rfl, ownsRow_putObj Hrow.out _ hK rfl, hB.trans (belowK_b (w := w) (Nat.le_refl _) W D _ _ (by omega) hK rfl rfl)⟩
  case stop =>
    rintro D c pre W _ _ h _
    exact h.elim
end Go.Proofs.YtmmmebdgannpgaaDoor
