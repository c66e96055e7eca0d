/- Part 3 of the proof: laws on memory and what functions of the program return. No conditions but those that each theorem names. -/
import Derived.Test.YtobaoekibnloiaaGreatDoorR02
import Derived.Deep.RegionHeld3
import Derived.Deep.MidRow
import Derived.BigRegion
set_option linter.unusedVariables false
set_option linter.unusedSimpArgs false
/- The reference's numbers: words as numbers. -/
namespace Go.Proofs.YtobaoekibnloiaaGreatDoor
open Go Go.RowKit

theorem rnum_out {s : ByteArray} {w w' : World} {e : Ending} (h : RNumIs s w e w') : ∃ (n : Int) (ok : Bool), I64 n ∧ e = .returned (.tuple #[.int .i64 n, .bool ok]) ∧ numF s = (if ok = true then some n else none) ∧ Below w.heap.size w w' := by
  obtain ⟨n, ok, h1, h2, h3, h4, h5⟩ := h
  refine ⟨n, ok, h1, h2, ?_, h5⟩
  cases ok with
  | true => rw [if_pos rfl]; exact numF_iff.2 (h3 rfl)
  | false =>
    rw [if_neg (by simp)]
    refine numF_none.2 fun m hm e => ?_
    have := h4 m hm e
    cases this

/-- Words as numbers. -/
noncomputable def numsF : List ByteArray → Option (List Int)
  | [] => some []
  | s :: r => match numF s, numsF r with
    | some n, some l => some (n :: l)
    | _, _ => none
theorem numsF_snoc (s : ByteArray) : ∀ (a : List ByteArray), numsF (a ++ [s]) = match numsF a, numF s with
    | some l, some n => some (l ++ [n])
    | _, _ => none
  | [] => by simp [numsF]; cases numF s <;> rfl
  | t :: r => by
    simp only [List.cons_append, numsF, numsF_snoc s r]
    cases numF t <;> cases numsF r <;> cases numF s <;> rfl
theorem numsF_bad : ∀ {ws : List ByteArray} {s : ByteArray}, s ∈ ws → numF s = none → numsF ws = none
  | t :: r, s, hs, hn => by
    unfold numsF
    rcases List.mem_cons.1 hs with rfl | hs
    · rw [hn]
    · rw [numsF_bad hs hn]
      cases numF t <;> rfl
theorem numsF_length : ∀ {ws : List ByteArray} {l : List Int}, numsF ws = some l → l.length = ws.length
  | [], l, h => by simp [numsF] at h; subst h; rfl
  | t :: r, l, h => by
    unfold numsF at h
    split at h
    · next n m hn hm => injection h with h; subst h; simp [numsF_length hm]
    · cases h

/-- What the reference's numbers returns. -/
def NumsIs (ws : List ByteArray) (w : World) (e : Ending) (w' : World) : Prop :=
  ∃ (v : Value) (zs : List Int) (ok : Bool), e = .returned (.tuple #[v, .bool ok]) ∧ numsF ws = (if ok = true then some zs else none) ∧ (ok = true → OwnI w' w.heap.size v zs) ∧ Below w.heap.size w w'

set_option maxHeartbeats 1000000 in
set_option maxRecDepth 100000 in
theorem rnumbers_any (v : Value) (ws : List ByteArray) (w : World) (h : StrsIn w v ws) :
    Calls Tryz.prog 81 #[v] w (NumsIs ws w) := by
  have Hin := Lib.hid h
  obtain ⟨a, cap, rfl, h2, h3, h5, h6, h4⟩ := h
  have Hbad : Hid (∀ wx s, Below w.heap.size w wx → s ∈ ws → numF s = none → NumsIs ws w (.returned (.tuple #[.slice none 0 0, .bool false])) wx) := by
    intro wx s hx hs hno
    exact ⟨.slice none 0 0, [], false, rfl, by rw [if_neg (by simp)]; exact numsF_bad hs hno, fun h => absurd h (by simp), hx⟩
  obtain ⟨n, hn⟩ : ∃ n, n = ws.length := ⟨_, rfl⟩
  have Hn := Lib.hid hn
  have H4 := Lib.hid h4
  have H6 := Lib.hid h6
  rw [← hn] at h2 h5 ⊢
  clear h4 h6 hn
  go_enter Tryz.func81, Tryz.ntmps81
  go_wp2_with fail
  go_loopw [4, 5] (fun o x wr => ∃ (k : Nat) (ov : Value) (acc : List Int), ov = o ∧ k ≤ n ∧ x = .int .i64 k ∧ Hid (numsF (ws.take k) = some acc) ∧ Hid (OwnI wr w.heap.size ov acc) ∧ Below w.heap.size w wr) (fun _ x _ => (n - intOf x).toNat)
  case atStart => exact ⟨0, _, [], rfl, by omega, rfl, rfl, World.ownsRow_nil _ _ _ _, Below.refl _ _⟩
  case round =>
    obtain ⟨k, ov, acc, rfl, hk, rfl, hp, hown, hBr⟩ := hrel
    by_cases hlt : k < n
    · have hkl : k < ws.length := by have := Hn.out; omega
      obtain ⟨ab, ao, rfl, hc⟩ := H4.out k hkl
      have hc' := cell_then hBr hc
      have Htake : Hid (ws.take (k + 1) = ws.take k ++ [ws.getD k ByteArray.empty]) := by
        unfold Hid
        rw [List.take_succ_eq_append_getElem hkl]; simp [List.getD_eq_getElem?_getD, hkl]
      have Hmem : Hid (ws.getD k ByteArray.empty ∈ ws) := by
        have : ws.getD k ByteArray.empty = ws[k] := by simp [List.getD_eq_getElem?_getD, hkl]
        unfold Hid; rw [this]; exact List.getElem_mem hkl
      generalize ws.getD k ByteArray.empty = s at *
      have hss := H6.out s Hmem.out
      clear hc
      go_wp2_with fail
      refine (rnumber_any s hss wr).mono ?_
      intro e w1 hr
      obtain ⟨z, ok, hz, rfl, hnum, hb1⟩ := rnum_out hr
      have HB1 := Lib.hid (below_then hBr hb1)
      have Hown1 := Lib.hid (hown.out.below hb1)
      clear hr hc'
      cases ok with
      | false =>
        have Hno := Lib.hid hnum
        clear hnum
        go_wp2_with fail
        refine bodyPost_ret (v := .tuple #[.slice none 0 0, .bool false]) (by simp [results, Tryz.results81, go_sem]) rfl (Hbad.out _ s HB1.out Hmem.out ?_)
        rw [Hno.out]; rfl
      | true =>
        have hal := numsF_length hp.out
        rw [List.length_take] at hal
        obtain ⟨v', w', hrun, hown', hB'⟩ := append_int Hown1.out z (by omega) HB1.out.size 68
        have Hrun := Lib.hid hrun
        have Hown' := Lib.hid hown'
        have Hno := Lib.hid hnum
        have HB' := Lib.hid hB'
        clear hrun hown' hnum hB' hal
        go_wp2_with (at_builtin; refine wpList_append_run rfl _ _ _ rfl _ _ _ _ rfl rfl Hrun.out ?_)
        go_roundw
        case rel =>
          refine ⟨k + 1, v', acc ++ [z], rfl, by omega, by go_num, ?_, Hown'.out, HB1.out.trans HB'.out⟩
          unfold Hid
          rw [Htake.out, numsF_snoc, hp.out, Hno.out]; rfl
        case measure => simp [intOf]; omega
    · obtain rfl : k = n := by omega
      go_wp2_with fail
      refine bodyPost_ret (v := .tuple #[ov, .bool true]) (by simp [results, Tryz.results81, go_sem]) rfl ?_
      refine ⟨ov, acc, true, rfl, ?_, fun _ => hown.out, hBr⟩
      have := hp.out
      rw [Hn.out, List.take_length] at this
      rw [this]; rfl
end Go.Proofs.YtobaoekibnloiaaGreatDoor
/- The reference's biases. -/
namespace Go.Proofs.YtobaoekibnloiaaGreatDoor
open Go Go.RowKit

/-- Cells that lie at an address. -/
def NewsAt (w : World) (A : Addr) (cs : List Value) : Prop := ∀ j u, cs[j]? = some u → w.cell? (A.add j) = some u
theorem NewsAt.below {w w' : World} {A : Addr} {cs : List Value} (h : NewsAt w A cs) (hb : Below w.heap.size w w') : NewsAt w' A cs := fun j u hj => cell_then hb (h j u hj)
theorem news_alloc (w : World) {H : Nat} (hH : w.heap.size = H) (cs : Array Value) (t : TypeId) : NewsAt (w.alloc (.cells cs t)) ⟨H, 0, none⟩ cs.toList := by
  subst hH
  exact World.news_of_block (cs := cs) (t := t) (fr := (0, 0)) (heap_alloc_new w _)
/-- An append to a slice of the call's own, as a step of a region that draws. -/
theorem step_own (st e : TypeId) {z : Value} {sz by_ : Nat} (hu : Tryz.prog.underlying st = some (.slice e)) (hinfo : (Tryz.prog.info? e).map (fun i => (i.zero, i.size, i.bytes)) = some (some z, sz, by_)) (hz : z.cells.size = sz) (hsz : 0 < sz) (hsz1 : by_ ≤ 1000)
    {ops : Array Oper} {o : Oper} {a : Act} {w : World} {K : Act → World → Prop} {Q : Exit → Act → World → Prop} {E : Prop} (hgd : o.guard = none) (s x : Operand)
    (ho : o.op = .call { callee := .builtin .append, args := #[s, x], argTypes := #[st, st] }) (base n : Nat) (v : Value) (cs : List Value) (hs : a.eval s = v) (hown : w.ownsRow base e sz v n cs)
    (A : Addr) (news : List Value) (k c : Nat) (hx : a.eval x = .slice (some A) k c) (hk : news.length = k * sz) (hone : ∀ u ∈ news, u.oneCell' = true) (hr : NewsAt w A news) (hn : n ≤ 1000000000) (hk1 : k ≤ 1000000000) (hb : base ≤ w.heap.size)
    (h : ∀ v' w', w'.ownsRow base e sz v' (n + k) (cs ++ news) → Below base w w' → w.grownBy w' v.ownBlock → K (a.put o.dst v') w') :
    if Region.wanted o (yielded ops a.tmps) = true then Oper.wp Tryz.prog o a w K Q else E := by
  obtain ⟨v', w', h1, h2, h3, h4⟩ := append_at st e hu hinfo hz hsz hown A k c news hk hr hone hn hk1 hsz1 hb o.type
  exact step_append_run hgd s x _ ho v _ v' w' hs hx h1 (h v' w' h2 h3 h4)
theorem grow_cell {w w' : World} {v u : Value} {a : Addr} (hg : w.grownBy w' v.ownBlock) (hne : v.ownBlock ≠ some a.block) (hc : w.cell? a = some u) : w'.cell? a = some u := by
  rw [World.cell?_of_block (w := w) (hg.block a.block (World.block_lt_of_cell? _ _ hc) (fun e => hne e.symm))]; exact hc
theorem step_rd {ops : Array Oper} {o : Oper} {a : Act} {w : World} {K : Act → World → Prop} {Q : Exit → Act → World → Prop} {E : Prop} (hgd : o.guard = none) (s x : Operand)
    (ho : o.op = .call { callee := .builtin .append, args := #[s, x], argTypes := #[32, 32] }) (base : Nat) (v : Value) (l : List (Int × Int)) (hs : a.eval s = v) (hown : OwnR w base v l)
    (A : Addr) (p q : Int) (c : Nat) (hx : a.eval x = .slice (some A) 1 c) (hr : NewsAt w A [.int .i64 p, .int .i64 q]) (hn : l.length ≤ 1000000000) (hb : base ≤ w.heap.size)
    (h : ∀ v' w', OwnR w' base v' (l ++ [(p, q)]) → Below base w w' → w.grownBy w' v.ownBlock → K (a.put o.dst v') w') :
    if Region.wanted o (yielded ops a.tmps) = true then Oper.wp Tryz.prog o a w K Q else E := by
  refine step_own 32 51 Tryz.underlying32 rinfo rfl (by decide) (by decide) hgd s x ho base l.length v (rcells l) hs hown A [.int .i64 p, .int .i64 q] 1 c hx rfl (by simp [Value.oneCell']) hr hn (by omega) hb fun v' w' h1 h2 h3 => h v' w' ?_ h2 h3
  unfold OwnR
  rw [rcells_append, List.length_append]; exact h1

theorem inv3 {w1 : World} {p q r s : World → Prop} (h : ∀ w', Below w1.heap.size w1 w' → p w' ∧ q w' ∧ r w' ∧ s w') {w' : World} (hb : Below w1.heap.size w1 w') : p w' ∧ q w' ∧ s w' := ⟨(h w' hb).1, (h w' hb).2.1, (h w' hb).2.2.2⟩
theorem biasF_step (b e v : ByteArray) (r : List ByteArray) : biasF (b :: e :: v :: r) = if b = kwBias then match numsF [e, v] with
    | some [x, y] => (biasF r).map ([(x, y)] ++ ·)
    | _ => none else none := by
  conv => lhs; unfold biasF
  split
  · simp only [numsF]
    cases numF e <;> cases numF v <;> cases biasF r <;> rfl
  · rfl
/-- What the reference's biases returns. -/
def BiasIs (ws : List ByteArray) (w : World) (e : Ending) (w' : World) : Prop :=
  ∃ (v : Value) (l : List (Int × Int)) (ok : Bool), e = .returned (.tuple #[v, .bool ok]) ∧ biasF ws = (if ok = true then some l else none) ∧ (ok = true → OwnR w' w.heap.size v l ∧ l.length ≤ ws.length) ∧ (∃ a n c, v = .slice a n c) ∧ Below w.heap.size w w'

theorem kw_list (k s : ByteArray) (l : List UInt8) (hk : k.data.toList = l) : (s.toList != l) = !decide (s = k) ∧ (s.toList == l) = decide (s = k) := by
  have e : k.toList = l := by rw [ByteArray.toList_eq, hk]
  rw [← e]
  by_cases h : s = k
  · subst h; simp
  · rw [decide_eq_false h]
    exact ⟨str_bne h, str_ne h⟩

set_option maxHeartbeats 2000000 in
set_option maxRecDepth 100000 in
theorem rbiases_any (v : Value) (ws : List ByteArray) (w : World) (h : StrsIn w v ws) :
    Calls Tryz.prog 82 #[v] w (BiasIs ws w) := by
  have Hin := Lib.hid h
  have Hbad : Hid (∀ wx, Below w.heap.size w wx → biasF ws = none → BiasIs ws w (.returned (.tuple #[.slice none 0 0, .bool false])) wx) := by
    intro wx hx hno
    exact ⟨.slice none 0 0, [], false, rfl, by rw [if_neg (by simp)]; exact hno, fun h => absurd h (by simp), ⟨_, _, _, rfl⟩, hx⟩
  have hl : ws.length ≤ 2000000 := by obtain ⟨_, _, _, _, _, h, _⟩ := h; exact h
  have Hl := Lib.hid hl
  clear h hl
  go_enter Tryz.func82, Tryz.ntmps82
  go_wp2_with fail
  go_loopw [0, 4] (fun lv o wr => ∃ (l' ov : Value) (rest : List ByteArray) (acc : List (Int × Int)), l' = lv ∧ ov = o ∧ Hid (StrsIn w l' rest) ∧ Hid (OwnR wr w.heap.size ov acc) ∧ Hid (biasF ws = (biasF rest).map (acc ++ ·)) ∧ acc.length + rest.length ≤ ws.length ∧ Below w.heap.size w wr) (fun lv _ _ => (match lv with | .slice _ n _ => n | _ => 0))
  case atStart => exact ⟨_, _, ws, [], rfl, rfl, Hin, OwnR.nil _ _, by unfold Hid; cases biasF ws <;> rfl, by simp, Below.refl _ _⟩
  case round =>
    obtain ⟨l', ov, rest, acc, rfl, rfl, hst, hown, hspec, hal, hBr⟩ := hrel
    cases rest with
    | nil =>
      obtain ⟨a, cap, rfl, _⟩ := hst.out
      have Hsp := Lib.hid hspec.out
      clear hst
      go_wp2_with fail
      refine bodyPost_ret (v := .tuple #[ov, .bool true]) (by simp [results, Tryz.results82, go_sem]) rfl ?_
      refine ⟨ov, acc, true, rfl, ?_, fun _ => ⟨hown.out, by simp at hal; omega⟩, hown.out.slice, hBr⟩
      rw [Hsp.out]; simp [biasF]
    | cons b r =>
      obtain ⟨ab, ao, cap, rfl, hc1, hc2⟩ := hst.out.ne (by simp)
      obtain ⟨c0, _⟩ := (hst.out.below hBr).at 0 (by simp)
      have c0' : wr.cell? ⟨ab, ao, none⟩ = some (.string b) := by simpa using c0
      clear c0
      obtain ⟨q, hq⟩ : ∃ q, q = decide (b = kwBias) := ⟨_, rfl⟩
      obtain ⟨k1, k2⟩ := kw_list kwBias b [98, 105, 97, 115] rfl
      rw [← hq] at k1 k2
      have Hq := Lib.hid hq
      clear hq
      have Hsp0 := Lib.hid hspec.out
      by_cases h3 : 3 ≤ (b :: r).length
      · cases q with
        | false =>
          have hb3 : biasF (b :: r) = none := by
            obtain ⟨e, v, r', rfl⟩ : ∃ e v r', r = e :: v :: r' := by
              match r, h3 with
              | e :: v :: r', _ => exact ⟨e, v, r', rfl⟩
            rw [biasF_step, if_neg (by simpa using Hq.out.symm)]
          have Hb3 := Lib.hid hb3
          clear hb3
          generalize (b :: r).length = n at *
          simp only [Bool.not_false] at k1
          go_wp2_with fail
          refine bodyPost_ret (v := .tuple #[.slice none 0 0, .bool false]) (by simp [results, Tryz.results82, go_sem]) rfl (Hbad.out _ hBr ?_)
          rw [hspec.out, Hb3.out]; rfl
        | true =>
          obtain ⟨e, v, r', rfl⟩ : ∃ e v r', r = e :: v :: r' := by
            match r, h3 with
            | e :: v :: r', _ => exact ⟨e, v, r', rfl⟩
          have hb3 := biasF_step b e v r'
          rw [if_pos (by simpa using Hq.out.symm)] at hb3
          have Hb3 := Lib.hid hb3
          have Hsl : Hid (StrsIn wr (.slice (some ⟨ab, ao + 1, none⟩) 2 (cap - 1)) [e, v]) := by
            have h1 := ((hst.out.below hBr).drop 1 (by simp) (some ⟨ab, ao + 1, none⟩) (fun _ => rfl))
            have h2 := h1.take 2 (by simp)
            exact h2
          have Htl : Hid (∀ A, (0 < r'.length → A = some ⟨ab, ao + 3, none⟩) → StrsIn w (.slice A r'.length (cap - 3)) r') := by
            intro A hA
            have h1 := hst.out.drop 3 (by simp) A (fun h => hA (by simpa using h))
            simpa using h1
          have hn : (b :: e :: v :: r').length = r'.length + 3 := rfl
          rw [hn] at hc1 h3 hal ⊢
          have hal2 : acc.length ≤ 2000000 := by have := Hl.out; omega
          clear hb3 hn hst
          generalize hm : r'.length = m at *
          have Hm := Lib.hid hm
          clear hm
          simp only [Bool.not_true] at k1
          go_wp2_with fail
          refine (rnumbers_any _ _ wr Hsl.out).mono ?_
          rintro x w1 ⟨nv, zs, ok, rfl, hnum, hnown, hb1⟩
          have HB1 := Lib.hid (below_then hBr hb1)
          have HO1 := Lib.hid (hown.out.below hb1)
          cases ok with
          | false =>
            have Hnum := Lib.hid hnum
            clear hnum hnown
            go_wp2_with fail
            refine bodyPost_ret (v := .tuple #[.slice none 0 0, .bool false]) (by simp [results, Tryz.results82, go_sem]) rfl (Hbad.out _ HB1.out ?_)
            rw [hspec.out, Hb3.out, Hnum.out]; rfl
          | true =>
            rw [if_pos rfl] at hnum
            have hzl := numsF_length hnum
            obtain ⟨z0, z1, rfl⟩ : ∃ z0 z1, zs = [z0, z1] := by
              match zs, hzl with
              | [z0, z1], _ => exact ⟨z0, z1, rfl⟩
            obtain ⟨g, gc, rfl, hg, hgc, hcs⟩ := (hnown rfl).at (by simp)
            have c0 := hcs 0 (by simp)
            have c1 := hcs 1 (by simp)
            simp only [List.getElem_cons_zero, List.getElem_cons_succ] at c0 c1
            have hgW : Hid (wr.heap.size ≤ g) := hg
            have hgl : g < w1.heap.size := World.block_lt_of_cell? (a := ⟨g, 0, none⟩) _ c0
            have Hnum := Lib.hid hnum
            have hgc2 : 2 ≤ gc := hgc
            clear hnum hnown hcs hzl k1 k2 c0' hg hgc
            simp only [List.length_cons, List.length_nil]
            go_wp2_with fail
            have HneG : Hid (ov.ownBlock ≠ some g) := by intro he; have := (World.ownsRow.lt hown.out g he).2; have := hgW.out; omega
            have HS : Hid (∀ w', Below w1.heap.size w1 w' → w'.cell? ⟨g, 0, none⟩ = some (.int .i64 z0) ∧ w'.cell? ⟨g, 1, none⟩ = some (.int .i64 z1) ∧ OwnR w' w.heap.size ov acc ∧ Below w.heap.size w w') := fun w' h => ⟨cell_then h c0, cell_then h c1, HO1.out.below h, below_then HB1.out h⟩
            go_region_held3 (fun w' => w'.cell? ⟨g, 0, none⟩ = some (.int .i64 z0) ∧ w'.cell? ⟨g, 1, none⟩ = some (.int .i64 z1) ∧ Below w.heap.size w w')
              (first | exact (inv3 HS.out (Below.refl _ _).drew) | exact (inv3 HS.out ((Below.refl _ _).alloc (Nat.le_refl _) _).drew) | exact (inv3 HS.out (((Below.refl _ _).drew).alloc (Nat.le_refl _) _)) | assumption | (go_split_ands; exact ⟨grow_cell hgA HneG.out (by assumption), grow_cell hgA HneG.out (by assumption), Below.trans (by assumption) hbA⟩))
              ((refine step_rd (by rfl) (.tmp 27) (.tmp 35) (by rfl) w.heap.size ov acc (by rfl) ?_ ⟨w1.heap.size, 0, none⟩ z0 z1 1 (by rfl) ?_ (by omega) ?_ ?_; (first | exact (HS.out _ ((Below.refl _ _).alloc (Nat.le_refl _) _).drew).2.2.1 | exact (HS.out _ (((Below.refl _ _).drew).alloc (Nat.le_refl _) _)).2.2.1); (exact news_alloc _ rfl _ _); (go_split_ands; exact Below.size (by assumption)); intro v1 wA hoA hbA hgA))
            all_goals
              have HoA := Lib.hid hoA
              have HBA : Hid (Below w.heap.size w wA) := by go_split_ands; assumption
              have Hsp : Hid (biasF ws = (biasF r').map ((acc ++ [(z0, z1)]) ++ ·)) := by
                unfold Hid
                rw [hspec.out, Hb3.out, Hnum.out]
                cases biasF r' <;> simp
              have HM : Hid (acc.length + 1 + m ≤ ws.length) := by unfold Hid; omega
              clear hoA hbA hgA HS
              go_wp2_with fail
              all_goals
                go_roundw
                case rel => exact ⟨_, v1, r', acc ++ [(z0, z1)], rfl, rfl, Htl.out _ (fun hp => by have hmm := Hm.out; first | rfl | exact if_neg (by omega)), HoA.out, Hsp.out, by rw [List.length_append, Hm.out]; exact HM.out, HBA.out⟩
                case measure => simp
      · have hpos : 0 < (b :: r).length := by simp
        have hb3 : biasF (b :: r) = none := by
          match r, h3 with
          | [], _ => rfl
          | [x], _ => rfl
          | x :: y :: t, h => exact absurd (by simp) h
        have Hb3 := Lib.hid hb3
        clear hb3 hst hspec
        generalize (b :: r).length = n at *
        go_wp2_with fail
        refine bodyPost_ret (v := .tuple #[.slice none 0 0, .bool false]) (by simp [results, Tryz.results82, go_sem]) rfl (Hbad.out _ hBr ?_)
        rw [Hsp0.out, Hb3.out]; rfl
end Go.Proofs.YtobaoekibnloiaaGreatDoor
/- An event in a block of its own. No walk. -/
namespace Go.Proofs.YtobaoekibnloiaaGreatDoor
open Go Go.RowKit

/-- Block b holds these 13 cells, and they may be written. -/
def EvAt (w : World) (b : Nat) (cs : List Value) : Prop := cs.length = 13 ∧ (∀ i, i < 13 → w.cell? ⟨b, i, none⟩ = cs[i]?) ∧ ∀ i, i < 13 → w.frozen? ⟨b, i, none⟩ = false
theorem EvAt.lt {w : World} {b : Nat} {cs : List Value} (h : EvAt w b cs) : b < w.heap.size := by
  have h0 := h.2.1 0 (by omega)
  have hl := h.1
  rw [List.getElem?_eq_getElem (by omega)] at h0
  exact World.block_lt_of_cell? (a := ⟨b, 0, none⟩) _ h0
theorem EvAt.of_block {w w' : World} {b : Nat} {cs : List Value} (h : EvAt w b cs) (hb : w'.heap[b]? = w.heap[b]?) : EvAt w' b cs := by
  refine ⟨h.1, fun i hi => ?_, fun i hi => ?_⟩
  · rw [World.cell?_of_block (w := w) hb]; exact h.2.1 i hi
  · rw [World.frozen?_of_block (w := w) hb]; exact h.2.2 i hi
theorem EvAt.below {w w' : World} {b : Nat} {cs : List Value} (h : EvAt w b cs) (hb : Below w.heap.size w w') : EvAt w' b cs := h.of_block (hb.block _ h.lt)
theorem EvAt.but {w w' : World} {b p : Nat} {cs : List Value} (h : EvAt w b cs) (hb : But w.heap.size p w w') (hn : b ≠ p) : EvAt w' b cs := h.of_block (hb.block _ h.lt hn)
theorem EvAt.drew {w : World} {b : Nat} {cs : List Value} (h : EvAt w b cs) : EvAt w.drew b cs := h.of_block rfl
theorem EvAt.alloc {w : World} {b : Nat} {cs : List Value} (h : EvAt w b cs) (o : Obj) : EvAt (w.alloc o) b cs := h.of_block (Below.heap_alloc _ _ _ h.lt)
theorem EvAt.other {w : World} {b : Nat} {cs : List Value} (h : EvAt w b cs) {p : Addr} (hp : p.block ≠ b) (u : Value) : EvAt (w.setCell p u) b cs := h.of_block (Below.heap_setCell _ _ _ _ (by omega))
theorem EvAt.set {w : World} {b : Nat} {cs : List Value} (h : EvAt w b cs) (j : Nat) (hj : j < 13) (u : Value) : EvAt (w.setCell ⟨b, j, none⟩ u) b (cs.set j u) := by
  refine ⟨by rw [List.length_set]; exact h.1, fun i hi => ?_, fun i hi => ?_⟩
  · have hl := h.1
    by_cases hij : i = j
    · subst hij
      have h0 := h.2.1 i hi
      rw [List.getElem?_eq_getElem (by omega)] at h0
      rw [World.cell?_setCell_same _ _ _ h0, List.getElem?_set_self (by omega)]
    · rw [World.cell?_setCell_other _ _ _ _ (by simp <;> omega), h.2.1 i hi, List.getElem?_set_ne (by omega)]
  · rw [← h.2.2 i hi]; simp
theorem EvAt.new (w : World) (cs : List Value) (hl : cs.length = 13) (t : TypeId) : EvAt (w.alloc (.cells cs.toArray t)) w.heap.size cs := by
  refine ⟨hl, fun i hi => ?_, fun i hi => ?_⟩
  · simp
  · simp
theorem EvAt.facts {w : World} {b : Nat} {c0 c1 c2 c3 c4 c5 c6 c7 c8 c9 c10 c11 c12 : Value} (h : EvAt w b [c0, c1, c2, c3, c4, c5, c6, c7, c8, c9, c10, c11, c12]) :
    w.cell? ⟨b, 0, none⟩ = some c0 ∧ w.cell? ⟨b, 1, none⟩ = some c1 ∧ w.cell? ⟨b, 2, none⟩ = some c2 ∧ w.cell? ⟨b, 3, none⟩ = some c3 ∧ w.cell? ⟨b, 4, none⟩ = some c4 ∧ w.cell? ⟨b, 5, none⟩ = some c5 ∧ w.cell? ⟨b, 6, none⟩ = some c6 ∧ w.cell? ⟨b, 7, none⟩ = some c7 ∧ w.cell? ⟨b, 8, none⟩ = some c8 ∧ w.cell? ⟨b, 9, none⟩ = some c9 ∧ w.cell? ⟨b, 10, none⟩ = some c10 ∧ w.cell? ⟨b, 11, none⟩ = some c11 ∧ w.cell? ⟨b, 12, none⟩ = some c12 :=
  ⟨h.2.1 0 (by omega), h.2.1 1 (by omega), h.2.1 2 (by omega), h.2.1 3 (by omega), h.2.1 4 (by omega), h.2.1 5 (by omega), h.2.1 6 (by omega), h.2.1 7 (by omega), h.2.1 8 (by omega), h.2.1 9 (by omega), h.2.1 10 (by omega), h.2.1 11 (by omega), h.2.1 12 (by omega)⟩
theorem EvAt.soft {w : World} {b : Nat} {cs : List Value} (h : EvAt w b cs) :
    w.frozen? ⟨b, 0, none⟩ = false ∧ w.frozen? ⟨b, 1, none⟩ = false ∧ w.frozen? ⟨b, 2, none⟩ = false ∧ w.frozen? ⟨b, 3, none⟩ = false ∧ w.frozen? ⟨b, 4, none⟩ = false ∧ w.frozen? ⟨b, 5, none⟩ = false ∧ w.frozen? ⟨b, 6, none⟩ = false ∧ w.frozen? ⟨b, 7, none⟩ = false ∧ w.frozen? ⟨b, 8, none⟩ = false ∧ w.frozen? ⟨b, 9, none⟩ = false ∧ w.frozen? ⟨b, 10, none⟩ = false ∧ w.frozen? ⟨b, 11, none⟩ = false ∧ w.frozen? ⟨b, 12, none⟩ = false :=
  ⟨h.2.2 0 (by omega), h.2.2 1 (by omega), h.2.2 2 (by omega), h.2.2 3 (by omega), h.2.2 4 (by omega), h.2.2 5 (by omega), h.2.2 6 (by omega), h.2.2 7 (by omega), h.2.2 8 (by omega), h.2.2 9 (by omega), h.2.2 10 (by omega), h.2.2 11 (by omega), h.2.2 12 (by omega)⟩

/-- The kind of station after the first k words of kinds have been looked at. -/
def stK (s : ByteArray) (k : Nat) : Int := match kindF s with
  | some j => if j ≤ k then j else 0
  | none => 0
theorem stK_0 (s : ByteArray) : stK s 0 = 0 := by
  unfold stK
  cases h : kindF s with
  | none => rfl
  | some j => have := kindF_iff.1 h; simp only; rw [if_neg (by omega)]
theorem stK_3 (s : ByteArray) : stK s 3 = (kindF s).getD 0 := by
  unfold stK
  cases h : kindF s with
  | none => rfl
  | some j => have := kindF_iff.1 h; simp only; rw [if_pos (by omega)]; rfl
def kwK (k : Nat) : ByteArray := match k with | 0 => kLand | 1 => kShip | _ => kBuoy
theorem kindW_kwK (k : Nat) (hk : k < 3) : kindW (k + 1) = kwK k := by
  have : k = 0 ∨ k = 1 ∨ k = 2 := by omega
  rcases this with rfl | rfl | rfl <;> rfl
theorem kindW_inj {i j : Int} (h1 : 1 ≤ i) (h2 : i ≤ 3) (h3 : 1 ≤ j) (h4 : j ≤ 3) (h : kindW i = kindW j) : i = j := by
  have a := kindF_iff.2 ⟨h1, h2, rfl⟩
  have b := kindF_iff.2 ⟨h3, h4, rfl⟩
  rw [h, b] at a
  injection a with a; exact a.symm
theorem stK_hit {s : ByteArray} {k : Nat} (hk : k < 3) (h : s = kwK k) : stK s (k + 1) = (k : Int) + 1 := by
  have e := (kindF_iff (s := s) (k := (k : Int) + 1)).2 ⟨by omega, by omega, by rw [h, kindW_kwK k hk]⟩
  unfold stK
  rw [e]; simp only; rw [if_pos (by omega)]
theorem stK_miss {s : ByteArray} {k : Nat} (hk : k < 3) (h : s ≠ kwK k) : stK s (k + 1) = stK s k := by
  unfold stK
  cases e : kindF s with
  | none => rfl
  | some j =>
    obtain ⟨j1, j2, j3⟩ := kindF_iff.1 e
    have hne : j ≠ (k : Int) + 1 := by
      intro hj; subst hj
      exact h (by rw [j3, kindW_kwK k hk])
    simp only
    by_cases hl : j ≤ (k : Int)
    · rw [if_pos (by omega), if_pos hl]
    · rw [if_neg (by omega), if_neg hl]
theorem stK_rng (s : ByteArray) (k : Nat) : 0 ≤ stK s k ∧ stK s k ≤ 3 := by
  unfold stK
  cases e : kindF s with
  | none => simp
  | some j =>
    obtain ⟨j1, j2, j3⟩ := kindF_iff.1 e
    simp only
    split <;> omega
/-- What a reader of the words of a station, or of a line, returns. -/
def EvIs (o : Option Ev) (w : World) (e : Ending) (w' : World) : Prop :=
  ∃ (y : Ev) (bv cv : Value) (ok : Bool), e = .returned (.tuple #[y.val bv cv, .bool ok]) ∧ o = (if ok = true then some y else none) ∧ (ok = true → EvParts w.heap.size w' y bv cv) ∧ bv.oneCell' = true ∧ cv.oneCell' = true ∧ Below w.heap.size w w'
end Go.Proofs.YtobaoekibnloiaaGreatDoor
/- Events as a whole: the steps that read or write one, and what a function returns that returns one. -/
namespace Go.Proofs.YtobaoekibnloiaaGreatDoor
open Go Go.RowKit

theorem einfo : (Tryz.prog.info? 36).map (·.size) = some 13 := by kernel_rfl
theorem eund : ∃ d, Tryz.prog.underlying 36 = some d ∧ d.isRow = true := ⟨_, Tryz.underlying36, rfl⟩
theorem EvAt.range {w : World} {b : Nat} {cs : List Value} (h : EvAt w b cs) : w.rangeAt b 0 cs := fun j v hj => by
  have hl := h.1
  have hlt := (List.getElem?_eq_some_iff.1 hj).1
  rw [Nat.zero_add, h.2.1 j (by omega)]; exact hj
theorem EvAt.there {w : World} {b : Nat} {cs : List Value} (h : EvAt w b cs) : w.there b 0 13 := fun j hj => by
  have hl := h.1
  refine ⟨?_, ?_⟩
  · rw [Nat.zero_add, h.2.1 j hj, List.getElem?_eq_getElem (by omega)]; rfl
  · rw [Nat.zero_add]; exact h.2.2 j hj
theorem ev_loadVar {w : World} {b : Nat} {cs : List Value} (h : EvAt w b cs) : (loadVar 36 ⟨b, 0, none⟩).run Tryz.prog w = .ok (.agg cs.toArray) w := by
  obtain ⟨d, h1, h2⟩ := eund
  exact run_loadVar_mid w b 0 _ cs d h.range h1 h2 (by rw [einfo, h.1])
theorem ev_load {ops : Array Oper} {rest : List Oper} {op : Oper} {a : Act} {w : World} {Q : Exit → Act → World → Prop} (hgd : op.guard = none) (x : Operand) (ho : op.op = .load 36 x)
    (b : Nat) (hx : a.eval x = .pointer (some ⟨b, 0, none⟩)) (cs : List Value) (h : EvAt w b cs)
    (k : wpList Tryz.prog ops Q rest (a.put op.dst (.agg cs.toArray)) w) : wpList Tryz.prog ops Q (op :: rest) a w := by
  obtain ⟨d, h1, h2⟩ := eund
  exact wpList_load_mid hgd _ x ho b 0 hx cs d h.range h1 h2 (by rw [einfo, h.1]) k
/-- The blocks but for block b hold what they held. -/
def Apart (b : Nat) (w w' : World) : Prop := w'.os = w.os ∧ w'.tape = w.tape ∧ w'.output = w.output ∧ w'.heap.size = w.heap.size ∧ ∀ k, k ≠ b → w'.heap[k]? = w.heap[k]?
theorem apart_setCells (b : Nat) : ∀ (vs : List Value) (o : Nat) (w : World), Apart b w (w.setCells b o vs)
  | [], _, _ => ⟨rfl, rfl, rfl, rfl, fun _ _ => rfl⟩
  | v :: r, o, w => by
    obtain ⟨h1, h2, h3, h4, h5⟩ := apart_setCells b r (o + 1) (w.setCell ⟨b, o, none⟩ v)
    refine ⟨h1, h2, h3, by rw [World.setCells, h4]; simp [World.setCell], fun k hk => ?_⟩
    rw [World.setCells, h5 k hk]
    exact Below.heap_setCell _ _ _ _ (fun e => hk e)
theorem Apart.below {B b : Nat} {w w' : World} (h : Apart b w w') (hb : B ≤ b) : Below B w w' := ⟨h.1, h.2.1, h.2.2.1, Nat.le_of_eq h.2.2.2.1.symm, fun k hk => h.2.2.2.2 k (by omega)⟩
theorem EvAt.apart {w w' : World} {b p : Nat} {cs : List Value} (h : EvAt w b cs) (ha : Apart p w w') (hn : b ≠ p) : EvAt w' b cs := h.of_block (ha.2.2.2.2 b hn)
theorem Apart.cell {w w' : World} {b : Nat} {a : Addr} {v : Value} (h : Apart b w w') (hn : a.block ≠ b) (hc : w.cell? a = some v) : w'.cell? a = some v := by
  rw [World.cell?_of_block (w := w) (h.2.2.2.2 _ hn)]; exact hc
theorem Apart.parts {B p : Nat} {w w' : World} {x : Ev} {bv cv : Value} (h : EvParts B w x bv cv) (ha : Apart p w w') (hp : p < B) : EvParts B w' x bv cv :=
  h.kept (b := p) (fun k _ hn _ => ha.2.2.2.2 k hn) (Or.inl hp)
theorem evCells_one (x : Ev) {bv cv : Value} (hb : bv.oneCell' = true) (hc : cv.oneCell' = true) : ∀ v ∈ evCells x bv cv, v.oneCell' = true := by
  intro v hv
  simp only [evCells, List.mem_cons, List.not_mem_nil, or_false] at hv
  rcases hv with rfl | rfl | rfl | rfl | rfl | rfl | rfl | rfl | rfl | rfl | rfl | rfl | rfl <;> first | rfl | assumption
theorem ev_store {ops : Array Oper} {rest : List Oper} {op : Oper} {a : Act} {w : World} {Q : Exit → Act → World → Prop} (hgd : op.guard = none) (x y : Operand) (ho : op.op = .store 36 x y)
    (b : Nat) (hx : a.eval x = .pointer (some ⟨b, 0, none⟩)) (cs cs' : List Value) (hy : a.eval y = .agg cs'.toArray) (h : EvAt w b cs) (hl : cs'.length = 13) (h1 : ∀ v ∈ cs', v.oneCell' = true)
    (k : ∀ w', EvAt w' b cs' → Apart b w w' → wpList Tryz.prog ops Q rest (a.put op.dst undef) w') : wpList Tryz.prog ops Q (op :: rest) a w := by
  have ht : w.there b 0 cs'.toArray.size := by rw [List.size_toArray, hl]; exact h.there
  refine wpList_store_mid hgd _ x y ho b 0 cs'.toArray hx hy ht (by rw [einfo, List.size_toArray, hl]) (all_oneCell_toArray h1) (k _ ?_ (apart_setCells _ _ _ _))
  have ht' : w.there b 0 cs'.length := by rw [hl]; exact h.there
  refine ⟨hl, fun i hi => ?_, fun i hi => ?_⟩
  · have := w.rangeAt_setCells_same b 0 cs' ht' i _ (List.getElem?_eq_getElem (by omega))
    rw [Nat.zero_add] at this
    rw [List.getElem?_eq_getElem (by omega)]
    exact this
  · rw [World.frozen?_setCells]; exact h.2.2 i hi
theorem results_ev {fn : Func} {i j : Nat} (hfn : fn.results = #[.cell i 36, .tmp j]) {tmps : Array Value} {w : World} {b : Nat} {cs : List Value} {q : Value} (h : EvAt w b cs) (hp : tmps.getD i undef = .pointer (some ⟨b, 0, none⟩)) (hq : tmps.getD j undef = q) :
    (results fn tmps).run Tryz.prog w = .ok (.tuple #[.agg cs.toArray, q]) w := by
  have hl := ev_loadVar h
  unfold results
  rw [hfn]
  simp [hp, hq, asAddr, hl, -Array.getD_eq_getD_getElem?]
/-- The end of a function that returns an event and one value more. -/
theorem ret_ev {fn : Func} {R : Ending → World → Prop} {a : Act} {w : World} {i j : Nat} (hfn : fn.results = #[.cell i 36, .tmp j]) (b : Nat) (cs : List Value) (q : Value) (h : EvAt w b cs) (hp : a.tmps.getD i undef = .pointer (some ⟨b, 0, none⟩)) (hq : a.tmps.getD j undef = q) (hd : a.defers = [])
    (hR : R (.returned (.tuple #[.agg cs.toArray, q])) w) : bodyPost Tryz.prog fn R .ret a w := bodyPost_ret (results_ev hfn h hp hq) hd hR
end Go.Proofs.YtobaoekibnloiaaGreatDoor
/- Regions that draw, taken by hand: what is pure or only loads first, the slot that it writes given; the condition on the world made stronger on the way. -/
namespace Go.Proofs.YtobaoekibnloiaaGreatDoor
open Go Go.RowKit

theorem wpAnyH_takeD {P : Program} {md : Region.Mode} {ops : Array Oper} {Q : Exit → Act → World → Prop} {S : World → Prop} {i : Nat} {oi : Oper} {d : Option Tmp} {v : Value} {fuel : Nat} {listed : Array Bool} {a : Act} {w : World} (hi : ops[i]? = some oi) (hd : oi.dst = d)
    (hs : Region.noSelect ops = true) (hf : Region.free md ops listed i = true) (hr : (Region.ready md ops listed).contains i = true)
    (hQ : ∀ c a w, Q (.panic c) (a.put d v) w → Q (.panic c) a w) (hy : YieldsIf P ops S oi v a) (hS : S w)
    (h : wpAnyH P md ops Q S fuel (listed.setIfInBounds i true) (a.put d v) w) : wpAnyH P md ops Q S (fuel + 1) listed a w := by
  subst hd
  exact wpAnyH_take hi hs hf hr hQ hy hS h
/-- The condition on the world may be made stronger. -/
theorem wpAnyH_more {P : Program} {md : Region.Mode} {ops : Array Oper} {Q : Exit → Act → World → Prop} {S S' : World → Prop} (hSS : ∀ w, S' w → S w) : ∀ {fuel : Nat} {listed : Array Bool} {a : Act} {w : World},
    wpAnyH P md ops Q S' fuel listed a w → wpAnyH P md ops Q S fuel listed a w
  | 0, _, _, _, h => h
  | fuel + 1, _, _, _, h => ⟨h.1, fun i hi => wpOp_mono (fun _ _ h' => ⟨hSS _ h'.1, wpAnyH_more hSS h'.2⟩) (h.2 i hi)⟩
theorem yields_load {P : Program} {ops : Array Oper} {S : World → Prop} {op : Oper} {a : Act} {v : Value} (hw : Region.wanted op (yielded ops a.tmps) = true) (ty : TypeId) (x : Operand) (ho : op.op = .load ty x)
    (ad : Addr) (hx : a.eval x = .pointer (some ad)) (hS : ∀ w, S w → (loadVar ty ad).run P w = .ok v w) : YieldsIf P ops S op v a := .inl ⟨hw, fun w hw' => by
  unfold execOp
  simp only [ho, hx, Instr.loadAt, Instr.sureAddr, Sem.run_bind, Sem.run_pure, Result.andThen_ok, hS w hw']⟩
end Go.Proofs.YtobaoekibnloiaaGreatDoor
/- A region that draws, by an invariant: each operation once, whatever the order. No program. -/
namespace Go.Proofs.YtobaoekibnloiaaGreatDoor
open Go Go.RowKit

theorem count_set_lt : ∀ (l : List Bool) (i : Nat), l[i]? = some false → (l.set i true).count false < l.count false
  | [], i, h => by simp at h
  | a :: l, 0, h => by simp at h; subst h; simp
  | a :: l, i + 1, h => by
    have ih := count_set_lt l i (by simpa using h)
    simp only [List.set_cons_succ, List.count_cons]
    omega
section
variable {P : Program} {md : Region.Mode} {ops : Array Oper} {Q : Exit → Act → World → Prop}
theorem wpAny_inv (I : Array Bool → Act → World → Prop)
    (hs : ∀ listed a w i, listed.size = ops.size → I listed a w → i ∈ Region.ready md ops listed → wpOp P ops Q i (fun a' w' => I (listed.setIfInBounds i true) a' w') a w)
    (he : ∀ listed a w, listed.size = ops.size → I listed a w → Region.ready md ops listed = [] → Q .normal a w) :
    ∀ (fuel : Nat) (listed : Array Bool) (a : Act) (w : World), listed.size = ops.size → listed.toList.count false ≤ fuel → I listed a w → wpAny P md ops Q fuel listed a w
  | 0, listed, a, w, hsz, hc, hI => by
    have hr : Region.ready md ops listed = [] := by
      cases hq : Region.ready md ops listed with
      | nil => rfl
      | cons i r =>
        exfalso
        have hi : i ∈ Region.ready md ops listed := by rw [hq]; simp
        have h0 := (mem_ready.1 hi).1
        have hlt : i < listed.size := by
          rcases Nat.lt_or_ge i listed.size with h | h
          · exact h
          · simp [Array.getElem?_eq_none h] at h0
        have hm : false ∈ listed.toList := by
          have : listed[i] = false := by simpa [hlt] using h0
          rw [← this]; simp
        have := List.count_pos_iff.2 hm
        omega
    exact ⟨hr, he listed a w hsz hI hr⟩
  | fuel + 1, listed, a, w, hsz, hc, hI => by
    refine ⟨fun hr => he listed a w hsz hI hr, fun i hi => ?_⟩
    refine wpOp_mono (fun a' w' h' => ?_) (hs listed a w i hsz hI hi)
    have h0 := (mem_ready.1 hi).1
    have hlt : i < listed.size := by
      rcases Nat.lt_or_ge i listed.size with h | h
      · exact h
      · simp [Array.getElem?_eq_none h] at h0
    have hf : listed.toList[i]? = some false := by
      have : listed[i] = false := by simpa [hlt] using h0
      simp [hlt, this]
    refine wpAny_inv I hs he fuel _ a' w' (by simp [hsz]) ?_ h'
    have h1 := count_set_lt listed.toList i hf
    rw [Array.toList_setIfInBounds]
    omega
/-- Edges go back. -/
def backB (ops : Array Oper) : Bool := (List.range ops.size).all fun k => match ops[k]? with
  | some o => o.after.all fun e => decide (e.on < k)
  | none => true
theorem all_listed (hb : backB ops = true) {listed : Array Bool} (hr : Region.ready md ops listed = []) (hsz : listed.size = ops.size) : ∀ k, k < ops.size → listed.getD k false = true := by
  intro k
  induction k using Nat.strongRecOn with
  | ind k ih =>
    intro hk
    have hko : ops[k]? = some ops[k] := Array.getElem?_eq_getElem hk
    cases hq : listed.getD k false with
    | true => rfl
    | false =>
      exfalso
      have hm : k ∈ Region.ready md ops listed := by
        refine mem_ready.2 ⟨?_, ops[k], hko, fun e he _ => ?_⟩
        · have hlt : k < listed.size := by omega
          simp [hlt] at hq ⊢; exact hq
        · have h1 := List.all_eq_true.1 hb k (List.mem_range.2 hk)
          rw [hko] at h1
          have h2 := Array.all_eq_true'.1 h1 e he
          have h3 : e.on < k := by simpa using h2
          exact ih e.on h3 (by omega)
      rw [hr] at hm
      cases hm
/-- What the slot of an operation holds. -/
def slotOf (o : Oper) (a : Act) : Value := match o.dst with
  | some t => a.tmps.getD t undef
  | none => undef
/-- Each operation writes a slot of its own, and the slots are there. -/
def distB (ops : Array Oper) (N : Nat) : Bool := (List.range ops.size).all fun i => match ops[i]? with
  | some o => (match o.dst with
    | some t => decide (t < N) && (List.range ops.size).all fun j => j == i || (match ops[j]? with | some p => p.dst != some t | none => true)
    | none => true)
  | none => true
theorem dist_spec {N : Nat} (h : distB ops N = true) {i : Nat} {o : Oper} {t : Tmp} (ho : ops[i]? = some o) (hd : o.dst = some t) : t < N ∧ ∀ j p, ops[j]? = some p → j ≠ i → p.dst ≠ some t := by
  have hi : i < ops.size := (Array.getElem?_eq_some_iff.1 ho).1
  have h1 := List.all_eq_true.1 h i (List.mem_range.2 hi)
  simp only [ho, hd] at h1
  rw [Bool.and_eq_true] at h1
  refine ⟨by simpa using h1.1, fun j p hp hne => ?_⟩
  have hj : j < ops.size := (Array.getElem?_eq_some_iff.1 hp).1
  have h2 := List.all_eq_true.1 h1.2 j (List.mem_range.2 hj)
  rw [hp] at h2
  rcases Bool.or_eq_true .. ▸ h2 with h3 | h3
  · exact absurd (by simpa using h3) hne
  · simpa using h3
/-- Elsewhere the frame is as it was. -/
def SameAct (ops : Array Oper) (a0 a : Act) : Prop := a.defers = a0.defers ∧ a.tmps.size = a0.tmps.size ∧ ∀ (t : Tmp), (∀ (k : Nat) (o : Oper), ops[k]? = some o → o.dst ≠ some t) → a.tmps.getD t undef = a0.tmps.getD t undef
theorem put_other {a : Act} {d : Option Tmp} {v : Value} {t : Tmp} (h : d ≠ some t) : (a.put d v).tmps.getD t undef = a.tmps.getD t undef := by
  cases d with
  | none => rfl
  | some s =>
    have hne : s ≠ t := fun e => h (by rw [e])
    show (a.tmps.setIfInBounds s v).getD t undef = _
    simp [Array.getElem?_setIfInBounds_ne hne]
theorem put_same {a : Act} {t : Tmp} {v : Value} (h : t < a.tmps.size) : (a.put (some t) v).tmps.getD t undef = v := by
  show (a.tmps.setIfInBounds t v).getD t undef = _
  simp [Array.getElem?_setIfInBounds, h]
theorem SameAct.put {a0 a : Act} (h : SameAct ops a0 a) {i : Nat} {o : Oper} (ho : ops[i]? = some o) (v : Value) : SameAct ops a0 (a.put o.dst v) := by
  refine ⟨?_, ?_, fun t ht => ?_⟩
  · rw [← h.1]; cases o.dst <;> rfl
  · rw [← h.2.1]; cases o.dst <;> simp [Act.put]
  · rw [put_other (ht i o ho)]; exact h.2.2 t ht
/-- **The law**: each operation once, at whatever frame and world, from what is known of those that it comes after. -/
theorem wp_region_inv {id : Nat} {a0 : Act} {w0 : World} (hm : P.follows .mixedOrders = true) (N : Nat) (hN : a0.tmps.size = N) (hd : distB ops N = true) (hb : backB ops = true)
    (S : World → Prop) (R : World → World → Prop) (F : Nat → Value → World → Prop) (hR : ∀ k v w w', F k v w → R w w' → F k v w') (hS0 : S w0.drew)
    (hop : ∀ (i : Nat) (o : Oper), ops[i]? = some o → ∀ (a : Act) (w : World), S w → SameAct ops a0 a → (∀ e ∈ o.after, Region.binds .any e = true → ∀ (p : Oper), ops[e.on]? = some p → F e.on (slotOf p a) w) →
      ∀ K : Act → World → Prop, (∀ v w', F i (match o.dst with | some _ => v | none => undef) w' → R w w' → S w' → K (a.put o.dst v) w') → if Region.wanted o (yielded ops a.tmps) = true then Oper.wp P o a w K Q else K (a.put o.dst undef) w)
    (hend : ∀ (a : Act) (w : World), S w → SameAct ops a0 a → (∀ (k : Nat) (o : Oper), ops[k]? = some o → F k (slotOf o a) w) → Q .normal a w) : (Code.region id ops true).wp P Q a0 w0 := by
  refine wp_region_any hm ?_
  refine wpAny_inv (fun listed a w => S w ∧ SameAct ops a0 a ∧ ∀ k o, ops[k]? = some o → listed.getD k false = true → F k (slotOf o a) w) ?_ ?_ _ _ _ _ (by simp) ?_ ?_
  · rintro listed a w i hsz ⟨hS, hA, hF⟩ hi
    obtain ⟨h0, o, ho, hall⟩ := mem_ready.1 hi
    refine wpOp_step ho fun K' hK => hop i o ho a w hS hA (fun e he hbd p hp => hF e.on p hp (hall e he hbd)) K' (fun v w' hv hr hs => hK _ _ ⟨hs, hA.put ho v, fun k p hp hl => ?_⟩)
    by_cases hki : k = i
    · subst hki
      rw [ho] at hp
      injection hp with hp
      subst hp
      unfold slotOf
      cases hq : o.dst with
      | none => rw [hq] at hv; exact hv
      | some t =>
        rw [hq] at hv
        have hlt := (dist_spec hd ho hq).1
        simp only
        have hlt2 : t < a.tmps.size := by rw [hA.2.1, hN]; exact hlt
        rw [put_same hlt2]
        exact hv
    · have hl' : listed.getD k false = true := by rw [getD_set_ne false (Ne.symm hki)] at hl; exact hl
      have h1 := hR k _ w w' (hF k p hp hl') hr
      have e : slotOf p (a.put o.dst v) = slotOf p a := by
        unfold slotOf
        cases hq : p.dst with
        | none => rfl
        | some t => simp only; exact put_other ((dist_spec hd hp hq).2 i o ho (Ne.symm hki))
      rw [e]; exact h1
  · rintro listed a w hsz ⟨hS, hA, hF⟩ hr
    refine hend a w hS hA fun k o ho => hF k o ho (all_listed hb hr hsz k (Array.getElem?_eq_some_iff.1 ho).1)
  · rw [Array.toList_replicate]; exact Nat.le_trans (List.count_le_length) (by simp)
  · refine ⟨hS0, ⟨rfl, rfl, fun _ _ => rfl⟩, fun k o ho hl => ?_⟩
    exfalso
    have hk := (Array.getElem?_eq_some_iff.1 ho).1
    simp [hk] at hl
end
end Go.Proofs.YtobaoekibnloiaaGreatDoor
/- A region that draws, by an invariant that may name the operations done so far; each operation once, whatever the order. No program. -/
namespace Go.Proofs.YtobaoekibnloiaaGreatDoor
open Go Go.RowKit

section
variable {P : Program} {ops : Array Oper} {Q : Exit → Act → World → Prop}
/-- What is done has behind it what it comes after. -/
def ClosedD (ops : Array Oper) (d : Nat → Bool) : Prop := ∀ k p, ops[k]? = some p → d k = true → ∀ e ∈ p.after, Region.binds .any e = true → d e.on = true
/-- What one operation owes. -/
def HopAt (P : Program) (ops : Array Oper) (Q : Exit → Act → World → Prop) (a0 : Act) (S : (Nat → Bool) → World → Prop) (F : Nat → Value → World → Prop) (i : Nat) (o : Oper) : Prop :=
  ∀ (d : Nat → Bool) (a : Act) (w : World), d i = false → ClosedD ops d → S d w → SameAct ops a0 a →
    (∀ e ∈ o.after, Region.binds .any e = true → d e.on = true ∧ ∀ (p : Oper), ops[e.on]? = some p → F e.on (slotOf p a) w) →
    ∀ K : Act → World → Prop, (∀ v w', F i (match o.dst with | some _ => v | none => undef) w' → (∀ k u, d k = true → F k u w → F k u w') → S (fun k => k == i || d k) w' → K (a.put o.dst v) w') → if Region.wanted o (yielded ops a.tmps) = true then Oper.wp P o a w K Q else K (a.put o.dst undef) w
def AllHops (H : Nat → Oper → Prop) : Nat → List Oper → Prop
  | _, [] => True
  | k, o :: r => H k o ∧ AllHops H (k + 1) r
theorem allHops_at {H : Nat → Oper → Prop} : ∀ (l : List Oper) (k i : Nat) (o : Oper), AllHops H k l → l[i]? = some o → H (k + i) o
  | [], _, _, _, _, h => by simp at h
  | p :: l, k, 0, o, ha, h => by simp at h; subst h; exact ha.1
  | p :: l, k, i + 1, o, ha, h => by
    have := allHops_at l (k + 1) i o ha.2 (by simpa using h)
    rw [show k + (i + 1) = k + 1 + i by omega]; exact this
/-- Edges that bind go back. -/
def backC (ops : Array Oper) : Bool := (List.range ops.size).all fun k => match ops[k]? with
  | some o => o.after.all fun e => !Region.binds .any e || decide (e.on < k)
  | none => true
theorem all_listedC (hb : backC ops = true) {listed : Array Bool} (hr : Region.ready .any ops listed = []) (hsz : listed.size = ops.size) : ∀ k, k < ops.size → listed.getD k false = true := by
  intro k
  induction k using Nat.strongRecOn with
  | ind k ih =>
    intro hk
    have hko : ops[k]? = some ops[k] := Array.getElem?_eq_getElem hk
    cases hq : listed.getD k false with
    | true => rfl
    | false =>
      exfalso
      have hm : k ∈ Region.ready .any ops listed := by
        refine mem_ready.2 ⟨?_, ops[k], hko, fun e he hbd => ?_⟩
        · have hlt : k < listed.size := by omega
          simp [hlt] at hq ⊢; exact hq
        · have h1 := List.all_eq_true.1 hb k (List.mem_range.2 hk)
          rw [hko] at h1
          have h2 := Array.all_eq_true'.1 h1 e he
          rw [hbd] at h2
          have h3 : e.on < k := by simpa using h2
          exact ih e.on h3 (by omega)
      rw [hr] at hm
      cases hm
theorem wp_region_phase {id : Nat} {a0 : Act} {w0 : World} (hm : P.follows .mixedOrders = true) (N : Nat) (hN : a0.tmps.size = N) (hd : distB ops N = true) (hb : backC ops = true)
    (S : (Nat → Bool) → World → Prop) (F : Nat → Value → World → Prop) (hS0 : S (fun _ => false) w0.drew)
    (hop : AllHops (HopAt P ops Q a0 S F) 0 ops.toList)
    (hend : ∀ (a : Act) (w : World) (d : Nat → Bool), (∀ k, k < ops.size → d k = true) → S d w → SameAct ops a0 a → (∀ (k : Nat) (o : Oper), ops[k]? = some o → F k (slotOf o a) w) → Q .normal a w) : (Code.region id ops true).wp P Q a0 w0 := by
  refine wp_region_any hm ?_
  refine wpAny_inv (fun listed a w => (∃ d, (∀ k, k < ops.size → d k = listed.getD k false) ∧ ClosedD ops d ∧ S d w) ∧ SameAct ops a0 a ∧ ∀ k o, ops[k]? = some o → listed.getD k false = true → F k (slotOf o a) w) ?_ ?_ _ _ _ _ (by simp) ?_ ?_
  · rintro listed a w i hsz ⟨⟨d, hdl, hcl, hS⟩, hA, hF⟩ hi
    obtain ⟨h0, o, ho, hall⟩ := mem_ready.1 hi
    have hio : i < ops.size := (Array.getElem?_eq_some_iff.1 ho).1
    have hil : i < listed.size := by omega
    have hdi : d i = false := by
      rw [hdl i hio]
      have : listed.getD i true = false := h0
      simp [hil] at this ⊢; exact this
    have hop' := allHops_at _ 0 i o hop (by rw [Array.getElem?_toList]; exact ho)
    rw [Nat.zero_add] at hop'
    refine wpOp_step ho fun K' hK => hop' d a w hdi hcl hS hA (fun e he hbd => ?_) K' (fun v w' hv hr hs => hK _ _ ⟨⟨fun k => k == i || d k, ?_, ?_, hs⟩, hA.put ho v, fun k p hp hl => ?_⟩)
    · have h1 := hall e he hbd
      have hle : e.on < ops.size := by
        rcases Nat.lt_or_ge e.on ops.size with h | h
        · exact h
        · simp [Array.getElem?_eq_none (show listed.size ≤ e.on by omega)] at h1
      exact ⟨by rw [hdl _ hle]; exact h1, fun p hp => hF e.on p hp h1⟩
    · intro k hk
      by_cases hki : k = i
      · subst hki
        simp [hil]
      · rw [getD_set_ne false (Ne.symm hki), ← hdl k hk]
        simp [hki]
    · intro k p hp hk e he hbd
      by_cases hki : k = i
      · subst hki
        obtain rfl := Option.some.inj (ho.symm.trans hp)
        have h1 := hall e he hbd
        have hle : e.on < ops.size := by
          rcases Nat.lt_or_ge e.on ops.size with h | h
          · exact h
          · simp [Array.getElem?_eq_none (show listed.size ≤ e.on by omega)] at h1
        have h2 : d e.on = true := by rw [hdl _ hle]; exact h1
        simp [h2]
      · have hk' : d k = true := by simpa [hki] using hk
        have h2 := hcl k p hp hk' e he hbd
        simp [h2]
    · by_cases hki : k = i
      · subst hki
        rw [ho] at hp
        injection hp with hp
        subst hp
        unfold slotOf
        cases hq : o.dst with
        | none => rw [hq] at hv; exact hv
        | some t =>
          rw [hq] at hv
          have hlt := (dist_spec hd ho hq).1
          simp only
          have hlt2 : t < a.tmps.size := by rw [hA.2.1, hN]; exact hlt
          rw [put_same hlt2]
          exact hv
      · have hl' : listed.getD k false = true := by rw [getD_set_ne false (Ne.symm hki)] at hl; exact hl
        have hko : k < ops.size := (Array.getElem?_eq_some_iff.1 hp).1
        have h1 := hr k _ (by rw [hdl k hko]; exact hl') (hF k p hp hl')
        have e : slotOf p (a.put o.dst v) = slotOf p a := by
          unfold slotOf
          cases hq : p.dst with
          | none => rfl
          | some t => simp only; exact put_other ((dist_spec hd hp hq).2 i o ho (Ne.symm hki))
        rw [e]; exact h1
  · rintro listed a w hsz ⟨⟨d, hdl, hcl, hS⟩, hA, hF⟩ hr
    have hal := all_listedC hb hr hsz
    exact hend a w d (fun k hk => by rw [hdl k hk]; exact hal k hk) hS hA fun k o ho => hF k o ho (hal k (Array.getElem?_eq_some_iff.1 ho).1)
  · rw [Array.toList_replicate]; exact Nat.le_trans (List.count_le_length) (by simp)
  · refine ⟨⟨fun _ => false, fun k hk => by simp [hk], (fun k p _ hk => by cases hk), hS0⟩, ⟨rfl, rfl, fun _ _ => rfl⟩, fun k o ho hl => ?_⟩
    exfalso
    have hk := (Array.getElem?_eq_some_iff.1 ho).1
    simp [hk] at hl
/-- A frame whose slots from s on, t of them, hold what u says. -/
def mixL (u : Nat → Value) : Nat → Nat → Nat → List Value → List Value
  | _, _, _, [] => []
  | s + 1, t, k, v :: r => v :: mixL u s t (k + 1) r
  | 0, t + 1, k, _ :: r => u k :: mixL u 0 t (k + 1) r
  | 0, 0, _, v :: r => v :: r
theorem mixL_get (u : Nat → Value) : ∀ (l : List Value) (s t k i : Nat), (mixL u s t k l)[i]? = (l[i]?).map fun v => if s ≤ i ∧ i < s + t then u (k + i) else v
  | [], s, t, k, i => by cases s <;> cases t <;> simp [mixL]
  | v :: r, s + 1, t, k, 0 => by simp [mixL]
  | v :: r, s + 1, t, k, i + 1 => by
    have ih := mixL_get u r s t (k + 1) i
    simp only [mixL, List.getElem?_cons_succ, ih]
    congr 1
    funext x
    rw [show k + 1 + i = k + (i + 1) by omega]
    by_cases h : s ≤ i ∧ i < s + t
    · rw [if_pos h, if_pos (by omega)]
    · rw [if_neg h, if_neg (by omega)]
  | v :: r, 0, t + 1, k, 0 => by simp [mixL]
  | v :: r, 0, t + 1, k, i + 1 => by
    have ih := mixL_get u r 0 t (k + 1) i
    simp only [mixL, List.getElem?_cons_succ, ih]
    congr 1
    funext x
    rw [show k + 1 + i = k + (i + 1) by omega]
    by_cases h : 0 ≤ i ∧ i < 0 + t
    · rw [if_pos h, if_pos (by omega)]
    · rw [if_neg h, if_neg (by omega)]
  | v :: r, 0, 0, k, i => by
    simp only [mixL]
    cases h : (v :: r)[i]? with
    | none => rfl
    | some x => simp
def slotsB (ops : Array Oper) (lo n : Nat) : Bool := (List.range ops.size).all fun k => match ops[k]? with
  | some o => (match o.dst with | some t => decide (lo ≤ t) && decide (t < lo + n) | none => true)
  | none => true
theorem sameAct_mix {a0 a : Act} (h : SameAct ops a0 a) {lo n : Nat} (hs : slotsB ops lo n = true) : a = ⟨(mixL (fun k => a.tmps.getD k undef) lo n 0 a0.tmps.toList).toArray, a0.defers⟩ := by
  obtain ⟨h1, h2, h3⟩ := h
  obtain ⟨tm, df⟩ := a
  simp only at h1 h2 h3 ⊢
  subst h1
  congr 1
  apply Array.ext'
  apply List.ext_getElem?
  intro i
  rw [mixL_get]
  simp only [Array.getElem?_toList, Nat.zero_add]
  by_cases hi : i < tm.size
  · have hi0 : i < a0.tmps.size := by omega
    rw [Array.getElem?_eq_getElem hi, Array.getElem?_eq_getElem hi0]
    simp only [Option.map_some]
    congr 1
    by_cases hr : lo ≤ i ∧ i < lo + n
    · rw [if_pos hr]; simp [hi]
    · rw [if_neg hr]
      have := h3 i (fun k o ho hd => by
        have hk := (Array.getElem?_eq_some_iff.1 ho).1
        have hq := List.all_eq_true.1 hs k (List.mem_range.2 hk)
        rw [ho] at hq
        simp only [hd, Bool.and_eq_true, decide_eq_true_eq] at hq
        exact hr hq)
      simpa [hi, hi0] using this
  · rw [Array.getElem?_eq_none (by omega), Array.getElem?_eq_none (by omega)]; rfl
/-- The law: what the slots hold behind the region is u. -/
theorem wp_region_slots {id : Nat} {a0 : Act} {w0 : World} (hm : P.follows .mixedOrders = true) (N : Nat) (hN : a0.tmps.size = N) (hd : distB ops N = true) (hb : backC ops = true) (lo n : Nat) (hs : slotsB ops lo n = true)
    (S : (Nat → Bool) → World → Prop) (F : Nat → Value → World → Prop) (hS0 : S (fun _ => false) w0.drew)
    (hop : AllHops (HopAt P ops Q a0 S F) 0 ops.toList)
    (hend : ∀ (u : Nat → Value) (w : World) (d : Nat → Bool), (∀ k, k < ops.size → d k = true) → S d w → (∀ (k : Nat) (o : Oper), ops[k]? = some o → F k (match o.dst with | some t => u t | none => undef) w) →
      Q .normal ⟨(mixL u lo n 0 a0.tmps.toList).toArray, a0.defers⟩ w) : (Code.region id ops true).wp P Q a0 w0 := by
  refine wp_region_phase hm N hN hd hb S F hS0 hop fun a w d h1 h2 h3 h4 => ?_
  rw [sameAct_mix h3 hs]
  refine hend _ w d h1 h2 fun k o ho => ?_
  exact h4 k o ho
/-- An operation that gives a value. -/
theorem hop_val {o : Oper} {a : Act} {w w' : World} {K : Act → World → Prop} (hg : o.guard = none) (v : Value) (hrun : (execOp a.eval o).run P w = .ok (.value v) w') (h : K (a.put o.dst v) w') :
    if Region.wanted o (yielded ops a.tmps) = true then Oper.wp P o a w K Q else K (a.put o.dst undef) w := by
  have hw : Region.wanted o (yielded ops a.tmps) = true := by simp [Region.wanted, hg]
  rw [if_pos hw]
  unfold Oper.wp
  rw [hrun]; exact h
/-- An operation that gives none. -/
theorem hop_none {o : Oper} {a : Act} {w w' : World} {K : Act → World → Prop} (hg : o.guard = none) (hrun : (execOp a.eval o).run P w = .ok .skip w') (h : K (a.put o.dst undef) w') :
    if Region.wanted o (yielded ops a.tmps) = true then Oper.wp P o a w K Q else K (a.put o.dst undef) w := by
  have hw : Region.wanted o (yielded ops a.tmps) = true := by simp [Region.wanted, hg]
  rw [if_pos hw]
  unfold Oper.wp
  rw [hrun]; exact h
/-- A call of a function that returns. -/
theorem hop_call {o : Oper} {a : Act} {w : World} {K : Act → World → Prop} (hg : o.guard = none) {f : FuncId} {fn : Func} (hf : P.funcs[f]? = some fn) (hname : (fn.name == "runtime.NumGoroutine") = false) (hb : fn.body.isNone = false) (args : Array Operand) (ts : Array TypeId) (ho : o.op = .call { callee := .value (.func f), args := args, argTypes := ts }) (vs : Array Value) (hv : args.map a.eval = vs)
    (R : Ending → World → Prop) (hc : Calls P f vs w R) (h : ∀ e w', R e w' → ∃ v, e = .returned v ∧ K (a.put o.dst v) w') :
    if Region.wanted o (yielded ops a.tmps) = true then Oper.wp P o a w K Q else K (a.put o.dst undef) w := by
  have hw : Region.wanted o (yielded ops a.tmps) = true := by simp [Region.wanted, hg]
  rw [if_pos hw]
  subst hv
  have e : (execOp a.eval o).run P w = .ok (.enter f (args.map a.eval)) w := by
    have h1 : fn.name ≠ "runtime.NumGoroutine" := by simpa using hname
    have h2 : ¬ fn.body = none := by intro h; rw [h] at hb; cases hb
    unfold execOp
    simp [ho, resolve, Deferred.ofValue, invoke, Act.eval, callFunc, hf, h1, h2]
  unfold Oper.wp
  rw [e, Oper.upon_enter]
  refine hc.mono fun e w' hr => ?_
  obtain ⟨v, rfl, hk⟩ := h e w' hr
  exact hk
/-- What an operation's slot holds. -/
theorem same_slot {a0 a : Act} (h : SameAct ops a0 a) (t : Tmp) (ht : ((List.range ops.size).all fun k => match ops[k]? with | some o => o.dst != some t | none => true) = true) : a.tmps.getD t undef = a0.tmps.getD t undef := by
  refine h.2.2 t fun k o ho => ?_
  have hk := (Array.getElem?_eq_some_iff.1 ho).1
  have := List.all_eq_true.1 ht k (List.mem_range.2 hk)
  rw [ho] at this
  simpa using this
end
end Go.Proofs.YtobaoekibnloiaaGreatDoor
/- script's only. -/
namespace Go.Proofs.YtobaoekibnloiaaGreatDoor
open Go Go.RowKit

theorem results_one {fn : Func} {i : Nat} (hfn : fn.results = #[.cell i 36]) {tmps : Array Value} {w : World} {b : Nat} {cs : List Value} (h : EvAt w b cs) (hp : tmps.getD i undef = .pointer (some ⟨b, 0, none⟩)) :
    (results fn tmps).run Tryz.prog w = .ok (.agg cs.toArray) w := by
  have hl := ev_loadVar h
  unfold results
  rw [hfn]
  simp [hp, asAddr, hl, -Array.getD_eq_getD_getElem?]
theorem ret_one {fn : Func} {R : Ending → World → Prop} {a : Act} {w : World} {i : Nat} (hfn : fn.results = #[.cell i 36]) (b : Nat) (cs : List Value) (h : EvAt w b cs) (hp : a.tmps.getD i undef = .pointer (some ⟨b, 0, none⟩)) (hd : a.defers = [])
    (hR : R (.returned (.agg cs.toArray)) w) : bodyPost Tryz.prog fn R .ret a w := bodyPost_ret (results_one hfn h hp) hd hR
def OnlyIs (x : Ev) (bv cv : Value) (w : World) (e : Ending) (w' : World) : Prop :=
  e = .returned (Ev.val (only x) (if x.kind = 2 then bv else .slice none 0 0) (if x.kind = 4 then cv else .slice none 0 0)) ∧ Below w.heap.size w w'

theorem ev_mid (w : World) (o1 : Obj) (cs : List Value) (t : TypeId) (o3 : Obj) (hl : cs.length = 13) : EvAt (((w.alloc o1).alloc (.cells cs.toArray t)).alloc o3) (w.heap.size + 1) cs := by
  have h := EvAt.new (w.alloc o1) cs hl t
  rw [show (w.alloc o1).heap.size = w.heap.size + 1 by simp] at h
  exact h.alloc o3
theorem below3 (w : World) (o1 o2 o3 : Obj) : Below w.heap.size w (((w.alloc o1).alloc o2).alloc o3) := (((Below.refl _ _).alloc (Nat.le_refl _) o1).alloc (by simp) o2).alloc (by simp; omega) o3

set_option maxHeartbeats 4000000 in
set_option maxRecDepth 100000 in
theorem only_text (x : Ev) (bv cv : Value) (w : World) (hb : ∃ a n c, bv = .slice a n c) (hc : ∃ a n c, cv = .slice a n c) (hk : x.kind = 1) :
    Calls Tryz.prog 51 #[x.val bv cv] w (OnlyIs x bv cv w) := by
  obtain ⟨ba, bn, bc, rfl⟩ := hb
  obtain ⟨ca, cn, cc, rfl⟩ := hc
  obtain ⟨k, t, bs, n, st, nm, s, c, f, a, b, d, l⟩ := x
  simp only at hk
  subst hk
  unfold Ev.val evCells
  go_enter Tryz.func51, Tryz.ntmps51
  go_wp2_with fail
  refine ret_one rfl _ _ (ev_mid _ _ _ _ _ rfl) rfl rfl ?_
  exact ⟨by simp [only, Ev.val, evCells, Ev.zero], below3 _ _ _ _⟩

set_option maxHeartbeats 4000000 in
set_option maxRecDepth 100000 in
theorem only_binary (x : Ev) (bv cv : Value) (w : World) (hb : ∃ a n c, bv = .slice a n c) (hc : ∃ a n c, cv = .slice a n c) (hk : x.kind = 2) :
    Calls Tryz.prog 51 #[x.val bv cv] w (OnlyIs x bv cv w) := by
  obtain ⟨ba, bn, bc, rfl⟩ := hb
  obtain ⟨ca, cn, cc, rfl⟩ := hc
  obtain ⟨k, t, bs, n, st, nm, s, c, f, a, b, d, l⟩ := x
  simp only at hk
  subst hk
  unfold Ev.val evCells
  go_enter Tryz.func51, Tryz.ntmps51
  go_wp2_with fail
  refine ret_one rfl _ _ (ev_mid _ _ _ _ _ rfl) rfl rfl ?_
  exact ⟨by simp [only, Ev.val, evCells, Ev.zero], below3 _ _ _ _⟩

set_option maxHeartbeats 4000000 in
set_option maxRecDepth 100000 in
theorem only_tick (x : Ev) (bv cv : Value) (w : World) (hb : ∃ a n c, bv = .slice a n c) (hc : ∃ a n c, cv = .slice a n c) (hk : x.kind = 3) :
    Calls Tryz.prog 51 #[x.val bv cv] w (OnlyIs x bv cv w) := by
  obtain ⟨ba, bn, bc, rfl⟩ := hb
  obtain ⟨ca, cn, cc, rfl⟩ := hc
  obtain ⟨k, t, bs, n, st, nm, s, c, f, a, b, d, l⟩ := x
  simp only at hk
  subst hk
  unfold Ev.val evCells
  go_enter Tryz.func51, Tryz.ntmps51
  go_wp2_with fail
  refine ret_one rfl _ _ (ev_mid _ _ _ _ _ rfl) rfl rfl ?_
  exact ⟨by simp [only, Ev.val, evCells, Ev.zero], below3 _ _ _ _⟩

set_option maxHeartbeats 4000000 in
set_option maxRecDepth 100000 in
theorem only_crash (x : Ev) (bv cv : Value) (w : World) (hb : ∃ a n c, bv = .slice a n c) (hc : ∃ a n c, cv = .slice a n c) (hk : x.kind = 5) :
    Calls Tryz.prog 51 #[x.val bv cv] w (OnlyIs x bv cv w) := by
  obtain ⟨ba, bn, bc, rfl⟩ := hb
  obtain ⟨ca, cn, cc, rfl⟩ := hc
  obtain ⟨k, t, bs, n, st, nm, s, c, f, a, b, d, l⟩ := x
  simp only at hk
  subst hk
  unfold Ev.val evCells
  go_enter Tryz.func51, Tryz.ntmps51
  go_wp2_with fail
  refine ret_one rfl _ _ (ev_mid _ _ _ _ _ rfl) rfl rfl ?_
  exact ⟨by simp [only, Ev.val, evCells, Ev.zero], below3 _ _ _ _⟩

set_option maxHeartbeats 4000000 in
set_option maxRecDepth 100000 in
theorem only_station (x : Ev) (bv cv : Value) (w : World) (hb : ∃ a n c, bv = .slice a n c) (hc : ∃ a n c, cv = .slice a n c) (hk : x.kind = 4) :
    Calls Tryz.prog 51 #[x.val bv cv] w (OnlyIs x bv cv w) := by
  obtain ⟨ba, bn, bc, rfl⟩ := hb
  obtain ⟨ca, cn, cc, rfl⟩ := hc
  obtain ⟨k, t, bs, n, st, nm, s, c, f, a, b, d, l⟩ := x
  simp only at hk
  subst hk
  unfold Ev.val evCells
  go_enter Tryz.func51, Tryz.ntmps51
  go_wp2_with fail
  go_region
  all_goals
    go_wp2_with fail
    refine ret_one rfl _ _ ((ev_mid _ _ _ _ _ rfl).drew) rfl rfl ?_
    exact ⟨by simp [only, Ev.val, evCells], (below3 _ _ _ _).drew⟩

set_option maxHeartbeats 4000000 in
set_option maxRecDepth 100000 in
theorem only_other (x : Ev) (bv cv : Value) (w : World) (hb : ∃ a n c, bv = .slice a n c) (hc : ∃ a n c, cv = .slice a n c) (h1 : x.kind ≠ 1) (h2 : x.kind ≠ 2) (h3 : x.kind ≠ 3) (h4 : x.kind ≠ 4) (h5 : x.kind ≠ 5) :
    Calls Tryz.prog 51 #[x.val bv cv] w (OnlyIs x bv cv w) := by
  obtain ⟨ba, bn, bc, rfl⟩ := hb
  obtain ⟨ca, cn, cc, rfl⟩ := hc
  obtain ⟨k, t, bs, n, st, nm, s, c, f, a, b, d, l⟩ := x
  simp only at h1 h2 h3 h4 h5
  have e1 : (k == 1) = false := by simpa using h1
  have e2 : (k == 2) = false := by simpa using h2
  have e3 : (k == 3) = false := by simpa using h3
  have e4 : (k == 4) = false := by simpa using h4
  have e5 : (k == 5) = false := by simpa using h5
  have H := Lib.hid (And.intro h1 (And.intro h2 (And.intro h3 (And.intro h4 h5))))
  clear h1 h2 h3 h4 h5
  unfold Ev.val evCells
  go_enter Tryz.func51, Tryz.ntmps51
  go_wp2_with fail
  refine ret_one rfl _ _ (ev_mid _ _ _ _ _ rfl) rfl rfl ?_
  exact ⟨by obtain ⟨h1, h2, h3, h4, h5⟩ := H.out; simp [only, Ev.val, evCells, Ev.zero, h1, h2, h3, h4, h5], below3 _ _ _ _⟩

theorem only_any (x : Ev) (bv cv : Value) (w : World) (hb : ∃ a n c, bv = .slice a n c) (hc : ∃ a n c, cv = .slice a n c) :
    Calls Tryz.prog 51 #[x.val bv cv] w (OnlyIs x bv cv w) := by
  by_cases h1 : x.kind = 1
  · exact only_text x bv cv w hb hc h1
  by_cases h2 : x.kind = 2
  · exact only_binary x bv cv w hb hc h2
  by_cases h3 : x.kind = 3
  · exact only_tick x bv cv w hb hc h3
  by_cases h4 : x.kind = 4
  · exact only_station x bv cv w hb hc h4
  by_cases h5 : x.kind = 5
  · exact only_crash x bv cv w hb hc h5
  exact only_other x bv cv w hb hc h1 h2 h3 h4 h5
end Go.Proofs.YtobaoekibnloiaaGreatDoor
/- The bytes of a string, in a block of bytes. No walk. -/
namespace Go.Proofs.YtobaoekibnloiaaGreatDoor
open Go Go.RowKit

theorem conv_f (w : World) (s : ByteArray) (hs : s.size ≤ 1000) (base : Nat) (hb : base ≤ w.heap.size) : ∃ (w' : World) (cap : Nat), (convert 9 22 (.string s)).run Tryz.prog w = .ok (.slice (some ⟨w.heap.size, 0, none⟩) s.size cap) w' ∧
    Below w.heap.size w w' ∧ BytesF base w' (.slice (some ⟨w.heap.size, 0, none⟩) s.size cap) s.data.toList := by
  have hl : s.data.toList.length = s.size := Array.length_toList
  have hB : Below w.heap.size w (Lib.bytesWorld w 5 s) := below_bytes w _ s
  refine ⟨_, _, Lib.run_convert_string_bytes w 9 22 5 s Tryz.underlying9 Tryz.underlying22 Tryz.underlying5, hB, some ⟨w.heap.size, 0, none⟩, _, by rw [hl], by omega, fun j hj => ⟨w.heap.size, 0, rfl, hb, ?_, _, _, Lib.bytesWorld_at_new _ _ _⟩⟩
  rw [Nat.zero_add]
  exact Lib.bytesWorld_cell _ _ _ j (by omega)
end Go.Proofs.YtobaoekibnloiaaGreatDoor
