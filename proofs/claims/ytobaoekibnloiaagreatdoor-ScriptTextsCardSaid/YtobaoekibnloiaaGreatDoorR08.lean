/- Part 8 of the proof: laws on memory and what functions of the program return. No conditions but those that each theorem names. -/
import Derived.Test.YtobaoekibnloiaaGreatDoorR07
import Derived.StillTailTactics
set_option linter.unusedVariables false
set_option linter.unusedSimpArgs false
/- The reference's Write. Printed by gen_rwr.py. -/
namespace Go.Proofs.YtobaoekibnloiaaGreatDoor
open Go Go.RowKit

def wTe : ByteArray := ⟨#[116, 101, 120, 116, 32]⟩
def wBn : ByteArray := ⟨#[98, 105, 110, 97, 114, 121, 32]⟩
def wTk : ByteArray := ⟨#[116, 105, 99, 107, 32]⟩
def wCr : ByteArray := ⟨#[99, 114, 97, 115, 104, 32]⟩
theorem joinB_two (c : UInt8) (a b : ByteArray) : joinB c [a, b] = a ++ ⟨#[c]⟩ ++ b := by
  apply ByteArray.ext
  apply Array.toList_inj.1
  unfold joinB
  rw [mkB_data]
  simp [join_flat, ByteArray.data_append]
theorem line_text (t : ByteArray) : wTe ++ hexS t.data.toList = lineW ⟨1, t, [], 0, 0, ⟨#[]⟩, 0, false, 0, 0, 0, 0, []⟩ := by
  unfold lineW; simp only [evWords, if_true]; rw [joinB_two]; rfl
theorem line_binary (l : List UInt8) : wBn ++ hexS l = lineW ⟨2, ⟨#[]⟩, l, 0, 0, ⟨#[]⟩, 0, false, 0, 0, 0, 0, []⟩ := by
  unfold lineW; simp only [evWords, Int.reduceEq, if_true, if_false]; rw [joinB_two]; rfl
theorem line_tick (n : Int) : wTk ++ istr n = lineW ⟨3, ⟨#[]⟩, [], n, 0, ⟨#[]⟩, 0, false, 0, 0, 0, 0, []⟩ := by
  unfold lineW; simp only [evWords, Int.reduceEq, if_true, if_false]; rw [joinB_two]; rfl
theorem line_crash (n : Int) : wCr ++ istr n = lineW ⟨5, ⟨#[]⟩, [], n, 0, ⟨#[]⟩, 0, false, 0, 0, 0, 0, []⟩ := by
  unfold lineW; simp only [evWords, Int.reduceEq, if_true, if_false]; rw [joinB_two]; rfl
theorem line_again : (⟨#[114, 101, 112, 101, 97, 116]⟩ : ByteArray) = lineW ⟨6, ⟨#[]⟩, [], 0, 0, ⟨#[]⟩, 0, false, 0, 0, 0, 0, []⟩ := by
  unfold lineW; simp only [evWords, Int.reduceEq, if_true, if_false, or_self]; unfold joinB; rfl
theorem conv_in (w : World) (s : ByteArray) (hs : s.size ≤ 1000000) : ∃ (w' : World) (cap : Nat), (convert 9 22 (.string s)).run Tryz.prog w = .ok (.slice (some ⟨w.heap.size, 0, none⟩) s.size cap) w' ∧ Below w.heap.size w w' ∧ BytesIn w' (.slice (some ⟨w.heap.size, 0, none⟩) s.size cap) s.data.toList := by
  obtain ⟨w', cap, h1, h2, _, h3, _⟩ := conv_bytes w s
  have hl : s.data.toList.length = s.size := Array.length_toList
  refine ⟨w', cap, h1, h2, some ⟨w.heap.size, 0, none⟩, cap, by rw [hl], by omega, fun i hi => ⟨w.heap.size, 0, rfl, ?_⟩⟩
  rw [Nat.zero_add]; exact h3 i (by omega)
def WriteIs (x : Ev) (w : World) (e : Ending) (w' : World) : Prop := e = .returned (.tuple #[.string (if errOf x = 0 then lineW x else ⟨#[]⟩), .int .i64 (errOf x)]) ∧ Below w.heap.size w w'
/-- What Write returns of an event of one of the kinds. -/
def WLineIs (s : ByteArray) (w : World) (e : Ending) (w' : World) : Prop := e = .returned (.tuple #[.string s, .int .i64 0]) ∧ Below w.heap.size w w'

set_option maxHeartbeats 4000000 in
set_option maxRecDepth 100000 in
theorem rwrite_err (x : Ev) (bv cv : Value) (w : World) (er : Int) (he : er ≠ 0) (hp : EvParts 0 w x bv cv) (hr : ∀ w', EvParts 0 w' x bv cv → Calls Tryz.prog 38 #[x.val bv cv] w' (RefIs er w')) :
    Calls Tryz.prog 19 #[x.val bv cv] w fun e w' => e = .returned (.tuple #[.string ⟨#[]⟩, .int .i64 er]) ∧ Below w.heap.size w w' := by
  have EB := Lib.hid (EvAt.new w (evCells x bv cv) rfl 36)
  have HR := Lib.hid (hr _ (hp.below (one_below w (.cells (evCells x bv cv).toArray 36))))
  have hb : (er != 0) = true := by simpa using he
  clear he hp hr
  unfold Ev.val
  go_enter Tryz.func19, Tryz.ntmps19
  go_wp2_with (refine ev_load rfl _ rfl _ rfl _ EB.out ?_)
  refine HR.out.mono ?_
  rintro e w1 ⟨rfl, hb1⟩
  have HB := Lib.hid (below_then (one_below w _) hb1)
  clear hb1
  go_wp2_with fail
  all_goals (go_ret2; exact ⟨rfl, HB.out⟩)

set_option maxHeartbeats 4000000 in
set_option maxRecDepth 100000 in
theorem rwrite_text (t : ByteArray) (bv cv : Value) (w : World) (hp : EvParts 0 w ⟨1, t, [], 0, 0, ⟨#[]⟩, 0, false, 0, 0, 0, 0, []⟩ bv cv) :
    Calls Tryz.prog 19 #[Ev.val ⟨1, t, [], 0, 0, ⟨#[]⟩, 0, false, 0, 0, 0, 0, []⟩ bv cv] w (WLineIs (lineW ⟨1, t, [], 0, 0, ⟨#[]⟩, 0, false, 0, 0, 0, 0, []⟩) w) := by
  have hr := fun w' (hb : Below w.heap.size w w') => refuse_any ⟨1, t, [], 0, 0, ⟨#[]⟩, 0, false, 0, 0, 0, 0, []⟩ bv cv w' (hp.below hb) (by simp [longI])
  rw [ok_of_good (.text t)] at hr
  have HR := Lib.hid hr
  have EB := Lib.hid (EvAt.new w (evCells ⟨1, t, [], 0, 0, ⟨#[]⟩, 0, false, 0, 0, 0, 0, []⟩ bv cv) rfl 36)
  have HP := Lib.hid (fun w' (hb : Below w.heap.size w w') => hp.below hb)
  have hts : t.size ≤ 1000000 := hp.ok.text
  clear hr hp
  unfold Ev.val evCells
  unfold evCells at EB
  simp only at EB ⊢
  go_enter Tryz.func19, Tryz.ntmps19
  go_wp2_with (refine ev_load rfl _ rfl _ rfl _ EB.out ?_)
  refine (HR.out _ (one_below _ _)).mono ?_
  rintro e w1 ⟨rfl, hb1⟩
  have HB1 := Lib.hid (below_then (one_below w _) hb1)
  have EB1 := Lib.hid (EB.out.below hb1)
  obtain ⟨e0, e1, e2, e3, e4, e5, e6, e7, e8, e9, e10, e11, e12⟩ := EB1.out.facts
  clear e4 e5 e6 e7 e8 e9 e10 e11 e12 hb1
  obtain ⟨wc, cap, hcv, hbc, hin⟩ := conv_in w1 t hts
  have Hin := Lib.hid hin
  have HBc := Lib.hid (below_then HB1.out hbc)
  clear hin hbc
  go_wp2_with fail
  refine (rhex_any _ _ _ Hin.out).mono ?_
  rintro e w2 ⟨rfl, hb2⟩
  have HB2 := Lib.hid (below_then HBc.out hb2)
  have zx := hexS_size t.data.toList
  have hl : t.data.toList.length = t.size := Array.length_toList
  have hadd : ∀ wx, (Op.stringOp .add wTe (hexS t.data.toList)).run Tryz.prog wx = .ok (.string (wTe ++ hexS t.data.toList)) wx := fun wx => run_string_add_sum _ _ _ (by have : wTe.size = 5 := rfl; omega)
  have HLn := Lib.hid (line_text t)
  unfold wTe at hadd
  clear hb2 hcv zx hl
  generalize hexS t.data.toList = sx at *
  go_wp2_with fail
  go_ret2
  exact ⟨by rw [← HLn.out]; rfl, HB2.out⟩

set_option maxHeartbeats 4000000 in
set_option maxRecDepth 100000 in
theorem rwrite_binary (l : List UInt8) (bv cv : Value) (w : World) (hp : EvParts 0 w ⟨2, ⟨#[]⟩, l, 0, 0, ⟨#[]⟩, 0, false, 0, 0, 0, 0, []⟩ bv cv) :
    Calls Tryz.prog 19 #[Ev.val ⟨2, ⟨#[]⟩, l, 0, 0, ⟨#[]⟩, 0, false, 0, 0, 0, 0, []⟩ bv cv] w (WLineIs (lineW ⟨2, ⟨#[]⟩, l, 0, 0, ⟨#[]⟩, 0, false, 0, 0, 0, 0, []⟩) w) := by
  have hr := fun w' (hb : Below w.heap.size w w') => refuse_any ⟨2, ⟨#[]⟩, l, 0, 0, ⟨#[]⟩, 0, false, 0, 0, 0, 0, []⟩ bv cv w' (hp.below hb) (by simp [longI])
  rw [ok_of_good (.binary l)] at hr
  have HR := Lib.hid hr
  have EB := Lib.hid (EvAt.new w (evCells ⟨2, ⟨#[]⟩, l, 0, 0, ⟨#[]⟩, 0, false, 0, 0, 0, 0, []⟩ bv cv) rfl 36)
  have HP := Lib.hid (fun w' (hb : Below w.heap.size w w') => hp.below hb)
  have hbl : l.length ≤ 1000000 := by obtain ⟨_, _, _, h, _⟩ := hp.bytes; exact h
  clear hr hp
  unfold Ev.val evCells
  unfold evCells at EB
  simp only at EB ⊢
  go_enter Tryz.func19, Tryz.ntmps19
  go_wp2_with (refine ev_load rfl _ rfl _ rfl _ EB.out ?_)
  refine (HR.out _ (one_below _ _)).mono ?_
  rintro e w1 ⟨rfl, hb1⟩
  have HB1 := Lib.hid (below_then (one_below w _) hb1)
  have EB1 := Lib.hid (EB.out.below hb1)
  obtain ⟨e0, e1, e2, e3, e4, e5, e6, e7, e8, e9, e10, e11, e12⟩ := EB1.out.facts
  clear e4 e5 e6 e7 e8 e9 e10 e11 e12 hb1
  have Hin := Lib.hid ((HP.out _ HB1.out).bytes.bytesIn)
  go_wp2_with fail
  refine (rhex_any _ _ _ Hin.out).mono ?_
  rintro e w2 ⟨rfl, hb2⟩
  have HB2 := Lib.hid (below_then HB1.out hb2)
  have zx := hexS_size l
  have hadd : ∀ wx, (Op.stringOp .add wBn (hexS l)).run Tryz.prog wx = .ok (.string (wBn ++ hexS l)) wx := fun wx => run_string_add_sum _ _ _ (by have : wBn.size = 7 := rfl; omega)
  have HLn := Lib.hid (line_binary l)
  unfold wBn at hadd
  clear hb2 zx
  generalize hexS l = sx at *
  go_wp2_with fail
  go_ret2
  exact ⟨by rw [← HLn.out]; rfl, HB2.out⟩

set_option maxHeartbeats 4000000 in
set_option maxRecDepth 100000 in
theorem rwrite_tick (n : Int) (hn : ¬ longI n) (bv cv : Value) (w : World) (hp : EvParts 0 w ⟨3, ⟨#[]⟩, [], n, 0, ⟨#[]⟩, 0, false, 0, 0, 0, 0, []⟩ bv cv) :
    Calls Tryz.prog 19 #[Ev.val ⟨3, ⟨#[]⟩, [], n, 0, ⟨#[]⟩, 0, false, 0, 0, 0, 0, []⟩ bv cv] w (WLineIs (lineW ⟨3, ⟨#[]⟩, [], n, 0, ⟨#[]⟩, 0, false, 0, 0, 0, 0, []⟩) w) := by
  have hr := fun w' (hb : Below w.heap.size w w') => refuse_any ⟨3, ⟨#[]⟩, [], n, 0, ⟨#[]⟩, 0, false, 0, 0, 0, 0, []⟩ bv cv w' (hp.below hb) (by simp [longI])
  rw [ok_of_good (.tick n hn)] at hr
  have HR := Lib.hid hr
  have EB := Lib.hid (EvAt.new w (evCells ⟨3, ⟨#[]⟩, [], n, 0, ⟨#[]⟩, 0, false, 0, 0, 0, 0, []⟩ bv cv) rfl 36)
  have HP := Lib.hid (fun w' (hb : Below w.heap.size w w') => hp.below hb)
  have zn := istr_size hn
  have hi := not_long hn
  clear hr hp
  unfold Ev.val evCells
  unfold evCells at EB
  simp only at EB ⊢
  go_enter Tryz.func19, Tryz.ntmps19
  go_wp2_with (refine ev_load rfl _ rfl _ rfl _ EB.out ?_)
  refine (HR.out _ (one_below _ _)).mono ?_
  rintro e w1 ⟨rfl, hb1⟩
  have HB1 := Lib.hid (below_then (one_below w _) hb1)
  have EB1 := Lib.hid (EB.out.below hb1)
  obtain ⟨e0, e1, e2, e3, e4, e5, e6, e7, e8, e9, e10, e11, e12⟩ := EB1.out.facts
  clear e4 e5 e6 e7 e8 e9 e10 e11 e12 hb1
  go_wp2_with fail
  refine (rdecimal_any n hi _).mono ?_
  rintro e w2 ⟨rfl, hb2⟩
  have HB2 := Lib.hid (below_then HB1.out hb2)
  have hadd : ∀ wx, (Op.stringOp .add wTk (istr n)).run Tryz.prog wx = .ok (.string (wTk ++ istr n)) wx := fun wx => run_string_add_sum _ _ _ (by have : wTk.size = 5 := rfl; omega)
  have HLn := Lib.hid (line_tick n)
  unfold wTk at hadd
  clear hb2 zn
  generalize istr n = sx at *
  go_wp2_with fail
  go_ret2
  exact ⟨by rw [← HLn.out]; rfl, HB2.out⟩

set_option maxHeartbeats 4000000 in
set_option maxRecDepth 100000 in
theorem rwrite_crash (n : Int) (hn : ¬ longI n) (bv cv : Value) (w : World) (hp : EvParts 0 w ⟨5, ⟨#[]⟩, [], n, 0, ⟨#[]⟩, 0, false, 0, 0, 0, 0, []⟩ bv cv) :
    Calls Tryz.prog 19 #[Ev.val ⟨5, ⟨#[]⟩, [], n, 0, ⟨#[]⟩, 0, false, 0, 0, 0, 0, []⟩ bv cv] w (WLineIs (lineW ⟨5, ⟨#[]⟩, [], n, 0, ⟨#[]⟩, 0, false, 0, 0, 0, 0, []⟩) w) := by
  have hr := fun w' (hb : Below w.heap.size w w') => refuse_any ⟨5, ⟨#[]⟩, [], n, 0, ⟨#[]⟩, 0, false, 0, 0, 0, 0, []⟩ bv cv w' (hp.below hb) (by simp [longI])
  rw [ok_of_good (.crash n hn)] at hr
  have HR := Lib.hid hr
  have EB := Lib.hid (EvAt.new w (evCells ⟨5, ⟨#[]⟩, [], n, 0, ⟨#[]⟩, 0, false, 0, 0, 0, 0, []⟩ bv cv) rfl 36)
  have HP := Lib.hid (fun w' (hb : Below w.heap.size w w') => hp.below hb)
  have zn := istr_size hn
  have hi := not_long hn
  clear hr hp
  unfold Ev.val evCells
  unfold evCells at EB
  simp only at EB ⊢
  go_enter Tryz.func19, Tryz.ntmps19
  go_wp2_with (refine ev_load rfl _ rfl _ rfl _ EB.out ?_)
  refine (HR.out _ (one_below _ _)).mono ?_
  rintro e w1 ⟨rfl, hb1⟩
  have HB1 := Lib.hid (below_then (one_below w _) hb1)
  have EB1 := Lib.hid (EB.out.below hb1)
  obtain ⟨e0, e1, e2, e3, e4, e5, e6, e7, e8, e9, e10, e11, e12⟩ := EB1.out.facts
  clear e4 e5 e6 e7 e8 e9 e10 e11 e12 hb1
  go_wp2_with fail
  refine (rdecimal_any n hi _).mono ?_
  rintro e w2 ⟨rfl, hb2⟩
  have HB2 := Lib.hid (below_then HB1.out hb2)
  have hadd : ∀ wx, (Op.stringOp .add wCr (istr n)).run Tryz.prog wx = .ok (.string (wCr ++ istr n)) wx := fun wx => run_string_add_sum _ _ _ (by have : wCr.size = 6 := rfl; omega)
  have HLn := Lib.hid (line_crash n)
  unfold wCr at hadd
  clear hb2 zn
  generalize istr n = sx at *
  go_wp2_with fail
  go_ret2
  exact ⟨by rw [← HLn.out]; rfl, HB2.out⟩

set_option maxHeartbeats 4000000 in
set_option maxRecDepth 100000 in
theorem rwrite_again  (bv cv : Value) (w : World) (hp : EvParts 0 w ⟨6, ⟨#[]⟩, [], 0, 0, ⟨#[]⟩, 0, false, 0, 0, 0, 0, []⟩ bv cv) :
    Calls Tryz.prog 19 #[Ev.val ⟨6, ⟨#[]⟩, [], 0, 0, ⟨#[]⟩, 0, false, 0, 0, 0, 0, []⟩ bv cv] w (WLineIs (lineW ⟨6, ⟨#[]⟩, [], 0, 0, ⟨#[]⟩, 0, false, 0, 0, 0, 0, []⟩) w) := by
  have hr := fun w' (hb : Below w.heap.size w w') => refuse_any ⟨6, ⟨#[]⟩, [], 0, 0, ⟨#[]⟩, 0, false, 0, 0, 0, 0, []⟩ bv cv w' (hp.below hb) (by simp [longI])
  rw [ok_of_good (.again)] at hr
  have HR := Lib.hid hr
  have EB := Lib.hid (EvAt.new w (evCells ⟨6, ⟨#[]⟩, [], 0, 0, ⟨#[]⟩, 0, false, 0, 0, 0, 0, []⟩ bv cv) rfl 36)
  have HP := Lib.hid (fun w' (hb : Below w.heap.size w w') => hp.below hb)
  clear hr hp
  unfold Ev.val evCells
  unfold evCells at EB
  simp only at EB ⊢
  go_enter Tryz.func19, Tryz.ntmps19
  go_wp2_with (refine ev_load rfl _ rfl _ rfl _ EB.out ?_)
  refine (HR.out _ (one_below _ _)).mono ?_
  rintro e w1 ⟨rfl, hb1⟩
  have HB1 := Lib.hid (below_then (one_below w _) hb1)
  have EB1 := Lib.hid (EB.out.below hb1)
  obtain ⟨e0, e1, e2, e3, e4, e5, e6, e7, e8, e9, e10, e11, e12⟩ := EB1.out.facts
  clear e4 e5 e6 e7 e8 e9 e10 e11 e12 hb1
  have HLn := Lib.hid line_again
  go_wp2_with fail
  go_ret2
  exact ⟨by rw [← HLn.out]; rfl, HB1.out⟩

set_option maxHeartbeats 4000000 in
set_option maxRecDepth 100000 in
theorem rwrite_shut (k : Nat) (nm : ByteArray) (s : Int) (l : List (Int × Int)) (hk : k < 3) (hn : nameOk nm = true) (hs : ¬ longI s) (hl : ∀ p ∈ l, ¬ longI p.1 ∧ ¬ longI p.2) (bv cv : Value) (w : World) (hp : EvParts 0 w ⟨4, ⟨#[]⟩, [], 0, k + 1, nm, s, true, 0, 0, 0, 0, l⟩ bv cv) :
    Calls Tryz.prog 19 #[Ev.val ⟨4, ⟨#[]⟩, [], 0, k + 1, nm, s, true, 0, 0, 0, 0, l⟩ bv cv] w (WLineIs (lineW ⟨4, ⟨#[]⟩, [], 0, k + 1, nm, s, true, 0, 0, 0, 0, l⟩) w) := by
  have hr := fun w' (hb : Below w.heap.size w w') => refuse_any ⟨4, ⟨#[]⟩, [], 0, k + 1, nm, s, true, 0, 0, 0, 0, l⟩ bv cv w' (hp.below hb) (by simp [longI])
  rw [ok_of_good (.shut (k + 1) nm s l (by omega) (by omega) hn hs hl)] at hr
  have HR := Lib.hid hr
  have EB := Lib.hid (EvAt.new w (evCells ⟨4, ⟨#[]⟩, [], 0, k + 1, nm, s, true, 0, 0, 0, 0, l⟩ bv cv) rfl 36)
  have HP := Lib.hid (fun w' (hb : Below w.heap.size w w') => hp.below hb)
  obtain ⟨ba, bc, rfl, hz1⟩ := hp.bytes
  obtain ⟨ca, cc, rfl, hz2⟩ := hp.bias
  clear hz1 hz2
  have HW := Lib.hid (fun w' (hx : Below w.heap.size w w') => rwst_shut ⟨#[]⟩ 0 0 k nm s 0 0 0 0 l ba ca bc cc w' (hp.bias.below hx) hk hp.ok.name hs hl)
  clear hk hn hs hl
  clear hr hp
  unfold Ev.val evCells
  unfold evCells at EB
  simp only at EB ⊢
  go_enter Tryz.func19, Tryz.ntmps19
  go_wp2_with (refine ev_load rfl _ rfl _ rfl _ EB.out ?_)
  refine (HR.out _ (one_below _ _)).mono ?_
  rintro e w1 ⟨rfl, hb1⟩
  have HB1 := Lib.hid (below_then (one_below w _) hb1)
  have EB1 := Lib.hid (EB.out.below hb1)
  obtain ⟨e0, e1, e2, e3, e4, e5, e6, e7, e8, e9, e10, e11, e12⟩ := EB1.out.facts
  clear e4 e5 e6 e7 e8 e9 e10 e11 e12 hb1
  go_wp2_with (refine ev_load rfl _ rfl _ rfl _ EB1.out ?_)
  refine (HW.out _ HB1.out).mono ?_
  rintro e w2 ⟨rfl, hb2⟩
  have HB2 := Lib.hid (below_then HB1.out hb2)
  clear hb2
  rw [line_shut ⟨#[]⟩ [] 0]
  obtain ⟨sx, hsx⟩ : ∃ sx, sx = lineW ⟨4, ⟨#[]⟩, [], 0, k + 1, nm, s, true, 0, 0, 0, 0, l⟩ := ⟨_, rfl⟩
  rw [← hsx]
  have Hsx := Lib.hid hsx
  clear hsx
  go_wp2_with fail
  go_ret2
  exact ⟨by rw [← Hsx.out]; rfl, HB2.out⟩

set_option maxHeartbeats 4000000 in
set_option maxRecDepth 100000 in
theorem rwrite_open (k : Nat) (nm : ByteArray) (s f a b d : Int) (l : List (Int × Int)) (hk : k < 3) (hn : nameOk nm = true) (hs : ¬ longI s) (hf : ¬ longI f) (ha : ¬ longI a) (hb : ¬ longI b) (hd : ¬ longI d) (hl : ∀ p ∈ l, ¬ longI p.1 ∧ ¬ longI p.2) (bv cv : Value) (w : World) (hp : EvParts 0 w ⟨4, ⟨#[]⟩, [], 0, k + 1, nm, s, false, f, a, b, d, l⟩ bv cv) :
    Calls Tryz.prog 19 #[Ev.val ⟨4, ⟨#[]⟩, [], 0, k + 1, nm, s, false, f, a, b, d, l⟩ bv cv] w (WLineIs (lineW ⟨4, ⟨#[]⟩, [], 0, k + 1, nm, s, false, f, a, b, d, l⟩) w) := by
  have hr := fun w' (hb : Below w.heap.size w w') => refuse_any ⟨4, ⟨#[]⟩, [], 0, k + 1, nm, s, false, f, a, b, d, l⟩ bv cv w' (hp.below hb) (by simp [longI])
  rw [ok_of_good (.put (k + 1) nm s f a b d l (by omega) (by omega) hn hs hf ha hb hd hl)] at hr
  have HR := Lib.hid hr
  have EB := Lib.hid (EvAt.new w (evCells ⟨4, ⟨#[]⟩, [], 0, k + 1, nm, s, false, f, a, b, d, l⟩ bv cv) rfl 36)
  have HP := Lib.hid (fun w' (hb : Below w.heap.size w w') => hp.below hb)
  obtain ⟨ba, bc, rfl, hz1⟩ := hp.bytes
  obtain ⟨ca, cc, rfl, hz2⟩ := hp.bias
  clear hz1 hz2
  have HW := Lib.hid (fun w' (hx : Below w.heap.size w w') => rwst_open ⟨#[]⟩ 0 0 k nm s f a b d l ba ca bc cc w' (hp.bias.below hx) hk hp.ok.name hs hf ha hb hd hl)
  clear hk hn hs hf ha hb hd hl
  clear hr hp
  unfold Ev.val evCells
  unfold evCells at EB
  simp only at EB ⊢
  go_enter Tryz.func19, Tryz.ntmps19
  go_wp2_with (refine ev_load rfl _ rfl _ rfl _ EB.out ?_)
  refine (HR.out _ (one_below _ _)).mono ?_
  rintro e w1 ⟨rfl, hb1⟩
  have HB1 := Lib.hid (below_then (one_below w _) hb1)
  have EB1 := Lib.hid (EB.out.below hb1)
  obtain ⟨e0, e1, e2, e3, e4, e5, e6, e7, e8, e9, e10, e11, e12⟩ := EB1.out.facts
  clear e4 e5 e6 e7 e8 e9 e10 e11 e12 hb1
  go_wp2_with (refine ev_load rfl _ rfl _ rfl _ EB1.out ?_)
  refine (HW.out _ HB1.out).mono ?_
  rintro e w2 ⟨rfl, hb2⟩
  have HB2 := Lib.hid (below_then HB1.out hb2)
  clear hb2
  rw [line_at ⟨#[]⟩ [] 0]
  obtain ⟨sx, hsx⟩ : ∃ sx, sx = lineW ⟨4, ⟨#[]⟩, [], 0, k + 1, nm, s, false, f, a, b, d, l⟩ := ⟨_, rfl⟩
  rw [← hsx]
  have Hsx := Lib.hid hsx
  clear hsx
  go_wp2_with fail
  go_ret2
  exact ⟨by rw [← Hsx.out]; rfl, HB2.out⟩

theorem rwrite_any (x : Ev) (bv cv : Value) (w : World) (hp : EvParts 0 w x bv cv) (hpl : x.closed = true → ¬ longI x.face ∧ ¬ longI x.pa ∧ ¬ longI x.pb ∧ ¬ longI x.pc) :
    Calls Tryz.prog 19 #[x.val bv cv] w (WriteIs x w) := by
  by_cases he : errOf x = 0
  · unfold WriteIs
    rw [he, if_pos rfl]
    have hg := good_of_ok he
    cases hg with
    | text t => exact rwrite_text t bv cv w hp
    | binary l => exact rwrite_binary l bv cv w hp
    | tick n h => exact rwrite_tick n h bv cv w hp
    | crash n h => exact rwrite_crash n h bv cv w hp
    | again => exact rwrite_again bv cv w hp
    | shut k nm f l h1 h2 hn hf hl =>
      obtain ⟨j, rfl⟩ : ∃ j : Nat, k = j + 1 := ⟨(k - 1).toNat, by omega⟩
      exact rwrite_shut j nm f l (by omega) hn hf hl bv cv w hp
    | put k nm f p q r s l h1 h2 hn hf hp1 hq hr hs hl =>
      obtain ⟨j, rfl⟩ : ∃ j : Nat, k = j + 1 := ⟨(k - 1).toNat, by omega⟩
      exact rwrite_open j nm f p q r s l (by omega) hn hf hp1 hq hr hs hl bv cv w hp
  · unfold WriteIs
    rw [if_neg he]
    exact rwrite_err x bv cv w (errOf x) he hp (fun w' h => refuse_any x bv cv w' h hpl)
end Go.Proofs.YtobaoekibnloiaaGreatDoor
/- Lists of events in memory; the reference's SameAll of equal lists. -/
namespace Go.Proofs.YtobaoekibnloiaaGreatDoor
open Go Go.RowKit

/-- v is a slice that holds the events; their bytes and biases lie in blocks from B on. -/
def EvsIn (B : Nat) (w : World) (v : Value) (l : List Ev) : Prop :=
  ∃ (a : Option Addr) (cap : Nat), v = .slice a l.length cap ∧ l.length ≤ 1000000 ∧ ∀ i, (hi : i < l.length) → ∃ (ab ao : Nat) (bv cv : Value), a = some ⟨ab, ao, none⟩ ∧ w.rangeAt ab (ao + i * 13) (evCells l[i] bv cv) ∧ EvParts B w l[i] bv cv
theorem range_below {w w' : World} {b o : Nat} {cs : List Value} (h : w.rangeAt b o cs) (hb : Below w.heap.size w w') : w'.rangeAt b o cs := fun j v hj => cell_then hb (h j v hj)
theorem EvsIn.below {B : Nat} {w w' : World} {v : Value} {l : List Ev} (h : EvsIn B w v l) (hb : Below w.heap.size w w') : EvsIn B w' v l := by
  obtain ⟨a, cap, h1, h2, h3⟩ := h
  refine ⟨a, cap, h1, h2, fun i hi => ?_⟩
  obtain ⟨ab, ao, bv, cv, e, hr, hp⟩ := h3 i hi
  exact ⟨ab, ao, bv, cv, e, range_below hr hb, hp.below hb⟩
theorem EvsIn.nil (B : Nat) (w : World) : EvsIn B w (.slice none 0 0) [] := ⟨none, 0, rfl, by simp, fun i hi => by simp at hi⟩
theorem EvsIn.at {B : Nat} {w : World} {a : Option Addr} {n c : Nat} {l : List Ev} (h : EvsIn B w (.slice a n c) l) {i : Nat} (hi : i < l.length) : ∃ (ab ao : Nat) (bv cv : Value), a = some ⟨ab, ao, none⟩ ∧ w.rangeAt ab (ao + i * 13) (evCells l[i] bv cv) ∧ EvParts B w l[i] bv cv := by
  obtain ⟨a', cap, h1, h2, h3⟩ := h
  obtain ⟨rfl, _⟩ : a = a' ∧ _ := by simpa using h1
  exact h3 i hi
/-- An event is read whole. -/
theorem ev_loadAt {w : World} {b o : Nat} {x : Ev} {bv cv : Value} (h : w.rangeAt b o (evCells x bv cv)) : (Instr.loadAt 36 (.pointer (some ⟨b, o, none⟩))).run Tryz.prog w = .ok (x.val bv cv) w := by
  obtain ⟨d, h1, h2⟩ := eund
  exact run_loadAt_mid w b o _ _ d h h1 h2 einfo

/-- The same, as a step of a region that only reads. -/
theorem still_ev_load {ops : Array Oper} {rest : List Oper} {o : Oper} {a : Act} {w : World} {Q : Act → Prop} (hgd : o.guard = none) (x : Operand) (ho : o.op = .load 36 x)
    (b i : Nat) (hx : a.eval x = .pointer (some ⟨b, i, none⟩)) (y : Ev) (bv cv : Value) (hr : w.rangeAt b i (evCells y bv cv)) (k : wpStill Tryz.prog ops w Q rest (a.put o.dst (y.val bv cv))) : wpStill Tryz.prog ops w Q (o :: rest) a := by
  have hw : Region.wanted o (yielded ops a.tmps) = true := by simp [Region.wanted, hgd]
  have hl := ev_loadAt hr
  unfold wpStill
  rw [if_pos hw]
  unfold Oper.still execOp
  simp only [ho, hx, Sem.run_bind, hl, Result.andThen_ok, Sem.run_pure, Oper.stillUpon_value]
  exact k

set_option maxHeartbeats 2000000 in
set_option maxRecDepth 100000 in
theorem rsameall_any (va vb : Value) (l : List Ev) (w : World) (ha : EvsIn 0 w va l) (hb : EvsIn 0 w vb l) :
    Calls Tryz.prog 12 #[va, vb] w fun e w' => e = .returned (.bool true) ∧ Below w.heap.size w w' := by
  have Ha := Lib.hid ha
  have Hb := Lib.hid hb
  obtain ⟨a, ac, rfl, hl, _⟩ := ha
  obtain ⟨b, bc, rfl, _, _⟩ := hb
  obtain ⟨n, hn⟩ : ∃ n, n = l.length := ⟨_, rfl⟩
  rw [← hn] at hl Ha Hb ⊢
  have Hn := Lib.hid hn
  clear hn
  go_enter Tryz.func12, Tryz.ntmps12
  go_wp2_with fail
  go_loopw [5] (fun x wr => ∃ j : Nat, j ≤ n ∧ x = .int .i64 j ∧ Below w.heap.size w wr) (fun x _ => (n - intOf x).toNat)
  case atStart => exact ⟨0, by omega, rfl, Below.refl _ _⟩
  case round =>
    obtain ⟨j, hj, rfl, hBr⟩ := hrel
    by_cases hlt : j < n
    · have hj' : j < l.length := by have := Hn.out; omega
      obtain ⟨ab, ao, bv, cv, rfl, hr1, hp1⟩ := Ha.out.at hj'
      obtain ⟨db, eo, dv, ev, rfl, hr2, hp2⟩ := Hb.out.at hj'
      have Hr1 := Lib.hid (range_below (range_below hr1 hBr) (Below.refl _ _).drew)
      have Hr2 := Lib.hid (range_below (range_below hr2 hBr) (Below.refl _ _).drew)
      have HS := Lib.hid (rsame_any l[j] bv cv dv ev wr.drew ((hp1.below hBr).below (Below.refl _ _).drew) ((hp2.below hBr).below (Below.refl _ _).drew))
      have i0 : (0 : Int) ≤ (j : Int) := by omega
      have i1 : (j : Int) < (n : Int) := by omega
      clear hr1 hp1 hr2 hp2
      generalize l[j] = x at *
      go_wp2_with fail
      go_still_tail 8, (by kernel_rfl)
      refine still_ev_load rfl _ rfl _ _ rfl _ _ _ Hr1.out ?_
      repeat still_step
      refine still_ev_load rfl _ rfl _ _ rfl _ _ _ Hr2.out ?_
      refine wpStill_nil ?_
      change wpList _ _ _ _ _ wr.drew
      go_wp2_with fail
      refine HS.out.mono ?_
      rintro e w1 ⟨rfl, hb1⟩
      have hb2 : Below w.heap.size w w1 := below_then hBr (below_then (Below.refl _ _).drew hb1)
      go_wp2_with fail
      go_roundw
      case rel => exact ⟨j + 1, by omega, by go_num, hb2⟩
      case measure => simp [intOf]; omega
    · obtain rfl : j = n := by omega
      go_wp2_with fail
      go_ret
      exact ⟨rfl, hBr⟩
end Go.Proofs.YtobaoekibnloiaaGreatDoor
/- Scripts written out: an event read out of a slice; the first error; how long a script is. -/
namespace Go.Proofs.YtobaoekibnloiaaGreatDoor
open Go Go.RowKit

theorem ev_load_at {ops : Array Oper} {rest : List Oper} {op : Oper} {a : Act} {w : World} {Q : Exit → Act → World → Prop} (hgd : op.guard = none) (x : Operand) (ho : op.op = .load 36 x)
    (b o : Nat) (hx : a.eval x = .pointer (some ⟨b, o, none⟩)) (y : Ev) (bv cv : Value) (h : w.rangeAt b o (evCells y bv cv))
    (k : wpList Tryz.prog ops Q rest (a.put op.dst (y.val bv cv)) w) : wpList Tryz.prog ops Q (op :: rest) a w := by
  obtain ⟨d, h1, h2⟩ := eund
  exact wpList_load_mid hgd _ x ho b o hx _ d h h1 h2 einfo k
theorem firstErr_at : ∀ (l : List Ev) (j : Nat), (∀ x ∈ l.take j, errOf x = 0) → (hj : j < l.length) → errOf l[j] ≠ 0 → firstErr l = errOf l[j]
  | x :: r, 0, _, _, he => by
    have he' : errOf x ≠ 0 := he
    unfold firstErr; rw [if_neg he']; rfl
  | x :: r, j + 1, h, hj, he => by
    unfold firstErr
    have hx0 := h x (by simp)
    simp only [hx0, if_true]
    exact firstErr_at r j (fun y hy => h y (by simp [hy])) (by simpa using hj) he
theorem fmt_snoc (l : List Ev) (x : Ev) : fmtL (l ++ [x]) = fmtL l ++ ((lineW x).data.toList ++ [10]) := by simp [fmtL]
theorem bytes_app (x : List UInt8) (s : ByteArray) : Lib.byteCells x ++ Lib.strCells s = Lib.byteCells (x ++ s.data.toList) := by simp [Lib.strCells, Lib.byteCells]
theorem byte_line (s : ByteArray) : (s ++ ⟨#[10]⟩).data.toList = s.data.toList ++ [10] := by simp [ByteArray.data_append]
theorem fmt_size : ∀ (l : List Ev), (∀ x ∈ l, errOf x = 0 ∧ x.Within 100 10) → (fmtL l).length ≤ l.length * 10000
  | [], _ => by simp [fmtL]
  | x :: r, h => by
    have ih := fmt_size r (fun y hy => h y (List.mem_cons_of_mem _ hy))
    obtain ⟨h1, h2⟩ := h x (by simp)
    have hz := (line_size (good_of_ok h1) 100 10 h2 (by omega)).2.2
    have hl : (lineW x).data.toList.length = (lineW x).size := Array.length_toList
    have e : fmtL (x :: r) = ((lineW x).data.toList ++ [10]) ++ fmtL r := by simp [fmtL]
    rw [e]
    simp only [List.length_append, List.length_cons, List.length_nil]
    omega
end Go.Proofs.YtobaoekibnloiaaGreatDoor
/- The law's line. -/
namespace Go.Proofs.YtobaoekibnloiaaGreatDoor
open Go Go.RowKit

theorem app_le {a b : ByteArray} {m n k : Nat} (ha : a.size ≤ m) (hb : b.size ≤ n) (h : m + n ≤ k) : (a ++ b).size ≤ k := by rw [ByteArray.size_append]; omega
theorem Ev.Within.big {x : Ev} (h : x.Within 12 2) : x.Within 100 10 := ⟨Nat.le_trans h.1 (by omega), Nat.le_trans h.2.1 (by omega), Nat.le_trans h.2.2.1 (by omega), Nat.le_trans h.2.2.2 (by omega)⟩
theorem lw_size {x : Ev} (hW : x.Within 12 2) : (if errOf x = 0 then lineW x else (⟨#[]⟩ : ByteArray)).size ≤ 500 := by
  split
  · next h0 => have := (line_size (good_of_ok h0) 12 2 hW (by omega)).2.2; omega
  · exact Nat.zero_le _
def FStr (c : Nat) (v : Value) : Prop := ∃ s : ByteArray, s.size ≤ c ∧ v = .string s
def FSl (b n c : Nat) (v : Value) (w : World) : Prop := ∃ g : Nat, g ≠ b ∧ v = .slice (some ⟨g, 0, none⟩) n n ∧ ∀ m : Nat, m < n → ∃ s : ByteArray, s.size ≤ c ∧ w.cell? ⟨g, m, none⟩ = some (.string s)
def FAd (b c : Nat) (v : Value) (w : World) : Prop := ∃ g m : Nat, g ≠ b ∧ v = .pointer (some ⟨g, m, none⟩) ∧ ∃ s : ByteArray, s.size ≤ c ∧ w.cell? ⟨g, m, none⟩ = some (.string s)
theorem FSl.kept {b n c : Nat} {v : Value} {w w' : World} (h : FSl b n c v w) (hk : Kept2 b b w w') : FSl b n c v w' := by
  obtain ⟨g, h1, h2, h3⟩ := h
  refine ⟨g, h1, h2, fun m hm => ?_⟩
  obtain ⟨s, hs, hc⟩ := h3 m hm
  exact ⟨s, hs, hk.cell h1 h1 hc⟩
theorem FAd.kept {b c : Nat} {v : Value} {w w' : World} (h : FAd b c v w) (hk : Kept2 b b w w') : FAd b c v w' := by
  obtain ⟨g, m, h1, h2, s, hs, hc⟩ := h
  exact ⟨g, m, h1, h2, s, hs, hk.cell h1 h1 hc⟩
def F5 (b : Nat) (k : Nat) (v : Value) (w : World) : Prop := match k with
  | 0 => FSl b 6 6 v w
  | 1 => v = .pointer (some ⟨b, 0, none⟩)
  | 2 => ∃ m : Nat, m < 6 ∧ v = .int .i64 m
  | 3 => FAd b 6 v w
  | 4 => FStr 6 v
  | 5 => FSl b 3 2 v w
  | 6 => v = .pointer (some ⟨b, 0, none⟩)
  | 7 => ∃ m : Nat, m < 3 ∧ v = .int .i64 m
  | 8 => FAd b 2 v w
  | 9 => FStr 2 v
  | 10 => FStr 8 v
  | 11 => FSl b 11 19 v w
  | 12 => v = .pointer (some ⟨b, 0, none⟩)
  | 13 => ∃ m : Nat, m < 11 ∧ v = .int .i64 m
  | 14 => FAd b 19 v w
  | 15 => FStr 19 v
  | 16 => FStr 27 v
  | 17 => FStr 27 v
  | _ => True
theorem F5_kept {b : Nat} (k : Nat) (v : Value) (w w' : World) (h : F5 b k v w) (hk : Kept2 b b w w') : F5 b k v w' := by
  unfold F5 at h ⊢
  split at h <;> first | exact h | exact h.kept hk
def F8 (b : Nat) (k : Nat) (v : Value) (w : World) : Prop := match k with
  | 0 => FSl b 4 5 v w
  | 1 => v = .pointer (some ⟨b, 0, none⟩)
  | 2 => ∃ m : Nat, m < 4 ∧ v = .int .i64 m
  | 3 => FAd b 5 v w
  | 4 => FStr 5 v
  | 5 => FStr 13 v
  | 6 => FStr 14 v
  | 7 => FSl b 3 5 v w
  | 8 => v = .pointer (some ⟨b, 0, none⟩)
  | 9 => ∃ m : Nat, m < 3 ∧ v = .int .i64 m
  | 10 => FAd b 5 v w
  | 11 => FStr 5 v
  | 12 => FStr 19 v
  | 13 => FStr 20 v
  | 14 => FSl b 4 2 v w
  | 15 => v = .pointer (some ⟨b, 0, none⟩)
  | 16 => ∃ m : Nat, m < 4 ∧ v = .int .i64 m
  | 17 => FAd b 2 v w
  | 18 => FStr 2 v
  | 19 => FStr 22 v
  | 20 => FSl b 5 13 v w
  | 21 => v = .pointer (some ⟨b, 0, none⟩)
  | 22 => ∃ m : Nat, m < 5 ∧ v = .int .i64 m
  | 23 => FAd b 13 v w
  | 24 => FStr 13 v
  | 25 => FStr 35 v
  | 26 => FSl b 5 18 v w
  | 27 => v = .pointer (some ⟨b, 0, none⟩)
  | 28 => ∃ m : Nat, m < 5 ∧ v = .int .i64 m
  | 29 => FAd b 18 v w
  | 30 => FStr 18 v
  | 31 => FStr 53 v
  | 32 => FStr 53 v
  | _ => True
theorem F8_kept {b : Nat} (k : Nat) (v : Value) (w w' : World) (h : F8 b k v w) (hk : Kept2 b b w w') : F8 b k v w' := by
  unfold F8 at h ⊢
  split at h <;> first | exact h | exact h.kept hk
/-- What the law's line returns. -/
def LLineIs (B b : Nat) (w : World) (e : Ending) (w' : World) : Prop := ∃ s : ByteArray, e = .returned (.string s) ∧ s.size ≤ 500 ∧ St w B b w'
set_option maxHeartbeats 8000000 in
set_option maxRecDepth 100000 in
theorem lline_any (B b : Nat) (w : World) (h : CodesIs w B b) :
    Calls Tryz.prog 8 #[.pointer (some ⟨b, 0, none⟩)] w (LLineIs B b w) := by
  have hlt := h.lt
  have HS0 := Lib.hid (St.start h)
  clear h
  go_enter Tryz.func8, Tryz.ntmps8
  go_wp2_with fail
  refine (next_ok B b 5 _ HS0.out.1 (by omega) (by omega)).mono ?_
  rintro e w1 ⟨z, hz0, hz1, rfl, hst⟩
  have HS1 := Lib.hid (HS0.out.then hst)
  clear hst
  have hzz : z = 0 ∨ z = 1 ∨ z = 2 ∨ 2 < z := by omega
  rcases hzz with rfl | rfl | rfl | hz2
  · go_upto_region 5 with fail
    refine wp_region_slots (by kernel_rfl) 67 rfl (by kernel_rfl) (by kernel_rfl) 3 28 (by kernel_rfl) (fun _ w' => St w B b w') (F5 b) ?hS0 ?hop ?hend
    case hS0 => exact HS1.out.drew
    case hop =>
      refine ⟨?_, ?_, ?_, ?_, ?_, ?_, ?_, ?_, ?_, ?_, ?_, ?_, ?_, ?_, ?_, ?_, ?_, ?_, trivial⟩
      all_goals intro d a wx hd hcl hS hA haft K hK
      · have hB : Below wx.heap.size wx (wx.alloc (.cells #[.string ⟨#[116, 105, 99, 107]⟩, .string ⟨#[99, 114, 97, 115, 104]⟩, .string ⟨#[116, 101, 120, 116]⟩, .string ⟨#[98, 105, 110, 97, 114, 121]⟩, .string ⟨#[114, 101, 112, 101, 97, 116]⟩, .string ⟨#[84, 105, 99, 107]⟩] 9)) := (Below.refl _ _).alloc (Nat.le_refl _) _
        have hgc := hS.lt
        refine hop_val rfl (.slice (some ⟨wx.heap.size, 0, none⟩) 6 6) (w' := wx.alloc (.cells #[.string ⟨#[116, 105, 99, 107]⟩, .string ⟨#[99, 114, 97, 115, 104]⟩, .string ⟨#[116, 101, 120, 116]⟩, .string ⟨#[98, 105, 110, 97, 114, 121]⟩, .string ⟨#[114, 101, 112, 101, 97, 116]⟩, .string ⟨#[84, 105, 99, 107]⟩] 9)) ?_ (hK _ _ ⟨wx.heap.size, by omega, rfl, ?_⟩ (fun k u _ h => F5_kept k u _ _ h (Kept2.of_below hB)) (hS.alloc _))
        · simp [execOp, Act.eval, go_sem, -Array.getD_eq_getD_getElem?]
        · intro m hm
          have : m = 0 ∨ m = 1 ∨ m = 2 ∨ m = 3 ∨ m = 4 ∨ m = 5 := by omega
          rcases this with rfl | rfl | rfl | rfl | rfl | rfl
          · exact ⟨⟨#[116, 105, 99, 107]⟩, by decide, by simp⟩
          · exact ⟨⟨#[99, 114, 97, 115, 104]⟩, by decide, by simp⟩
          · exact ⟨⟨#[116, 101, 120, 116]⟩, by decide, by simp⟩
          · exact ⟨⟨#[98, 105, 110, 97, 114, 121]⟩, by decide, by simp⟩
          · exact ⟨⟨#[114, 101, 112, 101, 97, 116]⟩, by decide, by simp⟩
          · exact ⟨⟨#[84, 105, 99, 107]⟩, by decide, by simp⟩
      · have h0 : a.tmps.getD 0 undef = .pointer (some ⟨b, 0, none⟩) := same_slot hA 0 (by kernel_rfl)
        refine hop_val rfl (.pointer (some ⟨b, 0, none⟩)) (w' := wx) ?_ (hK _ _ rfl (fun _ _ _ h => h) hS)
        simp [execOp, Act.eval, h0, go_sem, -Array.getD_eq_getD_getElem?]
      · have f0 : a.tmps.getD 15 undef = .pointer (some ⟨b, 0, none⟩) := (haft ⟨1, .data⟩ (by simp) rfl).2 _ rfl
        refine hop_call rfl Tryz.func7 (by kernel_rfl) (by kernel_rfl) _ _ rfl #[.pointer (some ⟨b, 0, none⟩), .int .i64 6] (by simp only [List.map_toArray, List.map_cons, List.map_nil, Act.eval, f0]) _ (next_ok B b 6 wx hS.1 (by omega) (by omega)) ?_
        rintro e wy ⟨z, z0, z1, rfl, hst⟩
        obtain ⟨m, rfl⟩ : ∃ m : Nat, z = m := ⟨z.toNat, by omega⟩
        exact ⟨_, rfl, hK _ _ ⟨m, by omega, rfl⟩ (fun k u _ h => F5_kept k u _ _ h (Kept2.of_but hst.2)) (hS.then hst)⟩
      · obtain ⟨g, g1, f3, hc⟩ := (haft ⟨0, .data⟩ (by simp) rfl).2 _ rfl
        have f3 : a.tmps.getD 14 undef = .slice (some ⟨g, 0, none⟩) 6 6 := f3
        obtain ⟨m, hm, f5⟩ := (haft ⟨2, .data⟩ (by simp) rfl).2 _ rfl
        have f5 : a.tmps.getD 16 undef = .int .i64 m := f5
        have m0 : (0 : Int) ≤ (m : Int) := by omega
        have m1 : (m : Int) < 6 := by omega
        refine hop_val rfl (.pointer (some ⟨g, m, none⟩)) (w' := wx) ?_ (hK _ _ ⟨g, m, g1, rfl, hc m hm⟩ (fun _ _ _ h => h) hS)
        simp [execOp, Act.eval, f3, f5, go_sem, -Array.getD_eq_getD_getElem?]
        intro h; omega
      · obtain ⟨g, m, g1, f6, s, hs, hc⟩ := (haft ⟨3, .data⟩ (by simp) rfl).2 _ rfl
        have f6 : a.tmps.getD 17 undef = .pointer (some ⟨g, m, none⟩) := f6
        refine hop_val rfl (.string s) (w' := wx) ?_ (hK _ _ ⟨s, hs, rfl⟩ (fun _ _ _ h => h) hS)
        simp [execOp, Act.eval, f6, hc, go_sem, -Array.getD_eq_getD_getElem?]
      · have hB : Below wx.heap.size wx (wx.alloc (.cells #[.string ⟨#[]⟩, .string ⟨#[32]⟩, .string ⟨#[32, 32]⟩] 9)) := (Below.refl _ _).alloc (Nat.le_refl _) _
        have hgc := hS.lt
        refine hop_val rfl (.slice (some ⟨wx.heap.size, 0, none⟩) 3 3) (w' := wx.alloc (.cells #[.string ⟨#[]⟩, .string ⟨#[32]⟩, .string ⟨#[32, 32]⟩] 9)) ?_ (hK _ _ ⟨wx.heap.size, by omega, rfl, ?_⟩ (fun k u _ h => F5_kept k u _ _ h (Kept2.of_below hB)) (hS.alloc _))
        · simp [execOp, Act.eval, go_sem, -Array.getD_eq_getD_getElem?]
        · intro m hm
          have : m = 0 ∨ m = 1 ∨ m = 2 := by omega
          rcases this with rfl | rfl | rfl
          · exact ⟨⟨#[]⟩, by decide, by simp⟩
          · exact ⟨⟨#[32]⟩, by decide, by simp⟩
          · exact ⟨⟨#[32, 32]⟩, by decide, by simp⟩
      · have h0 : a.tmps.getD 0 undef = .pointer (some ⟨b, 0, none⟩) := same_slot hA 0 (by kernel_rfl)
        refine hop_val rfl (.pointer (some ⟨b, 0, none⟩)) (w' := wx) ?_ (hK _ _ rfl (fun _ _ _ h => h) hS)
        simp [execOp, Act.eval, h0, go_sem, -Array.getD_eq_getD_getElem?]
      · have f0 : a.tmps.getD 20 undef = .pointer (some ⟨b, 0, none⟩) := (haft ⟨6, .data⟩ (by simp) rfl).2 _ rfl
        refine hop_call rfl Tryz.func7 (by kernel_rfl) (by kernel_rfl) _ _ rfl #[.pointer (some ⟨b, 0, none⟩), .int .i64 3] (by simp only [List.map_toArray, List.map_cons, List.map_nil, Act.eval, f0]) _ (next_ok B b 3 wx hS.1 (by omega) (by omega)) ?_
        rintro e wy ⟨z, z0, z1, rfl, hst⟩
        obtain ⟨m, rfl⟩ : ∃ m : Nat, z = m := ⟨z.toNat, by omega⟩
        exact ⟨_, rfl, hK _ _ ⟨m, by omega, rfl⟩ (fun k u _ h => F5_kept k u _ _ h (Kept2.of_but hst.2)) (hS.then hst)⟩
      · obtain ⟨g, g1, f3, hc⟩ := (haft ⟨5, .data⟩ (by simp) rfl).2 _ rfl
        have f3 : a.tmps.getD 19 undef = .slice (some ⟨g, 0, none⟩) 3 3 := f3
        obtain ⟨m, hm, f5⟩ := (haft ⟨7, .data⟩ (by simp) rfl).2 _ rfl
        have f5 : a.tmps.getD 21 undef = .int .i64 m := f5
        have m0 : (0 : Int) ≤ (m : Int) := by omega
        have m1 : (m : Int) < 3 := by omega
        refine hop_val rfl (.pointer (some ⟨g, m, none⟩)) (w' := wx) ?_ (hK _ _ ⟨g, m, g1, rfl, hc m hm⟩ (fun _ _ _ h => h) hS)
        simp [execOp, Act.eval, f3, f5, go_sem, -Array.getD_eq_getD_getElem?]
        intro h; omega
      · obtain ⟨g, m, g1, f6, s, hs, hc⟩ := (haft ⟨8, .data⟩ (by simp) rfl).2 _ rfl
        have f6 : a.tmps.getD 22 undef = .pointer (some ⟨g, m, none⟩) := f6
        refine hop_val rfl (.string s) (w' := wx) ?_ (hK _ _ ⟨s, hs, rfl⟩ (fun _ _ _ h => h) hS)
        simp [execOp, Act.eval, f6, hc, go_sem, -Array.getD_eq_getD_getElem?]
      · obtain ⟨s0, hs0, f0⟩ := (haft ⟨4, .data⟩ (by simp) rfl).2 _ rfl
        have f0 : a.tmps.getD 18 undef = .string s0 := f0
        obtain ⟨s1, hs1, f1⟩ := (haft ⟨9, .data⟩ (by simp) rfl).2 _ rfl
        have f1 : a.tmps.getD 23 undef = .string s1 := f1
        have hl : (s0 ++ s1).size ≤ 8 := app_le hs0 hs1 (Nat.le_refl _)
        refine hop_val rfl (.string (s0 ++ s1)) (w' := wx) ?_ (hK _ _ ⟨_, hl, rfl⟩ (fun _ _ _ h => h) hS)
        simp [execOp, Act.eval, f0, f1, go_sem, -Array.getD_eq_getD_getElem?]
        clear hK hcl haft hl hA
        omega
      · have hB : Below wx.heap.size wx (wx.alloc (.cells #[.string ⟨#[53]⟩, .string ⟨#[45, 51]⟩, .string ⟨#[45, 48]⟩, .string ⟨#[48, 48, 55]⟩, .string ⟨#[48, 97]⟩, .string ⟨#[97, 98, 99]⟩, .string ⟨#[45]⟩, .string ⟨#[]⟩, .string ⟨#[57, 57, 57, 57, 57, 57, 57, 57, 57, 57, 57, 57, 57, 57, 57, 57, 57, 57]⟩, .string ⟨#[49, 48, 48, 48, 48, 48, 48, 48, 48, 48, 48, 48, 48, 48, 48, 48, 48, 48, 48]⟩, .string ⟨#[53, 32, 53]⟩] 9)) := (Below.refl _ _).alloc (Nat.le_refl _) _
        have hgc := hS.lt
        refine hop_val rfl (.slice (some ⟨wx.heap.size, 0, none⟩) 11 11) (w' := wx.alloc (.cells #[.string ⟨#[53]⟩, .string ⟨#[45, 51]⟩, .string ⟨#[45, 48]⟩, .string ⟨#[48, 48, 55]⟩, .string ⟨#[48, 97]⟩, .string ⟨#[97, 98, 99]⟩, .string ⟨#[45]⟩, .string ⟨#[]⟩, .string ⟨#[57, 57, 57, 57, 57, 57, 57, 57, 57, 57, 57, 57, 57, 57, 57, 57, 57, 57]⟩, .string ⟨#[49, 48, 48, 48, 48, 48, 48, 48, 48, 48, 48, 48, 48, 48, 48, 48, 48, 48, 48]⟩, .string ⟨#[53, 32, 53]⟩] 9)) ?_ (hK _ _ ⟨wx.heap.size, by omega, rfl, ?_⟩ (fun k u _ h => F5_kept k u _ _ h (Kept2.of_below hB)) (hS.alloc _))
        · simp [execOp, Act.eval, go_sem, -Array.getD_eq_getD_getElem?]
        · intro m hm
          have : m = 0 ∨ m = 1 ∨ m = 2 ∨ m = 3 ∨ m = 4 ∨ m = 5 ∨ m = 6 ∨ m = 7 ∨ m = 8 ∨ m = 9 ∨ m = 10 := by omega
          rcases this with rfl | rfl | rfl | rfl | rfl | rfl | rfl | rfl | rfl | rfl | rfl
          · exact ⟨⟨#[53]⟩, by decide, by simp⟩
          · exact ⟨⟨#[45, 51]⟩, by decide, by simp⟩
          · exact ⟨⟨#[45, 48]⟩, by decide, by simp⟩
          · exact ⟨⟨#[48, 48, 55]⟩, by decide, by simp⟩
          · exact ⟨⟨#[48, 97]⟩, by decide, by simp⟩
          · exact ⟨⟨#[97, 98, 99]⟩, by decide, by simp⟩
          · exact ⟨⟨#[45]⟩, by decide, by simp⟩
          · exact ⟨⟨#[]⟩, by decide, by simp⟩
          · exact ⟨⟨#[57, 57, 57, 57, 57, 57, 57, 57, 57, 57, 57, 57, 57, 57, 57, 57, 57, 57]⟩, by decide, by simp⟩
          · exact ⟨⟨#[49, 48, 48, 48, 48, 48, 48, 48, 48, 48, 48, 48, 48, 48, 48, 48, 48, 48, 48]⟩, by decide, by simp⟩
          · exact ⟨⟨#[53, 32, 53]⟩, by decide, by simp⟩
      · have h0 : a.tmps.getD 0 undef = .pointer (some ⟨b, 0, none⟩) := same_slot hA 0 (by kernel_rfl)
        refine hop_val rfl (.pointer (some ⟨b, 0, none⟩)) (w' := wx) ?_ (hK _ _ rfl (fun _ _ _ h => h) hS)
        simp [execOp, Act.eval, h0, go_sem, -Array.getD_eq_getD_getElem?]
      · have f0 : a.tmps.getD 26 undef = .pointer (some ⟨b, 0, none⟩) := (haft ⟨12, .data⟩ (by simp) rfl).2 _ rfl
        refine hop_call rfl Tryz.func7 (by kernel_rfl) (by kernel_rfl) _ _ rfl #[.pointer (some ⟨b, 0, none⟩), .int .i64 11] (by simp only [List.map_toArray, List.map_cons, List.map_nil, Act.eval, f0]) _ (next_ok B b 11 wx hS.1 (by omega) (by omega)) ?_
        rintro e wy ⟨z, z0, z1, rfl, hst⟩
        obtain ⟨m, rfl⟩ : ∃ m : Nat, z = m := ⟨z.toNat, by omega⟩
        exact ⟨_, rfl, hK _ _ ⟨m, by omega, rfl⟩ (fun k u _ h => F5_kept k u _ _ h (Kept2.of_but hst.2)) (hS.then hst)⟩
      · obtain ⟨g, g1, f3, hc⟩ := (haft ⟨11, .data⟩ (by simp) rfl).2 _ rfl
        have f3 : a.tmps.getD 25 undef = .slice (some ⟨g, 0, none⟩) 11 11 := f3
        obtain ⟨m, hm, f5⟩ := (haft ⟨13, .data⟩ (by simp) rfl).2 _ rfl
        have f5 : a.tmps.getD 27 undef = .int .i64 m := f5
        have m0 : (0 : Int) ≤ (m : Int) := by omega
        have m1 : (m : Int) < 11 := by omega
        refine hop_val rfl (.pointer (some ⟨g, m, none⟩)) (w' := wx) ?_ (hK _ _ ⟨g, m, g1, rfl, hc m hm⟩ (fun _ _ _ h => h) hS)
        simp [execOp, Act.eval, f3, f5, go_sem, -Array.getD_eq_getD_getElem?]
        intro h; omega
      · obtain ⟨g, m, g1, f6, s, hs, hc⟩ := (haft ⟨14, .data⟩ (by simp) rfl).2 _ rfl
        have f6 : a.tmps.getD 28 undef = .pointer (some ⟨g, m, none⟩) := f6
        refine hop_val rfl (.string s) (w' := wx) ?_ (hK _ _ ⟨s, hs, rfl⟩ (fun _ _ _ h => h) hS)
        simp [execOp, Act.eval, f6, hc, go_sem, -Array.getD_eq_getD_getElem?]
      · obtain ⟨s0, hs0, f0⟩ := (haft ⟨10, .data⟩ (by simp) rfl).2 _ rfl
        have f0 : a.tmps.getD 24 undef = .string s0 := f0
        obtain ⟨s1, hs1, f1⟩ := (haft ⟨15, .data⟩ (by simp) rfl).2 _ rfl
        have f1 : a.tmps.getD 29 undef = .string s1 := f1
        have hl : (s0 ++ s1).size ≤ 27 := app_le hs0 hs1 (Nat.le_refl _)
        refine hop_val rfl (.string (s0 ++ s1)) (w' := wx) ?_ (hK _ _ ⟨_, hl, rfl⟩ (fun _ _ _ h => h) hS)
        simp [execOp, Act.eval, f0, f1, go_sem, -Array.getD_eq_getD_getElem?]
        clear hK hcl haft hl hA
        omega
      · obtain ⟨s, hs, f6⟩ := (haft ⟨16, .data⟩ (by simp) rfl).2 _ rfl
        have f6 : a.tmps.getD 30 undef = .string s := f6
        refine hop_val rfl (.string s) (w' := wx) ?_ (hK _ _ ⟨s, hs, rfl⟩ (fun _ _ _ h => h) hS)
        simp [execOp, Act.eval, f6, go_sem, -Array.getD_eq_getD_getElem?]
    case hend =>
      intro u w2 d hd hS hF
      obtain ⟨s, hs, hu⟩ : FStr 27 (u 3) := hF 17 _ rfl
      have HS2 := Lib.hid hS
      have Hs := Lib.hid hs
      clear hF hd d hS hs
      simp only [mixL, hu]
      go_wp2_with fail
      go_ret
      exact ⟨s, rfl, by have := Hs.out; omega, HS2.out⟩
  · go_upto_region 8 with fail
    refine wp_region_slots (by kernel_rfl) 67 rfl (by kernel_rfl) (by kernel_rfl) 3 63 (by kernel_rfl) (fun _ w' => St w B b w') (F8 b) ?hS0 ?hop ?hend
    case hS0 => exact HS1.out.drew
    case hop =>
      refine ⟨?_, ?_, ?_, ?_, ?_, ?_, ?_, ?_, ?_, ?_, ?_, ?_, ?_, ?_, ?_, ?_, ?_, ?_, ?_, ?_, ?_, ?_, ?_, ?_, ?_, ?_, ?_, ?_, ?_, ?_, ?_, ?_, ?_, trivial⟩
      all_goals intro d a wx hd hcl hS hA haft K hK
      · have hB : Below wx.heap.size wx (wx.alloc (.cells #[.string ⟨#[108, 97, 110, 100]⟩, .string ⟨#[115, 104, 105, 112]⟩, .string ⟨#[98, 117, 111, 121]⟩, .string ⟨#[112, 108, 97, 110, 101]⟩] 9)) := (Below.refl _ _).alloc (Nat.le_refl _) _
        have hgc := hS.lt
        refine hop_val rfl (.slice (some ⟨wx.heap.size, 0, none⟩) 4 4) (w' := wx.alloc (.cells #[.string ⟨#[108, 97, 110, 100]⟩, .string ⟨#[115, 104, 105, 112]⟩, .string ⟨#[98, 117, 111, 121]⟩, .string ⟨#[112, 108, 97, 110, 101]⟩] 9)) ?_ (hK _ _ ⟨wx.heap.size, by omega, rfl, ?_⟩ (fun k u _ h => F8_kept k u _ _ h (Kept2.of_below hB)) (hS.alloc _))
        · simp [execOp, Act.eval, go_sem, -Array.getD_eq_getD_getElem?]
        · intro m hm
          have : m = 0 ∨ m = 1 ∨ m = 2 ∨ m = 3 := by omega
          rcases this with rfl | rfl | rfl | rfl
          · exact ⟨⟨#[108, 97, 110, 100]⟩, by decide, by simp⟩
          · exact ⟨⟨#[115, 104, 105, 112]⟩, by decide, by simp⟩
          · exact ⟨⟨#[98, 117, 111, 121]⟩, by decide, by simp⟩
          · exact ⟨⟨#[112, 108, 97, 110, 101]⟩, by decide, by simp⟩
      · have h0 : a.tmps.getD 0 undef = .pointer (some ⟨b, 0, none⟩) := same_slot hA 0 (by kernel_rfl)
        refine hop_val rfl (.pointer (some ⟨b, 0, none⟩)) (w' := wx) ?_ (hK _ _ rfl (fun _ _ _ h => h) hS)
        simp [execOp, Act.eval, h0, go_sem, -Array.getD_eq_getD_getElem?]
      · have f0 : a.tmps.getD 35 undef = .pointer (some ⟨b, 0, none⟩) := (haft ⟨1, .data⟩ (by simp) rfl).2 _ rfl
        refine hop_call rfl Tryz.func7 (by kernel_rfl) (by kernel_rfl) _ _ rfl #[.pointer (some ⟨b, 0, none⟩), .int .i64 4] (by simp only [List.map_toArray, List.map_cons, List.map_nil, Act.eval, f0]) _ (next_ok B b 4 wx hS.1 (by omega) (by omega)) ?_
        rintro e wy ⟨z, z0, z1, rfl, hst⟩
        obtain ⟨m, rfl⟩ : ∃ m : Nat, z = m := ⟨z.toNat, by omega⟩
        exact ⟨_, rfl, hK _ _ ⟨m, by omega, rfl⟩ (fun k u _ h => F8_kept k u _ _ h (Kept2.of_but hst.2)) (hS.then hst)⟩
      · obtain ⟨g, g1, f3, hc⟩ := (haft ⟨0, .data⟩ (by simp) rfl).2 _ rfl
        have f3 : a.tmps.getD 34 undef = .slice (some ⟨g, 0, none⟩) 4 4 := f3
        obtain ⟨m, hm, f5⟩ := (haft ⟨2, .data⟩ (by simp) rfl).2 _ rfl
        have f5 : a.tmps.getD 36 undef = .int .i64 m := f5
        have m0 : (0 : Int) ≤ (m : Int) := by omega
        have m1 : (m : Int) < 4 := by omega
        refine hop_val rfl (.pointer (some ⟨g, m, none⟩)) (w' := wx) ?_ (hK _ _ ⟨g, m, g1, rfl, hc m hm⟩ (fun _ _ _ h => h) hS)
        simp [execOp, Act.eval, f3, f5, go_sem, -Array.getD_eq_getD_getElem?]
        intro h; omega
      · obtain ⟨g, m, g1, f6, s, hs, hc⟩ := (haft ⟨3, .data⟩ (by simp) rfl).2 _ rfl
        have f6 : a.tmps.getD 37 undef = .pointer (some ⟨g, m, none⟩) := f6
        refine hop_val rfl (.string s) (w' := wx) ?_ (hK _ _ ⟨s, hs, rfl⟩ (fun _ _ _ h => h) hS)
        simp [execOp, Act.eval, f6, hc, go_sem, -Array.getD_eq_getD_getElem?]
      · obtain ⟨s1, hs1, f1⟩ := (haft ⟨4, .data⟩ (by simp) rfl).2 _ rfl
        have f1 : a.tmps.getD 38 undef = .string s1 := f1
        have hl : ((⟨#[115, 116, 97, 116, 105, 111, 110, 32]⟩ : ByteArray) ++ s1).size ≤ 13 := app_le (Nat.le_refl 8) hs1 (Nat.le_refl _)
        refine hop_val rfl (.string ((⟨#[115, 116, 97, 116, 105, 111, 110, 32]⟩ : ByteArray) ++ s1)) (w' := wx) ?_ (hK _ _ ⟨_, hl, rfl⟩ (fun _ _ _ h => h) hS)
        simp [execOp, Act.eval, f1, go_sem, -Array.getD_eq_getD_getElem?]
        clear hK hcl haft hl hA
        omega
      · obtain ⟨s0, hs0, f0⟩ := (haft ⟨5, .data⟩ (by simp) rfl).2 _ rfl
        have f0 : a.tmps.getD 39 undef = .string s0 := f0
        have hl : (s0 ++ (⟨#[32]⟩ : ByteArray)).size ≤ 14 := app_le hs0 (Nat.le_refl 1) (Nat.le_refl _)
        refine hop_val rfl (.string (s0 ++ (⟨#[32]⟩ : ByteArray))) (w' := wx) ?_ (hK _ _ ⟨_, hl, rfl⟩ (fun _ _ _ h => h) hS)
        simp [execOp, Act.eval, f0, go_sem, -Array.getD_eq_getD_getElem?]
        clear hK hcl haft hl hA
        omega
      · have hB : Below wx.heap.size wx (wx.alloc (.cells #[.string ⟨#[65, 66, 49, 50, 51]⟩, .string ⟨#[120]⟩, .string ⟨#[]⟩] 9)) := (Below.refl _ _).alloc (Nat.le_refl _) _
        have hgc := hS.lt
        refine hop_val rfl (.slice (some ⟨wx.heap.size, 0, none⟩) 3 3) (w' := wx.alloc (.cells #[.string ⟨#[65, 66, 49, 50, 51]⟩, .string ⟨#[120]⟩, .string ⟨#[]⟩] 9)) ?_ (hK _ _ ⟨wx.heap.size, by omega, rfl, ?_⟩ (fun k u _ h => F8_kept k u _ _ h (Kept2.of_below hB)) (hS.alloc _))
        · simp [execOp, Act.eval, go_sem, -Array.getD_eq_getD_getElem?]
        · intro m hm
          have : m = 0 ∨ m = 1 ∨ m = 2 := by omega
          rcases this with rfl | rfl | rfl
          · exact ⟨⟨#[65, 66, 49, 50, 51]⟩, by decide, by simp⟩
          · exact ⟨⟨#[120]⟩, by decide, by simp⟩
          · exact ⟨⟨#[]⟩, by decide, by simp⟩
      · have h0 : a.tmps.getD 0 undef = .pointer (some ⟨b, 0, none⟩) := same_slot hA 0 (by kernel_rfl)
        refine hop_val rfl (.pointer (some ⟨b, 0, none⟩)) (w' := wx) ?_ (hK _ _ rfl (fun _ _ _ h => h) hS)
        simp [execOp, Act.eval, h0, go_sem, -Array.getD_eq_getD_getElem?]
      · have f0 : a.tmps.getD 42 undef = .pointer (some ⟨b, 0, none⟩) := (haft ⟨8, .data⟩ (by simp) rfl).2 _ rfl
        refine hop_call rfl Tryz.func7 (by kernel_rfl) (by kernel_rfl) _ _ rfl #[.pointer (some ⟨b, 0, none⟩), .int .i64 3] (by simp only [List.map_toArray, List.map_cons, List.map_nil, Act.eval, f0]) _ (next_ok B b 3 wx hS.1 (by omega) (by omega)) ?_
        rintro e wy ⟨z, z0, z1, rfl, hst⟩
        obtain ⟨m, rfl⟩ : ∃ m : Nat, z = m := ⟨z.toNat, by omega⟩
        exact ⟨_, rfl, hK _ _ ⟨m, by omega, rfl⟩ (fun k u _ h => F8_kept k u _ _ h (Kept2.of_but hst.2)) (hS.then hst)⟩
      · obtain ⟨g, g1, f3, hc⟩ := (haft ⟨7, .data⟩ (by simp) rfl).2 _ rfl
        have f3 : a.tmps.getD 41 undef = .slice (some ⟨g, 0, none⟩) 3 3 := f3
        obtain ⟨m, hm, f5⟩ := (haft ⟨9, .data⟩ (by simp) rfl).2 _ rfl
        have f5 : a.tmps.getD 43 undef = .int .i64 m := f5
        have m0 : (0 : Int) ≤ (m : Int) := by omega
        have m1 : (m : Int) < 3 := by omega
        refine hop_val rfl (.pointer (some ⟨g, m, none⟩)) (w' := wx) ?_ (hK _ _ ⟨g, m, g1, rfl, hc m hm⟩ (fun _ _ _ h => h) hS)
        simp [execOp, Act.eval, f3, f5, go_sem, -Array.getD_eq_getD_getElem?]
        intro h; omega
      · obtain ⟨g, m, g1, f6, s, hs, hc⟩ := (haft ⟨10, .data⟩ (by simp) rfl).2 _ rfl
        have f6 : a.tmps.getD 44 undef = .pointer (some ⟨g, m, none⟩) := f6
        refine hop_val rfl (.string s) (w' := wx) ?_ (hK _ _ ⟨s, hs, rfl⟩ (fun _ _ _ h => h) hS)
        simp [execOp, Act.eval, f6, hc, go_sem, -Array.getD_eq_getD_getElem?]
      · obtain ⟨s0, hs0, f0⟩ := (haft ⟨6, .data⟩ (by simp) rfl).2 _ rfl
        have f0 : a.tmps.getD 40 undef = .string s0 := f0
        obtain ⟨s1, hs1, f1⟩ := (haft ⟨11, .data⟩ (by simp) rfl).2 _ rfl
        have f1 : a.tmps.getD 45 undef = .string s1 := f1
        have hl : (s0 ++ s1).size ≤ 19 := app_le hs0 hs1 (Nat.le_refl _)
        refine hop_val rfl (.string (s0 ++ s1)) (w' := wx) ?_ (hK _ _ ⟨_, hl, rfl⟩ (fun _ _ _ h => h) hS)
        simp [execOp, Act.eval, f0, f1, go_sem, -Array.getD_eq_getD_getElem?]
        clear hK hcl haft hl hA
        omega
      · obtain ⟨s0, hs0, f0⟩ := (haft ⟨12, .data⟩ (by simp) rfl).2 _ rfl
        have f0 : a.tmps.getD 46 undef = .string s0 := f0
        have hl : (s0 ++ (⟨#[32]⟩ : ByteArray)).size ≤ 20 := app_le hs0 (Nat.le_refl 1) (Nat.le_refl _)
        refine hop_val rfl (.string (s0 ++ (⟨#[32]⟩ : ByteArray))) (w' := wx) ?_ (hK _ _ ⟨_, hl, rfl⟩ (fun _ _ _ h => h) hS)
        simp [execOp, Act.eval, f0, go_sem, -Array.getD_eq_getD_getElem?]
        clear hK hcl haft hl hA
        omega
      · have hB : Below wx.heap.size wx (wx.alloc (.cells #[.string ⟨#[48]⟩, .string ⟨#[54, 48]⟩, .string ⟨#[45, 49]⟩, .string ⟨#[120]⟩] 9)) := (Below.refl _ _).alloc (Nat.le_refl _) _
        have hgc := hS.lt
        refine hop_val rfl (.slice (some ⟨wx.heap.size, 0, none⟩) 4 4) (w' := wx.alloc (.cells #[.string ⟨#[48]⟩, .string ⟨#[54, 48]⟩, .string ⟨#[45, 49]⟩, .string ⟨#[120]⟩] 9)) ?_ (hK _ _ ⟨wx.heap.size, by omega, rfl, ?_⟩ (fun k u _ h => F8_kept k u _ _ h (Kept2.of_below hB)) (hS.alloc _))
        · simp [execOp, Act.eval, go_sem, -Array.getD_eq_getD_getElem?]
        · intro m hm
          have : m = 0 ∨ m = 1 ∨ m = 2 ∨ m = 3 := by omega
          rcases this with rfl | rfl | rfl | rfl
          · exact ⟨⟨#[48]⟩, by decide, by simp⟩
          · exact ⟨⟨#[54, 48]⟩, by decide, by simp⟩
          · exact ⟨⟨#[45, 49]⟩, by decide, by simp⟩
          · exact ⟨⟨#[120]⟩, by decide, by simp⟩
      · have h0 : a.tmps.getD 0 undef = .pointer (some ⟨b, 0, none⟩) := same_slot hA 0 (by kernel_rfl)
        refine hop_val rfl (.pointer (some ⟨b, 0, none⟩)) (w' := wx) ?_ (hK _ _ rfl (fun _ _ _ h => h) hS)
        simp [execOp, Act.eval, h0, go_sem, -Array.getD_eq_getD_getElem?]
      · have f0 : a.tmps.getD 49 undef = .pointer (some ⟨b, 0, none⟩) := (haft ⟨15, .data⟩ (by simp) rfl).2 _ rfl
        refine hop_call rfl Tryz.func7 (by kernel_rfl) (by kernel_rfl) _ _ rfl #[.pointer (some ⟨b, 0, none⟩), .int .i64 4] (by simp only [List.map_toArray, List.map_cons, List.map_nil, Act.eval, f0]) _ (next_ok B b 4 wx hS.1 (by omega) (by omega)) ?_
        rintro e wy ⟨z, z0, z1, rfl, hst⟩
        obtain ⟨m, rfl⟩ : ∃ m : Nat, z = m := ⟨z.toNat, by omega⟩
        exact ⟨_, rfl, hK _ _ ⟨m, by omega, rfl⟩ (fun k u _ h => F8_kept k u _ _ h (Kept2.of_but hst.2)) (hS.then hst)⟩
      · obtain ⟨g, g1, f3, hc⟩ := (haft ⟨14, .data⟩ (by simp) rfl).2 _ rfl
        have f3 : a.tmps.getD 48 undef = .slice (some ⟨g, 0, none⟩) 4 4 := f3
        obtain ⟨m, hm, f5⟩ := (haft ⟨16, .data⟩ (by simp) rfl).2 _ rfl
        have f5 : a.tmps.getD 50 undef = .int .i64 m := f5
        have m0 : (0 : Int) ≤ (m : Int) := by omega
        have m1 : (m : Int) < 4 := by omega
        refine hop_val rfl (.pointer (some ⟨g, m, none⟩)) (w' := wx) ?_ (hK _ _ ⟨g, m, g1, rfl, hc m hm⟩ (fun _ _ _ h => h) hS)
        simp [execOp, Act.eval, f3, f5, go_sem, -Array.getD_eq_getD_getElem?]
        intro h; omega
      · obtain ⟨g, m, g1, f6, s, hs, hc⟩ := (haft ⟨17, .data⟩ (by simp) rfl).2 _ rfl
        have f6 : a.tmps.getD 51 undef = .pointer (some ⟨g, m, none⟩) := f6
        refine hop_val rfl (.string s) (w' := wx) ?_ (hK _ _ ⟨s, hs, rfl⟩ (fun _ _ _ h => h) hS)
        simp [execOp, Act.eval, f6, hc, go_sem, -Array.getD_eq_getD_getElem?]
      · obtain ⟨s0, hs0, f0⟩ := (haft ⟨13, .data⟩ (by simp) rfl).2 _ rfl
        have f0 : a.tmps.getD 47 undef = .string s0 := f0
        obtain ⟨s1, hs1, f1⟩ := (haft ⟨18, .data⟩ (by simp) rfl).2 _ rfl
        have f1 : a.tmps.getD 52 undef = .string s1 := f1
        have hl : (s0 ++ s1).size ≤ 22 := app_le hs0 hs1 (Nat.le_refl _)
        refine hop_val rfl (.string (s0 ++ s1)) (w' := wx) ?_ (hK _ _ ⟨_, hl, rfl⟩ (fun _ _ _ h => h) hS)
        simp [execOp, Act.eval, f0, f1, go_sem, -Array.getD_eq_getD_getElem?]
        clear hK hcl haft hl hA
        omega
      · have hB : Below wx.heap.size wx (wx.alloc (.cells #[.string ⟨#[32, 99, 108, 111, 115, 101, 100]⟩, .string ⟨#[32, 97, 116, 32, 48, 32, 56, 52, 48, 32, 48, 32, 48]⟩, .string ⟨#[32, 97, 116, 32, 49, 32, 50, 32, 51]⟩, .string ⟨#[32, 111, 112, 101, 110]⟩, .string ⟨#[]⟩] 9)) := (Below.refl _ _).alloc (Nat.le_refl _) _
        have hgc := hS.lt
        refine hop_val rfl (.slice (some ⟨wx.heap.size, 0, none⟩) 5 5) (w' := wx.alloc (.cells #[.string ⟨#[32, 99, 108, 111, 115, 101, 100]⟩, .string ⟨#[32, 97, 116, 32, 48, 32, 56, 52, 48, 32, 48, 32, 48]⟩, .string ⟨#[32, 97, 116, 32, 49, 32, 50, 32, 51]⟩, .string ⟨#[32, 111, 112, 101, 110]⟩, .string ⟨#[]⟩] 9)) ?_ (hK _ _ ⟨wx.heap.size, by omega, rfl, ?_⟩ (fun k u _ h => F8_kept k u _ _ h (Kept2.of_below hB)) (hS.alloc _))
        · simp [execOp, Act.eval, go_sem, -Array.getD_eq_getD_getElem?]
        · intro m hm
          have : m = 0 ∨ m = 1 ∨ m = 2 ∨ m = 3 ∨ m = 4 := by omega
          rcases this with rfl | rfl | rfl | rfl | rfl
          · exact ⟨⟨#[32, 99, 108, 111, 115, 101, 100]⟩, by decide, by simp⟩
          · exact ⟨⟨#[32, 97, 116, 32, 48, 32, 56, 52, 48, 32, 48, 32, 48]⟩, by decide, by simp⟩
          · exact ⟨⟨#[32, 97, 116, 32, 49, 32, 50, 32, 51]⟩, by decide, by simp⟩
          · exact ⟨⟨#[32, 111, 112, 101, 110]⟩, by decide, by simp⟩
          · exact ⟨⟨#[]⟩, by decide, by simp⟩
      · have h0 : a.tmps.getD 0 undef = .pointer (some ⟨b, 0, none⟩) := same_slot hA 0 (by kernel_rfl)
        refine hop_val rfl (.pointer (some ⟨b, 0, none⟩)) (w' := wx) ?_ (hK _ _ rfl (fun _ _ _ h => h) hS)
        simp [execOp, Act.eval, h0, go_sem, -Array.getD_eq_getD_getElem?]
      · have f0 : a.tmps.getD 55 undef = .pointer (some ⟨b, 0, none⟩) := (haft ⟨21, .data⟩ (by simp) rfl).2 _ rfl
        refine hop_call rfl Tryz.func7 (by kernel_rfl) (by kernel_rfl) _ _ rfl #[.pointer (some ⟨b, 0, none⟩), .int .i64 5] (by simp only [List.map_toArray, List.map_cons, List.map_nil, Act.eval, f0]) _ (next_ok B b 5 wx hS.1 (by omega) (by omega)) ?_
        rintro e wy ⟨z, z0, z1, rfl, hst⟩
        obtain ⟨m, rfl⟩ : ∃ m : Nat, z = m := ⟨z.toNat, by omega⟩
        exact ⟨_, rfl, hK _ _ ⟨m, by omega, rfl⟩ (fun k u _ h => F8_kept k u _ _ h (Kept2.of_but hst.2)) (hS.then hst)⟩
      · obtain ⟨g, g1, f3, hc⟩ := (haft ⟨20, .data⟩ (by simp) rfl).2 _ rfl
        have f3 : a.tmps.getD 54 undef = .slice (some ⟨g, 0, none⟩) 5 5 := f3
        obtain ⟨m, hm, f5⟩ := (haft ⟨22, .data⟩ (by simp) rfl).2 _ rfl
        have f5 : a.tmps.getD 56 undef = .int .i64 m := f5
        have m0 : (0 : Int) ≤ (m : Int) := by omega
        have m1 : (m : Int) < 5 := by omega
        refine hop_val rfl (.pointer (some ⟨g, m, none⟩)) (w' := wx) ?_ (hK _ _ ⟨g, m, g1, rfl, hc m hm⟩ (fun _ _ _ h => h) hS)
        simp [execOp, Act.eval, f3, f5, go_sem, -Array.getD_eq_getD_getElem?]
        intro h; omega
      · obtain ⟨g, m, g1, f6, s, hs, hc⟩ := (haft ⟨23, .data⟩ (by simp) rfl).2 _ rfl
        have f6 : a.tmps.getD 57 undef = .pointer (some ⟨g, m, none⟩) := f6
        refine hop_val rfl (.string s) (w' := wx) ?_ (hK _ _ ⟨s, hs, rfl⟩ (fun _ _ _ h => h) hS)
        simp [execOp, Act.eval, f6, hc, go_sem, -Array.getD_eq_getD_getElem?]
      · obtain ⟨s0, hs0, f0⟩ := (haft ⟨19, .data⟩ (by simp) rfl).2 _ rfl
        have f0 : a.tmps.getD 53 undef = .string s0 := f0
        obtain ⟨s1, hs1, f1⟩ := (haft ⟨24, .data⟩ (by simp) rfl).2 _ rfl
        have f1 : a.tmps.getD 58 undef = .string s1 := f1
        have hl : (s0 ++ s1).size ≤ 35 := app_le hs0 hs1 (Nat.le_refl _)
        refine hop_val rfl (.string (s0 ++ s1)) (w' := wx) ?_ (hK _ _ ⟨_, hl, rfl⟩ (fun _ _ _ h => h) hS)
        simp [execOp, Act.eval, f0, f1, go_sem, -Array.getD_eq_getD_getElem?]
        clear hK hcl haft hl hA
        omega
      · have hB : Below wx.heap.size wx (wx.alloc (.cells #[.string ⟨#[]⟩, .string ⟨#[32, 98, 105, 97, 115, 32, 49, 32, 45, 53]⟩, .string ⟨#[32, 98, 105, 97, 115, 32, 49]⟩, .string ⟨#[32, 98, 105, 97, 115, 32, 49, 32, 50, 32, 98, 105, 97, 115, 32, 51, 32, 52]⟩, .string ⟨#[32, 98, 105, 97, 115, 32, 97, 32, 98]⟩] 9)) := (Below.refl _ _).alloc (Nat.le_refl _) _
        have hgc := hS.lt
        refine hop_val rfl (.slice (some ⟨wx.heap.size, 0, none⟩) 5 5) (w' := wx.alloc (.cells #[.string ⟨#[]⟩, .string ⟨#[32, 98, 105, 97, 115, 32, 49, 32, 45, 53]⟩, .string ⟨#[32, 98, 105, 97, 115, 32, 49]⟩, .string ⟨#[32, 98, 105, 97, 115, 32, 49, 32, 50, 32, 98, 105, 97, 115, 32, 51, 32, 52]⟩, .string ⟨#[32, 98, 105, 97, 115, 32, 97, 32, 98]⟩] 9)) ?_ (hK _ _ ⟨wx.heap.size, by omega, rfl, ?_⟩ (fun k u _ h => F8_kept k u _ _ h (Kept2.of_below hB)) (hS.alloc _))
        · simp [execOp, Act.eval, go_sem, -Array.getD_eq_getD_getElem?]
        · intro m hm
          have : m = 0 ∨ m = 1 ∨ m = 2 ∨ m = 3 ∨ m = 4 := by omega
          rcases this with rfl | rfl | rfl | rfl | rfl
          · exact ⟨⟨#[]⟩, by decide, by simp⟩
          · exact ⟨⟨#[32, 98, 105, 97, 115, 32, 49, 32, 45, 53]⟩, by decide, by simp⟩
          · exact ⟨⟨#[32, 98, 105, 97, 115, 32, 49]⟩, by decide, by simp⟩
          · exact ⟨⟨#[32, 98, 105, 97, 115, 32, 49, 32, 50, 32, 98, 105, 97, 115, 32, 51, 32, 52]⟩, by decide, by simp⟩
          · exact ⟨⟨#[32, 98, 105, 97, 115, 32, 97, 32, 98]⟩, by decide, by simp⟩
      · have h0 : a.tmps.getD 0 undef = .pointer (some ⟨b, 0, none⟩) := same_slot hA 0 (by kernel_rfl)
        refine hop_val rfl (.pointer (some ⟨b, 0, none⟩)) (w' := wx) ?_ (hK _ _ rfl (fun _ _ _ h => h) hS)
        simp [execOp, Act.eval, h0, go_sem, -Array.getD_eq_getD_getElem?]
      · have f0 : a.tmps.getD 61 undef = .pointer (some ⟨b, 0, none⟩) := (haft ⟨27, .data⟩ (by simp) rfl).2 _ rfl
        refine hop_call rfl Tryz.func7 (by kernel_rfl) (by kernel_rfl) _ _ rfl #[.pointer (some ⟨b, 0, none⟩), .int .i64 5] (by simp only [List.map_toArray, List.map_cons, List.map_nil, Act.eval, f0]) _ (next_ok B b 5 wx hS.1 (by omega) (by omega)) ?_
        rintro e wy ⟨z, z0, z1, rfl, hst⟩
        obtain ⟨m, rfl⟩ : ∃ m : Nat, z = m := ⟨z.toNat, by omega⟩
        exact ⟨_, rfl, hK _ _ ⟨m, by omega, rfl⟩ (fun k u _ h => F8_kept k u _ _ h (Kept2.of_but hst.2)) (hS.then hst)⟩
      · obtain ⟨g, g1, f3, hc⟩ := (haft ⟨26, .data⟩ (by simp) rfl).2 _ rfl
        have f3 : a.tmps.getD 60 undef = .slice (some ⟨g, 0, none⟩) 5 5 := f3
        obtain ⟨m, hm, f5⟩ := (haft ⟨28, .data⟩ (by simp) rfl).2 _ rfl
        have f5 : a.tmps.getD 62 undef = .int .i64 m := f5
        have m0 : (0 : Int) ≤ (m : Int) := by omega
        have m1 : (m : Int) < 5 := by omega
        refine hop_val rfl (.pointer (some ⟨g, m, none⟩)) (w' := wx) ?_ (hK _ _ ⟨g, m, g1, rfl, hc m hm⟩ (fun _ _ _ h => h) hS)
        simp [execOp, Act.eval, f3, f5, go_sem, -Array.getD_eq_getD_getElem?]
        intro h; omega
      · obtain ⟨g, m, g1, f6, s, hs, hc⟩ := (haft ⟨29, .data⟩ (by simp) rfl).2 _ rfl
        have f6 : a.tmps.getD 63 undef = .pointer (some ⟨g, m, none⟩) := f6
        refine hop_val rfl (.string s) (w' := wx) ?_ (hK _ _ ⟨s, hs, rfl⟩ (fun _ _ _ h => h) hS)
        simp [execOp, Act.eval, f6, hc, go_sem, -Array.getD_eq_getD_getElem?]
      · obtain ⟨s0, hs0, f0⟩ := (haft ⟨25, .data⟩ (by simp) rfl).2 _ rfl
        have f0 : a.tmps.getD 59 undef = .string s0 := f0
        obtain ⟨s1, hs1, f1⟩ := (haft ⟨30, .data⟩ (by simp) rfl).2 _ rfl
        have f1 : a.tmps.getD 64 undef = .string s1 := f1
        have hl : (s0 ++ s1).size ≤ 53 := app_le hs0 hs1 (Nat.le_refl _)
        refine hop_val rfl (.string (s0 ++ s1)) (w' := wx) ?_ (hK _ _ ⟨_, hl, rfl⟩ (fun _ _ _ h => h) hS)
        simp [execOp, Act.eval, f0, f1, go_sem, -Array.getD_eq_getD_getElem?]
        clear hK hcl haft hl hA
        omega
      · obtain ⟨s, hs, f6⟩ := (haft ⟨31, .data⟩ (by simp) rfl).2 _ rfl
        have f6 : a.tmps.getD 65 undef = .string s := f6
        refine hop_val rfl (.string s) (w' := wx) ?_ (hK _ _ ⟨s, hs, rfl⟩ (fun _ _ _ h => h) hS)
        simp [execOp, Act.eval, f6, go_sem, -Array.getD_eq_getD_getElem?]
    case hend =>
      intro u w2 d hd hS hF
      obtain ⟨s, hs, hu⟩ : FStr 53 (u 3) := hF 32 _ rfl
      have HS2 := Lib.hid hS
      have Hs := Lib.hid hs
      clear hF hd d hS hs
      simp only [mixL, hu]
      go_wp2_with fail
      go_ret
      exact ⟨s, rfl, by have := Hs.out; omega, HS2.out⟩
  · go_upto_region 8 with fail
    refine wp_region_slots (by kernel_rfl) 67 rfl (by kernel_rfl) (by kernel_rfl) 3 63 (by kernel_rfl) (fun _ w' => St w B b w') (F8 b) ?hS0 ?hop ?hend
    case hS0 => exact HS1.out.drew
    case hop =>
      refine ⟨?_, ?_, ?_, ?_, ?_, ?_, ?_, ?_, ?_, ?_, ?_, ?_, ?_, ?_, ?_, ?_, ?_, ?_, ?_, ?_, ?_, ?_, ?_, ?_, ?_, ?_, ?_, ?_, ?_, ?_, ?_, ?_, ?_, trivial⟩
      all_goals intro d a wx hd hcl hS hA haft K hK
      · have hB : Below wx.heap.size wx (wx.alloc (.cells #[.string ⟨#[108, 97, 110, 100]⟩, .string ⟨#[115, 104, 105, 112]⟩, .string ⟨#[98, 117, 111, 121]⟩, .string ⟨#[112, 108, 97, 110, 101]⟩] 9)) := (Below.refl _ _).alloc (Nat.le_refl _) _
        have hgc := hS.lt
        refine hop_val rfl (.slice (some ⟨wx.heap.size, 0, none⟩) 4 4) (w' := wx.alloc (.cells #[.string ⟨#[108, 97, 110, 100]⟩, .string ⟨#[115, 104, 105, 112]⟩, .string ⟨#[98, 117, 111, 121]⟩, .string ⟨#[112, 108, 97, 110, 101]⟩] 9)) ?_ (hK _ _ ⟨wx.heap.size, by omega, rfl, ?_⟩ (fun k u _ h => F8_kept k u _ _ h (Kept2.of_below hB)) (hS.alloc _))
        · simp [execOp, Act.eval, go_sem, -Array.getD_eq_getD_getElem?]
        · intro m hm
          have : m = 0 ∨ m = 1 ∨ m = 2 ∨ m = 3 := by omega
          rcases this with rfl | rfl | rfl | rfl
          · exact ⟨⟨#[108, 97, 110, 100]⟩, by decide, by simp⟩
          · exact ⟨⟨#[115, 104, 105, 112]⟩, by decide, by simp⟩
          · exact ⟨⟨#[98, 117, 111, 121]⟩, by decide, by simp⟩
          · exact ⟨⟨#[112, 108, 97, 110, 101]⟩, by decide, by simp⟩
      · have h0 : a.tmps.getD 0 undef = .pointer (some ⟨b, 0, none⟩) := same_slot hA 0 (by kernel_rfl)
        refine hop_val rfl (.pointer (some ⟨b, 0, none⟩)) (w' := wx) ?_ (hK _ _ rfl (fun _ _ _ h => h) hS)
        simp [execOp, Act.eval, h0, go_sem, -Array.getD_eq_getD_getElem?]
      · have f0 : a.tmps.getD 35 undef = .pointer (some ⟨b, 0, none⟩) := (haft ⟨1, .data⟩ (by simp) rfl).2 _ rfl
        refine hop_call rfl Tryz.func7 (by kernel_rfl) (by kernel_rfl) _ _ rfl #[.pointer (some ⟨b, 0, none⟩), .int .i64 4] (by simp only [List.map_toArray, List.map_cons, List.map_nil, Act.eval, f0]) _ (next_ok B b 4 wx hS.1 (by omega) (by omega)) ?_
        rintro e wy ⟨z, z0, z1, rfl, hst⟩
        obtain ⟨m, rfl⟩ : ∃ m : Nat, z = m := ⟨z.toNat, by omega⟩
        exact ⟨_, rfl, hK _ _ ⟨m, by omega, rfl⟩ (fun k u _ h => F8_kept k u _ _ h (Kept2.of_but hst.2)) (hS.then hst)⟩
      · obtain ⟨g, g1, f3, hc⟩ := (haft ⟨0, .data⟩ (by simp) rfl).2 _ rfl
        have f3 : a.tmps.getD 34 undef = .slice (some ⟨g, 0, none⟩) 4 4 := f3
        obtain ⟨m, hm, f5⟩ := (haft ⟨2, .data⟩ (by simp) rfl).2 _ rfl
        have f5 : a.tmps.getD 36 undef = .int .i64 m := f5
        have m0 : (0 : Int) ≤ (m : Int) := by omega
        have m1 : (m : Int) < 4 := by omega
        refine hop_val rfl (.pointer (some ⟨g, m, none⟩)) (w' := wx) ?_ (hK _ _ ⟨g, m, g1, rfl, hc m hm⟩ (fun _ _ _ h => h) hS)
        simp [execOp, Act.eval, f3, f5, go_sem, -Array.getD_eq_getD_getElem?]
        intro h; omega
      · obtain ⟨g, m, g1, f6, s, hs, hc⟩ := (haft ⟨3, .data⟩ (by simp) rfl).2 _ rfl
        have f6 : a.tmps.getD 37 undef = .pointer (some ⟨g, m, none⟩) := f6
        refine hop_val rfl (.string s) (w' := wx) ?_ (hK _ _ ⟨s, hs, rfl⟩ (fun _ _ _ h => h) hS)
        simp [execOp, Act.eval, f6, hc, go_sem, -Array.getD_eq_getD_getElem?]
      · obtain ⟨s1, hs1, f1⟩ := (haft ⟨4, .data⟩ (by simp) rfl).2 _ rfl
        have f1 : a.tmps.getD 38 undef = .string s1 := f1
        have hl : ((⟨#[115, 116, 97, 116, 105, 111, 110, 32]⟩ : ByteArray) ++ s1).size ≤ 13 := app_le (Nat.le_refl 8) hs1 (Nat.le_refl _)
        refine hop_val rfl (.string ((⟨#[115, 116, 97, 116, 105, 111, 110, 32]⟩ : ByteArray) ++ s1)) (w' := wx) ?_ (hK _ _ ⟨_, hl, rfl⟩ (fun _ _ _ h => h) hS)
        simp [execOp, Act.eval, f1, go_sem, -Array.getD_eq_getD_getElem?]
        clear hK hcl haft hl hA
        omega
      · obtain ⟨s0, hs0, f0⟩ := (haft ⟨5, .data⟩ (by simp) rfl).2 _ rfl
        have f0 : a.tmps.getD 39 undef = .string s0 := f0
        have hl : (s0 ++ (⟨#[32]⟩ : ByteArray)).size ≤ 14 := app_le hs0 (Nat.le_refl 1) (Nat.le_refl _)
        refine hop_val rfl (.string (s0 ++ (⟨#[32]⟩ : ByteArray))) (w' := wx) ?_ (hK _ _ ⟨_, hl, rfl⟩ (fun _ _ _ h => h) hS)
        simp [execOp, Act.eval, f0, go_sem, -Array.getD_eq_getD_getElem?]
        clear hK hcl haft hl hA
        omega
      · have hB : Below wx.heap.size wx (wx.alloc (.cells #[.string ⟨#[65, 66, 49, 50, 51]⟩, .string ⟨#[120]⟩, .string ⟨#[]⟩] 9)) := (Below.refl _ _).alloc (Nat.le_refl _) _
        have hgc := hS.lt
        refine hop_val rfl (.slice (some ⟨wx.heap.size, 0, none⟩) 3 3) (w' := wx.alloc (.cells #[.string ⟨#[65, 66, 49, 50, 51]⟩, .string ⟨#[120]⟩, .string ⟨#[]⟩] 9)) ?_ (hK _ _ ⟨wx.heap.size, by omega, rfl, ?_⟩ (fun k u _ h => F8_kept k u _ _ h (Kept2.of_below hB)) (hS.alloc _))
        · simp [execOp, Act.eval, go_sem, -Array.getD_eq_getD_getElem?]
        · intro m hm
          have : m = 0 ∨ m = 1 ∨ m = 2 := by omega
          rcases this with rfl | rfl | rfl
          · exact ⟨⟨#[65, 66, 49, 50, 51]⟩, by decide, by simp⟩
          · exact ⟨⟨#[120]⟩, by decide, by simp⟩
          · exact ⟨⟨#[]⟩, by decide, by simp⟩
      · have h0 : a.tmps.getD 0 undef = .pointer (some ⟨b, 0, none⟩) := same_slot hA 0 (by kernel_rfl)
        refine hop_val rfl (.pointer (some ⟨b, 0, none⟩)) (w' := wx) ?_ (hK _ _ rfl (fun _ _ _ h => h) hS)
        simp [execOp, Act.eval, h0, go_sem, -Array.getD_eq_getD_getElem?]
      · have f0 : a.tmps.getD 42 undef = .pointer (some ⟨b, 0, none⟩) := (haft ⟨8, .data⟩ (by simp) rfl).2 _ rfl
        refine hop_call rfl Tryz.func7 (by kernel_rfl) (by kernel_rfl) _ _ rfl #[.pointer (some ⟨b, 0, none⟩), .int .i64 3] (by simp only [List.map_toArray, List.map_cons, List.map_nil, Act.eval, f0]) _ (next_ok B b 3 wx hS.1 (by omega) (by omega)) ?_
        rintro e wy ⟨z, z0, z1, rfl, hst⟩
        obtain ⟨m, rfl⟩ : ∃ m : Nat, z = m := ⟨z.toNat, by omega⟩
        exact ⟨_, rfl, hK _ _ ⟨m, by omega, rfl⟩ (fun k u _ h => F8_kept k u _ _ h (Kept2.of_but hst.2)) (hS.then hst)⟩
      · obtain ⟨g, g1, f3, hc⟩ := (haft ⟨7, .data⟩ (by simp) rfl).2 _ rfl
        have f3 : a.tmps.getD 41 undef = .slice (some ⟨g, 0, none⟩) 3 3 := f3
        obtain ⟨m, hm, f5⟩ := (haft ⟨9, .data⟩ (by simp) rfl).2 _ rfl
        have f5 : a.tmps.getD 43 undef = .int .i64 m := f5
        have m0 : (0 : Int) ≤ (m : Int) := by omega
        have m1 : (m : Int) < 3 := by omega
        refine hop_val rfl (.pointer (some ⟨g, m, none⟩)) (w' := wx) ?_ (hK _ _ ⟨g, m, g1, rfl, hc m hm⟩ (fun _ _ _ h => h) hS)
        simp [execOp, Act.eval, f3, f5, go_sem, -Array.getD_eq_getD_getElem?]
        intro h; omega
      · obtain ⟨g, m, g1, f6, s, hs, hc⟩ := (haft ⟨10, .data⟩ (by simp) rfl).2 _ rfl
        have f6 : a.tmps.getD 44 undef = .pointer (some ⟨g, m, none⟩) := f6
        refine hop_val rfl (.string s) (w' := wx) ?_ (hK _ _ ⟨s, hs, rfl⟩ (fun _ _ _ h => h) hS)
        simp [execOp, Act.eval, f6, hc, go_sem, -Array.getD_eq_getD_getElem?]
      · obtain ⟨s0, hs0, f0⟩ := (haft ⟨6, .data⟩ (by simp) rfl).2 _ rfl
        have f0 : a.tmps.getD 40 undef = .string s0 := f0
        obtain ⟨s1, hs1, f1⟩ := (haft ⟨11, .data⟩ (by simp) rfl).2 _ rfl
        have f1 : a.tmps.getD 45 undef = .string s1 := f1
        have hl : (s0 ++ s1).size ≤ 19 := app_le hs0 hs1 (Nat.le_refl _)
        refine hop_val rfl (.string (s0 ++ s1)) (w' := wx) ?_ (hK _ _ ⟨_, hl, rfl⟩ (fun _ _ _ h => h) hS)
        simp [execOp, Act.eval, f0, f1, go_sem, -Array.getD_eq_getD_getElem?]
        clear hK hcl haft hl hA
        omega
      · obtain ⟨s0, hs0, f0⟩ := (haft ⟨12, .data⟩ (by simp) rfl).2 _ rfl
        have f0 : a.tmps.getD 46 undef = .string s0 := f0
        have hl : (s0 ++ (⟨#[32]⟩ : ByteArray)).size ≤ 20 := app_le hs0 (Nat.le_refl 1) (Nat.le_refl _)
        refine hop_val rfl (.string (s0 ++ (⟨#[32]⟩ : ByteArray))) (w' := wx) ?_ (hK _ _ ⟨_, hl, rfl⟩ (fun _ _ _ h => h) hS)
        simp [execOp, Act.eval, f0, go_sem, -Array.getD_eq_getD_getElem?]
        clear hK hcl haft hl hA
        omega
      · have hB : Below wx.heap.size wx (wx.alloc (.cells #[.string ⟨#[48]⟩, .string ⟨#[54, 48]⟩, .string ⟨#[45, 49]⟩, .string ⟨#[120]⟩] 9)) := (Below.refl _ _).alloc (Nat.le_refl _) _
        have hgc := hS.lt
        refine hop_val rfl (.slice (some ⟨wx.heap.size, 0, none⟩) 4 4) (w' := wx.alloc (.cells #[.string ⟨#[48]⟩, .string ⟨#[54, 48]⟩, .string ⟨#[45, 49]⟩, .string ⟨#[120]⟩] 9)) ?_ (hK _ _ ⟨wx.heap.size, by omega, rfl, ?_⟩ (fun k u _ h => F8_kept k u _ _ h (Kept2.of_below hB)) (hS.alloc _))
        · simp [execOp, Act.eval, go_sem, -Array.getD_eq_getD_getElem?]
        · intro m hm
          have : m = 0 ∨ m = 1 ∨ m = 2 ∨ m = 3 := by omega
          rcases this with rfl | rfl | rfl | rfl
          · exact ⟨⟨#[48]⟩, by decide, by simp⟩
          · exact ⟨⟨#[54, 48]⟩, by decide, by simp⟩
          · exact ⟨⟨#[45, 49]⟩, by decide, by simp⟩
          · exact ⟨⟨#[120]⟩, by decide, by simp⟩
      · have h0 : a.tmps.getD 0 undef = .pointer (some ⟨b, 0, none⟩) := same_slot hA 0 (by kernel_rfl)
        refine hop_val rfl (.pointer (some ⟨b, 0, none⟩)) (w' := wx) ?_ (hK _ _ rfl (fun _ _ _ h => h) hS)
        simp [execOp, Act.eval, h0, go_sem, -Array.getD_eq_getD_getElem?]
      · have f0 : a.tmps.getD 49 undef = .pointer (some ⟨b, 0, none⟩) := (haft ⟨15, .data⟩ (by simp) rfl).2 _ rfl
        refine hop_call rfl Tryz.func7 (by kernel_rfl) (by kernel_rfl) _ _ rfl #[.pointer (some ⟨b, 0, none⟩), .int .i64 4] (by simp only [List.map_toArray, List.map_cons, List.map_nil, Act.eval, f0]) _ (next_ok B b 4 wx hS.1 (by omega) (by omega)) ?_
        rintro e wy ⟨z, z0, z1, rfl, hst⟩
        obtain ⟨m, rfl⟩ : ∃ m : Nat, z = m := ⟨z.toNat, by omega⟩
        exact ⟨_, rfl, hK _ _ ⟨m, by omega, rfl⟩ (fun k u _ h => F8_kept k u _ _ h (Kept2.of_but hst.2)) (hS.then hst)⟩
      · obtain ⟨g, g1, f3, hc⟩ := (haft ⟨14, .data⟩ (by simp) rfl).2 _ rfl
        have f3 : a.tmps.getD 48 undef = .slice (some ⟨g, 0, none⟩) 4 4 := f3
        obtain ⟨m, hm, f5⟩ := (haft ⟨16, .data⟩ (by simp) rfl).2 _ rfl
        have f5 : a.tmps.getD 50 undef = .int .i64 m := f5
        have m0 : (0 : Int) ≤ (m : Int) := by omega
        have m1 : (m : Int) < 4 := by omega
        refine hop_val rfl (.pointer (some ⟨g, m, none⟩)) (w' := wx) ?_ (hK _ _ ⟨g, m, g1, rfl, hc m hm⟩ (fun _ _ _ h => h) hS)
        simp [execOp, Act.eval, f3, f5, go_sem, -Array.getD_eq_getD_getElem?]
        intro h; omega
      · obtain ⟨g, m, g1, f6, s, hs, hc⟩ := (haft ⟨17, .data⟩ (by simp) rfl).2 _ rfl
        have f6 : a.tmps.getD 51 undef = .pointer (some ⟨g, m, none⟩) := f6
        refine hop_val rfl (.string s) (w' := wx) ?_ (hK _ _ ⟨s, hs, rfl⟩ (fun _ _ _ h => h) hS)
        simp [execOp, Act.eval, f6, hc, go_sem, -Array.getD_eq_getD_getElem?]
      · obtain ⟨s0, hs0, f0⟩ := (haft ⟨13, .data⟩ (by simp) rfl).2 _ rfl
        have f0 : a.tmps.getD 47 undef = .string s0 := f0
        obtain ⟨s1, hs1, f1⟩ := (haft ⟨18, .data⟩ (by simp) rfl).2 _ rfl
        have f1 : a.tmps.getD 52 undef = .string s1 := f1
        have hl : (s0 ++ s1).size ≤ 22 := app_le hs0 hs1 (Nat.le_refl _)
        refine hop_val rfl (.string (s0 ++ s1)) (w' := wx) ?_ (hK _ _ ⟨_, hl, rfl⟩ (fun _ _ _ h => h) hS)
        simp [execOp, Act.eval, f0, f1, go_sem, -Array.getD_eq_getD_getElem?]
        clear hK hcl haft hl hA
        omega
      · have hB : Below wx.heap.size wx (wx.alloc (.cells #[.string ⟨#[32, 99, 108, 111, 115, 101, 100]⟩, .string ⟨#[32, 97, 116, 32, 48, 32, 56, 52, 48, 32, 48, 32, 48]⟩, .string ⟨#[32, 97, 116, 32, 49, 32, 50, 32, 51]⟩, .string ⟨#[32, 111, 112, 101, 110]⟩, .string ⟨#[]⟩] 9)) := (Below.refl _ _).alloc (Nat.le_refl _) _
        have hgc := hS.lt
        refine hop_val rfl (.slice (some ⟨wx.heap.size, 0, none⟩) 5 5) (w' := wx.alloc (.cells #[.string ⟨#[32, 99, 108, 111, 115, 101, 100]⟩, .string ⟨#[32, 97, 116, 32, 48, 32, 56, 52, 48, 32, 48, 32, 48]⟩, .string ⟨#[32, 97, 116, 32, 49, 32, 50, 32, 51]⟩, .string ⟨#[32, 111, 112, 101, 110]⟩, .string ⟨#[]⟩] 9)) ?_ (hK _ _ ⟨wx.heap.size, by omega, rfl, ?_⟩ (fun k u _ h => F8_kept k u _ _ h (Kept2.of_below hB)) (hS.alloc _))
        · simp [execOp, Act.eval, go_sem, -Array.getD_eq_getD_getElem?]
        · intro m hm
          have : m = 0 ∨ m = 1 ∨ m = 2 ∨ m = 3 ∨ m = 4 := by omega
          rcases this with rfl | rfl | rfl | rfl | rfl
          · exact ⟨⟨#[32, 99, 108, 111, 115, 101, 100]⟩, by decide, by simp⟩
          · exact ⟨⟨#[32, 97, 116, 32, 48, 32, 56, 52, 48, 32, 48, 32, 48]⟩, by decide, by simp⟩
          · exact ⟨⟨#[32, 97, 116, 32, 49, 32, 50, 32, 51]⟩, by decide, by simp⟩
          · exact ⟨⟨#[32, 111, 112, 101, 110]⟩, by decide, by simp⟩
          · exact ⟨⟨#[]⟩, by decide, by simp⟩
      · have h0 : a.tmps.getD 0 undef = .pointer (some ⟨b, 0, none⟩) := same_slot hA 0 (by kernel_rfl)
        refine hop_val rfl (.pointer (some ⟨b, 0, none⟩)) (w' := wx) ?_ (hK _ _ rfl (fun _ _ _ h => h) hS)
        simp [execOp, Act.eval, h0, go_sem, -Array.getD_eq_getD_getElem?]
      · have f0 : a.tmps.getD 55 undef = .pointer (some ⟨b, 0, none⟩) := (haft ⟨21, .data⟩ (by simp) rfl).2 _ rfl
        refine hop_call rfl Tryz.func7 (by kernel_rfl) (by kernel_rfl) _ _ rfl #[.pointer (some ⟨b, 0, none⟩), .int .i64 5] (by simp only [List.map_toArray, List.map_cons, List.map_nil, Act.eval, f0]) _ (next_ok B b 5 wx hS.1 (by omega) (by omega)) ?_
        rintro e wy ⟨z, z0, z1, rfl, hst⟩
        obtain ⟨m, rfl⟩ : ∃ m : Nat, z = m := ⟨z.toNat, by omega⟩
        exact ⟨_, rfl, hK _ _ ⟨m, by omega, rfl⟩ (fun k u _ h => F8_kept k u _ _ h (Kept2.of_but hst.2)) (hS.then hst)⟩
      · obtain ⟨g, g1, f3, hc⟩ := (haft ⟨20, .data⟩ (by simp) rfl).2 _ rfl
        have f3 : a.tmps.getD 54 undef = .slice (some ⟨g, 0, none⟩) 5 5 := f3
        obtain ⟨m, hm, f5⟩ := (haft ⟨22, .data⟩ (by simp) rfl).2 _ rfl
        have f5 : a.tmps.getD 56 undef = .int .i64 m := f5
        have m0 : (0 : Int) ≤ (m : Int) := by omega
        have m1 : (m : Int) < 5 := by omega
        refine hop_val rfl (.pointer (some ⟨g, m, none⟩)) (w' := wx) ?_ (hK _ _ ⟨g, m, g1, rfl, hc m hm⟩ (fun _ _ _ h => h) hS)
        simp [execOp, Act.eval, f3, f5, go_sem, -Array.getD_eq_getD_getElem?]
        intro h; omega
      · obtain ⟨g, m, g1, f6, s, hs, hc⟩ := (haft ⟨23, .data⟩ (by simp) rfl).2 _ rfl
        have f6 : a.tmps.getD 57 undef = .pointer (some ⟨g, m, none⟩) := f6
        refine hop_val rfl (.string s) (w' := wx) ?_ (hK _ _ ⟨s, hs, rfl⟩ (fun _ _ _ h => h) hS)
        simp [execOp, Act.eval, f6, hc, go_sem, -Array.getD_eq_getD_getElem?]
      · obtain ⟨s0, hs0, f0⟩ := (haft ⟨19, .data⟩ (by simp) rfl).2 _ rfl
        have f0 : a.tmps.getD 53 undef = .string s0 := f0
        obtain ⟨s1, hs1, f1⟩ := (haft ⟨24, .data⟩ (by simp) rfl).2 _ rfl
        have f1 : a.tmps.getD 58 undef = .string s1 := f1
        have hl : (s0 ++ s1).size ≤ 35 := app_le hs0 hs1 (Nat.le_refl _)
        refine hop_val rfl (.string (s0 ++ s1)) (w' := wx) ?_ (hK _ _ ⟨_, hl, rfl⟩ (fun _ _ _ h => h) hS)
        simp [execOp, Act.eval, f0, f1, go_sem, -Array.getD_eq_getD_getElem?]
        clear hK hcl haft hl hA
        omega
      · have hB : Below wx.heap.size wx (wx.alloc (.cells #[.string ⟨#[]⟩, .string ⟨#[32, 98, 105, 97, 115, 32, 49, 32, 45, 53]⟩, .string ⟨#[32, 98, 105, 97, 115, 32, 49]⟩, .string ⟨#[32, 98, 105, 97, 115, 32, 49, 32, 50, 32, 98, 105, 97, 115, 32, 51, 32, 52]⟩, .string ⟨#[32, 98, 105, 97, 115, 32, 97, 32, 98]⟩] 9)) := (Below.refl _ _).alloc (Nat.le_refl _) _
        have hgc := hS.lt
        refine hop_val rfl (.slice (some ⟨wx.heap.size, 0, none⟩) 5 5) (w' := wx.alloc (.cells #[.string ⟨#[]⟩, .string ⟨#[32, 98, 105, 97, 115, 32, 49, 32, 45, 53]⟩, .string ⟨#[32, 98, 105, 97, 115, 32, 49]⟩, .string ⟨#[32, 98, 105, 97, 115, 32, 49, 32, 50, 32, 98, 105, 97, 115, 32, 51, 32, 52]⟩, .string ⟨#[32, 98, 105, 97, 115, 32, 97, 32, 98]⟩] 9)) ?_ (hK _ _ ⟨wx.heap.size, by omega, rfl, ?_⟩ (fun k u _ h => F8_kept k u _ _ h (Kept2.of_below hB)) (hS.alloc _))
        · simp [execOp, Act.eval, go_sem, -Array.getD_eq_getD_getElem?]
        · intro m hm
          have : m = 0 ∨ m = 1 ∨ m = 2 ∨ m = 3 ∨ m = 4 := by omega
          rcases this with rfl | rfl | rfl | rfl | rfl
          · exact ⟨⟨#[]⟩, by decide, by simp⟩
          · exact ⟨⟨#[32, 98, 105, 97, 115, 32, 49, 32, 45, 53]⟩, by decide, by simp⟩
          · exact ⟨⟨#[32, 98, 105, 97, 115, 32, 49]⟩, by decide, by simp⟩
          · exact ⟨⟨#[32, 98, 105, 97, 115, 32, 49, 32, 50, 32, 98, 105, 97, 115, 32, 51, 32, 52]⟩, by decide, by simp⟩
          · exact ⟨⟨#[32, 98, 105, 97, 115, 32, 97, 32, 98]⟩, by decide, by simp⟩
      · have h0 : a.tmps.getD 0 undef = .pointer (some ⟨b, 0, none⟩) := same_slot hA 0 (by kernel_rfl)
        refine hop_val rfl (.pointer (some ⟨b, 0, none⟩)) (w' := wx) ?_ (hK _ _ rfl (fun _ _ _ h => h) hS)
        simp [execOp, Act.eval, h0, go_sem, -Array.getD_eq_getD_getElem?]
      · have f0 : a.tmps.getD 61 undef = .pointer (some ⟨b, 0, none⟩) := (haft ⟨27, .data⟩ (by simp) rfl).2 _ rfl
        refine hop_call rfl Tryz.func7 (by kernel_rfl) (by kernel_rfl) _ _ rfl #[.pointer (some ⟨b, 0, none⟩), .int .i64 5] (by simp only [List.map_toArray, List.map_cons, List.map_nil, Act.eval, f0]) _ (next_ok B b 5 wx hS.1 (by omega) (by omega)) ?_
        rintro e wy ⟨z, z0, z1, rfl, hst⟩
        obtain ⟨m, rfl⟩ : ∃ m : Nat, z = m := ⟨z.toNat, by omega⟩
        exact ⟨_, rfl, hK _ _ ⟨m, by omega, rfl⟩ (fun k u _ h => F8_kept k u _ _ h (Kept2.of_but hst.2)) (hS.then hst)⟩
      · obtain ⟨g, g1, f3, hc⟩ := (haft ⟨26, .data⟩ (by simp) rfl).2 _ rfl
        have f3 : a.tmps.getD 60 undef = .slice (some ⟨g, 0, none⟩) 5 5 := f3
        obtain ⟨m, hm, f5⟩ := (haft ⟨28, .data⟩ (by simp) rfl).2 _ rfl
        have f5 : a.tmps.getD 62 undef = .int .i64 m := f5
        have m0 : (0 : Int) ≤ (m : Int) := by omega
        have m1 : (m : Int) < 5 := by omega
        refine hop_val rfl (.pointer (some ⟨g, m, none⟩)) (w' := wx) ?_ (hK _ _ ⟨g, m, g1, rfl, hc m hm⟩ (fun _ _ _ h => h) hS)
        simp [execOp, Act.eval, f3, f5, go_sem, -Array.getD_eq_getD_getElem?]
        intro h; omega
      · obtain ⟨g, m, g1, f6, s, hs, hc⟩ := (haft ⟨29, .data⟩ (by simp) rfl).2 _ rfl
        have f6 : a.tmps.getD 63 undef = .pointer (some ⟨g, m, none⟩) := f6
        refine hop_val rfl (.string s) (w' := wx) ?_ (hK _ _ ⟨s, hs, rfl⟩ (fun _ _ _ h => h) hS)
        simp [execOp, Act.eval, f6, hc, go_sem, -Array.getD_eq_getD_getElem?]
      · obtain ⟨s0, hs0, f0⟩ := (haft ⟨25, .data⟩ (by simp) rfl).2 _ rfl
        have f0 : a.tmps.getD 59 undef = .string s0 := f0
        obtain ⟨s1, hs1, f1⟩ := (haft ⟨30, .data⟩ (by simp) rfl).2 _ rfl
        have f1 : a.tmps.getD 64 undef = .string s1 := f1
        have hl : (s0 ++ s1).size ≤ 53 := app_le hs0 hs1 (Nat.le_refl _)
        refine hop_val rfl (.string (s0 ++ s1)) (w' := wx) ?_ (hK _ _ ⟨_, hl, rfl⟩ (fun _ _ _ h => h) hS)
        simp [execOp, Act.eval, f0, f1, go_sem, -Array.getD_eq_getD_getElem?]
        clear hK hcl haft hl hA
        omega
      · obtain ⟨s, hs, f6⟩ := (haft ⟨31, .data⟩ (by simp) rfl).2 _ rfl
        have f6 : a.tmps.getD 65 undef = .string s := f6
        refine hop_val rfl (.string s) (w' := wx) ?_ (hK _ _ ⟨s, hs, rfl⟩ (fun _ _ _ h => h) hS)
        simp [execOp, Act.eval, f6, go_sem, -Array.getD_eq_getD_getElem?]
    case hend =>
      intro u w2 d hd hS hF
      obtain ⟨s, hs, hu⟩ : FStr 53 (u 3) := hF 32 _ rfl
      have HS2 := Lib.hid hS
      have Hs := Lib.hid hs
      clear hF hd d hS hs
      simp only [mixL, hu]
      go_wp2_with fail
      go_ret
      exact ⟨s, rfl, by have := Hs.out; omega, HS2.out⟩
  · have z0 : (z == 0) = false := by simp; omega
    have z1 : (z == 1) = false := by simp; omega
    have z2 : (z == 2) = false := by simp; omega
    clear hz0 hz1 hz2
    go_wp2_with fail
    refine (event_any B b w1 HS1.out.1).mono ?_
    rintro e w2 ⟨x, bv, cv, rfl, hp, hw, hpl, _, _, hst⟩
    have HS2 := Lib.hid (HS1.out.then hst)
    have HW := Lib.hid hw
    have HP := Lib.hid (And.intro (hp.mono (Nat.zero_le _)) hpl)
    clear hst hw hp hpl
    unfold Ev.val
    go_wp2_with fail
    refine (rwrite_any x bv cv w2 HP.out.1 (fun _ => HP.out.2)).mono ?_
    rintro e w3 ⟨rfl, hb⟩
    have HB := Lib.hid hb
    obtain ⟨s, hs⟩ : ∃ s, s = (if errOf x = 0 then lineW x else ⟨#[]⟩) := ⟨_, rfl⟩
    rw [← hs]
    have Hs : Hid (s.size ≤ 500) := by
      rw [hs]; exact lw_size HW.out
    clear hs hb
    go_wp2_with fail
    go_ret
    exact ⟨s, rfl, Hs.out, HS2.out.below HB.out⟩
end Go.Proofs.YtobaoekibnloiaaGreatDoor
/- What script's reading of a station amounts to. No walk. -/
namespace Go.Proofs.YtobaoekibnloiaaGreatDoor
open Go Go.RowKit

theorem idx_kind (s : ByteArray) : max (Lib.idxOfS [⟨#[]⟩, kLand, kShip, kBuoy] s) 0 = (kindF s).getD 0 := by
  unfold kindF
  by_cases h0 : s = ⟨#[]⟩
  · subst h0; decide
  by_cases h1 : s = kLand
  · subst h1; decide
  by_cases h2 : s = kShip
  · subst h2; decide
  by_cases h3 : s = kBuoy
  · subst h3; decide
  rw [if_neg h1, if_neg h2, if_neg h3]
  have e : Lib.idxOfS [⟨#[]⟩, kLand, kShip, kBuoy] s = -1 := by
    simp [Lib.idxOfS, Lib.idxFromS, Ne.symm h0, Ne.symm h1, Ne.symm h2, Ne.symm h3, h0, h1, h2, h3]
  rw [e]; rfl
theorem skinds_at (w : World) (H : Nat) (hH : w.heap.size = H) :
    Calls Tryz.prog 32 #[] w fun e w' => e = .returned (.slice (some ⟨H, 0, none⟩) 4 4) ∧ Below w.heap.size w w' ∧ H < w'.heap.size ∧ ∀ j, j < 4 → w'.cell? ⟨H, j, none⟩ = some (.string (([⟨#[]⟩, kLand, kShip, kBuoy] : List ByteArray).getD j ByteArray.empty)) := by
  subst hH
  refine (kinds_any w).mono ?_
  rintro e w' ⟨rfl, rfl⟩
  refine ⟨rfl, (Below.refl _ _).alloc (Nat.le_refl _) _, by simp, fun j hj => ?_⟩
  have : j = 0 ∨ j = 1 ∨ j = 2 ∨ j = 3 := by omega
  rcases this with rfl | rfl | rfl | rfl <;> simp
theorem Cur.kept {w w' : World} {pb : Nat} {ws : List ByteArray} {bad : Bool} (h : Cur w pb ws bad) (hb : ∀ k, k ≤ pb → w'.heap[k]? = w.heap[k]?) : Cur w' pb ws bad := by
  obtain ⟨a, cap, h1, h2, h3, h4, h5, h6, h7⟩ := h
  have hp := hb pb (Nat.le_refl _)
  refine ⟨a, cap, h1, h2, ?_, ?_, ?_, ?_, ?_⟩
  · rw [World.cell?_of_block (w := w) hp]; exact h3
  · rw [World.cell?_of_block (w := w) hp]; exact h4
  · rw [World.frozen?_of_block (w := w) hp]; exact h5
  · rw [World.frozen?_of_block (w := w) hp]; exact h6
  · intro i hi
    obtain ⟨ab, ao, ha, hn, hc⟩ := h7 i hi
    refine ⟨ab, ao, ha, hn, ?_⟩
    have e : w'.cell? ⟨ab, ao + i, none⟩ = w.cell? ⟨ab, ao + i, none⟩ := World.cell?_of_block (w := w) (hb _ (Nat.le_of_lt hn))
    rw [e]; exact hc
theorem Cur.setEb {w : World} {pb eb : Nat} {ws : List ByteArray} {bad : Bool} (h : Cur w pb ws bad) (he : pb < eb) (j : Nat) (u : Value) : Cur (w.setCell ⟨eb, j, none⟩ u) pb ws bad :=
  h.kept fun k hk => Below.heap_setCell _ _ _ _ (by simp; omega)
theorem EvAt.setPb {w : World} {pb eb : Nat} {cs : List Value} (h : EvAt w eb cs) (he : pb < eb) (j : Nat) (u : Value) : EvAt (w.setCell ⟨pb, j, none⟩ u) eb cs := h.other (by simp; omega) u
theorem headD_cons {t : List ByteArray} {x : ByteArray} (h : t.headD ByteArray.empty = x) (hx : x ≠ ByteArray.empty) : t = x :: t.tail := by
  cases t with
  | nil => exact absurd h.symm hx
  | cons a r => simp at h; subst h; rfl
theorem name_ne {s : ByteArray} (h : nameOk s = true) : s ≠ ByteArray.empty := by
  rintro rfl; exact absurd h (by decide)
theorem kind_ne {s : ByteArray} (h : (kindF s).getD 0 ≠ 0) : kindF s = some ((kindF s).getD 0) := by
  cases e : kindF s with
  | none => rw [e] at h; exact absurd rfl h
  | some k => rfl
/-- What is known behind a call that reads a number. -/
def NumSt (t : List ByteArray) (b : Bool) (n : Int) (b' : Bool) : Prop := I64 n ∧ (b' = false → b = false ∧ ¬ longI n ∧ t.headD ByteArray.empty = istr n) ∧ (b = false → ∀ m, ¬ longI m → t.headD ByteArray.empty = istr m → b' = false)
/-- The four words at the head, read. -/
theorem head_ok {ws : List ByteArray} {b3 b4 : Bool} {n : Int} (h3 : b3 = false ↔ (ws.isEmpty || ((kindF (ws.headD ByteArray.empty)).getD 0 == 0)) = false ∧ nameOk (ws.tail.headD ByteArray.empty) = true) (h4 : NumSt ws.tail.tail b3 n b4)
    (h5 : (b4 || ws.tail.tail.tail.isEmpty) = false) :
    ws = ws.headD ByteArray.empty :: ws.tail.headD ByteArray.empty :: ws.tail.tail.headD ByteArray.empty :: ws.tail.tail.tail.headD ByteArray.empty :: ws.tail.tail.tail.tail ∧ kindF (ws.headD ByteArray.empty) = some ((kindF (ws.headD ByteArray.empty)).getD 0) ∧ nameOk (ws.tail.headD ByteArray.empty) = true ∧ numF (ws.tail.tail.headD ByteArray.empty) = some n := by
  have e4 : b4 = false := by cases b4 <;> simp_all
  have e5 : ws.tail.tail.tail.isEmpty = false := by cases b4 <;> simp_all
  obtain ⟨e3, hn, hw⟩ := h4.2.1 e4
  obtain ⟨e2, hm⟩ := h3.1 e3
  have e1 : ws.isEmpty = false := by cases hq : ws.isEmpty <;> simp_all
  have ek : (kindF (ws.headD ByteArray.empty)).getD 0 ≠ 0 := by
    intro h; rw [h] at e2; simp at e2
  refine ⟨?_, kind_ne ek, hm, numF_iff.2 ⟨hn, hw⟩⟩
  cases ws with
  | nil => simp at e1
  | cons a r =>
    cases r with
    | nil => exact absurd rfl (name_ne hm)
    | cons b r =>
      cases r with
      | nil => exact absurd hw.symm (istr_ne n)
      | cons c r =>
        cases r with
        | nil => simp at e5
        | cons d r => rfl
theorem head_bad {ws : List ByteArray} {b3 b4 : Bool} {n : Int} (h3 : b3 = false ↔ (ws.isEmpty || ((kindF (ws.headD ByteArray.empty)).getD 0 == 0)) = false ∧ nameOk (ws.tail.headD ByteArray.empty) = true) (h4 : NumSt ws.tail.tail b3 n b4)
    (h5 : (b4 || ws.tail.tail.tail.isEmpty) = true) : stF ws = none := by
  cases hq : stF ws with
  | none => rfl
  | some x =>
    exfalso
    unfold stF at hq
    split at hq
    · next k nm f c r =>
      split at hq
      · next hn =>
        split at hq
        · next st fr hk hf =>
          obtain ⟨k1, k2, hkw⟩ := kindF_iff.1 hk
          obtain ⟨f1, hfw⟩ := numF_iff.1 hf
          have e3 : b3 = false := h3.2 ⟨by simp [hk]; omega, hn⟩
          have e4 : b4 = false := h4.2.2 e3 fr f1 hfw
          rw [e4] at h5; simp at h5
        · cases hq
      · cases hq
    · cases hq
def evSt (st : Int) (nm : ByteArray) (n : Int) (c : Bool) (p q r s : Int) (l : List (Int × Int)) : Ev := ⟨4, ⟨#[]⟩, [], 0, st, nm, n, c, p, q, r, s, l⟩
theorem st_closed {k nm f : ByteArray} {r : List ByteArray} {st n : Int} (hk : kindF k = some st) (hn : nameOk nm = true) (hf : numF f = some n) : stF (k :: nm :: f :: kwClosed :: r) = (biasF r).map fun l => evSt st nm n true 0 0 0 0 l := by
  simp [stF, hn, hk, hf, evSt]
theorem st_other {k nm f c : ByteArray} {r : List ByteArray} (h1 : c ≠ kwClosed) (h2 : c ≠ kwAt) : stF (k :: nm :: f :: c :: r) = none := by
  simp only [stF, h1, h2, if_false]
  split
  · split <;> rfl
  · rfl
theorem st_at {k nm f a b c d : ByteArray} {r : List ByteArray} {st n p q u s : Int} (hk : kindF k = some st) (hn : nameOk nm = true) (hf : numF f = some n) (ha : numF a = some p) (hb : numF b = some q) (hc : numF c = some u) (hd : numF d = some s) :
    stF (k :: nm :: f :: kwAt :: a :: b :: c :: d :: r) = (biasF r).map fun l => evSt st nm n false p q u s l := by
  have e : kwAt ≠ kwClosed := by decide
  simp only [stF, hn, hk, hf, e, ha, hb, hc, hd, if_true, if_false]
  cases biasF r <;> rfl
/-- Of a place whose words are not four numbers there is no event. -/
theorem st_at_bad {k nm f : ByteArray} {t : List ByteArray} (h : ¬ ∃ p q u s : Int, ∃ r, t = istr p :: istr q :: istr u :: istr s :: r ∧ ¬ longI p ∧ ¬ longI q ∧ ¬ longI u ∧ ¬ longI s) : stF (k :: nm :: f :: kwAt :: t) = none := by
  cases hq : stF (k :: nm :: f :: kwAt :: t) with
  | none => rfl
  | some x =>
    exfalso
    have e : kwAt ≠ kwClosed := by decide
    simp only [stF, e, if_false, if_true] at hq
    split at hq
    · split at hq
      · split at hq
        · split at hq
          · next p q s t' l hp hq' hs ht hb => exact h ⟨p, q, s, t', _, by rw [← (numF_iff.1 hp).2, ← (numF_iff.1 hq').2, ← (numF_iff.1 hs).2, ← (numF_iff.1 ht).2], (numF_iff.1 hp).1, (numF_iff.1 hq').1, (numF_iff.1 hs).1, (numF_iff.1 ht).1⟩
          · cases hq
        · cases hq
      · cases hq
    · cases hq
/-- The four numbers of a place, read. -/
theorem at_ok {t : List ByteArray} {b0 b1 b2 b3 b4 : Bool} {p q u s : Int} (h1 : NumSt t b0 p b1) (h2 : NumSt t.tail b1 q b2) (h3 : NumSt t.tail.tail b2 u b3) (h4 : NumSt t.tail.tail.tail b3 s b4) (hb : b4 = false) :
    b0 = false ∧ t = istr p :: istr q :: istr u :: istr s :: t.tail.tail.tail.tail ∧ ¬ longI p ∧ ¬ longI q ∧ ¬ longI u ∧ ¬ longI s := by
  obtain ⟨e3, ns, ws⟩ := h4.2.1 hb
  obtain ⟨e2, nu, wu⟩ := h3.2.1 e3
  obtain ⟨e1, nq, wq⟩ := h2.2.1 e2
  obtain ⟨e0, np, wp⟩ := h1.2.1 e1
  have t0 := headD_cons wp (istr_ne p)
  have t1 := headD_cons wq (istr_ne q)
  have t2 := headD_cons wu (istr_ne u)
  have t3 := headD_cons ws (istr_ne s)
  exact ⟨e0, by rw [← t3, ← t2, ← t1, ← t0], np, nq, nu, ns⟩
theorem at_bad {t : List ByteArray} {b0 b1 b2 b3 b4 : Bool} {p q u s : Int} (h1 : NumSt t b0 p b1) (h2 : NumSt t.tail b1 q b2) (h3 : NumSt t.tail.tail b2 u b3) (h4 : NumSt t.tail.tail.tail b3 s b4) (h0 : b0 = false) (hb : b4 = true) :
    ¬ ∃ p q u s : Int, ∃ r, t = istr p :: istr q :: istr u :: istr s :: r ∧ ¬ longI p ∧ ¬ longI q ∧ ¬ longI u ∧ ¬ longI s := by
  rintro ⟨p', q', u', s', r, rfl, np, nq, nu, ns⟩
  have e1 := h1.2.2 h0 p' np rfl
  have e2 := h2.2.2 e1 q' nq rfl
  have e3 := h3.2.2 e2 u' nu rfl
  have e4 := h4.2.2 e3 s' ns rfl
  rw [e4] at hb; cases hb
/-- What is left to be read, and what has been read. -/
def Left (F : Option Ev) (G : List (Int × Int) → Ev) (rest : List ByteArray) (bad : Bool) (L : List (Int × Int)) : Prop := (bad = true → F = none) ∧ (bad = false → F = (biasF rest).map fun l => G (L ++ l))
theorem Left.end_ {F : Option Ev} {G : List (Int × Int) → Ev} {L : List (Int × Int)} (h : Left F G [] false L) : F = some (G L) := by
  rw [h.2 rfl]; simp [biasF]
theorem Left.step {F : Option Ev} {G : List (Int × Int) → Ev} {a : ByteArray} {t : List ByteArray} {L : List (Int × Int)} {x y : Int} {b2 b3 : Bool} (h : Left F G (a :: t) false L) (h2 : NumSt t (decide (a ≠ kwBias)) x b2) (h3 : NumSt t.tail b2 y b3) :
    Left F G t.tail.tail b3 (L ++ [(x, y)]) := by
  have hF := h.2 rfl
  constructor
  · intro hb
    rw [hF]
    cases hq : biasF (a :: t) with
    | none => rfl
    | some l =>
      exfalso
      obtain ⟨hl, hw⟩ := (biasF_iff _ _).1 hq
      cases l with
      | nil => simp [biasW] at hw
      | cons p r =>
        have hw' : a :: t = kwBias :: istr p.1 :: istr p.2 :: biasW r := hw
        injection hw' with ha ht
        subst ht
        have hp := hl p (by simp)
        have e2 := h2.2.2 (by simp [ha]) p.1 hp.1 rfl
        have e3 := h3.2.2 e2 p.2 hp.2 rfl
        rw [e3] at hb; cases hb
  · intro hb
    obtain ⟨e2, ny, wy⟩ := h3.2.1 hb
    obtain ⟨e1, nx, wx⟩ := h2.2.1 e2
    have ha : a = kwBias := by simpa using e1
    have t0 := headD_cons wx (istr_ne x)
    have t1 := headD_cons wy (istr_ne y)
    rw [hF, t0, t1, ha]
    simp only [List.tail_cons]
    have e : biasF (kwBias :: istr x :: istr y :: t.tail.tail) = (biasF t.tail.tail).map fun l => (x, y) :: l := by
      rw [biasF, if_pos rfl, numF_iff.2 ⟨nx, rfl⟩, numF_iff.2 ⟨ny, rfl⟩]
      cases biasF t.tail.tail <;> rfl
    rw [e]
    cases biasF t.tail.tail <;> simp
end Go.Proofs.YtobaoekibnloiaaGreatDoor
