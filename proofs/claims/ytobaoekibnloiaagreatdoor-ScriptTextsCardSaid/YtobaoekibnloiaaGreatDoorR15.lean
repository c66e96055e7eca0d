/- ScriptTexts answers true at every input. No conditions. -/
import Derived.Test.YtobaoekibnloiaaGreatDoorR14
import Derived.Test.YtobaoekibnloiaaGreatDoorCards
import Derived.Test.YtobaoekibnloiaaGreatDoorTie
set_option linter.unusedVariables false
set_option linter.unusedSimpArgs false
/- The reference's Format. -/
namespace Go.Proofs.YtobaoekibnloiaaGreatDoor
open Go Go.RowKit

def RFormIs (l : List Ev) (w : World) (e : Ending) (w' : World) : Prop := e = .returned (.tuple #[.string (formatF l).1, .int .i64 (formatF l).2]) ∧ Below w.heap.size w w'
set_option maxHeartbeats 8000000 in
set_option maxRecDepth 100000 in
theorem rformat_any (v : Value) (l : List Ev) (w : World) (hv : EvsIn 0 w v l) (hPl : ∀ x ∈ l, x.closed = true → ¬ longI x.face ∧ ¬ longI x.pa ∧ ¬ longI x.pb ∧ ¬ longI x.pc) (hW : ∀ x ∈ l, x.Within 100 10) (hl : l.length ≤ 1000) :
    Calls Tryz.prog 14 #[v] w (RFormIs l w) := by
  have HV := Lib.hid hv
  obtain ⟨a, ac, rfl, hln, hrest⟩ := hv
  have HPl := Lib.hid hPl
  have HWi := Lib.hid hW
  obtain ⟨n, hn⟩ : ∃ n, n = l.length := ⟨_, rfl⟩
  rw [← hn] at hl HV ⊢
  have Hn := Lib.hid hn
  clear hrest hln hPl hW hn
  go_enter Tryz.func14, Tryz.ntmps14
  go_wp2_with fail
  go_loopw [4, 5] (fun sv x wr => ∃ (j : Nat) (s : ByteArray), j ≤ n ∧ x = .int .i64 j ∧ sv = .string s ∧ (∀ y ∈ l.take j, errOf y = 0) ∧ s.size ≤ 30000 ∧ (s = mkB (fmtL (l.take j)) ∨ (20000 < s.size ∧ 20000 < (fmtL (l.take j)).length)) ∧ Below w.heap.size w wr) (fun _ x _ => (n - intOf x).toNat)
  case atStart => exact ⟨0, ⟨#[]⟩, by omega, rfl, rfl, by simp, by simp [ByteArray.size], Or.inl rfl, Below.refl _ _⟩
  case round =>
    obtain ⟨j, s, hj, rfl, rfl, hok, hss, hsp, hBr⟩ := hrel
    have HOk := Lib.hid hok
    have HSp := Lib.hid hsp
    have HBr := Lib.hid hBr
    clear hok hsp hBr
    by_cases hlt : j < n
    · have hjl : j < l.length := by have := Hn.out; omega
      obtain ⟨ab, ao, bv, cv, rfl, hr, hp⟩ := HV.out.at hjl
      have Hr := Lib.hid (range_below hr HBr.out)
      have Hp := Lib.hid (hp.below HBr.out)
      have HAt : Hid (errOf l[j] ≠ 0 → firstErr l = errOf l[j]) := firstErr_at l j HOk.out hjl
      have HWx := Lib.hid (HWi.out _ (List.getElem_mem hjl))
      have HPx2 := Lib.hid (HPl.out _ (List.getElem_mem hjl))
      have Htk : Hid (l.take (j + 1) = l.take j ++ [l[j]]) := List.take_succ_eq_append_getElem hjl
      have Hne : Hid (l ≠ []) := by unfold Hid; intro e; rw [e] at hjl; simp at hjl
      clear hr hp
      generalize l[j] = x at *
      obtain ⟨er, her⟩ : ∃ er, er = errOf x := ⟨_, rfl⟩
      have Her := Lib.hid her
      clear her
      have i0 : (0 : Int) ≤ (j : Int) := by omega
      have i1 : (j : Int) < (n : Int) := by omega
      go_wp2_with (refine ev_load_at rfl _ rfl ab (ao + j * 13) rfl x bv cv Hr.out ?_)
      refine (rwrite_any x bv cv wr Hp.out HPx2.out).mono ?_
      rintro e w4 ⟨rfl, hb4⟩
      have HB4 := Lib.hid (below_then HBr.out hb4)
      rw [← Her.out]
      clear hb4 Hr Hp
      by_cases he : er = 0
      · have hb : (er != 0) = false := by simpa using he
        have he' : errOf x = 0 := Her.out ▸ he
        have hz := (line_size (good_of_ok he') 100 10 HWx.out (by omega)).2.2
        have Hz := Lib.hid hz
        have HFz : Hid ((fmtL (l.take (j + 1))).length = (fmtL (l.take j)).length + (lineW x).size + 1) := by
          unfold Hid
          have hl2 : (lineW x).data.toList.length = (lineW x).size := Array.length_toList
          rw [Htk.out, fmt_snoc]; simp only [List.length_append, List.length_cons, List.length_nil]; omega
        rw [if_pos he]
        obtain ⟨t, ht⟩ : ∃ t, t = lineW x := ⟨_, rfl⟩
        rw [← ht]
        rw [← ht] at Hz HFz
        have Ht := Lib.hid ht
        have HOk2 : Hid (∀ y ∈ l.take (j + 1), errOf y = 0) := by
          intro y hy
          rw [Htk.out] at hy
          rcases List.mem_append.1 hy with hy | hy
          · exact HOk.out y hy
          · obtain rfl := List.mem_singleton.1 hy; exact he'
        have ha1 : ∀ wx, (Op.stringOp .add t ⟨#[10]⟩).run Tryz.prog wx = .ok (.string (t ++ ⟨#[10]⟩)) wx := fun wx => run_string_add_sum _ _ _ (by have : (⟨#[10]⟩ : ByteArray).size = 1 := rfl; have := Hz.out; omega)
        have ha2 : ∀ wx, (Op.stringOp .add s (t ++ ⟨#[10]⟩)).run Tryz.prog wx = .ok (.string (s ++ (t ++ ⟨#[10]⟩))) wx := fun wx => run_string_add_sum _ _ _ (by rw [ByteArray.size_append]; have : (⟨#[10]⟩ : ByteArray).size = 1 := rfl; have := Hz.out; omega)
        have Hss := Lib.hid hss
        have Her0 := Lib.hid he
        clear ht he he' hz hss
        by_cases h2 : s.size ≤ 20000
        · have hle : (s.size : Int) ≤ 20000 := by omega
          have HS2 := Lib.hid h2
          clear h2
          go_wp2_with fail
          clear ha1 ha2 hle
          go_roundw
          case rel =>
            refine ⟨j + 1, s ++ (t ++ ⟨#[10]⟩), by omega, by go_num, rfl, HOk2.out, ?_, Or.inl ?_, HB4.out⟩
            · rw [ByteArray.size_append, ByteArray.size_append]; have : (⟨#[10]⟩ : ByteArray).size = 1 := rfl; have := Hz.out; have := HS2.out; omega
            · have h1 : s = mkB (fmtL (l.take j)) := HSp.out.elim id fun h => absurd h.1 (by have := HS2.out; omega)
              rw [Htk.out, fmt_snoc, h1, Ht.out]
              apply ByteArray.ext
              simp [mkB, ByteArray.data_append]
          case measure => simp [intOf]; omega
        · have hgt : ¬ (s.size : Int) ≤ 20000 := by omega
          have HS2 := Lib.hid h2
          clear h2
          go_wp2_with fail
          clear ha1 ha2 hgt
          go_roundw
          case rel =>
            refine ⟨j + 1, s, by omega, by go_num, rfl, HOk2.out, Hss.out, Or.inr ⟨by have := HS2.out; omega, ?_⟩, HB4.out⟩
            rw [HFz.out]
            rcases HSp.out with h | h
            · have e : s.size = (fmtL (l.take j)).length := by rw [h]; exact List.size_toArray
              have := HS2.out; omega
            · omega
          case measure => simp [intOf]; omega
      · have hb : (er != 0) = true := by simpa using he
        have HF : Hid (formatF l = (⟨#[]⟩, er)) := by
          have h1 := HAt.out (by rw [← Her.out]; exact he)
          unfold Hid formatF
          rw [h1, ← Her.out, if_pos he]
        rw [if_neg he]
        clear he
        go_wp2_with fail
        go_ret2
        exact ⟨by rw [HF.out]; rfl, HB4.out⟩
    · obtain rfl : j = n := by omega
      have hall : ∀ y ∈ l, errOf y = 0 := by
        intro y hy
        have h := HOk.out
        rw [Hn.out, List.take_length] at h
        exact h y hy
      have hf0 := firstErr_ok hall
      have HSl : Hid (s = mkB (fmtL l) ∨ (20000 < s.size ∧ 20000 < (fmtL l).length)) := by
        have h := HSp.out
        rw [Hn.out, List.take_length] at h
        exact h
      by_cases h200 : 200 < l.length
      · have HF : Hid (formatF l = (⟨#[]⟩, 2)) := by unfold Hid formatF; rw [hf0, if_neg (by simp), if_pos (Or.inl h200)]
        have hgt : (200 : Int) < (j : Int) := by have := Hn.out; omega
        clear hall hf0 h200
        go_wp2_with fail
        go_ret2
        exact ⟨by rw [HF.out]; rfl, HBr.out⟩
      · have hle : ¬ (200 : Int) < (j : Int) := by have := Hn.out; omega
        by_cases h2 : 20000 < s.size
        · have HF : Hid (formatF l = (⟨#[]⟩, 2)) := by
            unfold Hid formatF; rw [hf0, if_neg (by simp), if_pos (Or.inr ?_)]
            rcases HSl.out with h | h
            · have e : s.size = (fmtL l).length := by rw [h]; exact List.size_toArray
              omega
            · exact h.2
          have hgt : (20000 : Int) < (s.size : Int) := by omega
          clear hall hf0 h200 h2
          go_wp2_with fail
          go_ret2
          exact ⟨by rw [HF.out]; rfl, HBr.out⟩
        · have HF : Hid (formatF l = (s, 0)) := by
            have h1 : s = mkB (fmtL l) := HSl.out.elim id fun h => absurd h.1 h2
            have e : s.size = (fmtL l).length := by rw [h1]; exact List.size_toArray
            unfold Hid formatF; rw [hf0, if_neg (by simp), if_neg (by omega), h1]
          have hgt : ¬ (20000 : Int) < (s.size : Int) := by omega
          clear hall hf0 h200 h2
          go_wp2_with fail
          go_ret2
          exact ⟨by rw [HF.out]; rfl, HBr.out⟩
end Go.Proofs.YtobaoekibnloiaaGreatDoor
/- The reference's Parse. -/
namespace Go.Proofs.YtobaoekibnloiaaGreatDoor
open Go Go.RowKit

theorem lines_in {s : ByteArray} {w w1 : World} {v : Value} (hs : s.size ≤ 1000000) (h : w1.ownsRow w.heap.size 9 1 v (accTo 10 s (s.size + 1)).1.length ((accTo 10 s (s.size + 1)).1.map Value.string)) : StrsIn w1 v (cutB 10 s) := by
  rw [accTo_cut] at h
  exact StrsIn.of_own h (by have := cutB_length 10 s; omega) (fun x hx => by have := cutB_part 10 s x hx; omega)

set_option maxHeartbeats 8000000 in
set_option maxRecDepth 100000 in
theorem rparse_any (t : ByteArray) (ht : t.size ≤ 1000000) (w : World) :
    Calls Tryz.prog 11 #[.string t] w (ParseIs t w) := by
  by_cases hbig : 20000 < t.size
  · have Hbig : Hid (parseT t = ([], 0, 2)) := by unfold Hid parseT; rw [if_pos hbig]
    have hbig' : (20000 : Int) < (t.size : Int) := by omega
    clear hbig ht
    go_enter Tryz.func11, Tryz.ntmps11
    go_wp2_with fail
    refine bodyPost_ret (v := .tuple #[.slice none 0 0, .int .i64 0, .int .i64 2]) (by simp [results, Tryz.results11, go_sem]) rfl ?_
    exact ⟨_, [], 0, 2, rfl, Hbig.out, EvsIn.nil _ _, Below.refl _ _⟩
  · have Hp : Hid (parseT t = parseF (cutB 10 t) 0 []) := by unfold Hid parseT; rw [if_neg hbig]
    have HT := Lib.hid ht
    have hsm : ¬ (20000 : Int) < (t.size : Int) := by omega
    clear ht hbig
    go_enter Tryz.func11, Tryz.ntmps11
    go_wp2_with fail
    refine (rlines_any t HT.out _).mono ?_
    rintro e w1 ⟨v, rfl, hown, hb1⟩
    have hst := lines_in HT.out hown
    rw [accTo_cut] at hown
    have Hln := Lib.hid (cutB_length 10 t)
    have Hb1 := Lib.hid hb1
    clear hb1
    generalize cutB 10 t = ws at *
    obtain ⟨a, cap, rfl, hcap, hcm, hwl, hws, hwc⟩ := hst
    have Hts := Lib.hid (TStrs.of_own hown)
    clear hown hwc
    obtain ⟨n, hn⟩ : ∃ n, n = ws.length := ⟨_, rfl⟩
    rw [← hn] at hcap hwl ⊢
    have Hn := Lib.hid hn
    have Hws := Lib.hid hws
    clear hn hws
    go_wp2_with fail
    go_loopw [5, 7] (fun o x wr => ∃ (k : Nat) (ov : Value) (L : List Evl), ov = o ∧ k ≤ n ∧ x = .int .i64 k ∧ Hid (OwnE wr w.heap.size w.heap.size ov L) ∧ L.length ≤ 200 ∧ L.length ≤ k ∧ Hid (parseF ws 0 [] = parseF (ws.drop k) k (L.map (·.1))) ∧ Hid (TStrs wr a ws) ∧ Below w.heap.size w wr) (fun _ x _ => (n - intOf x).toNat)
    case atStart => exact ⟨0, _, [], rfl, by omega, rfl, OwnE.nil _ _ _, by simp, by simp, by unfold Hid; simp, Hts, Hb1.out⟩
    case round =>
      obtain ⟨k, ov, L, rfl, hk, rfl, hown, hL, hLk, hspec, hts, hBr⟩ := hrel
      by_cases hlt : k < n
      · have hkl : k < ws.length := by have := Hn.out; omega
        obtain ⟨ab, ao, rfl, hc', _⟩ := hts.out k hkl
        have hget : ws.getD k ByteArray.empty = ws[k] := by simp [List.getD_eq_getElem?_getD, hkl]
        have Hdrop : Hid (ws.drop k = ws[k] :: ws.drop (k + 1)) := List.drop_eq_getElem_cons hkl
        have hss := Hws.out _ (List.getElem_mem hkl)
        rw [hget] at hc'
        clear hget
        generalize ws[k] = s at *
        have i0 : (0 : Int) ≤ (k : Int) := by omega
        have i1 : (k : Int) < (n : Int) := by omega
        have Hstep : Hid (parseF ws 0 [] = if skipL s = true then parseF (ws.drop (k + 1)) (k + 1) (L.map (·.1)) else match lineF s with
            | none => ([], k + 1, 3)
            | some x => if (L.map (·.1)).length = 200 then ([], k + 1, 2) else parseF (ws.drop (k + 1)) (k + 1) (L.map (·.1) ++ [x])) := by
          unfold Hid; rw [hspec.out, Hdrop.out, parseF_step]; try rfl
        by_cases hz : s = ⟨#[]⟩
        · have e0 : (s.toList == []) = true := by rw [hz, ByteArray.toList_eq]; rfl
          have Hsk : Hid (parseF ws 0 [] = parseF (ws.drop (k + 1)) (k + 1) (L.map (·.1))) := by unfold Hid; rw [Hstep.out, hz, skip_nil, if_pos rfl]
          clear hz Hstep
          go_wp2_with fail
          go_roundw
          case rel => exact ⟨k + 1, ov, L, rfl, by omega, by go_num, hown, hL, by omega, Hsk, hts, hBr⟩
          case measure => simp [intOf]; omega
        · have e0 : (s.toList == []) = false := by
            have := str_ne hz
            rwa [ByteArray.toList_eq (⟨#[]⟩ : ByteArray)] at this
          have hpos : 0 < s.size := by
            rcases Nat.eq_zero_or_pos s.size with e | e
            · exfalso; apply hz
              apply ByteArray.ext
              exact Array.eq_empty_of_size_eq_zero e
            · exact e
          have hsk := skip_head s hpos
          clear hz
          by_cases h35 : (s[0].toNat : Int) = 35
          · have e1 : ((s[0].toNat : Int) == 35) = true := by simpa using h35
            rw [decide_eq_true h35] at hsk
            have Hsk : Hid (parseF ws 0 [] = parseF (ws.drop (k + 1)) (k + 1) (L.map (·.1))) := by unfold Hid; rw [Hstep.out, hsk, if_pos rfl]
            clear h35 hsk Hstep
            go_wp2_with fail
            go_roundw
            case rel => exact ⟨k + 1, ov, L, rfl, by omega, by go_num, hown, hL, by omega, Hsk, hts, hBr⟩
            case measure => simp [intOf]; omega
          · have e1 : ((s[0].toNat : Int) == 35) = false := by simpa using h35
            rw [decide_eq_false h35] at hsk
            have Hst2 : Hid (parseF ws 0 [] = match lineF s with
                | none => ([], k + 1, 3)
                | some x => if (L.map (·.1)).length = 200 then ([], k + 1, 2) else parseF (ws.drop (k + 1)) (k + 1) (L.map (·.1) ++ [x])) := by
              unfold Hid; rw [Hstep.out, hsk, if_neg (by simp)]
            clear h35 hsk Hstep
            go_wp2_with fail
            refine (rline_any s hss wr).mono ?_
            rintro e w2 ⟨y, bv, cv, err, rfl, hl, hp, hbo, hco, hb2⟩
            have HO2 := Lib.hid (hown.out.below hb2)
            have HB2 := Lib.hid (below_then hBr hb2)
            have HT2 := Lib.hid (hts.out.below hb2)
            have Hsz := Lib.hid hb2.size
            have Hpar := Lib.hid hp
            have Hbo := Lib.hid (And.intro hbo hco)
            have EN : Hid (EvAt (w2.alloc (.cells (evCells Ev.zero nilV nilV).toArray 36)) w2.heap.size (evCells Ev.zero nilV nilV)) := EvAt.new _ _ rfl _
            simp only [evCells, Ev.zero, nilV] at EN
            obtain ⟨oa, oc, rfl⟩ : ∃ a c, ov = .slice a L.length c := by
              rcases hown.out.1.2 with ⟨e, h0⟩ | ⟨g, cap, cur, e, _⟩
              · exact ⟨none, 0, by rw [e, h0]⟩
              · exact ⟨_, _, e⟩
            have Hl := Lib.hid hl
            clear hp hbo hco hb2 e0 e1 hc' hl
            have Hw3 : Hid (∀ w3, Apart w2.heap.size (w2.alloc (.cells (evCells Ev.zero nilV nilV).toArray 36)) w3 → Below w2.heap.size w2 w3) := fun w3 h => ((Below.refl _ _).alloc (Nat.le_refl _) _).trans (h.below (Nat.le_refl _))
            have hk1 : ((k + 1 : Nat) : Int) = (k : Int) + 1 := by omega
            have Hk1 := Lib.hid hk1
            clear hk1
            simp only [Ev.val]
            cases hf : lineF s with
            | none =>
              obtain ⟨rfl, rfl⟩ : err = 3 ∧ y = Ev.zero := by have := Hl.out; rw [hf] at this; exact this
              have Hst3 : Hid (parseT t = ([], k + 1, 3)) := by unfold Hid; rw [Hp.out, Hst2.out, hf]
              clear hf Hst2
              go_wp2_with (refine ev_store rfl _ _ rfl _ rfl _ (evCells Ev.zero bv cv) rfl EN.out rfl (evCells_one _ Hbo.out.1 Hbo.out.2) ?_; intro w3 E3 H3)
              refine bodyPost_ret (v := .tuple #[.slice none 0 0, .int .i64 ((k : Int) + 1), .int .i64 3]) (by simp [results, Tryz.results11, go_sem]) rfl ?_
              exact ⟨_, [], k + 1, 3, by rw [Hk1.out], Hst3.out, EvsIn.nil _ _, below_then HB2.out (Hw3.out _ H3)⟩
            | some x =>
              obtain ⟨rfl, rfl⟩ : err = 0 ∧ y = x := by have := Hl.out; rw [hf] at this; exact this
              by_cases h200 : L.length = 200
              · have Hst3 : Hid (parseT t = ([], k + 1, 2)) := by unfold Hid; rw [Hp.out, Hst2.out, hf]; simp only [List.length_map]; rw [if_pos h200]
                have hge : (200 : Int) ≤ (L.length : Int) := by omega
                clear hf Hst2 h200
                go_wp2_with (refine ev_store rfl _ _ rfl _ rfl _ (evCells y bv cv) rfl EN.out rfl (evCells_one _ Hbo.out.1 Hbo.out.2) ?_; intro w3 E3 H3)
                refine bodyPost_ret (v := .tuple #[.slice none 0 0, .int .i64 ((k : Int) + 1), .int .i64 2]) (by simp [results, Tryz.results11, go_sem]) rfl ?_
                exact ⟨_, [], k + 1, 2, by rw [Hk1.out], Hst3.out, EvsIn.nil _ _, below_then HB2.out (Hw3.out _ H3)⟩
              · have Hst3 : Hid (parseF ws 0 [] = parseF (ws.drop (k + 1)) (k + 1) ((L ++ [(y, bv, cv)]).map (·.1))) := by
                  unfold Hid; rw [Hst2.out, hf]; simp only [List.length_map, List.map_append, List.map_cons, List.map_nil]; rw [if_neg h200]
                have hlt2 : (L.length : Int) < 200 := by omega
                have HAp : Hid (∀ w3, Apart w2.heap.size (w2.alloc (.cells (evCells Ev.zero nilV nilV).toArray 36)) w3 → ∃ (v' : Value) (w' : World), (Builtin.append_ #[26, 26] 26 #[.slice oa L.length oc, .slice (some ⟨w3.heap.size, 0, none⟩) 1 1]).run Tryz.prog (w3.alloc (.cells (evCells y bv cv).toArray 36)) = .ok v' w' ∧
                    OwnE w' w.heap.size w.heap.size v' (L ++ [(y, bv, cv)]) ∧ Below w.heap.size w w' ∧ TStrs w' (some ⟨ab, ao, none⟩) ws) := by
                  intro w3 h3
                  have hb3 := Hw3.out w3 h3
                  obtain ⟨v', w', a1, a2, a3, a4⟩ := append_ev (HO2.out.below hb3) y bv cv ((Hpar.out.below hb3).mono hBr.size) Hbo.out.1 Hbo.out.2 (by omega) (Nat.le_trans HB2.out.size hb3.size) 26
                  exact ⟨v', w', a1, a2, (below_then HB2.out hb3).trans a3, (HT2.out.below hb3).of_same fun k hk => a4 k _ (by decide) hk⟩
                have hsz13 : (evCells y bv cv).length = 13 := rfl
                clear hf Hst2 h200
                go_wp2_with (first
                  | (refine ev_load rfl _ rfl _ rfl _ E3 ?_)
                  | (at_builtin; rw [ev_fold]; obtain ⟨v', w', hrun, hown', hB', hT'⟩ := HAp.out _ H3; have Hrun := Lib.hid hrun; have Hown' := Lib.hid hown'; have HB' := Lib.hid hB'; have HT' := Lib.hid hT'; clear hrun hown' hB' hT'; refine wpList_append_run rfl _ _ _ rfl _ _ _ _ rfl rfl Hrun.out ?_)
                  | (refine ev_store rfl _ _ rfl _ rfl _ (evCells y bv cv) rfl EN.out rfl (evCells_one _ Hbo.out.1 Hbo.out.2) ?_; intro w3 E3 H3))
                go_roundw
                case rel =>
                  refine ⟨k + 1, v', L ++ [(y, bv, cv)], rfl, by omega, by go_num, Hown'.out, by simp; omega, by simp; omega, Hst3.out, HT'.out, HB'.out⟩
                case measure => simp [intOf]; omega
      · obtain rfl : k = n := by omega
        have Hfin : Hid (parseT t = (L.map (·.1), 0, 0)) := by
          unfold Hid
          have h1 := hspec.out
          rw [Hn.out, List.drop_length] at h1
          rw [Hp.out, h1]; rfl
        obtain ⟨oa, on, oc, hov⟩ : ∃ a n c, ov = .slice a n c := by
          rcases hown.out.1.2 with ⟨e, _⟩ | ⟨g, cap, cur, e, _⟩
          · exact ⟨_, _, _, e⟩
          · exact ⟨_, _, _, e⟩
        have HE := Lib.hid (hown.out.evs (by omega))
        go_wp2_with fail
        refine bodyPost_ret (v := .tuple #[ov, .int .i64 0, .int .i64 0]) (by simp [results, Tryz.results11, go_sem]) rfl ?_
        exact ⟨ov, _, 0, 0, rfl, Hfin.out, HE.out, hBr⟩
end Go.Proofs.YtobaoekibnloiaaGreatDoor
/- ScriptTexts answers true where the text is short. -/
namespace Go.Proofs.YtobaoekibnloiaaGreatDoor
open Go Go.RowKit

/-- Events that the law makes. -/
def Evs1 (l : List Ev) : Prop := ∀ x ∈ l, x.Within 12 2 ∧ PlOk x
theorem Evs1.snoc {l : List Ev} {x : Ev} (h : Evs1 l) (h1 : x.Within 12 2) (h2 : PlOk x) : Evs1 (l ++ [x]) := by
  intro y hy
  rcases List.mem_append.1 hy with hy | hy
  · exact h y hy
  · obtain rfl := List.mem_singleton.1 hy; exact ⟨h1, h2⟩
def repE : Ev := { Ev.zero with kind := 6 }
theorem repE_parts (B : Nat) (w : World) : EvParts B w repE (.slice none 0 0) (.slice none 0 0) := { zero_parts B w with ok := { (zero_parts B w).ok with kind := by show I64 6; unfold I64; omega } }
theorem repE_in : repE.Within 12 2 ∧ PlOk repE := ⟨⟨Nat.zero_le _, Nat.zero_le _, Nat.zero_le _, Nat.zero_le _⟩, by simp [PlOk, repE, Ev.zero, longI]⟩
def sliceLen : Value → Nat
  | .slice _ n _ => n
  | _ => 0
/-- The text and the events so far. -/
def TxS (w2 : World) (B b T K : Nat) (v8 v9 : Value) (wx : World) : Prop :=
  ∃ (t : ByteArray) (L : List Evl), v8 = .string t ∧ t.size ≤ T ∧ L.length ≤ K ∧ OwnE wx w2.heap.size w2.heap.size v9 L ∧ Evs1 (L.map (·.1)) ∧ St w2 B b wx
set_option maxHeartbeats 16000000 in
set_option maxRecDepth 100000 in
theorem stexts_short (S : ByteArray) (v : Value) (q : Int) (w : World) (hE : Env w) (hv : U8At w w.heap.size v) (hq : 0 ≤ q ∧ q ≤ 255) (hS : S.size ≤ 600) :
    Calls Tryz.prog 3 #[.string S, v, .int .u8 q] w fun e w' => e = .returned (.bool true) ∧ Below w.heap.size w w' := by
  have HE := Lib.hid hE
  have HV := Lib.hid hv
  have Hs8 : Hid (8 ≤ w.heap.size) := hE.size
  have HSz := Lib.hid hS
  have hS' : (S.size : Int) ≤ 600 := by omega
  clear hE hv hS
  go_enter Tryz.func3, Tryz.ntmps3
  go_wp2_with fail
  refine (awake_any w HE.out).mono ?_
  rintro e w1 ⟨rfl, hb1⟩
  have HB1 := Lib.hid hb1
  have HV1 := Lib.hid (HV.out.below hb1)
  clear hb1
  go_wp2_with fail
  refine (cnew_ok v 300 w.heap.size w1 HB1.out.size (by omega) HV1.out).mono ?_
  rintro e w2 ⟨rfl, hc, hb2, hz2⟩
  have HB2 := Lib.hid (below_then HB1.out hb2)
  obtain ⟨b, hb⟩ : ∃ b, b = w1.heap.size := ⟨_, rfl⟩
  rw [← hb] at hc hz2 ⊢
  have HC := Lib.hid hc
  have Hb : Hid (w.heap.size ≤ b ∧ b < w2.heap.size) := by unfold Hid; have := HB1.out.size; omega
  have HE2 := Lib.hid (HE.out.below HB2.out Hs8.out)
  clear hc hb2 hz2 hb HV1 HB1 HV HE hS'
  go_wp2_with fail
  refine (next_ok w.heap.size b 7 w2 HC.out (by omega) (by omega)).mono ?_
  rintro e w3 ⟨n, n0, n1, rfl, hst⟩
  have HS3 := Lib.hid hst
  clear hst
  obtain ⟨n, rfl⟩ : ∃ m : Nat, n = m := ⟨n.toNat, by omega⟩
  go_upto_block 0 with fail
  go_cut [8, 9] (fun v8 v9 wx => TxS w2 w.heap.size b 3030 6 v8 v9 wx)
  case first =>
    go_wp2_with fail
    go_loopw [8, 9, 10] (fun tv lv nv wr => ∃ (m : Nat) (t : ByteArray) (ov : Value) (L : List Evl), tv = .string t ∧ ov = lv ∧ nv = .int .i64 m ∧ m ≤ 6 ∧ t.size ≤ 505 * (6 - m) ∧ L.length ≤ 6 - m ∧ Hid (OwnE wr w2.heap.size w2.heap.size ov L) ∧ Hid (Evs1 (L.map (·.1))) ∧ Hid (St w2 w.heap.size b wr)) (fun _ _ nv _ => (intOf nv).toNat)
    case atStart => exact ⟨n, ⟨#[]⟩, _, [], rfl, rfl, rfl, by omega, Nat.zero_le _, Nat.zero_le _, OwnE.nil _ _ _, by intro x hx; simp at hx, HS3.out⟩
    case round =>
      obtain ⟨m, t, ov, L, rfl, rfl, rfl, hm, ht, hL, hown, hall, hst⟩ := hrel
      by_cases hlt : 0 < m
      · have m0 : (0 : Int) < (m : Int) := by omega
        have m1 : (m : Int) ≤ 6 := by omega
        have Ht := Lib.hid ht
        have HL := Lib.hid hL
        have Hm := Lib.hid (And.intro hm hlt)
        clear ht hL hm hlt
        go_wp2_with fail
        refine (lline_any w.heap.size b wr hst.out.1).mono ?_
        rintro e wa ⟨s, rfl, hs, hsa⟩
        have Hsz := Lib.hid hs
        have HSa := Lib.hid (hst.out.then hsa)
        have HOa : Hid (OwnE wa w2.heap.size w2.heap.size ov L) := hown.out.but hsa.2 Hb.out.2 Hb.out.2
        clear hs hsa hst hown
        obtain ⟨wl, hwl⟩ : ∃ wl, wl = wa.alloc (.cells #[.string ⟨#[10]⟩, .string ⟨#[10]⟩, .string ⟨#[10, 10]⟩, .string ⟨#[10, 35, 32, 120, 10]⟩, .string ⟨#[]⟩] 9) := ⟨_, rfl⟩
        have HSl : Hid (St w2 w.heap.size b wl) := by rw [hwl]; exact HSa.out.alloc _
        have HOl : Hid (OwnE wl w2.heap.size w2.heap.size ov L) := by rw [hwl]; exact HOa.out.below ((Below.refl _ _).alloc (Nat.le_refl _) _)
        have Hcl : Hid (∀ k : Nat, k < 5 → ∃ u : ByteArray, u.size ≤ 5 ∧ wl.cell? ⟨wa.heap.size, k, none⟩ = some (.string u)) := by
          intro k hk
          rw [hwl]
          have : k = 0 ∨ k = 1 ∨ k = 2 ∨ k = 3 ∨ k = 4 := by omega
          rcases this with rfl | rfl | rfl | rfl | rfl
          · exact ⟨⟨#[10]⟩, by decide, by simp⟩
          · exact ⟨⟨#[10]⟩, by decide, by simp⟩
          · exact ⟨⟨#[10, 10]⟩, by decide, by simp⟩
          · exact ⟨⟨#[10, 35, 32, 120, 10]⟩, by decide, by simp⟩
          · exact ⟨⟨#[]⟩, by decide, by simp⟩
        have Hnl : Hid (wa.heap.size ≠ b) := by have := HSa.out.lt; unfold Hid; omega
        have HWl := Lib.hid hwl
        clear hwl HSa HOa
        go_wp2_with fail
        rw [← HWl.out]
        refine (next_ok w.heap.size b 5 wl HSl.out.1 (by omega) (by omega)).mono ?_
        rintro e w4 ⟨i, hi0, hi1, rfl, hst4⟩
        obtain ⟨k, rfl⟩ : ∃ k : Nat, i = k := ⟨i.toNat, by omega⟩
        obtain ⟨u, hu, hcu⟩ := Hcl.out k (by omega)
        have hc4 := but_cell hst4.2 Hnl.out hcu
        have HS4 := Lib.hid (HSl.out.then hst4)
        have HO4 : Hid (OwnE w4 w2.heap.size w2.heap.size ov L) := HOl.out.but hst4.2 Hb.out.2 Hb.out.2
        have Hsz2 : Hid ((s ++ u).size ≤ 505) := app_le Hsz.out hu (by omega)
        have ha1 : ∀ wx, (Op.stringOp .add s u).run Tryz.prog wx = .ok (.string (s ++ u)) wx := fun wx => run_string_add_sum _ _ _ (by have := Hsz.out; omega)
        have ha2 : ∀ wx, (Op.stringOp .add t (s ++ u)).run Tryz.prog wx = .ok (.string (t ++ (s ++ u))) wx := fun wx => run_string_add_sum _ _ _ (by have := Hsz2.out; have := Ht.out; omega)
        have k0 : (0 : Int) ≤ (k : Int) := by omega
        have k1 : (k : Int) < 5 := by omega
        clear hst4 hcu hu hi0 hi1
        go_wp2_with fail
        clear ha1 ha2 hc4
        refine (event_any w.heap.size b w4 HS4.out.1).mono ?_
        rintro e w5 ⟨x, bv, cv, rfl, hp, hw, hpl, hb1, hc1, hsa⟩
        have HPb := Lib.hid hp
        have HW := Lib.hid (And.intro hw hpl)
        have Hone := Lib.hid (And.intro hb1 hc1)
        have HS5 := Lib.hid (HS4.out.then hsa)
        have HO5 : Hid (OwnE w5 w2.heap.size w2.heap.size ov L) := HO4.out.but hsa.2 Hb.out.2 Hb.out.2
        have HAp : Hid (∃ (v' : Value) (w' : World), (Builtin.append_ #[26, 26] 26 #[ov, .slice (some ⟨w5.heap.size, 0, none⟩) 1 1]).run Tryz.prog (w5.alloc (.cells (evCells x bv cv).toArray 36)) = .ok v' w' ∧
            OwnE w' w2.heap.size w2.heap.size v' (L ++ [(x, bv, cv)]) ∧ St w2 w.heap.size b w') := by
          obtain ⟨v', w', a1, a2, a3, _⟩ := append_ev HO5.out x bv cv (HPb.out.mono HS4.out.size) Hone.out.1 Hone.out.2 (by have := HL.out; omega) HS5.out.size 26
          exact ⟨v', w', a1, a2, HS5.out.grown a3 Hb.out.2 (Nat.le_refl _)⟩
        clear hp hw hpl hb1 hc1 hsa HS4 HO4 HPb
        have hsz13 : (evCells x bv cv).length = 13 := rfl
        unfold Ev.val
        go_wp2_with (at_builtin; rw [ev_fold]; obtain ⟨v', w', hrun, hown', hS'⟩ := HAp.out; have Hrun := Lib.hid hrun; have Hown' := Lib.hid hown'; have HS' := Lib.hid hS'; clear hrun hown' hS'; refine wpList_append_run rfl _ _ _ rfl _ _ _ _ rfl rfl Hrun.out ?_)
        go_roundw
        case rel =>
          have hm := Hm.out
          refine ⟨m - 1, t ++ (s ++ u), v', L ++ [(x, bv, cv)], rfl, rfl, by rw [Int.ofNat_sub (by omega)]; rfl, by omega, ?_, ?_, Hown'.out, ?_, HS'.out⟩
          · exact app_le Ht.out Hsz2.out (by omega)
          · have := HL.out; simp; omega
          · have h := hall.out.snoc HW.out.1 HW.out.2
            show Evs1 _
            simpa using h
        case measure => have := Hm.out; simp [intOf]; omega
      · obtain rfl : m = 0 := by omega
        go_wp2_with fail
        go_meet
        exact ⟨t, L, rfl, by omega, by omega, hown.out, hall.out, hst.out⟩
  case rest =>
    obtain ⟨t, L, rfl, ht, hL, hown, hall, hst⟩ := hcut
    have HT0 := Lib.hid (show TxS w2 w.heap.size b 4437 201 (.string t) u9 wc from ⟨t, L, rfl, by omega, by omega, hown, hall, hst⟩)
    have Ht := Lib.hid ht
    have HL := Lib.hid hL
    have HO := Lib.hid hown
    have HA := Lib.hid hall
    have HS := Lib.hid hst
    clear ht hL hown hall hst
    have q0 := hq.1
    have q1 := hq.2
    go_upto_if 53 with fail
    obtain ⟨c, hc⟩ : ∃ c, c = (q % 16 == 15) := ⟨_, rfl⟩
    rw [← hc]
    clear hc
    go_cut [8, 9] (fun v8 v9 wx => TxS w2 w.heap.size b 4437 201 v8 v9 wx)
    case first =>
      cases c
      · go_wp2_with fail
        go_meet
        exact HT0.out
      · go_wp2_with fail
        go_loopw [8, 9] (fun tv lv wr => ∃ (t : ByteArray) (ov : Value) (L : List Evl), tv = .string t ∧ ov = lv ∧ t.size ≤ 3030 + 7 * L.length ∧ L.length ≤ 201 ∧ Hid (OwnE wr w2.heap.size w2.heap.size ov L) ∧ Hid (Evs1 (L.map (·.1))) ∧ Hid (St w2 w.heap.size b wr)) (fun _ lv _ => 201 - sliceLen lv)
        case atStart => exact ⟨t, _, L, rfl, rfl, by have := Ht.out; omega, by have := HL.out; omega, HO.out, HA.out, HS.out⟩
        case round =>
          clear HT0 Ht HL HO HA HS q0 q1 HS3
          obtain ⟨t, ov, L, rfl, rfl, ht, hL, hown, hall, hst⟩ := hrel
          obtain ⟨oa, oc, rfl⟩ : ∃ a c, ov = .slice a L.length c := by
            rcases hown.out.1.2 with ⟨e, h0⟩ | ⟨g, cap, cur, e, _⟩
            · exact ⟨none, 0, by rw [e, h0]⟩
            · exact ⟨_, _, e⟩
          have Ht := Lib.hid ht
          have hL2 : (L.length : Int) ≤ 201 := by omega
          clear ht
          go_wp2_with fail
          refine (next_ok w.heap.size b 2 wr hst.out.1 (by omega) (by omega)).mono ?_
          rintro e wa ⟨z, z0, z1, rfl, hsa⟩
          have HSa := Lib.hid (hst.out.then hsa)
          have HOa : Hid (OwnE wa w2.heap.size w2.heap.size (.slice oa L.length oc) L) := hown.out.but hsa.2 Hb.out.2 Hb.out.2
          clear hsa hst hown
          by_cases hlt : (L.length : Int) < 200 + z
          · have hL3 : L.length ≤ 200 := by omega
            have HL3 := Lib.hid hL3
            have HAp : Hid (∃ (v' : Value) (w' : World), (Builtin.append_ #[26, 26] 26 #[.slice oa L.length oc, .slice (some ⟨wa.heap.size, 0, none⟩) 1 1]).run Tryz.prog (wa.alloc (.cells (evCells repE (.slice none 0 0) (.slice none 0 0)).toArray 36)) = .ok v' w' ∧
                OwnE w' w2.heap.size w2.heap.size v' (L ++ [(repE, .slice none 0 0, .slice none 0 0)]) ∧ St w2 w.heap.size b w') := by
              obtain ⟨v', w', a1, a2, a3, _⟩ := append_ev HOa.out repE (.slice none 0 0) (.slice none 0 0) (repE_parts _ _) rfl rfl (by omega) HSa.out.size 26
              exact ⟨v', w', a1, a2, HSa.out.grown a3 Hb.out.2 (Nat.le_refl _)⟩
            have ha1 : ∀ wx, (Op.stringOp .add t ⟨#[114, 101, 112, 101, 97, 116, 10]⟩).run Tryz.prog wx = .ok (.string (t ++ ⟨#[114, 101, 112, 101, 97, 116, 10]⟩)) wx := fun wx => run_string_add_sum _ _ _ (by have e : (⟨#[114, 101, 112, 101, 97, 116, 10]⟩ : ByteArray).size = 7 := rfl; have := Ht.out; omega)
            clear hL3
            go_wp2_with (at_builtin; obtain ⟨v', w', hrun, hown', hS'⟩ := HAp.out; have Hrun := Lib.hid hrun; have Hown' := Lib.hid hown'; have HS' := Lib.hid hS'; clear hrun hown' hS'; refine wpList_append_run rfl _ _ _ rfl _ _ _ _ rfl rfl Hrun.out ?_)
            clear ha1
            go_roundw
            case rel =>
              refine ⟨t ++ ⟨#[114, 101, 112, 101, 97, 116, 10]⟩, v', L ++ [(repE, Value.slice none 0 0, Value.slice none 0 0)], rfl, rfl, ?_, ?_, Hown'.out, ?_, HS'.out⟩
              · rw [List.length_append]; exact app_le Ht.out (Nat.le_refl 7) (by simp; omega)
              · have := HL3.out; simp; omega
              · show Evs1 _
                have h := hall.out.snoc repE_in.1 repE_in.2
                simpa using h
            case measure =>
              have h1 := HL3.out
              have h2 : sliceLen v' = L.length + 1 := by
                rcases Hown'.out.1.2 with ⟨e, h0⟩ | ⟨g, cap, cur, e, _⟩
                · simp at h0
                · rw [e]; simp [sliceLen]
              rw [h2]; show 201 - (L.length + 1) < 201 - L.length; omega
          · have HLz := Lib.hid hlt
            go_wp2_with fail
            go_meet
            exact ⟨t, L, rfl, by have := Ht.out; omega, by omega, HOa.out, hall.out, HSa.out⟩
    case rest =>
      clear HT0 Ht HL HO HA HS q0 q1 HS3
      obtain ⟨t, L, rfl, ht, hL, hown, hall, hst⟩ := hcut
      have HL := Lib.hid hL
      have HA := Lib.hid hall
      have HS := Lib.hid hst
      have HEc := Lib.hid (env_st HE2.out hst (by have := Hs8.out; have := Hb.out; omega))
      have ha1 : ∀ wx, (Op.stringOp .add t S).run Tryz.prog wx = .ok (.string (t ++ S)) wx := fun wx => run_string_add_sum _ _ _ (by have := HSz.out; omega)
      obtain ⟨wl, hwl⟩ : ∃ wl, wl = wc.alloc (.cells #[.string S, .string t, .string (t ++ S)] 9) := ⟨_, rfl⟩
      have HBl : Hid (Below wc.heap.size wc wl) := by rw [hwl]; exact (Below.refl _ _).alloc (Nat.le_refl _) _
      have HEl := Lib.hid (HEc.out.below HBl.out (by have := Hs8.out; have := Hb.out; have := HS.out.size; omega))
      have HOl := Lib.hid (hown.below HBl.out)
      have Hcl : Hid (∀ k : Nat, k < 3 → ∃ u : ByteArray, u.size ≤ 6000 ∧ wl.cell? ⟨wc.heap.size, k, none⟩ = some (.string u)) := by
        intro k hk
        rw [hwl]
        have : k = 0 ∨ k = 1 ∨ k = 2 := by omega
        rcases this with rfl | rfl | rfl
        · exact ⟨S, by have := HSz.out; omega, by simp⟩
        · exact ⟨t, by omega, by simp⟩
        · exact ⟨t ++ S, app_le ht HSz.out (by omega), by simp⟩
      have HWl := Lib.hid hwl
      have Hfin : Hid (Below w.heap.size w wl) := (below_of_st HB2.out HS.out Hb.out.1).trans (HBl.out.mono (by have := HB2.out.size; have := HS.out.size; omega))
      have H8 : Hid (8 ≤ wl.heap.size) := HEl.out.size
      clear ht hL hown hall hst hwl
      go_upto_block 4 with fail
      rw [← HWl.out]
      clear ha1 HWl
      go_cut [] (fun wx => Below wl.heap.size wl wx)
      case first =>
        go_wp2_with fail
        go_loopw [73] (fun x wr => ∃ k : Nat, k ≤ 3 ∧ x = .int .i64 k ∧ Hid (Below wl.heap.size wl wr)) (fun x _ => 3 - (intOf x).toNat)
        case atStart => exact ⟨0, by omega, rfl, Below.refl _ _⟩
        case round =>
          obtain ⟨k, hk, rfl, hB⟩ := hrel
          by_cases hlt : k < 3
          · obtain ⟨x, hx, hc⟩ := Hcl.out k hlt
            have hc' := cell_then hB.out hc
            have Hx := Lib.hid hx
            have HEr := Lib.hid (HEl.out.below hB.out H8.out)
            have k0 : (0 : Int) ≤ (k : Int) := by omega
            have k1 : (k : Int) < 3 := by omega
            clear hx hc hk hlt
            go_wp2_with fail
            refine (pparse_any x (by have := Hx.out; omega) wr HEr.out).mono ?_
            rintro e wa ⟨v1, l1, n1, e1, rfl, hp1, hv1, hb1⟩
            have HP1 := Lib.hid hp1
            have HV1 := Lib.hid (hv1.mono (Nat.zero_le _))
            have HB1 := Lib.hid (below_then hB.out hb1)
            clear hp1 hv1 hb1 hc'
            go_wp2_with fail
            refine (rparse_any x (by have := Hx.out; omega) wa).mono ?_
            rintro e wb ⟨v2, l2, n2, e2, rfl, hp2, hv2, hb2⟩
            obtain ⟨rfl, rfl, rfl⟩ : l1 = l2 ∧ n1 = n2 ∧ e1 = e2 := by rw [HP1.out] at hp2; simpa using hp2
            have HV2 := Lib.hid (hv2.mono (Nat.zero_le _))
            have HV3 := Lib.hid (HV1.out.below hb2)
            have HB2' := Lib.hid (below_then HB1.out hb2)
            clear hp2 hv2 hb2
            go_wp2_with fail
            refine (rsameall_any v1 v2 l1 wb HV3.out HV2.out).mono ?_
            rintro e wd ⟨rfl, hb3⟩
            have HB3 := Lib.hid (below_then HB2'.out hb3)
            clear hb3
            go_wp2_with fail
            go_roundw
            case rel => exact ⟨k + 1, by omega, by go_num, HB3.out⟩
            case measure => simp [intOf]; omega
          · obtain rfl : k = 3 := by omega
            go_wp2_with fail
            go_meet
            exact hB.out
      case rest =>
        have HBc := Lib.hid hcut
        have HEd := Lib.hid (HEl.out.below hcut H8.out)
        have HOd := Lib.hid ((HOl.out.below hcut).evs (by have := HL.out; omega))
        clear hcut
        go_wp2_with fail
        refine (pformat_any _ (L.map (·.1)) _ (HOd.out.mono (Nat.zero_le _)) HEd.out (fun x hx => (HA.out x hx).1.big) (by have := HL.out; simp; omega)).mono ?_
        rintro e wa ⟨rfl, hb1⟩
        have HB1 := Lib.hid (below_then HBc.out hb1)
        have HO1 := Lib.hid (HOd.out.below hb1)
        clear hb1
        go_wp2_with fail
        refine (rformat_any _ (L.map (·.1)) wa (HO1.out.mono (Nat.zero_le _)) (fun x hx _ => (HA.out x hx).2) (fun x hx => (HA.out x hx).1.big) (by have := HL.out; simp; omega)).mono ?_
        rintro e wb ⟨rfl, hb2⟩
        have HB2' := Lib.hid (below_then HB1.out hb2)
        clear hb2
        generalize formatF (L.map (·.1)) = ff at *
        obtain ⟨s, er⟩ := ff
        go_wp2_with fail
        go_ret
        exact ⟨rfl, Hfin.out.trans (HB2'.out.mono Hfin.out.size)⟩
set_option maxHeartbeats 4000000 in
set_option maxRecDepth 100000 in
theorem stexts_any (S : ByteArray) (v : Value) (q : Int) (w : World) (hE : Env w) (hv : U8At w w.heap.size v) (hq : 0 ≤ q ∧ q ≤ 255) (hS : S.size ≤ 9223372036854775807) :
    Calls Tryz.prog 3 #[.string S, v, .int .u8 q] w fun e w' => e = .returned (.bool true) ∧ Below w.heap.size w w' := by
  by_cases h : S.size ≤ 600
  · exact stexts_short S v q w hE hv hq h
  · have HE := Lib.hid hE
    have hlo : ¬ (S.size : Int) ≤ 600 := by omega
    clear hE hv hq h
    go_enter Tryz.func3, Tryz.ntmps3
    go_wp2_with fail
    refine (awake_any w HE.out).mono ?_
    rintro e w1 ⟨rfl, hb1⟩
    go_wp2_with fail
    go_ret
    exact ⟨rfl, hb1⟩
end Go.Proofs.YtobaoekibnloiaaGreatDoor
/- ScriptTexts answers true at every input. No conditions. -/

namespace Go.Proofs.YtobaoekibnloiaaGreatDoor.texts
open Go Go.ChangeShapes Go.WideShapes Go.ChangeAt Go.RowKit
open Go.ChangeMaps (open_string)

noncomputable def zeroArgs : Array Value := #[.string ⟨#[]⟩, .slice none 0 0, .int .u8 0]
theorem reads (os : Os) {H : Type} (enc : TypeId × Value → H) : ∃ places, DataW.whole enc Tryz.prog ((laidWorld os).forCall (fun _ _ => 0) ⟨#[], zeroArgs, []⟩).memory Tryz.f3.params.toList Rows.scriptTextsSpec.vars false zeroArgs.toList 8 =
    some ([.lit (.string []), .nil, .lit (.int .u8 0)], [], places) :=
  ⟨[], by kernel_rfl⟩

set_option maxRecDepth 100000 in
theorem lifted (os : Os) (started : os.Started) (H : Type) (enc : TypeId × Value → H) (F : Stop.Interp) :
    ReturnsInHanded {} Tryz.checked os 3 .any ((OpenSpec.ofChange Rows.scriptTextsSpec).preRow enc Tryz.prog Tryz.f3 Rows.scriptTextsRow.domain false Rows.scriptTextsRow.laid) (((OpenSpec.ofChange Rows.scriptTextsSpec).at F).post enc Tryz.prog Tryz.f3 false true false false) := by
  obtain ⟨places, hx⟩ := reads os enc
  refine returnsInHanded_of_row (C := Tryz.checked) (s := OpenSpec.ofChange Rows.scriptTextsSpec) own started (by kernel_rfl) Tryz.func3
    (witness_row_at (enc := enc) (C := Tryz.checked) false (laidWorld os) zeroArgs rfl (by kernel_rfl) (by kernel_rfl) (by kernel_rfl)
      (OpenSpec.preRow_of_cond 8 hx (by kernel_rfl) (fun k hk => by cases hk) (by kernel_rfl) (laid_met os _))) ?_
  intro W base args ds gs before hval hW _ _ _ hL hsh _
  have hW' := hW
  obtain ⟨p, q, hA0, hV, rfl, hfz, hnd⟩ := hW
  have hA : DataW.TrodAll enc Tryz.prog W 0 (fun _ => true) true Tryz.f3.params.toList args.toList ds p := hA0
  rw [Tryz.params3] at hA hval
  obtain ⟨v0, vs0, d0, ds0, p0, q0, hargs, rfl, rfl, h0, r0⟩ := trodAll_cons hA
  obtain ⟨v1, vs1, d1, ds1, p1, q1, rfl, rfl, rfl, h1, r1⟩ := trodAll_cons r0
  obtain ⟨v2, vs2, d2, ds2, p2, q2, rfl, rfl, rfl, h2, r2⟩ := trodAll_cons r1
  obtain ⟨rfl, rfl, rfl⟩ := trodAll_nil r2
  obtain rfl : args = #[v0, v1, v2] := by cases args; simp_all
  obtain ⟨rfl, rfl⟩ := trodVars_none hV
  obtain ⟨S, rfl, rfl, rfl, hS⟩ := open_string Tryz.underlying9 (hval 0 9 v0 rfl rfl) h0
  have hc := open_codes (hval 1 22 v1 rfl rfl) h1
  obtain ⟨by_, rfl, rfl, rfl, wby⟩ := open_int Tryz.underlying5 (hval 2 5 v2 rfl rfl) h2
  have hby : 0 ≤ by_ ∧ by_ ≤ 255 := by
    simp only [Lit.wf, Bool.and_eq_true, decide_eq_true_eq] at wby
    have h1 : IntKind.u8.min = 0 := rfl
    have h2 : IntKind.u8.max = 255 := rfl
    omega
  refine (stexts_any S v1 by_ W (env_of hL hsh) hc hby (by unfold maxLen at hS; omega)).mono fun e W' ⟨he, hb⟩ => ?_
  subst he
  exact ⟨_, rfl, law_post laid_out (by kernel_rfl) (by kernel_rfl) Tryz.underlying4 hW' rfl rfl hb⟩

theorem said : Rows.ScriptTextsSaid :=
  OpenClaim.holds_of_cond 3 Tryz.f3 rfl rfl rfl rfl rfl rfl rfl ⟨rfl, rfl, rfl, rfl, rfl⟩ rfl rfl rfl rfl rfl (by kernel_rfl) Tryz.func3 (by kernel_rfl)
    (of_decide_eq_true (by kernel_rfl)) (by unfold Func.isWrapper; first | (rw [if_pos (by decide +kernel)]; kernel_rfl) | (rw [if_neg (by decide +kernel)]; exact ⟨rfl, rfl⟩))
    (fun os started H enc _ F => by rw [OpenClaim.pre_eq_preRow]; exact lifted os started H enc F)

theorem plain (f : FuncId) (fn : Func) (hf : Tryz.pinned.checked.prog.funcNamed "synoptic/synopticlaw41.ScriptTexts" = some f) (hfn : Tryz.pinned.checked.prog.funcs[f]? = some fn) :
    true = Tryz.pinned.checked.prog.looks [] ∧ ∀ (j : Nat) t, fn.params[j]? = some t → Tryz.pinned.checked.prog.wantsStandIn t = false := by
  obtain rfl : f = 3 := Option.some.inj ((show Tryz.prog.funcNamed "synoptic/synopticlaw41.ScriptTexts" = some 3 by kernel_rfl).symm.trans hf) |>.symm
  obtain rfl : fn = Tryz.f3 := (Option.some.inj (Tryz.func3.symm.trans hfn)).symm
  refine ⟨by kernel_rfl, fun j t ht => ?_⟩
  have hall : (Tryz.f3.params.all fun t => !Tryz.prog.wantsStandIn t) = true := by kernel_rfl
  have := (Array.all_eq_true_iff_forall_mem.1 hall) t (Array.mem_of_getElem? ht)
  have h2 : Tryz.prog.wantsStandIn t = false := by simpa using this
  exact h2
end Go.Proofs.YtobaoekibnloiaaGreatDoor.texts

namespace Go.Proofs.YtobaoekibnloiaaGreatDoor
theorem texts_card : Rows.ScriptTextsCardSaid :=
  Claim7.holds_tied_plain_at .later [] _ _ _ _ texts.said (fun _ h => by cases h) (by kernel_rfl) (fun _ h => by cases h) scriptTexts_row_tie rfl ⟨rfl, rfl⟩ (by kernel_rfl) rfl texts.plain (by kernel_rfl)
#print axioms texts_card
end Go.Proofs.YtobaoekibnloiaaGreatDoor
