/- Part 4 of the proof: laws on memory and what functions of the program return. No conditions but those that each theorem names. -/
import Derived.Test.YtpknalpdcfjffaaGreatR03
set_option linter.unusedVariables false
set_option linter.unusedSimpArgs false
/- synoptic/store.slice[synoptic/api.Report], over any walker. Printed by gen_slices.py. -/
namespace Go.Proofs.YtpknalpdcfjffaaGreat
open Go Go.RowKit

section
variable {σ : Type} {k : Wk σ}
set_option maxHeartbeats 16000000 in
set_option maxRecDepth 100000 in
theorem slice_rep (K : WkM k) (hK : K.OK) : Walks K 65 K.recv [.func (.func 60) #[] #[]] (sliE repE) (k.slice k.rep .zero) := by
  intro s l w p o cs es av h1 h2 h3 h4 h5 h6 h7 h8
  have HK := Lib.hid hK
  have HEo := Lib.hid repE_ok
  have HTo := Lib.hid repT
  have HMo := Lib.hid HK.out.mono.rep
  have HWE := Lib.hid (report_walks K hK)
  obtain ⟨fc, mc, wc⟩ := hK.count
  have HMc := Lib.hid mc
  obtain ⟨v, rfl, hr⟩ := h6
  obtain ⟨a, c, rfl⟩ := hr.slice
  have HLl := Lib.hid hr.le
  have HRd := Lib.hid hr
  have HB : Hid (K.b < w.heap.size) := (hK.lt h1).2
  have HP : Hid (p < w.heap.size) := h4.lt
  have HAv := Lib.hid h7
  have HPA := Lib.hid h4
  have hlo := h5.le (by simp)
  have HO : Hid (o < cs.length) := by unfold Hid; simp at hlo; omega
  have HCs : Hid (cs[o]? = some (.slice a l.length c)) := h5 0 (by simp)
  have HCs2 := Lib.hid HCs.out
  have HC : Hid (w.drew.cell? ⟨p, o, none⟩ = some (.slice a l.length c)) := h4.drew.1.at o HCs.out
  have HS0 := Lib.hid h1
  have HSz := Lib.hid h8
  clear hr h1 h4 h5 h7 h8 hlo mc
  unfold Wk.slice at HSz
  go_enter Tryz.func65, Tryz.ntmps65
  try go_wp2_with fail
  refine wp_region_seq (by kernel_rfl) (fun w' => w'.cell? ⟨p, o, none⟩ = some (.slice a l.length c)) [(0, true), (1, true), (2, true), (3, true), (4, true), (5, true), (6, true), (7, true), (8, false), (9, true)] (by kernel_rfl) (HC.out) ?_
  refine seq_q (d := some 10) rfl rfl rfl (K.recv) (fun w hw => rfl) ?_
  simp only [Act.put, List.setIfInBounds_toArray, List.set_cons_zero, List.set_cons_succ]
  refine seq_q (d := some 11) rfl rfl rfl (.pointer (some ⟨p, o, none⟩)) (fun w hw => rfl) ?_
  simp only [Act.put, List.setIfInBounds_toArray, List.set_cons_zero, List.set_cons_succ]
  refine seq_q (d := some 12) rfl rfl rfl (.pointer (some ⟨p, o, none⟩)) (fun w hw => rfl) ?_
  simp only [Act.put, List.setIfInBounds_toArray, List.set_cons_zero, List.set_cons_succ]
  refine seq_q (d := some 13) rfl rfl rfl (.slice a l.length c) (fun w hw => by simp [execOp, Act.eval, hw, go_sem]) ?_
  simp only [Act.put, List.setIfInBounds_toArray, List.set_cons_zero, List.set_cons_succ]
  refine seq_q (d := some 14) rfl rfl rfl (.int .i64 l.length) (fun w hw => by simp [execOp, Act.eval, go_sem]) ?_
  simp only [Act.put, List.setIfInBounds_toArray, List.set_cons_zero, List.set_cons_succ]
  refine seq_q (d := some 15) rfl rfl rfl (.func (.method "synoptic/store.count") #[K.recv] #[]) (fun w hw => run_makeFunc (.tmp 10) rfl (K.recv) rfl w) ?_
  simp only [Act.put, List.setIfInBounds_toArray, List.set_cons_zero, List.set_cons_succ]
  refine seq_q (d := some 16) rfl rfl rfl (.func (.method "synoptic/store.count") #[K.recv] #[]) (fun w hw => run_nilMethod HMc.out.ahead (.tmp 15) rfl rfl w) ?_
  simp only [Act.put, List.setIfInBounds_toArray, List.set_cons_zero, List.set_cons_succ]
  refine seq_q (d := some 17) rfl rfl rfl (K.recv) (fun w hw => rfl) ?_
  simp only [Act.put, List.setIfInBounds_toArray, List.set_cons_zero, List.set_cons_succ]
  refine seq_invoke (d := some 18) rfl rfl rfl HMc.out.b _ _ _ rfl rfl [.int .i64 l.length] rfl (wc s l.length w.drew (HK.out.stable HS0.out (Quiet.drew _)) HLl.out (Nat.le_trans (Wk.Mono.run HMo.out _ _ _ _) HSz.out)) ?_
  rintro e w1 ⟨rfl, hn, hst, hf⟩
  have HW : Hid (WS K p (k.count s l.length).1 cs w w1) := ⟨hst, (Fr.drew w).trans hf.any, HPA.out.drew.keeps hf.keeps ⟨h3, h3⟩⟩
  have HC1 : Hid (w1.cell? ⟨p, o, none⟩ = some (.slice a l.length c)) := HW.out.pa.1.at o HCs.out
  refine ⟨_, rfl, HC1.out, ?_⟩
  simp only [Act.put, List.setIfInBounds_toArray, List.set_cons_zero, List.set_cons_succ]
  refine seq_q (d := some 6) rfl rfl rfl (.int .i64 (k.count s l.length).2) (fun w hw => rfl) ?_
  simp only [Act.put, List.setIfInBounds_toArray, List.set_cons_zero, List.set_cons_succ]
  refine seq_end ?_
  obtain ⟨s1, hs1⟩ : ∃ s1, s1 = (k.count s l.length).1 := ⟨_, rfl⟩
  obtain ⟨n, hn1⟩ : ∃ n, n = (k.count s l.length).2 := ⟨_, rfl⟩
  have HFin : Hid (k.slice k.rep .zero s l = runE k.rep .zero s1 l n) := by unfold Hid Wk.slice; rw [hs1, hn1]
  rw [← hs1] at HW
  rw [← hn1] at hn ⊢
  have HSz1 : Hid (k.sz (runE k.rep .zero s1 l n).1 ≤ 10000000) := by rw [← HFin.out]; exact HSz.out
  have HN6 : Hid (n ≤ 1000000) := hn
  have n0 : (n : Int) ≤ 1000000 := by omega
  have HLs : Hid (SlS K repE _ k.rep .zero s1 l p cs av w 0 (.slice none 0 0) w1) := SlS.start (T := 32) HW.out
  clear HW HC1 HC hst hf hn hs1 hn1 HSz HCs
  go_wp2_with fail
  go_loopw [20, 7] (fun kv lv wr => ∃ (i : Nat) (ov : Value), ov = lv ∧ kv = .int .i64 i ∧ i ≤ n ∧ Hid (SlS K repE 32 k.rep .zero s1 l p cs av w i ov wr)) (fun kv _ _ => (2000000 - intOf kv).toNat)
  case atStart => exact ⟨0, _, rfl, rfl, by omega, HLs⟩
  case round =>
    clear HLs
    obtain ⟨i, ov, rfl, rfl, hi, hs⟩ := hrel
    by_cases hin : i < n
    · have i0 : (i : Int) < (n : Int) := by omega
      have HSi : Hid (k.sz (k.rep (runE k.rep .zero s1 l i).1 (l.getD i .zero)).1 ≤ 10000000) := Nat.le_trans (Wk.Mono.run_le HMo.out .zero s1 l (i + 1) n (by omega)) HSz1.out
      go_upto_region 6 with fail
      have hbx : Below wr.heap.size wr (wr.alloc (.cells #[.int .i64 0, .string ⟨#[]⟩, .int .i64 0, .int .i64 0, .int .i64 0, .int .i64 0, .int .i64 0, .slice none 0 0] 32)) := (Below.refl _ _).alloc (Nat.le_refl _) _
      have hsx : wr.heap.size < (wr.alloc (.cells #[.int .i64 0, .string ⟨#[]⟩, .int .i64 0, .int .i64 0, .int .i64 0, .int .i64 0, .int .i64 0, .slice none 0 0] 32)).heap.size := by simp
      have HX : Hid (PAt (wr.alloc (.cells #[.int .i64 0, .string ⟨#[]⟩, .int .i64 0, .int .i64 0, .int .i64 0, .int .i64 0, .int .i64 0, .slice none 0 0] 32)) wr.heap.size [.int .i64 0, .string ⟨#[]⟩, .int .i64 0, .int .i64 0, .int .i64 0, .int .i64 0, .int .i64 0, .slice none 0 0]) := PAt.new wr [.int .i64 0, .string ⟨#[]⟩, .int .i64 0, .int .i64 0, .int .i64 0, .int .i64 0, .int .i64 0, .slice none 0 0] (by simp) _ HTo.out.ne rfl
      generalize wr.alloc (.cells #[.int .i64 0, .string ⟨#[]⟩, .int .i64 0, .int .i64 0, .int .i64 0, .int .i64 0, .int .i64 0, .slice none 0 0] 32) = wx at hbx hsx HX ⊢
      have HWx := Lib.hid (hs.out.ws.new HK.out hbx)
      have hcx : wx.cell? ⟨p, o, none⟩ = some (.slice a l.length c) := HWx.out.pa.1.at o HCs2.out
      have HBx := Lib.hid hbx
      have HSx := Lib.hid hsx
      have HXb : Hid (K.base ≤ wr.heap.size ∧ wr.heap.size ≠ K.b ∧ w.heap.size ≤ wr.heap.size) := by
        have h1 := hs.out.ws.fr.size
        have h2 := HB.out
        have h3 := (HK.out.lt hs.out.ws.st).1
        unfold Hid; omega
      clear hbx hsx
      by_cases hil : i < l.length
      · have i1 : (i : Int) < (l.length : Int) := by omega
        obtain ⟨ab, ao, es, rfl, hrep, hrg⟩ := ((HRd.out.in HEo.out).keep HEo.out (HWx.out.fr.keeps.mono fun g _ hg => HAv.out g hg.1)).at HEo.out i hil
        have hel := HEo.out.len hrep
        have HRg : Hid (wx.rangeAt ab (ao + i * 8) es) := by
          have h : ao + i * repE.n = ao + i * 8 := by show ao + i * 8 = _; omega
          unfold Hid; rw [← h]; exact hrg
        have HEl := Lib.hid hel
        have HRp0 := Lib.hid hrep
        have HRo := Lib.hid (HEo.out.one hrep)
        clear hrep hrg hel
        go_wp2_with (first
          | (refine list_load HTo.out rfl _ rfl ab (ao + i * 8) rfl es HEl.out HRg.out ?_)
          | (refine list_store HTo.out rfl _ _ rfl wr.heap.size rfl es rfl HEl.out HRo.out (HX.out.1.there (by simp)) ?_))
        have hap := apartR_setCells wr.heap.size es 0 wx
        have HY : Hid (K.St (runE k.rep .zero s1 l i).1 (wx.setCells wr.heap.size 0 es) ∧ K.base ≤ wr.heap.size ∧ wr.heap.size ≠ K.b ∧ PAt (wx.setCells wr.heap.size 0 es) wr.heap.size es ∧ repE.rep (fun g => av g ∧ g < w.heap.size) (wx.setCells wr.heap.size 0 es) es (l.getD i .zero) ∧ (∀ g, av g ∧ g < w.heap.size → g ≠ K.b ∧ g ≠ wr.heap.size) ∧ Below wr.heap.size wr (wx.setCells wr.heap.size 0 es) ∧ wr.heap.size < (wx.setCells wr.heap.size 0 es).heap.size) := by
          refine ⟨HK.out.stable HWx.out.st (HX.out.quietR HXb.out.1 HXb.out.2.1 hap), HXb.out.1, HXb.out.2.1, HX.out.setCells es (by rw [HEl.out]; rfl), ?_, fun g hg => ⟨(HAv.out g hg.1).1, by have := HXb.out.2.2; omega⟩, HBx.out.trans (hap.below (Nat.le_refl _)), by rw [hap.2.2.2.1]; exact HSx.out⟩
          have e : l.getD i .zero = l[i] := by simp [hil]
          rw [e]
          exact HEo.out.keep HRp0.out fun g c t f _ _ hg => hap.2.2.2.2 g (by have := HXb.out.2.2; omega)
        generalize wx.setCells wr.heap.size 0 es = wy at HY hap ⊢
        clear hap HRg HEl HRp0 HRo HX HWx HBx HSx hcx
        refine (HWE.out (runE k.rep .zero s1 l i).1 (l.getD i .zero) wy wr.heap.size 0 es es (fun g => av g ∧ g < w.heap.size) HY.out.1 HY.out.2.1 HY.out.2.2.1 HY.out.2.2.2.1 (fun j hj => by rw [Nat.zero_add]) HY.out.2.2.2.2.1 HY.out.2.2.2.2.2.1 HSi.out).mono ?_
        rintro e w2 ⟨rfl, hst, hf, es', hpa, hrep⟩
        have hes' : es'.length = 8 := HEo.out.len hrep
        have hes : es.length = 8 := HEo.out.len HY.out.2.2.2.2.1
        rw [putL_whole (by rw [hes', hes])] at hpa
        have HAp := Lib.hid (hs.out.next HK.out HEo.out HTo.out HB.out HP.out h3 h2 HAv.out HY.out.2.2.2.2.2.2.1 HY.out.2.2.2.2.2.2.2 hst hf hrep (by have := HN6.out; omega) 37)
        have HPx := Lib.hid hpa
        have HRp := Lib.hid (HEo.out.one hrep)
        have HLn := Lib.hid hes'
        clear hst hf hpa hrep hes hes' HY HSi hs
        go_wp2_with (first
          | (refine list_load HTo.out rfl _ rfl wr.heap.size 0 rfl es' HLn.out HPx.out.1.range ?_)
          | (refine list_lit HTo.out rfl _ rfl es' rfl HLn.out HRp.out ?_)
          | (at_builtin; obtain ⟨v', w', hrun, hs'⟩ := HAp.out; have Hrun := Lib.hid hrun; have Hs' := Lib.hid hs'; clear hrun hs'; refine wpList_append_run rfl _ _ _ rfl _ _ _ _ rfl rfl Hrun.out ?_))
        go_roundw
        case rel => exact ⟨i + 1, v', rfl, by go_num, by omega, Hs'⟩
        case measure => simp [intOf]; omega
      · have HY : Hid (K.St (runE k.rep .zero s1 l i).1 wx ∧ K.base ≤ wr.heap.size ∧ wr.heap.size ≠ K.b ∧ PAt wx wr.heap.size [.int .i64 0, .string ⟨#[]⟩, .int .i64 0, .int .i64 0, .int .i64 0, .int .i64 0, .int .i64 0, .slice none 0 0] ∧ repE.rep (fun g => av g ∧ g < w.heap.size) wx [.int .i64 0, .string ⟨#[]⟩, .int .i64 0, .int .i64 0, .int .i64 0, .int .i64 0, .int .i64 0, .slice none 0 0] (l.getD i .zero) ∧ (∀ g, av g ∧ g < w.heap.size → g ≠ K.b ∧ g ≠ wr.heap.size) ∧ Below wr.heap.size wr wx ∧ wr.heap.size < wx.heap.size) := by
          refine ⟨HWx.out.st, HXb.out.1, HXb.out.2.1, HX.out, ?_, fun g hg => ⟨(HAv.out g hg.1).1, by have := HXb.out.2.2; omega⟩, HBx.out, HSx.out⟩
          have e : l.getD i .zero = .zero := by simp [List.getElem?_eq_none (Nat.le_of_not_lt hil)]
          rw [e]
          exact ⟨_, rfl, I64.zero, by decide, I64.zero, ⟨I64.zero, I64.zero, I64.zero, I64.zero⟩, RdS.nil _ _ _⟩
        go_wp2_with fail
        obtain ⟨es, hes0⟩ : ∃ es : List Value, es = [.int .i64 0, .string ⟨#[]⟩, .int .i64 0, .int .i64 0, .int .i64 0, .int .i64 0, .int .i64 0, .slice none 0 0] := ⟨_, rfl⟩
        rw [← hes0] at HY
        clear hes0 HX HWx HBx HSx hcx
        obtain ⟨wy, rfl⟩ : ∃ wy : World, wy = wx := ⟨_, rfl⟩
        refine (HWE.out (runE k.rep .zero s1 l i).1 (l.getD i .zero) wy wr.heap.size 0 es es (fun g => av g ∧ g < w.heap.size) HY.out.1 HY.out.2.1 HY.out.2.2.1 HY.out.2.2.2.1 (fun j hj => by rw [Nat.zero_add]) HY.out.2.2.2.2.1 HY.out.2.2.2.2.2.1 HSi.out).mono ?_
        rintro e w2 ⟨rfl, hst, hf, es', hpa, hrep⟩
        have hes' : es'.length = 8 := HEo.out.len hrep
        have hes : es.length = 8 := HEo.out.len HY.out.2.2.2.2.1
        rw [putL_whole (by rw [hes', hes])] at hpa
        have HAp := Lib.hid (hs.out.next HK.out HEo.out HTo.out HB.out HP.out h3 h2 HAv.out HY.out.2.2.2.2.2.2.1 HY.out.2.2.2.2.2.2.2 hst hf hrep (by have := HN6.out; omega) 37)
        have HPx := Lib.hid hpa
        have HRp := Lib.hid (HEo.out.one hrep)
        have HLn := Lib.hid hes'
        clear hst hf hpa hrep hes hes' HY HSi hs
        go_wp2_with (first
          | (refine list_load HTo.out rfl _ rfl wr.heap.size 0 rfl es' HLn.out HPx.out.1.range ?_)
          | (refine list_lit HTo.out rfl _ rfl es' rfl HLn.out HRp.out ?_)
          | (at_builtin; obtain ⟨v', w', hrun, hs'⟩ := HAp.out; have Hrun := Lib.hid hrun; have Hs' := Lib.hid hs'; clear hrun hs'; refine wpList_append_run rfl _ _ _ rfl _ _ _ _ rfl rfl Hrun.out ?_))
        go_roundw
        case rel => exact ⟨i + 1, v', rfl, by go_num, by omega, Hs'⟩
        case measure => simp [intOf]; omega
    · obtain rfl : i = n := by omega
      obtain ⟨oa, oc, rfl⟩ := hs.out.slice
      have hc5 : wr.cell? ⟨p, o, none⟩ = some (.slice a l.length c) := hs.out.ws.pa.1.at o HCs2.out
      have hf5 : wr.frozen? ⟨p, o, none⟩ = false := hs.out.ws.pa.1.2.2 o HO.out
      have HPo : Hid (WPost K (sliE repE) (k.slice k.rep .zero s l) p o cs av w (wr.setCell ⟨p, o, none⟩ (.slice oa i oc))) := by rw [HFin.out]; exact hs.out.post HK.out HEo.out HTo.out HN6.out HP.out h3 h2 HAv.out o HO.out
      clear hs
      go_wp2_with fail
      go_end0
      exact ⟨rfl, HPo.out⟩
end
end Go.Proofs.YtpknalpdcfjffaaGreat
/- store.counted, over any walker. Printed by gen_fields.py. -/
namespace Go.Proofs.YtpknalpdcfjffaaGreat
open Go Go.RowKit

section
variable {σ : Type} {k : Wk σ}
set_option maxHeartbeats 16000000 in
set_option maxRecDepth 100000 in
theorem counted_walks (K : WkM k) (hK : K.OK) : Walks K 82 K.recv [] cntE k.cnt := by
  intro s x w p o cs es av h1 h2 h3 h4 h5 h6 h7 h8
  have HK := Lib.hid hK
  obtain ⟨f_text, m_text, w_text⟩ := hK.text
  have HM_text := Lib.hid m_text
  have HB : Hid (K.b < w.heap.size) := (hK.lt h1).2
  have HPl : Hid (p < w.heap.size) := h4.lt
  have HAv := Lib.hid h7
  obtain ⟨rfl, r1, r2, r3⟩ := h6
  have HAt := Lib.hid h5
  have HW0 : Hid (WS K p s (putL cs o []) w w) := (WS.start h1 h4).whole
  have HSz := Lib.hid h8
  clear h1 h4 h5 h7 h8 hK
  go_enter Tryz.func82, Tryz.ntmps82
  try go_wp2_with fail
  refine wp_region_seq (by kernel_rfl) (fun _ => True) [(0, true), (1, true), (2, true), (3, true), (4, true), (5, true), (6, true), (7, false)] (by kernel_rfl) (trivial) ?_
  refine seq_q (d := some 4) rfl rfl rfl (K.recv) (fun w hw => rfl) ?_
  simp only [Act.put, List.setIfInBounds_toArray, List.set_cons_zero, List.set_cons_succ]
  refine seq_q (d := some 5) rfl rfl rfl (.pointer (some ⟨p, o, none⟩)) (fun w hw => rfl) ?_
  simp only [Act.put, List.setIfInBounds_toArray, List.set_cons_zero, List.set_cons_succ]
  refine seq_q (d := some 6) rfl rfl rfl (.pointer (some ⟨p, o, none⟩)) (fun w hw => rfl) ?_
  simp only [Act.put, List.setIfInBounds_toArray, List.set_cons_zero, List.set_cons_succ]
  refine seq_q (d := some 7) rfl rfl rfl (.pointer (some ⟨p, o, none⟩)) (fun w hw => by go_simp) ?_
  simp only [Act.put, List.setIfInBounds_toArray, List.set_cons_zero, List.set_cons_succ]
  refine seq_q (d := some 8) rfl rfl rfl (.func (.method "synoptic/store.text") #[K.recv] #[]) (fun w hw => run_makeFunc (.tmp 4) rfl (K.recv) rfl w) ?_
  simp only [Act.put, List.setIfInBounds_toArray, List.set_cons_zero, List.set_cons_succ]
  refine seq_q (d := some 9) rfl rfl rfl (.func (.method "synoptic/store.text") #[K.recv] #[]) (fun w hw => run_nilMethod HM_text.out.ahead (.tmp 8) rfl rfl w) ?_
  simp only [Act.put, List.setIfInBounds_toArray, List.set_cons_zero, List.set_cons_succ]
  refine seq_q (d := some 10) rfl rfl rfl (K.recv) (fun w hw => rfl) ?_
  simp only [Act.put, List.setIfInBounds_toArray, List.set_cons_zero, List.set_cons_succ]
  refine seq_invoke (d := some 11) rfl rfl rfl HM_text.out.b _ _ _ rfl rfl [.pointer (some ⟨p, o, none⟩)] rfl ((HW0.out.drew HK.out).field w_text strE_ok h2 h3 (es := [.string x.name]) (a := []) (c := [.int .i64 x.total, .int .i64 x.rej]) HAt.out rfl ⟨rfl, r1⟩ HAv.out _ rfl (Nat.le_trans (HK.out.mono.int _ _) (Nat.le_trans (HK.out.mono.int _ _) HSz.out))) ?_
  rintro e w1 ⟨rfl, es0, h1, ⟨rfl, i0⟩, -, hf⟩
  refine ⟨_, rfl, trivial, ?_⟩
  simp only [Act.put, List.setIfInBounds_toArray, List.set_cons_zero, List.set_cons_succ]
  refine seq_end ?_
  have HW1 : Hid (WS K p (k.text s x.name).1 (putL cs o [.string (k.text s x.name).2]) w w1) := h1
  have I0 := Lib.hid i0
  clear i0
  clear h1 hf HW0
  try go_wp2_with fail
  refine wp_region_seq (by kernel_rfl) (fun _ => True) [(0, true), (1, true), (2, true), (3, true), (4, true), (5, true), (6, true), (7, false), (8, false)] (by kernel_rfl) (trivial) ?_
  refine seq_q (d := some 12) rfl rfl rfl (K.recv) (fun w hw => rfl) ?_
  simp only [Act.put, List.setIfInBounds_toArray, List.set_cons_zero, List.set_cons_succ]
  refine seq_q (d := some 13) rfl rfl rfl (.pointer (some ⟨p, o, none⟩)) (fun w hw => rfl) ?_
  simp only [Act.put, List.setIfInBounds_toArray, List.set_cons_zero, List.set_cons_succ]
  refine seq_q (d := some 14) rfl rfl rfl (.pointer (some ⟨p, o, none⟩)) (fun w hw => rfl) ?_
  simp only [Act.put, List.setIfInBounds_toArray, List.set_cons_zero, List.set_cons_succ]
  refine seq_q (d := some 15) rfl rfl rfl (.pointer (some ⟨p, o + 1, none⟩)) (fun w hw => by go_simp) ?_
  simp only [Act.put, List.setIfInBounds_toArray, List.set_cons_zero, List.set_cons_succ]
  refine seq_q (d := some 16) rfl rfl rfl (.pointer (some ⟨p, o, none⟩)) (fun w hw => rfl) ?_
  simp only [Act.put, List.setIfInBounds_toArray, List.set_cons_zero, List.set_cons_succ]
  refine seq_q (d := some 17) rfl rfl rfl (.pointer (some ⟨p, o, none⟩)) (fun w hw => rfl) ?_
  simp only [Act.put, List.setIfInBounds_toArray, List.set_cons_zero, List.set_cons_succ]
  refine seq_q (d := some 18) rfl rfl rfl (.pointer (some ⟨p, o + 2, none⟩)) (fun w hw => by go_simp) ?_
  simp only [Act.put, List.setIfInBounds_toArray, List.set_cons_zero, List.set_cons_succ]
  refine seq_run (d := some 19) rfl rfl rfl (.slice (some ⟨w1.heap.size, 0, none⟩) 2 2) (w1.drew.alloc (.cells #[.pointer (some ⟨p, o + 1, none⟩), .pointer (some ⟨p, o + 2, none⟩)] 114)) (by simp [execOp, Act.eval, Instr.buildSlice, go_sem]) trivial ?_
  simp only [Act.put, List.setIfInBounds_toArray, List.set_cons_zero, List.set_cons_succ]
  have HP1 : Hid (Ptrs (w1.drew.alloc (.cells #[.pointer (some ⟨p, o + 1, none⟩), .pointer (some ⟨p, o + 2, none⟩)] 114)) w1.heap.size p (o + 1) 2) := ptrs_of (cs := [.pointer (some ⟨p, o + 1, none⟩), .pointer (some ⟨p, o + 2, none⟩)]) rfl rfl (by intro i hi; match i, hi with | 0, _ => rfl | 1, _ => rfl)
  have HV1 : Hid (WS K p (k.text s x.name).1 (putL cs o [.string (k.text s x.name).2]) w (w1.drew.alloc (.cells #[.pointer (some ⟨p, o + 1, none⟩), .pointer (some ⟨p, o + 2, none⟩)] 114))) := (HW1.out.drew HK.out).new HK.out ((Below.refl _ _).alloc (Nat.le_refl _) _)
  have HN1 : Hid (w1.heap.size ≠ K.b ∧ w1.heap.size ≠ p) := by have := HB.out; have := HPl.out; have := HW1.out.fr.size; unfold Hid; omega
  refine seq_call (d := some 20) rfl rfl rfl ⟨_, Tryz.func61, by kernel_rfl, by kernel_rfl⟩ _ _ _ rfl rfl [K.recv, .slice (some ⟨w1.heap.size, 0, none⟩) 2 2] rfl (HV1.out.ints HK.out h2 h3 (es := [.int .i64 x.total, .int .i64 x.rej]) (a := [.string x.name]) (c := []) HAt.out (xs := [x.total, x.rej]) rfl rfl (by simp) (by simp; exact ⟨r2, r3⟩) (by simp) _ rfl HP1.out HN1.out.1 HN1.out.2 2 rfl HSz.out) ?_
  rintro e w2 ⟨rfl, h1, hr, hf⟩
  refine ⟨_, rfl, trivial, ?_⟩
  simp only [Act.put, List.setIfInBounds_toArray, List.set_cons_zero, List.set_cons_succ]
  refine seq_end ?_
  have i1_0 : Hid (I64 (k.int (k.text s x.name).1 x.total).2) := hr _ (List.Mem.head _)
  have i1_1 : Hid (I64 (k.int (k.int (k.text s x.name).1 x.total).1 x.rej).2) := hr _ (List.Mem.tail _ (List.Mem.head _))
  have HW2 : Hid (WS K p (k.int (k.int (k.text s x.name).1 x.total).1 x.rej).1 (putL cs o [.string (k.text s x.name).2, .int .i64 (k.int (k.text s x.name).1 x.total).2, .int .i64 (k.int (k.int (k.text s x.name).1 x.total).1 x.rej).2]) w w2) := h1
  clear h1 hf HW1 hr HP1 HV1 HN1
  try go_wp2_with fail
  go_end0
  exact ⟨rfl, WS.post (E := cntE) (q := k.cnt s x) HW2.out (⟨rfl, I0.out, i1_0.out, i1_1.out⟩)⟩
end
end Go.Proofs.YtpknalpdcfjffaaGreat
/- synoptic/store.slice[synoptic/api.Count], over any walker. Printed by gen_slices.py. -/
namespace Go.Proofs.YtpknalpdcfjffaaGreat
open Go Go.RowKit

section
variable {σ : Type} {k : Wk σ}
set_option maxHeartbeats 16000000 in
set_option maxRecDepth 100000 in
theorem slice_cnt (K : WkM k) (hK : K.OK) : Walks K 81 K.recv [.func (.func 82) #[] #[]] (sliE cntE) (k.slice k.cnt .zero) := by
  intro s l w p o cs es av h1 h2 h3 h4 h5 h6 h7 h8
  have HK := Lib.hid hK
  have HEo := Lib.hid cntE_ok
  have HTo := Lib.hid cntT
  have HMo := Lib.hid HK.out.mono.cnt
  have HWE := Lib.hid (counted_walks K hK)
  obtain ⟨fc, mc, wc⟩ := hK.count
  have HMc := Lib.hid mc
  obtain ⟨v, rfl, hr⟩ := h6
  obtain ⟨a, c, rfl⟩ := hr.slice
  have HLl := Lib.hid hr.le
  have HRd := Lib.hid hr
  have HB : Hid (K.b < w.heap.size) := (hK.lt h1).2
  have HP : Hid (p < w.heap.size) := h4.lt
  have HAv := Lib.hid h7
  have HPA := Lib.hid h4
  have hlo := h5.le (by simp)
  have HO : Hid (o < cs.length) := by unfold Hid; simp at hlo; omega
  have HCs : Hid (cs[o]? = some (.slice a l.length c)) := h5 0 (by simp)
  have HCs2 := Lib.hid HCs.out
  have HC : Hid (w.drew.cell? ⟨p, o, none⟩ = some (.slice a l.length c)) := h4.drew.1.at o HCs.out
  have HS0 := Lib.hid h1
  have HSz := Lib.hid h8
  clear hr h1 h4 h5 h7 h8 hlo mc
  unfold Wk.slice at HSz
  go_enter Tryz.func81, Tryz.ntmps81
  try go_wp2_with fail
  refine wp_region_seq (by kernel_rfl) (fun w' => w'.cell? ⟨p, o, none⟩ = some (.slice a l.length c)) [(0, true), (1, true), (2, true), (3, true), (4, true), (5, true), (6, true), (7, true), (8, false), (9, true)] (by kernel_rfl) (HC.out) ?_
  refine seq_q (d := some 10) rfl rfl rfl (K.recv) (fun w hw => rfl) ?_
  simp only [Act.put, List.setIfInBounds_toArray, List.set_cons_zero, List.set_cons_succ]
  refine seq_q (d := some 11) rfl rfl rfl (.pointer (some ⟨p, o, none⟩)) (fun w hw => rfl) ?_
  simp only [Act.put, List.setIfInBounds_toArray, List.set_cons_zero, List.set_cons_succ]
  refine seq_q (d := some 12) rfl rfl rfl (.pointer (some ⟨p, o, none⟩)) (fun w hw => rfl) ?_
  simp only [Act.put, List.setIfInBounds_toArray, List.set_cons_zero, List.set_cons_succ]
  refine seq_q (d := some 13) rfl rfl rfl (.slice a l.length c) (fun w hw => by simp [execOp, Act.eval, hw, go_sem]) ?_
  simp only [Act.put, List.setIfInBounds_toArray, List.set_cons_zero, List.set_cons_succ]
  refine seq_q (d := some 14) rfl rfl rfl (.int .i64 l.length) (fun w hw => by simp [execOp, Act.eval, go_sem]) ?_
  simp only [Act.put, List.setIfInBounds_toArray, List.set_cons_zero, List.set_cons_succ]
  refine seq_q (d := some 15) rfl rfl rfl (.func (.method "synoptic/store.count") #[K.recv] #[]) (fun w hw => run_makeFunc (.tmp 10) rfl (K.recv) rfl w) ?_
  simp only [Act.put, List.setIfInBounds_toArray, List.set_cons_zero, List.set_cons_succ]
  refine seq_q (d := some 16) rfl rfl rfl (.func (.method "synoptic/store.count") #[K.recv] #[]) (fun w hw => run_nilMethod HMc.out.ahead (.tmp 15) rfl rfl w) ?_
  simp only [Act.put, List.setIfInBounds_toArray, List.set_cons_zero, List.set_cons_succ]
  refine seq_q (d := some 17) rfl rfl rfl (K.recv) (fun w hw => rfl) ?_
  simp only [Act.put, List.setIfInBounds_toArray, List.set_cons_zero, List.set_cons_succ]
  refine seq_invoke (d := some 18) rfl rfl rfl HMc.out.b _ _ _ rfl rfl [.int .i64 l.length] rfl (wc s l.length w.drew (HK.out.stable HS0.out (Quiet.drew _)) HLl.out (Nat.le_trans (Wk.Mono.run HMo.out _ _ _ _) HSz.out)) ?_
  rintro e w1 ⟨rfl, hn, hst, hf⟩
  have HW : Hid (WS K p (k.count s l.length).1 cs w w1) := ⟨hst, (Fr.drew w).trans hf.any, HPA.out.drew.keeps hf.keeps ⟨h3, h3⟩⟩
  have HC1 : Hid (w1.cell? ⟨p, o, none⟩ = some (.slice a l.length c)) := HW.out.pa.1.at o HCs.out
  refine ⟨_, rfl, HC1.out, ?_⟩
  simp only [Act.put, List.setIfInBounds_toArray, List.set_cons_zero, List.set_cons_succ]
  refine seq_q (d := some 6) rfl rfl rfl (.int .i64 (k.count s l.length).2) (fun w hw => rfl) ?_
  simp only [Act.put, List.setIfInBounds_toArray, List.set_cons_zero, List.set_cons_succ]
  refine seq_end ?_
  obtain ⟨s1, hs1⟩ : ∃ s1, s1 = (k.count s l.length).1 := ⟨_, rfl⟩
  obtain ⟨n, hn1⟩ : ∃ n, n = (k.count s l.length).2 := ⟨_, rfl⟩
  have HFin : Hid (k.slice k.cnt .zero s l = runE k.cnt .zero s1 l n) := by unfold Hid Wk.slice; rw [hs1, hn1]
  rw [← hs1] at HW
  rw [← hn1] at hn ⊢
  have HSz1 : Hid (k.sz (runE k.cnt .zero s1 l n).1 ≤ 10000000) := by rw [← HFin.out]; exact HSz.out
  have HN6 : Hid (n ≤ 1000000) := hn
  have n0 : (n : Int) ≤ 1000000 := by omega
  have HLs : Hid (SlS K cntE _ k.cnt .zero s1 l p cs av w 0 (.slice none 0 0) w1) := SlS.start (T := 97) HW.out
  clear HW HC1 HC hst hf hn hs1 hn1 HSz HCs
  go_wp2_with fail
  go_loopw [20, 7] (fun kv lv wr => ∃ (i : Nat) (ov : Value), ov = lv ∧ kv = .int .i64 i ∧ i ≤ n ∧ Hid (SlS K cntE 97 k.cnt .zero s1 l p cs av w i ov wr)) (fun kv _ _ => (2000000 - intOf kv).toNat)
  case atStart => exact ⟨0, _, rfl, rfl, by omega, HLs⟩
  case round =>
    clear HLs
    obtain ⟨i, ov, rfl, rfl, hi, hs⟩ := hrel
    by_cases hin : i < n
    · have i0 : (i : Int) < (n : Int) := by omega
      have HSi : Hid (k.sz (k.cnt (runE k.cnt .zero s1 l i).1 (l.getD i .zero)).1 ≤ 10000000) := Nat.le_trans (Wk.Mono.run_le HMo.out .zero s1 l (i + 1) n (by omega)) HSz1.out
      go_upto_region 6 with fail
      have hbx : Below wr.heap.size wr (wr.alloc (.cells #[.string ⟨#[]⟩, .int .i64 0, .int .i64 0] 97)) := (Below.refl _ _).alloc (Nat.le_refl _) _
      have hsx : wr.heap.size < (wr.alloc (.cells #[.string ⟨#[]⟩, .int .i64 0, .int .i64 0] 97)).heap.size := by simp
      have HX : Hid (PAt (wr.alloc (.cells #[.string ⟨#[]⟩, .int .i64 0, .int .i64 0] 97)) wr.heap.size [.string ⟨#[]⟩, .int .i64 0, .int .i64 0]) := PAt.new wr [.string ⟨#[]⟩, .int .i64 0, .int .i64 0] (by simp) _ HTo.out.ne rfl
      generalize wr.alloc (.cells #[.string ⟨#[]⟩, .int .i64 0, .int .i64 0] 97) = wx at hbx hsx HX ⊢
      have HWx := Lib.hid (hs.out.ws.new HK.out hbx)
      have hcx : wx.cell? ⟨p, o, none⟩ = some (.slice a l.length c) := HWx.out.pa.1.at o HCs2.out
      have HBx := Lib.hid hbx
      have HSx := Lib.hid hsx
      have HXb : Hid (K.base ≤ wr.heap.size ∧ wr.heap.size ≠ K.b ∧ w.heap.size ≤ wr.heap.size) := by
        have h1 := hs.out.ws.fr.size
        have h2 := HB.out
        have h3 := (HK.out.lt hs.out.ws.st).1
        unfold Hid; omega
      clear hbx hsx
      by_cases hil : i < l.length
      · have i1 : (i : Int) < (l.length : Int) := by omega
        obtain ⟨ab, ao, es, rfl, hrep, hrg⟩ := ((HRd.out.in HEo.out).keep HEo.out (HWx.out.fr.keeps.mono fun g _ hg => HAv.out g hg.1)).at HEo.out i hil
        have hel := HEo.out.len hrep
        have HRg : Hid (wx.rangeAt ab (ao + i * 3) es) := by
          have h : ao + i * cntE.n = ao + i * 3 := by show ao + i * 3 = _; omega
          unfold Hid; rw [← h]; exact hrg
        have HEl := Lib.hid hel
        have HRp0 := Lib.hid hrep
        have HRo := Lib.hid (HEo.out.one hrep)
        clear hrep hrg hel
        go_wp2_with (first
          | (refine list_load HTo.out rfl _ rfl ab (ao + i * 3) rfl es HEl.out HRg.out ?_)
          | (refine list_store HTo.out rfl _ _ rfl wr.heap.size rfl es rfl HEl.out HRo.out (HX.out.1.there (by simp)) ?_))
        have hap := apartR_setCells wr.heap.size es 0 wx
        have HY : Hid (K.St (runE k.cnt .zero s1 l i).1 (wx.setCells wr.heap.size 0 es) ∧ K.base ≤ wr.heap.size ∧ wr.heap.size ≠ K.b ∧ PAt (wx.setCells wr.heap.size 0 es) wr.heap.size es ∧ cntE.rep (fun g => av g ∧ g < w.heap.size) (wx.setCells wr.heap.size 0 es) es (l.getD i .zero) ∧ (∀ g, av g ∧ g < w.heap.size → g ≠ K.b ∧ g ≠ wr.heap.size) ∧ Below wr.heap.size wr (wx.setCells wr.heap.size 0 es) ∧ wr.heap.size < (wx.setCells wr.heap.size 0 es).heap.size) := by
          refine ⟨HK.out.stable HWx.out.st (HX.out.quietR HXb.out.1 HXb.out.2.1 hap), HXb.out.1, HXb.out.2.1, HX.out.setCells es (by rw [HEl.out]; rfl), ?_, fun g hg => ⟨(HAv.out g hg.1).1, by have := HXb.out.2.2; omega⟩, HBx.out.trans (hap.below (Nat.le_refl _)), by rw [hap.2.2.2.1]; exact HSx.out⟩
          have e : l.getD i .zero = l[i] := by simp [hil]
          rw [e]
          exact HEo.out.keep HRp0.out fun g c t f _ _ hg => hap.2.2.2.2 g (by have := HXb.out.2.2; omega)
        generalize wx.setCells wr.heap.size 0 es = wy at HY hap ⊢
        clear hap HRg HEl HRp0 HRo HX HWx HBx HSx hcx
        refine (HWE.out (runE k.cnt .zero s1 l i).1 (l.getD i .zero) wy wr.heap.size 0 es es (fun g => av g ∧ g < w.heap.size) HY.out.1 HY.out.2.1 HY.out.2.2.1 HY.out.2.2.2.1 (fun j hj => by rw [Nat.zero_add]) HY.out.2.2.2.2.1 HY.out.2.2.2.2.2.1 HSi.out).mono ?_
        rintro e w2 ⟨rfl, hst, hf, es', hpa, hrep⟩
        have hes' : es'.length = 3 := HEo.out.len hrep
        have hes : es.length = 3 := HEo.out.len HY.out.2.2.2.2.1
        rw [putL_whole (by rw [hes', hes])] at hpa
        have HAp := Lib.hid (hs.out.next HK.out HEo.out HTo.out HB.out HP.out h3 h2 HAv.out HY.out.2.2.2.2.2.2.1 HY.out.2.2.2.2.2.2.2 hst hf hrep (by have := HN6.out; omega) 95)
        have HPx := Lib.hid hpa
        have HRp := Lib.hid (HEo.out.one hrep)
        have HLn := Lib.hid hes'
        clear hst hf hpa hrep hes hes' HY HSi hs
        go_wp2_with (first
          | (refine list_load HTo.out rfl _ rfl wr.heap.size 0 rfl es' HLn.out HPx.out.1.range ?_)
          | (refine list_lit HTo.out rfl _ rfl es' rfl HLn.out HRp.out ?_)
          | (at_builtin; obtain ⟨v', w', hrun, hs'⟩ := HAp.out; have Hrun := Lib.hid hrun; have Hs' := Lib.hid hs'; clear hrun hs'; refine wpList_append_run rfl _ _ _ rfl _ _ _ _ rfl rfl Hrun.out ?_))
        go_roundw
        case rel => exact ⟨i + 1, v', rfl, by go_num, by omega, Hs'⟩
        case measure => simp [intOf]; omega
      · have HY : Hid (K.St (runE k.cnt .zero s1 l i).1 wx ∧ K.base ≤ wr.heap.size ∧ wr.heap.size ≠ K.b ∧ PAt wx wr.heap.size [.string ⟨#[]⟩, .int .i64 0, .int .i64 0] ∧ cntE.rep (fun g => av g ∧ g < w.heap.size) wx [.string ⟨#[]⟩, .int .i64 0, .int .i64 0] (l.getD i .zero) ∧ (∀ g, av g ∧ g < w.heap.size → g ≠ K.b ∧ g ≠ wr.heap.size) ∧ Below wr.heap.size wr wx ∧ wr.heap.size < wx.heap.size) := by
          refine ⟨HWx.out.st, HXb.out.1, HXb.out.2.1, HX.out, ?_, fun g hg => ⟨(HAv.out g hg.1).1, by have := HXb.out.2.2; omega⟩, HBx.out, HSx.out⟩
          have e : l.getD i .zero = .zero := by simp [List.getElem?_eq_none (Nat.le_of_not_lt hil)]
          rw [e]
          exact ⟨rfl, by decide, I64.zero, I64.zero⟩
        go_wp2_with fail
        obtain ⟨es, hes0⟩ : ∃ es : List Value, es = [.string ⟨#[]⟩, .int .i64 0, .int .i64 0] := ⟨_, rfl⟩
        rw [← hes0] at HY
        clear hes0 HX HWx HBx HSx hcx
        obtain ⟨wy, rfl⟩ : ∃ wy : World, wy = wx := ⟨_, rfl⟩
        refine (HWE.out (runE k.cnt .zero s1 l i).1 (l.getD i .zero) wy wr.heap.size 0 es es (fun g => av g ∧ g < w.heap.size) HY.out.1 HY.out.2.1 HY.out.2.2.1 HY.out.2.2.2.1 (fun j hj => by rw [Nat.zero_add]) HY.out.2.2.2.2.1 HY.out.2.2.2.2.2.1 HSi.out).mono ?_
        rintro e w2 ⟨rfl, hst, hf, es', hpa, hrep⟩
        have hes' : es'.length = 3 := HEo.out.len hrep
        have hes : es.length = 3 := HEo.out.len HY.out.2.2.2.2.1
        rw [putL_whole (by rw [hes', hes])] at hpa
        have HAp := Lib.hid (hs.out.next HK.out HEo.out HTo.out HB.out HP.out h3 h2 HAv.out HY.out.2.2.2.2.2.2.1 HY.out.2.2.2.2.2.2.2 hst hf hrep (by have := HN6.out; omega) 95)
        have HPx := Lib.hid hpa
        have HRp := Lib.hid (HEo.out.one hrep)
        have HLn := Lib.hid hes'
        clear hst hf hpa hrep hes hes' HY HSi hs
        go_wp2_with (first
          | (refine list_load HTo.out rfl _ rfl wr.heap.size 0 rfl es' HLn.out HPx.out.1.range ?_)
          | (refine list_lit HTo.out rfl _ rfl es' rfl HLn.out HRp.out ?_)
          | (at_builtin; obtain ⟨v', w', hrun, hs'⟩ := HAp.out; have Hrun := Lib.hid hrun; have Hs' := Lib.hid hs'; clear hrun hs'; refine wpList_append_run rfl _ _ _ rfl _ _ _ _ rfl rfl Hrun.out ?_))
        go_roundw
        case rel => exact ⟨i + 1, v', rfl, by go_num, by omega, Hs'⟩
        case measure => simp [intOf]; omega
    · obtain rfl : i = n := by omega
      obtain ⟨oa, oc, rfl⟩ := hs.out.slice
      have hc5 : wr.cell? ⟨p, o, none⟩ = some (.slice a l.length c) := hs.out.ws.pa.1.at o HCs2.out
      have hf5 : wr.frozen? ⟨p, o, none⟩ = false := hs.out.ws.pa.1.2.2 o HO.out
      have HPo : Hid (WPost K (sliE cntE) (k.slice k.cnt .zero s l) p o cs av w (wr.setCell ⟨p, o, none⟩ (.slice oa i oc))) := by rw [HFin.out]; exact hs.out.post HK.out HEo.out HTo.out HN6.out HP.out h3 h2 HAv.out o HO.out
      clear hs
      go_wp2_with fail
      go_end0
      exact ⟨rfl, HPo.out⟩
end
end Go.Proofs.YtpknalpdcfjffaaGreat
/- store.counts, over any walker. -/
namespace Go.Proofs.YtpknalpdcfjffaaGreat
open Go Go.RowKit

section
variable {σ : Type} {k : Wk σ}
set_option maxHeartbeats 16000000 in
set_option maxRecDepth 100000 in
theorem counts_walks (K : WkM k) (hK : K.OK) : Walks K 70 K.recv [] (sliE cntE) k.cnts := by
  intro s x w p o cs es av h1 h2 h3 h4 h5 h6 h7 h8
  have HC := Lib.hid (slice_cnt K hK s x w p o cs es av h1 h2 h3 h4 h5 h6 h7 h8)
  clear h1 h4 h5 h6 h7 h8 hK
  go_enter Tryz.func70, Tryz.ntmps70
  go_wp2_with fail
  refine HC.out.mono ?_
  rintro e w2 ⟨rfl, hst⟩
  have HR := Lib.hid hst
  clear hst
  try go_wp2_with fail
  go_end0
  exact ⟨rfl, HR.out⟩
end
end Go.Proofs.YtpknalpdcfjffaaGreat
/- synoptic/store.slice[[]synoptic/api.Count], over any walker. Printed by gen_slices.py. -/
namespace Go.Proofs.YtpknalpdcfjffaaGreat
open Go Go.RowKit

section
variable {σ : Type} {k : Wk σ}
set_option maxHeartbeats 16000000 in
set_option maxRecDepth 100000 in
theorem slice_cnts (K : WkM k) (hK : K.OK) : Walks K 69 K.recv [.func (.func 70) #[] #[]] (sliE (sliE cntE)) (k.slice k.cnts []) := by
  intro s l w p o cs es av h1 h2 h3 h4 h5 h6 h7 h8
  have HK := Lib.hid hK
  have HEo := Lib.hid (sliE_ok cntE_ok)
  have HTo := Lib.hid cntsT
  have HMo := Lib.hid HK.out.mono.cnts
  have HWE := Lib.hid (counts_walks K hK)
  obtain ⟨fc, mc, wc⟩ := hK.count
  have HMc := Lib.hid mc
  obtain ⟨v, rfl, hr⟩ := h6
  obtain ⟨a, c, rfl⟩ := hr.slice
  have HLl := Lib.hid hr.le
  have HRd := Lib.hid hr
  have HB : Hid (K.b < w.heap.size) := (hK.lt h1).2
  have HP : Hid (p < w.heap.size) := h4.lt
  have HAv := Lib.hid h7
  have HPA := Lib.hid h4
  have hlo := h5.le (by simp)
  have HO : Hid (o < cs.length) := by unfold Hid; simp at hlo; omega
  have HCs : Hid (cs[o]? = some (.slice a l.length c)) := h5 0 (by simp)
  have HCs2 := Lib.hid HCs.out
  have HC : Hid (w.drew.cell? ⟨p, o, none⟩ = some (.slice a l.length c)) := h4.drew.1.at o HCs.out
  have HS0 := Lib.hid h1
  have HSz := Lib.hid h8
  clear hr h1 h4 h5 h7 h8 hlo mc
  unfold Wk.slice at HSz
  go_enter Tryz.func69, Tryz.ntmps69
  try go_wp2_with fail
  refine wp_region_seq (by kernel_rfl) (fun w' => w'.cell? ⟨p, o, none⟩ = some (.slice a l.length c)) [(0, true), (1, true), (2, true), (3, true), (4, true), (5, true), (6, true), (7, true), (8, false), (9, true)] (by kernel_rfl) (HC.out) ?_
  refine seq_q (d := some 10) rfl rfl rfl (K.recv) (fun w hw => rfl) ?_
  simp only [Act.put, List.setIfInBounds_toArray, List.set_cons_zero, List.set_cons_succ]
  refine seq_q (d := some 11) rfl rfl rfl (.pointer (some ⟨p, o, none⟩)) (fun w hw => rfl) ?_
  simp only [Act.put, List.setIfInBounds_toArray, List.set_cons_zero, List.set_cons_succ]
  refine seq_q (d := some 12) rfl rfl rfl (.pointer (some ⟨p, o, none⟩)) (fun w hw => rfl) ?_
  simp only [Act.put, List.setIfInBounds_toArray, List.set_cons_zero, List.set_cons_succ]
  refine seq_q (d := some 13) rfl rfl rfl (.slice a l.length c) (fun w hw => by simp [execOp, Act.eval, hw, go_sem]) ?_
  simp only [Act.put, List.setIfInBounds_toArray, List.set_cons_zero, List.set_cons_succ]
  refine seq_q (d := some 14) rfl rfl rfl (.int .i64 l.length) (fun w hw => by simp [execOp, Act.eval, go_sem]) ?_
  simp only [Act.put, List.setIfInBounds_toArray, List.set_cons_zero, List.set_cons_succ]
  refine seq_q (d := some 15) rfl rfl rfl (.func (.method "synoptic/store.count") #[K.recv] #[]) (fun w hw => run_makeFunc (.tmp 10) rfl (K.recv) rfl w) ?_
  simp only [Act.put, List.setIfInBounds_toArray, List.set_cons_zero, List.set_cons_succ]
  refine seq_q (d := some 16) rfl rfl rfl (.func (.method "synoptic/store.count") #[K.recv] #[]) (fun w hw => run_nilMethod HMc.out.ahead (.tmp 15) rfl rfl w) ?_
  simp only [Act.put, List.setIfInBounds_toArray, List.set_cons_zero, List.set_cons_succ]
  refine seq_q (d := some 17) rfl rfl rfl (K.recv) (fun w hw => rfl) ?_
  simp only [Act.put, List.setIfInBounds_toArray, List.set_cons_zero, List.set_cons_succ]
  refine seq_invoke (d := some 18) rfl rfl rfl HMc.out.b _ _ _ rfl rfl [.int .i64 l.length] rfl (wc s l.length w.drew (HK.out.stable HS0.out (Quiet.drew _)) HLl.out (Nat.le_trans (Wk.Mono.run HMo.out _ _ _ _) HSz.out)) ?_
  rintro e w1 ⟨rfl, hn, hst, hf⟩
  have HW : Hid (WS K p (k.count s l.length).1 cs w w1) := ⟨hst, (Fr.drew w).trans hf.any, HPA.out.drew.keeps hf.keeps ⟨h3, h3⟩⟩
  have HC1 : Hid (w1.cell? ⟨p, o, none⟩ = some (.slice a l.length c)) := HW.out.pa.1.at o HCs.out
  refine ⟨_, rfl, HC1.out, ?_⟩
  simp only [Act.put, List.setIfInBounds_toArray, List.set_cons_zero, List.set_cons_succ]
  refine seq_q (d := some 6) rfl rfl rfl (.int .i64 (k.count s l.length).2) (fun w hw => rfl) ?_
  simp only [Act.put, List.setIfInBounds_toArray, List.set_cons_zero, List.set_cons_succ]
  refine seq_end ?_
  obtain ⟨s1, hs1⟩ : ∃ s1, s1 = (k.count s l.length).1 := ⟨_, rfl⟩
  obtain ⟨n, hn1⟩ : ∃ n, n = (k.count s l.length).2 := ⟨_, rfl⟩
  have HFin : Hid (k.slice k.cnts [] s l = runE k.cnts [] s1 l n) := by unfold Hid Wk.slice; rw [hs1, hn1]
  rw [← hs1] at HW
  rw [← hn1] at hn ⊢
  have HSz1 : Hid (k.sz (runE k.cnts [] s1 l n).1 ≤ 10000000) := by rw [← HFin.out]; exact HSz.out
  have HN6 : Hid (n ≤ 1000000) := hn
  have n0 : (n : Int) ≤ 1000000 := by omega
  have HLs : Hid (SlS K (sliE cntE) _ k.cnts [] s1 l p cs av w 0 (.slice none 0 0) w1) := SlS.start (T := 95) HW.out
  clear HW HC1 HC hst hf hn hs1 hn1 HSz HCs
  go_wp2_with fail
  go_loopw [20, 7] (fun kv lv wr => ∃ (i : Nat) (ov : Value), ov = lv ∧ kv = .int .i64 i ∧ i ≤ n ∧ Hid (SlS K (sliE cntE) 95 k.cnts [] s1 l p cs av w i ov wr)) (fun kv _ _ => (2000000 - intOf kv).toNat)
  case atStart => exact ⟨0, _, rfl, rfl, by omega, HLs⟩
  case round =>
    clear HLs
    obtain ⟨i, ov, rfl, rfl, hi, hs⟩ := hrel
    by_cases hin : i < n
    · have i0 : (i : Int) < (n : Int) := by omega
      have HSi : Hid (k.sz (k.cnts (runE k.cnts [] s1 l i).1 (l.getD i [])).1 ≤ 10000000) := Nat.le_trans (Wk.Mono.run_le HMo.out [] s1 l (i + 1) n (by omega)) HSz1.out
      go_upto_region 6 with fail
      have hbx : Below wr.heap.size wr (wr.alloc (.cells #[.slice none 0 0] 95)) := (Below.refl _ _).alloc (Nat.le_refl _) _
      have hsx : wr.heap.size < (wr.alloc (.cells #[.slice none 0 0] 95)).heap.size := by simp
      have HX : Hid (PAt (wr.alloc (.cells #[.slice none 0 0] 95)) wr.heap.size [.slice none 0 0]) := PAt.new wr [.slice none 0 0] (by simp) _ HTo.out.ne rfl
      generalize wr.alloc (.cells #[.slice none 0 0] 95) = wx at hbx hsx HX ⊢
      have HWx := Lib.hid (hs.out.ws.new HK.out hbx)
      have hcx : wx.cell? ⟨p, o, none⟩ = some (.slice a l.length c) := HWx.out.pa.1.at o HCs2.out
      have HBx := Lib.hid hbx
      have HSx := Lib.hid hsx
      have HXb : Hid (K.base ≤ wr.heap.size ∧ wr.heap.size ≠ K.b ∧ w.heap.size ≤ wr.heap.size) := by
        have h1 := hs.out.ws.fr.size
        have h2 := HB.out
        have h3 := (HK.out.lt hs.out.ws.st).1
        unfold Hid; omega
      clear hbx hsx
      by_cases hil : i < l.length
      · have i1 : (i : Int) < (l.length : Int) := by omega
        obtain ⟨ab, ao, es, rfl, hrep, hrg⟩ := ((HRd.out.in HEo.out).keep HEo.out (HWx.out.fr.keeps.mono fun g _ hg => HAv.out g hg.1)).at HEo.out i hil
        have hel := HEo.out.len hrep
        have HRg : Hid (wx.rangeAt ab (ao + i) es) := by
          have h : ao + i * (sliE cntE).n = ao + i := by show ao + i * 1 = _; omega
          unfold Hid; rw [← h]; exact hrg
        have HEl := Lib.hid hel
        have HRp0 := Lib.hid hrep
        have HRo := Lib.hid (HEo.out.one hrep)
        clear hrep hrg hel
        go_wp2_with (first
          | (refine list_load HTo.out rfl _ rfl ab (ao + i) rfl es HEl.out HRg.out ?_)
          | (refine list_store HTo.out rfl _ _ rfl wr.heap.size rfl es rfl HEl.out HRo.out (HX.out.1.there (by simp)) ?_))
        have hap := apartR_setCells wr.heap.size es 0 wx
        have HY : Hid (K.St (runE k.cnts [] s1 l i).1 (wx.setCells wr.heap.size 0 es) ∧ K.base ≤ wr.heap.size ∧ wr.heap.size ≠ K.b ∧ PAt (wx.setCells wr.heap.size 0 es) wr.heap.size es ∧ (sliE cntE).rep (fun g => av g ∧ g < w.heap.size) (wx.setCells wr.heap.size 0 es) es (l.getD i []) ∧ (∀ g, av g ∧ g < w.heap.size → g ≠ K.b ∧ g ≠ wr.heap.size) ∧ Below wr.heap.size wr (wx.setCells wr.heap.size 0 es) ∧ wr.heap.size < (wx.setCells wr.heap.size 0 es).heap.size) := by
          refine ⟨HK.out.stable HWx.out.st (HX.out.quietR HXb.out.1 HXb.out.2.1 hap), HXb.out.1, HXb.out.2.1, HX.out.setCells es (by rw [HEl.out]; rfl), ?_, fun g hg => ⟨(HAv.out g hg.1).1, by have := HXb.out.2.2; omega⟩, HBx.out.trans (hap.below (Nat.le_refl _)), by rw [hap.2.2.2.1]; exact HSx.out⟩
          have e : l.getD i [] = l[i] := by simp [hil]
          rw [e]
          exact HEo.out.keep HRp0.out fun g c t f _ _ hg => hap.2.2.2.2 g (by have := HXb.out.2.2; omega)
        generalize wx.setCells wr.heap.size 0 es = wy at HY hap ⊢
        clear hap HRg HEl HRp0 HRo HX HWx HBx HSx hcx
        refine (HWE.out (runE k.cnts [] s1 l i).1 (l.getD i []) wy wr.heap.size 0 es es (fun g => av g ∧ g < w.heap.size) HY.out.1 HY.out.2.1 HY.out.2.2.1 HY.out.2.2.2.1 (fun j hj => by rw [Nat.zero_add]) HY.out.2.2.2.2.1 HY.out.2.2.2.2.2.1 HSi.out).mono ?_
        rintro e w2 ⟨rfl, hst, hf, es', hpa, hrep⟩
        have hes' : es'.length = 1 := HEo.out.len hrep
        have hes : es.length = 1 := HEo.out.len HY.out.2.2.2.2.1
        rw [putL_whole (by rw [hes', hes])] at hpa
        have HAp := Lib.hid (hs.out.next HK.out HEo.out HTo.out HB.out HP.out h3 h2 HAv.out HY.out.2.2.2.2.2.2.1 HY.out.2.2.2.2.2.2.2 hst hf hrep (by have := HN6.out; omega) 48)
        have HPx := Lib.hid hpa
        have HRp := Lib.hid (HEo.out.one hrep)
        have HLn := Lib.hid hes'
        clear hst hf hpa hrep hes hes' HY HSi hs
        go_wp2_with (first
          | (refine list_load HTo.out rfl _ rfl wr.heap.size 0 rfl es' HLn.out HPx.out.1.range ?_)
          | (refine list_lit HTo.out rfl _ rfl es' rfl HLn.out HRp.out ?_)
          | (at_builtin; obtain ⟨v', w', hrun, hs'⟩ := HAp.out; have Hrun := Lib.hid hrun; have Hs' := Lib.hid hs'; clear hrun hs'; refine wpList_append_run rfl _ _ _ rfl _ _ _ _ rfl rfl Hrun.out ?_))
        go_roundw
        case rel => exact ⟨i + 1, v', rfl, by go_num, by omega, Hs'⟩
        case measure => simp [intOf]; omega
      · have HY : Hid (K.St (runE k.cnts [] s1 l i).1 wx ∧ K.base ≤ wr.heap.size ∧ wr.heap.size ≠ K.b ∧ PAt wx wr.heap.size [.slice none 0 0] ∧ (sliE cntE).rep (fun g => av g ∧ g < w.heap.size) wx [.slice none 0 0] (l.getD i []) ∧ (∀ g, av g ∧ g < w.heap.size → g ≠ K.b ∧ g ≠ wr.heap.size) ∧ Below wr.heap.size wr wx ∧ wr.heap.size < wx.heap.size) := by
          refine ⟨HWx.out.st, HXb.out.1, HXb.out.2.1, HX.out, ?_, fun g hg => ⟨(HAv.out g hg.1).1, by have := HXb.out.2.2; omega⟩, HBx.out, HSx.out⟩
          have e : l.getD i [] = [] := by simp [List.getElem?_eq_none (Nat.le_of_not_lt hil)]
          rw [e]
          exact ⟨_, rfl, RdS.nil _ _ _⟩
        go_wp2_with fail
        obtain ⟨es, hes0⟩ : ∃ es : List Value, es = [.slice none 0 0] := ⟨_, rfl⟩
        rw [← hes0] at HY
        clear hes0 HX HWx HBx HSx hcx
        obtain ⟨wy, rfl⟩ : ∃ wy : World, wy = wx := ⟨_, rfl⟩
        refine (HWE.out (runE k.cnts [] s1 l i).1 (l.getD i []) wy wr.heap.size 0 es es (fun g => av g ∧ g < w.heap.size) HY.out.1 HY.out.2.1 HY.out.2.2.1 HY.out.2.2.2.1 (fun j hj => by rw [Nat.zero_add]) HY.out.2.2.2.2.1 HY.out.2.2.2.2.2.1 HSi.out).mono ?_
        rintro e w2 ⟨rfl, hst, hf, es', hpa, hrep⟩
        have hes' : es'.length = 1 := HEo.out.len hrep
        have hes : es.length = 1 := HEo.out.len HY.out.2.2.2.2.1
        rw [putL_whole (by rw [hes', hes])] at hpa
        have HAp := Lib.hid (hs.out.next HK.out HEo.out HTo.out HB.out HP.out h3 h2 HAv.out HY.out.2.2.2.2.2.2.1 HY.out.2.2.2.2.2.2.2 hst hf hrep (by have := HN6.out; omega) 48)
        have HPx := Lib.hid hpa
        have HRp := Lib.hid (HEo.out.one hrep)
        have HLn := Lib.hid hes'
        clear hst hf hpa hrep hes hes' HY HSi hs
        go_wp2_with (first
          | (refine list_load HTo.out rfl _ rfl wr.heap.size 0 rfl es' HLn.out HPx.out.1.range ?_)
          | (refine list_lit HTo.out rfl _ rfl es' rfl HLn.out HRp.out ?_)
          | (at_builtin; obtain ⟨v', w', hrun, hs'⟩ := HAp.out; have Hrun := Lib.hid hrun; have Hs' := Lib.hid hs'; clear hrun hs'; refine wpList_append_run rfl _ _ _ rfl _ _ _ _ rfl rfl Hrun.out ?_))
        go_roundw
        case rel => exact ⟨i + 1, v', rfl, by go_num, by omega, Hs'⟩
        case measure => simp [intOf]; omega
    · obtain rfl : i = n := by omega
      obtain ⟨oa, oc, rfl⟩ := hs.out.slice
      have hc5 : wr.cell? ⟨p, o, none⟩ = some (.slice a l.length c) := hs.out.ws.pa.1.at o HCs2.out
      have hf5 : wr.frozen? ⟨p, o, none⟩ = false := hs.out.ws.pa.1.2.2 o HO.out
      have HPo : Hid (WPost K (sliE (sliE cntE)) (k.slice k.cnts [] s l) p o cs av w (wr.setCell ⟨p, o, none⟩ (.slice oa i oc))) := by rw [HFin.out]; exact hs.out.post HK.out HEo.out HTo.out HN6.out HP.out h3 h2 HAv.out o HO.out
      clear hs
      go_wp2_with fail
      go_end0
      exact ⟨rfl, HPo.out⟩
end
end Go.Proofs.YtpknalpdcfjffaaGreat
/- synoptic/store.slice[string], over any walker. Printed by gen_slices.py. -/
namespace Go.Proofs.YtpknalpdcfjffaaGreat
open Go Go.RowKit

section
variable {σ : Type} {k : Wk σ}
set_option maxHeartbeats 16000000 in
set_option maxRecDepth 100000 in
theorem slice_str (K : WkM k) (hK : K.OK) : Walks K 71 K.recv [.func (.func 72) #[] #[]] (sliE strE) (k.slice k.text ⟨#[]⟩) := by
  intro s l w p o cs es av h1 h2 h3 h4 h5 h6 h7 h8
  have HK := Lib.hid hK
  have HEo := Lib.hid strE_ok
  have HTo := Lib.hid strT
  have HMo := Lib.hid HK.out.mono.text
  have HWE := Lib.hid (text_walks K hK)
  obtain ⟨fc, mc, wc⟩ := hK.count
  have HMc := Lib.hid mc
  obtain ⟨v, rfl, hr⟩ := h6
  obtain ⟨a, c, rfl⟩ := hr.slice
  have HLl := Lib.hid hr.le
  have HRd := Lib.hid hr
  have HB : Hid (K.b < w.heap.size) := (hK.lt h1).2
  have HP : Hid (p < w.heap.size) := h4.lt
  have HAv := Lib.hid h7
  have HPA := Lib.hid h4
  have hlo := h5.le (by simp)
  have HO : Hid (o < cs.length) := by unfold Hid; simp at hlo; omega
  have HCs : Hid (cs[o]? = some (.slice a l.length c)) := h5 0 (by simp)
  have HCs2 := Lib.hid HCs.out
  have HC : Hid (w.drew.cell? ⟨p, o, none⟩ = some (.slice a l.length c)) := h4.drew.1.at o HCs.out
  have HS0 := Lib.hid h1
  have HSz := Lib.hid h8
  clear hr h1 h4 h5 h7 h8 hlo mc
  unfold Wk.slice at HSz
  go_enter Tryz.func71, Tryz.ntmps71
  try go_wp2_with fail
  refine wp_region_seq (by kernel_rfl) (fun w' => w'.cell? ⟨p, o, none⟩ = some (.slice a l.length c)) [(0, true), (1, true), (2, true), (3, true), (4, true), (5, true), (6, true), (7, true), (8, false), (9, true)] (by kernel_rfl) (HC.out) ?_
  refine seq_q (d := some 10) rfl rfl rfl (K.recv) (fun w hw => rfl) ?_
  simp only [Act.put, List.setIfInBounds_toArray, List.set_cons_zero, List.set_cons_succ]
  refine seq_q (d := some 11) rfl rfl rfl (.pointer (some ⟨p, o, none⟩)) (fun w hw => rfl) ?_
  simp only [Act.put, List.setIfInBounds_toArray, List.set_cons_zero, List.set_cons_succ]
  refine seq_q (d := some 12) rfl rfl rfl (.pointer (some ⟨p, o, none⟩)) (fun w hw => rfl) ?_
  simp only [Act.put, List.setIfInBounds_toArray, List.set_cons_zero, List.set_cons_succ]
  refine seq_q (d := some 13) rfl rfl rfl (.slice a l.length c) (fun w hw => by simp [execOp, Act.eval, hw, go_sem]) ?_
  simp only [Act.put, List.setIfInBounds_toArray, List.set_cons_zero, List.set_cons_succ]
  refine seq_q (d := some 14) rfl rfl rfl (.int .i64 l.length) (fun w hw => by simp [execOp, Act.eval, go_sem]) ?_
  simp only [Act.put, List.setIfInBounds_toArray, List.set_cons_zero, List.set_cons_succ]
  refine seq_q (d := some 15) rfl rfl rfl (.func (.method "synoptic/store.count") #[K.recv] #[]) (fun w hw => run_makeFunc (.tmp 10) rfl (K.recv) rfl w) ?_
  simp only [Act.put, List.setIfInBounds_toArray, List.set_cons_zero, List.set_cons_succ]
  refine seq_q (d := some 16) rfl rfl rfl (.func (.method "synoptic/store.count") #[K.recv] #[]) (fun w hw => run_nilMethod HMc.out.ahead (.tmp 15) rfl rfl w) ?_
  simp only [Act.put, List.setIfInBounds_toArray, List.set_cons_zero, List.set_cons_succ]
  refine seq_q (d := some 17) rfl rfl rfl (K.recv) (fun w hw => rfl) ?_
  simp only [Act.put, List.setIfInBounds_toArray, List.set_cons_zero, List.set_cons_succ]
  refine seq_invoke (d := some 18) rfl rfl rfl HMc.out.b _ _ _ rfl rfl [.int .i64 l.length] rfl (wc s l.length w.drew (HK.out.stable HS0.out (Quiet.drew _)) HLl.out (Nat.le_trans (Wk.Mono.run HMo.out _ _ _ _) HSz.out)) ?_
  rintro e w1 ⟨rfl, hn, hst, hf⟩
  have HW : Hid (WS K p (k.count s l.length).1 cs w w1) := ⟨hst, (Fr.drew w).trans hf.any, HPA.out.drew.keeps hf.keeps ⟨h3, h3⟩⟩
  have HC1 : Hid (w1.cell? ⟨p, o, none⟩ = some (.slice a l.length c)) := HW.out.pa.1.at o HCs.out
  refine ⟨_, rfl, HC1.out, ?_⟩
  simp only [Act.put, List.setIfInBounds_toArray, List.set_cons_zero, List.set_cons_succ]
  refine seq_q (d := some 6) rfl rfl rfl (.int .i64 (k.count s l.length).2) (fun w hw => rfl) ?_
  simp only [Act.put, List.setIfInBounds_toArray, List.set_cons_zero, List.set_cons_succ]
  refine seq_end ?_
  obtain ⟨s1, hs1⟩ : ∃ s1, s1 = (k.count s l.length).1 := ⟨_, rfl⟩
  obtain ⟨n, hn1⟩ : ∃ n, n = (k.count s l.length).2 := ⟨_, rfl⟩
  have HFin : Hid (k.slice k.text ⟨#[]⟩ s l = runE k.text ⟨#[]⟩ s1 l n) := by unfold Hid Wk.slice; rw [hs1, hn1]
  rw [← hs1] at HW
  rw [← hn1] at hn ⊢
  have HSz1 : Hid (k.sz (runE k.text ⟨#[]⟩ s1 l n).1 ≤ 10000000) := by rw [← HFin.out]; exact HSz.out
  have HN6 : Hid (n ≤ 1000000) := hn
  have n0 : (n : Int) ≤ 1000000 := by omega
  have HLs : Hid (SlS K strE _ k.text ⟨#[]⟩ s1 l p cs av w 0 (.slice none 0 0) w1) := SlS.start (T := 9) HW.out
  clear HW HC1 HC hst hf hn hs1 hn1 HSz HCs
  go_wp2_with fail
  go_loopw [20, 7] (fun kv lv wr => ∃ (i : Nat) (ov : Value), ov = lv ∧ kv = .int .i64 i ∧ i ≤ n ∧ Hid (SlS K strE 9 k.text ⟨#[]⟩ s1 l p cs av w i ov wr)) (fun kv _ _ => (2000000 - intOf kv).toNat)
  case atStart => exact ⟨0, _, rfl, rfl, by omega, HLs⟩
  case round =>
    clear HLs
    obtain ⟨i, ov, rfl, rfl, hi, hs⟩ := hrel
    by_cases hin : i < n
    · have i0 : (i : Int) < (n : Int) := by omega
      have HSi : Hid (k.sz (k.text (runE k.text ⟨#[]⟩ s1 l i).1 (l.getD i ⟨#[]⟩)).1 ≤ 10000000) := Nat.le_trans (Wk.Mono.run_le HMo.out ⟨#[]⟩ s1 l (i + 1) n (by omega)) HSz1.out
      go_upto_region 6 with fail
      have hbx : Below wr.heap.size wr (wr.alloc (.cells #[.string ⟨#[]⟩] 9)) := (Below.refl _ _).alloc (Nat.le_refl _) _
      have hsx : wr.heap.size < (wr.alloc (.cells #[.string ⟨#[]⟩] 9)).heap.size := by simp
      have HX : Hid (PAt (wr.alloc (.cells #[.string ⟨#[]⟩] 9)) wr.heap.size [.string ⟨#[]⟩]) := PAt.new wr [.string ⟨#[]⟩] (by simp) _ HTo.out.ne rfl
      generalize wr.alloc (.cells #[.string ⟨#[]⟩] 9) = wx at hbx hsx HX ⊢
      have HWx := Lib.hid (hs.out.ws.new HK.out hbx)
      have hcx : wx.cell? ⟨p, o, none⟩ = some (.slice a l.length c) := HWx.out.pa.1.at o HCs2.out
      have HBx := Lib.hid hbx
      have HSx := Lib.hid hsx
      have HXb : Hid (K.base ≤ wr.heap.size ∧ wr.heap.size ≠ K.b ∧ w.heap.size ≤ wr.heap.size) := by
        have h1 := hs.out.ws.fr.size
        have h2 := HB.out
        have h3 := (HK.out.lt hs.out.ws.st).1
        unfold Hid; omega
      clear hbx hsx
      by_cases hil : i < l.length
      · have i1 : (i : Int) < (l.length : Int) := by omega
        obtain ⟨ab, ao, es, rfl, hrep, hrg⟩ := ((HRd.out.in HEo.out).keep HEo.out (HWx.out.fr.keeps.mono fun g _ hg => HAv.out g hg.1)).at HEo.out i hil
        have hel := HEo.out.len hrep
        have HRg : Hid (wx.rangeAt ab (ao + i) es) := by
          have h : ao + i * strE.n = ao + i := by show ao + i * 1 = _; omega
          unfold Hid; rw [← h]; exact hrg
        have HEl := Lib.hid hel
        have HRp0 := Lib.hid hrep
        have HRo := Lib.hid (HEo.out.one hrep)
        clear hrep hrg hel
        go_wp2_with (first
          | (refine list_load HTo.out rfl _ rfl ab (ao + i) rfl es HEl.out HRg.out ?_)
          | (refine list_store HTo.out rfl _ _ rfl wr.heap.size rfl es rfl HEl.out HRo.out (HX.out.1.there (by simp)) ?_))
        have hap := apartR_setCells wr.heap.size es 0 wx
        have HY : Hid (K.St (runE k.text ⟨#[]⟩ s1 l i).1 (wx.setCells wr.heap.size 0 es) ∧ K.base ≤ wr.heap.size ∧ wr.heap.size ≠ K.b ∧ PAt (wx.setCells wr.heap.size 0 es) wr.heap.size es ∧ strE.rep (fun g => av g ∧ g < w.heap.size) (wx.setCells wr.heap.size 0 es) es (l.getD i ⟨#[]⟩) ∧ (∀ g, av g ∧ g < w.heap.size → g ≠ K.b ∧ g ≠ wr.heap.size) ∧ Below wr.heap.size wr (wx.setCells wr.heap.size 0 es) ∧ wr.heap.size < (wx.setCells wr.heap.size 0 es).heap.size) := by
          refine ⟨HK.out.stable HWx.out.st (HX.out.quietR HXb.out.1 HXb.out.2.1 hap), HXb.out.1, HXb.out.2.1, HX.out.setCells es (by rw [HEl.out]; rfl), ?_, fun g hg => ⟨(HAv.out g hg.1).1, by have := HXb.out.2.2; omega⟩, HBx.out.trans (hap.below (Nat.le_refl _)), by rw [hap.2.2.2.1]; exact HSx.out⟩
          have e : l.getD i ⟨#[]⟩ = l[i] := by simp [hil]
          rw [e]
          exact HEo.out.keep HRp0.out fun g c t f _ _ hg => hap.2.2.2.2 g (by have := HXb.out.2.2; omega)
        generalize wx.setCells wr.heap.size 0 es = wy at HY hap ⊢
        clear hap HRg HEl HRp0 HRo HX HWx HBx HSx hcx
        refine (HWE.out (runE k.text ⟨#[]⟩ s1 l i).1 (l.getD i ⟨#[]⟩) wy wr.heap.size 0 es es (fun g => av g ∧ g < w.heap.size) HY.out.1 HY.out.2.1 HY.out.2.2.1 HY.out.2.2.2.1 (fun j hj => by rw [Nat.zero_add]) HY.out.2.2.2.2.1 HY.out.2.2.2.2.2.1 HSi.out).mono ?_
        rintro e w2 ⟨rfl, hst, hf, es', hpa, hrep⟩
        have hes' : es'.length = 1 := HEo.out.len hrep
        have hes : es.length = 1 := HEo.out.len HY.out.2.2.2.2.1
        rw [putL_whole (by rw [hes', hes])] at hpa
        have HAp := Lib.hid (hs.out.next HK.out HEo.out HTo.out HB.out HP.out h3 h2 HAv.out HY.out.2.2.2.2.2.2.1 HY.out.2.2.2.2.2.2.2 hst hf hrep (by have := HN6.out; omega) 49)
        have HPx := Lib.hid hpa
        have HRp := Lib.hid (HEo.out.one hrep)
        have HLn := Lib.hid hes'
        clear hst hf hpa hrep hes hes' HY HSi hs
        go_wp2_with (first
          | (refine list_load HTo.out rfl _ rfl wr.heap.size 0 rfl es' HLn.out HPx.out.1.range ?_)
          | (refine list_lit HTo.out rfl _ rfl es' rfl HLn.out HRp.out ?_)
          | (at_builtin; obtain ⟨v', w', hrun, hs'⟩ := HAp.out; have Hrun := Lib.hid hrun; have Hs' := Lib.hid hs'; clear hrun hs'; refine wpList_append_run rfl _ _ _ rfl _ _ _ _ rfl rfl Hrun.out ?_))
        go_roundw
        case rel => exact ⟨i + 1, v', rfl, by go_num, by omega, Hs'⟩
        case measure => simp [intOf]; omega
      · have HY : Hid (K.St (runE k.text ⟨#[]⟩ s1 l i).1 wx ∧ K.base ≤ wr.heap.size ∧ wr.heap.size ≠ K.b ∧ PAt wx wr.heap.size [.string ⟨#[]⟩] ∧ strE.rep (fun g => av g ∧ g < w.heap.size) wx [.string ⟨#[]⟩] (l.getD i ⟨#[]⟩) ∧ (∀ g, av g ∧ g < w.heap.size → g ≠ K.b ∧ g ≠ wr.heap.size) ∧ Below wr.heap.size wr wx ∧ wr.heap.size < wx.heap.size) := by
          refine ⟨HWx.out.st, HXb.out.1, HXb.out.2.1, HX.out, ?_, fun g hg => ⟨(HAv.out g hg.1).1, by have := HXb.out.2.2; omega⟩, HBx.out, HSx.out⟩
          have e : l.getD i ⟨#[]⟩ = ⟨#[]⟩ := by simp [List.getElem?_eq_none (Nat.le_of_not_lt hil)]
          rw [e]
          exact ⟨rfl, by decide⟩
        go_wp2_with fail
        obtain ⟨es, hes0⟩ : ∃ es : List Value, es = [.string ⟨#[]⟩] := ⟨_, rfl⟩
        rw [← hes0] at HY
        clear hes0 HX HWx HBx HSx hcx
        obtain ⟨wy, rfl⟩ : ∃ wy : World, wy = wx := ⟨_, rfl⟩
        refine (HWE.out (runE k.text ⟨#[]⟩ s1 l i).1 (l.getD i ⟨#[]⟩) wy wr.heap.size 0 es es (fun g => av g ∧ g < w.heap.size) HY.out.1 HY.out.2.1 HY.out.2.2.1 HY.out.2.2.2.1 (fun j hj => by rw [Nat.zero_add]) HY.out.2.2.2.2.1 HY.out.2.2.2.2.2.1 HSi.out).mono ?_
        rintro e w2 ⟨rfl, hst, hf, es', hpa, hrep⟩
        have hes' : es'.length = 1 := HEo.out.len hrep
        have hes : es.length = 1 := HEo.out.len HY.out.2.2.2.2.1
        rw [putL_whole (by rw [hes', hes])] at hpa
        have HAp := Lib.hid (hs.out.next HK.out HEo.out HTo.out HB.out HP.out h3 h2 HAv.out HY.out.2.2.2.2.2.2.1 HY.out.2.2.2.2.2.2.2 hst hf hrep (by have := HN6.out; omega) 49)
        have HPx := Lib.hid hpa
        have HRp := Lib.hid (HEo.out.one hrep)
        have HLn := Lib.hid hes'
        clear hst hf hpa hrep hes hes' HY HSi hs
        go_wp2_with (first
          | (refine list_load HTo.out rfl _ rfl wr.heap.size 0 rfl es' HLn.out HPx.out.1.range ?_)
          | (refine list_lit HTo.out rfl _ rfl es' rfl HLn.out HRp.out ?_)
          | (at_builtin; obtain ⟨v', w', hrun, hs'⟩ := HAp.out; have Hrun := Lib.hid hrun; have Hs' := Lib.hid hs'; clear hrun hs'; refine wpList_append_run rfl _ _ _ rfl _ _ _ _ rfl rfl Hrun.out ?_))
        go_roundw
        case rel => exact ⟨i + 1, v', rfl, by go_num, by omega, Hs'⟩
        case measure => simp [intOf]; omega
    · obtain rfl : i = n := by omega
      obtain ⟨oa, oc, rfl⟩ := hs.out.slice
      have hc5 : wr.cell? ⟨p, o, none⟩ = some (.slice a l.length c) := hs.out.ws.pa.1.at o HCs2.out
      have hf5 : wr.frozen? ⟨p, o, none⟩ = false := hs.out.ws.pa.1.2.2 o HO.out
      have HPo : Hid (WPost K (sliE strE) (k.slice k.text ⟨#[]⟩ s l) p o cs av w (wr.setCell ⟨p, o, none⟩ (.slice oa i oc))) := by rw [HFin.out]; exact hs.out.post HK.out HEo.out HTo.out HN6.out HP.out h3 h2 HAv.out o HO.out
      clear hs
      go_wp2_with fail
      go_end0
      exact ⟨rfl, HPo.out⟩
end
end Go.Proofs.YtpknalpdcfjffaaGreat
/- store.cycle, over any walker. Printed by gen_fields.py. -/
namespace Go.Proofs.YtpknalpdcfjffaaGreat
open Go Go.RowKit

section
variable {σ : Type} {k : Wk σ}
set_option maxHeartbeats 16000000 in
set_option maxRecDepth 100000 in
theorem cycle_walks (K : WkM k) (hK : K.OK) : Walks K 47 K.recv [] cycE k.cyc := by
  intro s x w p o cs es av h1 h2 h3 h4 h5 h6 h7 h8
  have HK := Lib.hid hK
  obtain ⟨f_int, m_int, w_int⟩ := hK.int
  have HM_int := Lib.hid m_int
  have HB : Hid (K.b < w.heap.size) := (hK.lt h1).2
  have HPl : Hid (p < w.heap.size) := h4.lt
  have HAv := Lib.hid h7
  obtain ⟨v0, v1, v2, v3, v4, v5, v6, v7, rfl, r0, r1, r2, r3, r4, r5, r6, r7, r8, r9⟩ := h6
  have HAt := Lib.hid h5
  have HW0 : Hid (WS K p s (putL cs o []) w w) := (WS.start h1 h4).whole
  have HSz := Lib.hid h8
  clear h1 h4 h5 h7 h8 hK
  go_enter Tryz.func47, Tryz.ntmps47
  try go_wp2_with fail
  refine wp_region_seq (by kernel_rfl) (fun _ => True) [(0, true), (1, true), (2, true), (3, true), (4, true), (5, true), (6, true), (7, true), (8, true), (9, true), (10, false), (11, false)] (by kernel_rfl) (trivial) ?_
  refine seq_q (d := some 4) rfl rfl rfl (K.recv) (fun w hw => rfl) ?_
  simp only [Act.put, List.setIfInBounds_toArray, List.set_cons_zero, List.set_cons_succ]
  refine seq_q (d := some 5) rfl rfl rfl (.pointer (some ⟨p, o, none⟩)) (fun w hw => rfl) ?_
  simp only [Act.put, List.setIfInBounds_toArray, List.set_cons_zero, List.set_cons_succ]
  refine seq_q (d := some 6) rfl rfl rfl (.pointer (some ⟨p, o, none⟩)) (fun w hw => rfl) ?_
  simp only [Act.put, List.setIfInBounds_toArray, List.set_cons_zero, List.set_cons_succ]
  refine seq_q (d := some 7) rfl rfl rfl (.pointer (some ⟨p, o, none⟩)) (fun w hw => by go_simp) ?_
  simp only [Act.put, List.setIfInBounds_toArray, List.set_cons_zero, List.set_cons_succ]
  refine seq_q (d := some 8) rfl rfl rfl (.pointer (some ⟨p, o, none⟩)) (fun w hw => rfl) ?_
  simp only [Act.put, List.setIfInBounds_toArray, List.set_cons_zero, List.set_cons_succ]
  refine seq_q (d := some 9) rfl rfl rfl (.pointer (some ⟨p, o, none⟩)) (fun w hw => rfl) ?_
  simp only [Act.put, List.setIfInBounds_toArray, List.set_cons_zero, List.set_cons_succ]
  refine seq_q (d := some 10) rfl rfl rfl (.pointer (some ⟨p, o + 1, none⟩)) (fun w hw => by go_simp) ?_
  simp only [Act.put, List.setIfInBounds_toArray, List.set_cons_zero, List.set_cons_succ]
  refine seq_q (d := some 11) rfl rfl rfl (.pointer (some ⟨p, o, none⟩)) (fun w hw => rfl) ?_
  simp only [Act.put, List.setIfInBounds_toArray, List.set_cons_zero, List.set_cons_succ]
  refine seq_q (d := some 12) rfl rfl rfl (.pointer (some ⟨p, o, none⟩)) (fun w hw => rfl) ?_
  simp only [Act.put, List.setIfInBounds_toArray, List.set_cons_zero, List.set_cons_succ]
  refine seq_q (d := some 13) rfl rfl rfl (.pointer (some ⟨p, o + 2, none⟩)) (fun w hw => by go_simp) ?_
  simp only [Act.put, List.setIfInBounds_toArray, List.set_cons_zero, List.set_cons_succ]
  refine seq_run (d := some 14) rfl rfl rfl (.slice (some ⟨w.heap.size, 0, none⟩) 3 3) (w.drew.alloc (.cells #[.pointer (some ⟨p, o, none⟩), .pointer (some ⟨p, o + 1, none⟩), .pointer (some ⟨p, o + 2, none⟩)] 114)) (by simp [execOp, Act.eval, Instr.buildSlice, go_sem]) trivial ?_
  simp only [Act.put, List.setIfInBounds_toArray, List.set_cons_zero, List.set_cons_succ]
  have HP0 : Hid (Ptrs (w.drew.alloc (.cells #[.pointer (some ⟨p, o, none⟩), .pointer (some ⟨p, o + 1, none⟩), .pointer (some ⟨p, o + 2, none⟩)] 114)) w.heap.size p (o) 3) := ptrs_of (cs := [.pointer (some ⟨p, o, none⟩), .pointer (some ⟨p, o + 1, none⟩), .pointer (some ⟨p, o + 2, none⟩)]) rfl rfl (by intro i hi; match i, hi with | 0, _ => rfl | 1, _ => rfl | 2, _ => rfl)
  have HV0 : Hid (WS K p s (putL cs o []) w (w.drew.alloc (.cells #[.pointer (some ⟨p, o, none⟩), .pointer (some ⟨p, o + 1, none⟩), .pointer (some ⟨p, o + 2, none⟩)] 114))) := (HW0.out.drew HK.out).new HK.out ((Below.refl _ _).alloc (Nat.le_refl _) _)
  have HN0 : Hid (w.heap.size ≠ K.b ∧ w.heap.size ≠ p) := by have := HB.out; have := HPl.out; have := HW0.out.fr.size; unfold Hid; omega
  refine seq_call (d := some 15) rfl rfl rfl ⟨_, Tryz.func61, by kernel_rfl, by kernel_rfl⟩ _ _ _ rfl rfl [K.recv, .slice (some ⟨w.heap.size, 0, none⟩) 3 3] rfl (HV0.out.ints HK.out h2 h3 (es := [.int .i64 x.number, .int .i64 x.time, .int .i64 x.cutoff]) (a := []) (c := [v0, v1, v2, v3, .int .i64 x.ana.hi, .int .u64 x.ana.lo, .int .i64 x.ana.anchor, .int .i64 x.ana.radius, .int .i64 x.ana.rounds, .int .i64 x.freq, v4, v5, v6, v7]) HAt.out (xs := [x.number, x.time, x.cutoff]) rfl rfl (by simp) (by simp; exact ⟨r0, r1, r2⟩) (by simp) _ rfl HP0.out HN0.out.1 HN0.out.2 3 rfl (Nat.le_trans (HK.out.mono.slice HK.out.mono.rep _ _ _) (Nat.le_trans (HK.out.mono.ana _ _) (Nat.le_trans (HK.out.mono.int _ _) (Nat.le_trans (HK.out.mono.nums _ _) (Nat.le_trans (HK.out.mono.nums _ _) (Nat.le_trans (HK.out.mono.slice HK.out.mono.cnts _ _ _) (Nat.le_trans (HK.out.mono.slice HK.out.mono.text _ _ _) HSz.out)))))))) ?_
  rintro e w1 ⟨rfl, h1, hr, hf⟩
  refine ⟨_, rfl, trivial, ?_⟩
  simp only [Act.put, List.setIfInBounds_toArray, List.set_cons_zero, List.set_cons_succ]
  refine seq_end ?_
  have i0_0 : Hid (I64 (k.int s x.number).2) := hr _ (List.Mem.head _)
  have i0_1 : Hid (I64 (k.int (k.int s x.number).1 x.time).2) := hr _ (List.Mem.tail _ (List.Mem.head _))
  have i0_2 : Hid (I64 (k.int (k.int (k.int s x.number).1 x.time).1 x.cutoff).2) := hr _ (List.Mem.tail _ (List.Mem.tail _ (List.Mem.head _)))
  have HW1 : Hid (WS K p (k.int (k.int (k.int s x.number).1 x.time).1 x.cutoff).1 (putL cs o [.int .i64 (k.int s x.number).2, .int .i64 (k.int (k.int s x.number).1 x.time).2, .int .i64 (k.int (k.int (k.int s x.number).1 x.time).1 x.cutoff).2]) w w1) := h1
  clear h1 hf HW0 hr HP0 HV0 HN0
  go_wp2_with fail
  refine (HW1.out.field (slice_rep K HK.out) (sliE_ok repE_ok) h2 h3 (es := [v0]) (a := [.int .i64 x.number, .int .i64 x.time, .int .i64 x.cutoff]) (c := [v1, v2, v3, .int .i64 x.ana.hi, .int .u64 x.ana.lo, .int .i64 x.ana.anchor, .int .i64 x.ana.radius, .int .i64 x.ana.rounds, .int .i64 x.freq, v4, v5, v6, v7]) HAt.out rfl ⟨_, rfl, r3⟩ HAv.out _ rfl (Nat.le_trans (HK.out.mono.ana _ _) (Nat.le_trans (HK.out.mono.int _ _) (Nat.le_trans (HK.out.mono.nums _ _) (Nat.le_trans (HK.out.mono.nums _ _) (Nat.le_trans (HK.out.mono.slice HK.out.mono.cnts _ _ _) (Nat.le_trans (HK.out.mono.slice HK.out.mono.text _ _ _) HSz.out))))))).mono ?_
  rintro e w2 ⟨rfl, es1, h1, ⟨y1, rfl, R1⟩, -, hf⟩
  have HW2 : Hid (WS K p ((k.slice k.rep .zero) (k.int (k.int (k.int s x.number).1 x.time).1 x.cutoff).1 x.reps).1 (putL cs o [.int .i64 (k.int s x.number).2, .int .i64 (k.int (k.int s x.number).1 x.time).2, .int .i64 (k.int (k.int (k.int s x.number).1 x.time).1 x.cutoff).2, y1]) w w2) := h1
  have R1h := Lib.hid R1
  clear R1
  have R1 := R1h
  clear R1h
  clear h1 hf HW1
  go_wp2_with fail
  refine (HW2.out.field (analysis_walks K HK.out) anaE_ok h2 h3 (es := [v1, v2, v3, .int .i64 x.ana.hi, .int .u64 x.ana.lo, .int .i64 x.ana.anchor, .int .i64 x.ana.radius, .int .i64 x.ana.rounds]) (a := [.int .i64 x.number, .int .i64 x.time, .int .i64 x.cutoff, v0]) (c := [.int .i64 x.freq, v4, v5, v6, v7]) HAt.out rfl ⟨v1, v2, v3, rfl, r4⟩ HAv.out _ rfl (Nat.le_trans (HK.out.mono.int _ _) (Nat.le_trans (HK.out.mono.nums _ _) (Nat.le_trans (HK.out.mono.nums _ _) (Nat.le_trans (HK.out.mono.slice HK.out.mono.cnts _ _ _) (Nat.le_trans (HK.out.mono.slice HK.out.mono.text _ _ _) HSz.out)))))).mono ?_
  rintro e w3 ⟨rfl, es2, h1, ⟨u1, u2, u3, rfl, A1, A2, A3, j1, j2, j3, j4, j5⟩, -, hf⟩
  have HW3 : Hid (WS K p (k.ana ((k.slice k.rep .zero) (k.int (k.int (k.int s x.number).1 x.time).1 x.cutoff).1 x.reps).1 x.ana).1 (putL cs o [.int .i64 (k.int s x.number).2, .int .i64 (k.int (k.int s x.number).1 x.time).2, .int .i64 (k.int (k.int (k.int s x.number).1 x.time).1 x.cutoff).2, y1, u1, u2, u3, .int .i64 (k.ana ((k.slice k.rep .zero) (k.int (k.int (k.int s x.number).1 x.time).1 x.cutoff).1 x.reps).1 x.ana).2.hi, .int .u64 (k.ana ((k.slice k.rep .zero) (k.int (k.int (k.int s x.number).1 x.time).1 x.cutoff).1 x.reps).1 x.ana).2.lo, .int .i64 (k.ana ((k.slice k.rep .zero) (k.int (k.int (k.int s x.number).1 x.time).1 x.cutoff).1 x.reps).1 x.ana).2.anchor, .int .i64 (k.ana ((k.slice k.rep .zero) (k.int (k.int (k.int s x.number).1 x.time).1 x.cutoff).1 x.reps).1 x.ana).2.radius, .int .i64 (k.ana ((k.slice k.rep .zero) (k.int (k.int (k.int s x.number).1 x.time).1 x.cutoff).1 x.reps).1 x.ana).2.rounds]) w w3) := h1
  have R1n := Lib.hid (R1.out.next repE_ok hf HAv.out HB.out HPl.out)
  clear R1
  have R1 := R1n
  clear R1n
  have J1 := Lib.hid j1
  clear j1
  have J2 := Lib.hid j2
  clear j2
  have J3 := Lib.hid j3
  clear j3
  have J4 := Lib.hid j4
  clear j4
  have J5 := Lib.hid j5
  clear j5
  have A1h := Lib.hid A1
  clear A1
  have A1 := A1h
  clear A1h
  have A2h := Lib.hid A2
  clear A2
  have A2 := A2h
  clear A2h
  have A3h := Lib.hid A3
  clear A3
  have A3 := A3h
  clear A3h
  clear h1 hf HW2
  try go_wp2_with fail
  refine wp_region_seq (by kernel_rfl) (fun _ => True) [(0, true), (1, true), (2, true), (3, true), (4, true), (5, true), (6, true), (7, true), (8, false)] (by kernel_rfl) (trivial) ?_
  refine seq_q (d := some 26) rfl rfl rfl (K.recv) (fun w hw => rfl) ?_
  simp only [Act.put, List.setIfInBounds_toArray, List.set_cons_zero, List.set_cons_succ]
  refine seq_q (d := some 27) rfl rfl rfl (.pointer (some ⟨p, o, none⟩)) (fun w hw => rfl) ?_
  simp only [Act.put, List.setIfInBounds_toArray, List.set_cons_zero, List.set_cons_succ]
  refine seq_q (d := some 28) rfl rfl rfl (.pointer (some ⟨p, o, none⟩)) (fun w hw => rfl) ?_
  simp only [Act.put, List.setIfInBounds_toArray, List.set_cons_zero, List.set_cons_succ]
  refine seq_q (d := some 29) rfl rfl rfl (.pointer (some ⟨p, o + 12, none⟩)) (fun w hw => by go_simp) ?_
  simp only [Act.put, List.setIfInBounds_toArray, List.set_cons_zero, List.set_cons_succ]
  refine seq_q (d := some 30) rfl rfl rfl (.pointer (some ⟨p, o + 12, none⟩)) (fun w hw => by go_simp) ?_
  simp only [Act.put, List.setIfInBounds_toArray, List.set_cons_zero, List.set_cons_succ]
  refine seq_q (d := some 31) rfl rfl rfl (.func (.method "synoptic/store.int") #[K.recv] #[]) (fun w hw => run_makeFunc (.tmp 26) rfl (K.recv) rfl w) ?_
  simp only [Act.put, List.setIfInBounds_toArray, List.set_cons_zero, List.set_cons_succ]
  refine seq_q (d := some 32) rfl rfl rfl (.func (.method "synoptic/store.int") #[K.recv] #[]) (fun w hw => run_nilMethod HM_int.out.ahead (.tmp 31) rfl rfl w) ?_
  simp only [Act.put, List.setIfInBounds_toArray, List.set_cons_zero, List.set_cons_succ]
  refine seq_q (d := some 33) rfl rfl rfl (K.recv) (fun w hw => rfl) ?_
  simp only [Act.put, List.setIfInBounds_toArray, List.set_cons_zero, List.set_cons_succ]
  refine seq_invoke (d := some 34) rfl rfl rfl HM_int.out.b _ _ _ rfl rfl [.pointer (some ⟨p, o + 12, none⟩)] rfl ((HW3.out.drew HK.out).field w_int intE_ok h2 h3 (es := [.int .i64 x.freq]) (a := [.int .i64 x.number, .int .i64 x.time, .int .i64 x.cutoff, v0, v1, v2, v3, .int .i64 x.ana.hi, .int .u64 x.ana.lo, .int .i64 x.ana.anchor, .int .i64 x.ana.radius, .int .i64 x.ana.rounds]) (c := [v4, v5, v6, v7]) HAt.out rfl ⟨rfl, r5⟩ HAv.out _ rfl (Nat.le_trans (HK.out.mono.nums _ _) (Nat.le_trans (HK.out.mono.nums _ _) (Nat.le_trans (HK.out.mono.slice HK.out.mono.cnts _ _ _) (Nat.le_trans (HK.out.mono.slice HK.out.mono.text _ _ _) HSz.out))))) ?_
  rintro e w4 ⟨rfl, es3, h1, ⟨rfl, i3⟩, -, hf⟩
  refine ⟨_, rfl, trivial, ?_⟩
  simp only [Act.put, List.setIfInBounds_toArray, List.set_cons_zero, List.set_cons_succ]
  refine seq_end ?_
  have HW4 : Hid (WS K p (k.int (k.ana ((k.slice k.rep .zero) (k.int (k.int (k.int s x.number).1 x.time).1 x.cutoff).1 x.reps).1 x.ana).1 x.freq).1 (putL cs o [.int .i64 (k.int s x.number).2, .int .i64 (k.int (k.int s x.number).1 x.time).2, .int .i64 (k.int (k.int (k.int s x.number).1 x.time).1 x.cutoff).2, y1, u1, u2, u3, .int .i64 (k.ana ((k.slice k.rep .zero) (k.int (k.int (k.int s x.number).1 x.time).1 x.cutoff).1 x.reps).1 x.ana).2.hi, .int .u64 (k.ana ((k.slice k.rep .zero) (k.int (k.int (k.int s x.number).1 x.time).1 x.cutoff).1 x.reps).1 x.ana).2.lo, .int .i64 (k.ana ((k.slice k.rep .zero) (k.int (k.int (k.int s x.number).1 x.time).1 x.cutoff).1 x.reps).1 x.ana).2.anchor, .int .i64 (k.ana ((k.slice k.rep .zero) (k.int (k.int (k.int s x.number).1 x.time).1 x.cutoff).1 x.reps).1 x.ana).2.radius, .int .i64 (k.ana ((k.slice k.rep .zero) (k.int (k.int (k.int s x.number).1 x.time).1 x.cutoff).1 x.reps).1 x.ana).2.rounds, .int .i64 (k.int (k.ana ((k.slice k.rep .zero) (k.int (k.int (k.int s x.number).1 x.time).1 x.cutoff).1 x.reps).1 x.ana).1 x.freq).2]) w w4) := h1
  have R1n := Lib.hid (R1.out.next repE_ok ((Fr.drew _).trans hf) HAv.out HB.out HPl.out)
  clear R1
  have R1 := R1n
  clear R1n
  have A1n := Lib.hid (A1.out.next intE_ok ((Fr.drew _).trans hf) HAv.out HB.out HPl.out)
  clear A1
  have A1 := A1n
  clear A1n
  have A2n := Lib.hid (A2.out.next intE_ok ((Fr.drew _).trans hf) HAv.out HB.out HPl.out)
  clear A2
  have A2 := A2n
  clear A2n
  have A3n := Lib.hid (A3.out.next intE_ok ((Fr.drew _).trans hf) HAv.out HB.out HPl.out)
  clear A3
  have A3 := A3n
  clear A3n
  have I3 := Lib.hid i3
  clear i3
  clear h1 hf HW3
  go_wp2_with fail
  refine (HW4.out.field (slice_int K HK.out) (sliE_ok intE_ok) h2 h3 (es := [v4]) (a := [.int .i64 x.number, .int .i64 x.time, .int .i64 x.cutoff, v0, v1, v2, v3, .int .i64 x.ana.hi, .int .u64 x.ana.lo, .int .i64 x.ana.anchor, .int .i64 x.ana.radius, .int .i64 x.ana.rounds, .int .i64 x.freq]) (c := [v5, v6, v7]) HAt.out rfl ⟨_, rfl, r6⟩ HAv.out _ rfl (Nat.le_trans (HK.out.mono.nums _ _) (Nat.le_trans (HK.out.mono.slice HK.out.mono.cnts _ _ _) (Nat.le_trans (HK.out.mono.slice HK.out.mono.text _ _ _) HSz.out)))).mono ?_
  rintro e w5 ⟨rfl, es4, h1, ⟨y4, rfl, R4⟩, -, hf⟩
  have HW5 : Hid (WS K p (k.nums (k.int (k.ana ((k.slice k.rep .zero) (k.int (k.int (k.int s x.number).1 x.time).1 x.cutoff).1 x.reps).1 x.ana).1 x.freq).1 x.depth).1 (putL cs o [.int .i64 (k.int s x.number).2, .int .i64 (k.int (k.int s x.number).1 x.time).2, .int .i64 (k.int (k.int (k.int s x.number).1 x.time).1 x.cutoff).2, y1, u1, u2, u3, .int .i64 (k.ana ((k.slice k.rep .zero) (k.int (k.int (k.int s x.number).1 x.time).1 x.cutoff).1 x.reps).1 x.ana).2.hi, .int .u64 (k.ana ((k.slice k.rep .zero) (k.int (k.int (k.int s x.number).1 x.time).1 x.cutoff).1 x.reps).1 x.ana).2.lo, .int .i64 (k.ana ((k.slice k.rep .zero) (k.int (k.int (k.int s x.number).1 x.time).1 x.cutoff).1 x.reps).1 x.ana).2.anchor, .int .i64 (k.ana ((k.slice k.rep .zero) (k.int (k.int (k.int s x.number).1 x.time).1 x.cutoff).1 x.reps).1 x.ana).2.radius, .int .i64 (k.ana ((k.slice k.rep .zero) (k.int (k.int (k.int s x.number).1 x.time).1 x.cutoff).1 x.reps).1 x.ana).2.rounds, .int .i64 (k.int (k.ana ((k.slice k.rep .zero) (k.int (k.int (k.int s x.number).1 x.time).1 x.cutoff).1 x.reps).1 x.ana).1 x.freq).2, y4]) w w5) := h1
  have R1n := Lib.hid (R1.out.next repE_ok hf HAv.out HB.out HPl.out)
  clear R1
  have R1 := R1n
  clear R1n
  have A1n := Lib.hid (A1.out.next intE_ok hf HAv.out HB.out HPl.out)
  clear A1
  have A1 := A1n
  clear A1n
  have A2n := Lib.hid (A2.out.next intE_ok hf HAv.out HB.out HPl.out)
  clear A2
  have A2 := A2n
  clear A2n
  have A3n := Lib.hid (A3.out.next intE_ok hf HAv.out HB.out HPl.out)
  clear A3
  have A3 := A3n
  clear A3n
  have R4h := Lib.hid R4
  clear R4
  have R4 := R4h
  clear R4h
  clear h1 hf HW4
  go_wp2_with fail
  refine (HW5.out.field (slice_int K HK.out) (sliE_ok intE_ok) h2 h3 (es := [v5]) (a := [.int .i64 x.number, .int .i64 x.time, .int .i64 x.cutoff, v0, v1, v2, v3, .int .i64 x.ana.hi, .int .u64 x.ana.lo, .int .i64 x.ana.anchor, .int .i64 x.ana.radius, .int .i64 x.ana.rounds, .int .i64 x.freq, v4]) (c := [v6, v7]) HAt.out rfl ⟨_, rfl, r7⟩ HAv.out _ rfl (Nat.le_trans (HK.out.mono.slice HK.out.mono.cnts _ _ _) (Nat.le_trans (HK.out.mono.slice HK.out.mono.text _ _ _) HSz.out))).mono ?_
  rintro e w6 ⟨rfl, es5, h1, ⟨y5, rfl, R5⟩, -, hf⟩
  have HW6 : Hid (WS K p (k.nums (k.nums (k.int (k.ana ((k.slice k.rep .zero) (k.int (k.int (k.int s x.number).1 x.time).1 x.cutoff).1 x.reps).1 x.ana).1 x.freq).1 x.depth).1 x.flow).1 (putL cs o [.int .i64 (k.int s x.number).2, .int .i64 (k.int (k.int s x.number).1 x.time).2, .int .i64 (k.int (k.int (k.int s x.number).1 x.time).1 x.cutoff).2, y1, u1, u2, u3, .int .i64 (k.ana ((k.slice k.rep .zero) (k.int (k.int (k.int s x.number).1 x.time).1 x.cutoff).1 x.reps).1 x.ana).2.hi, .int .u64 (k.ana ((k.slice k.rep .zero) (k.int (k.int (k.int s x.number).1 x.time).1 x.cutoff).1 x.reps).1 x.ana).2.lo, .int .i64 (k.ana ((k.slice k.rep .zero) (k.int (k.int (k.int s x.number).1 x.time).1 x.cutoff).1 x.reps).1 x.ana).2.anchor, .int .i64 (k.ana ((k.slice k.rep .zero) (k.int (k.int (k.int s x.number).1 x.time).1 x.cutoff).1 x.reps).1 x.ana).2.radius, .int .i64 (k.ana ((k.slice k.rep .zero) (k.int (k.int (k.int s x.number).1 x.time).1 x.cutoff).1 x.reps).1 x.ana).2.rounds, .int .i64 (k.int (k.ana ((k.slice k.rep .zero) (k.int (k.int (k.int s x.number).1 x.time).1 x.cutoff).1 x.reps).1 x.ana).1 x.freq).2, y4, y5]) w w6) := h1
  have R1n := Lib.hid (R1.out.next repE_ok hf HAv.out HB.out HPl.out)
  clear R1
  have R1 := R1n
  clear R1n
  have A1n := Lib.hid (A1.out.next intE_ok hf HAv.out HB.out HPl.out)
  clear A1
  have A1 := A1n
  clear A1n
  have A2n := Lib.hid (A2.out.next intE_ok hf HAv.out HB.out HPl.out)
  clear A2
  have A2 := A2n
  clear A2n
  have A3n := Lib.hid (A3.out.next intE_ok hf HAv.out HB.out HPl.out)
  clear A3
  have A3 := A3n
  clear A3n
  have R4n := Lib.hid (R4.out.next intE_ok hf HAv.out HB.out HPl.out)
  clear R4
  have R4 := R4n
  clear R4n
  have R5h := Lib.hid R5
  clear R5
  have R5 := R5h
  clear R5h
  clear h1 hf HW5
  go_wp2_with fail
  refine (HW6.out.field (slice_cnts K HK.out) (sliE_ok (sliE_ok cntE_ok)) h2 h3 (es := [v6]) (a := [.int .i64 x.number, .int .i64 x.time, .int .i64 x.cutoff, v0, v1, v2, v3, .int .i64 x.ana.hi, .int .u64 x.ana.lo, .int .i64 x.ana.anchor, .int .i64 x.ana.radius, .int .i64 x.ana.rounds, .int .i64 x.freq, v4, v5]) (c := [v7]) HAt.out rfl ⟨_, rfl, r8⟩ HAv.out _ rfl (Nat.le_trans (HK.out.mono.slice HK.out.mono.text _ _ _) HSz.out)).mono ?_
  rintro e w7 ⟨rfl, es6, h1, ⟨y6, rfl, R6⟩, -, hf⟩
  have HW7 : Hid (WS K p ((k.slice k.cnts []) (k.nums (k.nums (k.int (k.ana ((k.slice k.rep .zero) (k.int (k.int (k.int s x.number).1 x.time).1 x.cutoff).1 x.reps).1 x.ana).1 x.freq).1 x.depth).1 x.flow).1 x.cycles).1 (putL cs o [.int .i64 (k.int s x.number).2, .int .i64 (k.int (k.int s x.number).1 x.time).2, .int .i64 (k.int (k.int (k.int s x.number).1 x.time).1 x.cutoff).2, y1, u1, u2, u3, .int .i64 (k.ana ((k.slice k.rep .zero) (k.int (k.int (k.int s x.number).1 x.time).1 x.cutoff).1 x.reps).1 x.ana).2.hi, .int .u64 (k.ana ((k.slice k.rep .zero) (k.int (k.int (k.int s x.number).1 x.time).1 x.cutoff).1 x.reps).1 x.ana).2.lo, .int .i64 (k.ana ((k.slice k.rep .zero) (k.int (k.int (k.int s x.number).1 x.time).1 x.cutoff).1 x.reps).1 x.ana).2.anchor, .int .i64 (k.ana ((k.slice k.rep .zero) (k.int (k.int (k.int s x.number).1 x.time).1 x.cutoff).1 x.reps).1 x.ana).2.radius, .int .i64 (k.ana ((k.slice k.rep .zero) (k.int (k.int (k.int s x.number).1 x.time).1 x.cutoff).1 x.reps).1 x.ana).2.rounds, .int .i64 (k.int (k.ana ((k.slice k.rep .zero) (k.int (k.int (k.int s x.number).1 x.time).1 x.cutoff).1 x.reps).1 x.ana).1 x.freq).2, y4, y5, y6]) w w7) := h1
  have R1n := Lib.hid (R1.out.next repE_ok hf HAv.out HB.out HPl.out)
  clear R1
  have R1 := R1n
  clear R1n
  have A1n := Lib.hid (A1.out.next intE_ok hf HAv.out HB.out HPl.out)
  clear A1
  have A1 := A1n
  clear A1n
  have A2n := Lib.hid (A2.out.next intE_ok hf HAv.out HB.out HPl.out)
  clear A2
  have A2 := A2n
  clear A2n
  have A3n := Lib.hid (A3.out.next intE_ok hf HAv.out HB.out HPl.out)
  clear A3
  have A3 := A3n
  clear A3n
  have R4n := Lib.hid (R4.out.next intE_ok hf HAv.out HB.out HPl.out)
  clear R4
  have R4 := R4n
  clear R4n
  have R5n := Lib.hid (R5.out.next intE_ok hf HAv.out HB.out HPl.out)
  clear R5
  have R5 := R5n
  clear R5n
  have R6h := Lib.hid R6
  clear R6
  have R6 := R6h
  clear R6h
  clear h1 hf HW6
  go_wp2_with fail
  refine (HW7.out.field (slice_str K HK.out) (sliE_ok strE_ok) h2 h3 (es := [v7]) (a := [.int .i64 x.number, .int .i64 x.time, .int .i64 x.cutoff, v0, v1, v2, v3, .int .i64 x.ana.hi, .int .u64 x.ana.lo, .int .i64 x.ana.anchor, .int .i64 x.ana.radius, .int .i64 x.ana.rounds, .int .i64 x.freq, v4, v5, v6]) (c := []) HAt.out rfl ⟨_, rfl, r9⟩ HAv.out _ rfl HSz.out).mono ?_
  rintro e w8 ⟨rfl, es7, h1, ⟨y7, rfl, R7⟩, -, hf⟩
  have HW8 : Hid (WS K p ((k.slice k.text ⟨#[]⟩) ((k.slice k.cnts []) (k.nums (k.nums (k.int (k.ana ((k.slice k.rep .zero) (k.int (k.int (k.int s x.number).1 x.time).1 x.cutoff).1 x.reps).1 x.ana).1 x.freq).1 x.depth).1 x.flow).1 x.cycles).1 x.listed).1 (putL cs o [.int .i64 (k.int s x.number).2, .int .i64 (k.int (k.int s x.number).1 x.time).2, .int .i64 (k.int (k.int (k.int s x.number).1 x.time).1 x.cutoff).2, y1, u1, u2, u3, .int .i64 (k.ana ((k.slice k.rep .zero) (k.int (k.int (k.int s x.number).1 x.time).1 x.cutoff).1 x.reps).1 x.ana).2.hi, .int .u64 (k.ana ((k.slice k.rep .zero) (k.int (k.int (k.int s x.number).1 x.time).1 x.cutoff).1 x.reps).1 x.ana).2.lo, .int .i64 (k.ana ((k.slice k.rep .zero) (k.int (k.int (k.int s x.number).1 x.time).1 x.cutoff).1 x.reps).1 x.ana).2.anchor, .int .i64 (k.ana ((k.slice k.rep .zero) (k.int (k.int (k.int s x.number).1 x.time).1 x.cutoff).1 x.reps).1 x.ana).2.radius, .int .i64 (k.ana ((k.slice k.rep .zero) (k.int (k.int (k.int s x.number).1 x.time).1 x.cutoff).1 x.reps).1 x.ana).2.rounds, .int .i64 (k.int (k.ana ((k.slice k.rep .zero) (k.int (k.int (k.int s x.number).1 x.time).1 x.cutoff).1 x.reps).1 x.ana).1 x.freq).2, y4, y5, y6, y7]) w w8) := h1
  have R1n := Lib.hid (R1.out.next repE_ok hf HAv.out HB.out HPl.out)
  clear R1
  have R1 := R1n
  clear R1n
  have A1n := Lib.hid (A1.out.next intE_ok hf HAv.out HB.out HPl.out)
  clear A1
  have A1 := A1n
  clear A1n
  have A2n := Lib.hid (A2.out.next intE_ok hf HAv.out HB.out HPl.out)
  clear A2
  have A2 := A2n
  clear A2n
  have A3n := Lib.hid (A3.out.next intE_ok hf HAv.out HB.out HPl.out)
  clear A3
  have A3 := A3n
  clear A3n
  have R4n := Lib.hid (R4.out.next intE_ok hf HAv.out HB.out HPl.out)
  clear R4
  have R4 := R4n
  clear R4n
  have R5n := Lib.hid (R5.out.next intE_ok hf HAv.out HB.out HPl.out)
  clear R5
  have R5 := R5n
  clear R5n
  have R6n := Lib.hid (R6.out.next (sliE_ok cntE_ok) hf HAv.out HB.out HPl.out)
  clear R6
  have R6 := R6n
  clear R6n
  have R7h := Lib.hid R7
  clear R7
  have R7 := R7h
  clear R7h
  clear h1 hf HW7
  try go_wp2_with fail
  go_end0
  exact ⟨rfl, WS.post (E := cycE) (q := k.cyc s x) HW8.out (⟨y1, u1, u2, u3, y4, y5, y6, y7, rfl, i0_0.out, i0_1.out, i0_2.out, R1.out, ⟨A1.out, A2.out, A3.out, J1.out, J2.out, J3.out, J4.out, J5.out⟩, I3.out, R4.out, R5.out, R6.out, R7.out⟩)⟩
end
end Go.Proofs.YtpknalpdcfjffaaGreat
/- store.period, over any walker. Printed by gen_fields.py. -/
namespace Go.Proofs.YtpknalpdcfjffaaGreat
open Go Go.RowKit

section
variable {σ : Type} {k : Wk σ}
set_option maxHeartbeats 16000000 in
set_option maxRecDepth 100000 in
theorem period_walks (K : WkM k) (hK : K.OK) : Walks K 46 K.recv [] perE k.per := by
  intro s x w p o cs es av h1 h2 h3 h4 h5 h6 h7 h8
  have HK := Lib.hid hK
  obtain ⟨f_int, m_int, w_int⟩ := hK.int
  have HM_int := Lib.hid m_int
  obtain ⟨f_bool, m_bool, w_bool⟩ := hK.bool
  have HM_bool := Lib.hid m_bool
  have HB : Hid (K.b < w.heap.size) := (hK.lt h1).2
  have HPl : Hid (p < w.heap.size) := h4.lt
  have HAv := Lib.hid h7
  obtain ⟨v, rfl, r0, r2, r3⟩ := h6
  have HAt := Lib.hid h5
  have HW0 : Hid (WS K p s (putL cs o []) w w) := (WS.start h1 h4).whole
  have HSz := Lib.hid h8
  clear h1 h4 h5 h7 h8 hK
  go_enter Tryz.func46, Tryz.ntmps46
  try go_wp2_with fail
  refine wp_region_seq (by kernel_rfl) (fun _ => True) [(0, true), (1, true), (2, true), (3, true), (4, true), (5, true), (6, true), (7, false)] (by kernel_rfl) (trivial) ?_
  refine seq_q (d := some 4) rfl rfl rfl (K.recv) (fun w hw => rfl) ?_
  simp only [Act.put, List.setIfInBounds_toArray, List.set_cons_zero, List.set_cons_succ]
  refine seq_q (d := some 5) rfl rfl rfl (.pointer (some ⟨p, o, none⟩)) (fun w hw => rfl) ?_
  simp only [Act.put, List.setIfInBounds_toArray, List.set_cons_zero, List.set_cons_succ]
  refine seq_q (d := some 6) rfl rfl rfl (.pointer (some ⟨p, o, none⟩)) (fun w hw => rfl) ?_
  simp only [Act.put, List.setIfInBounds_toArray, List.set_cons_zero, List.set_cons_succ]
  refine seq_q (d := some 7) rfl rfl rfl (.pointer (some ⟨p, o, none⟩)) (fun w hw => by go_simp) ?_
  simp only [Act.put, List.setIfInBounds_toArray, List.set_cons_zero, List.set_cons_succ]
  refine seq_q (d := some 8) rfl rfl rfl (.func (.method "synoptic/store.int") #[K.recv] #[]) (fun w hw => run_makeFunc (.tmp 4) rfl (K.recv) rfl w) ?_
  simp only [Act.put, List.setIfInBounds_toArray, List.set_cons_zero, List.set_cons_succ]
  refine seq_q (d := some 9) rfl rfl rfl (.func (.method "synoptic/store.int") #[K.recv] #[]) (fun w hw => run_nilMethod HM_int.out.ahead (.tmp 8) rfl rfl w) ?_
  simp only [Act.put, List.setIfInBounds_toArray, List.set_cons_zero, List.set_cons_succ]
  refine seq_q (d := some 10) rfl rfl rfl (K.recv) (fun w hw => rfl) ?_
  simp only [Act.put, List.setIfInBounds_toArray, List.set_cons_zero, List.set_cons_succ]
  refine seq_invoke (d := some 11) rfl rfl rfl HM_int.out.b _ _ _ rfl rfl [.pointer (some ⟨p, o, none⟩)] rfl ((HW0.out.drew HK.out).field w_int intE_ok h2 h3 (es := [.int .i64 x.from_]) (a := []) (c := [.bool x.closed, .int .i64 x.pl.f, .int .i64 x.pl.a, .int .i64 x.pl.b, .int .i64 x.pl.c, v]) HAt.out rfl ⟨rfl, r0⟩ HAv.out _ rfl (Nat.le_trans (HK.out.mono.bool _ _) (Nat.le_trans (HK.out.mono.place _ _) (Nat.le_trans (HK.out.mono.slice HK.out.mono.reading _ _ _) HSz.out)))) ?_
  rintro e w1 ⟨rfl, es0, h1, ⟨rfl, i0⟩, -, hf⟩
  refine ⟨_, rfl, trivial, ?_⟩
  simp only [Act.put, List.setIfInBounds_toArray, List.set_cons_zero, List.set_cons_succ]
  refine seq_end ?_
  have HW1 : Hid (WS K p (k.int s x.from_).1 (putL cs o [.int .i64 (k.int s x.from_).2]) w w1) := h1
  have I0 := Lib.hid i0
  clear i0
  clear h1 hf HW0
  try go_wp2_with fail
  refine wp_region_seq (by kernel_rfl) (fun _ => True) [(0, true), (1, true), (2, true), (3, true), (4, true), (5, true), (6, true), (7, false)] (by kernel_rfl) (trivial) ?_
  refine seq_q (d := some 12) rfl rfl rfl (K.recv) (fun w hw => rfl) ?_
  simp only [Act.put, List.setIfInBounds_toArray, List.set_cons_zero, List.set_cons_succ]
  refine seq_q (d := some 13) rfl rfl rfl (.pointer (some ⟨p, o, none⟩)) (fun w hw => rfl) ?_
  simp only [Act.put, List.setIfInBounds_toArray, List.set_cons_zero, List.set_cons_succ]
  refine seq_q (d := some 14) rfl rfl rfl (.pointer (some ⟨p, o, none⟩)) (fun w hw => rfl) ?_
  simp only [Act.put, List.setIfInBounds_toArray, List.set_cons_zero, List.set_cons_succ]
  refine seq_q (d := some 15) rfl rfl rfl (.pointer (some ⟨p, o + 1, none⟩)) (fun w hw => by go_simp) ?_
  simp only [Act.put, List.setIfInBounds_toArray, List.set_cons_zero, List.set_cons_succ]
  refine seq_q (d := some 16) rfl rfl rfl (.func (.method "synoptic/store.bool") #[K.recv] #[]) (fun w hw => run_makeFunc (.tmp 12) rfl (K.recv) rfl w) ?_
  simp only [Act.put, List.setIfInBounds_toArray, List.set_cons_zero, List.set_cons_succ]
  refine seq_q (d := some 17) rfl rfl rfl (.func (.method "synoptic/store.bool") #[K.recv] #[]) (fun w hw => run_nilMethod HM_bool.out.ahead (.tmp 16) rfl rfl w) ?_
  simp only [Act.put, List.setIfInBounds_toArray, List.set_cons_zero, List.set_cons_succ]
  refine seq_q (d := some 18) rfl rfl rfl (K.recv) (fun w hw => rfl) ?_
  simp only [Act.put, List.setIfInBounds_toArray, List.set_cons_zero, List.set_cons_succ]
  refine seq_invoke (d := some 19) rfl rfl rfl HM_bool.out.b _ _ _ rfl rfl [.pointer (some ⟨p, o + 1, none⟩)] rfl ((HW1.out.drew HK.out).field w_bool boolE_ok h2 h3 (es := [.bool x.closed]) (a := [.int .i64 x.from_]) (c := [.int .i64 x.pl.f, .int .i64 x.pl.a, .int .i64 x.pl.b, .int .i64 x.pl.c, v]) HAt.out rfl rfl HAv.out _ rfl (Nat.le_trans (HK.out.mono.place _ _) (Nat.le_trans (HK.out.mono.slice HK.out.mono.reading _ _ _) HSz.out))) ?_
  rintro e w2 ⟨rfl, es1, h1, rfl, -, hf⟩
  refine ⟨_, rfl, trivial, ?_⟩
  simp only [Act.put, List.setIfInBounds_toArray, List.set_cons_zero, List.set_cons_succ]
  refine seq_end ?_
  have HW2 : Hid (WS K p (k.bool (k.int s x.from_).1 x.closed).1 (putL cs o [.int .i64 (k.int s x.from_).2, .bool (k.bool (k.int s x.from_).1 x.closed).2]) w w2) := h1
  clear h1 hf HW1
  go_wp2_with fail
  refine (HW2.out.field (place_walks K HK.out) plaE_ok h2 h3 (es := [.int .i64 x.pl.f, .int .i64 x.pl.a, .int .i64 x.pl.b, .int .i64 x.pl.c]) (a := [.int .i64 x.from_, .bool x.closed]) (c := [v]) HAt.out rfl ⟨rfl, r2⟩ HAv.out _ rfl (Nat.le_trans (HK.out.mono.slice HK.out.mono.reading _ _ _) HSz.out)).mono ?_
  rintro e w3 ⟨rfl, es2, h1, ⟨rfl, i2⟩, -, hf⟩
  have HW3 : Hid (WS K p (k.place (k.bool (k.int s x.from_).1 x.closed).1 x.pl).1 (putL cs o [.int .i64 (k.int s x.from_).2, .bool (k.bool (k.int s x.from_).1 x.closed).2, .int .i64 (k.place (k.bool (k.int s x.from_).1 x.closed).1 x.pl).2.f, .int .i64 (k.place (k.bool (k.int s x.from_).1 x.closed).1 x.pl).2.a, .int .i64 (k.place (k.bool (k.int s x.from_).1 x.closed).1 x.pl).2.b, .int .i64 (k.place (k.bool (k.int s x.from_).1 x.closed).1 x.pl).2.c]) w w3) := h1
  have I2 := Lib.hid i2
  clear i2
  clear h1 hf HW2
  go_wp2_with fail
  refine (HW3.out.field (slice_rd K HK.out) (sliE_ok rdE_ok) h2 h3 (es := [v]) (a := [.int .i64 x.from_, .bool x.closed, .int .i64 x.pl.f, .int .i64 x.pl.a, .int .i64 x.pl.b, .int .i64 x.pl.c]) (c := []) HAt.out rfl ⟨_, rfl, r3⟩ HAv.out _ rfl HSz.out).mono ?_
  rintro e w4 ⟨rfl, es3, h1, ⟨y3, rfl, R3⟩, -, hf⟩
  have HW4 : Hid (WS K p ((k.slice k.reading (0, 0)) (k.place (k.bool (k.int s x.from_).1 x.closed).1 x.pl).1 x.bias).1 (putL cs o [.int .i64 (k.int s x.from_).2, .bool (k.bool (k.int s x.from_).1 x.closed).2, .int .i64 (k.place (k.bool (k.int s x.from_).1 x.closed).1 x.pl).2.f, .int .i64 (k.place (k.bool (k.int s x.from_).1 x.closed).1 x.pl).2.a, .int .i64 (k.place (k.bool (k.int s x.from_).1 x.closed).1 x.pl).2.b, .int .i64 (k.place (k.bool (k.int s x.from_).1 x.closed).1 x.pl).2.c, y3]) w w4) := h1
  have R3h := Lib.hid R3
  clear R3
  have R3 := R3h
  clear R3h
  clear h1 hf HW3
  try go_wp2_with fail
  go_end0
  exact ⟨rfl, WS.post (E := perE) (q := k.per s x) HW4.out (⟨y3, rfl, I0.out, I2.out, R3.out⟩)⟩
end
end Go.Proofs.YtpknalpdcfjffaaGreat
/- store.item, over any walker. Printed by gen_fields.py. -/
namespace Go.Proofs.YtpknalpdcfjffaaGreat
open Go Go.RowKit

section
variable {σ : Type} {k : Wk σ}
set_option maxHeartbeats 16000000 in
set_option maxRecDepth 100000 in
theorem item_walks (K : WkM k) (hK : K.OK) : Walks K 45 K.recv [] itmE k.itm := by
  intro s x w p o cs es av h1 h2 h3 h4 h5 h6 h7 h8
  have HK := Lib.hid hK
  have HB : Hid (K.b < w.heap.size) := (hK.lt h1).2
  have HPl : Hid (p < w.heap.size) := h4.lt
  have HAv := Lib.hid h7
  obtain ⟨v, rfl, r0, r1, r2⟩ := h6
  have HAt := Lib.hid h5
  have HW0 : Hid (WS K p s (putL cs o []) w w) := (WS.start h1 h4).whole
  have HSz := Lib.hid h8
  clear h1 h4 h5 h7 h8 hK
  go_enter Tryz.func45, Tryz.ntmps45
  go_wp2_with fail
  refine (HW0.out.field (report_walks K HK.out) repE_ok h2 h3 (es := [.int .i64 x.rep.kind, .string x.rep.name, .int .i64 x.rep.time, .int .i64 x.rep.pl.f, .int .i64 x.rep.pl.a, .int .i64 x.rep.pl.b, .int .i64 x.rep.pl.c, v]) (a := []) (c := [.int .i64 x.corr, .int .i64 x.arr]) HAt.out rfl ⟨v, rfl, r0⟩ HAv.out _ rfl (Nat.le_trans (HK.out.mono.int _ _) (Nat.le_trans (HK.out.mono.int _ _) HSz.out))).mono ?_
  rintro e w1 ⟨rfl, es0, h1, ⟨v0, rfl, i0, i1, i2, i3, R0⟩, -, hf⟩
  have HW1 : Hid (WS K p (k.rep s x.rep).1 (putL cs o [.int .i64 (k.rep s x.rep).2.kind, .string (k.rep s x.rep).2.name, .int .i64 (k.rep s x.rep).2.time, .int .i64 (k.rep s x.rep).2.pl.f, .int .i64 (k.rep s x.rep).2.pl.a, .int .i64 (k.rep s x.rep).2.pl.b, .int .i64 (k.rep s x.rep).2.pl.c, v0]) w w1) := h1
  have R0h := Lib.hid R0
  clear R0
  have R0 := R0h
  clear R0h
  have I0 := Lib.hid i0
  have I0b := Lib.hid i1
  have I0c := Lib.hid i2
  have I0d := Lib.hid i3
  clear i0 i1 i2 i3
  clear h1 hf HW0
  try go_wp2_with fail
  refine wp_region_seq (by kernel_rfl) (fun _ => True) [(0, true), (1, true), (2, true), (3, true), (4, true), (5, true), (6, true), (7, false), (8, false)] (by kernel_rfl) (trivial) ?_
  refine seq_q (d := some 9) rfl rfl rfl (K.recv) (fun w hw => rfl) ?_
  simp only [Act.put, List.setIfInBounds_toArray, List.set_cons_zero, List.set_cons_succ]
  refine seq_q (d := some 10) rfl rfl rfl (.pointer (some ⟨p, o, none⟩)) (fun w hw => rfl) ?_
  simp only [Act.put, List.setIfInBounds_toArray, List.set_cons_zero, List.set_cons_succ]
  refine seq_q (d := some 11) rfl rfl rfl (.pointer (some ⟨p, o, none⟩)) (fun w hw => rfl) ?_
  simp only [Act.put, List.setIfInBounds_toArray, List.set_cons_zero, List.set_cons_succ]
  refine seq_q (d := some 12) rfl rfl rfl (.pointer (some ⟨p, o + 8, none⟩)) (fun w hw => by go_simp) ?_
  simp only [Act.put, List.setIfInBounds_toArray, List.set_cons_zero, List.set_cons_succ]
  refine seq_q (d := some 13) rfl rfl rfl (.pointer (some ⟨p, o, none⟩)) (fun w hw => rfl) ?_
  simp only [Act.put, List.setIfInBounds_toArray, List.set_cons_zero, List.set_cons_succ]
  refine seq_q (d := some 14) rfl rfl rfl (.pointer (some ⟨p, o, none⟩)) (fun w hw => rfl) ?_
  simp only [Act.put, List.setIfInBounds_toArray, List.set_cons_zero, List.set_cons_succ]
  refine seq_q (d := some 15) rfl rfl rfl (.pointer (some ⟨p, o + 9, none⟩)) (fun w hw => by go_simp) ?_
  simp only [Act.put, List.setIfInBounds_toArray, List.set_cons_zero, List.set_cons_succ]
  refine seq_run (d := some 16) rfl rfl rfl (.slice (some ⟨w1.heap.size, 0, none⟩) 2 2) (w1.drew.alloc (.cells #[.pointer (some ⟨p, o + 8, none⟩), .pointer (some ⟨p, o + 9, none⟩)] 114)) (by simp [execOp, Act.eval, Instr.buildSlice, go_sem]) trivial ?_
  simp only [Act.put, List.setIfInBounds_toArray, List.set_cons_zero, List.set_cons_succ]
  have HP1 : Hid (Ptrs (w1.drew.alloc (.cells #[.pointer (some ⟨p, o + 8, none⟩), .pointer (some ⟨p, o + 9, none⟩)] 114)) w1.heap.size p (o + 8) 2) := ptrs_of (cs := [.pointer (some ⟨p, o + 8, none⟩), .pointer (some ⟨p, o + 9, none⟩)]) rfl rfl (by intro i hi; match i, hi with | 0, _ => rfl | 1, _ => rfl)
  have HV1 : Hid (WS K p (k.rep s x.rep).1 (putL cs o [.int .i64 (k.rep s x.rep).2.kind, .string (k.rep s x.rep).2.name, .int .i64 (k.rep s x.rep).2.time, .int .i64 (k.rep s x.rep).2.pl.f, .int .i64 (k.rep s x.rep).2.pl.a, .int .i64 (k.rep s x.rep).2.pl.b, .int .i64 (k.rep s x.rep).2.pl.c, v0]) w (w1.drew.alloc (.cells #[.pointer (some ⟨p, o + 8, none⟩), .pointer (some ⟨p, o + 9, none⟩)] 114))) := (HW1.out.drew HK.out).new HK.out ((Below.refl _ _).alloc (Nat.le_refl _) _)
  have HN1 : Hid (w1.heap.size ≠ K.b ∧ w1.heap.size ≠ p) := by have := HB.out; have := HPl.out; have := HW1.out.fr.size; unfold Hid; omega
  refine seq_call (d := some 17) rfl rfl rfl ⟨_, Tryz.func61, by kernel_rfl, by kernel_rfl⟩ _ _ _ rfl rfl [K.recv, .slice (some ⟨w1.heap.size, 0, none⟩) 2 2] rfl (HV1.out.ints HK.out h2 h3 (es := [.int .i64 x.corr, .int .i64 x.arr]) (a := [.int .i64 x.rep.kind, .string x.rep.name, .int .i64 x.rep.time, .int .i64 x.rep.pl.f, .int .i64 x.rep.pl.a, .int .i64 x.rep.pl.b, .int .i64 x.rep.pl.c, v]) (c := []) HAt.out (xs := [x.corr, x.arr]) rfl rfl (by simp) (by simp; exact ⟨r1, r2⟩) (by simp) _ rfl HP1.out HN1.out.1 HN1.out.2 2 rfl HSz.out) ?_
  rintro e w2 ⟨rfl, h1, hr, hf⟩
  refine ⟨_, rfl, trivial, ?_⟩
  simp only [Act.put, List.setIfInBounds_toArray, List.set_cons_zero, List.set_cons_succ]
  refine seq_end ?_
  have i1_0 : Hid (I64 (k.int (k.rep s x.rep).1 x.corr).2) := hr _ (List.Mem.head _)
  have i1_1 : Hid (I64 (k.int (k.int (k.rep s x.rep).1 x.corr).1 x.arr).2) := hr _ (List.Mem.tail _ (List.Mem.head _))
  have HW2 : Hid (WS K p (k.int (k.int (k.rep s x.rep).1 x.corr).1 x.arr).1 (putL cs o [.int .i64 (k.rep s x.rep).2.kind, .string (k.rep s x.rep).2.name, .int .i64 (k.rep s x.rep).2.time, .int .i64 (k.rep s x.rep).2.pl.f, .int .i64 (k.rep s x.rep).2.pl.a, .int .i64 (k.rep s x.rep).2.pl.b, .int .i64 (k.rep s x.rep).2.pl.c, v0, .int .i64 (k.int (k.rep s x.rep).1 x.corr).2, .int .i64 (k.int (k.int (k.rep s x.rep).1 x.corr).1 x.arr).2]) w w2) := h1
  have R0n := Lib.hid (R0.out.next rdE_ok ((Fr.drew _).trans ((Fr.alloc _ _ (by have := HB.out; have := (HK.out.lt HW1.out.st).1; have := HW1.out.fr.size; simp; omega)).trans hf)) HAv.out HB.out HPl.out)
  clear R0
  have R0 := R0n
  clear R0n
  clear h1 hf HW1 hr HP1 HV1 HN1
  try go_wp2_with fail
  go_end0
  exact ⟨rfl, WS.post (E := itmE) (q := k.itm s x) HW2.out (⟨v0, rfl, ⟨I0.out, I0b.out, I0c.out, I0d.out, R0.out⟩, i1_0.out, i1_1.out⟩)⟩
end
end Go.Proofs.YtpknalpdcfjffaaGreat
