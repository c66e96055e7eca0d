/- Part 9 of the proof: laws on memory and what functions of the program return. No conditions but those that each theorem names. -/
import Derived.Test.YtmmmebdgannpgaaGreatDoorR08
import Derived.Deep.Upon
import Derived.BigQuiet
import Derived.Deep.QuietTactic
set_option linter.unusedVariables false
set_option linter.unusedSimpArgs false
/- The reference's grid of frequency one: a cell is put among cells. -/
namespace Go.Proofs.YtmmmebdgannpgaaGreatDoor
open Go Go.RowKit

def FCp (g o k n cap : Nat) (ix : Nat) (v : Value) (_ : World) : Prop := match ix with
  | 0 => v = .slice (some ⟨g, 0, none⟩) (n + 1) cap
  | 1 => v = .int .i64 k
  | 2 => v = .int .i64 ((k : Int) + 1)
  | 3 => v = .slice (some ⟨g, o, none⟩) (n - k) (cap - (k + 1))
  | 4 => v = .slice (some ⟨g, 0, none⟩) (n + 1) cap
  | 5 => v = .int .i64 k
  | 6 => v = .slice (some ⟨g, k * 3, none⟩) (n + 1 - k) (cap - k)
  | _ => True
theorem copy_small (cur : List Value) (n k o cap : Nat) (hk : k ≤ n) (hl : cur.length = cap * 3) (hsm : ∀ i, i < (n + 1) * 3 → ∃ u, cur[i]? = some u ∧ Sm u) (hcap : n + 1 ≤ cap) (ho : o = if k + 1 = cap then 0 else (k + 1) * 3) :
    ((cur.drop (k * 3)).take ((n - k) * 3)).length = (n - k) * 3 ∧ o + ((cur.drop (k * 3)).take ((n - k) * 3)).length ≤ cur.toArray.size ∧ (∀ v ∈ (cur.drop (k * 3)).take ((n - k) * 3), v.oneCell' = true) ∧
      (cur.take o ++ (cur.drop (k * 3)).take ((n - k) * 3) ++ cur.drop (o + ((cur.drop (k * 3)).take ((n - k) * 3)).length)).length = cap * 3 ∧
      ∀ i, i < (n + 1) * 3 → ∃ u, (cur.take o ++ (cur.drop (k * 3)).take ((n - k) * 3) ++ cur.drop (o + ((cur.drop (k * 3)).take ((n - k) * 3)).length))[i]? = some u ∧ Sm u := by
  have hlen : ((cur.drop (k * 3)).take ((n - k) * 3)).length = (n - k) * 3 := by rw [List.length_take, List.length_drop]; omega
  have hcs : ∀ j, j < (n - k) * 3 → ∃ u, ((cur.drop (k * 3)).take ((n - k) * 3))[j]? = some u ∧ Sm u := by
    intro j hj
    rw [List.getElem?_take_of_lt hj, List.getElem?_drop]
    exact hsm _ (by omega)
  have ho2 : o + (n - k) * 3 ≤ cap * 3 := by rw [ho]; split <;> omega
  have htk : (cur.take o).length = o := by rw [List.length_take]; omega
  generalize (cur.drop (k * 3)).take ((n - k) * 3) = cs at *
  refine ⟨hlen, by rw [hlen, List.size_toArray, hl]; exact ho2, fun v hv => ?_, ?_, fun i hi => ?_⟩
  · obtain ⟨j, hj, rfl⟩ := List.getElem_of_mem hv
    obtain ⟨u, h1, z, _, _, rfl⟩ := hcs j (by omega)
    rw [List.getElem?_eq_getElem hj] at h1
    injection h1 with h1
    rw [h1]; rfl
  · rw [List.length_append, List.length_append, htk, List.length_drop, hlen]
    omega
  · rw [List.append_assoc]
    by_cases h1 : i < o
    · rw [List.getElem?_append_left (by rw [htk]; exact h1), List.getElem?_take_of_lt h1]
      exact hsm i hi
    · rw [List.getElem?_append_right (by rw [htk]; omega), htk]
      by_cases h2 : i - o < (n - k) * 3
      · rw [List.getElem?_append_left (by rw [hlen]; exact h2)]
        exact hcs _ h2
      · rw [List.getElem?_append_right (by rw [hlen]; omega), List.getElem?_drop, hlen]
        have e : o + (n - k) * 3 + (i - o - (n - k) * 3) = i := by omega
        rw [e]; exact hsm i hi
theorem OwnC.there {w : World} {base g cap m : Nat} (h : OwnC w base (.slice (some ⟨g, 0, none⟩) m cap) m) (k : Nat) (hk : k < m) : w.there g (k * 3) 3 := by
  obtain ⟨g', cap', cur, e, hg, hh, hc, hm, hl, hs⟩ := h.raw (by omega)
  obtain ⟨rfl, rfl⟩ : g = g' ∧ cap = cap' := by simpa using e
  intro j hj
  refine ⟨?_, ?_⟩
  · obtain ⟨u, h1, _⟩ := hs (k * 3 + j) (by omega)
    simp [World.cell?, hh, h1]
  · simp [World.frozen?, hh]
theorem copy_src {w : World} {g : Nat} {cur : List Value} {k m : Nat} {t : TypeId} {fr : Nat × Nat} (hh : w.heap[g]? = some (.cells cur.toArray t fr)) {j : Nat} {u : Value} (hj : ((cur.drop (k * 3)).take m)[j]? = some u) : w.cell? ((⟨g, k * 3, none⟩ : Addr).add j) = some u := by
  have hjm : j < m := by
    have := (List.getElem?_eq_some_iff.1 hj).1
    rw [List.length_take] at this; omega
  rw [List.getElem?_take_of_lt hjm, List.getElem?_drop] at hj
  rw [Go.WideShapes.add_plain]
  simp [World.cell?, hh, hj]
set_option maxHeartbeats 16000000 in
set_option maxRecDepth 100000 in
theorem insert_any (v : Value) (base n : Nat) (x y z : Int) (hx : 0 ≤ x ∧ x < 12) (hy : 0 ≤ y ∧ y < 12) (hz : 0 ≤ z ∧ z < 12) (hn : n ≤ 1000) (w : World) (hv : OwnC w base v n) (hb : base ≤ w.heap.size) :
    Calls Tryz.prog 93 #[v, .agg #[.int .i64 x, .int .i64 y, .int .i64 z]] w (InsIs w base n) := by
  have HR0 : Hid (Box (w.alloc (.cells #[.int .i64 x, .int .i64 y, .int .i64 z] 128)) w.heap.size x y z) := heap_alloc_new w _
  have HOb : Hid (v.ownBlock ≠ some w.heap.size) := fun e => by have := hv.lt _ e; omega
  have HO0 := Lib.hid (hv.below ((Below.refl _ _).alloc (Nat.le_refl _) (.cells #[.int .i64 x, .int .i64 y, .int .i64 z] 128)))
  have HB := Lib.hid hb
  have HN := Lib.hid hn
  obtain ⟨va, vc, rfl⟩ := hv.slice
  have Hx := Lib.hid (And.intro hx (And.intro hy hz))
  clear hv hb hx hy hz
  have n0 : (n : Int) ≤ 1000 := by omega
  obtain ⟨w0, hw0⟩ : ∃ w0, w0 = w.alloc (.cells #[.int .i64 x, .int .i64 y, .int .i64 z] 128) := ⟨_, rfl⟩
  have Hw0 : Hid (Below base w w0 ∧ base ≤ w0.heap.size) := by
    unfold Hid; rw [hw0]; exact ⟨(Below.refl _ _).alloc HB.out _, by simp; have := HB.out; omega⟩
  rw [← hw0] at HR0 HO0
  go_enter Tryz.func93, Tryz.ntmps93
  go_upto_block 0 with fail
  rw [← hw0]
  clear hw0
  go_cut [5] (fun kv wx => ∃ k : Nat, k ≤ n ∧ kv = .int .i64 k ∧ OwnC wx base (.slice va n vc) n ∧ Box wx w.heap.size x y z ∧ Below base w wx ∧ base ≤ wx.heap.size)
  case first =>
    go_wp2_with fail
    go_loopw [5] (fun kv wr => ∃ k : Nat, k ≤ n ∧ kv = .int .i64 k ∧ Hid (OwnC wr base (.slice va n vc) n) ∧ Hid (Box wr w.heap.size x y z) ∧ Hid (Below base w wr ∧ base ≤ wr.heap.size)) (fun kv _ => (intOf kv).toNat)
    case atStart => exact ⟨n, Nat.le_refl _, rfl, HO0, HR0, Hw0⟩
    case round =>
      clear HO0 HR0 Hw0
      obtain ⟨k, hk, rfl, ho, hr, hb⟩ := hrel
      by_cases hk0 : 0 < k
      · obtain ⟨g, cap, he, hg, hcap, hcm, hc⟩ := ho.out.at (by omega)
        obtain ⟨rfl, rfl⟩ : va = some ⟨g, 0, none⟩ ∧ vc = cap := by simpa using he
        obtain ⟨p, p0, p1, hp⟩ := hc ((k - 1) * 3) (by omega)
        obtain ⟨q, q0, q1, hq⟩ := hc ((k - 1) * 3 + 1) (by omega)
        obtain ⟨r, r0, r1, hrr⟩ := hc ((k - 1) * 3 + 2) (by omega)
        have x0 := hr.out.row.at 0 rfl
        have x1 := hr.out.row.at 1 rfl
        have x2 := hr.out.row.at 2 rfl
        obtain ⟨j, rfl⟩ : ∃ j, k = j + 1 := ⟨k - 1, by omega⟩
        simp only [Nat.add_sub_cancel] at hp hq hrr
        have Hk := Lib.hid hk
        have k0 : (0 : Int) ≤ (j : Int) := by omega
        have k1 : (j : Int) < (n : Int) := by omega
        have k2 : ((j + 1 : Nat) : Int) = (j : Int) + 1 := by omega
        have k3 : ((j : Int) + 1 - 1) = (j : Int) := by omega
        have k4 : (0 : Int) < (j : Int) + 1 := by omega
        clear he hg hc hk hk0
        rw [k2]
        have hcase : x < p ∨ (p < x) ∨ (x = p ∧ (y < q ∨ q < y ∨ (y = q ∧ (z < r ∨ r ≤ z)))) := by omega
        rcases hcase with h1 | h1 | ⟨rfl, h1 | h1 | ⟨rfl, h1 | h1⟩⟩
        · go_wp2_with fail
          go_region
          go_wp2_with fail
          go_roundw
          case rel => exact ⟨j, by have := Hk.out; omega, rfl, ho.out.below (Below.refl _ _).drew, hr.out, ⟨hb.out.1.drew, hb.out.2⟩⟩
          case measure => simp [intOf]
        · have e1 : (x == p) = false := by simp; omega
          have e0 : decide (x < p) = false := by simp; omega
          have e2 : p ≤ x := by omega
          go_wp2_with fail
          go_region
          go_wp2_with fail
          go_meet
          exact ⟨j + 1, by have := Hk.out; omega, by rw [k2], ho.out.below (Below.refl _ _).drew, hr.out, hb.out.1.drew, hb.out.2⟩
        · go_wp2_with fail
          go_region
          go_wp2_with fail
          go_roundw
          case rel => exact ⟨j, by have := Hk.out; omega, rfl, ho.out.below (Below.refl _ _).drew, hr.out, ⟨hb.out.1.drew, hb.out.2⟩⟩
          case measure => simp [intOf]
        · have e1 : (y == q) = false := by simp; omega
          have e0 : decide (y < q) = false := by simp; omega
          have e2 : q ≤ y := by omega
          go_wp2_with fail
          go_region
          go_wp2_with fail
          go_meet
          exact ⟨j + 1, by have := Hk.out; omega, by rw [k2], ho.out.below (Below.refl _ _).drew, hr.out, hb.out.1.drew, hb.out.2⟩
        · go_wp2_with fail
          go_region
          go_wp2_with fail
          go_roundw
          case rel => exact ⟨j, by have := Hk.out; omega, rfl, ho.out.below (Below.refl _ _).drew, hr.out, ⟨hb.out.1.drew, hb.out.2⟩⟩
          case measure => simp [intOf]
        · go_wp2_with fail
          go_region
          go_wp2_with fail
          go_meet
          exact ⟨j + 1, by have := Hk.out; omega, by rw [k2], ho.out.below (Below.refl _ _).drew, hr.out, hb.out.1.drew, hb.out.2⟩
      · obtain rfl : k = 0 := by omega
        go_wp2_with fail
        go_region
        go_wp2_with fail
        go_meet
        exact ⟨0, by omega, rfl, ho.out.below (Below.refl _ _).drew, hr.out, hb.out.1.drew, hb.out.2⟩
  case rest =>
    obtain ⟨k, hk, rfl, ho, hr, hb1, hb2⟩ := hcut
    have Hk := Lib.hid hk
    have HAp : Hid (∃ (v' : Value) (w' : World), (Builtin.append_ #[124, 124] 124 #[.slice va n vc, .slice (some ⟨wc.heap.size, 0, none⟩) 1 1]).run Tryz.prog (wc.alloc (.cells #[.int .i64 0, .int .i64 0, .int .i64 0] 128)) = .ok v' w' ∧
        OwnC w' base v' (n + 1) ∧ Box w' w.heap.size x y z ∧ v'.ownBlock ≠ some w.heap.size ∧ Below base w w' ∧ Hid (base ≤ w'.heap.size)) := by
      obtain ⟨v', w', a1, a2, a3, a4, a5⟩ := append_cl ho hr HOb.out (by have := HN.out; omega) hb2 124
      exact ⟨v', w', a1, a2, a3, a4, hb1.trans a5, Nat.le_trans hb2 a5.size⟩
    have k0 : (0 : Int) ≤ (k : Int) := by omega
    have k1 : (k : Int) ≤ 1000 := by have := HN.out; omega
    clear hk ho hr hb1 hb2
    go_upto_region 5 with (at_builtin; obtain ⟨v', w', hrun, hown, hbx, hob, hbl, hsz⟩ := HAp.out; have Hrun := Lib.hid hrun; have Hown := Lib.hid hown; have Hbx := Lib.hid hbx; have Hob := Lib.hid hob; have Hbl := Lib.hid hbl; have Hsz := Lib.hid hsz; clear hrun hown hbx hob hbl hsz; refine wpList_append_run rfl _ _ _ rfl _ _ _ _ rfl rfl Hrun.out ?_)
    obtain ⟨g, cap, cur, rfl, hg, hh, hcap, hcm, hcl, hsm⟩ := Hown.out.raw (by omega)
    have Hgb : Hid (g ≠ w.heap.size) := by have h := Hob.out; intro e; apply h; rw [e]; rfl
    -- where the copy goes
    have hk' := Hk.out
    obtain ⟨o, ho⟩ : ∃ o, o = if k + 1 = cap then 0 else (k + 1) * 3 := ⟨_, rfl⟩
    have Ho := Lib.hid ho
    have Hk1 : Hid (IntKind.i64.wrap ((k : Int) + 1) = (k : Int) + 1) := IntWalk.i64_in _ (by omega)
    have Hsl3 : Hid ((0 ≤ (k : Int) + 1 ∧ k ≤ n) ∧ (if cap = k + 1 then (some ⟨g, 0, none⟩ : Option Addr) else some ⟨g, (k + 1) * 3, none⟩) = some ⟨g, o, none⟩) := by
      refine ⟨⟨by omega, hk'⟩, ?_⟩
      rw [ho]
      by_cases h : k + 1 = cap
      · rw [if_pos h.symm, if_pos h]
      · rw [if_neg (fun e => h e.symm), if_neg h]
    have Hsl6 : Hid ((k : Int) ≤ (n : Int) + 1 ∧ (if cap = k then (some ⟨g, 0, none⟩ : Option Addr) else some ⟨g, k * 3, none⟩) = some ⟨g, k * 3, none⟩) := by
      refine ⟨by omega, ?_⟩
      rw [if_neg (by omega)]
    have Hgb2 : Hid (base ≤ g) := hg
    have Hmin : Hid (n - k = Nat.min (n + 1 - k) (n - k)) := by unfold Hid; show n - k = min _ _; omega
    have Hcs := Lib.hid (copy_small cur n k o cap hk' hcl hsm hcap ho)
    clear ho
    refine wp_region_slots (by kernel_rfl) 84 rfl (by kernel_rfl) (by kernel_rfl) 71 8 (by kernel_rfl) (fun d w' => OwnC w' base (.slice (some ⟨g, 0, none⟩) (n + 1) cap) (n + 1) ∧ Box w' w.heap.size x y z ∧ Below base w w' ∧ base ≤ w'.heap.size ∧ (d 7 = false → w'.heap[g]? = some (.cells cur.toArray 128 (0, 0)))) (FCp g o k n cap) ?hS0 ?hop ?hend
    case hS0 => exact ⟨Hown.out.below (Below.refl _ _).drew, Hbx.out, Hbl.out.drew, Hsz.out, fun _ => hh⟩
    case hop =>
      refine ⟨?_, ?_, ?_, ?_, ?_, ?_, ?_, ?_, trivial⟩
      all_goals intro d ac wx hd hcl hS hA haft K hK
      · have f0 : ac.tmps.getD 0 undef = .slice (some ⟨g, 0, none⟩) (n + 1) cap := same_slot hA 0 (by kernel_rfl)
        refine hop_val rfl (.slice (some ⟨g, 0, none⟩) (n + 1) cap) (w' := wx) ?_ (hK _ _ rfl (fun _ _ _ h => h) hS)
        simp [execOp, Act.eval, f0, go_sem, -Array.getD_eq_getD_getElem?]
      · have f5 : ac.tmps.getD 5 undef = .int .i64 k := same_slot hA 5 (by kernel_rfl)
        refine hop_val rfl (.int .i64 k) (w' := wx) ?_ (hK _ _ rfl (fun _ _ _ h => h) hS)
        simp [execOp, Act.eval, f5, go_sem, -Array.getD_eq_getD_getElem?]
      · have f72 : ac.tmps.getD 72 undef = .int .i64 k := (haft ⟨1, .data⟩ (by simp) rfl).2 _ rfl
        refine hop_val rfl (.int .i64 ((k : Int) + 1)) (w' := wx) ?_ (hK _ _ rfl (fun _ _ _ h => h) hS)
        simp [execOp, Act.eval, f72, go_sem, -Array.getD_eq_getD_getElem?]
        exact Hk1.out
      · have f71 : ac.tmps.getD 71 undef = .slice (some ⟨g, 0, none⟩) (n + 1) cap := (haft ⟨0, .data⟩ (by simp) rfl).2 _ rfl
        have f73 : ac.tmps.getD 73 undef = .int .i64 ((k : Int) + 1) := (haft ⟨2, .data⟩ (by simp) rfl).2 _ rfl
        refine hop_val rfl (.slice (some ⟨g, o, none⟩) (n - k) (cap - (k + 1))) (w' := wx) ?_ (hK _ _ rfl (fun _ _ _ h => h) hS)
        simp [execOp, Act.eval, f71, f73, go_sem, -Array.getD_eq_getD_getElem?]
        rw [if_pos Hsl3.out.1, Hsl3.out.2]
      · have f0 : ac.tmps.getD 0 undef = .slice (some ⟨g, 0, none⟩) (n + 1) cap := same_slot hA 0 (by kernel_rfl)
        refine hop_val rfl (.slice (some ⟨g, 0, none⟩) (n + 1) cap) (w' := wx) ?_ (hK _ _ rfl (fun _ _ _ h => h) hS)
        simp [execOp, Act.eval, f0, go_sem, -Array.getD_eq_getD_getElem?]
      · have f5 : ac.tmps.getD 5 undef = .int .i64 k := same_slot hA 5 (by kernel_rfl)
        refine hop_val rfl (.int .i64 k) (w' := wx) ?_ (hK _ _ rfl (fun _ _ _ h => h) hS)
        simp [execOp, Act.eval, f5, go_sem, -Array.getD_eq_getD_getElem?]
      · have f75 : ac.tmps.getD 75 undef = .slice (some ⟨g, 0, none⟩) (n + 1) cap := (haft ⟨4, .data⟩ (by simp) rfl).2 _ rfl
        have f76 : ac.tmps.getD 76 undef = .int .i64 k := (haft ⟨5, .data⟩ (by simp) rfl).2 _ rfl
        refine hop_val rfl (.slice (some ⟨g, k * 3, none⟩) (n + 1 - k) (cap - k)) (w' := wx) ?_ (hK _ _ rfl (fun _ _ _ h => h) hS)
        simp [execOp, Act.eval, f75, f76, go_sem, -Array.getD_eq_getD_getElem?]
        rw [if_pos Hsl6.out.1, Hsl6.out.2]
      · have f74 : ac.tmps.getD 74 undef = .slice (some ⟨g, o, none⟩) (n - k) (cap - (k + 1)) := (haft ⟨3, .data⟩ (by simp) rfl).2 _ rfl
        have f77 : ac.tmps.getD 77 undef = .slice (some ⟨g, k * 3, none⟩) (n + 1 - k) (cap - k) := (haft ⟨6, .data⟩ (by simp) rfl).2 _ rfl
        have hh' := hS.2.2.2.2 hd
        have hrun := run_copy_rowN (P := Tryz.prog) wx 124 124 3 128 g o (n - k) (cap - (k + 1)) ⟨g, k * 3, none⟩ (n + 1 - k) (cap - k) 3 (n - k) cur.toArray _ _ Tryz.underlying124 rowT_c.1 hh' Hmin.out Hcs.out.1 (fun j u hj => copy_src hh' hj) Hcs.out.2.1 Hcs.out.2.2.1
        refine hop_val rfl (goInt (n - k : Nat)) (w' := wx.setRow g _) ?_ (hK _ _ trivial (fun _ _ _ h => h) ⟨ownC_row hg hh' (Nat.succ_pos n) hcap hcm Hcs.out.2.2.2.1 Hcs.out.2.2.2.2, ?_, below_setRow hS.2.2.1 hg _, ?_, fun h => by simp at h⟩)
        · unfold execOp
          simp only [resolve, invoke, builtin, Sem.run_bind, Sem.run_pure, Result.andThen_ok, List.map_toArray, List.map_cons, List.map_nil, Act.eval, f74, f77, hrun]
        · unfold Box; rw [setRow_other _ _ _ _ (Ne.symm Hgb.out)]; exact hS.2.1
        · rw [setRow_size]; exact hS.2.2.2.1
    case hend =>
      intro u w5 d hd hS hF
      obtain ⟨ho5, hx5, hb5, hs5, hq5⟩ := hS
      clear hq5
      have HO5 := Lib.hid ho5
      have HX5 := Lib.hid hx5
      have HB5 := Lib.hid hb5
      have Hth : Hid (w5.there g (k * 3) 3) := ho5.there k (by omega)
      have k2 : (k : Int) < (n : Int) + 1 := by omega
      have H1 : Hid ((#[Value.int .i64 x, .int .i64 y, .int .i64 z]).all (·.oneCell') = true) := by unfold Hid; simp [Value.oneCell']
      clear hF hd ho5 hx5 hb5 hs5 d hh hsm hcl hcap hcm hg hk'
      simp only [mixL]
      go_wp2_with (first
        | (refine row_load rfl _ rfl _ rfl _ HX5.out.row rowT_c ?_)
        | (refine wpList_store_mid rfl _ _ _ rfl g (k * 3) #[.int .i64 x, .int .i64 y, .int .i64 z] rfl rfl Hth.out rowT_c.1 H1.out ?_))
      go_ret
      refine ⟨_, rfl, ?_, ?_⟩
      · have hx := Hx.out
        exact ((HO5.out.set (k * 3) (by have := Hk.out; omega) ⟨x, hx.1.1, hx.1.2, rfl⟩).set (k * 3 + 1) (by have := Hk.out; omega) ⟨y, hx.2.1.1, hx.2.1.2, rfl⟩).set (k * 3 + 1 + 1) (by have := Hk.out; omega) ⟨z, hx.2.2.1, hx.2.2.2, rfl⟩
      · exact ((HB5.out.setCell Hgb2.out _).setCell Hgb2.out _).setCell Hgb2.out _
end Go.Proofs.YtmmmebdgannpgaaGreatDoor
/- The reference's grid of frequency one: its cells. -/
namespace Go.Proofs.YtmmmebdgannpgaaGreatDoor
open Go Go.RowKit

/-- The nodes are there, and k cells are made. -/
structure ClS (w : World) (base g k : Nat) (v : Value) (wr : World) : Prop where
  own : OwnC wr base v k
  pls : PlsAt wr g nodes1
  low : g < base
  size : base ≤ wr.heap.size
  below : Below w.heap.size w wr
  base : w.heap.size ≤ base
theorem ClS.then {w wr w' : World} {base g k : Nat} {v : Value} (h : ClS w base g k v wr) (hb : Below wr.heap.size wr w') : ClS w base g k v w' :=
  ⟨h.own.below hb, h.pls.below hb, h.low, Nat.le_trans h.size hb.size, below_then h.below hb, h.base⟩
theorem ClS.next {w wr w' : World} {base g k : Nat} {v v' : Value} (h : ClS w base g k v wr) (ho : OwnC w' base v' (k + 1)) (hb : Below base wr w') : ClS w base g (k + 1) v' w' := by
  refine ⟨ho, fun i hi j u hj => ?_, h.low, Nat.le_trans h.size hb.size, h.below.trans (hb.mono h.base), h.base⟩
  rw [hb.cell (p := ⟨g, i * 4 + j, none⟩) h.low]
  exact h.pls i hi j u hj
def At84 (i : Nat) (v : Value) : Prop := (i = 0 ∧ v = .int .i64 0) ∨ (i = 1 ∧ v = .int .i64 840)
set_option maxHeartbeats 16000000 in
set_option maxRecDepth 100000 in
theorem cells_any (w : World) :
    Calls Tryz.prog 80 #[.int .i64 1] w fun e w' => ∃ v, e = .returned (.tuple #[v, .int .i64 0]) ∧ OwnC w' w.heap.size v 20 ∧ Below w.heap.size w w' := by
  go_enter Tryz.func80, Tryz.ntmps80
  go_wp2_with fail
  refine (nodes_any _).mono ?_
  rintro e w1 ⟨v, rfl, hown, hb1⟩
  obtain ⟨g, cap, rfl, hg, hcap, hc⟩ := hown.at (by rw [nodes1_length]; omega)
  have hcm : cap ≤ 9223372036854775807 := by
    rcases hown.2 with ⟨e, _⟩ | ⟨g', cap', cur, e, _, _, _, hm, _⟩
    · cases e
    · obtain ⟨_, rfl⟩ : g = g' ∧ cap = cap' := by simpa using e
      unfold maxLen at hm; omega
  have hglt : g < w1.heap.size := by
    have := hc 0 (by rw [nodes1_length]; omega) 0 _ rfl
    exact World.block_lt_of_cell? (a := ⟨g, 0 * 4 + 0, none⟩) _ this
  rw [nodes1_length] at hcap ⊢
  have HC : Hid (12 ≤ cap ∧ cap ≤ 9223372036854775807) := ⟨hcap, hcm⟩
  have HS : Hid (ClS w w1.heap.size g 0 (.slice none 0 0) w1) := ⟨OwnC.nil _ _, hc, hglt, Nat.le_refl _, hb1, hb1.size⟩
  obtain ⟨base, hbase⟩ : ∃ base, base = w1.heap.size := ⟨_, rfl⟩
  rw [← hbase] at HS
  clear hown hg hc hb1 hcm hglt hcap hbase
  go_wp2_with fail
  go_loopw [7, 8] (fun lv kv wr => ∃ (k : Nat) (ov : Value), ov = lv ∧ kv = .int .i64 k ∧ k ≤ 20 ∧ Hid (ClS w base g k ov wr)) (fun _ kv _ => (20 - intOf kv).toNat)
  case atStart => exact ⟨0, _, rfl, rfl, by omega, HS⟩
  case round =>
    clear HS
    obtain ⟨k, ov, rfl, rfl, hk, hs⟩ := hrel
    by_cases hlt : k < 20
    · have k0 : (k : Int) < 20 := by omega
      have HA := Lib.hid (fun a b hp w' h => at_any g cap HC.out k hlt a b hp w' h)
      obtain ⟨wout, rfl⟩ : ∃ wout : World, wout = wr := ⟨_, rfl⟩
      go_wp2_with fail
      go_loopw [7, 9] (fun lv av wr => ∃ (i : Nat) (ov : Value), ov = lv ∧ At84 i av ∧ Hid (ClS w base g (k + i) ov wr)) (fun _ av _ => (2000 - intOf av).toNat)
      case atStart => exact ⟨0, _, rfl, .inl ⟨rfl, rfl⟩, hs⟩
      case round =>
        clear hs
        obtain ⟨i, ov, rfl, hav, hs⟩ := hrel
        obtain ⟨wout2, rfl⟩ : ∃ wout2 : World, wout2 = wr := ⟨_, rfl⟩
        rcases hav with ⟨rfl, rfl⟩ | ⟨rfl, rfl⟩
        · go_wp2_with fail
          go_loopw [7, 10] (fun lv bv wr => ∃ (m : Nat) (ov : Value), ov = lv ∧ At84 m bv ∧ Hid (ClS w base g (k + m) ov wr)) (fun _ bv _ => (2000 - intOf bv).toNat)
          case atStart => exact ⟨0, _, rfl, .inl ⟨rfl, rfl⟩, hs⟩
          case round =>
            clear hs
            obtain ⟨m, ov, rfl, hbv, hs⟩ := hrel
            rcases hbv with ⟨rfl, rfl⟩ | ⟨rfl, rfl⟩
            · go_wp2_with fail
              refine (HA.out 840 0 (by simp [vtx]) _ hs.out.pls).mono ?_
              rintro e w4 ⟨i1, hi1, rfl, hb4⟩
              have HS4 := Lib.hid (hs.out.then hb4)
              clear hb4 hs
              go_wp2_with fail
              refine (HA.out 0 840 (by simp [vtx]) _ HS4.out.pls).mono ?_
              rintro e w5 ⟨i2, hi2, rfl, hb5⟩
              have HS5 := Lib.hid (HS4.out.then hb5)
              clear hb5 HS4
              go_wp2_with fail
              refine (HA.out 0 0 (by simp [vtx]) _ HS5.out.pls).mono ?_
              rintro e w6 ⟨i3, hi3, rfl, hb6⟩
              have HS6 := Lib.hid (HS5.out.then hb6)
              clear hb6 HS5
              go_wp2_with fail
              refine (cell_any i1 i2 i3 hi1 hi2 hi3 w6).mono ?_
              rintro e w7 ⟨x, y, z, rfl, hx, hy, hz, hb7⟩
              have HS7 := Lib.hid (HS6.out.then hb7)
              clear hb7 HS6
              go_wp2_with fail
              refine (insert_any ov base (k + 0) x y z hx hy hz (by omega) w7 HS7.out.own HS7.out.size).mono ?_
              rintro e w8 ⟨v', rfl, ho8, hb8⟩
              have HS8 := Lib.hid (HS7.out.next ho8 hb8)
              clear ho8 hb8 HS7 hx hy hz hi1 hi2 hi3
              go_wp2_with fail
              go_roundw
              case rel => exact ⟨1, v', rfl, .inr ⟨rfl, rfl⟩, HS8⟩
              case measure => simp [intOf]
            · go_wp2_with fail
              go_roundw
              case rel => exact ⟨1, ov, rfl, .inr ⟨rfl, rfl⟩, hs⟩
              case measure => simp [intOf]
        · go_wp2_with fail
          go_roundw
          case rel => exact ⟨k + 1, ov, rfl, by go_num, by omega, hs⟩
          case measure => simp [intOf]; omega
    · obtain rfl : k = 20 := by omega
      obtain ⟨oa, oc, hov⟩ := hs.out.own.slice
      go_wp2_with fail
      refine bodyPost_ret (v := .tuple #[ov, .int .i64 0]) (by simp [results, Tryz.results80, go_sem]) rfl ?_
      refine ⟨ov, rfl, ?_, hs.out.below⟩
      obtain ⟨h0, cs, ⟨h1, h2⟩, h3⟩ := hs.out.own
      refine ⟨h0, cs, ⟨h1, ?_⟩, h3⟩
      rcases h2 with h2 | ⟨g', cap', cur, e, hg', r⟩
      · exact Or.inl h2
      · exact Or.inr ⟨g', cap', cur, e, Nat.le_trans hs.out.base hg', r⟩
end Go.Proofs.YtmmmebdgannpgaaGreatDoor
/- Slices of small ints: cut, and one appended to another that is full. -/
namespace Go.Proofs.YtmmmebdgannpgaaGreatDoor
open Go Go.RowKit

/-- v is a slice of n small ints, in a block that is not H. -/
def SmSl (w : World) (H : Nat) (v : Value) (n : Nat) : Prop := ∃ (a : Option Addr) (c : Nat) (cs : List Value), v = .slice a n c ∧ n ≤ c ∧ c ≤ 9223372036854775807 ∧ cs.length = n ∧ (∀ u ∈ cs, Sm u) ∧
  (0 < n → ∃ ab ao : Nat, a = some ⟨ab, ao, none⟩ ∧ ab ≠ H ∧ ∀ j u, cs[j]? = some u → w.cell? ⟨ab, ao + j, none⟩ = some u) ∧ (a = none ∨ ∃ ab ao : Nat, a = some ⟨ab, ao, none⟩)
theorem SmSl.nil (w : World) (H : Nat) : SmSl w H (.slice none 0 0) 0 := ⟨none, 0, [], rfl, Nat.le_refl _, by omega, rfl, by simp, fun h => by omega, Or.inl rfl⟩
theorem SmSl.kept {w w' : World} {H : Nat} {v : Value} {n : Nat} (h : SmSl w H v n) (hk : ∀ k, k < w.heap.size → k ≠ H → w'.heap[k]? = w.heap[k]?) : SmSl w' H v n := by
  obtain ⟨a, c, cs, e, h1, h2, h3, h4, h5, h6⟩ := h
  refine ⟨a, c, cs, e, h1, h2, h3, h4, fun h0 => ?_, h6⟩
  obtain ⟨ab, ao, ea, hn, hc⟩ := h5 h0
  refine ⟨ab, ao, ea, hn, fun j u hj => ?_⟩
  have := hc j u hj
  rw [World.cell?_of_block (w := w) (hk ab (World.block_lt_of_cell? _ _ this) hn)]
  exact this
theorem SmSl.below {w w' : World} {H : Nat} {v : Value} {n : Nat} (h : SmSl w H v n) (hb : Below w.heap.size w w') : SmSl w' H v n := h.kept fun k hk _ => hb.block k hk
theorem SmSl.src {w : World} {H : Nat} {v : Value} {n : Nat} (h : SmSl w H v n) : ∃ cs : List Value, cs.length = n ∧ (∀ u ∈ cs, Sm u) ∧ Src Tryz.prog 1 34 v n cs w ∧ (n = 0 → cs = []) := by
  obtain ⟨a, c, cs, rfl, h1, h2, h3, h4, h5, h6⟩ := h
  have h1c : ∀ u ∈ cs, u.oneCell' = true := by intro u hu; obtain ⟨z, _, _, rfl⟩ := h4 u hu; rfl
  refine ⟨cs, h3, h4, ?_, fun h0 => List.eq_nil_of_length_eq_zero (by omega)⟩
  rcases h6 with rfl | ⟨ab, ao, rfl⟩
  · rcases Nat.eq_zero_or_pos n with h0 | h0
    · subst h0
      obtain rfl := List.eq_nil_of_length_eq_zero h3
      exact Src.ofNil w Tryz.underlying34 c
    · obtain ⟨_, _, e, _⟩ := h5 h0
      cases e
  · refine Src.ofSlice w Tryz.underlying34 ⟨ab, ao, none⟩ n c cs (by omega) (fun j u hj => ?_) h1c
    have h0 : 0 < n := by have := (List.getElem?_eq_some_iff.1 hj).1; omega
    obtain ⟨ab', ao', e, _, hc⟩ := h5 h0
    obtain ⟨rfl, rfl⟩ : ab = ab' ∧ ao = ao' := by simpa using e
    rw [Go.WideShapes.add_plain]; exact hc j u hj
theorem intinfo : (Tryz.prog.info? 3).map (fun i => (i.zero, i.size, i.bytes)) = some (some (.int .i64 0), 1, 8) := by kernel_rfl
/-- append(v, x...) where v is full. -/
theorem sm_append {w : World} {H : Nat} {v x : Value} {n m : Nat} (hv : SmSl w H v n) (hf : ∃ a, v = .slice a n n) (hx : SmSl w H x m) (hH : H < w.heap.size) (hn : n + m ≤ 100000) (ty : TypeId) :
    ∃ v' w', (Builtin.append_ #[34, 34] ty #[v, x]).run Tryz.prog w = .ok v' w' ∧ SmSl w' H v' (n + m) ∧ Below w.heap.size w w' := by
  obtain ⟨i0, hi, hz0, hz1, hz2⟩ := info_parts intinfo
  obtain ⟨xs, hxl, hxs, hsrc, hx0⟩ := hx.src
  obtain ⟨a, rfl⟩ := hf
  rcases Nat.eq_zero_or_pos m with h0 | h0
  · subst h0
    obtain rfl := hx0 rfl
    refine ⟨_, _, run_append_nothing w _ _ ty _ i0 Tryz.underlying34 hi a n n (Nat.le_refl _) x (by rw [hz1]; exact hsrc), hv, Below.refl _ _⟩
  · have hsrc2 := hsrc
    obtain ⟨a', c, cs, e, h1, h2, h3, h4, h5, h6⟩ := hv
    obtain ⟨rfl, rfl⟩ : a = a' ∧ n = c := by simpa using e
    have hold : (Builtin.firstCells i0.size n (.slice a n n)).run Tryz.prog w.drew = .ok cs.toArray w.drew := by
      rw [hz1]
      rcases Nat.eq_zero_or_pos n with hn0 | hn0
      · subst hn0
        obtain rfl := List.eq_nil_of_length_eq_zero h3
        rcases h6 with rfl | ⟨ab, ao, rfl⟩
        · exact run_firstCells_none w.drew 1 0 0 0
        · exact run_firstCells_some w.drew 1 0 ⟨ab, ao, none⟩ 0 0 [] (by simp) (fun j u hj => by simp at hj)
      · obtain ⟨ab, ao, rfl, hne, hc⟩ := h5 hn0
        exact run_firstCells_some w.drew 1 n ⟨ab, ao, none⟩ n n cs (by omega) (fun j u hj => by rw [Go.WideShapes.add_plain]; exact hc j u hj)
    have hrun := run_append_grow_src (P := Tryz.prog) w 34 34 ty 3 i0 (.int .i64 0) Tryz.underlying34 hi hz0 a n n cs hold x m xs (by rw [hz1]; exact hsrc) (by omega) (by omega) (growslice_fits (by omega) (by rw [hz2]; omega))
    have hge := grownCap_ge w (n + m) n 3
    have hcm := grownCap_le_maxLen w (n + m) n 3 (by unfold maxLen; omega)
    refine ⟨_, _, hrun, ⟨_, _, cs ++ xs, rfl, hge, by unfold maxLen at hcm; omega, by rw [List.length_append]; omega, fun u hu => ?_, fun _ => ⟨w.heap.size, 0, rfl, by omega, fun j u hj => ?_⟩, Or.inr ⟨_, _, rfl⟩⟩, (Below.refl _ _).drew.alloc (Nat.le_refl _) _⟩
    · rcases List.mem_append.1 hu with hu | hu
      · exact h4 u hu
      · exact hxs u hu
    · have hjl := (List.getElem?_eq_some_iff.1 hj).1
      have hg : (w.drew.alloc (.cells ((cs ++ xs).toArray ++ Builtin.zeroCells (Value.int .i64 0).cells (grownCap w (n + m) n 3 - (n + m))) 3)).heap[w.heap.size]? = some (.cells ((cs ++ xs).toArray ++ Builtin.zeroCells (Value.int .i64 0).cells (grownCap w (n + m) n 3 - (n + m))) 3 (0, 0)) := heap_alloc_new w.drew _
      rw [Nat.zero_add]
      simp only [World.cell?, hg]
      rw [Array.getElem?_append_left (by simpa using hjl)]
      simpa using hj
/-- The rest of a slice from the k-th on. -/
theorem SmSl.drop {w : World} {H : Nat} {a : Option Addr} {n c : Nat} (h : SmSl w H (.slice a n c) n) (k : Nat) (hk : k ≤ n) (A : Option Addr) (hA : k < n → ∀ ab ao : Nat, a = some ⟨ab, ao, none⟩ → A = some ⟨ab, ao + k, none⟩) (hA2 : A = none ∨ ∃ ab ao : Nat, A = some ⟨ab, ao, none⟩) : SmSl w H (.slice A (n - k) (c - k)) (n - k) := by
  obtain ⟨a', c', cs, e, h1, h2, h3, h4, h5, h6⟩ := h
  obtain ⟨rfl, rfl⟩ : a = a' ∧ c = c' := by simpa using e
  refine ⟨A, c - k, cs.drop k, rfl, by omega, by omega, by rw [List.length_drop]; omega, fun u hu => h4 u (List.mem_of_mem_drop hu), fun h0 => ?_, hA2⟩
  obtain ⟨ab, ao, ea, hn, hc⟩ := h5 (by omega)
  refine ⟨ab, ao + k, hA (by omega) ab ao ea, hn, fun j u hj => ?_⟩
  rw [List.getElem?_drop] at hj
  have := hc (k + j) u hj
  rwa [← Nat.add_assoc] at this
/-- The first k, and no room behind them. -/
theorem SmSl.take {w : World} {H : Nat} {a : Option Addr} {n c : Nat} (h : SmSl w H (.slice a n c) n) (k : Nat) (hk : k ≤ n) : SmSl w H (.slice a k k) k := by
  obtain ⟨a', c', cs, e, h1, h2, h3, h4, h5, h6⟩ := h
  obtain ⟨rfl, rfl⟩ : a = a' ∧ c = c' := by simpa using e
  refine ⟨a, k, cs.take k, rfl, Nat.le_refl _, by omega, by rw [List.length_take]; omega, fun u hu => h4 u (List.mem_of_mem_take hu), fun h0 => ?_, h6⟩
  obtain ⟨ab, ao, ea, hn, hc⟩ := h5 (by omega)
  refine ⟨ab, ao, ea, hn, fun j u hj => ?_⟩
  have hjk : j < k := by have := (List.getElem?_eq_some_iff.1 hj).1; rw [List.length_take] at this; omega
  rw [List.getElem?_take_of_lt hjk] at hj
  exact hc j u hj
theorem SmSl.at {w : World} {H : Nat} {a : Option Addr} {n c : Nat} (h : SmSl w H (.slice a n c) n) (j : Nat) (hj : j < n) : ∃ (ab ao : Nat) (z : Int), a = some ⟨ab, ao, none⟩ ∧ 0 ≤ z ∧ z < 12 ∧ w.cell? ⟨ab, ao + j, none⟩ = some (.int .i64 z) := by
  obtain ⟨a', c', cs, e, h1, h2, h3, h4, h5, h6⟩ := h
  obtain ⟨rfl, rfl⟩ : a = a' ∧ c = c' := by simpa using e
  obtain ⟨ab, ao, ea, hn, hc⟩ := h5 (by omega)
  have hjl : j < cs.length := by omega
  obtain ⟨z, z0, z1, hz⟩ := h4 _ (List.getElem_mem hjl)
  exact ⟨ab, ao, z, ea, z0, z1, by rw [hc j _ (List.getElem?_eq_getElem hjl), hz]⟩
/-- The lists of neighbours: twelve slices of small ints, none longer than t. -/
def Ar (w : World) (H t : Nat) : Prop := H < w.heap.size ∧ ∀ i, i < 12 → w.frozen? ⟨H, i, none⟩ = false ∧ ∃ (a : Option Addr) (n c : Nat), n ≤ t ∧ w.cell? ⟨H, i, none⟩ = some (.slice a n c) ∧ SmSl w H (.slice a n c) n
theorem Ar.below {w w' : World} {H t : Nat} (h : Ar w H t) (hb : Below w.heap.size w w') : Ar w' H t := by
  refine ⟨Nat.lt_of_lt_of_le h.1 hb.size, fun i hi => ?_⟩
  obtain ⟨hf, a, n, c, hn, hc, hs⟩ := h.2 i hi
  exact ⟨by rw [hb.frozen (p := ⟨H, i, none⟩) h.1]; exact hf, a, n, c, hn, cell_then hb hc, hs.below hb⟩
theorem Ar.mono {w : World} {H t u : Nat} (h : Ar w H t) (hu : t ≤ u) : Ar w H u := by
  refine ⟨h.1, fun i hi => ?_⟩
  obtain ⟨hf, a, n, c, hn, r⟩ := h.2 i hi
  exact ⟨hf, a, n, c, by omega, r⟩
theorem Ar.set {w : World} {H t i n c : Nat} {a : Option Addr} (h : Ar w H t) (hn : n ≤ t) (hs : SmSl w H (.slice a n c) n) (hi : i < 12) : Ar (w.setCell ⟨H, i, none⟩ (.slice a n c)) H t := by
  have hk : ∀ k, k < w.heap.size → k ≠ H → (w.setCell ⟨H, i, none⟩ (.slice a n c)).heap[k]? = w.heap[k]? := fun k _ hne => Below.heap_setCell _ _ _ _ (by simp; exact hne)
  refine ⟨by simp [World.setCell]; exact h.1, fun j hj => ?_⟩
  obtain ⟨hf, a', n', c', hn', hc', hs'⟩ := h.2 j hj
  refine ⟨by simpa using hf, ?_⟩
  by_cases hij : j = i
  · subst hij
    exact ⟨a, n, c, hn, World.cell?_setCell_same _ _ _ hc', hs.kept hk⟩
  · exact ⟨a', n', c', hn', by rw [World.cell?_setCell_other _ _ _ _ (by simp <;> omega)]; exact hc', hs'.kept hk⟩
end Go.Proofs.YtmmmebdgannpgaaGreatDoor
/- A region that draws, whose slots lie in two stretches. No program. -/
namespace Go.Proofs.YtmmmebdgannpgaaGreatDoor
open Go Go.RowKit

section
variable {P : Program} {ops : Array Oper} {Q : Exit → Act → World → Prop}
def slotsB2 (ops : Array Oper) (lo n lo2 n2 : Nat) : Bool := (List.range ops.size).all fun k => match ops[k]? with
  | some o => (match o.dst with | some t => (decide (lo ≤ t) && decide (t < lo + n)) || (decide (lo2 ≤ t) && decide (t < lo2 + n2)) | none => true)
  | none => true
theorem sameAct_mix2 {a0 a : Act} (h : SameAct ops a0 a) {lo n lo2 n2 : Nat} (hs : slotsB2 ops lo n lo2 n2 = true) : a = ⟨(mixL (fun k => a.tmps.getD k undef) lo2 n2 0 (mixL (fun k => a.tmps.getD k undef) lo n 0 a0.tmps.toList)).toArray, a0.defers⟩ := by
  obtain ⟨h1, h2, h3⟩ := h
  obtain ⟨tm, df⟩ := a
  simp only at h1 h2 h3 ⊢
  subst h1
  congr 1
  apply Array.ext'
  apply List.ext_getElem?
  intro i
  rw [mixL_get, mixL_get]
  simp only [Array.getElem?_toList, Nat.zero_add]
  by_cases hi : i < tm.size
  · have hi0 : i < a0.tmps.size := by omega
    rw [Array.getElem?_eq_getElem hi, Array.getElem?_eq_getElem hi0]
    simp only [Option.map_some]
    congr 1
    by_cases hr : lo2 ≤ i ∧ i < lo2 + n2
    · rw [if_pos hr]; simp [hi]
    · rw [if_neg hr]
      by_cases hr2 : lo ≤ i ∧ i < lo + n
      · rw [if_pos hr2]; simp [hi]
      · rw [if_neg hr2]
        have := h3 i (fun k o ho hd => by
          have hk := (Array.getElem?_eq_some_iff.1 ho).1
          have hq := List.all_eq_true.1 hs k (List.mem_range.2 hk)
          rw [ho] at hq
          simp only [hd, Bool.and_eq_true, Bool.or_eq_true, decide_eq_true_eq] at hq
          rcases hq with hq | hq
          · exact hr2 hq
          · exact hr hq)
        simpa [hi, hi0] using this
  · rw [Array.getElem?_eq_none (by omega), Array.getElem?_eq_none (by omega)]; rfl
theorem wp_region_slots2 {id : Nat} {a0 : Act} {w0 : World} (hm : P.follows .mixedOrders = true) (N : Nat) (hN : a0.tmps.size = N) (hd : distB ops N = true) (hb : backC ops = true) (lo n lo2 n2 : Nat) (hs : slotsB2 ops lo n lo2 n2 = true)
    (S : (Nat → Bool) → World → Prop) (F : Nat → Value → World → Prop) (hS0 : S (fun _ => false) w0.drew)
    (hop : AllHops (HopAt P ops Q a0 S F) 0 ops.toList)
    (hend : ∀ (u : Nat → Value) (w : World) (d : Nat → Bool), (∀ k, k < ops.size → d k = true) → S d w → (∀ (k : Nat) (o : Oper), ops[k]? = some o → F k (match o.dst with | some t => u t | none => undef) w) →
      Q .normal ⟨(mixL u lo2 n2 0 (mixL u lo n 0 a0.tmps.toList)).toArray, a0.defers⟩ w) : (Code.region id ops true).wp P Q a0 w0 := by
  refine wp_region_phase hm N hN hd hb S F hS0 hop fun a w d h1 h2 h3 h4 => ?_
  rw [sameAct_mix2 h3 hs]
  refine hend _ w d h1 h2 fun k o ho => ?_
  exact h4 k o ho
end
end Go.Proofs.YtmmmebdgannpgaaGreatDoor
/- The reference's grid of frequency one: who lies around whom. -/
namespace Go.Proofs.YtmmmebdgannpgaaGreatDoor
open Go Go.RowKit

/-- All blocks but H stand. -/
def Cl (w : World) (g n : Nat) : Prop := ∀ i, i < n → ∃ z : Int, 0 ≤ z ∧ z < 12 ∧ w.cell? ⟨g, i, none⟩ = some (.int .i64 z)
structure ArS (w wr : World) (H g t : Nat) : Prop where
  ar : Ar wr H t
  cl : Cl wr g 60
  low : g < H
  below : Below w.heap.size w wr
  base : w.heap.size ≤ H
def nils : Array Value := #[.slice none 0 0, .slice none 0 0, .slice none 0 0, .slice none 0 0, .slice none 0 0, .slice none 0 0, .slice none 0 0, .slice none 0 0, .slice none 0 0, .slice none 0 0, .slice none 0 0, .slice none 0 0]
theorem mk12 (w : World) : (Instr.makeSlice 104 (.int .i64 12) (.int .i64 12)).run Tryz.prog w = .ok (.slice (some ⟨w.heap.size, 0, none⟩) 12 12) (w.alloc (.cells nils 34)) := by kernel_rfl
theorem Ar.fresh (w : World) : Ar (w.alloc (.cells nils 34)) w.heap.size 0 := by
  refine ⟨by simp, fun i hi => ?_⟩
  have hh : (w.alloc (.cells nils 34)).heap[w.heap.size]? = some (.cells nils 34 (0, 0)) := heap_alloc_new w _
  refine ⟨by unfold World.frozen?; simp only [hh]; simp, none, 0, 0, Nat.le_refl _, ?_, SmSl.nil _ _⟩
  simp only [World.cell?, hh]
  have : i = 0 ∨ i = 1 ∨ i = 2 ∨ i = 3 ∨ i = 4 ∨ i = 5 ∨ i = 6 ∨ i = 7 ∨ i = 8 ∨ i = 9 ∨ i = 10 ∨ i = 11 := by omega
  rcases this with rfl | rfl | rfl | rfl | rfl | rfl | rfl | rfl | rfl | rfl | rfl | rfl <;> rfl
theorem Cl.below {w w' : World} {g n : Nat} (h : Cl w g n) (hb : Below w.heap.size w w') : Cl w' g n := fun i hi => by
  obtain ⟨z, z0, z1, hz⟩ := h i hi
  exact ⟨z, z0, z1, cell_then hb hz⟩
theorem box2 (w : World) (m : Nat) (q : Int) (t : TypeId) : (w.alloc (.cells #[.int .i64 m, .int .i64 q] t)).cell? ⟨w.heap.size, 0, none⟩ = some (.int .i64 m) ∧ (w.alloc (.cells #[.int .i64 m, .int .i64 q] t)).cell? ⟨w.heap.size, 1, none⟩ = some (.int .i64 q) := by
  have hh : ∀ A, (w.alloc (.cells A t)).heap[w.heap.size]? = some (.cells A t (0, 0)) := fun A => heap_alloc_new w _
  simp only [World.cell?, hh]
  exact ⟨rfl, rfl⟩
theorem belowN {w w' : World} {b : Nat} (h : Below b w w') (n : Nat) : Below b w (w'.drewN n) := by
  exact ⟨h.os, h.tape, h.output, h.size, h.block⟩
theorem ArS.then {w wr w' : World} {H g t : Nat} (h : ArS w wr H g t) (hb : Below wr.heap.size wr w') : ArS w w' H g t := ⟨h.ar.below hb, h.cl.below hb, h.low, below_then h.below hb, h.base⟩
theorem ArS.more {w wr : World} {H g t u : Nat} (h : ArS w wr H g t) (hu : t ≤ u) : ArS w wr H g u := ⟨h.ar.mono hu, h.cl, h.low, h.below, h.base⟩
theorem Cl.pairs (w : World) (x y z : Int) (hx : 0 ≤ x ∧ x < 12) (hy : 0 ≤ y ∧ y < 12) (hz : 0 ≤ z ∧ z < 12) (t : TypeId) : Cl (w.alloc (.cells #[.int .i64 x, .int .i64 y, .int .i64 x, .int .i64 z, .int .i64 y, .int .i64 z, .int .i64 y, .int .i64 x, .int .i64 z, .int .i64 x, .int .i64 z, .int .i64 y] t)) w.heap.size 12 := by
  intro i hi
  have hh : ∀ A, (w.alloc (.cells A t)).heap[w.heap.size]? = some (.cells A t (0, 0)) := fun A => heap_alloc_new w _
  simp only [World.cell?, hh]
  have : i = 0 ∨ i = 1 ∨ i = 2 ∨ i = 3 ∨ i = 4 ∨ i = 5 ∨ i = 6 ∨ i = 7 ∨ i = 8 ∨ i = 9 ∨ i = 10 ∨ i = 11 := by omega
  rcases this with rfl | rfl | rfl | rfl | rfl | rfl | rfl | rfl | rfl | rfl | rfl | rfl
  · exact ⟨x, hx.1, hx.2, rfl⟩
  · exact ⟨y, hy.1, hy.2, rfl⟩
  · exact ⟨x, hx.1, hx.2, rfl⟩
  · exact ⟨z, hz.1, hz.2, rfl⟩
  · exact ⟨y, hy.1, hy.2, rfl⟩
  · exact ⟨z, hz.1, hz.2, rfl⟩
  · exact ⟨y, hy.1, hy.2, rfl⟩
  · exact ⟨x, hx.1, hx.2, rfl⟩
  · exact ⟨z, hz.1, hz.2, rfl⟩
  · exact ⟨x, hx.1, hx.2, rfl⟩
  · exact ⟨z, hz.1, hz.2, rfl⟩
  · exact ⟨y, hy.1, hy.2, rfl⟩
theorem Cl.kept {w w' : World} {H g n : Nat} (h : Cl w g n) (hk : ∀ k, k < w.heap.size → k ≠ H → w'.heap[k]? = w.heap[k]?) (hg : g ≠ H) : Cl w' g n := fun i hi => by
  obtain ⟨z, z0, z1, hz⟩ := h i hi
  refine ⟨z, z0, z1, ?_⟩
  rw [World.cell?_of_block (w := w) (hk g (World.block_lt_of_cell? _ _ hz) hg)]
  exact hz
theorem run_from {w : World} (a : Option Addr) (n cc k : Nat) (hk : k ≤ n) : (Instr.sliceAt 34 (.slice a n cc) (some (.int .i64 (k : Int))) none none).run Tryz.prog w = .ok (.slice (if cc = k then a else a.map (·.add k)) (n - k) (cc - k)) w := by
  have h0 : (k : Int) ≤ (n : Int) := by omega
  simp [Instr.sliceAt, Instr.sliceBounds, go_sem, h0]
theorem run_to {w : World} (a : Option Addr) (n cc k : Nat) (hk : k ≤ n) (hn : n ≤ cc) : (Instr.sliceAt 34 (.slice a n cc) none (some (.int .i64 (k : Int))) (some (.int .i64 (k : Int)))).run Tryz.prog w = .ok (.slice a k k) w := by
  have h0 : (k : Int) ≤ (cc : Int) := by omega
  simp [Instr.sliceAt, Instr.sliceBounds, go_sem, h0]
theorem run_lit {w : World} (q : Int) : (Instr.buildSlice 34 1 #[(0, .int .i64 q)]).run Tryz.prog w = .ok (.slice (some ⟨w.heap.size, 0, none⟩) 1 1) (w.alloc (.cells #[.int .i64 q] 3)) := by
  simp [Instr.buildSlice, go_sem]
theorem sm_from {w : World} {H n cc : Nat} {a : Option Addr} (h : SmSl w H (.slice a n cc) n) (hcc : n ≤ cc) (k : Nat) (hk : k ≤ n) : SmSl w H (.slice (if cc = k then a else a.map (·.add k)) (n - k) (cc - k)) (n - k) := by
  refine h.drop k hk _ (fun h1 ab ao e => ?_) ?_
  · subst e
    rw [if_neg (by omega)]
    simp [Go.WideShapes.add_plain]
  · obtain ⟨a', _, _, e, _, _, _, _, _, h6⟩ := h
    obtain ⟨rfl, _⟩ : a = a' ∧ _ := by simpa using e
    rcases h6 with rfl | ⟨ab, ao, rfl⟩
    · left; split <;> rfl
    · right
      by_cases hc : cc = k
      · rw [if_pos hc]; exact ⟨_, _, rfl⟩
      · rw [if_neg hc]; exact ⟨_, _, by simp [Go.WideShapes.add_plain]; exact ⟨rfl, rfl⟩⟩
theorem sm_lit {w : World} {H : Nat} (hH : H < w.heap.size) (q : Int) (hq : 0 ≤ q ∧ q < 12) : SmSl (w.alloc (.cells #[.int .i64 q] 3)) H (.slice (some ⟨w.heap.size, 0, none⟩) 1 1) 1 := by
  have hh : (w.alloc (.cells #[.int .i64 q] 3)).heap[w.heap.size]? = some (.cells #[.int .i64 q] 3 (0, 0)) := heap_alloc_new w _
  refine ⟨_, 1, [.int .i64 q], rfl, Nat.le_refl _, by omega, rfl, by rintro u hu; simp at hu; subst hu; exact ⟨q, hq.1, hq.2, rfl⟩, fun _ => ⟨w.heap.size, 0, rfl, by omega, fun j u hj => ?_⟩, Or.inr ⟨_, _, rfl⟩⟩
  simp only [World.cell?, hh]
  match j, hj with
  | 0, hj => simpa using hj
  | j + 1, hj => simp at hj
def FN3 (H B m k n cc : Nat) (a : Option Addr) (q : Int) (ix : Nat) (v : Value) (w : World) : Prop := match ix with
  | 0 => v = .pointer (some ⟨B, 1, none⟩)
  | 1 => v = .int .i64 q
  | 2 => SmSl w H v 1 ∧ ∃ A, v = .slice A 1 1
  | 3 => v = .slice (some ⟨H, 0, none⟩) 12 12
  | 4 => v = .pointer (some ⟨B, 0, none⟩)
  | 5 => v = .int .i64 m
  | 6 => v = .pointer (some ⟨H, m, none⟩)
  | 7 => v = .slice a n cc
  | 8 => v = .int .i64 k
  | 9 => SmSl w H v (n - k)
  | 10 => SmSl w H v (1 + (n - k))
  | 11 => SmSl w H v (1 + (n - k))
  | _ => True
def FN4 (H B m k n cc : Nat) (a : Option Addr) (rv : Value) (ix : Nat) (v : Value) (w : World) : Prop := match ix with
  | 0 => v = .slice (some ⟨H, 0, none⟩) 12 12
  | 1 => v = .pointer (some ⟨B, 0, none⟩)
  | 2 => v = .int .i64 m
  | 3 => v = .slice (some ⟨H, 0, none⟩) 12 12
  | 4 => v = .pointer (some ⟨B, 0, none⟩)
  | 5 => v = .int .i64 m
  | 6 => v = .pointer (some ⟨H, m, none⟩)
  | 7 => v = .slice a n cc
  | 8 => v = .int .i64 k
  | 9 => v = .int .i64 k
  | 10 => SmSl w H v k ∧ ∃ A, v = .slice A k k
  | 11 => v = rv
  | 12 => SmSl w H v (k + (1 + (n - k)))
  | 13 => v = .pointer (some ⟨H, m, none⟩)
  | _ => True
/-- All blocks but H stand. -/
def KeptBut (H : Nat) (w w' : World) : Prop := w.heap.size ≤ w'.heap.size ∧ ∀ k, k < w.heap.size → k ≠ H → w'.heap[k]? = w.heap[k]?
theorem KeptBut.trans {H : Nat} {w w' w2 : World} (h : KeptBut H w w') (g : KeptBut H w' w2) : KeptBut H w w2 := ⟨Nat.le_trans h.1 g.1, fun k hk hn => (g.2 k (Nat.lt_of_lt_of_le hk h.1) hn).trans (h.2 k hk hn)⟩
theorem KeptBut.of {H : Nat} {w w' : World} (h : Below w.heap.size w w') : KeptBut H w w' := ⟨h.size, fun k hk _ => h.block k hk⟩
theorem KeptBut.set (H : Nat) (w : World) (o : Nat) (v : Value) : KeptBut H w (w.setCell ⟨H, o, none⟩ v) := ⟨by simp [World.setCell], fun k _ hne => Below.heap_setCell _ _ _ _ (by simp; exact hne)⟩
theorem KeptBut.cell {H : Nat} {w w' : World} (h : KeptBut H w w') {b o : Nat} {v : Value} (hc : w.cell? ⟨b, o, none⟩ = some v) (hb : b ≠ H) : w'.cell? ⟨b, o, none⟩ = some v := by
  rw [World.cell?_of_block (w := w) (h.2 b (World.block_lt_of_cell? _ _ hc) hb)]
  exact hc
theorem FN3.kept {H B m k n cc : Nat} {a : Option Addr} {q : Int} {w w' : World} (h : KeptBut H w w') (ix : Nat) (v : Value) (hF : FN3 H B m k n cc a q ix v w) : FN3 H B m k n cc a q ix v w' := by
  unfold FN3 at hF ⊢
  split at hF
  all_goals first | exact hF | exact ⟨hF.1.kept h.2, hF.2⟩ | exact SmSl.kept hF h.2
theorem FN4.kept {H B m k n cc : Nat} {a : Option Addr} {rv : Value} {w w' : World} (h : KeptBut H w w') (ix : Nat) (v : Value) (hF : FN4 H B m k n cc a rv ix v w) : FN4 H B m k n cc a rv ix v w' := by
  unfold FN4 at hF ⊢
  split at hF
  all_goals first | exact hF | exact ⟨hF.1.kept h.2, hF.2⟩ | exact SmSl.kept hF h.2
end Go.Proofs.YtmmmebdgannpgaaGreatDoor
/- The reference's grid of frequency one: around. -/
namespace Go.Proofs.YtmmmebdgannpgaaGreatDoor
open Go Go.RowKit

set_option maxHeartbeats 16000000 in
set_option maxRecDepth 100000 in
theorem around_any (w : World) :
    Calls Tryz.prog 65 #[.int .i64 1] w fun e w' => ∃ H : Nat, e = .returned (.slice (some ⟨H, 0, none⟩) 12 12) ∧ Ar w' H 120 ∧ Below w.heap.size w w' ∧ w.heap.size ≤ H := by
  go_enter Tryz.func65, Tryz.ntmps65
  go_wp2_with fail
  refine (cells_any _).mono ?_
  rintro e w1 ⟨v, rfl, hown, hb1⟩
  obtain ⟨g, cap, rfl, hg, hcap, hcm, hc⟩ := hown.at (by omega)
  have HC : Hid (20 ≤ cap ∧ cap ≤ 9223372036854775807) := ⟨hcap, hcm⟩
  have HCl : Hid (Cl w1 g 60) := hc
  have HB1 := Lib.hid hb1
  clear hown hcap hcm hc hg hb1
  go_wp2_with fail
  refine (count_any _).mono ?_
  rintro e w2 ⟨rfl, rfl⟩
  have hmk := mk12
  go_wp2_with fail
  have HS : Hid (ArS w (w1.alloc (.cells nils 34)) w1.heap.size g 0) := ⟨Ar.fresh w1, HCl.out.below ((Below.refl _ _).alloc (Nat.le_refl _) _), by
    obtain ⟨_, _, _, h⟩ := HCl.out 0 (by omega)
    exact World.block_lt_of_cell? _ _ h, HB1.out.alloc HB1.out.size _, HB1.out.size⟩
  obtain ⟨H, hH⟩ : ∃ H, H = w1.heap.size := ⟨_, rfl⟩
  rw [← hH] at HS ⊢
  generalize w1.alloc (.cells nils 34) = w2 at HS ⊢
  clear hH HCl HB1 hmk
  go_loopw [22] (fun kv wr => ∃ c : Nat, c ≤ 20 ∧ kv = .int .i64 c ∧ Hid (ArS w wr H g (6 * c))) (fun kv _ => (20 - intOf kv).toNat)
  case atStart => exact ⟨0, by omega, rfl, HS⟩
  case round =>
    clear HS
    obtain ⟨c, hc, rfl, hs⟩ := hrel
    by_cases hlt : c < 20
    · have c0 : (c : Int) < 20 := by omega
      obtain ⟨x, x0, x1, hx⟩ := hs.out.cl (c * 3) (by omega)
      obtain ⟨y, y0, y1, hy⟩ := hs.out.cl (c * 3 + 1) (by omega)
      obtain ⟨z, z0, z1, hz⟩ := hs.out.cl (c * 3 + 2) (by omega)
      go_wp2_with fail
      have HS3 : Hid (ArS w _ H g (6 * c)) := hs.out.then (((Below.refl _ _).alloc (Nat.le_refl _) (.cells #[.int .i64 x, .int .i64 y, .int .i64 z] 128)).alloc (by simp) (.cells #[.int .i64 x, .int .i64 y, .int .i64 x, .int .i64 z, .int .i64 y, .int .i64 z, .int .i64 y, .int .i64 x, .int .i64 z, .int .i64 x, .int .i64 z, .int .i64 y] 129))
      have HP3 : Hid (Cl _ _ 12) := Cl.pairs (wr.alloc (.cells #[.int .i64 x, .int .i64 y, .int .i64 z] 128)) x y z ⟨x0, x1⟩ ⟨y0, y1⟩ ⟨z0, z1⟩ 129
      have HPH : Hid ((wr.alloc (.cells #[.int .i64 x, .int .i64 y, .int .i64 z] 128)).heap.size ≠ H) := by
        have := hs.out.ar.1
        unfold Hid; simp; omega
      obtain ⟨PB, hPB⟩ : ∃ PB, PB = (wr.alloc (.cells #[.int .i64 x, .int .i64 y, .int .i64 z] 128)).heap.size := ⟨_, rfl⟩
      have hPB' : PB = wr.heap.size + 1 := by rw [hPB]; simp
      rw [← hPB] at HP3 HPH
      try rw [← hPB']
      try rw [← hPB]
      generalize (wr.alloc (.cells #[.int .i64 x, .int .i64 y, .int .i64 z] 128)).alloc (.cells #[.int .i64 x, .int .i64 y, .int .i64 x, .int .i64 z, .int .i64 y, .int .i64 z, .int .i64 y, .int .i64 x, .int .i64 z, .int .i64 x, .int .i64 z, .int .i64 y] 129) = w3 at HS3 HP3 ⊢
      clear hPB hPB' hx hy hz hs x0 x1 y0 y1 z0 z1
      obtain ⟨wout, rfl⟩ : ∃ wout : World, wout = wr := ⟨_, rfl⟩
      go_loopw [58] (fun kv wr => ∃ i : Nat, i ≤ 6 ∧ kv = .int .i64 i ∧ Hid (ArS w wr H g (6 * c + i)) ∧ Hid (Cl wr PB 12)) (fun kv _ => (6 - intOf kv).toNat)
      case atStart => exact ⟨0, by omega, rfl, HS3, HP3⟩
      case round =>
        clear HS3 HP3
        obtain ⟨i, hi, rfl, hs, hp⟩ := hrel
        by_cases hil : i < 6
        · have i0 : (i : Int) < 6 := by omega
          obtain ⟨p, p0, p1, hp0⟩ := hp.out (i * 2) (by omega)
          obtain ⟨q, q0, q1, hq0⟩ := hp.out (i * 2 + 1) (by omega)
          obtain ⟨m, rfl⟩ := Int.eq_ofNat_of_zero_le p0
          go_upto_block 4 with fail
          have HBx : Hid (_ ∧ _) := box2 wr m q 129
          have HSi : Hid (ArS w _ H g (6 * c + i)) := hs.out.then ((Below.refl _ _).alloc (Nat.le_refl _) (.cells #[.int .i64 m, .int .i64 q] 129))
          have HPi : Hid (Cl _ PB 12) := hp.out.below ((Below.refl _ _).alloc (Nat.le_refl _) (.cells #[.int .i64 m, .int .i64 q] 129))
          have HBH : Hid (wr.heap.size ≠ H ∧ PB ≠ wr.heap.size) := by
            have h1 := hs.out.ar.1
            have h2 := World.block_lt_of_cell? _ _ hp0
            refine ⟨?_, ?_⟩
            · omega
            · simp at h2; omega
          obtain ⟨B, hB⟩ : ∃ B, B = wr.heap.size := ⟨_, rfl⟩
          rw [← hB] at HBx HBH ⊢
          generalize wr.alloc (.cells #[.int .i64 m, .int .i64 q] 129) = wi at HBx HSi HPi ⊢
          clear hp0 hq0 hs hp hB
          obtain ⟨wrr, rfl⟩ : ∃ wrr : World, wrr = wr := ⟨_, rfl⟩
          obtain ⟨hf, a, n, cc, hn, hcell, hsm⟩ := HSi.out.ar.2 m (by omega)
          have Hf := Lib.hid hf
          have Hn := Lib.hid hn
          have Hcell := Lib.hid hcell
          have Hsm := Lib.hid hsm
          have Hcc : Hid (n ≤ cc ∧ cc ≤ 9223372036854775807) := by
            obtain ⟨_, c', _, e, h1, h2, _⟩ := hsm
            obtain ⟨_, rfl⟩ : _ ∧ cc = c' := by simpa using e
            exact ⟨h1, h2⟩
          have hn' : n ≤ 200 := by omega
          clear hf hn hcell hsm
          go_cut [10] (fun kv wx => ∃ k : Nat, k ≤ n ∧ kv = .int .i64 k ∧ Below wi.heap.size wi wx)
          case first =>
            go_wp2_with fail
            go_loopw [10] (fun kv wr => ∃ k : Nat, k ≤ n ∧ kv = .int .i64 k ∧ Hid (Below wi.heap.size wi wr)) (fun kv _ => (1000 - intOf kv).toNat)
            case atStart => exact ⟨0, by omega, rfl, Below.refl _ _⟩
            case round =>
              obtain ⟨k, hk, rfl, hb⟩ := hrel
              have hB0 := cell_then hb.out HBx.out.1
              have hB1 := cell_then hb.out HBx.out.2
              have hA := cell_then hb.out Hcell.out
              by_cases hkn : k < n
              · obtain ⟨ab, ao, z, rfl, z0, z1, hz⟩ := Hsm.out.at k hkn
                have hz' := cell_then hb.out hz
                have k0 : (k : Int) < (n : Int) := by omega
                have k1 : (k : Int) ≤ 200 := by omega
                clear hz
                by_cases hzq : z < q
                · go_wp2_with fail
                  go_quiet (fail)
                  go_wp2_with fail
                  go_roundw
                  case rel => exact ⟨k + 1, by omega, by go_num, belowN hb.out _⟩
                  case measure => simp [intOf]; omega
                · have e0 : decide (z < q) = false := by simp; omega
                  have e1 : q ≤ z := by omega
                  go_wp2_with fail
                  go_quiet (fail)
                  go_wp2_with fail
                  go_meet
                  exact ⟨k, hk, rfl, belowN hb.out _⟩
              · obtain rfl : k = n := by omega
                have e0 : decide ((k : Int) < (k : Int)) = false := by simp
                go_wp2_with fail
                go_quiet (fail)
                go_wp2_with fail
                go_meet
                exact ⟨k, hk, rfl, belowN hb.out _⟩
          case rest =>
            obtain ⟨k, hk, rfl, hb⟩ := hcut
            have Hbc := Lib.hid hb
            have hB0 := cell_then hb HBx.out.1
            have hB1 := cell_then hb HBx.out.2
            have hA := cell_then hb Hcell.out
            clear hb
            go_upto_region 12 with fail
            go_cut [105] (fun bv wx => ∃ b : Bool, bv = .bool b ∧ Below wi.heap.size wi wx)
            case first =>
              by_cases hkn : k < n
              · obtain ⟨ab, ao, z, rfl, z0, z1, hz⟩ := Hsm.out.at k hkn
                have hz' := cell_then Hbc.out hz
                have k0 : (k : Int) < (n : Int) := by omega
                have k1 : (k : Int) ≤ 200 := by omega
                clear hz
                by_cases hzq : z = q
                · subst hzq
                  go_wp2_with fail
                  go_quiet (fail)
                  try go_wp2_with fail
                  go_meet
                  exact ⟨_, rfl, belowN Hbc.out _⟩
                · have e0 : (z == q) = false := by simpa using hzq
                  go_wp2_with fail
                  go_quiet (fail)
                  try go_wp2_with fail
                  go_meet
                  exact ⟨_, rfl, belowN Hbc.out _⟩
              · obtain rfl : k = n := by omega
                have e0 : decide ((k : Int) < (k : Int)) = false := by simp
                go_wp2_with fail
                go_quiet (fail)
                try go_wp2_with fail
                go_meet
                exact ⟨_, rfl, belowN Hbc.out _⟩
            case rest =>
              obtain ⟨b, rfl, hb⟩ := hcut
              clear Hbc hB0 hB1 hA
              have Hbc := Lib.hid hb
              cases b with
              | true =>
                go_wp2_with fail
                go_roundw
                case rel => exact ⟨i + 1, by omega, by go_num, (HSi.out.then hb).more (by omega), HPi.out.below hb⟩
                case measure => simp [intOf]; omega
              | false =>
                clear hb
                go_upto_region 13 with fail
                have Hk := Lib.hid hk
                have HH : Hid (H < wi.heap.size) := HSi.out.ar.1
                have HQ : Hid (0 ≤ q ∧ q < 12) := ⟨q0, q1⟩
                have HM : Hid (m < 12) := by unfold Hid; omega
                have M1 : (m : Int) < 12 := p1
                refine wp_region_slots2 (by kernel_rfl) 134 rfl (by kernel_rfl) (by kernel_rfl) 106 11 11 1 (by kernel_rfl) (fun d w' => Below wi.heap.size wi w') (FN3 H B m k n cc a q) ?hS0 ?hop ?hend
                case hS0 => exact Hbc.out.drew
                case hop =>
                  refine ⟨?_, ?_, ?_, ?_, ?_, ?_, ?_, ?_, ?_, ?_, ?_, ?_, trivial⟩
                  all_goals intro d ac wx hd hcl hS hA haft K hK
                  · have f9 : ac.tmps.getD 9 undef = .pointer (some ⟨B, 0, none⟩) := same_slot hA 9 (by kernel_rfl)
                    refine hop_val rfl (.pointer (some ⟨B, 1, none⟩)) (w' := wx) ?_ (hK _ _ rfl (fun _ _ _ h => h) hS)
                    simp [execOp, Act.eval, f9, go_sem, -Array.getD_eq_getD_getElem?]
                  · have c1 := cell_then hS HBx.out.2
                    have f106 : ac.tmps.getD 106 undef = .pointer (some ⟨B, 1, none⟩) := (haft ⟨0, .data⟩ (by simp) rfl).2 _ rfl
                    refine hop_val rfl (.int .i64 q) (w' := wx) ?_ (hK _ _ rfl (fun _ _ _ h => h) hS)
                    simp [execOp, Act.eval, f106, c1, go_sem, -Array.getD_eq_getD_getElem?]
                  · have f107 : ac.tmps.getD 107 undef = .int .i64 q := (haft ⟨1, .data⟩ (by simp) rfl).2 _ rfl
                    refine hop_val rfl (.slice (some ⟨wx.heap.size, 0, none⟩) 1 1) (w' := wx.alloc (.cells #[.int .i64 q] 3)) ?_ (hK _ _ ⟨sm_lit (Nat.lt_of_lt_of_le HH.out hS.size) q HQ.out, _, rfl⟩ (fun k' u _ h => FN3.kept (KeptBut.of ((Below.refl _ _).alloc (Nat.le_refl _) _)) k' u h) (hS.alloc hS.size _))
                    simp [execOp, Act.eval, f107, run_lit, -Array.getD_eq_getD_getElem?]
                  · have f5 : ac.tmps.getD 5 undef = .slice (some ⟨H, 0, none⟩) 12 12 := same_slot hA 5 (by kernel_rfl)
                    refine hop_val rfl (.slice (some ⟨H, 0, none⟩) 12 12) (w' := wx) ?_ (hK _ _ rfl (fun _ _ _ h => h) hS)
                    simp [execOp, Act.eval, f5, go_sem, -Array.getD_eq_getD_getElem?]
                  · have f9 : ac.tmps.getD 9 undef = .pointer (some ⟨B, 0, none⟩) := same_slot hA 9 (by kernel_rfl)
                    refine hop_val rfl (.pointer (some ⟨B, 0, none⟩)) (w' := wx) ?_ (hK _ _ rfl (fun _ _ _ h => h) hS)
                    simp [execOp, Act.eval, f9, go_sem, -Array.getD_eq_getD_getElem?]
                  · have c0 := cell_then hS HBx.out.1
                    have f110 : ac.tmps.getD 110 undef = .pointer (some ⟨B, 0, none⟩) := (haft ⟨4, .data⟩ (by simp) rfl).2 _ rfl
                    refine hop_val rfl (.int .i64 m) (w' := wx) ?_ (hK _ _ rfl (fun _ _ _ h => h) hS)
                    simp [execOp, Act.eval, f110, c0, go_sem, -Array.getD_eq_getD_getElem?]
                  · have f109 : ac.tmps.getD 109 undef = .slice (some ⟨H, 0, none⟩) 12 12 := (haft ⟨3, .data⟩ (by simp) rfl).2 _ rfl
                    have f111 : ac.tmps.getD 111 undef = .int .i64 m := (haft ⟨5, .data⟩ (by simp) rfl).2 _ rfl
                    refine hop_val rfl (.pointer (some ⟨H, m, none⟩)) (w' := wx) ?_ (hK _ _ rfl (fun _ _ _ h => h) hS)
                    simp [execOp, Act.eval, f109, f111, M1, go_sem, -Array.getD_eq_getD_getElem?]
                  · have ch := cell_then hS Hcell.out
                    have f112 : ac.tmps.getD 112 undef = .pointer (some ⟨H, m, none⟩) := (haft ⟨6, .data⟩ (by simp) rfl).2 _ rfl
                    refine hop_val rfl (.slice a n cc) (w' := wx) ?_ (hK _ _ rfl (fun _ _ _ h => h) hS)
                    simp [execOp, Act.eval, f112, ch, go_sem, -Array.getD_eq_getD_getElem?]
                  · have f10 : ac.tmps.getD 10 undef = .int .i64 k := same_slot hA 10 (by kernel_rfl)
                    refine hop_val rfl (.int .i64 k) (w' := wx) ?_ (hK _ _ rfl (fun _ _ _ h => h) hS)
                    simp [execOp, Act.eval, f10, go_sem, -Array.getD_eq_getD_getElem?]
                  · have f113 : ac.tmps.getD 113 undef = .slice a n cc := (haft ⟨7, .data⟩ (by simp) rfl).2 _ rfl
                    have f114 : ac.tmps.getD 114 undef = .int .i64 k := (haft ⟨8, .data⟩ (by simp) rfl).2 _ rfl
                    refine hop_val rfl (.slice (if cc = k then a else a.map (·.add k)) (n - k) (cc - k)) (w' := wx) ?_ (hK _ _ (sm_from (Hsm.out.below hS) Hcc.out.1 k Hk.out) (fun _ _ _ h => h) hS)
                    simp [execOp, Act.eval, f113, f114, run_from a n cc k Hk.out, -Array.getD_eq_getD_getElem?]
                  · obtain ⟨g108, A8, e108⟩ := (haft ⟨2, .data⟩ (by simp) rfl).2 _ rfl
                    have g115 := (haft ⟨9, .data⟩ (by simp) rfl).2 _ rfl
                    have f108 : ac.tmps.getD 108 undef = .slice A8 1 1 := e108
                    obtain ⟨x115, f115⟩ : ∃ x, ac.tmps.getD 115 undef = x := ⟨_, rfl⟩
                    have g108 : SmSl wx H (ac.tmps.getD 108 undef) 1 := g108
                    have g115 : SmSl wx H (ac.tmps.getD 115 undef) (n - k) := g115
                    rw [f108] at g108
                    rw [f115] at g115
                    obtain ⟨v', w', hrun, hv', hb'⟩ := sm_append g108 ⟨_, rfl⟩ g115 (Nat.lt_of_lt_of_le HH.out hS.size) (by have := Hk.out; omega) 34
                    refine hop_val rfl v' (w' := w') ?_ (hK _ _ hv' (fun k' u _ h => FN3.kept (KeptBut.of hb') k' u h) (below_then hS hb'))
                    unfold execOp
                    simp only [resolve, invoke, builtin, Sem.run_bind, Sem.run_pure, Result.andThen_ok, List.map_toArray, List.map_cons, List.map_nil, Act.eval, f108, f115, hrun]
                  · have g116 : SmSl wx H (ac.tmps.getD 116 undef) (1 + (n - k)) := (haft ⟨10, .data⟩ (by simp) rfl).2 _ rfl
                    refine hop_val rfl (ac.tmps.getD 116 undef) (w' := wx) ?_ (hK _ _ g116 (fun _ _ _ h => h) hS)
                    simp [execOp, Act.eval, go_sem, -Array.getD_eq_getD_getElem?]
                case hend =>
                  intro u wd d hd hS hF
                  have hrv : SmSl wd H (u 11) (1 + (n - k)) := hF 11 _ rfl
                  obtain ⟨rv, hrveq⟩ : ∃ rv, rv = u 11 := ⟨_, rfl⟩
                  rw [← hrveq] at hrv
                  have Hrd := Lib.hid hrv
                  have HSd : Hid (ArS w wd H g (6 * c + i)) := HSi.out.then hS
                  have HPd : Hid (Cl wd PB 12) := HPi.out.below hS
                  have HBd : Hid (wd.cell? ⟨B, 0, none⟩ = some (.int .i64 m)) := cell_then hS HBx.out.1
                  have HCd : Hid (wd.cell? ⟨H, m, none⟩ = some (.slice a n cc)) := cell_then hS Hcell.out
                  have Hsd : Hid (SmSl wd H (.slice a n cc) n) := Hsm.out.below hS
                  have HH2 : Hid (H < wd.heap.size) := HSd.out.ar.1
                  have HBase : Hid (w.heap.size ≤ H) := HSd.out.base
                  clear hF hd hS hrv d
                  simp only [mixL]
                  rw [← hrveq]
                  clear hrveq
                  go_upto_region 14 with fail
                  refine wp_region_slots (by kernel_rfl) 134 rfl (by kernel_rfl) (by kernel_rfl) 117 14 (by kernel_rfl) (fun d w' => Below w.heap.size w w' ∧ KeptBut H wd w' ∧ Ar w' H (6 * c + i + 1) ∧ (d 7 = false → w'.cell? ⟨H, m, none⟩ = some (.slice a n cc))) (FN4 H B m k n cc a rv) ?hS1 ?hop1 ?hend1
                  case hS1 => exact ⟨HSd.out.below.drew, ⟨Nat.le_refl _, fun _ _ _ => rfl⟩, (HSd.out.ar.mono (Nat.le_succ _)).below (Below.refl _ _).drew, fun _ => HCd.out⟩
                  case hop1 =>
                    refine ⟨?_, ?_, ?_, ?_, ?_, ?_, ?_, ?_, ?_, ?_, ?_, ?_, ?_, ?_, ?_, trivial⟩
                    all_goals intro d ac wx hd hcl hS hA haft K hK
                    · have f5 : ac.tmps.getD 5 undef = .slice (some ⟨H, 0, none⟩) 12 12 := same_slot hA 5 (by kernel_rfl)
                      refine hop_val rfl (.slice (some ⟨H, 0, none⟩) 12 12) (w' := wx) ?_ (hK _ _ rfl (fun _ _ _ h => h) hS)
                      simp [execOp, Act.eval, f5, go_sem, -Array.getD_eq_getD_getElem?]
                    · have f9 : ac.tmps.getD 9 undef = .pointer (some ⟨B, 0, none⟩) := same_slot hA 9 (by kernel_rfl)
                      refine hop_val rfl (.pointer (some ⟨B, 0, none⟩)) (w' := wx) ?_ (hK _ _ rfl (fun _ _ _ h => h) hS)
                      simp [execOp, Act.eval, f9, go_sem, -Array.getD_eq_getD_getElem?]
                    · have c0 := hS.2.1.cell HBd.out HBH.out.1
                      have f118 : ac.tmps.getD 118 undef = .pointer (some ⟨B, 0, none⟩) := (haft ⟨1, .data⟩ (by simp) rfl).2 _ rfl
                      refine hop_val rfl (.int .i64 m) (w' := wx) ?_ (hK _ _ rfl (fun _ _ _ h => h) hS)
                      simp [execOp, Act.eval, f118, c0, go_sem, -Array.getD_eq_getD_getElem?]
                    · have f5 : ac.tmps.getD 5 undef = .slice (some ⟨H, 0, none⟩) 12 12 := same_slot hA 5 (by kernel_rfl)
                      refine hop_val rfl (.slice (some ⟨H, 0, none⟩) 12 12) (w' := wx) ?_ (hK _ _ rfl (fun _ _ _ h => h) hS)
                      simp [execOp, Act.eval, f5, go_sem, -Array.getD_eq_getD_getElem?]
                    · have f9 : ac.tmps.getD 9 undef = .pointer (some ⟨B, 0, none⟩) := same_slot hA 9 (by kernel_rfl)
                      refine hop_val rfl (.pointer (some ⟨B, 0, none⟩)) (w' := wx) ?_ (hK _ _ rfl (fun _ _ _ h => h) hS)
                      simp [execOp, Act.eval, f9, go_sem, -Array.getD_eq_getD_getElem?]
                    · have c0 := hS.2.1.cell HBd.out HBH.out.1
                      have f121 : ac.tmps.getD 121 undef = .pointer (some ⟨B, 0, none⟩) := (haft ⟨4, .data⟩ (by simp) rfl).2 _ rfl
                      refine hop_val rfl (.int .i64 m) (w' := wx) ?_ (hK _ _ rfl (fun _ _ _ h => h) hS)
                      simp [execOp, Act.eval, f121, c0, go_sem, -Array.getD_eq_getD_getElem?]
                    · have f120 : ac.tmps.getD 120 undef = .slice (some ⟨H, 0, none⟩) 12 12 := (haft ⟨3, .data⟩ (by simp) rfl).2 _ rfl
                      have f122 : ac.tmps.getD 122 undef = .int .i64 m := (haft ⟨5, .data⟩ (by simp) rfl).2 _ rfl
                      refine hop_val rfl (.pointer (some ⟨H, m, none⟩)) (w' := wx) ?_ (hK _ _ rfl (fun _ _ _ h => h) hS)
                      simp [execOp, Act.eval, f120, f122, M1, go_sem, -Array.getD_eq_getD_getElem?]
                    · have ch := hS.2.2.2 hd
                      have f123 : ac.tmps.getD 123 undef = .pointer (some ⟨H, m, none⟩) := (haft ⟨6, .data⟩ (by simp) rfl).2 _ rfl
                      refine hop_val rfl (.slice a n cc) (w' := wx) ?_ (hK _ _ rfl (fun _ _ _ h => h) ⟨hS.1, hS.2.1, hS.2.2.1, fun h => by simp at h⟩)
                      simp [execOp, Act.eval, f123, ch, go_sem, -Array.getD_eq_getD_getElem?]
                    · have f10 : ac.tmps.getD 10 undef = .int .i64 k := same_slot hA 10 (by kernel_rfl)
                      refine hop_val rfl (.int .i64 k) (w' := wx) ?_ (hK _ _ rfl (fun _ _ _ h => h) hS)
                      simp [execOp, Act.eval, f10, go_sem, -Array.getD_eq_getD_getElem?]
                    · have f10 : ac.tmps.getD 10 undef = .int .i64 k := same_slot hA 10 (by kernel_rfl)
                      refine hop_val rfl (.int .i64 k) (w' := wx) ?_ (hK _ _ rfl (fun _ _ _ h => h) hS)
                      simp [execOp, Act.eval, f10, go_sem, -Array.getD_eq_getD_getElem?]
                    · have f124 : ac.tmps.getD 124 undef = .slice a n cc := (haft ⟨7, .data⟩ (by simp) rfl).2 _ rfl
                      have f125 : ac.tmps.getD 125 undef = .int .i64 k := (haft ⟨8, .data⟩ (by simp) rfl).2 _ rfl
                      have f126 : ac.tmps.getD 126 undef = .int .i64 k := (haft ⟨9, .data⟩ (by simp) rfl).2 _ rfl
                      refine hop_val rfl (.slice a k k) (w' := wx) ?_ (hK _ _ ⟨(Hsd.out.kept hS.2.1.2).take k Hk.out, _, rfl⟩ (fun _ _ _ h => h) hS)
                      simp [execOp, Act.eval, f124, f125, f126, run_to a n cc k Hk.out Hcc.out.1, -Array.getD_eq_getD_getElem?]
                    · have f11 : ac.tmps.getD 11 undef = rv := same_slot hA 11 (by kernel_rfl)
                      refine hop_val rfl (rv) (w' := wx) ?_ (hK _ _ rfl (fun _ _ _ h => h) hS)
                      simp [execOp, Act.eval, f11, go_sem, -Array.getD_eq_getD_getElem?]
                    · obtain ⟨g127, A7, e127⟩ := (haft ⟨10, .data⟩ (by simp) rfl).2 _ rfl
                      have f127 : ac.tmps.getD 127 undef = .slice A7 k k := e127
                      have f128 : ac.tmps.getD 128 undef = rv := (haft ⟨11, .data⟩ (by simp) rfl).2 _ rfl
                      have g127 : SmSl wx H (ac.tmps.getD 127 undef) k := g127
                      rw [f127] at g127
                      have hlt := Nat.lt_of_lt_of_le HH2.out hS.2.1.1
                      obtain ⟨v', w', hrun, hv', hb'⟩ := sm_append g127 ⟨_, rfl⟩ (Hrd.out.kept hS.2.1.2) hlt (by have := Hk.out; omega) 34
                      refine hop_val rfl v' (w' := w') ?_ (hK _ _ hv' (fun k' u _ h => FN4.kept (KeptBut.of hb') k' u h) ⟨below_then hS.1 hb', hS.2.1.trans (KeptBut.of hb'), hS.2.2.1.below hb', fun h => cell_then hb' (hS.2.2.2 h)⟩)
                      unfold execOp
                      simp only [resolve, invoke, builtin, Sem.run_bind, Sem.run_pure, Result.andThen_ok, List.map_toArray, List.map_cons, List.map_nil, Act.eval, f127, f128, hrun]
                    · have f117 : ac.tmps.getD 117 undef = .slice (some ⟨H, 0, none⟩) 12 12 := (haft ⟨0, .data⟩ (by simp) rfl).2 _ rfl
                      have f119 : ac.tmps.getD 119 undef = .int .i64 m := (haft ⟨2, .data⟩ (by simp) rfl).2 _ rfl
                      refine hop_val rfl (.pointer (some ⟨H, m, none⟩)) (w' := wx) ?_ (hK _ _ rfl (fun _ _ _ h => h) hS)
                      simp [execOp, Act.eval, f117, f119, M1, go_sem, -Array.getD_eq_getD_getElem?]
                    · have g129 : SmSl wx H (ac.tmps.getD 129 undef) (k + (1 + (n - k))) := (haft ⟨12, .data⟩ (by simp) rfl).2 _ rfl
                      have f130 : ac.tmps.getD 130 undef = .pointer (some ⟨H, m, none⟩) := (haft ⟨13, .data⟩ (by simp) rfl).2 _ rfl
                      obtain ⟨q1, a0, n0, c0, _, q0, _⟩ := hS.2.2.1.2 m HM.out
                      obtain ⟨a9, c9, hsl⟩ : ∃ a c, ac.tmps.getD 129 undef = .slice a (k + (1 + (n - k))) c := by obtain ⟨a, c, _, e, _⟩ := g129; exact ⟨a, c, e⟩
                      rw [hsl] at g129
                      refine hop_none rfl (w' := wx.setCell ⟨H, m, none⟩ (.slice a9 (k + (1 + (n - k))) c9)) ?_ (hK undef _ trivial (fun k' u _ h => FN4.kept (KeptBut.set H _ m _) k' u h) ⟨hS.1.setCell HBase.out _, hS.2.1.trans (KeptBut.set H _ m _), hS.2.2.1.set (by have := Hk.out; have := Hn.out; omega) g129 HM.out, fun h => ?_⟩)
                      · simp [execOp, Act.eval, f130, hsl, q0, q1, go_sem, -Array.getD_eq_getD_getElem?]
                      · have h7 := (haft ⟨7, .phase⟩ (by simp) rfl).1
                        simp at h
                        rw [h7] at h; cases h
                  case hend1 =>
                    intro u2 we d hd hS hF
                    have HSe : Hid (ArS w we H g (6 * c + (i + 1))) := ⟨hS.2.2.1, HSd.out.cl.kept hS.2.1.2 (by have := HSd.out.low; omega), HSd.out.low, hS.1, HBase.out⟩
                    have HPe : Hid (Cl we PB 12) := HPd.out.kept hS.2.1.2 HPH.out
                    clear hF hd hS d
                    simp only [mixL]
                    go_wp2_with fail
                    go_roundw
                    case rel => exact ⟨i + 1, by omega, by go_num, HSe, HPe⟩
                    case measure => simp [intOf]; omega
        · obtain rfl : i = 6 := by omega
          go_wp2_with fail
          go_roundw
          case rel => exact ⟨c + 1, by omega, by go_num, hs⟩
          case measure => simp [intOf]; omega
    · obtain rfl : c = 20 := by omega
      go_wp2_with fail
      go_ret
      exact ⟨H, rfl, hs.out.ar, hs.out.below, hs.out.base⟩
end Go.Proofs.YtmmmebdgannpgaaGreatDoor
/- The reference's grid of frequency one: how many edges. -/
namespace Go.Proofs.YtmmmebdgannpgaaGreatDoor
open Go Go.RowKit

def OwnEd (w : World) (base : Nat) (v : Value) (n : Nat) : Prop := ∃ cs : List Value, w.ownsRow base 107 2 v n cs
theorem OwnEd.below {w w' : World} {base : Nat} {v : Value} {n : Nat} (h : OwnEd w base v n) (hb : Below w.heap.size w w') : OwnEd w' base v n := by
  obtain ⟨cs, h⟩ := h
  exact ⟨cs, ownsRow_below h hb⟩
theorem OwnEd.slice {w : World} {base : Nat} {v : Value} {n : Nat} (h : OwnEd w base v n) : ∃ a c, v = .slice a n c := by
  obtain ⟨cs, _, h⟩ := h
  rcases h with ⟨e, h0⟩ | ⟨g, cap, cur, e, _⟩
  · exact ⟨none, 0, by rw [e, h0]⟩
  · exact ⟨_, _, e⟩
theorem einfo : (Tryz.prog.info? 107).map (fun i => (i.zero, i.size, i.bytes)) = some (some (.agg #[.int .i64 0, .int .i64 0]), 2, 16) := by kernel_rfl
theorem append_ed {w : World} {base n : Nat} {v : Value} (h : OwnEd w base v n) (x y : Int) (hn : n ≤ 1000000000) (hb : base ≤ w.heap.size) (ty : TypeId) :
    ∃ (v' : Value) (w' : World), (Builtin.append_ #[70, 70] ty #[v, .slice (some ⟨w.heap.size, 0, none⟩) 1 1]).run Tryz.prog (w.alloc (.cells #[.int .i64 x, .int .i64 y] 107)) = .ok v' w' ∧
      OwnEd w' base v' (n + 1) ∧ Below base w w' := by
  obtain ⟨cs, h⟩ := h
  obtain ⟨v', w', h1, h2, h3⟩ := append_new 70 107 Tryz.underlying70 einfo rfl (by decide) h [.int .i64 x, .int .i64 y] 1 rfl (by intro u hu; simp at hu; rcases hu with rfl | rfl <;> rfl) hn (by omega) (by decide) hb ty
  exact ⟨v', w', h1, ⟨_, h2⟩, h3⟩
structure EdS (w3 wr : World) (v : Value) (n : Nat) : Prop where
  own : OwnEd wr w3.heap.size v n
  below : Below w3.heap.size w3 wr
def EdIs (w : World) (e : Ending) (w' : World) : Prop := ∃ (a : Option Addr) (n c : Nat), e = .returned (.tuple #[.slice a n c, .int .i64 0]) ∧ n ≤ 1440 ∧ Below w.heap.size w w'
set_option maxHeartbeats 16000000 in
set_option maxRecDepth 100000 in
theorem edges_any (w : World) : Calls Tryz.prog 26 #[.int .i64 1] w (EdIs w) := by
  go_enter Tryz.func26, Tryz.ntmps26
  go_wp2_with fail
  refine (count_any _).mono ?_
  rintro e w2 ⟨rfl, rfl⟩
  go_wp2_with fail
  refine (around_any _).mono ?_
  rintro e w3 ⟨H, rfl, har, hb3, _⟩
  have HAr := Lib.hid har
  have HB3 := Lib.hid hb3
  clear har hb3
  have HS : Hid (EdS w3 w3 (.slice none 0 0) 0) := ⟨⟨[], World.ownsRow_nil w3 _ _ 2⟩, Below.refl _ _⟩
  go_wp2_with fail
  go_loopw [4, 6] (fun lv kv wr => ∃ (c n : Nat) (ov : Value), ov = lv ∧ kv = .int .i64 c ∧ c ≤ 12 ∧ n ≤ c * 120 ∧ Hid (EdS w3 wr ov n)) (fun _ kv _ => (12 - intOf kv).toNat)
  case atStart => exact ⟨0, 0, _, rfl, rfl, by omega, by omega, HS⟩
  case round =>
    clear HS
    obtain ⟨c, n, ov, rfl, rfl, hc, hn, hs⟩ := hrel
    by_cases hlt : c < 12
    · have c0 : (c : Int) < 12 := by omega
      obtain ⟨_, a, n1, cc, hn1, hcell, hsm⟩ := HAr.out.2 c hlt
      have Hsm := Lib.hid hsm
      have hA := cell_then hs.out.below hcell
      have n10 : (n1 : Int) ≤ 120 := by omega
      clear hcell hsm
      obtain ⟨wout, rfl⟩ : ∃ wout : World, wout = wr := ⟨_, rfl⟩
      go_wp2_with fail
      go_loopw [4, 25] (fun lv kv wr => ∃ (i m : Nat) (ov : Value), ov = lv ∧ kv = .int .i64 i ∧ i ≤ n1 ∧ m ≤ c * 120 + i ∧ Hid (EdS w3 wr ov m)) (fun _ kv _ => (1000 - intOf kv).toNat)
      case atStart => exact ⟨0, n, _, rfl, rfl, by omega, by omega, hs⟩
      case round =>
        clear hs hA
        obtain ⟨i, m, ov, rfl, rfl, hi, hm, hs⟩ := hrel
        by_cases hil : i < n1
        · obtain ⟨ab, ao, z, rfl, z0, z1, hz⟩ := Hsm.out.at i hil
          have hz' := cell_then hs.out.below hz
          have i0 : (i : Int) < (n1 : Int) := by omega
          clear hz
          by_cases hcz : (c : Int) < z
          · have HAp : Hid (∃ (v' : Value) (w' : World), (Builtin.append_ #[70, 70] 70 #[ov, .slice (some ⟨wr.heap.size, 0, none⟩) 1 1]).run Tryz.prog (wr.alloc (.cells #[.int .i64 c, .int .i64 z] 107)) = .ok v' w' ∧ EdS w3 w' v' (m + 1)) := by
              obtain ⟨v', w', a1, a2, a3⟩ := append_ed hs.out.own c z (by omega) hs.out.below.size 70
              exact ⟨v', w', a1, a2, hs.out.below.trans a3⟩
            clear hs
            go_wp2_with (at_builtin; obtain ⟨v', w', hrun, hs'⟩ := HAp.out; have Hrun := Lib.hid hrun; have Hs' := Lib.hid hs'; clear hrun hs'; refine wpList_append_run rfl _ _ _ rfl _ _ _ _ rfl rfl Hrun.out ?_)
            go_roundw
            case rel => exact ⟨i + 1, m + 1, v', rfl, by go_num, by omega, by omega, Hs'⟩
            case measure => simp [intOf]; omega
          · go_wp2_with fail
            go_roundw
            case rel => exact ⟨i + 1, m, ov, rfl, by go_num, by omega, by omega, hs⟩
            case measure => simp [intOf]; omega
        · obtain rfl : i = n1 := by omega
          go_wp2_with fail
          go_roundw
          case rel => exact ⟨c + 1, m, ov, rfl, by go_num, by omega, by omega, hs⟩
          case measure => simp [intOf]; omega
    · obtain rfl : c = 12 := by omega
      obtain ⟨oa, oc, rfl⟩ := hs.out.own.slice
      go_wp2_with fail
      refine bodyPost_ret (v := .tuple #[.slice oa n oc, .int .i64 0]) (by simp [results, Tryz.results26, go_sem]) rfl ?_
      exact ⟨_, _, _, rfl, by omega, below_then HB3.out (hs.out.below)⟩
end Go.Proofs.YtmmmebdgannpgaaGreatDoor
/- The choices of synopticfield: State, at frequency one. -/
namespace Go.Proofs.YtmmmebdgannpgaaGreatDoor
open Go Go.RowKit

theorem KeptBut.st {w w' : World} {B b : Nat} (h : St w B b w') : KeptBut b w w' := ⟨h.2.size, fun k hk hn => h.2.block k hk hn⟩
def InR (w : World) (g n : Nat) (lo hi : Int) : Prop := ∀ i, i < n → ∃ z : Int, lo ≤ z ∧ z ≤ hi ∧ w.cell? ⟨g, i, none⟩ = some (.int .i64 z)
theorem InR.kept {w w' : World} {g n b : Nat} {lo hi : Int} (h : InR w g n lo hi) (hk : KeptBut b w w') (hg : g ≠ b) : InR w' g n lo hi := fun i hi => by
  obtain ⟨z, z0, z1, hz⟩ := h i hi
  exact ⟨z, z0, z1, hk.cell hz hg⟩
theorem in4 (w : World) (p q r s hi : Int) (hp : 0 ≤ p ∧ p ≤ hi) (hq : 0 ≤ q ∧ q ≤ hi) (hr : 0 ≤ r ∧ r ≤ hi) (hs : 0 ≤ s ∧ s ≤ hi) : InR (w.alloc (.cells #[.int .i64 p, .int .i64 q, .int .i64 r, .int .i64 s] 3)) w.heap.size 4 0 hi := by
  intro i hi
  have hh : ∀ A, (w.alloc (.cells A 3)).heap[w.heap.size]? = some (.cells A 3 (0, 0)) := fun A => heap_alloc_new w _
  simp only [World.cell?, hh]
  have : i = 0 ∨ i = 1 ∨ i = 2 ∨ i = 3 := by omega
  rcases this with rfl | rfl | rfl | rfl
  · exact ⟨p, hp.1, hp.2, rfl⟩
  · exact ⟨q, hq.1, hq.2, rfl⟩
  · exact ⟨r, hr.1, hr.2, rfl⟩
  · exact ⟨s, hs.1, hs.2, rfl⟩
theorem in3 (w : World) (p q r hi : Int) (hp : 0 ≤ p ∧ p ≤ hi) (hq : 0 ≤ q ∧ q ≤ hi) (hr : 0 ≤ r ∧ r ≤ hi) : InR (w.alloc (.cells #[.int .i64 p, .int .i64 q, .int .i64 r] 3)) w.heap.size 3 0 hi := by
  intro i hi
  have hh : ∀ A, (w.alloc (.cells A 3)).heap[w.heap.size]? = some (.cells A 3 (0, 0)) := fun A => heap_alloc_new w _
  simp only [World.cell?, hh]
  have : i = 0 ∨ i = 1 ∨ i = 2 := by omega
  rcases this with rfl | rfl | rfl
  · exact ⟨p, hp.1, hp.2, rfl⟩
  · exact ⟨q, hq.1, hq.2, rfl⟩
  · exact ⟨r, hr.1, hr.2, rfl⟩
theorem nodes1_any (w : World) : Calls Tryz.prog 27 #[.int .i64 1] w fun e w' => e = .returned (.int .i64 12) ∧ w = w' := by
  go_enter Tryz.func27, Tryz.ntmps27
  go_wp2_with fail
  go_ret
  exact ⟨rfl, rfl⟩
theorem clip_any (x lo hi : Int) (h : lo ≤ hi) (w : World) : Calls Tryz.prog 28 #[.int .i64 x, .int .i64 lo, .int .i64 hi] w fun e w' => ∃ y : Int, lo ≤ y ∧ y ≤ hi ∧ e = .returned (.int .i64 y) ∧ w = w' := by
  go_enter Tryz.func28, Tryz.ntmps28
  go_wp2_with fail
  all_goals go_ret
  all_goals refine ⟨_, ?_, ?_, rfl, rfl⟩
  all_goals first | omega | (rename_i h1 h2; rw [if_neg (by omega)] at h1; omega)
def FS3 (b : Nat) (ix : Nat) (v : Value) (w : World) : Prop := match ix with
  | 0 => ∃ LB : Nat, v = .slice (some ⟨LB, 0, none⟩) 4 4 ∧ LB ≠ b ∧ InR w LB 4 0 2500000
  | 1 => v = .pointer (some ⟨b, 0, none⟩)
  | 2 => ∃ j : Nat, j < 4 ∧ v = .int .i64 j
  | 3 => ∃ (LB o : Nat) (z : Int), v = .pointer (some ⟨LB, o, none⟩) ∧ LB ≠ b ∧ 0 ≤ z ∧ z ≤ 2500000 ∧ w.cell? ⟨LB, o, none⟩ = some (.int .i64 z)
  | 4 => ∃ z : Int, v = .int .i64 z ∧ 0 ≤ z ∧ z ≤ 2500000
  | 5 => ∃ LB : Nat, v = .slice (some ⟨LB, 0, none⟩) 3 3 ∧ LB ≠ b ∧ InR w LB 3 0 90000
  | 6 => v = .pointer (some ⟨b, 0, none⟩)
  | 7 => ∃ j : Nat, j < 3 ∧ v = .int .i64 j
  | 8 => ∃ (LB o : Nat) (z : Int), v = .pointer (some ⟨LB, o, none⟩) ∧ LB ≠ b ∧ 0 ≤ z ∧ z ≤ 90000 ∧ w.cell? ⟨LB, o, none⟩ = some (.int .i64 z)
  | 9 => ∃ z : Int, v = .int .i64 z ∧ 0 ≤ z ∧ z ≤ 90000
  | 10 => ∃ z : Int, v = .int .i64 z ∧ 0 ≤ z ∧ z ≤ 2500000
  | 11 => ∃ z : Int, v = .int .i64 z ∧ 0 ≤ z ∧ z ≤ 90000
  | _ => True
theorem FS3.kept {b : Nat} {w w' : World} (h : KeptBut b w w') (ix : Nat) (v : Value) (hF : FS3 b ix v w) : FS3 b ix v w' := by
  unfold FS3 at hF ⊢
  split at hF
  all_goals first
    | exact hF
    | (obtain ⟨LB, e, hn, hi⟩ := hF; exact ⟨LB, e, hn, hi.kept h hn⟩)
    | (obtain ⟨LB, o, z, e, hn, h0, h1, hc⟩ := hF; exact ⟨LB, o, z, e, hn, h0, h1, h.cell hc hn⟩)
theorem run_lit4 {w : World} (p q r s : Int) : (Instr.buildSlice 34 4 #[(0, .int .i64 p), (1, .int .i64 q), (2, .int .i64 r), (3, .int .i64 s)]).run Tryz.prog w = .ok (.slice (some ⟨w.heap.size, 0, none⟩) 4 4) (w.alloc (.cells #[.int .i64 p, .int .i64 q, .int .i64 r, .int .i64 s] 3)) := by
  simp [Instr.buildSlice, go_sem]
theorem run_lit3 {w : World} (p q r : Int) : (Instr.buildSlice 34 3 #[(0, .int .i64 p), (1, .int .i64 q), (2, .int .i64 r)]).run Tryz.prog w = .ok (.slice (some ⟨w.heap.size, 0, none⟩) 3 3) (w.alloc (.cells #[.int .i64 p, .int .i64 q, .int .i64 r] 3)) := by
  simp [Instr.buildSlice, go_sem]
def StateIs (B b : Nat) (w : World) (e : Ending) (w' : World) : Prop := ∃ (dv fv : Value) (dl fl : List Int), e = .returned (.agg #[.int .i64 1, dv, fv]) ∧ dl.length = 12 ∧ (∀ x ∈ dl, 0 ≤ x ∧ x ≤ 16777216) ∧ fl.length ≤ 1440 ∧ (∀ x ∈ fl, -1000000 ≤ x ∧ x ≤ 1000000) ∧
  OwnI w' w.heap.size dv dl ∧ OwnI w' w.heap.size fv fl ∧ St w B b w'
theorem OwnI.lt {w : World} {base : Nat} {v : Value} {l : List Int} (h : OwnI w base v l) : ∀ g, v.ownBlock = some g → base ≤ g ∧ g < w.heap.size := fun g hg => World.ownsRow.lt h g hg
theorem OwnI.keptBut {w w' : World} {base r : Nat} {v : Value} {l : List Int} (h : OwnI w base v l) (hk : KeptBut r w w') (hr : r < base) : OwnI w' base v l := ownsRow_of_same h (fun k h1 hk' => hk.2 k hk' (by omega))
theorem OwnI.inr {w : World} {base : Nat} {v : Value} {l : List Int} {lo hi : Int} (h : OwnI w base v l) (h0 : 0 < l.length) (hb : ∀ x ∈ l, lo ≤ x ∧ x ≤ hi) : ∃ g cap, v = .slice (some ⟨g, 0, none⟩) l.length cap ∧ base ≤ g ∧ InR w g l.length lo hi := by
  have h' := h
  obtain ⟨h1, h2⟩ := h
  rcases h2 with ⟨e, h0'⟩ | ⟨g, cap, cur, e, hg, hh, hc, _⟩
  · omega
  · refine ⟨g, cap, e, hg, fun i hi => ?_⟩
    have hm := hb _ (List.getElem_mem hi)
    have hj : (ics l)[i]? = some (.int .i64 l[i]) := by simp [ics, hi]
    have := World.ownsRow.cells h' (g := g) (by rw [e]; rfl) _ _ hj
    rw [Go.WideShapes.add_plain, Nat.zero_add] at this
    exact ⟨_, hm.1, hm.2, this⟩
theorem RowAt.kept {w w' : World} {g r : Nat} {cs : List Value} (h : RowAt w g cs) (hk : KeptBut r w w') (hg : g ≠ r) : RowAt w' g cs := h.of_block (hk.2 g h.lt hg)
def FS7 (r7 base L : Nat) (dv : Value) (dl : List Int) (p z : Int) (ix : Nat) (v : Value) (w : World) : Prop := match ix with
  | 0 => v = .pointer (some ⟨r7, 1, none⟩)
  | 1 => v = dv
  | 2 => v = .int .i64 p
  | 3 => v = .int .i64 z
  | 4 => v = .int .i64 (p + z)
  | 5 => ∃ y : Int, v = .int .i64 y ∧ 0 ≤ y ∧ y ≤ 16777216
  | 6 => v = .slice (some ⟨L, 0, none⟩) 1 1
  | 7 => ∃ y : Int, OwnI w base v (dl ++ [y]) ∧ 0 ≤ y ∧ y ≤ 16777216
  | 8 => v = .pointer (some ⟨r7, 1, none⟩)
  | _ => True
theorem FS7.kept {r7 base L : Nat} {dv : Value} {dl : List Int} {p z : Int} {w w' : World} (hr : r7 < base) (h : KeptBut r7 w w') (ix : Nat) (v : Value) (hF : FS7 r7 base L dv dl p z ix v w) : FS7 r7 base L dv dl p z ix v w' := by
  unfold FS7 at hF ⊢
  split at hF
  all_goals first
    | exact hF
    | (obtain ⟨y, ho, h0, h1⟩ := hF; exact ⟨y, ho.keptBut h hr, h0, h1⟩)
def SS7 (w w6 : World) (r7 base L : Nat) (dv fv : Value) (dl : List Int) (d : Nat → Bool) (w' : World) : Prop :=
  KeptBut r7 w6 w' ∧ Below w.heap.size w6 w' ∧ base ≤ w'.heap.size ∧ (d 7 = false → OwnI w' base dv dl) ∧
  (∃ x, RowAt w' r7 [.int .i64 1, x, fv] ∧ (d 1 = false → x = dv) ∧ (d 9 = true → ∃ y : Int, OwnI w' base x (dl ++ [y]) ∧ 0 ≤ y ∧ y ≤ 16777216)) ∧
  (d 6 = false → w'.heap.size = L) ∧ (d 6 = true → d 7 = false → ∃ y : Int, w'.cell? ⟨L, 0, none⟩ = some (.int .i64 y) ∧ 0 ≤ y ∧ y ≤ 16777216)
structure LpS (w w6 : World) (r7 base : Nat) (dv fv : Value) (dl : List Int) (wr : World) : Prop where
  kept : KeptBut r7 w6 wr
  below : Below w.heap.size w6 wr
  size : base ≤ wr.heap.size
  own : OwnI wr base dv dl
  row : RowAt wr r7 [.int .i64 1, dv, fv]
  bnd : ∀ x ∈ dl, 0 ≤ x ∧ x ≤ 16777216
theorem KeptBut.grown {r base : Nat} {w6 wx w' : World} (h : KeptBut r w6 wx) (hb : Below base wx w') (hw : w6.heap.size ≤ base) : KeptBut r w6 w' := ⟨Nat.le_trans h.1 hb.size, fun k hk hn => (hb.block k (Nat.lt_of_lt_of_le hk hw)).trans (h.2 k hk hn)⟩
theorem FS7.any {r7 base L : Nat} {dv : Value} {dl : List Int} {p z : Int} {w w' : World} (ix : Nat) (hx : ix ≠ 7) (v : Value) (hF : FS7 r7 base L dv dl p z ix v w) : FS7 r7 base L dv dl p z ix v w' := by
  unfold FS7 at hF ⊢
  split at hF
  all_goals first
    | exact hF
    | exact absurd rfl hx
theorem OwnI.keptNe {w w' : World} {B r : Nat} {v : Value} {l : List Int} (h : OwnI w B v l) (hk : KeptBut r w w') (hv : ∀ g, v.ownBlock = some g → g ≠ r) : OwnI w' B v l := by
  obtain ⟨h1, h2⟩ := h
  refine ⟨h1, ?_⟩
  rcases h2 with h2 | ⟨g, cap, cur, e, hg, hh, r⟩
  · exact Or.inl h2
  · refine Or.inr ⟨g, cap, cur, e, hg, ?_, r⟩
    rw [hk.2 g (Array.getElem?_eq_some_iff.1 hh).1 (hv g (by rw [e]; rfl))]
    exact hh
theorem rowT_s : RowT 41 3 := ⟨by kernel_rfl, _, Tryz.underlying41, rfl⟩
set_option maxHeartbeats 16000000 in
set_option maxRecDepth 100000 in
theorem state_ok (B b : Nat) (w : World) (h : CodesIs w B b) :
    Calls Tryz.prog 8 #[.pointer (some ⟨b, 0, none⟩), .int .i64 1] w (StateIs B b w) := by
  go_enter Tryz.func8, Tryz.ntmps8
  have hbw : Hid (b < w.heap.size) := h.lt
  have HSt0 : Hid (St w B b (w.alloc (.cells #[.int .i64 0, .slice none 0 0, .slice none 0 0] 41))) := (St.start h).alloc _
  have HR4 : Hid (RowAt (w.alloc (.cells #[.int .i64 0, .slice none 0 0, .slice none 0 0] 41)) w.heap.size [.int .i64 0, .slice none 0 0, .slice none 0 0]) := RowAt.new w [.int .i64 0, .slice none 0 0, .slice none 0 0] (by simp) _ rfl
  clear h
  go_wp2_with fail
  refine (edges_any _).mono ?_
  rintro e w1 ⟨ea, en, ec, rfl, hen, hb1⟩
  have HSt1 := Lib.hid (HSt0.out.below hb1)
  have HR41 := Lib.hid (HR4.out.below hb1)
  have HL : Hid (InR _ w1.heap.size 4 0 1000000) := in4 w1 0 30 5000 1000000 1000000 (by omega) (by omega) (by omega) (by omega)
  have HStL := Lib.hid (HSt1.out.alloc (.cells #[.int .i64 0, .int .i64 30, .int .i64 5000, .int .i64 1000000] 3))
  have HR4L := Lib.hid (HR41.out.alloc (.cells #[.int .i64 0, .int .i64 30, .int .i64 5000, .int .i64 1000000] 3))
  have HLb : Hid (w1.heap.size ≠ b) := by have := HSt1.out.lt; unfold Hid; omega
  clear HSt0 HR4 hb1 HSt1 HR41
  go_wp2_with fail
  refine (next_ok B b 4 _ HStL.out.1 (by omega) (by omega)).mono ?_
  rintro e w2 ⟨j, j0, j1, rfl, hs2⟩
  obtain ⟨j, rfl⟩ := Int.eq_ofNat_of_zero_le j0
  obtain ⟨z, z0, z1, hz⟩ := HL.out.kept (KeptBut.st hs2) HLb.out j (by omega)
  have HSt2 := Lib.hid (HStL.out.then hs2)
  have HR42 := Lib.hid (HR4L.out.but hs2.2 (by have := hbw.out; omega))
  clear hs2 HL HStL HR4L HLb
  go_wp2_with fail
  refine (vector_ok B b en z 1000000 w2 HSt2.out.1 (by omega) ⟨z0, z1⟩ (by omega) (by omega)).mono ?_
  rintro e w3 ⟨fv, fl, rfl, hfl, hfb, hfo, hs3⟩
  obtain ⟨fa, fc, rfl⟩ := hfo.slice
  have HSt3 := Lib.hid (HSt2.out.then hs3)
  have HR43 := Lib.hid (HR42.out.but hs3.2 (by have := hbw.out; omega))
  have HF := Lib.hid (And.intro hfl (And.intro hfb (And.intro (hfo.mono HSt2.out.size) hs3)))
  have HFg : Hid (∀ g, (Value.slice fa fl.length fc).ownBlock = some g → w.heap.size < g ∧ g < w3.heap.size) := fun g hg => by
    have h1 := hfo.lt g hg
    have h2 := HR42.out.lt
    omega
  clear hfl hfb hfo hs3 HSt2 HR42 hz z0 z1
  go_wp2_with fail
  have HSq : Hid (St w B b _) := HSt3.out.alloc (.cells #[.int .i64 1, .slice none 0 0, .slice fa fl.length fc] 41)
  have HR4q := Lib.hid (HR43.out.alloc (.cells #[.int .i64 1, .slice none 0 0, .slice fa fl.length fc] 41))
  have HR7q : Hid (RowAt (w3.alloc (.cells #[.int .i64 1, .slice none 0 0, .slice fa fl.length fc] 41)) w3.heap.size [.int .i64 1, .slice none 0 0, .slice fa fl.length fc]) := RowAt.new w3 [.int .i64 1, .slice none 0 0, .slice fa fl.length fc] (by simp) 41 rfl
  have HFq : Hid (OwnI _ w.heap.size (.slice fa fl.length fc) fl) := HF.out.2.2.1.below ((Below.refl _ _).alloc (Nat.le_refl _) (.cells #[.int .i64 1, .slice none 0 0, .slice fa fl.length fc] 41))
  have HFb : Hid (fl.length = en ∧ ∀ x ∈ fl, -1000000 ≤ x ∧ x ≤ 1000000) := ⟨HF.out.1, HF.out.2.1⟩
  have H7 : Hid (w3.heap.size ≠ b ∧ w.heap.size < w3.heap.size) := ⟨by have := HSt3.out.lt; omega, HR43.out.lt⟩
  obtain ⟨r7, hr7⟩ : ∃ r, r = w3.heap.size := ⟨_, rfl⟩
  rw [← hr7] at HR7q H7 HFg ⊢
  generalize w3.alloc (.cells #[.int .i64 1, .slice none 0 0, .slice fa fl.length fc] 41) = wq at HSq HR4q HR7q HFq ⊢
  clear HSt3 HR43 HF hr7
  refine wp_region_slots2 (by kernel_rfl) 59 rfl (by kernel_rfl) (by kernel_rfl) 28 10 8 2 (by kernel_rfl) (fun d w' => St wq B b w') (FS3 b) ?hS0 ?hop ?hend
  case hS0 => exact (St.start HSq.out.1).drew
  case hop =>
    refine ⟨?_, ?_, ?_, ?_, ?_, ?_, ?_, ?_, ?_, ?_, ?_, ?_, trivial⟩
    all_goals intro d ac wx hd hcl hS hA haft K hK
    · have hlt := hS.1.lt
      refine hop_val rfl (.slice (some ⟨wx.heap.size, 0, none⟩) 4 4) (w' := wx.alloc (.cells #[.int .i64 0, .int .i64 40, .int .i64 100000, .int .i64 2500000] 3)) ?_ (hK _ _ ⟨wx.heap.size, rfl, by omega, in4 wx 0 40 100000 2500000 2500000 (by omega) (by omega) (by omega) (by omega)⟩ (fun k' u _ h => FS3.kept (KeptBut.of ((Below.refl _ _).alloc (Nat.le_refl _) _)) k' u h) (hS.alloc _))
      simp [execOp, Act.eval, run_lit4, -Array.getD_eq_getD_getElem?]
    · have f0 : ac.tmps.getD 0 undef = .pointer (some ⟨b, 0, none⟩) := same_slot hA 0 (by kernel_rfl)
      refine hop_val rfl (.pointer (some ⟨b, 0, none⟩)) (w' := wx) ?_ (hK _ _ rfl (fun _ _ _ h => h) hS)
      simp [execOp, Act.eval, f0, go_sem, -Array.getD_eq_getD_getElem?]
    · have f29 : ac.tmps.getD 29 undef = .pointer (some ⟨b, 0, none⟩) := (haft ⟨1, .data⟩ (by simp) rfl).2 _ rfl
      refine hop_call rfl Tryz.func7 (by kernel_rfl) (by kernel_rfl) _ _ rfl #[.pointer (some ⟨b, 0, none⟩), .int .i64 4] (by simp only [List.map_toArray, List.map_cons, List.map_nil, Act.eval, f29]) _ (next_ok B b 4 wx hS.1 (by omega) (by omega)) ?_
      rintro e w' ⟨x, x0, x1, rfl, hs'⟩
      obtain ⟨j, rfl⟩ := Int.eq_ofNat_of_zero_le x0
      exact ⟨_, rfl, hK _ _ ⟨j, by omega, rfl⟩ (fun k' u _ h => FS3.kept (KeptBut.st hs') k' u h) (hS.then hs')⟩
    · obtain ⟨LB, e0, hn, hi⟩ := (haft ⟨0, .data⟩ (by simp) rfl).2 _ rfl
      obtain ⟨j, hj, e2⟩ := (haft ⟨2, .data⟩ (by simp) rfl).2 _ rfl
      have f28 : ac.tmps.getD 28 undef = .slice (some ⟨LB, 0, none⟩) 4 4 := e0
      have f30 : ac.tmps.getD 30 undef = .int .i64 j := e2
      obtain ⟨z, z0, z1, hz⟩ := hi j hj
      have j0 : (j : Int) < 4 := by omega
      refine hop_val rfl (.pointer (some ⟨LB, j, none⟩)) (w' := wx) ?_ (hK _ _ ⟨LB, j, z, rfl, hn, z0, z1, hz⟩ (fun _ _ _ h => h) hS)
      simp [execOp, Act.eval, f28, f30, j0, go_sem, -Array.getD_eq_getD_getElem?]
    · obtain ⟨LB, o, z, e3, hn, z0, z1, hz⟩ := (haft ⟨3, .data⟩ (by simp) rfl).2 _ rfl
      have f31 : ac.tmps.getD 31 undef = .pointer (some ⟨LB, o, none⟩) := e3
      refine hop_val rfl (.int .i64 z) (w' := wx) ?_ (hK _ _ ⟨z, rfl, z0, z1⟩ (fun _ _ _ h => h) hS)
      simp [execOp, Act.eval, f31, hz, go_sem, -Array.getD_eq_getD_getElem?]
    · have hlt := hS.1.lt
      refine hop_val rfl (.slice (some ⟨wx.heap.size, 0, none⟩) 3 3) (w' := wx.alloc (.cells #[.int .i64 0, .int .i64 30, .int .i64 90000] 3)) ?_ (hK _ _ ⟨wx.heap.size, rfl, by omega, in3 wx 0 30 90000 90000 (by omega) (by omega) (by omega)⟩ (fun k' u _ h => FS3.kept (KeptBut.of ((Below.refl _ _).alloc (Nat.le_refl _) _)) k' u h) (hS.alloc _))
      simp [execOp, Act.eval, run_lit3, -Array.getD_eq_getD_getElem?]
    · have f0 : ac.tmps.getD 0 undef = .pointer (some ⟨b, 0, none⟩) := same_slot hA 0 (by kernel_rfl)
      refine hop_val rfl (.pointer (some ⟨b, 0, none⟩)) (w' := wx) ?_ (hK _ _ rfl (fun _ _ _ h => h) hS)
      simp [execOp, Act.eval, f0, go_sem, -Array.getD_eq_getD_getElem?]
    · have f34 : ac.tmps.getD 34 undef = .pointer (some ⟨b, 0, none⟩) := (haft ⟨6, .data⟩ (by simp) rfl).2 _ rfl
      refine hop_call rfl Tryz.func7 (by kernel_rfl) (by kernel_rfl) _ _ rfl #[.pointer (some ⟨b, 0, none⟩), .int .i64 3] (by simp only [List.map_toArray, List.map_cons, List.map_nil, Act.eval, f34]) _ (next_ok B b 3 wx hS.1 (by omega) (by omega)) ?_
      rintro e w' ⟨x, x0, x1, rfl, hs'⟩
      obtain ⟨j, rfl⟩ := Int.eq_ofNat_of_zero_le x0
      exact ⟨_, rfl, hK _ _ ⟨j, by omega, rfl⟩ (fun k' u _ h => FS3.kept (KeptBut.st hs') k' u h) (hS.then hs')⟩
    · obtain ⟨LB, e0, hn, hi⟩ := (haft ⟨5, .data⟩ (by simp) rfl).2 _ rfl
      obtain ⟨j, hj, e2⟩ := (haft ⟨7, .data⟩ (by simp) rfl).2 _ rfl
      have f33 : ac.tmps.getD 33 undef = .slice (some ⟨LB, 0, none⟩) 3 3 := e0
      have f35 : ac.tmps.getD 35 undef = .int .i64 j := e2
      obtain ⟨z, z0, z1, hz⟩ := hi j hj
      have j0 : (j : Int) < 3 := by omega
      refine hop_val rfl (.pointer (some ⟨LB, j, none⟩)) (w' := wx) ?_ (hK _ _ ⟨LB, j, z, rfl, hn, z0, z1, hz⟩ (fun _ _ _ h => h) hS)
      simp [execOp, Act.eval, f33, f35, j0, go_sem, -Array.getD_eq_getD_getElem?]
    · obtain ⟨LB, o, z, e3, hn, z0, z1, hz⟩ := (haft ⟨8, .data⟩ (by simp) rfl).2 _ rfl
      have f36 : ac.tmps.getD 36 undef = .pointer (some ⟨LB, o, none⟩) := e3
      refine hop_val rfl (.int .i64 z) (w' := wx) ?_ (hK _ _ ⟨z, rfl, z0, z1⟩ (fun _ _ _ h => h) hS)
      simp [execOp, Act.eval, f36, hz, go_sem, -Array.getD_eq_getD_getElem?]
    · obtain ⟨z, e4, z0, z1⟩ := (haft ⟨4, .data⟩ (by simp) rfl).2 _ rfl
      have f32 : ac.tmps.getD 32 undef = .int .i64 z := e4
      refine hop_val rfl (.int .i64 z) (w' := wx) ?_ (hK _ _ ⟨z, rfl, z0, z1⟩ (fun _ _ _ h => h) hS)
      simp [execOp, Act.eval, f32, go_sem, -Array.getD_eq_getD_getElem?]
    · obtain ⟨z, e4, z0, z1⟩ := (haft ⟨9, .data⟩ (by simp) rfl).2 _ rfl
      have f37 : ac.tmps.getD 37 undef = .int .i64 z := e4
      refine hop_val rfl (.int .i64 z) (w' := wx) ?_ (hK _ _ ⟨z, rfl, z0, z1⟩ (fun _ _ _ h => h) hS)
      simp [execOp, Act.eval, f37, go_sem, -Array.getD_eq_getD_getElem?]
  case hend =>
    intro u wd d hd hS hF
    obtain ⟨p, hp, p0, p1⟩ : ∃ z : Int, u 8 = .int .i64 z ∧ 0 ≤ z ∧ z ≤ 2500000 := hF 10 _ rfl
    obtain ⟨q, hq, q0, q1⟩ : ∃ z : Int, u 9 = .int .i64 z ∧ 0 ≤ z ∧ z ≤ 90000 := hF 11 _ rfl
    have HSd := Lib.hid (HSq.out.then hS)
    have HR4d := Lib.hid (HR4q.out.but hS.2 (by have := hbw.out; omega))
    have HR7d := Lib.hid (HR7q.out.but hS.2 H7.out.1)
    have HFd := Lib.hid (HFq.out.st hS hbw.out)
    clear hF hd hS d HSq HR4q HR7q HFq
    simp only [mixL]
    rw [hp, hq]
    go_wp2_with fail
    refine (nodes1_any wd).mono ?_
    rintro e w5 ⟨rfl, rfl⟩
    go_wp2_with fail
    refine (vector_ok B b 12 q 90000 wd HSd.out.1 (by omega) ⟨q0, q1⟩ (by omega) (by omega)).mono ?_
    rintro e w6 ⟨vv, vl, rfl, hvl, hvb, hvo, hs6⟩
    obtain ⟨g, gc, rfl, hg, hin⟩ := hvo.inr (by omega) hvb
    have HIn : Hid (InR w6 g 12 (-90000) 90000) := by rw [hvl] at hin; exact hin
    have HS6 := Lib.hid (HSd.out.then hs6)
    have HR46 := Lib.hid (HR4d.out.but hs6.2 (by have := hbw.out; omega))
    have HR76 := Lib.hid (HR7d.out.but hs6.2 H7.out.1)
    have HF6 := Lib.hid (HFd.out.st hs6 hbw.out)
    have Hg7 : Hid (g ≠ r7) := by have := HR7d.out.lt; unfold Hid; omega
    rw [hvl]
    clear hvb hvo hs6 hin hg HSd HR4d HR7d HFd hvl
    obtain ⟨base, hbase⟩ : ∃ base, base = w6.heap.size := ⟨_, rfl⟩
    have HW6 : Hid (w6.heap.size ≤ base) := Nat.le_of_eq hbase.symm
    have HRB : Hid (r7 < base) := by unfold Hid; rw [hbase]; exact HR76.out.lt
    have HWB : Hid (w.heap.size ≤ base) := by have := H7.out.2; have := HRB.out; unfold Hid; omega
    have HLp : Hid (LpS w w6 r7 base (.slice none 0 0) (.slice fa fl.length fc) [] w6) := ⟨⟨Nat.le_refl _, fun _ _ _ => rfl⟩, Below.refl _ _, Nat.le_of_eq hbase, OwnI.nil _ _, HR76.out, by simp⟩
    clear hbase HR76
    go_wp2_with fail
    go_loopw [44, 11] (fun kv _ wr => ∃ (i : Nat) (dv : Value) (dl : List Int), kv = .int .i64 i ∧ i ≤ 12 ∧ dl.length = i ∧ Hid (LpS w w6 r7 base dv (.slice fa fl.length fc) dl wr)) (fun kv _ _ => (12 - intOf kv).toNat)
    case atStart => exact ⟨0, _, [], rfl, by omega, rfl, HLp⟩
    case round =>
      clear HLp
      obtain ⟨i, dv, dl, rfl, hi, hl, hs⟩ := hrel
      by_cases hil : i < 12
      · have i0 : (i : Int) < 12 := by omega
        obtain ⟨z, z0, z1, hz⟩ := HIn.out.kept hs.out.kept Hg7.out i hil
        have HZ : Hid (0 ≤ p ∧ p ≤ 2500000 ∧ -90000 ≤ z ∧ z ≤ 90000) := ⟨p0, p1, z0, z1⟩
        have HDl : Hid (dl.length ≤ 12) := by unfold Hid; omega
        have Hdo := Lib.hid hs.out.own
        go_upto_region 7 with fail
        clear hz
        obtain ⟨L, hL⟩ : ∃ L, L = wr.heap.size := ⟨_, rfl⟩
        refine wp_region_slots (by kernel_rfl) 59 rfl (by kernel_rfl) (by kernel_rfl) 48 9 (by kernel_rfl) (SS7 w w6 r7 base L dv (.slice fa fl.length fc) dl) (FS7 r7 base L dv dl p z) ?hS1 ?hop1 ?hend1
        case hS1 => exact ⟨hs.out.kept, hs.out.below.drew, hs.out.size, fun _ => hs.out.own.below (Below.refl _ _).drew, ⟨dv, hs.out.row.drew, fun _ => rfl, fun h => by simp at h⟩, fun _ => hL.symm, fun h => by simp at h⟩
        case hop1 =>
          refine ⟨?_, ?_, ?_, ?_, ?_, ?_, ?_, ?_, ?_, ?_, trivial⟩
          all_goals intro d ac wx hd hcl hS hA haft K hK
          · have f7 : ac.tmps.getD 7 undef = .pointer (some ⟨r7, 0, none⟩) := same_slot hA 7 (by kernel_rfl)
            refine hop_val rfl (.pointer (some ⟨r7, 1, none⟩)) (w' := wx) ?_ (hK _ _ rfl (fun _ _ _ h => h) hS)
            simp [execOp, Act.eval, f7, go_sem, -Array.getD_eq_getD_getElem?]
          · have f48 : ac.tmps.getD 48 undef = .pointer (some ⟨r7, 1, none⟩) := (haft ⟨0, .data⟩ (by simp) rfl).2 _ rfl
            obtain ⟨s1, s2, s3, s4, ⟨x, hx, hx1, hx2⟩, s6, s7⟩ := hS
            obtain rfl := hx1 hd
            have c1 := hx.at 1 rfl
            refine hop_val rfl x (w' := wx) ?_ (hK _ _ rfl (fun _ _ _ h => h) ⟨s1, s2, s3, s4, ⟨x, hx, fun h => by simp at h, hx2⟩, s6, s7⟩)
            obtain ⟨xa, xc, rfl⟩ := Hdo.out.slice
            simp [execOp, Act.eval, f48, c1, go_sem, -Array.getD_eq_getD_getElem?]
          · have f8 : ac.tmps.getD 8 undef = .int .i64 p := same_slot hA 8 (by kernel_rfl)
            refine hop_val rfl (.int .i64 p) (w' := wx) ?_ (hK _ _ rfl (fun _ _ _ h => h) hS)
            simp [execOp, Act.eval, f8, go_sem, -Array.getD_eq_getD_getElem?]
          · have f11 : ac.tmps.getD 11 undef = .int .i64 z := same_slot hA 11 (by kernel_rfl)
            refine hop_val rfl (.int .i64 z) (w' := wx) ?_ (hK _ _ rfl (fun _ _ _ h => h) hS)
            simp [execOp, Act.eval, f11, go_sem, -Array.getD_eq_getD_getElem?]
          · have f50 : ac.tmps.getD 50 undef = .int .i64 p := (haft ⟨2, .data⟩ (by simp) rfl).2 _ rfl
            have f51 : ac.tmps.getD 51 undef = .int .i64 z := (haft ⟨3, .data⟩ (by simp) rfl).2 _ rfl
            refine hop_val rfl (.int .i64 (p + z)) (w' := wx) ?_ (hK _ _ rfl (fun _ _ _ h => h) hS)
            simp [execOp, Act.eval, f50, f51, go_sem, -Array.getD_eq_getD_getElem?]
            exact IntWalk.i64_in _ (by have := HZ.out; omega)
          · have f52 : ac.tmps.getD 52 undef = .int .i64 (p + z) := (haft ⟨4, .data⟩ (by simp) rfl).2 _ rfl
            refine hop_call rfl Tryz.func28 (by kernel_rfl) (by kernel_rfl) _ _ rfl #[.int .i64 (p + z), .int .i64 0, .int .i64 16777216] (by simp only [List.map_toArray, List.map_cons, List.map_nil, Act.eval, f52]) _ (clip_any (p + z) 0 16777216 (by omega) wx) ?_
            rintro e w' ⟨y, y0, y1, rfl, rfl⟩
            exact ⟨_, rfl, hK _ _ ⟨y, rfl, y0, y1⟩ (fun _ _ _ h => h) hS⟩
          · obtain ⟨y, e5, y0, y1⟩ := (haft ⟨5, .data⟩ (by simp) rfl).2 _ rfl
            have f53 : ac.tmps.getD 53 undef = .int .i64 y := e5
            obtain ⟨s1, s2, s3, s4, ⟨x, hx, hx1, hx2⟩, s6, s7⟩ := hS
            have hL := s6 hd
            have hB : Below wx.heap.size wx (wx.alloc (.cells #[.int .i64 y] 3)) := (Below.refl _ _).alloc (Nat.le_refl _) _
            refine hop_val rfl (.slice (some ⟨wx.heap.size, 0, none⟩) 1 1) (w' := wx.alloc (.cells #[.int .i64 y] 3)) ?_ (hK _ _ (by rw [hL]; rfl) (fun k' u _ h => FS7.kept HRB.out (KeptBut.of hB) k' u h) ⟨s1.trans (KeptBut.of hB), s2.trans (hB.mono (Nat.le_trans HWB.out s3)), Nat.le_trans s3 hB.size, fun h => (s4 h).below hB, ⟨x, hx.below hB, hx1, fun h => ?_⟩, fun h => by simp at h, fun _ _ => ⟨y, ?_, y0, y1⟩⟩)
            · simp [execOp, Act.eval, f53, run_lit, -Array.getD_eq_getD_getElem?]
            · obtain ⟨y', o1, o2⟩ := hx2 h
              exact ⟨y', o1.below hB, o2⟩
            · rw [← hL]
              have hh : (wx.alloc (.cells #[.int .i64 y] 3)).heap[wx.heap.size]? = some (.cells #[.int .i64 y] 3 (0, 0)) := heap_alloc_new wx _
              simp only [World.cell?, hh]
              rfl
          · have f49 : ac.tmps.getD 49 undef = dv := (haft ⟨1, .data⟩ (by simp) rfl).2 _ rfl
            have f54 : ac.tmps.getD 54 undef = .slice (some ⟨L, 0, none⟩) 1 1 := (haft ⟨6, .data⟩ (by simp) rfl).2 _ rfl
            obtain ⟨s1, s2, s3, s4, ⟨x, hx, hx1, hx2⟩, s6, s7⟩ := hS
            have d6 := (haft ⟨6, .data⟩ (by simp) rfl).1
            obtain ⟨y, hy, y0, y1⟩ := s7 d6 hd
            have hnews : ∀ j u, [Value.int .i64 y][j]? = some u → wx.cell? ((⟨L, 0, none⟩ : Addr).add j) = some u := by
              intro j u hj
              match j, hj with
              | 0, hj => rw [Go.WideShapes.add_plain]; simp at hj; subst hj; exact hy
              | j + 1, hj => simp at hj
            obtain ⟨v', w', hrun, hown, hbl, hgr⟩ := append_at 34 3 Tryz.underlying34 iinfo rfl (by decide) (s4 hd) ⟨L, 0, none⟩ 1 1 [.int .i64 y] rfl hnews (by intro u hu; simp at hu; subst hu; rfl) (by have := HDl.out; omega) (by omega) (by decide) s3 34
            have hown' : OwnI w' base v' (dl ++ [y]) := by
              unfold OwnI
              rw [List.length_append]
              have e : ics (dl ++ [y]) = ics dl ++ [.int .i64 y] := by simp [ics]
              rw [e]; exact hown
            refine hop_val rfl v' (w' := w') ?_ (hK _ _ ⟨y, hown', y0, y1⟩ (fun k' u hk' h => FS7.any k' (by rintro rfl; rw [hk'] at hd; cases hd) u h) ⟨s1.grown hbl HW6.out, s2.trans (hbl.mono HWB.out), Nat.le_trans s3 hbl.size, fun h => by simp at h, ⟨x, hx.of_block (hbl.block _ HRB.out), hx1, fun h => ?_⟩, fun h => ?_, fun _ h => by simp at h⟩)
            · unfold execOp
              simp only [resolve, invoke, builtin, Sem.run_bind, Sem.run_pure, Result.andThen_ok, List.map_toArray, List.map_cons, List.map_nil, Act.eval, f49, f54, hrun]
            · have h : d 9 = true := h
              have := hcl 9 _ rfl h ⟨7, .data⟩ (by simp) rfl
              rw [this] at hd; cases hd
            · have h : d 6 = false := h
              rw [d6] at h; cases h
          · have f7 : ac.tmps.getD 7 undef = .pointer (some ⟨r7, 0, none⟩) := same_slot hA 7 (by kernel_rfl)
            refine hop_val rfl (.pointer (some ⟨r7, 1, none⟩)) (w' := wx) ?_ (hK _ _ rfl (fun _ _ _ h => h) hS)
            simp [execOp, Act.eval, f7, go_sem, -Array.getD_eq_getD_getElem?]
          · obtain ⟨y, ho, y0, y1⟩ := (haft ⟨7, .data⟩ (by simp) rfl).2 _ rfl
            obtain ⟨va, vc, e7⟩ := ho.slice
            have ho : OwnI wx base (ac.tmps.getD 55 undef) (dl ++ [y]) := ho
            have f55 : ac.tmps.getD 55 undef = .slice va (dl ++ [y]).length vc := e7
            rw [f55] at ho
            have f56 : ac.tmps.getD 56 undef = .pointer (some ⟨r7, 1, none⟩) := (haft ⟨8, .data⟩ (by simp) rfl).2 _ rfl
            obtain ⟨s1, s2, s3, s4, ⟨x, hx, hx1, hx2⟩, s6, s7⟩ := hS
            have d7 := (haft ⟨7, .data⟩ (by simp) rfl).1
            have d6 := (haft ⟨6, .phase⟩ (by simp) rfl).1
            have d1 := (haft ⟨1, .phase⟩ (by simp) rfl).1
            have q0 := hx.at 1 rfl
            have q1 := hx.2.2 1 (by simp)
            refine hop_none rfl (w' := wx.setCell ⟨r7, 1, none⟩ (.slice va (dl ++ [y]).length vc)) ?_ (hK undef _ trivial (fun k' u _ h => FS7.kept HRB.out (KeptBut.set r7 wx 1 _) k' u h) ⟨s1.trans (KeptBut.set r7 wx 1 _), s2.setCell (Nat.le_of_lt H7.out.2) _, by simpa [World.setCell] using s3, fun h => ?_, ⟨_, hx.set 1 (by simp) _, fun h => ?_, fun _ => ⟨y, ho.keptBut (KeptBut.set r7 wx 1 _) HRB.out, y0, y1⟩⟩, fun h => ?_, fun _ h => ?_⟩)
            · simp [execOp, Act.eval, f55, f56, q0, q1, go_sem, -Array.getD_eq_getD_getElem?]
            · have h : d 7 = false := h
              rw [d7] at h; cases h
            · have h : d 1 = false := h
              rw [d1] at h; cases h
            · have h : d 6 = false := h
              rw [d6] at h; cases h
            · have h : d 7 = false := h
              rw [d7] at h; cases h
        case hend1 =>
          intro u2 we d hd hS hF
          obtain ⟨s1, s2, s3, s4, ⟨x, hx, hx1, hx2⟩, s6, s7⟩ := hS
          obtain ⟨y, ho, y0, y1⟩ := hx2 (hd 9 (by simp))
          have HLe : Hid (LpS w w6 r7 base x (.slice fa fl.length fc) (dl ++ [y]) we) := ⟨s1, s2, s3, ho, hx, fun v hv => by
            rcases List.mem_append.1 hv with hv | hv
            · exact hs.out.bnd v hv
            · simp at hv; subst hv; exact ⟨y0, y1⟩⟩
          clear hF hd hx2 s1 s2 s3 s4 s6 s7 hx1 hx ho d hs
          simp only [mixL]
          go_wp2_with fail
          go_roundw
          case rel => exact ⟨i + 1, x, dl ++ [y], by go_num, by omega, by rw [List.length_append, hl]; rfl, HLe⟩
          case measure => simp [intOf]; omega
      · obtain rfl : i = 12 := by omega
        obtain ⟨da, dc, rfl⟩ := hs.out.own.slice
        have HR4e : Hid (RowAt wr w.heap.size [.int .i64 0, .slice none 0 0, .slice none 0 0]) := HR46.out.kept hs.out.kept (by have := H7.out.2; omega)
        have HR7e := Lib.hid hs.out.row
        go_wp2_with (first
          | (refine row_load rfl _ rfl _ rfl _ HR7e.out rowT_s ?_)
          | (refine row_store rfl _ _ rfl _ rfl _ [.int .i64 1, .slice da dl.length dc, .slice fa fl.length fc] rfl HR4e.out rfl rowT_s (by intro v hv; simp at hv; rcases hv with rfl | rfl | rfl <;> rfl) ?_; intro w8 e8 h8))
        refine ret_row rfl _ _ e8 rowT_s rfl rfl ?_
        have hk8 : KeptBut w.heap.size wr w8 := ⟨Nat.le_of_eq h8.2.2.2.1.symm, fun k _ hn => h8.2.2.2.2 k hn⟩
        refine ⟨_, _, dl, fl, rfl, hl, hs.out.bnd, by rw [HFb.out.1]; exact hen, HFb.out.2, ?_, ?_, ?_⟩
        · exact (hs.out.own.keptBut hk8 (by have := H7.out.2; have := HRB.out; omega)).mono HWB.out
        · exact (HF6.out.keptNe hs.out.kept (fun g hg => by have := HFg.out g hg; omega)).keptNe hk8 (fun g hg => by have := HFg.out g hg; omega)
        · exact (HS6.out.grown hs.out.below hbw.out (Nat.le_refl _)).grown (h8.below (Nat.le_refl _)) hbw.out (Nat.le_refl _)
end Go.Proofs.YtmmmebdgannpgaaGreatDoor
/- New of synopticfield: a reader of the first choices of a list that came in. -/
namespace Go.Proofs.YtmmmebdgannpgaaGreatDoor
open Go Go.RowKit

/-- A list of bytes that came in, below block B. -/
def U8At (w : World) (B : Nat) (v : Value) : Prop :=
  ∃ (a : Option Addr) (len cap : Nat), v = .slice a len cap ∧ len ≤ cap ∧ cap ≤ 9223372036854775807 ∧
    ∀ i, i < len → ∃ ab ao : Nat, a = some ⟨ab, ao, none⟩ ∧ ab < B ∧ ∃ z : Int, 0 ≤ z ∧ z ≤ 255 ∧ w.cell? ⟨ab, ao + i, none⟩ = some (.int .u8 z)
theorem U8At.below {w w' : World} {B : Nat} {v : Value} (h : U8At w B v) (hb : Below w.heap.size w w') : U8At w' B v := by
  obtain ⟨a, len, cap, e, h1, h2, h3⟩ := h
  refine ⟨a, len, cap, e, h1, h2, fun i hi => ?_⟩
  obtain ⟨ab, ao, ha, hB, z, z0, z1, hc⟩ := h3 i hi
  refine ⟨ab, ao, ha, hB, z, z0, z1, ?_⟩
  rw [hb.cell (World.block_lt_of_cell? _ _ hc)]; exact hc
/-- A new reader. -/
def NewCodes (B : Nat) (w : World) (e : Ending) (w' : World) : Prop := e = .returned (.pointer (some ⟨w.heap.size, 0, none⟩)) ∧ CodesIs w' B w.heap.size ∧ Below w.heap.size w w' ∧ w'.heap.size = w.heap.size + 1
set_option maxHeartbeats 1000000 in
theorem cnew_ok (v : Value) (m : Nat) (B : Nat) (w : World) (hB : B ≤ w.heap.size) (hm : m ≤ 1000) (h : U8At w B v) : Calls Tryz.prog 5 #[v, .int .i64 m] w (NewCodes B w) := by
  obtain ⟨a, len, cap, rfl, hlc, hc, hel⟩ := h
  have Hel := Lib.hid hel
  have fin : ∀ (k : Nat), k ≤ len → k ≤ 1000 → NewCodes B w (.returned (.pointer (some ⟨w.heap.size, 0, none⟩))) (w.alloc (.cells #[.slice a k cap, .int .i64 0] 69)) := by
    intro k hk hk2
    have hb : Below w.heap.size w (w.alloc (.cells #[.slice a k cap, .int .i64 0] 69)) := (Below.refl _ _).alloc (Nat.le_refl _) _
    refine ⟨rfl, ⟨a, k, cap, 0, hB, by simp, by simp, by simp, by omega, hk2, fun i _ hi => ?_⟩, hb, by simp⟩
    obtain ⟨ab, ao, ha, hlt, z, z0, z1, hcell⟩ := Hel.out i (by omega)
    refine ⟨ab, ao, ha, hlt, z, z0, z1, ?_⟩
    rw [hb.cell (World.block_lt_of_cell? _ _ hcell), hcell]
  have Hfin := Lib.hid fin
  clear fin hel
  by_cases hlt : m < len
  · have hlt' : (m : Int) < (len : Int) := by omega
    go_enter Tryz.func5, Tryz.ntmps5
    go_wp2_with fail
    go_ret
    exact Hfin.out m (by omega) hm
  · go_enter Tryz.func5, Tryz.ntmps5
    go_wp2_with fail
    go_ret
    exact Hfin.out len (Nat.le_refl _) (by omega)
end Go.Proofs.YtmmmebdgannpgaaGreatDoor
