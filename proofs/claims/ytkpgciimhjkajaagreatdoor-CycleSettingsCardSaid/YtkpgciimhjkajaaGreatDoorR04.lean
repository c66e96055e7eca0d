/- Part 4 of the proof: laws on memory and what functions of the program return. No conditions but those that each theorem names. -/
import Derived.Test.YtkpgciimhjkajaaGreatDoorR03
import Derived.Deep.Upon
import Derived.BigQuiet
import Derived.Deep.QuietTactic
set_option linter.unusedVariables false
set_option linter.unusedSimpArgs false
/- The reference's grid at any frequency: a cell is put among cells. -/
namespace Go.Proofs.YtkpgciimhjkajaaGreatDoor
open Go Go.RowKit
def cutCur (cur : List Value) (o k n : Nat) : List Value := cur.take o ++ (cur.drop (k * 3)).take ((n - k) * 3) ++ cur.drop (o + ((cur.drop (k * 3)).take ((n - k) * 3)).length)
def setCur (cur : List Value) (k : Nat) (c : List Value) : List Value := match c with
  | [x, y, z] => ((cur.set (k * 3) x).set (k * 3 + 1) y).set (k * 3 + 1 + 1) z
  | _ => cur
theorem cutCur_at (cur : List Value) (n k o cap : Nat) (hk : k ≤ n) (hl : cur.length = cap * 3) (hcap : n + 1 ≤ cap) (ho : o = if k + 1 = cap then 0 else (k + 1) * 3) (i : Nat) (hi : i < (n + 1) * 3) :
    (cutCur cur o k n)[i]? = if i < (k + 1) * 3 then cur[i]? else cur[i - 3]? := by
  have hlen : ((cur.drop (k * 3)).take ((n - k) * 3)).length = (n - k) * 3 := by rw [List.length_take, List.length_drop]; omega
  unfold cutCur
  by_cases hkc : k + 1 = cap
  · rw [if_pos hkc] at ho
    subst ho
    have hnk : n - k = 0 := by omega
    rw [hnk, if_pos (by omega)]
    simp
  · rw [if_neg hkc] at ho
    have htk : (cur.take o).length = o := by rw [List.length_take]; omega
    rw [List.append_assoc]
    by_cases h1 : i < o
    · rw [List.getElem?_append_left (by rw [htk]; exact h1), List.getElem?_take_of_lt h1, if_pos (by omega)]
    · rw [List.getElem?_append_right (by rw [htk]; omega), htk, if_neg (by omega)]
      rw [List.getElem?_append_left (by rw [hlen]; omega), List.getElem?_take_of_lt (by omega), List.getElem?_drop]
      congr 1; omega
theorem copy_exact (cur : List Value) (l : List Tri) (t : Tri) (n k o cap : Nat) (hn : l.length = n) (hkp : k = posT l t n) (hk : k ≤ n) (hl : cur.length = cap * 3) (hsm : cur.take ((n + 1) * 3) = tcells (l ++ [(0, 0, 0)])) (hcap : n + 1 ≤ cap) (ho : o = if k + 1 = cap then 0 else (k + 1) * 3) :
    ((cur.drop (k * 3)).take ((n - k) * 3)).length = (n - k) * 3 ∧ o + ((cur.drop (k * 3)).take ((n - k) * 3)).length ≤ cur.toArray.size ∧ (∀ v ∈ (cur.drop (k * 3)).take ((n - k) * 3), v.oneCell' = true) ∧
      (cutCur cur o k n).length = cap * 3 ∧ (setCur (cutCur cur o k n) k (tcl t)).take ((n + 1) * 3) = tcells (insT l t) := by
  have hlen : ((cur.drop (k * 3)).take ((n - k) * 3)).length = (n - k) * 3 := by rw [List.length_take, List.length_drop]; omega
  have ho2 : o + (n - k) * 3 ≤ cap * 3 := by rw [ho]; split <;> omega
  have htk : (cur.take o).length = o := by rw [List.length_take]; omega
  have hC : ∀ i, i < n * 3 → cur[i]? = (tcells l)[i]? := fun i hi => by
    have h1 : (cur.take ((n + 1) * 3))[i]? = cur[i]? := List.getElem?_take_of_lt (by omega)
    rw [← h1, hsm, tcells_append, List.getElem?_append_left (by rw [tcells_length]; omega)]
  have hcl : (cutCur cur o k n).length = cap * 3 := by
    unfold cutCur
    rw [List.length_append, List.length_append, htk, List.length_drop, hlen]; omega
  refine ⟨hlen, by rw [hlen, List.size_toArray, hl]; exact ho2, fun v hv => ?_, hcl, ?_⟩
  · obtain ⟨j, hj, rfl⟩ := List.getElem_of_mem hv
    rw [hlen] at hj
    have h1 : ((cur.drop (k * 3)).take ((n - k) * 3))[j]? = (tcells l)[k * 3 + j]? := by
      rw [List.getElem?_take_of_lt hj, List.getElem?_drop]; exact hC _ (by omega)
    rw [List.getElem?_eq_getElem (by rw [hlen]; exact hj)] at h1
    exact tcells_one l _ (List.mem_of_getElem? h1.symm)
  · have e : tcells (insT l t) = (tcells l).take (k * 3) ++ (tcl t ++ (tcells l).drop (k * 3)) := by
      unfold insT
      rw [hn, ← hkp, tcells_append, tcells_take, tcells_drop]
      rfl
    rw [e]
    have h2 : setCur (cutCur cur o k n) k (tcl t) = (((cutCur cur o k n).set (k * 3) (.int .i64 (t.1 : Int))).set (k * 3 + 1) (.int .i64 (t.2.1 : Int))).set (k * 3 + 1 + 1) (.int .i64 (t.2.2 : Int)) := rfl
    rw [h2]
    apply List.ext_getElem?
    intro i
    by_cases hi : i < (n + 1) * 3
    · rw [List.getElem?_take_of_lt hi]
      have hca := cutCur_at cur n k o cap hk hl hcap ho i hi
      have htl : ((tcells l).take (k * 3)).length = k * 3 := by rw [List.length_take, tcells_length]; omega
      by_cases h1 : i < k * 3
      · rw [List.getElem?_set_ne (by omega), List.getElem?_set_ne (by omega), List.getElem?_set_ne (by omega), hca, if_pos (by omega), hC i (by omega), List.getElem?_append_left (by rw [htl]; exact h1), List.getElem?_take_of_lt h1]
      · rw [List.getElem?_append_right (by rw [htl]; omega), htl]
        by_cases h3 : i < k * 3 + 3
        · rw [List.getElem?_append_left (by show _ < 3; omega)]
          have : i = k * 3 ∨ i = k * 3 + 1 ∨ i = k * 3 + 1 + 1 := by omega
          rcases this with rfl | rfl | rfl
          · rw [List.getElem?_set_ne (by omega), List.getElem?_set_ne (by omega), List.getElem?_set_self (by omega), Nat.sub_self]; rfl
          · rw [List.getElem?_set_ne (by omega), List.getElem?_set_self (by rw [List.length_set]; omega), show k * 3 + 1 - k * 3 = 1 by omega]; rfl
          · rw [List.getElem?_set_self (by rw [List.length_set, List.length_set]; omega), show k * 3 + 1 + 1 - k * 3 = 2 by omega]; rfl
        · rw [List.getElem?_append_right (by show 3 ≤ _; omega), List.getElem?_set_ne (by omega), List.getElem?_set_ne (by omega), List.getElem?_set_ne (by omega), hca, if_neg (by omega), hC _ (by omega), List.getElem?_drop]
          congr 1
          show _ = _ + (_ - 3)
          omega
    · rw [List.getElem?_eq_none (by rw [List.length_take]; omega), List.getElem?_eq_none]
      rw [List.length_append, List.length_take, List.length_append, List.length_drop, tcells_length]
      show _ ≤ _
      have : (tcl t).length = 3 := rfl
      omega
set_option maxHeartbeats 16000000 in
set_option maxRecDepth 100000 in
theorem insert_n (v : Value) (base : Nat) (l : List Tri) (t : Tri) (hn : l.length ≤ 4000) (w : World) (hv : OwnT w base v l) (hb : base ≤ w.heap.size) :
    Calls Tryz.prog 79 #[v, Tri.val t] w fun e w' => ∃ v', e = .returned v' ∧ OwnT w' base v' (insT l t) ∧ Below base w w' := by
  obtain ⟨x, hx⟩ : ∃ x : Int, x = (t.1 : Int) := ⟨_, rfl⟩
  obtain ⟨y, hy⟩ : ∃ y : Int, y = (t.2.1 : Int) := ⟨_, rfl⟩
  obtain ⟨z, hz⟩ : ∃ z : Int, z = (t.2.2 : Int) := ⟨_, rfl⟩
  have HT : Hid (tcl t = [.int .i64 x, .int .i64 y, .int .i64 z]) := by unfold Hid tcl; rw [hx, hy, hz]
  have HLt : Hid (∀ u : Tri, LtT t u ↔ (x < (u.1 : Int) ∨ (x = (u.1 : Int) ∧ (y < (u.2.1 : Int) ∨ (y = (u.2.1 : Int) ∧ z < (u.2.2 : Int)))))) := by
    intro u; unfold LtT; rw [hx, hy, hz]; omega
  obtain ⟨n, hnl⟩ : ∃ n, n = l.length := ⟨_, rfl⟩
  obtain ⟨K, hK⟩ : ∃ K, K = posT l t n := ⟨_, rfl⟩
  have HK : Hid (K = posT l t n ∧ K ≤ n ∧ n = l.length) := ⟨hK, by rw [hK]; exact posT_le l t n, hnl⟩
  unfold Tri.val
  rw [← hx, ← hy, ← hz]
  rw [← hnl] at hn
  clear hx hy hz hK
  have HR0 : Hid (Box (w.alloc (.cells #[.int .i64 x, .int .i64 y, .int .i64 z] 114)) w.heap.size x y z) := heap_alloc_new w _
  have HOb : Hid (v.ownBlock ≠ some w.heap.size) := fun e => by have := hv.lt _ e; omega
  have HO0 := Lib.hid (hv.below ((Below.refl _ _).alloc (Nat.le_refl _) (.cells #[.int .i64 x, .int .i64 y, .int .i64 z] 114)))
  have HB := Lib.hid hb
  have HN := Lib.hid hn
  obtain ⟨va, vc, rfl⟩ := hv.slice
  rw [← hnl] at HO0 HOb ⊢
  clear hnl
  clear hv hb
  have n0 : (n : Int) ≤ 4000 := by omega
  obtain ⟨w0, hw0⟩ : ∃ w0, w0 = w.alloc (.cells #[.int .i64 x, .int .i64 y, .int .i64 z] 114) := ⟨_, rfl⟩
  have Hw0 : Hid (Below base w w0 ∧ base ≤ w0.heap.size) := by
    unfold Hid; rw [hw0]; exact ⟨(Below.refl _ _).alloc HB.out _, by simp; have := HB.out; omega⟩
  rw [← hw0] at HR0 HO0
  go_enter Tryz.func79, Tryz.ntmps79
  go_upto_block 0 with fail
  rw [← hw0]
  clear hw0
  go_cut [5] (fun kv wx => kv = .int .i64 K ∧ OwnT wx base (.slice va n vc) l ∧ Box wx w.heap.size x y z ∧ Below base w wx ∧ base ≤ wx.heap.size)
  case first =>
    go_wp2_with fail
    go_loopw [5] (fun kv wr => ∃ k : Nat, k ≤ n ∧ kv = .int .i64 k ∧ Hid (posT l t k = K) ∧ Hid (OwnT wr base (.slice va n vc) l) ∧ Hid (Box wr w.heap.size x y z) ∧ Hid (Below base w wr ∧ base ≤ wr.heap.size)) (fun kv _ => (intOf kv).toNat)
    case atStart => exact ⟨n, Nat.le_refl _, rfl, HK.out.1.symm, HO0, HR0, Hw0⟩
    case round =>
      clear HO0 HR0 Hw0
      obtain ⟨k, hk, rfl, hpos, ho, hr, hb⟩ := hrel
      by_cases hk0 : 0 < k
      · obtain ⟨g, cap, he, hg, hcap, hcm, hc⟩ := ho.out.at (by have := HK.out.2.2; omega)
        rw [← HK.out.2.2] at he hcap
        obtain ⟨rfl, rfl⟩ : va = some ⟨g, 0, none⟩ ∧ vc = cap := by simpa using he
        have hkl : k - 1 < l.length := by have := HK.out.2.2; omega
        have hcc := hc (k - 1) hkl
        have HU := Lib.hid (HLt.out l[k - 1])
        have HG : Hid (l.getD (k - 1) (0, 0, 0) = l[k - 1]) := by unfold Hid; rw [List.getD_eq_getElem?_getD, List.getElem?_eq_getElem hkl]; rfl
        clear hc
        generalize l[k - 1] = u at *
        obtain ⟨p, hpe⟩ : ∃ p : Int, p = (u.1 : Int) := ⟨_, rfl⟩
        obtain ⟨q, hqe⟩ : ∃ p : Int, p = (u.2.1 : Int) := ⟨_, rfl⟩
        obtain ⟨r, hre⟩ : ∃ p : Int, p = (u.2.2 : Int) := ⟨_, rfl⟩
        have hp : wr.cell? ⟨g, (k - 1) * 3, none⟩ = some (.int .i64 p) := by rw [hpe]; exact hcc 0 _ rfl
        have hq : wr.cell? ⟨g, (k - 1) * 3 + 1, none⟩ = some (.int .i64 q) := by rw [hqe]; exact hcc 1 _ rfl
        have hrr : wr.cell? ⟨g, (k - 1) * 3 + 2, none⟩ = some (.int .i64 r) := by rw [hre]; exact hcc 2 _ rfl
        rw [← hpe, ← hqe, ← hre] at HU
        clear hcc hkl hpe hqe hre
        have x0 := hr.out.row.at 0 rfl
        have x1 := hr.out.row.at 1 rfl
        have x2 := hr.out.row.at 2 rfl
        obtain ⟨j, rfl⟩ : ∃ j, k = j + 1 := ⟨k - 1, by omega⟩
        simp only [Nat.add_sub_cancel] at hp hq hrr HG
        have HGo : Hid ((x < p ∨ (x = p ∧ (y < q ∨ (y = q ∧ z < r)))) → posT l t j = K) := fun h => by
          rw [← posT_step (by rw [HG.out]; exact HU.out.2 h)]; exact hpos.out
        have HStop : Hid (¬ (x < p ∨ (x = p ∧ (y < q ∨ (y = q ∧ z < r)))) → K = j + 1) := fun h => by
          have := hpos.out
          rw [posT_stop (by rw [HG.out]; exact fun h' => h (HU.out.1 h'))] at this; exact this.symm
        clear HU HG hpos
        have Hk := Lib.hid hk
        have k0 : (0 : Int) ≤ (j : Int) := by omega
        have k1 : (j : Int) < (n : Int) := by omega
        have k2 : ((j + 1 : Nat) : Int) = (j : Int) + 1 := by omega
        have k3 : ((j : Int) + 1 - 1) = (j : Int) := by omega
        have k4 : (0 : Int) < (j : Int) + 1 := by omega
        clear he hg hk hk0
        rw [k2]
        have hcase : x < p ∨ (p < x) ∨ (x = p ∧ (y < q ∨ q < y ∨ (y = q ∧ (z < r ∨ r ≤ z)))) := by omega
        rcases hcase with h1 | h1 | ⟨rfl, h1 | h1 | ⟨rfl, h1 | h1⟩⟩
        · go_wp2_with fail
          go_region
          go_wp2_with fail
          go_roundw
          case rel => exact ⟨j, by have := Hk.out; omega, rfl, HGo.out (by first | omega | simp [h1]), ho.out.below (Below.refl _ _).drew, hr.out, ⟨hb.out.1.drew, hb.out.2⟩⟩
          case measure => simp [intOf]
        · have e1 : (x == p) = false := by simp; omega
          have e0 : decide (x < p) = false := by simp; omega
          have e2 : p ≤ x := by omega
          go_wp2_with fail
          go_region
          go_wp2_with fail
          go_meet
          exact ⟨by rw [HStop.out (by omega), k2], ho.out.below (Below.refl _ _).drew, hr.out, hb.out.1.drew, hb.out.2⟩
        · go_wp2_with fail
          go_region
          go_wp2_with fail
          go_roundw
          case rel => exact ⟨j, by have := Hk.out; omega, rfl, HGo.out (by first | omega | simp [h1]), ho.out.below (Below.refl _ _).drew, hr.out, ⟨hb.out.1.drew, hb.out.2⟩⟩
          case measure => simp [intOf]
        · have e1 : (y == q) = false := by simp; omega
          have e0 : decide (y < q) = false := by simp; omega
          have e2 : q ≤ y := by omega
          go_wp2_with fail
          go_region
          go_wp2_with fail
          go_meet
          exact ⟨by rw [HStop.out (by omega), k2], ho.out.below (Below.refl _ _).drew, hr.out, hb.out.1.drew, hb.out.2⟩
        · go_wp2_with fail
          go_region
          go_wp2_with fail
          go_roundw
          case rel => exact ⟨j, by have := Hk.out; omega, rfl, HGo.out (by first | omega | simp [h1]), ho.out.below (Below.refl _ _).drew, hr.out, ⟨hb.out.1.drew, hb.out.2⟩⟩
          case measure => simp [intOf]
        · go_wp2_with fail
          go_region
          go_wp2_with fail
          go_meet
          exact ⟨by rw [HStop.out (by omega), k2], ho.out.below (Below.refl _ _).drew, hr.out, hb.out.1.drew, hb.out.2⟩
      · obtain rfl : k = 0 := by omega
        go_wp2_with fail
        go_region
        go_wp2_with fail
        go_meet
        exact ⟨by rw [← hpos.out]; rfl, ho.out.below (Below.refl _ _).drew, hr.out, hb.out.1.drew, hb.out.2⟩
  case rest =>
    obtain ⟨rfl, ho, hr, hb1, hb2⟩ := hcut
    obtain ⟨k, hkK⟩ : ∃ k, k = K := ⟨_, rfl⟩
    subst hkK
    have hk : k ≤ n := HK.out.2.1
    have Hk := Lib.hid hk
    have HAp : Hid (∃ (v' : Value) (w' : World), (Builtin.append_ #[110, 110] 110 #[.slice va n vc, .slice (some ⟨wc.heap.size, 0, none⟩) 1 1]).run Tryz.prog (wc.alloc (.cells #[.int .i64 0, .int .i64 0, .int .i64 0] 114)) = .ok v' w' ∧
        OwnT w' base v' (l ++ [(0, 0, 0)]) ∧ Box w' w.heap.size x y z ∧ v'.ownBlock ≠ some w.heap.size ∧ Below base w w' ∧ Hid (base ≤ w'.heap.size)) := by
      obtain ⟨v', w', a1, a2, a3, a4, a5⟩ := append_tr ho hr HOb.out (by have := HN.out; have := HK.out.2.2; omega) hb2 110
      exact ⟨v', w', a1, a2, a3, a4, hb1.trans a5, Nat.le_trans hb2 a5.size⟩
    have k0 : (0 : Int) ≤ (k : Int) := by omega
    have k1 : (k : Int) ≤ 4000 := by have := HN.out; omega
    clear hk ho hr hb1 hb2
    go_upto_region 5 with (at_builtin; obtain ⟨v', w', hrun, hown, hbx, hob, hbl, hsz⟩ := HAp.out; have Hrun := Lib.hid hrun; have Hown := Lib.hid hown; have Hbx := Lib.hid hbx; have Hob := Lib.hid hob; have Hbl := Lib.hid hbl; have Hsz := Lib.hid hsz; clear hrun hown hbx hob hbl hsz; refine wpList_append_run rfl _ _ _ rfl _ _ _ _ rfl rfl Hrun.out ?_)
    obtain ⟨g, cap, cur, rfl, hg, hh, hcap, hcm, hcl, hsm⟩ := Hown.out.raw (by simp)
    have hl1 : (l ++ [((0, 0, 0) : Tri)]).length = n + 1 := by rw [List.length_append, ← HK.out.2.2]; rfl
    rw [hl1] at hsm hcap ⊢
    have Hgb : Hid (g ≠ w.heap.size) := by have h := Hob.out; intro e; apply h; rw [e]; rfl
    -- where the copy goes
    have hk' := Hk.out
    obtain ⟨o, ho⟩ : ∃ o, o = if k + 1 = cap then 0 else (k + 1) * 3 := ⟨_, rfl⟩
    have Ho := Lib.hid ho
    have Hk1 : Hid (IntKind.i64.wrap ((k : Int) + 1) = (k : Int) + 1) := IntWalk.i64_in _ (by omega)
    have Hsl3 : Hid ((0 ≤ (k : Int) + 1 ∧ k ≤ n) ∧ (if cap = k + 1 then (some ⟨g, 0, none⟩ : Option Addr) else some ⟨g, (k + 1) * 3, none⟩) = some ⟨g, o, none⟩) := by
      refine ⟨⟨by omega, hk'⟩, ?_⟩
      rw [ho]
      by_cases h : k + 1 = cap
      · rw [if_pos h.symm, if_pos h]
      · rw [if_neg (fun e => h e.symm), if_neg h]
    have Hsl6 : Hid ((k : Int) ≤ (n : Int) + 1 ∧ (if cap = k then (some ⟨g, 0, none⟩ : Option Addr) else some ⟨g, k * 3, none⟩) = some ⟨g, k * 3, none⟩) := by
      refine ⟨by omega, ?_⟩
      rw [if_neg (by omega)]
    have Hgb2 : Hid (base ≤ g) := hg
    have Hmin : Hid (n - k = Nat.min (n + 1 - k) (n - k)) := by unfold Hid; show n - k = min _ _; omega
    have Hcs := Lib.hid (copy_exact cur l t n k o cap HK.out.2.2.symm HK.out.1 hk' hcl hsm hcap ho)
    clear ho
    refine wp_region_slots (by kernel_rfl) 84 rfl (by kernel_rfl) (by kernel_rfl) 71 8 (by kernel_rfl) (fun d w' => w'.heap[g]? = some (.cells (if d 7 = true then (cutCur cur o k n).toArray else cur.toArray) 114 (0, 0)) ∧ Box w' w.heap.size x y z ∧ Below base w w' ∧ base ≤ w'.heap.size) (FCp g o k n cap) ?hS0 ?hop ?hend
    case hS0 => exact ⟨hh, Hbx.out, Hbl.out.drew, Hsz.out⟩
    case hop =>
      refine ⟨?_, ?_, ?_, ?_, ?_, ?_, ?_, ?_, trivial⟩
      all_goals intro d ac wx hd hcl hS hA haft K hK
      · have f0 : ac.tmps.getD 0 undef = .slice (some ⟨g, 0, none⟩) (n + 1) cap := same_slot hA 0 (by kernel_rfl)
        refine hop_val rfl (.slice (some ⟨g, 0, none⟩) (n + 1) cap) (w' := wx) ?_ (hK _ _ rfl (fun _ _ _ h => h) hS)
        simp [execOp, Act.eval, f0, go_sem, -Array.getD_eq_getD_getElem?]
      · have f5 : ac.tmps.getD 5 undef = .int .i64 k := same_slot hA 5 (by kernel_rfl)
        refine hop_val rfl (.int .i64 k) (w' := wx) ?_ (hK _ _ rfl (fun _ _ _ h => h) hS)
        simp [execOp, Act.eval, f5, go_sem, -Array.getD_eq_getD_getElem?]
      · have f72 : ac.tmps.getD 72 undef = .int .i64 k := (haft ⟨1, .data⟩ (by simp) rfl).2 _ rfl
        refine hop_val rfl (.int .i64 ((k : Int) + 1)) (w' := wx) ?_ (hK _ _ rfl (fun _ _ _ h => h) hS)
        simp [execOp, Act.eval, f72, go_sem, -Array.getD_eq_getD_getElem?]
        exact Hk1.out
      · have f71 : ac.tmps.getD 71 undef = .slice (some ⟨g, 0, none⟩) (n + 1) cap := (haft ⟨0, .data⟩ (by simp) rfl).2 _ rfl
        have f73 : ac.tmps.getD 73 undef = .int .i64 ((k : Int) + 1) := (haft ⟨2, .data⟩ (by simp) rfl).2 _ rfl
        refine hop_val rfl (.slice (some ⟨g, o, none⟩) (n - k) (cap - (k + 1))) (w' := wx) ?_ (hK _ _ rfl (fun _ _ _ h => h) hS)
        simp [execOp, Act.eval, f71, f73, go_sem, -Array.getD_eq_getD_getElem?]
        rw [if_pos Hsl3.out.1, Hsl3.out.2]
      · have f0 : ac.tmps.getD 0 undef = .slice (some ⟨g, 0, none⟩) (n + 1) cap := same_slot hA 0 (by kernel_rfl)
        refine hop_val rfl (.slice (some ⟨g, 0, none⟩) (n + 1) cap) (w' := wx) ?_ (hK _ _ rfl (fun _ _ _ h => h) hS)
        simp [execOp, Act.eval, f0, go_sem, -Array.getD_eq_getD_getElem?]
      · have f5 : ac.tmps.getD 5 undef = .int .i64 k := same_slot hA 5 (by kernel_rfl)
        refine hop_val rfl (.int .i64 k) (w' := wx) ?_ (hK _ _ rfl (fun _ _ _ h => h) hS)
        simp [execOp, Act.eval, f5, go_sem, -Array.getD_eq_getD_getElem?]
      · have f75 : ac.tmps.getD 75 undef = .slice (some ⟨g, 0, none⟩) (n + 1) cap := (haft ⟨4, .data⟩ (by simp) rfl).2 _ rfl
        have f76 : ac.tmps.getD 76 undef = .int .i64 k := (haft ⟨5, .data⟩ (by simp) rfl).2 _ rfl
        refine hop_val rfl (.slice (some ⟨g, k * 3, none⟩) (n + 1 - k) (cap - k)) (w' := wx) ?_ (hK _ _ rfl (fun _ _ _ h => h) hS)
        simp [execOp, Act.eval, f75, f76, go_sem, -Array.getD_eq_getD_getElem?]
        rw [if_pos Hsl6.out.1, Hsl6.out.2]
      · have f74 : ac.tmps.getD 74 undef = .slice (some ⟨g, o, none⟩) (n - k) (cap - (k + 1)) := (haft ⟨3, .data⟩ (by simp) rfl).2 _ rfl
        have f77 : ac.tmps.getD 77 undef = .slice (some ⟨g, k * 3, none⟩) (n + 1 - k) (cap - k) := (haft ⟨6, .data⟩ (by simp) rfl).2 _ rfl
        have hh' : wx.heap[g]? = some (.cells cur.toArray 114 (0, 0)) := by have := hS.1; rw [if_neg (by rw [hd]; simp)] at this; exact this
        have hrun : (Builtin.copy_ #[110, 110] 3 #[.slice (some ⟨g, o, none⟩) (n - k) (cap - (k + 1)), .slice (some ⟨g, k * 3, none⟩) (n + 1 - k) (cap - k)]).run Tryz.prog wx = .ok (goInt (n - k : Nat)) (wx.setRow g (cutCur cur o k n).toArray) := run_copy_rowN (P := Tryz.prog) wx 110 110 3 114 g o (n - k) (cap - (k + 1)) ⟨g, k * 3, none⟩ (n + 1 - k) (cap - k) 3 (n - k) cur.toArray _ _ Tryz.underlying110 rowT_c.1 hh' Hmin.out Hcs.out.1 (fun j u hj => copy_src hh' hj) Hcs.out.2.1 Hcs.out.2.2.1
        refine hop_val rfl (goInt (n - k : Nat)) (w' := wx.setRow g (cutCur cur o k n).toArray) ?_ (hK _ _ trivial (fun _ _ _ h => h) ⟨?_, ?_, below_setRow hS.2.2.1 hg _, ?_⟩)
        · unfold execOp
          simp only [resolve, invoke, builtin, Sem.run_bind, Sem.run_pure, Result.andThen_ok, List.map_toArray, List.map_cons, List.map_nil, Act.eval, f74, f77, hrun]
        · rw [setRow_heap _ _ _ _ _ _ hh', if_pos (by simp)]
        · unfold Box; rw [setRow_other _ _ _ _ (Ne.symm Hgb.out)]; exact hS.2.1
        · rw [setRow_size]; exact hS.2.2.2
    case hend =>
      intro u w5 d hd hS hF
      obtain ⟨ho5, hx5, hb5, hs5⟩ := hS
      rw [if_pos (hd 7 (by decide))] at ho5
      have HO5 := Lib.hid ho5
      have HX5 := Lib.hid hx5
      have HB5 := Lib.hid hb5
      have Hth : Hid (w5.there g (k * 3) 3) := by
        intro j hj
        have hlc : k * 3 + j < (cutCur cur o k n).length := by have := Hcs.out.2.2.2.1; omega
        refine ⟨?_, ?_⟩
        · simp [World.cell?, ho5, hlc]
        · simp [World.frozen?, ho5]
      have k2 : (k : Int) < (n : Int) + 1 := by omega
      have H1 : Hid ((#[Value.int .i64 x, .int .i64 y, .int .i64 z]).all (·.oneCell') = true) := by unfold Hid; simp [Value.oneCell']
      have HFin : Hid (OwnT (((w5.setCell ⟨g, k * 3, none⟩ (.int .i64 x)).setCell ⟨g, k * 3 + 1, none⟩ (.int .i64 y)).setCell ⟨g, k * 3 + 1 + 1, none⟩ (.int .i64 z)) base (.slice (some ⟨g, 0, none⟩) (n + 1) cap) (insT l t)) := by
        have e1 := setCell_eq_setRow w5 g (k * 3) _ _ _ (.int .i64 x) ho5
        have h1 : (w5.setCell ⟨g, k * 3, none⟩ (.int .i64 x)).heap[g]? = some (.cells ((cutCur cur o k n).set (k * 3) (.int .i64 x)).toArray 114 (0, 0)) := by
          rw [e1, setRow_heap _ _ _ _ _ _ ho5]; simp
        have e2 := setCell_eq_setRow (w5.setCell ⟨g, k * 3, none⟩ (.int .i64 x)) g (k * 3 + 1) _ _ _ (.int .i64 y) h1
        have h2 : ((w5.setCell ⟨g, k * 3, none⟩ (.int .i64 x)).setCell ⟨g, k * 3 + 1, none⟩ (.int .i64 y)).heap[g]? = some (.cells (((cutCur cur o k n).set (k * 3) (.int .i64 x)).set (k * 3 + 1) (.int .i64 y)).toArray 114 (0, 0)) := by
          rw [e2, setRow_heap _ _ _ _ _ _ h1]; simp
        rw [setCell_eq_setRow _ g (k * 3 + 1 + 1) _ _ _ (.int .i64 z) h2]
        have e3 : (((cutCur cur o k n).set (k * 3) (Value.int .i64 x)).set (k * 3 + 1) (Value.int .i64 y)).toArray.setIfInBounds (k * 3 + 1 + 1) (Value.int .i64 z) = ((((cutCur cur o k n).set (k * 3) (Value.int .i64 x)).set (k * 3 + 1) (.int .i64 y)).set (k * 3 + 1 + 1) (.int .i64 z)).toArray := by simp
        rw [e3]
        have hil : (insT l t).length = n + 1 := by rw [insT_length, ← HK.out.2.2]
        have := ownT_row (l := insT l t) (cap := cap) (cur' := (((cutCur cur o k n).set (k * 3) (Value.int .i64 x)).set (k * 3 + 1) (.int .i64 y)).set (k * 3 + 1 + 1) (.int .i64 z)) Hgb2.out h2 (by rw [hil]; omega) (by rw [hil]; exact hcap) hcm (by simp only [List.length_set]; exact Hcs.out.2.2.2.1) (by rw [hil]; have h := Hcs.out.2.2.2.2; unfold setCur at h; rw [HT.out] at h; exact h)
        rw [hil] at this
        exact this
      clear hF hd ho5 hx5 hb5 hs5 d hh hsm hcl hcap hcm hg hk'
      simp only [mixL]
      go_wp2_with (first
        | (refine row_load rfl _ rfl _ rfl _ HX5.out.row rowT_c ?_)
        | (refine wpList_store_mid rfl _ _ _ rfl g (k * 3) #[.int .i64 x, .int .i64 y, .int .i64 z] rfl rfl Hth.out rowT_c.1 H1.out ?_))
      go_ret
      refine ⟨_, rfl, HFin.out, ?_⟩
      exact ((HB5.out.setCell Hgb2.out _).setCell Hgb2.out _).setCell Hgb2.out _
end Go.Proofs.YtkpgciimhjkajaaGreatDoor
/- The reference's grid at any frequency: its cells. -/
namespace Go.Proofs.YtkpgciimhjkajaaGreatDoor
open Go Go.RowKit
structure ClL (w : World) (base g : Nat) (ns : List Pl) (L : List Tri) (v : Value) (wr : World) : Prop where
  own : OwnT wr base v L
  pls : PlsAt wr g ns
  low : g < base
  size : base ≤ wr.heap.size
  below : Below w.heap.size w wr
  base : w.heap.size ≤ base
theorem ClL.then {w wr w' : World} {base g : Nat} {ns : List Pl} {L : List Tri} {v : Value} (h : ClL w base g ns L v wr) (hb : Below wr.heap.size wr w') : ClL w base g ns L v w' :=
  ⟨h.own.below hb, h.pls.below hb, h.low, Nat.le_trans h.size hb.size, below_then h.below hb, h.base⟩
theorem ClL.next {w wr w' : World} {base g : Nat} {ns : List Pl} {L L' : List Tri} {v v' : Value} (h : ClL w base g ns L v wr) (ho : OwnT w' base v' L') (hb : Below base wr w') : ClL w base g ns L' v' w' := by
  refine ⟨ho, fun i hi j u hj => ?_, h.low, Nat.le_trans h.size hb.size, h.below.trans (hb.mono h.base), h.base⟩
  rw [hb.cell (p := ⟨g, i * 4 + j, none⟩) h.low]
  exact h.pls i hi j u hj
theorem sub_le_840 {n h i : Nat} (e : n * h = 840) (h0 : 0 < h) : i * h + h ≤ 840 ↔ i + 1 ≤ n := by
  have := mul_le_840 e h0 (i := i + 1)
  rw [Nat.succ_mul] at this; exact this
theorem sub2_le_840 {n h i j : Nat} (e : n * h = 840) (h0 : 0 < h) : i * h + j * h + h ≤ 840 ↔ i + j + 1 ≤ n := by
  have := sub_le_840 e h0 (i := i + j)
  rw [Nat.add_mul] at this; exact this
theorem sub3_le_840 {n h i j : Nat} (e : n * h = 840) (h0 : 0 < h) : i * h + j * h + 2 * h ≤ 840 ↔ i + j + 2 ≤ n := by
  have := sub_le_840 e h0 (i := i + j + 1)
  rw [Nat.succ_mul, Nat.add_mul] at this; rw [← this]; omega
set_option maxHeartbeats 16000000 in
set_option maxRecDepth 100000 in
theorem cells_n (n : Nat) (hn : Fq n) (w : World) :
    Calls Tryz.prog 61 #[.int .i64 n] w fun e w' => ∃ v, e = .returned (.tuple #[v, .int .i64 0]) ∧ OwnT w' w.heap.size v (cellsN n) ∧ Below w.heap.size w w' := by
  have HNd := Lib.hid (fun w' => nodes_n n hn w')
  have hn8 : 1 ≤ n ∧ n ≤ 8 := hn
  obtain ⟨N, hN⟩ : ∃ N, N = 10 * n * n + 2 := ⟨_, rfl⟩
  have hlen := nodesN_length hn
  rw [← hN] at hlen
  obtain ⟨h, hh⟩ : ∃ h, h = 840 / n := ⟨_, rfl⟩
  have hq0 : (840 : Int) / (n : Int) = (h : Int) := by rw [hh]; rfl
  have HU : Hid (n * h = 840 ∧ 0 < h) := by rw [hh]; exact ⟨hn.unit, hn.pos⟩
  have hh1 : 1 ≤ h ∧ h ≤ 840 := by rw [hh]; exact ⟨hn.pos, by have := Nat.div_le_self 840 n; omega⟩
  have HAt : Hid (∀ (g cap : Nat), N ≤ cap ∧ cap ≤ 9223372036854775807 → ∀ (f i j : Nat), f < 20 → i + j ≤ n → ∀ (a b : Int), a = ((i * h : Nat) : Int) → b = ((j * h : Nat) : Int) → ∀ w', PlsAt w' g (nodesN n) →
      Calls Tryz.prog 81 #[.slice (some ⟨g, 0, none⟩) N cap, .int .i64 f, .int .i64 a, .int .i64 b] w' fun e w'' => e = .returned (.int .i64 (idxN (nodesN n) (pt n f i j))) ∧ Below w'.heap.size w' w'') := by
    intro g cap hc f i j hf hij a b ha hb w' hl
    rw [hh] at ha hb
    exact at_n n hn N hN g cap hc f i j hf hij a b ha hb w' hl
  have h642 : 10 * n * n + 2 ≤ 1000 := by
    have h8 : n ≤ 8 := hn8.2
    have := Nat.mul_le_mul (Nat.mul_le_mul_left 10 h8) h8
    omega
  have HId : Hid (∀ (f i j : Nat), f < 20 → i + j ≤ n → idxN (nodesN n) (pt n f i j) < 1000) := by
    intro f i j hf hij
    have := (idxN_ok hn hf hij).1
    rw [nodesN_length hn] at this
    exact Nat.lt_of_lt_of_le this h642
  have HUp : Hid (∀ (f i j : Nat), upT n f i j = tri3 (idxN (nodesN n) (pt n f (i + 1) j)) (idxN (nodesN n) (pt n f i (j + 1))) (idxN (nodesN n) (pt n f i j))) := fun _ _ _ => rfl
  have HDn : Hid (∀ (f i j : Nat), dnT n f i j = tri3 (idxN (nodesN n) (pt n f i (j + 1))) (idxN (nodesN n) (pt n f (i + 1) j)) (idxN (nodesN n) (pt n f (i + 1) (j + 1)))) := fun _ _ _ => rfl
  have hN2 : 2 ≤ N := by omega
  clear hh hn hN h642
  go_enter Tryz.func61, Tryz.ntmps61
  go_wp2_with fail
  refine (HNd.out _).mono ?_
  rintro e w1 ⟨v, rfl, hown, hb1⟩
  obtain ⟨g, cap, rfl, hg, hcap, hc⟩ := hown.at (by omega)
  have hcm : cap ≤ 9223372036854775807 := by
    rcases hown.2 with ⟨e, _⟩ | ⟨g', cap', cur, e, _, _, _, hm, _⟩
    · cases e
    · obtain ⟨_, rfl⟩ : g = g' ∧ cap = cap' := by simpa using e
      unfold maxLen at hm; omega
  have hglt : g < w1.heap.size := by
    have := hc 0 (by omega) 0 _ rfl
    exact World.block_lt_of_cell? (a := ⟨g, 0 * 4 + 0, none⟩) _ this
  rw [hlen] at hcap ⊢
  have HC : Hid (N ≤ cap ∧ cap ≤ 9223372036854775807) := ⟨hcap, hcm⟩
  have HA := Lib.hid (HAt.out g cap ⟨hcap, hcm⟩)
  have HS : Hid (ClL w w1.heap.size g (nodesN n) ((rawTo n 0 0 0).foldl insT []) (.slice none 0 0) w1) := ⟨OwnT.nil _ _, hc, hglt, Nat.le_refl _, hb1, hb1.size⟩
  obtain ⟨base, hbase⟩ : ∃ base, base = w1.heap.size := ⟨_, rfl⟩
  rw [← hbase] at HS
  clear hown hg hc hb1 hcm hglt hcap hbase HAt HNd
  go_wp2_with fail
  try simp only [hq0]
  go_loopw [7, 8] (fun lv kv wr => ∃ (k : Nat) (ov : Value), ov = lv ∧ kv = .int .i64 k ∧ k ≤ 20 ∧ Hid (ClL w base g (nodesN n) ((rawTo n k 0 0).foldl insT []) ov wr)) (fun _ kv _ => (20 - intOf kv).toNat)
  case atStart => exact ⟨0, _, rfl, rfl, by omega, HS⟩
  case round =>
    clear HS
    obtain ⟨k, ov, rfl, rfl, hk, hs⟩ := hrel
    by_cases hlt : k < 20
    · have k0 : (k : Int) < 20 := by omega
      have HK := Lib.hid hlt
      obtain ⟨wout, rfl⟩ : ∃ wout : World, wout = wr := ⟨_, rfl⟩
      go_wp2_with fail
      go_loopw [7, 9] (fun lv av wr => ∃ (i : Nat) (ov : Value), ov = lv ∧ MulV h i av ∧ i ≤ n ∧ Hid (ClL w base g (nodesN n) ((rawTo n k i 0).foldl insT []) ov wr)) (fun _ av _ => (3000 - intOf av).toNat)
      case atStart => exact ⟨0, _, rfl, by simp [MulV], by omega, hs⟩
      case round =>
        clear hs
        obtain ⟨i, ov, rfl, hav, hi, hs⟩ := hrel
        unfold MulV at hav
        subst hav
        obtain ⟨wout2, rfl⟩ : ∃ wout2 : World, wout2 = wr := ⟨_, rfl⟩
        have HI : Hid ((i * h + h ≤ 840 ↔ i + 1 ≤ n) ∧ (i + 1) * h = i * h + h) := ⟨sub_le_840 HU.out.1 HU.out.2, Nat.succ_mul _ _⟩
        have hA7 : i * h ≤ 840 := (mul_le_840 HU.out.1 HU.out.2).2 hi
        obtain ⟨A, hA⟩ : ∃ A, A = i * h := ⟨_, rfl⟩
        rw [← hA] at HI hA7 ⊢
        have HAe := Lib.hid hA
        clear hA
        by_cases hin : i + 1 ≤ n
        · have hA8 : A + h ≤ 840 := HI.out.1.2 hin
          have hA9 : (A : Int) ≤ 840 - (h : Int) := by omega
          go_wp2_with fail
          go_loopw [7, 10] (fun lv bv wr => ∃ (j : Nat) (ov : Value), ov = lv ∧ MulV h j bv ∧ j ≤ n - i ∧ Hid (ClL w base g (nodesN n) ((rawTo n k i j).foldl insT []) ov wr)) (fun _ bv _ => (3000 - intOf bv).toNat)
          case atStart => exact ⟨0, _, rfl, by simp [MulV], by omega, hs⟩
          case round =>
            clear hs
            obtain ⟨j, ov, rfl, hbv, hj, hs⟩ := hrel
            unfold MulV at hbv
            subst hbv
            have HB : Hid ((A + j * h + h ≤ 840 ↔ i + j + 1 ≤ n) ∧ (A + j * h + 2 * h ≤ 840 ↔ i + j + 2 ≤ n) ∧ (j + 1) * h = j * h + h) := ⟨by rw [HAe.out]; exact sub2_le_840 HU.out.1 HU.out.2, by rw [HAe.out]; exact sub3_le_840 HU.out.1 HU.out.2, Nat.succ_mul _ _⟩
            have hB7 : j * h ≤ 840 := (mul_le_840 HU.out.1 HU.out.2).2 (by omega)
            obtain ⟨B, hB⟩ : ∃ B, B = j * h := ⟨_, rfl⟩
            rw [← hB] at HB hB7 ⊢
            have HBe := Lib.hid hB
            clear hB
            by_cases hjn : i + j + 1 ≤ n
            · have hB8 : A + B + h ≤ 840 := HB.out.1.2 hjn
              have hB9 : (A : Int) + (B : Int) ≤ 840 - (h : Int) := by omega
              have HU1 := Lib.hid (HA.out k (i + 1) j HK.out (by omega) ((A : Int) + (h : Int)) B (by rw [HI.out.2]; have := HAe.out; omega) (by rw [HBe.out]))
              have HU2 := Lib.hid (HA.out k i (j + 1) HK.out (by omega) A ((B : Int) + (h : Int)) (by rw [HAe.out]) (by rw [HB.out.2.2]; have := HBe.out; omega))
              have HU3 := Lib.hid (HA.out k i j HK.out (by omega) A B (by rw [HAe.out]) (by rw [HBe.out]))
              have HI1 := Lib.hid (HId.out k (i + 1) j HK.out (by omega))
              have HI2 := Lib.hid (HId.out k i (j + 1) HK.out (by omega))
              have HI3 := Lib.hid (HId.out k i j HK.out (by omega))
              have HUp1 := Lib.hid (HUp.out k i j)
              have HDn1 := Lib.hid (HDn.out k i j)
              have HLn : Hid (((rawTo n k i j).foldl insT []).length ≤ 3000) := by unfold Hid; rw [fold_length]; have := rawTo_len (n := n) (k := k) (i := i) (j := j) hn8.2 (by omega) hi (by omega); simpa using this
              have HSt := Lib.hid (rawTo_step n k i j)
              have hcell : cellAt n k i j = upT n k i j :: if i + j + 2 ≤ n then [dnT n k i j] else [] := rfl
              have HB3 : Hid (((((j + 1) * h : Nat) : Int)) = (B : Int) + (h : Int)) := by unfold Hid; have := HB.out.2.2; omega
              have HRel : Hid (∀ L', L' = (rawTo n k i (j + 1)).foldl insT [] → L' = (rawTo n k i (j + 1)).foldl insT []) := fun _ e => e
              have HFold : Hid ((rawTo n k i (j + 1)).foldl insT [] = if i + j + 2 ≤ n then insT (insT ((rawTo n k i j).foldl insT []) (upT n k i j)) (dnT n k i j) else insT ((rawTo n k i j).foldl insT []) (upT n k i j)) := by
                unfold Hid
                rw [HSt.out, List.foldl_append, hcell]
                split <;> rfl
              clear hcell HSt HRel
              obtain ⟨L, hL⟩ : ∃ L, L = (rawTo n k i j).foldl insT [] := ⟨_, rfl⟩
              rw [← hL] at HLn HFold hs
              clear hL
              have HNs : Hid (PlsAt wr g (nodesN n)) := hs.out.pls
              generalize idxN (nodesN n) (pt n k (i + 1) j) = I1 at *
              generalize idxN (nodesN n) (pt n k i (j + 1)) = I2 at *
              generalize idxN (nodesN n) (pt n k i j) = I3 at *
              go_wp2_with fail
              refine (HU1.out _ hs.out.pls).mono ?_
              rintro e w4 ⟨rfl, hb4⟩
              have HS4 := Lib.hid (hs.out.then hb4)
              clear hb4 hs HNs
              go_wp2_with fail
              refine (HU2.out _ HS4.out.pls).mono ?_
              rintro e w5 ⟨rfl, hb5⟩
              have HS5 := Lib.hid (HS4.out.then hb5)
              clear hb5 HS4
              go_wp2_with fail
              refine (HU3.out _ HS5.out.pls).mono ?_
              rintro e w6 ⟨rfl, hb6⟩
              have HS6 := Lib.hid (HS5.out.then hb6)
              clear hb6 HS5
              go_wp2_with fail
              refine (cell_n I1 I2 I3 HI1.out HI2.out HI3.out w6).mono ?_
              rintro e w7 ⟨rfl, hb7⟩
              have HS7 := Lib.hid (HS6.out.then hb7)
              clear hb7 HS6
              rw [← HUp1.out]
              go_wp2_with fail
              refine (insert_n ov base L (upT n k i j) (by have := HLn.out; omega) w7 HS7.out.own HS7.out.size).mono ?_
              rintro e w8 ⟨v', rfl, ho8, hb8⟩
              have HS8 := Lib.hid (HS7.out.next ho8 hb8)
              clear ho8 hb8 HS7 HUp1 HI1 HI2 HI3 HU1 HU2 HU3
              by_cases hd : i + j + 2 ≤ n
              · have hB10 : (A : Int) + (B : Int) ≤ 840 - 2 * (h : Int) := by have := HB.out.2.1.2 hd; omega
                have HU1 := Lib.hid (HA.out k i (j + 1) HK.out (by omega) A ((B : Int) + (h : Int)) (by rw [HAe.out]) (by rw [HB.out.2.2]; have := HBe.out; omega))
                have HU2 := Lib.hid (HA.out k (i + 1) j HK.out (by omega) ((A : Int) + (h : Int)) B (by rw [HI.out.2]; have := HAe.out; omega) (by rw [HBe.out]))
                have HU3 := Lib.hid (HA.out k (i + 1) (j + 1) HK.out (by omega) ((A : Int) + (h : Int)) ((B : Int) + (h : Int)) (by rw [HI.out.2]; have := HAe.out; omega) (by rw [HB.out.2.2]; have := HBe.out; omega))
                have HI1 := Lib.hid (HId.out k i (j + 1) HK.out (by omega))
                have HI2 := Lib.hid (HId.out k (i + 1) j HK.out (by omega))
                have HI3 := Lib.hid (HId.out k (i + 1) (j + 1) HK.out (by omega))
                have HDn1 := Lib.hid (HDn.out k i j)
                have HFold2 : Hid ((rawTo n k i (j + 1)).foldl insT [] = insT (insT L (upT n k i j)) (dnT n k i j)) := by unfold Hid; rw [HFold.out, if_pos hd]
                have HLn2 : Hid ((insT L (upT n k i j)).length ≤ 3001) := by unfold Hid; rw [insT_length]; have := HLn.out; omega
                clear hd HFold HLn
                generalize insT L (upT n k i j) = L2 at *
                generalize idxN (nodesN n) (pt n k (i + 1) j) = I2 at *
                generalize idxN (nodesN n) (pt n k i (j + 1)) = I1 at *
                generalize idxN (nodesN n) (pt n k (i + 1) (j + 1)) = I3 at *
                go_wp2_with fail
                refine (HU1.out _ HS8.out.pls).mono ?_
                rintro e w4 ⟨rfl, hb4⟩
                have HS4 := Lib.hid (HS8.out.then hb4)
                clear hb4 HS8
                go_wp2_with fail
                refine (HU2.out _ HS4.out.pls).mono ?_
                rintro e w5 ⟨rfl, hb5⟩
                have HS5 := Lib.hid (HS4.out.then hb5)
                clear hb5 HS4
                go_wp2_with fail
                refine (HU3.out _ HS5.out.pls).mono ?_
                rintro e w6 ⟨rfl, hb6⟩
                have HS6 := Lib.hid (HS5.out.then hb6)
                clear hb6 HS5
                go_wp2_with fail
                refine (cell_n I1 I2 I3 HI1.out HI2.out HI3.out w6).mono ?_
                rintro e w7 ⟨rfl, hb7⟩
                have HS7 := Lib.hid (HS6.out.then hb7)
                clear hb7 HS6
                rw [← HDn1.out]
                go_wp2_with fail
                refine (insert_n v' base L2 (dnT n k i j) (by have := HLn2.out; omega) w7 HS7.out.own HS7.out.size).mono ?_
                rintro e w8 ⟨v2, rfl, ho8, hb8⟩
                have HS8 := Lib.hid (HS7.out.next ho8 hb8)
                clear ho8 hb8 HS7
                go_wp2_with fail
                go_roundw
                case rel => exact ⟨j + 1, v2, rfl, by unfold MulV; rw [HB3.out], by omega, by rw [HFold2.out]; exact HS8⟩
                case measure => simp [intOf]; omega
              · have hB10 : ¬ (A : Int) + (B : Int) ≤ 840 - 2 * (h : Int) := by have := HB.out.2.1; omega
                have HFold2 : Hid ((rawTo n k i (j + 1)).foldl insT [] = insT L (upT n k i j)) := by unfold Hid; rw [HFold.out, if_neg hd]
                clear hd HFold HLn
                go_wp2_with fail
                go_roundw
                case rel => exact ⟨j + 1, v', rfl, by unfold MulV; rw [HB3.out], by omega, by rw [HFold2.out]; exact HS8⟩
                case measure => simp [intOf]; omega
            · have hgt : ¬ (A : Int) + (B : Int) ≤ 840 - (h : Int) := by have := HB.out.1; omega
              have HRow := Lib.hid (rawTo_row (n := n) (k := k) (i := i) (j := j) (by omega))
              go_wp2_with fail
              go_roundw
              case rel => exact ⟨i + 1, ov, rfl, by unfold MulV; rw [HI.out.2]; simp, by omega, by rw [← HRow.out]; exact hs⟩
              case measure => simp [intOf]; omega
        · have hgt : ¬ (A : Int) ≤ 840 - (h : Int) := by have := HI.out.1; omega
          have HFc := Lib.hid (rawTo_face (n := n) (k := k) (i := i) (by omega))
          go_wp2_with fail
          go_roundw
          case rel => exact ⟨k + 1, ov, rfl, by go_num, by omega, by rw [← HFc.out]; exact hs⟩
          case measure => simp [intOf]; omega
    · obtain rfl : k = 20 := by omega
      obtain ⟨oa, oc, hov⟩ := hs.out.own.slice
      go_wp2_with fail
      refine bodyPost_ret (v := .tuple #[ov, .int .i64 0]) (by simp [results, Tryz.results61, go_sem]) rfl ?_
      refine ⟨ov, rfl, ?_, hs.out.below⟩
      have := hs.out.own.mono hs.out.base
      rw [rawTo_end] at this
      exact this
end Go.Proofs.YtkpgciimhjkajaaGreatDoor
/- The reference's grid of frequency one: its cells. -/
namespace Go.Proofs.YtkpgciimhjkajaaGreatDoor
open Go Go.RowKit
structure ClS (w : World) (base g k : Nat) (v : Value) (wr : World) : Prop where
  own : OwnC wr base v k
  pls : PlsAt wr g nodes1
  low : g < base
  size : base ≤ wr.heap.size
  below : Below w.heap.size w wr
  base : w.heap.size ≤ base
theorem ClS.then {w wr w' : World} {base g k : Nat} {v : Value} (h : ClS w base g k v wr) (hb : Below wr.heap.size wr w') : ClS w base g k v w' :=
  ⟨h.own.below hb, h.pls.below hb, h.low, Nat.le_trans h.size hb.size, below_then h.below hb, h.base⟩
theorem ClS.next {w wr w' : World} {base g k : Nat} {v v' : Value} (h : ClS w base g k v wr) (ho : OwnC w' base v' (k + 1)) (hb : Below base wr w') : ClS w base g (k + 1) v' w' := by
  refine ⟨ho, fun i hi j u hj => ?_, h.low, Nat.le_trans h.size hb.size, h.below.trans (hb.mono h.base), h.base⟩
  rw [hb.cell (p := ⟨g, i * 4 + j, none⟩) h.low]
  exact h.pls i hi j u hj
end Go.Proofs.YtkpgciimhjkajaaGreatDoor
/- Slices of small ints: cut, and one appended to another that is full. -/
namespace Go.Proofs.YtkpgciimhjkajaaGreatDoor
open Go Go.RowKit
def SmSl (w : World) (H : Nat) (v : Value) (n : Nat) : Prop := ∃ (a : Option Addr) (c : Nat) (cs : List Value), v = .slice a n c ∧ n ≤ c ∧ c ≤ 9223372036854775807 ∧ cs.length = n ∧ (∀ u ∈ cs, Sm u) ∧
  (0 < n → ∃ ab ao : Nat, a = some ⟨ab, ao, none⟩ ∧ ab ≠ H ∧ ∀ j u, cs[j]? = some u → w.cell? ⟨ab, ao + j, none⟩ = some u) ∧ (a = none ∨ ∃ ab ao : Nat, a = some ⟨ab, ao, none⟩)
theorem SmSl.nil (w : World) (H : Nat) : SmSl w H (.slice none 0 0) 0 := ⟨none, 0, [], rfl, Nat.le_refl _, by omega, rfl, by simp, fun h => by omega, Or.inl rfl⟩
theorem SmSl.kept {w w' : World} {H : Nat} {v : Value} {n : Nat} (h : SmSl w H v n) (hk : ∀ k, k < w.heap.size → k ≠ H → w'.heap[k]? = w.heap[k]?) : SmSl w' H v n := by
  obtain ⟨a, c, cs, e, h1, h2, h3, h4, h5, h6⟩ := h
  refine ⟨a, c, cs, e, h1, h2, h3, h4, fun h0 => ?_, h6⟩
  obtain ⟨ab, ao, ea, hn, hc⟩ := h5 h0
  refine ⟨ab, ao, ea, hn, fun j u hj => ?_⟩
  have := hc j u hj
  rw [World.cell?_of_block (w := w) (hk ab (World.block_lt_of_cell? _ _ this) hn)]
  exact this
theorem SmSl.below {w w' : World} {H : Nat} {v : Value} {n : Nat} (h : SmSl w H v n) (hb : Below w.heap.size w w') : SmSl w' H v n := h.kept fun k hk _ => hb.block k hk
theorem SmSl.src {w : World} {H : Nat} {v : Value} {n : Nat} (h : SmSl w H v n) : ∃ cs : List Value, cs.length = n ∧ (∀ u ∈ cs, Sm u) ∧ Src Tryz.prog 1 34 v n cs w ∧ (n = 0 → cs = []) := by
  obtain ⟨a, c, cs, rfl, h1, h2, h3, h4, h5, h6⟩ := h
  have h1c : ∀ u ∈ cs, u.oneCell' = true := by intro u hu; obtain ⟨z, _, _, rfl⟩ := h4 u hu; rfl
  refine ⟨cs, h3, h4, ?_, fun h0 => List.eq_nil_of_length_eq_zero (by omega)⟩
  rcases h6 with rfl | ⟨ab, ao, rfl⟩
  · rcases Nat.eq_zero_or_pos n with h0 | h0
    · subst h0
      obtain rfl := List.eq_nil_of_length_eq_zero h3
      exact Src.ofNil w Tryz.underlying34 c
    · obtain ⟨_, _, e, _⟩ := h5 h0
      cases e
  · refine Src.ofSlice w Tryz.underlying34 ⟨ab, ao, none⟩ n c cs (by omega) (fun j u hj => ?_) h1c
    have h0 : 0 < n := by have := (List.getElem?_eq_some_iff.1 hj).1; omega
    obtain ⟨ab', ao', e, _, hc⟩ := h5 h0
    obtain ⟨rfl, rfl⟩ : ab = ab' ∧ ao = ao' := by simpa using e
    rw [Go.WideShapes.add_plain]; exact hc j u hj
theorem intinfo : (Tryz.prog.info? 3).map (fun i => (i.zero, i.size, i.bytes)) = some (some (.int .i64 0), 1, 8) := by kernel_rfl
theorem SmSl.drop {w : World} {H : Nat} {a : Option Addr} {n c : Nat} (h : SmSl w H (.slice a n c) n) (k : Nat) (hk : k ≤ n) (A : Option Addr) (hA : k < n → ∀ ab ao : Nat, a = some ⟨ab, ao, none⟩ → A = some ⟨ab, ao + k, none⟩) (hA2 : A = none ∨ ∃ ab ao : Nat, A = some ⟨ab, ao, none⟩) : SmSl w H (.slice A (n - k) (c - k)) (n - k) := by
  obtain ⟨a', c', cs, e, h1, h2, h3, h4, h5, h6⟩ := h
  obtain ⟨rfl, rfl⟩ : a = a' ∧ c = c' := by simpa using e
  refine ⟨A, c - k, cs.drop k, rfl, by omega, by omega, by rw [List.length_drop]; omega, fun u hu => h4 u (List.mem_of_mem_drop hu), fun h0 => ?_, hA2⟩
  obtain ⟨ab, ao, ea, hn, hc⟩ := h5 (by omega)
  refine ⟨ab, ao + k, hA (by omega) ab ao ea, hn, fun j u hj => ?_⟩
  rw [List.getElem?_drop] at hj
  have := hc (k + j) u hj
  rwa [← Nat.add_assoc] at this
theorem SmSl.take {w : World} {H : Nat} {a : Option Addr} {n c : Nat} (h : SmSl w H (.slice a n c) n) (k : Nat) (hk : k ≤ n) : SmSl w H (.slice a k k) k := by
  obtain ⟨a', c', cs, e, h1, h2, h3, h4, h5, h6⟩ := h
  obtain ⟨rfl, rfl⟩ : a = a' ∧ c = c' := by simpa using e
  refine ⟨a, k, cs.take k, rfl, Nat.le_refl _, by omega, by rw [List.length_take]; omega, fun u hu => h4 u (List.mem_of_mem_take hu), fun h0 => ?_, h6⟩
  obtain ⟨ab, ao, ea, hn, hc⟩ := h5 (by omega)
  refine ⟨ab, ao, ea, hn, fun j u hj => ?_⟩
  have hjk : j < k := by have := (List.getElem?_eq_some_iff.1 hj).1; rw [List.length_take] at this; omega
  rw [List.getElem?_take_of_lt hjk] at hj
  exact hc j u hj
theorem SmSl.at {w : World} {H : Nat} {a : Option Addr} {n c : Nat} (h : SmSl w H (.slice a n c) n) (j : Nat) (hj : j < n) : ∃ (ab ao : Nat) (z : Int), a = some ⟨ab, ao, none⟩ ∧ 0 ≤ z ∧ z < 12 ∧ w.cell? ⟨ab, ao + j, none⟩ = some (.int .i64 z) := by
  obtain ⟨a', c', cs, e, h1, h2, h3, h4, h5, h6⟩ := h
  obtain ⟨rfl, rfl⟩ : a = a' ∧ c = c' := by simpa using e
  obtain ⟨ab, ao, ea, hn, hc⟩ := h5 (by omega)
  have hjl : j < cs.length := by omega
  obtain ⟨z, z0, z1, hz⟩ := h4 _ (List.getElem_mem hjl)
  exact ⟨ab, ao, z, ea, z0, z1, by rw [hc j _ (List.getElem?_eq_getElem hjl), hz]⟩
def Ar (w : World) (H t : Nat) : Prop := H < w.heap.size ∧ ∀ i, i < 12 → w.frozen? ⟨H, i, none⟩ = false ∧ ∃ (a : Option Addr) (n c : Nat), n ≤ t ∧ w.cell? ⟨H, i, none⟩ = some (.slice a n c) ∧ SmSl w H (.slice a n c) n
theorem Ar.below {w w' : World} {H t : Nat} (h : Ar w H t) (hb : Below w.heap.size w w') : Ar w' H t := by
  refine ⟨Nat.lt_of_lt_of_le h.1 hb.size, fun i hi => ?_⟩
  obtain ⟨hf, a, n, c, hn, hc, hs⟩ := h.2 i hi
  exact ⟨by rw [hb.frozen (p := ⟨H, i, none⟩) h.1]; exact hf, a, n, c, hn, cell_then hb hc, hs.below hb⟩
theorem Ar.mono {w : World} {H t u : Nat} (h : Ar w H t) (hu : t ≤ u) : Ar w H u := by
  refine ⟨h.1, fun i hi => ?_⟩
  obtain ⟨hf, a, n, c, hn, r⟩ := h.2 i hi
  exact ⟨hf, a, n, c, by omega, r⟩
theorem Ar.set {w : World} {H t i n c : Nat} {a : Option Addr} (h : Ar w H t) (hn : n ≤ t) (hs : SmSl w H (.slice a n c) n) (hi : i < 12) : Ar (w.setCell ⟨H, i, none⟩ (.slice a n c)) H t := by
  have hk : ∀ k, k < w.heap.size → k ≠ H → (w.setCell ⟨H, i, none⟩ (.slice a n c)).heap[k]? = w.heap[k]? := fun k _ hne => Below.heap_setCell _ _ _ _ (by simp; exact hne)
  refine ⟨by simp [World.setCell]; exact h.1, fun j hj => ?_⟩
  obtain ⟨hf, a', n', c', hn', hc', hs'⟩ := h.2 j hj
  refine ⟨by simpa using hf, ?_⟩
  by_cases hij : j = i
  · subst hij
    exact ⟨a, n, c, hn, World.cell?_setCell_same _ _ _ hc', hs.kept hk⟩
  · exact ⟨a', n', c', hn', by rw [World.cell?_setCell_other _ _ _ _ (by simp <;> omega)]; exact hc', hs'.kept hk⟩
end Go.Proofs.YtkpgciimhjkajaaGreatDoor
/- A region that draws, whose slots lie in two stretches. No program. -/
namespace Go.Proofs.YtkpgciimhjkajaaGreatDoor
open Go Go.RowKit
section
variable {P : Program} {ops : Array Oper} {Q : Exit → Act → World → Prop}
def slotsB2 (ops : Array Oper) (lo n lo2 n2 : Nat) : Bool := (List.range ops.size).all fun k => match ops[k]? with
  | some o => (match o.dst with | some t => (decide (lo ≤ t) && decide (t < lo + n)) || (decide (lo2 ≤ t) && decide (t < lo2 + n2)) | none => true)
  | none => true
theorem sameAct_mix2 {a0 a : Act} (h : SameAct ops a0 a) {lo n lo2 n2 : Nat} (hs : slotsB2 ops lo n lo2 n2 = true) : a = ⟨(mixL (fun k => a.tmps.getD k undef) lo2 n2 0 (mixL (fun k => a.tmps.getD k undef) lo n 0 a0.tmps.toList)).toArray, a0.defers⟩ := by
  obtain ⟨h1, h2, h3⟩ := h
  obtain ⟨tm, df⟩ := a
  simp only at h1 h2 h3 ⊢
  subst h1
  congr 1
  apply Array.ext'
  apply List.ext_getElem?
  intro i
  rw [mixL_get, mixL_get]
  simp only [Array.getElem?_toList, Nat.zero_add]
  by_cases hi : i < tm.size
  · have hi0 : i < a0.tmps.size := by omega
    rw [Array.getElem?_eq_getElem hi, Array.getElem?_eq_getElem hi0]
    simp only [Option.map_some]
    congr 1
    by_cases hr : lo2 ≤ i ∧ i < lo2 + n2
    · rw [if_pos hr]; simp [hi]
    · rw [if_neg hr]
      by_cases hr2 : lo ≤ i ∧ i < lo + n
      · rw [if_pos hr2]; simp [hi]
      · rw [if_neg hr2]
        have := h3 i (fun k o ho hd => by
          have hk := (Array.getElem?_eq_some_iff.1 ho).1
          have hq := List.all_eq_true.1 hs k (List.mem_range.2 hk)
          rw [ho] at hq
          simp only [hd, Bool.and_eq_true, Bool.or_eq_true, decide_eq_true_eq] at hq
          rcases hq with hq | hq
          · exact hr2 hq
          · exact hr hq)
        simpa [hi, hi0] using this
  · rw [Array.getElem?_eq_none (by omega), Array.getElem?_eq_none (by omega)]; rfl
theorem wp_region_slots2 {id : Nat} {a0 : Act} {w0 : World} (hm : P.follows .mixedOrders = true) (N : Nat) (hN : a0.tmps.size = N) (hd : distB ops N = true) (hb : backC ops = true) (lo n lo2 n2 : Nat) (hs : slotsB2 ops lo n lo2 n2 = true)
    (S : (Nat → Bool) → World → Prop) (F : Nat → Value → World → Prop) (hS0 : S (fun _ => false) w0.drew)
    (hop : AllHops (HopAt P ops Q a0 S F) 0 ops.toList)
    (hend : ∀ (u : Nat → Value) (w : World) (d : Nat → Bool), (∀ k, k < ops.size → d k = true) → S d w → (∀ (k : Nat) (o : Oper), ops[k]? = some o → F k (match o.dst with | some t => u t | none => undef) w) →
      Q .normal ⟨(mixL u lo2 n2 0 (mixL u lo n 0 a0.tmps.toList)).toArray, a0.defers⟩ w) : (Code.region id ops true).wp P Q a0 w0 := by
  refine wp_region_phase hm N hN hd hb S F hS0 hop fun a w d h1 h2 h3 h4 => ?_
  rw [sameAct_mix2 h3 hs]
  refine hend _ w d h1 h2 fun k o ho => ?_
  exact h4 k o ho
end
end Go.Proofs.YtkpgciimhjkajaaGreatDoor
/- The reference's grid of frequency one: who lies around whom. -/
namespace Go.Proofs.YtkpgciimhjkajaaGreatDoor
open Go Go.RowKit
def Cl (w : World) (g n : Nat) : Prop := ∀ i, i < n → ∃ z : Int, 0 ≤ z ∧ z < 12 ∧ w.cell? ⟨g, i, none⟩ = some (.int .i64 z)
structure ArS (w wr : World) (H g t : Nat) : Prop where
  ar : Ar wr H t
  cl : Cl wr g 60
  low : g < H
  below : Below w.heap.size w wr
  base : w.heap.size ≤ H
def nils : Array Value := #[.slice none 0 0, .slice none 0 0, .slice none 0 0, .slice none 0 0, .slice none 0 0, .slice none 0 0, .slice none 0 0, .slice none 0 0, .slice none 0 0, .slice none 0 0, .slice none 0 0, .slice none 0 0]
theorem Ar.fresh (w : World) : Ar (w.alloc (.cells nils 34)) w.heap.size 0 := by
  refine ⟨by simp, fun i hi => ?_⟩
  have hh : (w.alloc (.cells nils 34)).heap[w.heap.size]? = some (.cells nils 34 (0, 0)) := heap_alloc_new w _
  refine ⟨by unfold World.frozen?; simp only [hh]; simp, none, 0, 0, Nat.le_refl _, ?_, SmSl.nil _ _⟩
  simp only [World.cell?, hh]
  have : i = 0 ∨ i = 1 ∨ i = 2 ∨ i = 3 ∨ i = 4 ∨ i = 5 ∨ i = 6 ∨ i = 7 ∨ i = 8 ∨ i = 9 ∨ i = 10 ∨ i = 11 := by omega
  rcases this with rfl | rfl | rfl | rfl | rfl | rfl | rfl | rfl | rfl | rfl | rfl | rfl <;> rfl
theorem Cl.below {w w' : World} {g n : Nat} (h : Cl w g n) (hb : Below w.heap.size w w') : Cl w' g n := fun i hi => by
  obtain ⟨z, z0, z1, hz⟩ := h i hi
  exact ⟨z, z0, z1, cell_then hb hz⟩
theorem box2 (w : World) (m : Nat) (q : Int) (t : TypeId) : (w.alloc (.cells #[.int .i64 m, .int .i64 q] t)).cell? ⟨w.heap.size, 0, none⟩ = some (.int .i64 m) ∧ (w.alloc (.cells #[.int .i64 m, .int .i64 q] t)).cell? ⟨w.heap.size, 1, none⟩ = some (.int .i64 q) := by
  have hh : ∀ A, (w.alloc (.cells A t)).heap[w.heap.size]? = some (.cells A t (0, 0)) := fun A => heap_alloc_new w _
  simp only [World.cell?, hh]
  exact ⟨rfl, rfl⟩
theorem belowN {w w' : World} {b : Nat} (h : Below b w w') (n : Nat) : Below b w (w'.drewN n) := by
  exact ⟨h.os, h.tape, h.output, h.size, h.block⟩
theorem ArS.then {w wr w' : World} {H g t : Nat} (h : ArS w wr H g t) (hb : Below wr.heap.size wr w') : ArS w w' H g t := ⟨h.ar.below hb, h.cl.below hb, h.low, below_then h.below hb, h.base⟩
theorem ArS.more {w wr : World} {H g t u : Nat} (h : ArS w wr H g t) (hu : t ≤ u) : ArS w wr H g u := ⟨h.ar.mono hu, h.cl, h.low, h.below, h.base⟩
theorem Cl.kept {w w' : World} {H g n : Nat} (h : Cl w g n) (hk : ∀ k, k < w.heap.size → k ≠ H → w'.heap[k]? = w.heap[k]?) (hg : g ≠ H) : Cl w' g n := fun i hi => by
  obtain ⟨z, z0, z1, hz⟩ := h i hi
  refine ⟨z, z0, z1, ?_⟩
  rw [World.cell?_of_block (w := w) (hk g (World.block_lt_of_cell? _ _ hz) hg)]
  exact hz
theorem run_from {w : World} (a : Option Addr) (n cc k : Nat) (hk : k ≤ n) : (Instr.sliceAt 34 (.slice a n cc) (some (.int .i64 (k : Int))) none none).run Tryz.prog w = .ok (.slice (if cc = k then a else a.map (·.add k)) (n - k) (cc - k)) w := by
  have h0 : (k : Int) ≤ (n : Int) := by omega
  simp [Instr.sliceAt, Instr.sliceBounds, go_sem, h0]
theorem run_to {w : World} (a : Option Addr) (n cc k : Nat) (hk : k ≤ n) (hn : n ≤ cc) : (Instr.sliceAt 34 (.slice a n cc) none (some (.int .i64 (k : Int))) (some (.int .i64 (k : Int)))).run Tryz.prog w = .ok (.slice a k k) w := by
  have h0 : (k : Int) ≤ (cc : Int) := by omega
  simp [Instr.sliceAt, Instr.sliceBounds, go_sem, h0]
theorem run_lit {w : World} (q : Int) : (Instr.buildSlice 34 1 #[(0, .int .i64 q)]).run Tryz.prog w = .ok (.slice (some ⟨w.heap.size, 0, none⟩) 1 1) (w.alloc (.cells #[.int .i64 q] 3)) := by
  simp [Instr.buildSlice, go_sem]
def FN3 (H B m k n cc : Nat) (a : Option Addr) (q : Int) (ix : Nat) (v : Value) (w : World) : Prop := match ix with
  | 0 => v = .pointer (some ⟨B, 1, none⟩)
  | 1 => v = .int .i64 q
  | 2 => SmSl w H v 1 ∧ ∃ A, v = .slice A 1 1
  | 3 => v = .slice (some ⟨H, 0, none⟩) 12 12
  | 4 => v = .pointer (some ⟨B, 0, none⟩)
  | 5 => v = .int .i64 m
  | 6 => v = .pointer (some ⟨H, m, none⟩)
  | 7 => v = .slice a n cc
  | 8 => v = .int .i64 k
  | 9 => SmSl w H v (n - k)
  | 10 => SmSl w H v (1 + (n - k))
  | 11 => SmSl w H v (1 + (n - k))
  | _ => True
def FN4 (H B m k n cc : Nat) (a : Option Addr) (rv : Value) (ix : Nat) (v : Value) (w : World) : Prop := match ix with
  | 0 => v = .slice (some ⟨H, 0, none⟩) 12 12
  | 1 => v = .pointer (some ⟨B, 0, none⟩)
  | 2 => v = .int .i64 m
  | 3 => v = .slice (some ⟨H, 0, none⟩) 12 12
  | 4 => v = .pointer (some ⟨B, 0, none⟩)
  | 5 => v = .int .i64 m
  | 6 => v = .pointer (some ⟨H, m, none⟩)
  | 7 => v = .slice a n cc
  | 8 => v = .int .i64 k
  | 9 => v = .int .i64 k
  | 10 => SmSl w H v k ∧ ∃ A, v = .slice A k k
  | 11 => v = rv
  | 12 => SmSl w H v (k + (1 + (n - k)))
  | 13 => v = .pointer (some ⟨H, m, none⟩)
  | _ => True
def KeptBut (H : Nat) (w w' : World) : Prop := w.heap.size ≤ w'.heap.size ∧ ∀ k, k < w.heap.size → k ≠ H → w'.heap[k]? = w.heap[k]?
theorem KeptBut.trans {H : Nat} {w w' w2 : World} (h : KeptBut H w w') (g : KeptBut H w' w2) : KeptBut H w w2 := ⟨Nat.le_trans h.1 g.1, fun k hk hn => (g.2 k (Nat.lt_of_lt_of_le hk h.1) hn).trans (h.2 k hk hn)⟩
theorem KeptBut.of {H : Nat} {w w' : World} (h : Below w.heap.size w w') : KeptBut H w w' := ⟨h.size, fun k hk _ => h.block k hk⟩
theorem KeptBut.set (H : Nat) (w : World) (o : Nat) (v : Value) : KeptBut H w (w.setCell ⟨H, o, none⟩ v) := ⟨by simp [World.setCell], fun k _ hne => Below.heap_setCell _ _ _ _ (by simp; exact hne)⟩
theorem KeptBut.cell {H : Nat} {w w' : World} (h : KeptBut H w w') {b o : Nat} {v : Value} (hc : w.cell? ⟨b, o, none⟩ = some v) (hb : b ≠ H) : w'.cell? ⟨b, o, none⟩ = some v := by
  rw [World.cell?_of_block (w := w) (h.2 b (World.block_lt_of_cell? _ _ hc) hb)]
  exact hc
theorem FN3.kept {H B m k n cc : Nat} {a : Option Addr} {q : Int} {w w' : World} (h : KeptBut H w w') (ix : Nat) (v : Value) (hF : FN3 H B m k n cc a q ix v w) : FN3 H B m k n cc a q ix v w' := by
  unfold FN3 at hF ⊢
  split at hF
  all_goals first | exact hF | exact ⟨hF.1.kept h.2, hF.2⟩ | exact SmSl.kept hF h.2
theorem FN4.kept {H B m k n cc : Nat} {a : Option Addr} {rv : Value} {w w' : World} (h : KeptBut H w w') (ix : Nat) (v : Value) (hF : FN4 H B m k n cc a rv ix v w) : FN4 H B m k n cc a rv ix v w' := by
  unfold FN4 at hF ⊢
  split at hF
  all_goals first | exact hF | exact ⟨hF.1.kept h.2, hF.2⟩ | exact SmSl.kept hF h.2
end Go.Proofs.YtkpgciimhjkajaaGreatDoor
/- The reference's grid at any frequency: slices of numbers, exactly: cut, appended; the lists of neighbours. -/
namespace Go.Proofs.YtkpgciimhjkajaaGreatDoor
open Go Go.RowKit
def nv (n : Nat) : Value := .int .i64 (n : Int)
def SmE (w : World) (H : Nat) (v : Value) (l : List Nat) : Prop := ∃ (a : Option Addr) (c : Nat), v = .slice a l.length c ∧ l.length ≤ c ∧ c ≤ 9223372036854775807 ∧
  (0 < l.length → ∃ ab ao : Nat, a = some ⟨ab, ao, none⟩ ∧ ab ≠ H ∧ ∀ j u, (l.map nv)[j]? = some u → w.cell? ⟨ab, ao + j, none⟩ = some u) ∧ (a = none ∨ ∃ ab ao : Nat, a = some ⟨ab, ao, none⟩)
theorem SmE.nil (w : World) (H : Nat) : SmE w H (.slice none 0 0) [] := ⟨none, 0, rfl, Nat.le_refl _, by omega, fun h => by simp at h, Or.inl rfl⟩
theorem SmE.kept {w w' : World} {H : Nat} {v : Value} {l : List Nat} (h : SmE w H v l) (hk : ∀ k, k < w.heap.size → k ≠ H → w'.heap[k]? = w.heap[k]?) : SmE w' H v l := by
  obtain ⟨a, c, e, h1, h2, h5, h6⟩ := h
  refine ⟨a, c, e, h1, h2, fun h0 => ?_, h6⟩
  obtain ⟨ab, ao, ea, hn, hc⟩ := h5 h0
  refine ⟨ab, ao, ea, hn, fun j u hj => ?_⟩
  have := hc j u hj
  rw [World.cell?_of_block (w := w) (hk ab (World.block_lt_of_cell? _ _ this) hn)]
  exact this
theorem SmE.below {w w' : World} {H : Nat} {v : Value} {l : List Nat} (h : SmE w H v l) (hb : Below w.heap.size w w') : SmE w' H v l := h.kept fun k hk _ => hb.block k hk
theorem nv_one (l : List Nat) : ∀ u ∈ l.map nv, u.oneCell' = true := by
  intro u hu; obtain ⟨z, _, rfl⟩ := List.mem_map.1 hu; rfl
theorem SmE.src {w : World} {H : Nat} {v : Value} {l : List Nat} (h : SmE w H v l) : Src Tryz.prog 1 34 v l.length (l.map nv) w := by
  obtain ⟨a, c, rfl, h1, h2, h5, h6⟩ := h
  rcases h6 with rfl | ⟨ab, ao, rfl⟩
  · rcases Nat.eq_zero_or_pos l.length with h0 | h0
    · obtain rfl := List.eq_nil_of_length_eq_zero h0
      exact Src.ofNil w Tryz.underlying34 c
    · obtain ⟨_, _, e, _⟩ := h5 h0
      cases e
  · refine Src.ofSlice w Tryz.underlying34 ⟨ab, ao, none⟩ l.length c (l.map nv) (by simp) (fun j u hj => ?_) (nv_one l)
    have h0 : 0 < l.length := by have := (List.getElem?_eq_some_iff.1 hj).1; rw [List.length_map] at this; omega
    obtain ⟨ab', ao', e, _, hc⟩ := h5 h0
    obtain ⟨rfl, rfl⟩ : ab = ab' ∧ ao = ao' := by simpa using e
    rw [Go.WideShapes.add_plain]; exact hc j u hj
theorem sm_appendE {w : World} {H : Nat} {v x : Value} {l m : List Nat} (hv : SmE w H v l) (hf : ∃ a, v = .slice a l.length l.length) (hx : SmE w H x m) (hH : H < w.heap.size) (hn : l.length + m.length ≤ 100000) (ty : TypeId) :
    ∃ v' w', (Builtin.append_ #[34, 34] ty #[v, x]).run Tryz.prog w = .ok v' w' ∧ SmE w' H v' (l ++ m) ∧ Below w.heap.size w w' := by
  obtain ⟨i0, hi, hz0, hz1, hz2⟩ := info_parts intinfo
  have hsrc := hx.src
  obtain ⟨a, rfl⟩ := hf
  rcases Nat.eq_zero_or_pos m.length with h0 | h0
  · obtain rfl := List.eq_nil_of_length_eq_zero h0
    rw [List.append_nil]
    refine ⟨_, _, run_append_nothing w _ _ ty _ i0 Tryz.underlying34 hi a _ _ (Nat.le_refl _) x (by rw [hz1]; exact hsrc), hv, Below.refl _ _⟩
  · obtain ⟨a', c, e, h1, h2, h5, h6⟩ := hv
    obtain ⟨rfl, rfl⟩ : a = a' ∧ l.length = c := by simpa using e
    have hold : (Builtin.firstCells i0.size l.length (.slice a l.length l.length)).run Tryz.prog w.drew = .ok (l.map nv).toArray w.drew := by
      rw [hz1]
      rcases Nat.eq_zero_or_pos l.length with hn0 | hn0
      · obtain rfl := List.eq_nil_of_length_eq_zero hn0
        rcases h6 with rfl | ⟨ab, ao, rfl⟩
        · exact run_firstCells_none w.drew 1 0 0 0
        · exact run_firstCells_some w.drew 1 0 ⟨ab, ao, none⟩ 0 0 [] (by simp) (fun j u hj => by simp at hj)
      · obtain ⟨ab, ao, rfl, hne, hc⟩ := h5 hn0
        exact run_firstCells_some w.drew 1 _ ⟨ab, ao, none⟩ _ _ (l.map nv) (by simp) (fun j u hj => by rw [Go.WideShapes.add_plain]; exact hc j u hj)
    have hrun := run_append_grow_src (P := Tryz.prog) w 34 34 ty 3 i0 (.int .i64 0) Tryz.underlying34 hi hz0 a l.length l.length (l.map nv) hold x m.length (m.map nv) (by rw [hz1]; exact hsrc) (by omega) (by omega) (growslice_fits (by omega) (by rw [hz2]; omega))
    have hge := grownCap_ge w (l.length + m.length) l.length 3
    have hcm := grownCap_le_maxLen w (l.length + m.length) l.length 3 (by unfold maxLen; omega)
    refine ⟨_, _, hrun, ⟨_, _, by rw [List.length_append], by rw [List.length_append]; exact hge, by unfold maxLen at hcm; omega, fun _ => ⟨w.heap.size, 0, rfl, by omega, fun j u hj => ?_⟩, Or.inr ⟨_, _, rfl⟩⟩, (Below.refl _ _).drew.alloc (Nat.le_refl _) _⟩
    have hjl := (List.getElem?_eq_some_iff.1 hj).1
    rw [List.map_append] at hj hjl
    have hg : (w.drew.alloc (.cells (((l.map nv) ++ (m.map nv)).toArray ++ Builtin.zeroCells (Value.int .i64 0).cells (grownCap w (l.length + m.length) l.length 3 - (l.length + m.length))) 3)).heap[w.heap.size]? = some (.cells (((l.map nv) ++ (m.map nv)).toArray ++ Builtin.zeroCells (Value.int .i64 0).cells (grownCap w (l.length + m.length) l.length 3 - (l.length + m.length))) 3 (0, 0)) := heap_alloc_new w.drew _
    rw [Nat.zero_add]
    simp only [World.cell?, hg]
    rw [Array.getElem?_append_left (by simpa using hjl)]
    simpa using hj
theorem SmE.drop {w : World} {H : Nat} {a : Option Addr} {l : List Nat} {c : Nat} (h : SmE w H (.slice a l.length c) l) (k : Nat) (hk : k ≤ l.length) (A : Option Addr) (hA : k < l.length → ∀ ab ao : Nat, a = some ⟨ab, ao, none⟩ → A = some ⟨ab, ao + k, none⟩) (hA2 : A = none ∨ ∃ ab ao : Nat, A = some ⟨ab, ao, none⟩) : SmE w H (.slice A (l.length - k) (c - k)) (l.drop k) := by
  obtain ⟨a', c', e, h1, h2, h5, h6⟩ := h
  obtain ⟨rfl, rfl⟩ : a = a' ∧ c = c' := by simpa using e
  refine ⟨A, c - k, by rw [List.length_drop], by rw [List.length_drop]; omega, by omega, fun h0 => ?_, hA2⟩
  rw [List.length_drop] at h0
  obtain ⟨ab, ao, ea, hn, hc⟩ := h5 (by omega)
  refine ⟨ab, ao + k, hA (by omega) ab ao ea, hn, fun j u hj => ?_⟩
  rw [List.map_drop, List.getElem?_drop] at hj
  have := hc (k + j) u hj
  rwa [← Nat.add_assoc] at this
theorem SmE.take {w : World} {H : Nat} {a : Option Addr} {l : List Nat} {c : Nat} (h : SmE w H (.slice a l.length c) l) (k : Nat) (hk : k ≤ l.length) : SmE w H (.slice a k k) (l.take k) := by
  obtain ⟨a', c', e, h1, h2, h5, h6⟩ := h
  obtain ⟨rfl, rfl⟩ : a = a' ∧ c = c' := by simpa using e
  have hl : (l.take k).length = k := by rw [List.length_take]; omega
  refine ⟨a, k, by rw [hl], by omega, by omega, fun h0 => ?_, h6⟩
  rw [hl] at h0
  obtain ⟨ab, ao, ea, hn, hc⟩ := h5 (by omega)
  refine ⟨ab, ao, ea, hn, fun j u hj => ?_⟩
  have hjk : j < k := by have := (List.getElem?_eq_some_iff.1 hj).1; rw [List.length_map, hl] at this; exact this
  rw [List.map_take, List.getElem?_take_of_lt hjk] at hj
  exact hc j u hj
theorem SmE.at {w : World} {H : Nat} {a : Option Addr} {l : List Nat} {n c : Nat} (h : SmE w H (.slice a n c) l) (j : Nat) (hj : j < l.length) : ∃ (ab ao : Nat), a = some ⟨ab, ao, none⟩ ∧ w.cell? ⟨ab, ao + j, none⟩ = some (.int .i64 (l[j] : Int)) := by
  obtain ⟨a', c', e, h1, h2, h5, h6⟩ := h
  obtain ⟨rfl, _, rfl⟩ : a = a' ∧ n = l.length ∧ c = c' := by simpa using e
  obtain ⟨ab, ao, ea, hn, hc⟩ := h5 (by omega)
  exact ⟨ab, ao, ea, hc j _ (by simp [hj]; rfl)⟩
def ArE (w : World) (H : Nat) (ls : List (List Nat)) : Prop := H < w.heap.size ∧ ∀ i, (hi : i < ls.length) → w.frozen? ⟨H, i, none⟩ = false ∧ ∃ (a : Option Addr) (n c : Nat), n = ls[i].length ∧ w.cell? ⟨H, i, none⟩ = some (.slice a n c) ∧ SmE w H (.slice a n c) ls[i]
theorem ArE.below {w w' : World} {H : Nat} {ls : List (List Nat)} (h : ArE w H ls) (hb : Below w.heap.size w w') : ArE w' H ls := by
  refine ⟨Nat.lt_of_lt_of_le h.1 hb.size, fun i hi => ?_⟩
  obtain ⟨hf, a, n, c, hn, hc, hs⟩ := h.2 i hi
  exact ⟨by rw [hb.frozen (p := ⟨H, i, none⟩) h.1]; exact hf, a, n, c, hn, cell_then hb hc, hs.below hb⟩
theorem ArE.set {w : World} {H i n c : Nat} {a : Option Addr} {ls : List (List Nat)} {l : List Nat} (h : ArE w H ls) (hn : n = l.length) (hs : SmE w H (.slice a n c) l) (hi : i < ls.length) : ArE (w.setCell ⟨H, i, none⟩ (.slice a n c)) H (ls.set i l) := by
  have hk : ∀ k, k < w.heap.size → k ≠ H → (w.setCell ⟨H, i, none⟩ (.slice a n c)).heap[k]? = w.heap[k]? := fun k _ hne => Below.heap_setCell _ _ _ _ (by simp; exact hne)
  refine ⟨by simp [World.setCell]; exact h.1, fun j hj => ?_⟩
  rw [List.length_set] at hj
  obtain ⟨hf, a', n', c', hn', hc', hs'⟩ := h.2 j hj
  refine ⟨by simpa using hf, ?_⟩
  by_cases hij : i = j
  · subst hij
    refine ⟨a, n, c, by rw [List.getElem_set_self]; exact hn, World.cell?_setCell_same _ _ _ hc', ?_⟩
    rw [List.getElem_set_self]
    exact hs.kept hk
  · refine ⟨a', n', c', by rw [List.getElem_set_ne hij]; exact hn', by rw [World.cell?_setCell_other _ _ _ _ (by simp <;> omega)]; exact hc', ?_⟩
    rw [List.getElem_set_ne hij]
    exact hs'.kept hk
def TrsAt (w : World) (g : Nat) (cs : List Tri) : Prop := ∀ i, (hi : i < cs.length) → w.rangeAt g (i * 3) (tcl cs[i])
theorem TrsAt.below {w w' : World} {g : Nat} {cs : List Tri} (h : TrsAt w g cs) (hb : Below w.heap.size w w') : TrsAt w' g cs := fun i hi j u hj => cell_then hb (h i hi j u hj)
theorem TrsAt.kept {w w' : World} {H g : Nat} {cs : List Tri} (h : TrsAt w g cs) (hk : ∀ k, k < w.heap.size → k ≠ H → w'.heap[k]? = w.heap[k]?) (hg : g ≠ H) : TrsAt w' g cs := fun i hi j u hj => by
  have := h i hi j u hj
  rw [World.cell?_of_block (w := w) (hk g (World.block_lt_of_cell? _ _ this) hg)]
  exact this
def PrsAt (w : World) (g : Nat) (l : List Ed) : Prop := ∀ i, (hi : i < l.length) → w.cell? ⟨g, i * 2, none⟩ = some (.int .i64 (l[i].1 : Int)) ∧ w.cell? ⟨g, i * 2 + 1, none⟩ = some (.int .i64 (l[i].2 : Int))
theorem PrsAt.below {w w' : World} {g : Nat} {l : List Ed} (h : PrsAt w g l) (hb : Below w.heap.size w w') : PrsAt w' g l := fun i hi => ⟨cell_then hb (h i hi).1, cell_then hb (h i hi).2⟩
theorem PrsAt.kept {w w' : World} {H g : Nat} {l : List Ed} (h : PrsAt w g l) (hk : ∀ k, k < w.heap.size → k ≠ H → w'.heap[k]? = w.heap[k]?) (hg : g ≠ H) : PrsAt w' g l := fun i hi => by
  obtain ⟨h1, h2⟩ := h i hi
  have e := hk g (World.block_lt_of_cell? _ _ h1) hg
  exact ⟨by rw [World.cell?_of_block (w := w) e]; exact h1, by rw [World.cell?_of_block (w := w) e]; exact h2⟩
theorem PrsAt.new (w : World) (x y z : Int) (c : Tri) (hx : x = (c.1 : Int)) (hy : y = (c.2.1 : Int)) (hz : z = (c.2.2 : Int)) (t : TypeId) : PrsAt (w.alloc (.cells #[.int .i64 x, .int .i64 y, .int .i64 x, .int .i64 z, .int .i64 y, .int .i64 z, .int .i64 y, .int .i64 x, .int .i64 z, .int .i64 x, .int .i64 z, .int .i64 y] t)) w.heap.size (prs c) := by
  subst hx hy hz
  intro i hi
  have hh : ∀ A, (w.alloc (.cells A t)).heap[w.heap.size]? = some (.cells A t (0, 0)) := fun A => heap_alloc_new w _
  simp only [World.cell?, hh]
  have : i < 6 := hi
  have : i = 0 ∨ i = 1 ∨ i = 2 ∨ i = 3 ∨ i = 4 ∨ i = 5 := by omega
  rcases this with rfl | rfl | rfl | rfl | rfl | rfl <;> exact ⟨rfl, rfl⟩
theorem insU_at (q : Nat) : ∀ (l : List Nat) (k : Nat), k ≤ l.length → (∀ m, (hm : m < l.length) → m < k → l[m] < q) → (∀ hk : k < l.length, ¬ l[k] < q) →
    (∀ hk : k < l.length, l[k] = q → insU q l = l) ∧ ((∀ hk : k < l.length, l[k] ≠ q) → insU q l = l.take k ++ q :: l.drop k)
  | [], k, hk, _, _ => by
    have : k = 0 := by simpa using hk
    subst this
    exact ⟨fun h => absurd h (by simp), fun _ => rfl⟩
  | x :: r, 0, _, _, h2 => by
    have hx : ¬ x < q := h2 (by simp)
    refine ⟨fun _ e => ?_, fun hne => ?_⟩
    · have e : x = q := e
      rw [insU, if_neg hx, if_pos e]
    · have hn : x ≠ q := hne (by simp)
      rw [insU, if_neg hx, if_neg hn]; rfl
  | x :: r, k + 1, hk, h1, h2 => by
    have hx : x < q := h1 0 (by simp) (by omega)
    obtain ⟨i1, i2⟩ := insU_at q r k (by simpa using hk) (fun m hm hmk => by have := h1 (m + 1) (by simpa using hm) (by omega); exact this) (fun h => by have := h2 (by simpa using h); exact this)
    refine ⟨fun h e => ?_, fun hne => ?_⟩
    · rw [insU, if_pos hx, i1 (by simpa using h) (by have e' := e; exact e')]
    · rw [insU, if_pos hx, i2 (fun h => by have := hne (by simpa using h); exact this)]; rfl
theorem insU_len (q : Nat) : ∀ l : List Nat, (insU q l).length ≤ l.length + 1
  | [] => by simp [insU]
  | x :: r => by
    rw [insU]
    split
    · have := insU_len q r; simp only [List.length_cons]; omega
    · split <;> simp
def adjTo (N : Nat) (cs : List Tri) (c i : Nat) : List (List Nat) := ((cs.take c).flatMap prs ++ ((prs (cs.getD c (0, 0, 0))).take i)).foldl adjStep (List.replicate N [])
theorem adjTo_start (N : Nat) (cs : List Tri) : adjTo N cs 0 0 = List.replicate N [] := by simp [adjTo]
theorem adjTo_step (N : Nat) (cs : List Tri) (c i : Nat) (hi : i < 6) : adjTo N cs c (i + 1) = adjStep (adjTo N cs c i) ((prs (cs.getD c (0, 0, 0)))[i]'hi) := by
  unfold adjTo
  rw [List.take_succ_eq_append_getElem hi, ← List.append_assoc, List.foldl_append]
  rfl
theorem adjTo_next (N : Nat) (cs : List Tri) (c : Nat) (hc : c < cs.length) : adjTo N cs c 6 = adjTo N cs (c + 1) 0 := by
  unfold adjTo
  have e : cs.getD c (0, 0, 0) = cs[c] := by rw [List.getD_eq_getElem?_getD, List.getElem?_eq_getElem hc]; rfl
  rw [e, List.take_succ_eq_append_getElem hc, List.flatMap_append, List.take_of_length_le (l := prs cs[c]) (i := 6) (Nat.le_refl _)]
  simp
theorem adjTo_end (N : Nat) (cs : List Tri) : adjTo N cs cs.length 0 = adjN N cs := by simp [adjTo, adjN]
theorem adjTo_length (N : Nat) (cs : List Tri) (c i : Nat) : (adjTo N cs c i).length = N := by unfold adjTo; rw [adj_length]; simp
theorem adjStep_rows (out : List (List Nat)) (p : Ed) (t : Nat) (h : ∀ l ∈ out, l.length ≤ t) : ∀ l ∈ adjStep out p, l.length ≤ t + 1 := by
  intro l hl
  unfold adjStep at hl
  rcases List.mem_or_eq_of_mem_set hl with hl | rfl
  · have := h l hl; omega
  · have := insU_len p.2 (out.getD p.1 [])
    by_cases hp : p.1 < out.length
    · have := h (out.getD p.1 []) (by rw [List.getD_eq_getElem?_getD, List.getElem?_eq_getElem hp]; exact List.getElem_mem hp)
      omega
    · have e : out.getD p.1 [] = [] := by rw [List.getD_eq_getElem?_getD, List.getElem?_eq_none (by omega)]; rfl
      rw [e] at this ⊢
      simp at this
      omega
theorem adj_rows (ps : List Ed) : ∀ (out : List (List Nat)) (t : Nat), (∀ l ∈ out, l.length ≤ t) → ∀ l ∈ ps.foldl adjStep out, l.length ≤ t + ps.length := by
  induction ps with
  | nil => intro out t h; simpa using h
  | cons p r ih =>
    intro out t h l hl
    have := ih _ _ (adjStep_rows out p t h) l hl
    rw [List.length_cons]; omega
theorem adjTo_rows (N : Nat) (cs : List Tri) (c i : Nat) (hcs : cs.length ≤ 4000) : ∀ l ∈ adjTo N cs c i, l.length ≤ 30000 := by
  intro l hl
  have := adj_rows _ (List.replicate N []) 0 (by intro l hl; rw [List.mem_replicate] at hl; rw [hl.2]; exact Nat.le_refl _) l hl
  have h1 : ∀ cs : List Tri, (cs.flatMap prs).length = 6 * cs.length := by
    intro cs
    induction cs with
    | nil => rfl
    | cons x r ih => rw [List.flatMap_cons, List.length_append, ih]; show 6 + _ = _; simp; omega
  rw [List.length_append, h1, List.length_take, List.length_take] at this
  have h6 : (prs (cs.getD c (0, 0, 0))).length = 6 := rfl
  rw [h6] at this
  omega
end Go.Proofs.YtkpgciimhjkajaaGreatDoor
