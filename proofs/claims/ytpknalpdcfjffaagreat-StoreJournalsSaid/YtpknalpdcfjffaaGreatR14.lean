/- Part 14 of the proof: laws on memory and what functions of the program return. No conditions but those that each theorem names. -/
import Derived.Test.YtpknalpdcfjffaaGreatR13
set_option linter.unusedVariables false
set_option linter.unusedSimpArgs false
/- The reference's rest. Printed by gen_rdr.py. -/
namespace Go.Proofs.YtpknalpdcfjffaaGreat
open Go Go.RowKit

theorem Ps.assoc {α β γ : Type} (P : Ps α) (Q : α → Ps β) (R : β → Ps γ) : (P.bind Q).bind R = P.bind fun x => (Q x).bind R := by
  funext l
  unfold Ps.bind
  cases P l with
  | none => rfl
  | some v => rfl
theorem Ps.ret_bind {α β : Type} (x : α) (Q : α → Ps β) : (Ps.ret x).bind Q = Q x := rfl
theorem pPer_bind {β : Type} (f : Per → Ps β) : pPer.bind f = pInt.bind fun a => pBool.bind fun b => pPla.bind fun c => (pList pRd).bind fun d => f ⟨a, b, c, d⟩ := by
  unfold pPer
  simp only [Ps.assoc, Ps.ret_bind]
theorem kc_cyc (av : Nat → Prop) (w : World) : cycE.rep av w (cycCells Ent.zero.cyc nilV nilV nilV nilV nilV nilV nilV nilV) Ent.zero.cyc := (kc_P av w 1 (by unfold I64; omega)).cyc
set_option maxHeartbeats 16000000 in
set_option maxRecDepth 100000 in
theorem gotRest1 (a : Option Addr) (c : Nat) (l : List UInt8) (p : Nat) (ok : Bool) (w : World) (h : BytesL w w.heap.size (.slice a l.length c) l) (hp : p ≤ l.length) (hl : l.length ≤ 1048576) :
    Calls Tryz.prog 37 #[.agg (rdV a l.length c p ok).toArray, .int .i64 1] w (GotR entE (pEnt 1) a c l p ok w) := by
  obtain ⟨h0, r1, r2, hsz⟩ := GV.start (ok := ok) h hp [.int .i64 0, .int .i64 0, .int .i64 0, .string ⟨#[]⟩, .int .i64 0, .int .i64 0, .int .i64 0, .int .i64 0, .int .i64 0, .slice none 0 0, .int .i64 0, .int .i64 0, .int .i64 0, .string ⟨#[]⟩, .int .i64 0, .bool false, .int .i64 0, .int .i64 0, .int .i64 0, .int .i64 0, .slice none 0 0, .int .i64 0, .int .i64 0, .int .i64 0, .slice none 0 0, .slice none 0 0, .slice none 0 0, .slice none 0 0, .int .i64 0, .int .u64 0, .int .i64 0, .int .i64 0, .int .i64 0, .int .i64 0, .slice none 0 0, .slice none 0 0, .slice none 0 0, .slice none 0 0] (by decide) 55 (by decide) rfl
  have H0 := Lib.hid h0
  have R1 := Lib.hid r1
  have R2 := Lib.hid r2
  have HZ := Lib.hid hsz
  have HL := Lib.hid hl
  clear h0 r1 r2 hsz h hp hl
  have hbK := run_buildK 1
  go_enter Tryz.func37, Tryz.ntmps37
  go_upto_region 1 with fail
  generalize ((w.alloc (.cells (rdV a l.length c p ok).toArray 99)).alloc (.cells #[.slice none 0 0, .int .i64 0, .bool false] 99)).alloc (.cells #[.int .i64 0, .int .i64 0, .int .i64 0, .string ⟨#[]⟩, .int .i64 0, .int .i64 0, .int .i64 0, .int .i64 0, .int .i64 0, .slice none 0 0, .int .i64 0, .int .i64 0, .int .i64 0, .string ⟨#[]⟩, .int .i64 0, .bool false, .int .i64 0, .int .i64 0, .int .i64 0, .int .i64 0, .slice none 0 0, .int .i64 0, .int .i64 0, .int .i64 0, .slice none 0 0, .slice none 0 0, .slice none 0 0, .slice none 0 0, .int .i64 0, .int .u64 0, .int .i64 0, .int .i64 0, .int .i64 0, .int .i64 0, .slice none 0 0, .slice none 0 0, .slice none 0 0, .slice none 0 0] 55) = W0 at H0 R1 R2 HZ ⊢
  have HA : Hid (GV a c l w W0 W0.heap.size p ok [.int .i64 0, .int .i64 0, .int .i64 0, .string ⟨#[]⟩, .int .i64 0, .int .i64 0, .int .i64 0, .int .i64 0, .int .i64 0, .slice none 0 0, .int .i64 0, .int .i64 0, .int .i64 0, .string ⟨#[]⟩, .int .i64 0, .bool false, .int .i64 0, .int .i64 0, .int .i64 0, .int .i64 0, .slice none 0 0, .int .i64 0, .int .i64 0, .int .i64 0, .slice none 0 0, .slice none 0 0, .slice none 0 0, .slice none 0 0, .int .i64 0, .int .u64 0, .int .i64 0, .int .i64 0, .int .i64 0, .int .i64 0, .slice none 0 0, .slice none 0 0, .slice none 0 0, .slice none 0 0] (fun _ => True) (W0.alloc (.cells #[.int .i64 0, .int .i64 0, .int .i64 0, .string ⟨#[]⟩, .int .i64 0, .int .i64 0, .int .i64 0, .int .i64 0, .int .i64 0, .slice none 0 0, .int .i64 0, .int .i64 0, .int .i64 0, .string ⟨#[]⟩, .int .i64 0, .bool false, .int .i64 0, .int .i64 0, .int .i64 0, .int .i64 0, .slice none 0 0, .int .i64 0, .int .i64 0, .int .i64 0, .slice none 0 0, .slice none 0 0, .slice none 0 0, .slice none 0 0, .int .i64 0, .int .u64 0, .int .i64 0, .int .i64 0, .int .i64 0, .int .i64 0, .slice none 0 0, .slice none 0 0, .slice none 0 0, .slice none 0 0] 55))) := H0
  clear H0
  go_upto_region 2 with (first
    | ((first | with_reducible refine gate_st ?_ | with_reducible refine gate_stw ?_); refine list_storeAgg rfl _ _ rfl W0.heap.size 0 rfl (kc 1) rfl (by rw [sz_ent]; rfl) (kc_one 1) (HA.out.v.thereMid 0 38 (Nat.le_refl 38)) ?_
       intro W hW
       have H : Hid (GV a c l w W0 W0.heap.size p ok [.int .i64 1, .int .i64 0, .int .i64 0, .string ⟨#[]⟩, .int .i64 0, .int .i64 0, .int .i64 0, .int .i64 0, .int .i64 0, .slice none 0 0, .int .i64 0, .int .i64 0, .int .i64 0, .string ⟨#[]⟩, .int .i64 0, .bool false, .int .i64 0, .int .i64 0, .int .i64 0, .int .i64 0, .slice none 0 0, .int .i64 0, .int .i64 0, .int .i64 0, .slice none 0 0, .slice none 0 0, .slice none 0 0, .slice none 0 0, .int .i64 0, .int .u64 0, .int .i64 0, .int .i64 0, .int .i64 0, .int .i64 0, .slice none 0 0, .slice none 0 0, .slice none 0 0, .slice none 0 0] (fun _ => True) W) := HA.out.set (Nat.le_refl 38) hW
       clear hW HA)
    | fail)
  clear hbK
  generalize W0.heap.size = V at H HZ ⊢
  go_wp2_with (first | ((first | with_reducible refine gate_ld ?_ | with_reducible refine gate_ldw ?_); refine list_loadAgg H.out.rdr rfl _ rfl rfl ?_) | fail)
  refine (gotI a c l p ok W H.out.k.call_src H.out.k.le).mono ?_
  rintro e W1 ⟨p1, ok1, x1, rfl, hx, hwent, hb⟩
  have HW1 := Lib.hid hwent
  have HX1 := Lib.hid hx
  have G1 := Lib.hid (H.out.new hb)
  clear hwent hb hx H
  go_upto_region 15 with (first
    | ((first | with_reducible refine gate_st ?_ | with_reducible refine gate_stw ?_); refine list_storeAgg rfl _ _ rfl w.heap.size 0 rfl (rdV a l.length c p1 ok1) rfl (by rw [sz_rd]; rfl) (all_one rfl) (G1.out.k.x.thereMid 0 3 (by simp [rdV])) ?_
       intro wA hwA
       have A1 := Lib.hid (G1.out.put HW1.out.le hwA)
       clear hwA G1)
    | ((first | with_reducible refine gate_st ?_ | with_reducible refine gate_stw ?_); refine list_storeV rfl _ _ rfl V 1 rfl (.int .i64 x1) rfl [.int .i64 x1] rfl (by kernel_rfl) (all_one rfl) (A1.out.v.thereMid 1 1 (by simp)) ?_
       intro V1 hwB
       have H1 : Hid (GV a c l w W0 V p1 ok1 [.int .i64 1, .int .i64 x1, .int .i64 0, .string ⟨#[]⟩, .int .i64 0, .int .i64 0, .int .i64 0, .int .i64 0, .int .i64 0, .slice none 0 0, .int .i64 0, .int .i64 0, .int .i64 0, .string ⟨#[]⟩, .int .i64 0, .bool false, .int .i64 0, .int .i64 0, .int .i64 0, .int .i64 0, .slice none 0 0, .int .i64 0, .int .i64 0, .int .i64 0, .slice none 0 0, .slice none 0 0, .slice none 0 0, .slice none 0 0, .int .i64 0, .int .u64 0, .int .i64 0, .int .i64 0, .int .i64 0, .int .i64 0, .slice none 0 0, .slice none 0 0, .slice none 0 0, .slice none 0 0] _ V1) := A1.out.set (by simp) hwB
       clear hwB A1)
    | fail)
  obtain ⟨hd, ht1, hs1, hs2, ht2⟩ := H1.out.last R1.out R2.out rfl rfl
  have HD := Lib.hid hd
  have HT1 := Lib.hid ht1
  have HT2 := Lib.hid ht2
  have HS := Lib.hid (And.intro hs1 hs2)
  clear hd ht1 hs1 hs2 ht2
  refine wp_region_seqL (by kernel_rfl) (fun w' => PAt w' w.heap.size (rdV a l.length c p1 ok1) ∧ PAt w' V [.int .i64 1, .int .i64 x1, .int .i64 0, .string ⟨#[]⟩, .int .i64 0, .int .i64 0, .int .i64 0, .int .i64 0, .int .i64 0, .slice none 0 0, .int .i64 0, .int .i64 0, .int .i64 0, .string ⟨#[]⟩, .int .i64 0, .bool false, .int .i64 0, .int .i64 0, .int .i64 0, .int .i64 0, .slice none 0 0, .int .i64 0, .int .i64 0, .int .i64 0, .slice none 0 0, .slice none 0 0, .slice none 0 0, .slice none 0 0, .int .i64 0, .int .u64 0, .int .i64 0, .int .i64 0, .int .i64 0, .int .i64 0, .slice none 0 0, .slice none 0 0, .slice none 0 0, .slice none 0 0]) 3 [(0, 1), (1, 1), (2, 2), (3, 2)] (by kernel_rfl) ⟨HD.out.k.x, HD.out.v⟩ ?_
  refine sl_load (d := some 69) rfl rfl rfl _ _ rfl ⟨w.heap.size, 0, none⟩ rfl (.agg (rdV a l.length c p1 ok1).toArray) (fun w1 hw => rd_load w1 _ _ rfl hw.1.1.range) ?_
  simp only [Act.put, List.setIfInBounds_toArray, List.set_cons_zero, List.set_cons_succ]
  refine sl_load (d := some 70) rfl rfl rfl _ _ rfl ⟨V, 0, none⟩ rfl (.agg ([.int .i64 1, .int .i64 x1, .int .i64 0, .string ⟨#[]⟩, .int .i64 0, .int .i64 0, .int .i64 0, .int .i64 0, .int .i64 0, .slice none 0 0, .int .i64 0, .int .i64 0, .int .i64 0, .string ⟨#[]⟩, .int .i64 0, .bool false, .int .i64 0, .int .i64 0, .int .i64 0, .int .i64 0, .slice none 0 0, .int .i64 0, .int .i64 0, .int .i64 0, .slice none 0 0, .slice none 0 0, .slice none 0 0, .slice none 0 0, .int .i64 0, .int .u64 0, .int .i64 0, .int .i64 0, .int .i64 0, .int .i64 0, .slice none 0 0, .slice none 0 0, .slice none 0 0, .slice none 0 0] : List Value).toArray) (fun w1 hw => hw.2.1.loadVar rowT_ent) ?_
  simp only [Act.put, List.setIfInBounds_toArray, List.set_cons_zero, List.set_cons_succ]
  refine sl_skip (d := none) rfl rfl rfl _ (store_runV _ _ rfl (w.heap.size + 1) 0 rfl (.agg (rdV a l.length c p1 ok1).toArray) rfl (rdV a l.length c p1 ok1) rfl (by rw [sz_rd]; rfl) (all_one rfl) HT1.out) (fun _ => HS.out) ?_
  simp only [Act.put, List.setIfInBounds_toArray, List.set_cons_zero, List.set_cons_succ]
  refine sl_skip (d := none) rfl rfl rfl _ (store_runV _ _ rfl (w.heap.size + 2) 0 rfl (.agg ([.int .i64 1, .int .i64 x1, .int .i64 0, .string ⟨#[]⟩, .int .i64 0, .int .i64 0, .int .i64 0, .int .i64 0, .int .i64 0, .slice none 0 0, .int .i64 0, .int .i64 0, .int .i64 0, .string ⟨#[]⟩, .int .i64 0, .bool false, .int .i64 0, .int .i64 0, .int .i64 0, .int .i64 0, .slice none 0 0, .int .i64 0, .int .i64 0, .int .i64 0, .slice none 0 0, .slice none 0 0, .slice none 0 0, .slice none 0 0, .int .i64 0, .int .u64 0, .int .i64 0, .int .i64 0, .int .i64 0, .int .i64 0, .slice none 0 0, .slice none 0 0, .slice none 0 0, .slice none 0 0] : List Value).toArray) rfl [.int .i64 1, .int .i64 x1, .int .i64 0, .string ⟨#[]⟩, .int .i64 0, .int .i64 0, .int .i64 0, .int .i64 0, .int .i64 0, .slice none 0 0, .int .i64 0, .int .i64 0, .int .i64 0, .string ⟨#[]⟩, .int .i64 0, .bool false, .int .i64 0, .int .i64 0, .int .i64 0, .int .i64 0, .slice none 0 0, .int .i64 0, .int .i64 0, .int .i64 0, .slice none 0 0, .slice none 0 0, .slice none 0 0, .slice none 0 0, .int .i64 0, .int .u64 0, .int .i64 0, .int .i64 0, .int .i64 0, .int .i64 0, .slice none 0 0, .slice none 0 0, .slice none 0 0, .slice none 0 0] rfl (by kernel_rfl) (all_one rfl) HT2.out) (fun h => by cases h) ?_
  simp only [Act.put, List.setIfInBounds_toArray, List.set_cons_zero, List.set_cons_succ]
  refine sl_end ?_
  go_wp2_with fail
  obtain ⟨e1, e2, hd, hb⟩ := HD.out.fin R1.out R2.out rfl rfl rfl rfl
  refine ret_rows rfl _ _ _ _ e1.1 e2.1 rowT_rd rowT_ent rfl rfl rfl ?_
  have hz : w.heap.size ≤ V + 1 := by have := HZ.out; omega
  have z := fun W => kc_P (fun k => w.heap.size ≤ k) W 1 (by unfold I64; omega)
  exact ⟨p1, ok1, _, { Ent.zero with kind := 1, now := x1 }, rfl, ⟨_, _, _, _, _, _, _, _, _, _, rfl, ⟨(z w).kind, HX1.out, (z _).rep, (z w).corr, (z w).arr, (z w).st, (z w).name, (z _).per, kc_cyc _ _⟩⟩, (HW1.out).bind (Went.ret HW1.out.le _), hb⟩
set_option maxHeartbeats 16000000 in
set_option maxRecDepth 100000 in
theorem gotRest2 (a : Option Addr) (c : Nat) (l : List UInt8) (p : Nat) (ok : Bool) (w : World) (h : BytesL w w.heap.size (.slice a l.length c) l) (hp : p ≤ l.length) (hl : l.length ≤ 1048576) :
    Calls Tryz.prog 37 #[.agg (rdV a l.length c p ok).toArray, .int .i64 2] w (GotR entE (pEnt 2) a c l p ok w) := by
  obtain ⟨h0, r1, r2, hsz⟩ := GV.start (ok := ok) h hp [.int .i64 0, .int .i64 0, .int .i64 0, .string ⟨#[]⟩, .int .i64 0, .int .i64 0, .int .i64 0, .int .i64 0, .int .i64 0, .slice none 0 0, .int .i64 0, .int .i64 0, .int .i64 0, .string ⟨#[]⟩, .int .i64 0, .bool false, .int .i64 0, .int .i64 0, .int .i64 0, .int .i64 0, .slice none 0 0, .int .i64 0, .int .i64 0, .int .i64 0, .slice none 0 0, .slice none 0 0, .slice none 0 0, .slice none 0 0, .int .i64 0, .int .u64 0, .int .i64 0, .int .i64 0, .int .i64 0, .int .i64 0, .slice none 0 0, .slice none 0 0, .slice none 0 0, .slice none 0 0] (by decide) 55 (by decide) rfl
  have H0 := Lib.hid h0
  have R1 := Lib.hid r1
  have R2 := Lib.hid r2
  have HZ := Lib.hid hsz
  have HL := Lib.hid hl
  clear h0 r1 r2 hsz h hp hl
  have hbK := run_buildK 2
  go_enter Tryz.func37, Tryz.ntmps37
  go_upto_region 1 with fail
  generalize ((w.alloc (.cells (rdV a l.length c p ok).toArray 99)).alloc (.cells #[.slice none 0 0, .int .i64 0, .bool false] 99)).alloc (.cells #[.int .i64 0, .int .i64 0, .int .i64 0, .string ⟨#[]⟩, .int .i64 0, .int .i64 0, .int .i64 0, .int .i64 0, .int .i64 0, .slice none 0 0, .int .i64 0, .int .i64 0, .int .i64 0, .string ⟨#[]⟩, .int .i64 0, .bool false, .int .i64 0, .int .i64 0, .int .i64 0, .int .i64 0, .slice none 0 0, .int .i64 0, .int .i64 0, .int .i64 0, .slice none 0 0, .slice none 0 0, .slice none 0 0, .slice none 0 0, .int .i64 0, .int .u64 0, .int .i64 0, .int .i64 0, .int .i64 0, .int .i64 0, .slice none 0 0, .slice none 0 0, .slice none 0 0, .slice none 0 0] 55) = W0 at H0 R1 R2 HZ ⊢
  have HA : Hid (GV a c l w W0 W0.heap.size p ok [.int .i64 0, .int .i64 0, .int .i64 0, .string ⟨#[]⟩, .int .i64 0, .int .i64 0, .int .i64 0, .int .i64 0, .int .i64 0, .slice none 0 0, .int .i64 0, .int .i64 0, .int .i64 0, .string ⟨#[]⟩, .int .i64 0, .bool false, .int .i64 0, .int .i64 0, .int .i64 0, .int .i64 0, .slice none 0 0, .int .i64 0, .int .i64 0, .int .i64 0, .slice none 0 0, .slice none 0 0, .slice none 0 0, .slice none 0 0, .int .i64 0, .int .u64 0, .int .i64 0, .int .i64 0, .int .i64 0, .int .i64 0, .slice none 0 0, .slice none 0 0, .slice none 0 0, .slice none 0 0] (fun _ => True) (W0.alloc (.cells #[.int .i64 0, .int .i64 0, .int .i64 0, .string ⟨#[]⟩, .int .i64 0, .int .i64 0, .int .i64 0, .int .i64 0, .int .i64 0, .slice none 0 0, .int .i64 0, .int .i64 0, .int .i64 0, .string ⟨#[]⟩, .int .i64 0, .bool false, .int .i64 0, .int .i64 0, .int .i64 0, .int .i64 0, .slice none 0 0, .int .i64 0, .int .i64 0, .int .i64 0, .slice none 0 0, .slice none 0 0, .slice none 0 0, .slice none 0 0, .int .i64 0, .int .u64 0, .int .i64 0, .int .i64 0, .int .i64 0, .int .i64 0, .slice none 0 0, .slice none 0 0, .slice none 0 0, .slice none 0 0] 55))) := H0
  clear H0
  go_upto_region 2 with (first
    | ((first | with_reducible refine gate_st ?_ | with_reducible refine gate_stw ?_); refine list_storeAgg rfl _ _ rfl W0.heap.size 0 rfl (kc 2) rfl (by rw [sz_ent]; rfl) (kc_one 2) (HA.out.v.thereMid 0 38 (Nat.le_refl 38)) ?_
       intro W hW
       have H : Hid (GV a c l w W0 W0.heap.size p ok [.int .i64 2, .int .i64 0, .int .i64 0, .string ⟨#[]⟩, .int .i64 0, .int .i64 0, .int .i64 0, .int .i64 0, .int .i64 0, .slice none 0 0, .int .i64 0, .int .i64 0, .int .i64 0, .string ⟨#[]⟩, .int .i64 0, .bool false, .int .i64 0, .int .i64 0, .int .i64 0, .int .i64 0, .slice none 0 0, .int .i64 0, .int .i64 0, .int .i64 0, .slice none 0 0, .slice none 0 0, .slice none 0 0, .slice none 0 0, .int .i64 0, .int .u64 0, .int .i64 0, .int .i64 0, .int .i64 0, .int .i64 0, .slice none 0 0, .slice none 0 0, .slice none 0 0, .slice none 0 0] (fun _ => True) W) := HA.out.set (Nat.le_refl 38) hW
       clear hW HA)
    | fail)
  clear hbK
  generalize W0.heap.size = V at H HZ ⊢
  go_wp2_with (first | ((first | with_reducible refine gate_ld ?_ | with_reducible refine gate_ldw ?_); refine list_loadAgg H.out.rdr rfl _ rfl rfl ?_) | fail)
  refine (gotRep a c l p ok W H.out.k.call_src H.out.k.le HL.out).mono ?_
  rintro e W1 ⟨p1, ok1, es, x1, rfl, hx, hwent, hb⟩
  have HW1 := Lib.hid hwent
  obtain ⟨rv, rfl, q1, q2, q3, q4, q5⟩ := hx
  obtain ⟨ra, rc, rfl⟩ := q5.slice
  have HX1 : Hid (I64 x1.kind ∧ x1.name.size ≤ 10000000 ∧ I64 x1.time ∧ okPla x1.pl) := ⟨q1, q2, q3, q4⟩
  have G1 := Lib.hid ((H.out.new hb).more (Stab.rds rdE_ok (V + 1) _ _) (q5.up rdE_ok H.out.le))
  clear hwent hb q1 q2 q3 q4 q5 H
  go_upto_region 7 with (first
    | ((first | with_reducible refine gate_st ?_ | with_reducible refine gate_stw ?_); refine list_storeAgg rfl _ _ rfl w.heap.size 0 rfl (rdV a l.length c p1 ok1) rfl (by rw [sz_rd]; rfl) (all_one rfl) (G1.out.k.x.thereMid 0 3 (by simp [rdV])) ?_
       intro wA hwA
       have A1 := Lib.hid (G1.out.put HW1.out.le hwA)
       clear hwA G1)
    | ((first | with_reducible refine gate_st ?_ | with_reducible refine gate_stw ?_); refine list_storeV rfl _ _ rfl V 2 rfl (.agg #[.int .i64 x1.kind, .string x1.name, .int .i64 x1.time, .int .i64 x1.pl.f, .int .i64 x1.pl.a, .int .i64 x1.pl.b, .int .i64 x1.pl.c, .slice ra x1.rds.length rc]) rfl [.int .i64 x1.kind, .string x1.name, .int .i64 x1.time, .int .i64 x1.pl.f, .int .i64 x1.pl.a, .int .i64 x1.pl.b, .int .i64 x1.pl.c, .slice ra x1.rds.length rc] rfl (by kernel_rfl) (all_one rfl) (A1.out.v.thereMid 2 8 (by simp)) ?_
       intro V1 hwB
       have H1 : Hid (GV a c l w W0 V p1 ok1 [.int .i64 2, .int .i64 0, .int .i64 x1.kind, .string x1.name, .int .i64 x1.time, .int .i64 x1.pl.f, .int .i64 x1.pl.a, .int .i64 x1.pl.b, .int .i64 x1.pl.c, .slice ra x1.rds.length rc, .int .i64 0, .int .i64 0, .int .i64 0, .string ⟨#[]⟩, .int .i64 0, .bool false, .int .i64 0, .int .i64 0, .int .i64 0, .int .i64 0, .slice none 0 0, .int .i64 0, .int .i64 0, .int .i64 0, .slice none 0 0, .slice none 0 0, .slice none 0 0, .slice none 0 0, .int .i64 0, .int .u64 0, .int .i64 0, .int .i64 0, .int .i64 0, .int .i64 0, .slice none 0 0, .slice none 0 0, .slice none 0 0, .slice none 0 0] _ V1) := A1.out.set (by simp) hwB
       clear hwB A1)
    | fail)
  go_wp2_with (first | ((first | with_reducible refine gate_ld ?_ | with_reducible refine gate_ldw ?_); refine list_loadAgg H1.out.rdr rfl _ rfl rfl ?_) | fail)
  refine (gotI a c l p1 ok1 V1 H1.out.k.call_src H1.out.k.le).mono ?_
  rintro e W2 ⟨p2, ok2, x2, rfl, hx, hwent, hb⟩
  have HW2 := Lib.hid hwent
  have HX2 := Lib.hid hx
  have G2 := Lib.hid (H1.out.new hb)
  clear hwent hb hx H1
  go_upto_region 8 with (first
    | ((first | with_reducible refine gate_st ?_ | with_reducible refine gate_stw ?_); refine list_storeAgg rfl _ _ rfl w.heap.size 0 rfl (rdV a l.length c p2 ok2) rfl (by rw [sz_rd]; rfl) (all_one rfl) (G2.out.k.x.thereMid 0 3 (by simp [rdV])) ?_
       intro wA hwA
       have A2 := Lib.hid (G2.out.put HW2.out.le hwA)
       clear hwA G2)
    | ((first | with_reducible refine gate_st ?_ | with_reducible refine gate_stw ?_); refine list_storeV rfl _ _ rfl V 10 rfl (.int .i64 x2) rfl [.int .i64 x2] rfl (by kernel_rfl) (all_one rfl) (A2.out.v.thereMid 10 1 (by simp)) ?_
       intro V2 hwB
       have H2 : Hid (GV a c l w W0 V p2 ok2 [.int .i64 2, .int .i64 0, .int .i64 x1.kind, .string x1.name, .int .i64 x1.time, .int .i64 x1.pl.f, .int .i64 x1.pl.a, .int .i64 x1.pl.b, .int .i64 x1.pl.c, .slice ra x1.rds.length rc, .int .i64 x2, .int .i64 0, .int .i64 0, .string ⟨#[]⟩, .int .i64 0, .bool false, .int .i64 0, .int .i64 0, .int .i64 0, .int .i64 0, .slice none 0 0, .int .i64 0, .int .i64 0, .int .i64 0, .slice none 0 0, .slice none 0 0, .slice none 0 0, .slice none 0 0, .int .i64 0, .int .u64 0, .int .i64 0, .int .i64 0, .int .i64 0, .int .i64 0, .slice none 0 0, .slice none 0 0, .slice none 0 0, .slice none 0 0] _ V2) := A2.out.set (by simp) hwB
       clear hwB A2)
    | fail)
  go_wp2_with (first | ((first | with_reducible refine gate_ld ?_ | with_reducible refine gate_ldw ?_); refine list_loadAgg H2.out.rdr rfl _ rfl rfl ?_) | fail)
  refine (gotI a c l p2 ok2 V2 H2.out.k.call_src H2.out.k.le).mono ?_
  rintro e W3 ⟨p3, ok3, x3, rfl, hx, hwent, hb⟩
  have HW3 := Lib.hid hwent
  have HX3 := Lib.hid hx
  have G3 := Lib.hid (H2.out.new hb)
  clear hwent hb hx H2
  go_upto_region 15 with (first
    | ((first | with_reducible refine gate_st ?_ | with_reducible refine gate_stw ?_); refine list_storeAgg rfl _ _ rfl w.heap.size 0 rfl (rdV a l.length c p3 ok3) rfl (by rw [sz_rd]; rfl) (all_one rfl) (G3.out.k.x.thereMid 0 3 (by simp [rdV])) ?_
       intro wA hwA
       have A3 := Lib.hid (G3.out.put HW3.out.le hwA)
       clear hwA G3)
    | ((first | with_reducible refine gate_st ?_ | with_reducible refine gate_stw ?_); refine list_storeV rfl _ _ rfl V 11 rfl (.int .i64 x3) rfl [.int .i64 x3] rfl (by kernel_rfl) (all_one rfl) (A3.out.v.thereMid 11 1 (by simp)) ?_
       intro V3 hwB
       have H3 : Hid (GV a c l w W0 V p3 ok3 [.int .i64 2, .int .i64 0, .int .i64 x1.kind, .string x1.name, .int .i64 x1.time, .int .i64 x1.pl.f, .int .i64 x1.pl.a, .int .i64 x1.pl.b, .int .i64 x1.pl.c, .slice ra x1.rds.length rc, .int .i64 x2, .int .i64 x3, .int .i64 0, .string ⟨#[]⟩, .int .i64 0, .bool false, .int .i64 0, .int .i64 0, .int .i64 0, .int .i64 0, .slice none 0 0, .int .i64 0, .int .i64 0, .int .i64 0, .slice none 0 0, .slice none 0 0, .slice none 0 0, .slice none 0 0, .int .i64 0, .int .u64 0, .int .i64 0, .int .i64 0, .int .i64 0, .int .i64 0, .slice none 0 0, .slice none 0 0, .slice none 0 0, .slice none 0 0] _ V3) := A3.out.set (by simp) hwB
       clear hwB A3)
    | fail)
  obtain ⟨hd, ht1, hs1, hs2, ht2⟩ := H3.out.last R1.out R2.out rfl rfl
  have HD := Lib.hid hd
  have HT1 := Lib.hid ht1
  have HT2 := Lib.hid ht2
  have HS := Lib.hid (And.intro hs1 hs2)
  clear hd ht1 hs1 hs2 ht2
  refine wp_region_seqL (by kernel_rfl) (fun w' => PAt w' w.heap.size (rdV a l.length c p3 ok3) ∧ PAt w' V [.int .i64 2, .int .i64 0, .int .i64 x1.kind, .string x1.name, .int .i64 x1.time, .int .i64 x1.pl.f, .int .i64 x1.pl.a, .int .i64 x1.pl.b, .int .i64 x1.pl.c, .slice ra x1.rds.length rc, .int .i64 x2, .int .i64 x3, .int .i64 0, .string ⟨#[]⟩, .int .i64 0, .bool false, .int .i64 0, .int .i64 0, .int .i64 0, .int .i64 0, .slice none 0 0, .int .i64 0, .int .i64 0, .int .i64 0, .slice none 0 0, .slice none 0 0, .slice none 0 0, .slice none 0 0, .int .i64 0, .int .u64 0, .int .i64 0, .int .i64 0, .int .i64 0, .int .i64 0, .slice none 0 0, .slice none 0 0, .slice none 0 0, .slice none 0 0]) 3 [(0, 1), (1, 1), (2, 2), (3, 2)] (by kernel_rfl) ⟨HD.out.k.x, HD.out.v⟩ ?_
  refine sl_load (d := some 69) rfl rfl rfl _ _ rfl ⟨w.heap.size, 0, none⟩ rfl (.agg (rdV a l.length c p3 ok3).toArray) (fun w1 hw => rd_load w1 _ _ rfl hw.1.1.range) ?_
  simp only [Act.put, List.setIfInBounds_toArray, List.set_cons_zero, List.set_cons_succ]
  refine sl_load (d := some 70) rfl rfl rfl _ _ rfl ⟨V, 0, none⟩ rfl (.agg ([.int .i64 2, .int .i64 0, .int .i64 x1.kind, .string x1.name, .int .i64 x1.time, .int .i64 x1.pl.f, .int .i64 x1.pl.a, .int .i64 x1.pl.b, .int .i64 x1.pl.c, .slice ra x1.rds.length rc, .int .i64 x2, .int .i64 x3, .int .i64 0, .string ⟨#[]⟩, .int .i64 0, .bool false, .int .i64 0, .int .i64 0, .int .i64 0, .int .i64 0, .slice none 0 0, .int .i64 0, .int .i64 0, .int .i64 0, .slice none 0 0, .slice none 0 0, .slice none 0 0, .slice none 0 0, .int .i64 0, .int .u64 0, .int .i64 0, .int .i64 0, .int .i64 0, .int .i64 0, .slice none 0 0, .slice none 0 0, .slice none 0 0, .slice none 0 0] : List Value).toArray) (fun w1 hw => hw.2.1.loadVar rowT_ent) ?_
  simp only [Act.put, List.setIfInBounds_toArray, List.set_cons_zero, List.set_cons_succ]
  refine sl_skip (d := none) rfl rfl rfl _ (store_runV _ _ rfl (w.heap.size + 1) 0 rfl (.agg (rdV a l.length c p3 ok3).toArray) rfl (rdV a l.length c p3 ok3) rfl (by rw [sz_rd]; rfl) (all_one rfl) HT1.out) (fun _ => HS.out) ?_
  simp only [Act.put, List.setIfInBounds_toArray, List.set_cons_zero, List.set_cons_succ]
  refine sl_skip (d := none) rfl rfl rfl _ (store_runV _ _ rfl (w.heap.size + 2) 0 rfl (.agg ([.int .i64 2, .int .i64 0, .int .i64 x1.kind, .string x1.name, .int .i64 x1.time, .int .i64 x1.pl.f, .int .i64 x1.pl.a, .int .i64 x1.pl.b, .int .i64 x1.pl.c, .slice ra x1.rds.length rc, .int .i64 x2, .int .i64 x3, .int .i64 0, .string ⟨#[]⟩, .int .i64 0, .bool false, .int .i64 0, .int .i64 0, .int .i64 0, .int .i64 0, .slice none 0 0, .int .i64 0, .int .i64 0, .int .i64 0, .slice none 0 0, .slice none 0 0, .slice none 0 0, .slice none 0 0, .int .i64 0, .int .u64 0, .int .i64 0, .int .i64 0, .int .i64 0, .int .i64 0, .slice none 0 0, .slice none 0 0, .slice none 0 0, .slice none 0 0] : List Value).toArray) rfl [.int .i64 2, .int .i64 0, .int .i64 x1.kind, .string x1.name, .int .i64 x1.time, .int .i64 x1.pl.f, .int .i64 x1.pl.a, .int .i64 x1.pl.b, .int .i64 x1.pl.c, .slice ra x1.rds.length rc, .int .i64 x2, .int .i64 x3, .int .i64 0, .string ⟨#[]⟩, .int .i64 0, .bool false, .int .i64 0, .int .i64 0, .int .i64 0, .int .i64 0, .slice none 0 0, .int .i64 0, .int .i64 0, .int .i64 0, .slice none 0 0, .slice none 0 0, .slice none 0 0, .slice none 0 0, .int .i64 0, .int .u64 0, .int .i64 0, .int .i64 0, .int .i64 0, .int .i64 0, .slice none 0 0, .slice none 0 0, .slice none 0 0, .slice none 0 0] rfl (by kernel_rfl) (all_one rfl) HT2.out) (fun h => by cases h) ?_
  simp only [Act.put, List.setIfInBounds_toArray, List.set_cons_zero, List.set_cons_succ]
  refine sl_end ?_
  go_wp2_with fail
  obtain ⟨e1, e2, hd, hb⟩ := HD.out.fin R1.out R2.out rfl rfl rfl rfl
  refine ret_rows rfl _ _ _ _ e1.1 e2.1 rowT_rd rowT_ent rfl rfl rfl ?_
  have hz : w.heap.size ≤ V + 1 := by have := HZ.out; omega
  have z := fun W => kc_P (fun k => w.heap.size ≤ k) W 2 (by unfold I64; omega)
  exact ⟨p3, ok3, _, { Ent.zero with kind := 2, rep := x1, corr := x2, arr := x3 }, rfl, ⟨_, _, _, _, _, _, _, _, _, _, rfl, ⟨(z w).kind, (z w).now, ⟨HX1.out.1, HX1.out.2.1, HX1.out.2.2.1, HX1.out.2.2.2, hd.2.up rdE_ok hz⟩, HX2.out, HX3.out, (z w).st, (z w).name, (z _).per, kc_cyc _ _⟩⟩, (HW1.out).bind ((HW2.out).bind ((HW3.out).bind (Went.ret HW3.out.le _))), hb⟩
set_option maxHeartbeats 16000000 in
set_option maxRecDepth 100000 in
theorem gotRest3 (a : Option Addr) (c : Nat) (l : List UInt8) (p : Nat) (ok : Bool) (w : World) (h : BytesL w w.heap.size (.slice a l.length c) l) (hp : p ≤ l.length) (hl : l.length ≤ 1048576) :
    Calls Tryz.prog 37 #[.agg (rdV a l.length c p ok).toArray, .int .i64 3] w (GotR entE (pEnt 3) a c l p ok w) := by
  obtain ⟨h0, r1, r2, hsz⟩ := GV.start (ok := ok) h hp [.int .i64 0, .int .i64 0, .int .i64 0, .string ⟨#[]⟩, .int .i64 0, .int .i64 0, .int .i64 0, .int .i64 0, .int .i64 0, .slice none 0 0, .int .i64 0, .int .i64 0, .int .i64 0, .string ⟨#[]⟩, .int .i64 0, .bool false, .int .i64 0, .int .i64 0, .int .i64 0, .int .i64 0, .slice none 0 0, .int .i64 0, .int .i64 0, .int .i64 0, .slice none 0 0, .slice none 0 0, .slice none 0 0, .slice none 0 0, .int .i64 0, .int .u64 0, .int .i64 0, .int .i64 0, .int .i64 0, .int .i64 0, .slice none 0 0, .slice none 0 0, .slice none 0 0, .slice none 0 0] (by decide) 55 (by decide) rfl
  have H0 := Lib.hid h0
  have R1 := Lib.hid r1
  have R2 := Lib.hid r2
  have HZ := Lib.hid hsz
  have HL := Lib.hid hl
  clear h0 r1 r2 hsz h hp hl
  have hbK := run_buildK 3
  go_enter Tryz.func37, Tryz.ntmps37
  go_upto_region 1 with fail
  generalize ((w.alloc (.cells (rdV a l.length c p ok).toArray 99)).alloc (.cells #[.slice none 0 0, .int .i64 0, .bool false] 99)).alloc (.cells #[.int .i64 0, .int .i64 0, .int .i64 0, .string ⟨#[]⟩, .int .i64 0, .int .i64 0, .int .i64 0, .int .i64 0, .int .i64 0, .slice none 0 0, .int .i64 0, .int .i64 0, .int .i64 0, .string ⟨#[]⟩, .int .i64 0, .bool false, .int .i64 0, .int .i64 0, .int .i64 0, .int .i64 0, .slice none 0 0, .int .i64 0, .int .i64 0, .int .i64 0, .slice none 0 0, .slice none 0 0, .slice none 0 0, .slice none 0 0, .int .i64 0, .int .u64 0, .int .i64 0, .int .i64 0, .int .i64 0, .int .i64 0, .slice none 0 0, .slice none 0 0, .slice none 0 0, .slice none 0 0] 55) = W0 at H0 R1 R2 HZ ⊢
  have HA : Hid (GV a c l w W0 W0.heap.size p ok [.int .i64 0, .int .i64 0, .int .i64 0, .string ⟨#[]⟩, .int .i64 0, .int .i64 0, .int .i64 0, .int .i64 0, .int .i64 0, .slice none 0 0, .int .i64 0, .int .i64 0, .int .i64 0, .string ⟨#[]⟩, .int .i64 0, .bool false, .int .i64 0, .int .i64 0, .int .i64 0, .int .i64 0, .slice none 0 0, .int .i64 0, .int .i64 0, .int .i64 0, .slice none 0 0, .slice none 0 0, .slice none 0 0, .slice none 0 0, .int .i64 0, .int .u64 0, .int .i64 0, .int .i64 0, .int .i64 0, .int .i64 0, .slice none 0 0, .slice none 0 0, .slice none 0 0, .slice none 0 0] (fun _ => True) (W0.alloc (.cells #[.int .i64 0, .int .i64 0, .int .i64 0, .string ⟨#[]⟩, .int .i64 0, .int .i64 0, .int .i64 0, .int .i64 0, .int .i64 0, .slice none 0 0, .int .i64 0, .int .i64 0, .int .i64 0, .string ⟨#[]⟩, .int .i64 0, .bool false, .int .i64 0, .int .i64 0, .int .i64 0, .int .i64 0, .slice none 0 0, .int .i64 0, .int .i64 0, .int .i64 0, .slice none 0 0, .slice none 0 0, .slice none 0 0, .slice none 0 0, .int .i64 0, .int .u64 0, .int .i64 0, .int .i64 0, .int .i64 0, .int .i64 0, .slice none 0 0, .slice none 0 0, .slice none 0 0, .slice none 0 0] 55))) := H0
  clear H0
  go_upto_region 2 with (first
    | ((first | with_reducible refine gate_st ?_ | with_reducible refine gate_stw ?_); refine list_storeAgg rfl _ _ rfl W0.heap.size 0 rfl (kc 3) rfl (by rw [sz_ent]; rfl) (kc_one 3) (HA.out.v.thereMid 0 38 (Nat.le_refl 38)) ?_
       intro W hW
       have H : Hid (GV a c l w W0 W0.heap.size p ok [.int .i64 3, .int .i64 0, .int .i64 0, .string ⟨#[]⟩, .int .i64 0, .int .i64 0, .int .i64 0, .int .i64 0, .int .i64 0, .slice none 0 0, .int .i64 0, .int .i64 0, .int .i64 0, .string ⟨#[]⟩, .int .i64 0, .bool false, .int .i64 0, .int .i64 0, .int .i64 0, .int .i64 0, .slice none 0 0, .int .i64 0, .int .i64 0, .int .i64 0, .slice none 0 0, .slice none 0 0, .slice none 0 0, .slice none 0 0, .int .i64 0, .int .u64 0, .int .i64 0, .int .i64 0, .int .i64 0, .int .i64 0, .slice none 0 0, .slice none 0 0, .slice none 0 0, .slice none 0 0] (fun _ => True) W) := HA.out.set (Nat.le_refl 38) hW
       clear hW HA)
    | fail)
  clear hbK
  generalize W0.heap.size = V at H HZ ⊢
  go_wp2_with (first | ((first | with_reducible refine gate_ld ?_ | with_reducible refine gate_ldw ?_); refine list_loadAgg H.out.rdr rfl _ rfl rfl ?_) | fail)
  refine (gotI a c l p ok W H.out.k.call_src H.out.k.le).mono ?_
  rintro e W1 ⟨p1, ok1, x1, rfl, hx, hwent, hb⟩
  have HW1 := Lib.hid hwent
  have HX1 := Lib.hid hx
  have G1 := Lib.hid (H.out.new hb)
  clear hwent hb hx H
  go_upto_region 11 with (first
    | ((first | with_reducible refine gate_st ?_ | with_reducible refine gate_stw ?_); refine list_storeAgg rfl _ _ rfl w.heap.size 0 rfl (rdV a l.length c p1 ok1) rfl (by rw [sz_rd]; rfl) (all_one rfl) (G1.out.k.x.thereMid 0 3 (by simp [rdV])) ?_
       intro wA hwA
       have A1 := Lib.hid (G1.out.put HW1.out.le hwA)
       clear hwA G1)
    | ((first | with_reducible refine gate_st ?_ | with_reducible refine gate_stw ?_); refine list_storeV rfl _ _ rfl V 12 rfl (.int .i64 x1) rfl [.int .i64 x1] rfl (by kernel_rfl) (all_one rfl) (A1.out.v.thereMid 12 1 (by simp)) ?_
       intro V1 hwB
       have H1 : Hid (GV a c l w W0 V p1 ok1 [.int .i64 3, .int .i64 0, .int .i64 0, .string ⟨#[]⟩, .int .i64 0, .int .i64 0, .int .i64 0, .int .i64 0, .int .i64 0, .slice none 0 0, .int .i64 0, .int .i64 0, .int .i64 x1, .string ⟨#[]⟩, .int .i64 0, .bool false, .int .i64 0, .int .i64 0, .int .i64 0, .int .i64 0, .slice none 0 0, .int .i64 0, .int .i64 0, .int .i64 0, .slice none 0 0, .slice none 0 0, .slice none 0 0, .slice none 0 0, .int .i64 0, .int .u64 0, .int .i64 0, .int .i64 0, .int .i64 0, .int .i64 0, .slice none 0 0, .slice none 0 0, .slice none 0 0, .slice none 0 0] _ V1) := A1.out.set (by simp) hwB
       clear hwB A1)
    | fail)
  go_wp2_with (first | ((first | with_reducible refine gate_ld ?_ | with_reducible refine gate_ldw ?_); refine list_loadAgg H1.out.rdr rfl _ rfl rfl ?_) | fail)
  refine (gotT a c l p1 ok1 V1 H1.out.k.call_src H1.out.k.le HL.out).mono ?_
  rintro e W2 ⟨p2, ok2, x2, rfl, hx, hwent, hb⟩
  have HW2 := Lib.hid hwent
  have HX2 := Lib.hid hx
  have G2 := Lib.hid (H1.out.new hb)
  clear hwent hb hx H1
  go_upto_region 12 with (first
    | ((first | with_reducible refine gate_st ?_ | with_reducible refine gate_stw ?_); refine list_storeAgg rfl _ _ rfl w.heap.size 0 rfl (rdV a l.length c p2 ok2) rfl (by rw [sz_rd]; rfl) (all_one rfl) (G2.out.k.x.thereMid 0 3 (by simp [rdV])) ?_
       intro wA hwA
       have A2 := Lib.hid (G2.out.put HW2.out.le hwA)
       clear hwA G2)
    | ((first | with_reducible refine gate_st ?_ | with_reducible refine gate_stw ?_); refine list_storeV rfl _ _ rfl V 13 rfl (.string x2) rfl [.string x2] rfl (by kernel_rfl) (all_one rfl) (A2.out.v.thereMid 13 1 (by simp)) ?_
       intro V2 hwB
       have H2 : Hid (GV a c l w W0 V p2 ok2 [.int .i64 3, .int .i64 0, .int .i64 0, .string ⟨#[]⟩, .int .i64 0, .int .i64 0, .int .i64 0, .int .i64 0, .int .i64 0, .slice none 0 0, .int .i64 0, .int .i64 0, .int .i64 x1, .string x2, .int .i64 0, .bool false, .int .i64 0, .int .i64 0, .int .i64 0, .int .i64 0, .slice none 0 0, .int .i64 0, .int .i64 0, .int .i64 0, .slice none 0 0, .slice none 0 0, .slice none 0 0, .slice none 0 0, .int .i64 0, .int .u64 0, .int .i64 0, .int .i64 0, .int .i64 0, .int .i64 0, .slice none 0 0, .slice none 0 0, .slice none 0 0, .slice none 0 0] _ V2) := A2.out.set (by simp) hwB
       clear hwB A2)
    | fail)
  go_wp2_with (first | ((first | with_reducible refine gate_ld ?_ | with_reducible refine gate_ldw ?_); refine list_loadAgg H2.out.rdr rfl _ rfl rfl ?_) | fail)
  refine (gotPer a c l p2 ok2 V2 H2.out.k.call_src H2.out.k.le HL.out).mono ?_
  rintro e W3 ⟨p3, ok3, es, x3, rfl, hx, hwent, hb⟩
  have HW3 := Lib.hid hwent
  obtain ⟨rv, rfl, q1, q2, q3⟩ := hx
  obtain ⟨ra, rc, rfl⟩ := q3.slice
  have HX3 : Hid (I64 x3.from_ ∧ okPla x3.pl) := ⟨q1, q2⟩
  have G3 := Lib.hid ((H2.out.new hb).more (Stab.rds rdE_ok (V + 1) _ _) (q3.up rdE_ok H2.out.le))
  clear hwent hb q1 q2 q3 H2
  go_upto_region 15 with (first
    | ((first | with_reducible refine gate_st ?_ | with_reducible refine gate_stw ?_); refine list_storeAgg rfl _ _ rfl w.heap.size 0 rfl (rdV a l.length c p3 ok3) rfl (by rw [sz_rd]; rfl) (all_one rfl) (G3.out.k.x.thereMid 0 3 (by simp [rdV])) ?_
       intro wA hwA
       have A3 := Lib.hid (G3.out.put HW3.out.le hwA)
       clear hwA G3)
    | ((first | with_reducible refine gate_st ?_ | with_reducible refine gate_stw ?_); refine list_storeV rfl _ _ rfl V 14 rfl (.agg #[.int .i64 x3.from_, .bool x3.closed, .int .i64 x3.pl.f, .int .i64 x3.pl.a, .int .i64 x3.pl.b, .int .i64 x3.pl.c, .slice ra x3.bias.length rc]) rfl [.int .i64 x3.from_, .bool x3.closed, .int .i64 x3.pl.f, .int .i64 x3.pl.a, .int .i64 x3.pl.b, .int .i64 x3.pl.c, .slice ra x3.bias.length rc] rfl (by kernel_rfl) (all_one rfl) (A3.out.v.thereMid 14 7 (by simp)) ?_
       intro V3 hwB
       have H3 : Hid (GV a c l w W0 V p3 ok3 [.int .i64 3, .int .i64 0, .int .i64 0, .string ⟨#[]⟩, .int .i64 0, .int .i64 0, .int .i64 0, .int .i64 0, .int .i64 0, .slice none 0 0, .int .i64 0, .int .i64 0, .int .i64 x1, .string x2, .int .i64 x3.from_, .bool x3.closed, .int .i64 x3.pl.f, .int .i64 x3.pl.a, .int .i64 x3.pl.b, .int .i64 x3.pl.c, .slice ra x3.bias.length rc, .int .i64 0, .int .i64 0, .int .i64 0, .slice none 0 0, .slice none 0 0, .slice none 0 0, .slice none 0 0, .int .i64 0, .int .u64 0, .int .i64 0, .int .i64 0, .int .i64 0, .int .i64 0, .slice none 0 0, .slice none 0 0, .slice none 0 0, .slice none 0 0] _ V3) := A3.out.set (by simp) hwB
       clear hwB A3)
    | fail)
  obtain ⟨hd, ht1, hs1, hs2, ht2⟩ := H3.out.last R1.out R2.out rfl rfl
  have HD := Lib.hid hd
  have HT1 := Lib.hid ht1
  have HT2 := Lib.hid ht2
  have HS := Lib.hid (And.intro hs1 hs2)
  clear hd ht1 hs1 hs2 ht2
  refine wp_region_seqL (by kernel_rfl) (fun w' => PAt w' w.heap.size (rdV a l.length c p3 ok3) ∧ PAt w' V [.int .i64 3, .int .i64 0, .int .i64 0, .string ⟨#[]⟩, .int .i64 0, .int .i64 0, .int .i64 0, .int .i64 0, .int .i64 0, .slice none 0 0, .int .i64 0, .int .i64 0, .int .i64 x1, .string x2, .int .i64 x3.from_, .bool x3.closed, .int .i64 x3.pl.f, .int .i64 x3.pl.a, .int .i64 x3.pl.b, .int .i64 x3.pl.c, .slice ra x3.bias.length rc, .int .i64 0, .int .i64 0, .int .i64 0, .slice none 0 0, .slice none 0 0, .slice none 0 0, .slice none 0 0, .int .i64 0, .int .u64 0, .int .i64 0, .int .i64 0, .int .i64 0, .int .i64 0, .slice none 0 0, .slice none 0 0, .slice none 0 0, .slice none 0 0]) 3 [(0, 1), (1, 1), (2, 2), (3, 2)] (by kernel_rfl) ⟨HD.out.k.x, HD.out.v⟩ ?_
  refine sl_load (d := some 69) rfl rfl rfl _ _ rfl ⟨w.heap.size, 0, none⟩ rfl (.agg (rdV a l.length c p3 ok3).toArray) (fun w1 hw => rd_load w1 _ _ rfl hw.1.1.range) ?_
  simp only [Act.put, List.setIfInBounds_toArray, List.set_cons_zero, List.set_cons_succ]
  refine sl_load (d := some 70) rfl rfl rfl _ _ rfl ⟨V, 0, none⟩ rfl (.agg ([.int .i64 3, .int .i64 0, .int .i64 0, .string ⟨#[]⟩, .int .i64 0, .int .i64 0, .int .i64 0, .int .i64 0, .int .i64 0, .slice none 0 0, .int .i64 0, .int .i64 0, .int .i64 x1, .string x2, .int .i64 x3.from_, .bool x3.closed, .int .i64 x3.pl.f, .int .i64 x3.pl.a, .int .i64 x3.pl.b, .int .i64 x3.pl.c, .slice ra x3.bias.length rc, .int .i64 0, .int .i64 0, .int .i64 0, .slice none 0 0, .slice none 0 0, .slice none 0 0, .slice none 0 0, .int .i64 0, .int .u64 0, .int .i64 0, .int .i64 0, .int .i64 0, .int .i64 0, .slice none 0 0, .slice none 0 0, .slice none 0 0, .slice none 0 0] : List Value).toArray) (fun w1 hw => hw.2.1.loadVar rowT_ent) ?_
  simp only [Act.put, List.setIfInBounds_toArray, List.set_cons_zero, List.set_cons_succ]
  refine sl_skip (d := none) rfl rfl rfl _ (store_runV _ _ rfl (w.heap.size + 1) 0 rfl (.agg (rdV a l.length c p3 ok3).toArray) rfl (rdV a l.length c p3 ok3) rfl (by rw [sz_rd]; rfl) (all_one rfl) HT1.out) (fun _ => HS.out) ?_
  simp only [Act.put, List.setIfInBounds_toArray, List.set_cons_zero, List.set_cons_succ]
  refine sl_skip (d := none) rfl rfl rfl _ (store_runV _ _ rfl (w.heap.size + 2) 0 rfl (.agg ([.int .i64 3, .int .i64 0, .int .i64 0, .string ⟨#[]⟩, .int .i64 0, .int .i64 0, .int .i64 0, .int .i64 0, .int .i64 0, .slice none 0 0, .int .i64 0, .int .i64 0, .int .i64 x1, .string x2, .int .i64 x3.from_, .bool x3.closed, .int .i64 x3.pl.f, .int .i64 x3.pl.a, .int .i64 x3.pl.b, .int .i64 x3.pl.c, .slice ra x3.bias.length rc, .int .i64 0, .int .i64 0, .int .i64 0, .slice none 0 0, .slice none 0 0, .slice none 0 0, .slice none 0 0, .int .i64 0, .int .u64 0, .int .i64 0, .int .i64 0, .int .i64 0, .int .i64 0, .slice none 0 0, .slice none 0 0, .slice none 0 0, .slice none 0 0] : List Value).toArray) rfl [.int .i64 3, .int .i64 0, .int .i64 0, .string ⟨#[]⟩, .int .i64 0, .int .i64 0, .int .i64 0, .int .i64 0, .int .i64 0, .slice none 0 0, .int .i64 0, .int .i64 0, .int .i64 x1, .string x2, .int .i64 x3.from_, .bool x3.closed, .int .i64 x3.pl.f, .int .i64 x3.pl.a, .int .i64 x3.pl.b, .int .i64 x3.pl.c, .slice ra x3.bias.length rc, .int .i64 0, .int .i64 0, .int .i64 0, .slice none 0 0, .slice none 0 0, .slice none 0 0, .slice none 0 0, .int .i64 0, .int .u64 0, .int .i64 0, .int .i64 0, .int .i64 0, .int .i64 0, .slice none 0 0, .slice none 0 0, .slice none 0 0, .slice none 0 0] rfl (by kernel_rfl) (all_one rfl) HT2.out) (fun h => by cases h) ?_
  simp only [Act.put, List.setIfInBounds_toArray, List.set_cons_zero, List.set_cons_succ]
  refine sl_end ?_
  go_wp2_with fail
  obtain ⟨e1, e2, hd, hb⟩ := HD.out.fin R1.out R2.out rfl rfl rfl rfl
  refine ret_rows rfl _ _ _ _ e1.1 e2.1 rowT_rd rowT_ent rfl rfl rfl ?_
  have hz : w.heap.size ≤ V + 1 := by have := HZ.out; omega
  have HWE : Went (pEnt 3) l p ok p3 ok3 { Ent.zero with kind := 3, st := x1, name := x2, from_ := x3.from_, closed := x3.closed, pl := x3.pl, bias := x3.bias } := by
    refine ((HW1.out).bind ((HW2.out).bind ((HW3.out).bind (Q := fun P => .ret { Ent.zero with kind := 3, st := x1, name := x2, from_ := P.from_, closed := P.closed, pl := P.pl, bias := P.bias }) (Went.ret HW3.out.le _)))).of_eq (P := pInt.bind fun s => pText.bind fun n => pPer.bind fun P => .ret { Ent.zero with kind := 3, st := s, name := n, from_ := P.from_, closed := P.closed, pl := P.pl, bias := P.bias }) ?_
    simp only [pPer_bind]
    rfl
  have z := fun W => kc_P (fun k => w.heap.size ≤ k) W 3 (by unfold I64; omega)
  exact ⟨p3, ok3, _, { Ent.zero with kind := 3, st := x1, name := x2, from_ := x3.from_, closed := x3.closed, pl := x3.pl, bias := x3.bias }, rfl, ⟨_, _, _, _, _, _, _, _, _, _, rfl, ⟨(z w).kind, (z w).now, (z _).rep, (z w).corr, (z w).arr, HX1.out, HX2.out, ⟨HX3.out.1, HX3.out.2, hd.2.up rdE_ok hz⟩, kc_cyc _ _⟩⟩, HWE, hb⟩
set_option maxHeartbeats 16000000 in
set_option maxRecDepth 100000 in
theorem gotRest4 (a : Option Addr) (c : Nat) (l : List UInt8) (p : Nat) (ok : Bool) (w : World) (h : BytesL w w.heap.size (.slice a l.length c) l) (hp : p ≤ l.length) (hl : l.length ≤ 1048576) :
    Calls Tryz.prog 37 #[.agg (rdV a l.length c p ok).toArray, .int .i64 4] w (GotR entE (pEnt 4) a c l p ok w) := by
  obtain ⟨h0, r1, r2, hsz⟩ := GV.start (ok := ok) h hp [.int .i64 0, .int .i64 0, .int .i64 0, .string ⟨#[]⟩, .int .i64 0, .int .i64 0, .int .i64 0, .int .i64 0, .int .i64 0, .slice none 0 0, .int .i64 0, .int .i64 0, .int .i64 0, .string ⟨#[]⟩, .int .i64 0, .bool false, .int .i64 0, .int .i64 0, .int .i64 0, .int .i64 0, .slice none 0 0, .int .i64 0, .int .i64 0, .int .i64 0, .slice none 0 0, .slice none 0 0, .slice none 0 0, .slice none 0 0, .int .i64 0, .int .u64 0, .int .i64 0, .int .i64 0, .int .i64 0, .int .i64 0, .slice none 0 0, .slice none 0 0, .slice none 0 0, .slice none 0 0] (by decide) 55 (by decide) rfl
  have H0 := Lib.hid h0
  have R1 := Lib.hid r1
  have R2 := Lib.hid r2
  have HZ := Lib.hid hsz
  have HL := Lib.hid hl
  clear h0 r1 r2 hsz h hp hl
  have hbK := run_buildK 4
  go_enter Tryz.func37, Tryz.ntmps37
  go_upto_region 1 with fail
  generalize ((w.alloc (.cells (rdV a l.length c p ok).toArray 99)).alloc (.cells #[.slice none 0 0, .int .i64 0, .bool false] 99)).alloc (.cells #[.int .i64 0, .int .i64 0, .int .i64 0, .string ⟨#[]⟩, .int .i64 0, .int .i64 0, .int .i64 0, .int .i64 0, .int .i64 0, .slice none 0 0, .int .i64 0, .int .i64 0, .int .i64 0, .string ⟨#[]⟩, .int .i64 0, .bool false, .int .i64 0, .int .i64 0, .int .i64 0, .int .i64 0, .slice none 0 0, .int .i64 0, .int .i64 0, .int .i64 0, .slice none 0 0, .slice none 0 0, .slice none 0 0, .slice none 0 0, .int .i64 0, .int .u64 0, .int .i64 0, .int .i64 0, .int .i64 0, .int .i64 0, .slice none 0 0, .slice none 0 0, .slice none 0 0, .slice none 0 0] 55) = W0 at H0 R1 R2 HZ ⊢
  have HA : Hid (GV a c l w W0 W0.heap.size p ok [.int .i64 0, .int .i64 0, .int .i64 0, .string ⟨#[]⟩, .int .i64 0, .int .i64 0, .int .i64 0, .int .i64 0, .int .i64 0, .slice none 0 0, .int .i64 0, .int .i64 0, .int .i64 0, .string ⟨#[]⟩, .int .i64 0, .bool false, .int .i64 0, .int .i64 0, .int .i64 0, .int .i64 0, .slice none 0 0, .int .i64 0, .int .i64 0, .int .i64 0, .slice none 0 0, .slice none 0 0, .slice none 0 0, .slice none 0 0, .int .i64 0, .int .u64 0, .int .i64 0, .int .i64 0, .int .i64 0, .int .i64 0, .slice none 0 0, .slice none 0 0, .slice none 0 0, .slice none 0 0] (fun _ => True) (W0.alloc (.cells #[.int .i64 0, .int .i64 0, .int .i64 0, .string ⟨#[]⟩, .int .i64 0, .int .i64 0, .int .i64 0, .int .i64 0, .int .i64 0, .slice none 0 0, .int .i64 0, .int .i64 0, .int .i64 0, .string ⟨#[]⟩, .int .i64 0, .bool false, .int .i64 0, .int .i64 0, .int .i64 0, .int .i64 0, .slice none 0 0, .int .i64 0, .int .i64 0, .int .i64 0, .slice none 0 0, .slice none 0 0, .slice none 0 0, .slice none 0 0, .int .i64 0, .int .u64 0, .int .i64 0, .int .i64 0, .int .i64 0, .int .i64 0, .slice none 0 0, .slice none 0 0, .slice none 0 0, .slice none 0 0] 55))) := H0
  clear H0
  go_upto_region 2 with (first
    | ((first | with_reducible refine gate_st ?_ | with_reducible refine gate_stw ?_); refine list_storeAgg rfl _ _ rfl W0.heap.size 0 rfl (kc 4) rfl (by rw [sz_ent]; rfl) (kc_one 4) (HA.out.v.thereMid 0 38 (Nat.le_refl 38)) ?_
       intro W hW
       have H : Hid (GV a c l w W0 W0.heap.size p ok [.int .i64 4, .int .i64 0, .int .i64 0, .string ⟨#[]⟩, .int .i64 0, .int .i64 0, .int .i64 0, .int .i64 0, .int .i64 0, .slice none 0 0, .int .i64 0, .int .i64 0, .int .i64 0, .string ⟨#[]⟩, .int .i64 0, .bool false, .int .i64 0, .int .i64 0, .int .i64 0, .int .i64 0, .slice none 0 0, .int .i64 0, .int .i64 0, .int .i64 0, .slice none 0 0, .slice none 0 0, .slice none 0 0, .slice none 0 0, .int .i64 0, .int .u64 0, .int .i64 0, .int .i64 0, .int .i64 0, .int .i64 0, .slice none 0 0, .slice none 0 0, .slice none 0 0, .slice none 0 0] (fun _ => True) W) := HA.out.set (Nat.le_refl 38) hW
       clear hW HA)
    | fail)
  clear hbK
  generalize W0.heap.size = V at H HZ ⊢
  go_wp2_with (first | ((first | with_reducible refine gate_ld ?_ | with_reducible refine gate_ldw ?_); refine list_loadAgg H.out.rdr rfl _ rfl rfl ?_) | fail)
  refine (gotCyc a c l p ok W H.out.k.call_src H.out.k.le HL.out).mono ?_
  rintro e W1 ⟨p1, ok1, es, x1, rfl, hx, hwent, hb⟩
  have HW1 := Lib.hid hwent
  have hx0 := cycE_ok.weak (av' := (V + 1 ≤ ·)) hx fun k hk _ => Nat.le_trans H.out.le hk
  obtain ⟨v0, v1, v2, v3, v4, v5, v6, v7, rfl, _, _, _, r0, ⟨r1, r2, r3, _⟩, _, r4, r5, r6, r7⟩ := hx
  obtain ⟨a0, c0, rfl⟩ := r0.slice
  obtain ⟨a1, c1, rfl⟩ := r1.slice
  obtain ⟨a2, c2, rfl⟩ := r2.slice
  obtain ⟨a3, c3, rfl⟩ := r3.slice
  obtain ⟨a4, c4, rfl⟩ := r4.slice
  obtain ⟨a5, c5, rfl⟩ := r5.slice
  obtain ⟨a6, c6, rfl⟩ := r6.slice
  obtain ⟨a7, c7, rfl⟩ := r7.slice
  have G1 := Lib.hid ((H.out.new hb).more (Stab.rep cycE_ok (V + 1) _ _) hx0)
  clear hwent hb hx0 r0 r1 r2 r3 r4 r5 r6 r7 H
  go_upto_region 15 with (first
    | ((first | with_reducible refine gate_st ?_ | with_reducible refine gate_stw ?_); refine list_storeAgg rfl _ _ rfl w.heap.size 0 rfl (rdV a l.length c p1 ok1) rfl (by rw [sz_rd]; rfl) (all_one rfl) (G1.out.k.x.thereMid 0 3 (by simp [rdV])) ?_
       intro wA hwA
       have A1 := Lib.hid (G1.out.put HW1.out.le hwA)
       clear hwA G1)
    | ((first | with_reducible refine gate_st ?_ | with_reducible refine gate_stw ?_); refine list_storeV rfl _ _ rfl V 21 rfl (.agg #[.int .i64 x1.number, .int .i64 x1.time, .int .i64 x1.cutoff, .slice a0 x1.reps.length c0, .slice a1 x1.ana.bg.length c1, .slice a2 x1.ana.inc.length c2, .slice a3 x1.ana.field.length c3, .int .i64 x1.ana.hi, .int .u64 x1.ana.lo, .int .i64 x1.ana.anchor, .int .i64 x1.ana.radius, .int .i64 x1.ana.rounds, .int .i64 x1.freq, .slice a4 x1.depth.length c4, .slice a5 x1.flow.length c5, .slice a6 x1.cycles.length c6, .slice a7 x1.listed.length c7]) rfl [.int .i64 x1.number, .int .i64 x1.time, .int .i64 x1.cutoff, .slice a0 x1.reps.length c0, .slice a1 x1.ana.bg.length c1, .slice a2 x1.ana.inc.length c2, .slice a3 x1.ana.field.length c3, .int .i64 x1.ana.hi, .int .u64 x1.ana.lo, .int .i64 x1.ana.anchor, .int .i64 x1.ana.radius, .int .i64 x1.ana.rounds, .int .i64 x1.freq, .slice a4 x1.depth.length c4, .slice a5 x1.flow.length c5, .slice a6 x1.cycles.length c6, .slice a7 x1.listed.length c7] rfl (by kernel_rfl) (all_one rfl) (A1.out.v.thereMid 21 17 (by simp)) ?_
       intro V1 hwB
       have H1 : Hid (GV a c l w W0 V p1 ok1 [.int .i64 4, .int .i64 0, .int .i64 0, .string ⟨#[]⟩, .int .i64 0, .int .i64 0, .int .i64 0, .int .i64 0, .int .i64 0, .slice none 0 0, .int .i64 0, .int .i64 0, .int .i64 0, .string ⟨#[]⟩, .int .i64 0, .bool false, .int .i64 0, .int .i64 0, .int .i64 0, .int .i64 0, .slice none 0 0, .int .i64 x1.number, .int .i64 x1.time, .int .i64 x1.cutoff, .slice a0 x1.reps.length c0, .slice a1 x1.ana.bg.length c1, .slice a2 x1.ana.inc.length c2, .slice a3 x1.ana.field.length c3, .int .i64 x1.ana.hi, .int .u64 x1.ana.lo, .int .i64 x1.ana.anchor, .int .i64 x1.ana.radius, .int .i64 x1.ana.rounds, .int .i64 x1.freq, .slice a4 x1.depth.length c4, .slice a5 x1.flow.length c5, .slice a6 x1.cycles.length c6, .slice a7 x1.listed.length c7] _ V1) := A1.out.set (by simp) hwB
       clear hwB A1)
    | fail)
  obtain ⟨hd, ht1, hs1, hs2, ht2⟩ := H1.out.last R1.out R2.out rfl rfl
  have HD := Lib.hid hd
  have HT1 := Lib.hid ht1
  have HT2 := Lib.hid ht2
  have HS := Lib.hid (And.intro hs1 hs2)
  clear hd ht1 hs1 hs2 ht2
  refine wp_region_seqL (by kernel_rfl) (fun w' => PAt w' w.heap.size (rdV a l.length c p1 ok1) ∧ PAt w' V [.int .i64 4, .int .i64 0, .int .i64 0, .string ⟨#[]⟩, .int .i64 0, .int .i64 0, .int .i64 0, .int .i64 0, .int .i64 0, .slice none 0 0, .int .i64 0, .int .i64 0, .int .i64 0, .string ⟨#[]⟩, .int .i64 0, .bool false, .int .i64 0, .int .i64 0, .int .i64 0, .int .i64 0, .slice none 0 0, .int .i64 x1.number, .int .i64 x1.time, .int .i64 x1.cutoff, .slice a0 x1.reps.length c0, .slice a1 x1.ana.bg.length c1, .slice a2 x1.ana.inc.length c2, .slice a3 x1.ana.field.length c3, .int .i64 x1.ana.hi, .int .u64 x1.ana.lo, .int .i64 x1.ana.anchor, .int .i64 x1.ana.radius, .int .i64 x1.ana.rounds, .int .i64 x1.freq, .slice a4 x1.depth.length c4, .slice a5 x1.flow.length c5, .slice a6 x1.cycles.length c6, .slice a7 x1.listed.length c7]) 3 [(0, 1), (1, 1), (2, 2), (3, 2)] (by kernel_rfl) ⟨HD.out.k.x, HD.out.v⟩ ?_
  refine sl_load (d := some 69) rfl rfl rfl _ _ rfl ⟨w.heap.size, 0, none⟩ rfl (.agg (rdV a l.length c p1 ok1).toArray) (fun w1 hw => rd_load w1 _ _ rfl hw.1.1.range) ?_
  simp only [Act.put, List.setIfInBounds_toArray, List.set_cons_zero, List.set_cons_succ]
  refine sl_load (d := some 70) rfl rfl rfl _ _ rfl ⟨V, 0, none⟩ rfl (.agg ([.int .i64 4, .int .i64 0, .int .i64 0, .string ⟨#[]⟩, .int .i64 0, .int .i64 0, .int .i64 0, .int .i64 0, .int .i64 0, .slice none 0 0, .int .i64 0, .int .i64 0, .int .i64 0, .string ⟨#[]⟩, .int .i64 0, .bool false, .int .i64 0, .int .i64 0, .int .i64 0, .int .i64 0, .slice none 0 0, .int .i64 x1.number, .int .i64 x1.time, .int .i64 x1.cutoff, .slice a0 x1.reps.length c0, .slice a1 x1.ana.bg.length c1, .slice a2 x1.ana.inc.length c2, .slice a3 x1.ana.field.length c3, .int .i64 x1.ana.hi, .int .u64 x1.ana.lo, .int .i64 x1.ana.anchor, .int .i64 x1.ana.radius, .int .i64 x1.ana.rounds, .int .i64 x1.freq, .slice a4 x1.depth.length c4, .slice a5 x1.flow.length c5, .slice a6 x1.cycles.length c6, .slice a7 x1.listed.length c7] : List Value).toArray) (fun w1 hw => hw.2.1.loadVar rowT_ent) ?_
  simp only [Act.put, List.setIfInBounds_toArray, List.set_cons_zero, List.set_cons_succ]
  refine sl_skip (d := none) rfl rfl rfl _ (store_runV _ _ rfl (w.heap.size + 1) 0 rfl (.agg (rdV a l.length c p1 ok1).toArray) rfl (rdV a l.length c p1 ok1) rfl (by rw [sz_rd]; rfl) (all_one rfl) HT1.out) (fun _ => HS.out) ?_
  simp only [Act.put, List.setIfInBounds_toArray, List.set_cons_zero, List.set_cons_succ]
  refine sl_skip (d := none) rfl rfl rfl _ (store_runV _ _ rfl (w.heap.size + 2) 0 rfl (.agg ([.int .i64 4, .int .i64 0, .int .i64 0, .string ⟨#[]⟩, .int .i64 0, .int .i64 0, .int .i64 0, .int .i64 0, .int .i64 0, .slice none 0 0, .int .i64 0, .int .i64 0, .int .i64 0, .string ⟨#[]⟩, .int .i64 0, .bool false, .int .i64 0, .int .i64 0, .int .i64 0, .int .i64 0, .slice none 0 0, .int .i64 x1.number, .int .i64 x1.time, .int .i64 x1.cutoff, .slice a0 x1.reps.length c0, .slice a1 x1.ana.bg.length c1, .slice a2 x1.ana.inc.length c2, .slice a3 x1.ana.field.length c3, .int .i64 x1.ana.hi, .int .u64 x1.ana.lo, .int .i64 x1.ana.anchor, .int .i64 x1.ana.radius, .int .i64 x1.ana.rounds, .int .i64 x1.freq, .slice a4 x1.depth.length c4, .slice a5 x1.flow.length c5, .slice a6 x1.cycles.length c6, .slice a7 x1.listed.length c7] : List Value).toArray) rfl [.int .i64 4, .int .i64 0, .int .i64 0, .string ⟨#[]⟩, .int .i64 0, .int .i64 0, .int .i64 0, .int .i64 0, .int .i64 0, .slice none 0 0, .int .i64 0, .int .i64 0, .int .i64 0, .string ⟨#[]⟩, .int .i64 0, .bool false, .int .i64 0, .int .i64 0, .int .i64 0, .int .i64 0, .slice none 0 0, .int .i64 x1.number, .int .i64 x1.time, .int .i64 x1.cutoff, .slice a0 x1.reps.length c0, .slice a1 x1.ana.bg.length c1, .slice a2 x1.ana.inc.length c2, .slice a3 x1.ana.field.length c3, .int .i64 x1.ana.hi, .int .u64 x1.ana.lo, .int .i64 x1.ana.anchor, .int .i64 x1.ana.radius, .int .i64 x1.ana.rounds, .int .i64 x1.freq, .slice a4 x1.depth.length c4, .slice a5 x1.flow.length c5, .slice a6 x1.cycles.length c6, .slice a7 x1.listed.length c7] rfl (by kernel_rfl) (all_one rfl) HT2.out) (fun h => by cases h) ?_
  simp only [Act.put, List.setIfInBounds_toArray, List.set_cons_zero, List.set_cons_succ]
  refine sl_end ?_
  go_wp2_with fail
  obtain ⟨e1, e2, hd, hb⟩ := HD.out.fin R1.out R2.out rfl rfl rfl rfl
  refine ret_rows rfl _ _ _ _ e1.1 e2.1 rowT_rd rowT_ent rfl rfl rfl ?_
  have hz : w.heap.size ≤ V + 1 := by have := HZ.out; omega
  have z := fun W => kc_P (fun k => w.heap.size ≤ k) W 4 (by unfold I64; omega)
  exact ⟨p1, ok1, _, { Ent.zero with kind := 4, cyc := x1 }, rfl, ⟨_, _, _, _, _, _, _, _, _, _, rfl, ⟨(z w).kind, (z w).now, (z _).rep, (z w).corr, (z w).arr, (z w).st, (z w).name, (z _).per, cycE_ok.weak hd.2 fun k hk _ => Nat.le_trans hz hk⟩⟩, (HW1.out).bind (Went.ret HW1.out.le _), hb⟩
theorem gotRest (a : Option Addr) (c : Nat) (l : List UInt8) (p : Nat) (ok : Bool) (w : World) (h : BytesL w w.heap.size (.slice a l.length c) l) (hp : p ≤ l.length) (hl : l.length ≤ 1048576) (k : Nat) (hk : 1 ≤ k ∧ k ≤ 4) :
    Calls Tryz.prog 37 #[.agg (rdV a l.length c p ok).toArray, .int .i64 (k : Nat)] w (GotR entE (pEnt (k : Nat)) a c l p ok w) := by
  obtain rfl | rfl | rfl | rfl : k = 1 ∨ k = 2 ∨ k = 3 ∨ k = 4 := by omega
  · exact gotRest1 a c l p ok w h hp hl
  · exact gotRest2 a c l p ok w h hp hl
  · exact gotRest3 a c l p ok w h hp hl
  · exact gotRest4 a c l p ok w h hp hl
end Go.Proofs.YtpknalpdcfjffaaGreat
/- What the reference's Decode answers; laws for its walk. No walk. -/
namespace Go.Proofs.YtpknalpdcfjffaaGreat
open Go Go.RowKit

theorem rgetS_of {l : List UInt8} {p n : Nat} (h : n ≤ l.length - p) : rgetS l p true n = (p + n, true, num ((l.drop p).take n)) := by
  unfold rgetS; rw [if_pos ⟨rfl, h⟩]
theorem rgetS_not {l : List UInt8} {p n : Nat} {ok : Bool} (h : ¬ n ≤ l.length - p) : rgetS l p ok n = (p, false, 0) := by
  unfold rgetS; rw [if_neg (fun h' => h h'.2)]
theorem num_one (x : UInt8) : num [x] = x.toNat := by simp [num]
theorem take_one_drop {l : List UInt8} {p : Nat} (h : p < l.length) : (l.drop p).take 1 = [l.getD p 0] := by
  rw [List.drop_eq_getElem_cons h, List.getD_eq_getElem?_getD, List.getElem?_eq_getElem h]
  rfl
/-- The entry where all bytes were used, or the error. -/
def finR {α : Type} (z : α) (Z : Nat) : Option (α × List UInt8) → α × Nat × Int
  | some (x, []) => (x, Z, 0)
  | _ => (z, 0, 3)
section
variable {l : List UInt8} {N : Nat}
theorem dec_chk (h4 : ¬ l.length < 4) (hN : N = num (l.take 4)) (h1 : ¬ 1048576 < N + 8) (h2 : ¬ l.length < N + 8) (hc : chk (l.take (N + 4)) ≠ num ((l.drop (N + 4)).take 4)) : decRes l = (.zero, 0, 10) := by
  have e : (l.take (N + 8)).drop (N + 4) = (l.drop (N + 4)).take 4 := by rw [List.drop_take]; congr 1; omega
  subst hN
  unfold decRes
  rw [if_neg h4, if_neg h1, if_neg h2, e, if_pos hc]
theorem dec_kind (h4 : ¬ l.length < 4) (hN : N = num (l.take 4)) (h1 : ¬ 1048576 < N + 8) (h2 : ¬ l.length < N + 8) (hc : chk (l.take (N + 4)) = num ((l.drop (N + 4)).take 4)) (K : Nat) (q : Nat) (o : Bool) (hK : rgetS (l.take (N + 4)) 4 true 1 = (q, o, K)) :
    (¬ (1 ≤ K ∧ K ≤ 4) → decRes l = (.zero, 0, 4)) ∧ (1 ≤ K ∧ K ≤ 4 → q = 5 ∧ o = true ∧ decRes l = finR .zero (N + 8) (pEnt (K : Nat) ((l.take (N + 4)).drop 5))) := by
  have e : (l.take (N + 8)).drop (N + 4) = (l.drop (N + 4)).take 4 := by rw [List.drop_take]; congr 1; omega
  have hl : (l.take (N + 4)).length = N + 4 := by rw [List.length_take]; omega
  have hd : decRes l = if N = 0 then (.zero, 0, (4 : Int))
      else if ¬ (1 ≤ ((l.getD 4 0).toNat : Int) ∧ ((l.getD 4 0).toNat : Int) ≤ 4) then (.zero, 0, 4)
      else finR .zero (N + 8) (pEnt ((l.getD 4 0).toNat : Nat) ((l.take (N + 4)).drop 5)) := by
    subst hN
    unfold decRes
    rw [if_neg h4, if_neg h1, if_neg h2, e, if_neg (fun h => h hc)]
    congr 2
    rcases pEnt ((l.getD 4 0).toNat : Nat) ((l.take (num (l.take 4) + 4)).drop 5) with _ | ⟨x, _ | _⟩ <;> rfl
  rw [hd]
  by_cases hN0 : N = 0
  · rw [if_pos hN0]
    rw [rgetS_not (by rw [hl]; omega)] at hK
    injection hK with _ hK
    injection hK with _ hK
    exact ⟨fun _ => rfl, fun h => by omega⟩
  · rw [if_neg hN0]
    have hg : (l.take (N + 4)).getD 4 0 = l.getD 4 0 := by
      rw [List.getD_eq_getElem?_getD, List.getD_eq_getElem?_getD, List.getElem?_take, if_pos (by omega)]
    rw [rgetS_of (by rw [hl]; omega), take_one_drop (by rw [hl]; omega), num_one, hg] at hK
    injection hK with h5 hK
    injection hK with h6 hK
    rw [hK]
    refine ⟨fun h => by rw [if_pos (by omega)], fun h => ⟨h5.symm, h6.symm, by rw [if_neg (by omega)]⟩⟩
end
theorem dec_fin {α : Type} {P : Ps α} {z : α} {lt : List UInt8} {p' Z M : Nat} {ok' : Bool} {x : α} (h : Went P lt 5 true p' ok' x) (hM : lt.length = M) :
    finR z Z (P (lt.drop 5)) = if ok' = true ∧ p' = M then (x, Z, 0) else (z, 0, 3) := by
  cases ok' with
  | false => rw [h.no rfl rfl, if_neg (by simp)]; rfl
  | true =>
    rw [(h.got rfl).2]
    have := h.le
    by_cases hp : p' = M
    · rw [if_pos ⟨rfl, hp⟩, List.drop_eq_nil_of_le (by omega)]; rfl
    · rw [if_neg (fun h => hp h.2)]
      have : (lt.drop p').length ≠ 0 := by rw [List.length_drop]; omega
      cases hd : lt.drop p' with
      | nil => rw [hd] at this; exact absurd rfl this
      | cons u v => rfl
/-- Between the calls of Decode: the result's variable still empty, the bytes. -/
structure DS (a : Option Addr) (c : Nat) (l : List UInt8) (w W : World) : Prop where
  r : PAt W w.heap.size (kc 0)
  b : Below w.heap.size w W
  s : BytesL W w.heap.size (.slice a l.length c) l
section
variable {a : Option Addr} {c : Nat} {l : List UInt8} {w W W' : World}
theorem DS.lt (h : DS a c l w W) : w.heap.size < W.heap.size := h.r.lt
theorem DS.new (h : DS a c l w W) (hb : Below W.heap.size W W') : DS a c l w W' := ⟨h.r.below hb, h.b.trans (hb.mono h.b.size), h.s.below (hb.mono h.b.size)⟩
theorem DS.call (h : DS a c l w W) : BytesL W W.heap.size (.slice a l.length c) l := h.s.up h.b.size
end
theorem var_new (W : World) (z es : List Value) (hz : 0 < z.length) (T : TypeId) (hT : T ≠ 5) (hl : es.length = z.length) {W' : World} (hW : W' = (W.alloc (.cells z.toArray T)).setCells W.heap.size 0 es) : PAt W' W.heap.size es ∧ Below W.heap.size W W' := by
  rw [hW]
  exact ⟨(PAt.new W z hz T hT rfl).setCells es hl, ((Below.refl _ _).alloc (Nat.le_refl _) _).trans ((apartR_setCells _ _ _ _).below (Nat.le_refl _))⟩
theorem var_there (W : World) (z : List Value) (hz : 0 < z.length) (T : TypeId) (hT : T ≠ 5) (n : Nat) (hn : n ≤ z.length) : (W.alloc (.cells z.toArray T)).there W.heap.size 0 n := (PAt.new W z hz T hT rfl).1.there hn
theorem DS.newAt {a : Option Addr} {c : Nat} {l : List UInt8} {w W W' : World} {B : Nat} (h : DS a c l w W) (hb : Below B W W') (hB : w.heap.size < B) : DS a c l w W' := ⟨h.r.of_block (hb.block _ hB), h.b.trans (hb.mono (Nat.le_of_lt hB)), h.s.below (hb.mono (Nat.le_of_lt hB))⟩
/-- A variable is made (X); then an elder one is stored, then the new one. -/
structure Two (W : World) (B : Nat) (rs z : List Value) (Wa : World) : Prop where
  old : PAt Wa B rs
  new : PAt Wa W.heap.size z
  below : Below B W Wa
  same : ∀ k, k < W.heap.size → k ≠ B → Wa.heap[k]? = W.heap[k]?
theorem two_old {W X Wa : World} {B : Nat} {rs0 z : List Value} (hX : Below W.heap.size W X) (hz : PAt X W.heap.size z) (hP : PAt W B rs0) (rs : List Value) (hl : rs.length = rs0.length) (ha : Wa = X.setCells B 0 rs) : Two W B rs z Wa := by
  have hlt := hP.lt
  have hA := apartR_setCells B rs 0 X
  rw [← ha] at hA
  exact ⟨by rw [ha]; exact (hP.below hX).setCells rs hl, hz.of_block (hA.2.2.2.2 _ (by omega)), (hX.mono (by omega)).trans (hA.below (Nat.le_refl _)), fun k hk hn => (hA.2.2.2.2 k hn).trans (hX.block k hk)⟩
theorem Two.put {W Wa Wb : World} {B : Nat} {rs z : List Value} (h : Two W B rs z Wa) (hB : B < W.heap.size) (es : List Value) (hl : es.length = z.length) (hb : Wb = Wa.setCells W.heap.size 0 es) : Two W B rs es Wb := by
  have hA := apartR_setCells W.heap.size es 0 Wa
  rw [← hb] at hA
  exact ⟨h.old.of_block (hA.2.2.2.2 _ (by omega)), by rw [hb]; exact h.new.setCells es hl, h.below.trans (hA.below (by omega)), fun k hk hn => (hA.2.2.2.2 k (by omega)).trans (h.same k hk hn)⟩
theorem run_buildR (a : Option Addr) (n c : Nat) (p : Int) (w : World) : (Instr.build 99 #[(0, .slice a n c), (1, .int .i64 p), (2, .bool true)]).run Tryz.prog w = .ok (.agg #[.slice a n c, .int .i64 p, .bool true]) w := by kernel_rfl
theorem run_buildR0 (a : Option Addr) (n c : Nat) (w : World) : (Instr.build 99 #[(0, .slice a n c), (2, .bool true)]).run Tryz.prog w = .ok (.agg #[.slice a n c, .int .i64 0, .bool true]) w := by kernel_rfl
end Go.Proofs.YtpknalpdcfjffaaGreat
/- Laws for the walk of StoreJournals. No walk. -/
namespace Go.Proofs.YtpknalpdcfjffaaGreat
open Go Go.RowKit

theorem encs_cons (x : Ent) (xs : List Ent) : encs (x :: xs) = encX x ++ encs xs := by simp [encs]
theorem app_good : ∀ (xs : List Ent) (acc : List UInt8), (∀ x ∈ xs, good x) → appRes acc xs = (acc ++ encs xs, 0)
  | [], acc, _ => by simp [appRes, encs]
  | x :: xs, acc, h => by
    have hg := h x (by simp)
    simp only [appRes]
    rw [hg.enc.1, if_pos rfl, app_good xs _ (fun y hy => h y (by simp [hy])), encs_cons, List.append_assoc]
theorem encs_short (xs : List Ent) (h : ∀ x ∈ xs, good x) : (encs xs).length ≤ 20009 * xs.length := flat_bound xs fun y hy => (h y hy).enc.2.2
theorem readRes_small : ∀ (f : Nat) (l : List UInt8), ∀ x ∈ (readRes f l).1, ∀ b, entB x = some b → b.length ≤ 1048576
  | 0, _, x, hx => by simp [readRes] at hx
  | f + 1, l, x, hx => by
    unfold readRes at hx
    split at hx
    · rcases List.mem_cons.1 hx with rfl | hx
      · exact dec_small l
      · exact readRes_small f _ x hx
    · simp at hx
theorem readAll_small (l : List UInt8) : ∀ x ∈ (readAll l).1, ∀ b, entB x = some b → b.length ≤ 1048576 := readRes_small _ l
theorem good.small {x : Ent} (h : good x) : ∀ b, entB x = some b → b.length ≤ 20000 := fun b hb => by
  obtain ⟨_, _, _, b', hb', hl'⟩ := h
  rw [hb] at hb'
  obtain rfl := Option.some.inj hb'
  exact hl'
theorem zero_short (k : Int) : ∀ b, entB { Ent.zero with kind := k } = some b → b.length ≤ 20000 := odd_short (x := Ent.zero) ⟨⟨Nat.zero_le _, Nat.zero_le _⟩, Nat.zero_le _, Nat.zero_le _, Or.inl rfl⟩ k
/-- Four slices of bytes in a row, none long. -/
theorem four_at {W : World} {s0 s1 s2 s3 : Value} {l0 l1 l2 l3 : List UInt8} (h0 : BytesL W W.heap.size s0 l0) (h1 : BytesL W W.heap.size s1 l1) (h2 : BytesL W W.heap.size s2 l2) (h3 : BytesL W W.heap.size s3 l3) (m0 : l0.length ≤ 900000) (m1 : l1.length ≤ 900000) (m2 : l2.length ≤ 900000) (m3 : l3.length ≤ 900000) (T : TypeId) (hT : T ≠ 5) :
    ∀ i, i < 4 → ∃ sa sc l, (W.alloc (.cells #[s0, s1, s2, s3] T)).cell? ⟨W.heap.size, i, none⟩ = some (.slice sa l.length sc) ∧ BytesL (W.alloc (.cells #[s0, s1, s2, s3] T)) (W.alloc (.cells #[s0, s1, s2, s3] T)).heap.size (.slice sa l.length sc) l ∧ l.length ≤ 900000 := by
  have hp := (PAt.new W [s0, s1, s2, s3] (by simp) T hT rfl).1
  have hb : Below W.heap.size W (W.alloc (.cells #[s0, s1, s2, s3] T)) := (Below.refl _ _).alloc (Nat.le_refl _) _
  have key : ∀ (i : Nat) (s : Value) (l : List UInt8), ([s0, s1, s2, s3] : List Value)[i]? = some s → BytesL W W.heap.size s l → l.length ≤ 900000 → ∃ sa sc l, (W.alloc (.cells #[s0, s1, s2, s3] T)).cell? ⟨W.heap.size, i, none⟩ = some (.slice sa l.length sc) ∧ BytesL (W.alloc (.cells #[s0, s1, s2, s3] T)) (W.alloc (.cells #[s0, s1, s2, s3] T)).heap.size (.slice sa l.length sc) l ∧ l.length ≤ 900000 := fun i s l hi hs hl => by
    obtain ⟨sa, sc, rfl⟩ := hs.slice
    exact ⟨sa, sc, l, hp.at i hi, (hs.below hb).up hb.size, hl⟩
  intro i hi
  have hc : i = 0 ∨ i = 1 ∨ i = 2 ∨ i = 3 := by omega
  rcases hc with rfl | rfl | rfl | rfl
  · exact key 0 s0 l0 rfl h0 m0
  · exact key 1 s1 l1 rfl h1 m1
  · exact key 2 s2 l2 rfl h2 m2
  · exact key 3 s3 l3 rfl h3 m3
theorem run_bytes4 (a0 a1 a2 a3 : Option Addr) (n0 n1 n2 n3 c0 c1 c2 c3 : Nat) (w : World) :
    (Instr.buildSlice 62 4 #[(0, .slice a0 n0 c0), (1, .slice a1 n1 c1), (2, .slice a2 n2 c2), (3, .slice a3 n3 c3)]).run Tryz.prog w =
      .ok (.slice (some ⟨w.heap.size, 0, none⟩) 4 4) (w.alloc (.cells #[.slice a0 n0 c0, .slice a1 n1 c1, .slice a2 n2 c2, .slice a3 n3 c3] 22)) := by kernel_rfl
/-- Three numbers in a row. -/
theorem three_at (W : World) (x y z : Int) (hx : I64 x) (hy : I64 y) (hz : I64 z) : ∀ i, i < 3 → ∃ k : Int, I64 k ∧ (W.alloc (.cells #[.int .i64 x, .int .i64 y, .int .i64 z] 3)).cell? ⟨W.heap.size, i, none⟩ = some (.int .i64 k) := by
  have hp := (PAt.new W [.int .i64 x, .int .i64 y, .int .i64 z] (by simp) 3 (by decide) rfl).1
  intro i hi
  have hc : i = 0 ∨ i = 1 ∨ i = 2 := by omega
  rcases hc with rfl | rfl | rfl
  · exact ⟨x, hx, hp.at 0 rfl⟩
  · exact ⟨y, hy, hp.at 1 rfl⟩
  · exact ⟨z, hz, hp.at 2 rfl⟩
/-- What stands through the law: the entries' list, the given bytes. -/
structure JT (w w2 : World) (b base : Nat) (la : Option Addr) (lc : Nat) (xs : List Ent) (ra : Option Addr) (rc : Nat) (m : List UInt8) (W : World) : Prop where
  j : JS w2 w.heap.size b base (.slice la xs.length lc) xs W
  b : Below w.heap.size w W
  r : BytesL W w.heap.size (.slice ra m.length rc) m
section
variable {w w2 W W' : World} {b base : Nat} {la : Option Addr} {lc : Nat} {xs : List Ent} {ra : Option Addr} {rc : Nat} {m : List UInt8}
theorem JT.below (h : JT w w2 b base la lc xs ra rc m W) (hb : Below W.heap.size W W') : JT w w2 b base la lc xs ra rc m W' := ⟨h.j.below hb, below_then h.b hb, h.r.below (hb.mono h.b.size)⟩
theorem JT.call (h : JT w w2 b base la lc xs ra rc m W) (hs : St W w.heap.size b W') (hwb : w.heap.size ≤ b) : JT w w2 b base la lc xs ra rc m W' := by
  have hb : Below w.heap.size W W' := (hs.2.mono h.b.size).below hwb
  exact ⟨h.j.call hs, h.b.trans hb, h.r.below hb⟩
theorem JT.kept (h : JT w w2 b base la lc xs ra rc m W) (hk : KeptBut b W W') (hst : St w2 w.heap.size b W') (hb : Below w.heap.size w W') (hr : BytesL W' w.heap.size (.slice ra m.length rc) m) : JT w w2 b base la lc xs ra rc m W' :=
  ⟨⟨hst, h.j.row.kept entE_ok hk h.j.bb, h.j.ok, Nat.le_trans h.j.sz hk.1, h.j.bb, h.j.wb⟩, hb, hr⟩
theorem KeptBut.three {r B : Nat} {W1 W2 W3 W4 : World} (h1 : Below W1.heap.size W1 W2) (h2 : KeptBut r W2 W3) (h3 : Below B W3 W4) (hB : W1.heap.size ≤ B) : KeptBut r W1 W4 :=
  ⟨Nat.le_trans h1.size (Nat.le_trans h2.1 h3.size), fun k hk hn => by rw [h3.block k (by omega), h2.2 k (Nat.lt_of_lt_of_le hk h1.size) hn]; exact h1.block k hk⟩
theorem JT.raw (h : JT w w2 b base la lc xs ra rc m W) : BytesL W W.heap.size (.slice ra m.length rc) m := h.r.up h.b.size
theorem JT.rd (h : JT w w2 b base la lc xs ra rc m W) (hl : xs.length ≤ 4) : RdS entE (base ≤ ·) W (.slice la xs.length lc) xs := h.j.row.rd entE_ok (by decide) (by omega)
end
end Go.Proofs.YtpknalpdcfjffaaGreat
/- The reference's Append. -/
namespace Go.Proofs.YtpknalpdcfjffaaGreat
open Go Go.RowKit

set_option maxHeartbeats 16000000 in
set_option maxRecDepth 100000 in
theorem rapp_any (v lv : Value) (jl : List UInt8) (xs : List Ent) (av : Nat → Prop) (w : World) (h : BytesL w w.heap.size v jl) (hx : RdS entE av w lv xs) (hs : ∀ x ∈ xs, ∀ b, entB x = some b → b.length ≤ 9000000) (hm : jl.length + 1048576 * xs.length ≤ 900000000) :
    Calls Tryz.prog 9 #[v, lv] w (AppIs jl xs w) := by
  have HX := Lib.hid hx
  have HS := Lib.hid hs
  have HM := Lib.hid hm
  have nl := hx.le
  obtain ⟨la, lc, rfl⟩ := hx.slice
  obtain ⟨ja, jc, rfl⟩ := h.slice
  obtain ⟨v1, w1, hrun, ho, hb⟩ := append_bl (OwnB.nil w w.heap.size) h (by simp) (by omega) (Nat.le_refl _) 22
  rw [List.nil_append] at ho
  have HRun := Lib.hid hrun
  have HO := Lib.hid (And.intro ho hb)
  clear hx hs hm h hrun ho hb
  obtain ⟨n, hn⟩ : ∃ n, n = xs.length := ⟨_, rfl⟩
  rw [← hn] at HX nl ⊢
  have HN := Lib.hid hn
  clear hn
  have m1 : (n : Int) ≤ 1000000 := by omega
  generalize jl.length = jn at HRun ⊢
  go_enter Tryz.func9, Tryz.ntmps9
  go_wp2_with (first
    | (at_builtin; refine wpList_append_run rfl _ _ _ rfl _ _ _ _ rfl rfl HRun.out ?_; clear HRun)
    | fail)
  go_loopw [6, 7] (fun ov kv wr => ∃ (i : Nat) (acc : List UInt8), kv = .int .i64 i ∧ i ≤ n ∧ Hid (OwnB wr w.heap.size ov acc ∧ Below w.heap.size w wr) ∧ Hid (appRes jl xs = appRes acc (xs.drop i) ∧ acc.length + 1048576 * (n - i) ≤ 900000000)) (fun _ kv _ => (2000000 - intOf kv).toNat)
  case atStart => exact ⟨0, jl, rfl, by omega, HO, ⟨by simp, by have := HM.out; have := HN.out; omega⟩⟩
  case round =>
    clear HO
    obtain ⟨i, acc, rfl, hi, HS1, HA⟩ := hrel
    by_cases hin : i < n
    · have i0 : (i : Int) < (n : Int) := by omega
      have hil : i < xs.length := by have := HN.out; omega
      obtain ⟨ab, ao, es, rfl, hal⟩ := HX.out.atBelow entE_ok i hil
      obtain ⟨hre, hrg⟩ := hal wr HS1.out.2
      have hdr : xs.drop i = xs[i] :: xs.drop (i + 1) := List.drop_eq_getElem_cons hil
      have hsm := HS.out _ (List.getElem_mem hil)
      generalize xs[i] = x at hre hdr hsm
      have HRe := Lib.hid hre
      have HRg : Hid (wr.rangeAt ab (ao + i * 38) es) := hrg
      have HEl : es.length = 38 := entE_ok.len hre
      have HDr := Lib.hid hdr
      have HSm := Lib.hid hsm
      clear hre hrg hdr hsm hil hal
      go_wp2_with (first
        | ((first | with_reducible refine gate_ld ?_ | with_reducible refine gate_ldw ?_); refine list_loadAgg (log_load HRg.out HEl) rfl _ rfl rfl ?_)
        | fail)
      have hei := encRes_int x.kind (entB x)
      have hel := encRes_len x.kind (entB x)
      refine (renc_any x es av wr HRe.out (fun b hb => by have := HSm.out b hb; omega)).mono ?_
      rintro e w5 ⟨v5, rfl, ho5, hb5⟩
      have hap : appRes acc (xs.drop i) = if (encRes x.kind (entB x)).2 = 0 then appRes (acc ++ (encRes x.kind (entB x)).1) (xs.drop (i + 1)) else ([], (encRes x.kind (entB x)).2) := by rw [HDr.out]; rfl
      generalize encRes x.kind (entB x) = q at hei hel ho5 hap ⊢
      obtain ⟨qb, qe⟩ := q
      dsimp only at hei hel ho5 hap ⊢
      obtain ⟨a5, c5, rfl⟩ := ho5.slice
      have HB5 := Lib.hid (below_then HS1.out.2 hb5)
      have ho5' : BytesL w5 w5.heap.size (.slice a5 qb.length c5) qb := ho5.bl
      have hoA : OwnB w5 w.heap.size u6 acc := HS1.out.1.grownB hb5
      have HEi := Lib.hid hei
      by_cases he : qe = 0
      · subst he
        rw [if_pos rfl] at hap
        obtain ⟨v6, w6, hrun, ho6, hb6⟩ := append_bl hoA ho5' (by have := HA.out.2; omega) (by omega) HB5.out.size 22
        have HRun := Lib.hid hrun
        have HN6 : Hid (OwnB w6 w.heap.size v6 (acc ++ qb) ∧ Below w.heap.size w w6) := ⟨ho6, HB5.out.trans hb6⟩
        have HA6 : Hid (appRes jl xs = appRes (acc ++ qb) (xs.drop (i + 1)) ∧ (acc ++ qb).length + 1048576 * (n - (i + 1)) ≤ 900000000) := by
          refine ⟨HA.out.1.trans hap, ?_⟩
          have h1 := HA.out.2
          have h2 : 1048576 * (n - i) = 1048576 * (n - (i + 1)) + 1048576 := by
            rw [show n - i = n - (i + 1) + 1 by omega, Nat.mul_add]
          rw [List.length_append]; omega
        clear hei hel ho5 hap ho5' hoA hrun ho6 hb6 hb5 HB5 HA HS1 HDr HRe HRg
        go_wp2_with (first
          | (at_builtin; refine wpList_append_run rfl _ _ _ rfl _ _ _ _ rfl rfl HRun.out ?_; clear HRun)
          | fail)
        go_roundw
        case rel => exact ⟨i + 1, _, by go_num, by omega, HN6, HA6⟩
        case measure => simp [intOf]; omega
      · rw [if_neg he] at hap
        have HF : Hid (AppIs jl xs w (.returned (.tuple #[.slice none 0 0, .int .i64 qe])) w5) := ⟨_, by rw [HA.out.1, hap], by rw [HA.out.1, hap]; exact OwnB.nil _ _, HB5.out⟩
        have hne : (qe != 0) = true := by simpa using he
        clear hei hel ho5 hap ho5' hoA hb5 HB5 HA HS1 HDr HRe HRg
        go_wp2_with fail
        go_ret2
        exact HF.out
    · obtain rfl : n = i := by omega
      have HF : Hid (AppIs jl xs w (.returned (.tuple #[u6, .int .i64 0])) wr) := by
        have e : xs.drop n = [] := List.drop_eq_nil_of_le (by have := HN.out; omega)
        refine ⟨_, by rw [HA.out.1, e]; rfl, by rw [HA.out.1, e]; exact HS1.out.1, HS1.out.2⟩
      clear HA HS1
      go_wp2_with fail
      go_ret2
      exact HF.out
end Go.Proofs.YtpknalpdcfjffaaGreat
/- The reference's Decode. Printed by gen_rdec.py. -/
namespace Go.Proofs.YtpknalpdcfjffaaGreat
open Go Go.RowKit

set_option maxHeartbeats 16000000 in
set_option maxRecDepth 100000 in
theorem rdecode_any (v : Value) (l : List UInt8) (w : World) (h : BytesL w w.heap.size v l) : Calls Tryz.prog 26 #[v] w (DecIs l w) := by
  obtain ⟨a, c, rfl⟩ := h.slice
  obtain ⟨hlc, hcm⟩ : l.length ≤ c ∧ c ≤ 9223372036854775807 := by
    obtain ⟨a', c', e, q1, q2, _⟩ := h
    obtain ⟨_, rfl⟩ : a = a' ∧ c = c' := by simpa using e
    exact ⟨q1, q2⟩
  have HBa : Hid (Below w.heap.size w (w.alloc (.cells #[.int .i64 0, .int .i64 0, .int .i64 0, .string ⟨#[]⟩, .int .i64 0, .int .i64 0, .int .i64 0, .int .i64 0, .int .i64 0, .slice none 0 0, .int .i64 0, .int .i64 0, .int .i64 0, .string ⟨#[]⟩, .int .i64 0, .bool false, .int .i64 0, .int .i64 0, .int .i64 0, .int .i64 0, .slice none 0 0, .int .i64 0, .int .i64 0, .int .i64 0, .slice none 0 0, .slice none 0 0, .slice none 0 0, .slice none 0 0, .int .i64 0, .int .u64 0, .int .i64 0, .int .i64 0, .int .i64 0, .int .i64 0, .slice none 0 0, .slice none 0 0, .slice none 0 0, .slice none 0 0] 55))) := (Below.refl _ _).alloc (Nat.le_refl _) _
  have HA : Hid (DS a c l w (w.alloc (.cells #[.int .i64 0, .int .i64 0, .int .i64 0, .string ⟨#[]⟩, .int .i64 0, .int .i64 0, .int .i64 0, .int .i64 0, .int .i64 0, .slice none 0 0, .int .i64 0, .int .i64 0, .int .i64 0, .string ⟨#[]⟩, .int .i64 0, .bool false, .int .i64 0, .int .i64 0, .int .i64 0, .int .i64 0, .slice none 0 0, .int .i64 0, .int .i64 0, .int .i64 0, .slice none 0 0, .slice none 0 0, .slice none 0 0, .slice none 0 0, .int .i64 0, .int .u64 0, .int .i64 0, .int .i64 0, .int .i64 0, .int .i64 0, .slice none 0 0, .slice none 0 0, .slice none 0 0, .slice none 0 0] 55))) := ⟨PAt.new w (kc 0) (by rw [kc_length]; decide) _ (by decide) rfl, HBa.out, h.below HBa.out⟩
  have l0 : (l.length : Int) ≤ (c : Int) := by omega
  have l1 : (c : Int) ≤ 9223372036854775807 := by omega
  have HLc := Lib.hid hlc
  clear h hlc hcm HBa
  go_enter Tryz.func26, Tryz.ntmps26
  have hb0 := run_build0
  have hbR0 := run_buildR0
  have hbR := run_buildR
  go_upto_region 1 with fail
  generalize w.alloc (.cells #[.int .i64 0, .int .i64 0, .int .i64 0, .string ⟨#[]⟩, .int .i64 0, .int .i64 0, .int .i64 0, .int .i64 0, .int .i64 0, .slice none 0 0, .int .i64 0, .int .i64 0, .int .i64 0, .string ⟨#[]⟩, .int .i64 0, .bool false, .int .i64 0, .int .i64 0, .int .i64 0, .int .i64 0, .slice none 0 0, .int .i64 0, .int .i64 0, .int .i64 0, .slice none 0 0, .slice none 0 0, .slice none 0 0, .slice none 0 0, .int .i64 0, .int .u64 0, .int .i64 0, .int .i64 0, .int .i64 0, .int .i64 0, .slice none 0 0, .slice none 0 0, .slice none 0 0, .slice none 0 0] 55) = wA at HA ⊢
  by_cases h4 : l.length < 4
  · have i4 : (l.length : Int) < 4 := by omega
    have HD : Hid (decRes l = (.zero, 0, 11)) := by unfold Hid decRes; rw [if_pos h4]
    go_wp2_with (first
      | ((first | with_reducible refine gate_st ?_ | with_reducible refine gate_stw ?_); refine row_store rfl _ _ rfl w.heap.size rfl (kc 0) (kc 0) rfl HA.out.r.1 rfl rowT_ent (kc_one 0) ?_; intro w9 e9 h9)
      | fail)
    exact ret_row3 rfl _ _ _ _ e9 rowT_ent rfl rfl rfl rfl (DecIs.err 11 HD.out (HA.out.b.trans (h9.below (Nat.le_refl _))))
  have i4 : (4 : Int) ≤ (l.length : Int) := by omega
  have H4 := Lib.hid h4
  have HR4 : Hid (rgetS l 0 true 4 = (4, true, num (l.take 4))) := rgetS_of (by omega)
  have hn4 := num_lt (l.take 4)
  rw [show (l.take 4).length = 4 by rw [List.length_take]; omega, show (256 : Nat) ^ 4 = 4294967296 by decide] at hn4
  obtain ⟨N, hN⟩ : ∃ N, N = num (l.take 4) := ⟨_, rfl⟩
  rw [← hN] at HR4 hn4
  have HN := Lib.hid hN
  have HN4 := Lib.hid hn4
  clear h4 hN hn4
  go_wp2_with fail
  refine (rget_any a c l 0 true 4 (by omega) wA HA.out.call (Nat.zero_le _)).mono ?_
  rintro e w2 ⟨rfl, hb⟩
  rw [HR4.out]
  have HB := Lib.hid (HA.out.new hb)
  clear hb HA HR4
  go_upto_region 4 with (first
    | ((first | with_reducible refine gate_st ?_ | with_reducible refine gate_stw ?_); refine list_storeAgg rfl _ _ rfl w2.heap.size 0 rfl (rdV a l.length c 4 true) rfl (by rw [sz_rd]; rfl) (all_one rfl) (var_there w2 [.slice none 0 0, .int .i64 0, .bool false] (by decide) 99 (by decide) 3 (by decide)) ?_
       intro w3 hW
       have hn := var_new w2 [.slice none 0 0, .int .i64 0, .bool false] (rdV a l.length c 4 true) (by decide) 99 (by decide) rfl hW
       have P5 := Lib.hid hn.1
       have HC := Lib.hid (HB.out.new hn.2)
       clear hW hn HB)
    | fail)
  clear P5
  have n0 : (N : Int) < 4294967296 := by have := HN4.out; omega
  by_cases hlim : 1048576 < N + 8
  · have i6 : (1048576 : Int) < (N : Int) + 8 := by omega
    have HD : Hid (decRes l = (.zero, 0, 2)) := by unfold Hid decRes; rw [if_neg H4.out, ← HN.out, if_pos hlim]
    go_wp2_with (first
      | ((first | with_reducible refine gate_st ?_ | with_reducible refine gate_stw ?_); refine row_store rfl _ _ rfl w.heap.size rfl (kc 0) (kc 0) rfl HC.out.r.1 rfl rowT_ent (kc_one 0) ?_; intro w9 e9 h9)
      | fail)
    exact ret_row3 rfl _ _ _ _ e9 rowT_ent rfl rfl rfl rfl (DecIs.err 2 HD.out (HC.out.b.trans (h9.below (Nat.le_refl _))))
  have i6 : decide ((1048576 : Int) < (N : Int) + 8) = false := decide_eq_false (by omega)
  by_cases hsh : l.length < N + 8
  · have i7 : (l.length : Int) < (N : Int) + 8 := by omega
    have HD : Hid (decRes l = (.zero, 0, 11)) := by unfold Hid decRes; rw [if_neg H4.out, ← HN.out, if_neg hlim, if_pos hsh]
    go_wp2_with (first
      | ((first | with_reducible refine gate_st ?_ | with_reducible refine gate_stw ?_); refine row_store rfl _ _ rfl w.heap.size rfl (kc 0) (kc 0) rfl HC.out.r.1 rfl rowT_ent (kc_one 0) ?_; intro w9 e9 h9)
      | fail)
    exact ret_row3 rfl _ _ _ _ e9 rowT_ent rfl rfl rfl rfl (DecIs.err 11 HD.out (HC.out.b.trans (h9.below (Nat.le_refl _))))
  have i7 : decide ((l.length : Int) < (N : Int) + 8) = false := decide_eq_false (by omega)
  have HLim := Lib.hid hlim
  have HSh := Lib.hid hsh
  have n2 : (N : Int) ≤ 1048568 := by omega
  clear hlim hsh
  go_upto_region 9 with fail
  obtain ⟨M, hM⟩ : ∃ M, M = N + 4 := ⟨_, rfl⟩
  rw [show (4 : Int) + (N : Int) = (M : Int) by omega]
  have HM := Lib.hid hM
  have HMl : Hid (M + 4 ≤ l.length ∧ M ≤ 1048572 ∧ 4 ≤ M) := by have := HSh.out; unfold Hid; omega
  have HRm : Hid (rgetS l M true 4 = (M + 4, true, num ((l.drop M).take 4))) := rgetS_of (by have := HMl.out; omega)
  obtain ⟨D, hD⟩ : ∃ D, D = num ((l.drop M).take 4) := ⟨_, rfl⟩
  rw [← hD] at HRm
  have HDd := Lib.hid hD
  clear hM hD n0 n2 i6 i7
  go_wp2_with fail
  refine (rget_any a c l M true 4 (by omega) w3 HC.out.call (by have := HMl.out; omega)).mono ?_
  rintro e w4 ⟨rfl, hb⟩
  rw [HRm.out]
  have HE := Lib.hid (HC.out.new hb)
  clear hb HC HRm
  go_upto_region 10 with (first
    | ((first | with_reducible refine gate_st ?_ | with_reducible refine gate_stw ?_); refine list_storeAgg rfl _ _ rfl w4.heap.size 0 rfl (rdV a l.length c (M + 4) true) rfl (by rw [sz_rd]; rfl) (all_one rfl) (var_there w4 [.slice none 0 0, .int .i64 0, .bool false] (by decide) 99 (by decide) 3 (by decide)) ?_
       intro w5 hW
       have hn := var_new w4 [.slice none 0 0, .int .i64 0, .bool false] (rdV a l.length c (M + 4) true) (by decide) 99 (by decide) rfl hW
       have P8 := Lib.hid hn.1
       have HF := Lib.hid (HE.out.new hn.2)
       clear hW hn HE)
    | fail)
  clear P8
  have m0 : (M : Int) ≤ (c : Int) := by have := HMl.out; have := HLc.out; omega
  have m1 : (0 : Int) ≤ (M : Int) := by omega
  obtain ⟨C, hC⟩ : ∃ C, C = chk (l.take M) := ⟨_, rfl⟩
  have HCd := Lib.hid hC
  clear hC
  go_wp2_with fail
  refine (rchecksum_any _ (l.take M) w5 (HF.out.s.take M (by have := HMl.out; omega)).r (by rw [List.length_take]; have := HMl.out; omega)).mono ?_
  rintro e w6 ⟨rfl, rfl⟩
  rw [← HCd.out]
  have HLt : Hid ((l.take M).length = M) := by unfold Hid; rw [List.length_take]; have := HMl.out; omega
  by_cases hCD : D = C
  rotate_left
  · have hne : ((D : Int) != (C : Int)) = true := by simpa using (by omega : ¬ (D : Int) = (C : Int))
    have hne2 : ¬ ((D : Int) = (C : Int)) := by omega
    have HD : Hid (decRes l = (.zero, 0, 10)) := dec_chk H4.out HN.out HLim.out HSh.out (by rw [← HM.out, ← HCd.out, ← HDd.out]; exact fun h => hCD h.symm)
    go_wp2_with (first
      | ((first | with_reducible refine gate_st ?_ | with_reducible refine gate_stw ?_); refine row_store rfl _ _ rfl w.heap.size rfl (kc 0) (kc 0) rfl HF.out.r.1 rfl rowT_ent (kc_one 0) ?_; intro w9 e9 h9)
      | fail)
    exact ret_row3 rfl _ _ _ _ e9 rowT_ent rfl rfl rfl rfl (DecIs.err 10 HD.out (HF.out.b.trans (h9.below (Nat.le_refl _))))
  have hne : ((D : Int) != (C : Int)) = false := by simpa using (by omega : (D : Int) = (C : Int))
  have hne2 : (D : Int) = (C : Int) := by omega
  have HCD : Hid (chk (l.take (N + 4)) = num ((l.drop (N + 4)).take 4)) := by unfold Hid; rw [← HM.out, ← HCd.out, ← HDd.out]; exact hCD.symm
  obtain ⟨q, hq⟩ : ∃ q, q = rgetS (l.take M) 4 true 1 := ⟨_, rfl⟩
  obtain ⟨q1, q2, K⟩ := q
  have HQ := Lib.hid hq.symm
  have HKd := Lib.hid (dec_kind H4.out HN.out HLim.out HSh.out HCD.out K q1 q2 (by rw [← HM.out]; exact hq.symm))
  have HTk : Hid (BytesL w5 w5.heap.size (.slice a (l.take M).length c) (l.take M)) := by unfold Hid; rw [HLt.out]; exact HF.out.call.take M (by have := HMl.out; omega)
  clear hq hCD
  go_wp2_with fail
  have hget := rget_any a c (l.take M) 4 true 1 (by omega) w5 HTk.out (by rw [HLt.out]; have := HMl.out; omega)
  rw [HLt.out] at hget
  refine hget.mono ?_
  rintro e w7 ⟨rfl, hb⟩
  rw [HQ.out, HLt.out]
  have HG := Lib.hid (HF.out.new hb)
  have HGl : Hid (w.heap.size < w7.heap.size) := HG.out.lt
  have HK8 : Hid (K < 256) := by
    have h1 : (rgetS (l.take M) 4 true 1).2.2 < 256 := by
      unfold rgetS
      split
      · have h1 := num_lt (((l.take M).drop 4).take 1)
        exact Nat.lt_of_lt_of_le h1 (Nat.pow_le_pow_right (n := 256) (i := _) (j := 1) (by decide) (by rw [List.length_take]; omega))
      · decide
    rw [HQ.out] at h1
    exact h1
  clear hb hget HF hne hne2 HTk
  go_upto_region 13 with (first
    | ((first | with_reducible refine gate_st ?_ | with_reducible refine gate_stw ?_); refine list_storeAgg rfl _ _ rfl w7.heap.size 0 rfl (rdV a M c q1 q2) rfl (by rw [sz_rd]; rfl) (all_one rfl) (var_there w7 [.slice none 0 0, .int .i64 0, .bool false] (by decide) 99 (by decide) 3 (by decide)) ?_
       intro w8 hW
       have hn := var_new w7 [.slice none 0 0, .int .i64 0, .bool false] (rdV a M c q1 q2) (by decide) 99 (by decide) rfl hW
       have P10 := Lib.hid hn.1
       have HH := Lib.hid (HG.out.new hn.2)
       clear hW hn HG)
    | fail)
  have k0 : (K : Int) < 256 := by have := HK8.out; omega
  by_cases hK : 1 ≤ K ∧ K ≤ 4
  rotate_left
  · have HDk := Lib.hid (HKd.out.1 hK)
    have hc : (K : Int) < 1 ∨ (4 : Int) < (K : Int) := by omega
    clear hK
    rcases hc with hc | hc
    · have hc2 : K = 0 := by omega
      subst hc2
      have HD : Hid (decRes l = (.zero, 0, 4)) := HDk.out
      go_wp2_with (first
        | ((first | with_reducible refine gate_st ?_ | with_reducible refine gate_stw ?_); refine row_store rfl _ _ rfl w.heap.size rfl (kc 0) (kc 0) rfl HH.out.r.1 rfl rowT_ent (kc_one 0) ?_; intro w9 e9 h9)
        | fail)
      exact ret_row3 rfl _ _ _ _ e9 rowT_ent rfl rfl rfl rfl (DecIs.err 4 HD.out (HH.out.b.trans (h9.below (Nat.le_refl _))))
    · have hc2 : decide ((K : Int) < 1) = false := decide_eq_false (by omega)
      have HD : Hid (decRes l = (.zero, 0, 4)) := HDk.out
      go_wp2_with (first
        | ((first | with_reducible refine gate_st ?_ | with_reducible refine gate_stw ?_); refine row_store rfl _ _ rfl w.heap.size rfl (kc 0) (kc 0) rfl HH.out.r.1 rfl rowT_ent (kc_one 0) ?_; intro w9 e9 h9)
        | fail)
      exact ret_row3 rfl _ _ _ _ e9 rowT_ent rfl rfl rfl rfl (DecIs.err 4 HD.out (HH.out.b.trans (h9.below (Nat.le_refl _))))
  obtain ⟨h5, h6, h7⟩ := HKd.out.2 hK
  subst h5
  subst h6
  have HD7 := Lib.hid h7
  have k1 : decide ((K : Int) < 1) = false := decide_eq_false (by omega)
  have k2 : decide ((4 : Int) < (K : Int)) = false := decide_eq_false (by omega)
  have HK := Lib.hid hK
  have HTk8 : Hid (BytesL w8 w8.heap.size (.slice a (l.take M).length c) (l.take M)) := by unfold Hid; rw [HLt.out]; exact HH.out.call.take M (by have := HMl.out; omega)
  have HM5 : Hid (5 ≤ M) := by
    have h1 := HQ.out
    unfold rgetS at h1
    split at h1
    · rename_i hx; rw [HLt.out] at hx; unfold Hid; omega
    · injection h1 with _ h1
      injection h1 with h1 _
      cases h1
  clear h7 hK
  go_upto_region 15 with fail
  go_wp2_with (first | ((first | with_reducible refine gate_ld ?_ | with_reducible refine gate_ldw ?_); refine list_loadAgg (rd_load w8 w7.heap.size (rdV a M c 5 true) rfl P10.out.1.range) rfl _ rfl rfl ?_) | fail)
  have hrest := gotRest a c (l.take M) 5 true w8 HTk8.out (by rw [HLt.out]; exact HM5.out) (by rw [HLt.out]; have := HMl.out; omega) K HK.out
  rw [HLt.out] at hrest
  refine hrest.mono ?_
  rintro e w9 ⟨p', ok', es, x, rfl, hrep, hwent, hb⟩
  rw [HLt.out]
  have HI := Lib.hid (HH.out.new hb)
  have HRe := Lib.hid hrep
  have HW := Lib.hid (dec_fin (z := Ent.zero) (Z := N + 8) hwent HLt.out)
  have HEs : Hid (es.length = 38) := entE_ok.len hrep
  have HOne := Lib.hid (entE_ok.one hrep)
  have P10' := Lib.hid (P10.out.below hb)
  have H78 : Hid (w.heap.size < w7.heap.size ∧ w7.heap.size < w8.heap.size) := ⟨HGl.out, P10.out.lt⟩
  have HDf : Hid (decRes l = if ok' = true ∧ p' = M then (x, N + 8, 0) else (.zero, 0, 3)) := by
    unfold Hid
    rw [HD7.out, ← HM.out]
    exact HW.out
  clear hrep hwent hb hrest HH P10 HTk8 HD7 HW HKd HQ
  have HX : Hid (Below w9.heap.size w9 (w9.alloc (.cells #[.int .i64 0, .int .i64 0, .int .i64 0, .string ⟨#[]⟩, .int .i64 0, .int .i64 0, .int .i64 0, .int .i64 0, .int .i64 0, .slice none 0 0, .int .i64 0, .int .i64 0, .int .i64 0, .string ⟨#[]⟩, .int .i64 0, .bool false, .int .i64 0, .int .i64 0, .int .i64 0, .int .i64 0, .slice none 0 0, .int .i64 0, .int .i64 0, .int .i64 0, .slice none 0 0, .slice none 0 0, .slice none 0 0, .slice none 0 0, .int .i64 0, .int .u64 0, .int .i64 0, .int .i64 0, .int .i64 0, .int .i64 0, .slice none 0 0, .slice none 0 0, .slice none 0 0, .slice none 0 0] 55)) ∧ PAt (w9.alloc (.cells #[.int .i64 0, .int .i64 0, .int .i64 0, .string ⟨#[]⟩, .int .i64 0, .int .i64 0, .int .i64 0, .int .i64 0, .int .i64 0, .slice none 0 0, .int .i64 0, .int .i64 0, .int .i64 0, .string ⟨#[]⟩, .int .i64 0, .bool false, .int .i64 0, .int .i64 0, .int .i64 0, .int .i64 0, .slice none 0 0, .int .i64 0, .int .i64 0, .int .i64 0, .slice none 0 0, .slice none 0 0, .slice none 0 0, .slice none 0 0, .int .i64 0, .int .u64 0, .int .i64 0, .int .i64 0, .int .i64 0, .int .i64 0, .slice none 0 0, .slice none 0 0, .slice none 0 0, .slice none 0 0] 55)) w9.heap.size (kc 0)) := ⟨(Below.refl _ _).alloc (Nat.le_refl _) _, PAt.new w9 (kc 0) (by rw [kc_length]; decide) _ (by decide) rfl⟩
  go_upto_region 16 with (first
    | ((first | with_reducible refine gate_st ?_ | with_reducible refine gate_stw ?_); refine list_storeAgg rfl _ _ rfl w9.heap.size 0 rfl es rfl (by rw [sz_ent, HEs.out]) HOne.out (H2.out.new.thereMid 0 _ (by rw [HEs.out, kc_length]; decide)) ?_
       intro wb hwb
       have H3 := Lib.hid (H2.out.put P10'.out.lt es (by rw [HEs.out, kc_length]) hwb)
       clear hwb H2)
    | ((first | with_reducible refine gate_st ?_ | with_reducible refine gate_stw ?_); refine list_storeAgg rfl _ _ rfl w7.heap.size 0 rfl (rdV a M c p' ok') rfl (by rw [sz_rd]; rfl) (all_one rfl) ((P10'.out.below HX.out.1).thereMid 0 3 (by simp [rdV])) ?_
       intro wa hwa
       have H2 := Lib.hid (two_old HX.out.1 HX.out.2 P10'.out (rdV a M c p' ok') rfl hwa)
       clear hwa HX)
    | fail)
  have P12 := Lib.hid H3.out.new
  have P13 := Lib.hid H3.out.old
  have HJ := Lib.hid (HI.out.newAt H3.out.below H78.out.1)
  have HRf : Hid (entE.rep (fun k => w.heap.size < k) wb es x) := by
    have h1 := entE_ok.weak (av' := fun k => w8.heap.size ≤ k ∧ k < w9.heap.size) HRe.out fun k h2 h3 => ⟨h2, h3⟩
    refine entE_ok.weak (entE_ok.keep h1 fun k _ _ _ _ _ ha => H3.out.same k ha.2 (by have := H78.out; have := ha.1; omega)) fun k h2 _ => ?_
    have := H78.out; have := h2.1
    show w.heap.size < k
    omega
  clear H3 HI HRe P10'
  have k10 : wb.cell? ⟨w7.heap.size, 2, none⟩ = some (.bool ok') := P13.out.1.at 2 rfl
  have k11 : wb.cell? ⟨w7.heap.size, 1, none⟩ = some (.int .i64 p') := P13.out.1.at 1 rfl
  clear k0 k1 k2
  by_cases hok : ok' = true
  rotate_left
  · have hok : ok' = false := by simpa using hok
    subst hok
    have HDk : Hid (decRes l = (.zero, 0, 3)) := by unfold Hid; rw [HDf.out, if_neg (by simp)]
    clear HDf
    have HD : Hid (decRes l = (.zero, 0, 3)) := HDk.out
    go_wp2_with (first
      | ((first | with_reducible refine gate_st ?_ | with_reducible refine gate_stw ?_); refine row_store rfl _ _ rfl w.heap.size rfl (kc 0) (kc 0) rfl HJ.out.r.1 rfl rowT_ent (kc_one 0) ?_; intro w9 e9 h9)
      | fail)
    exact ret_row3 rfl _ _ _ _ e9 rowT_ent rfl rfl rfl rfl (DecIs.err 3 HD.out (HJ.out.b.trans (h9.below (Nat.le_refl _))))
  subst hok
  by_cases hpM : p' = M
  rotate_left
  · have HDk : Hid (decRes l = (.zero, 0, 3)) := by unfold Hid; rw [HDf.out, if_neg (fun h => hpM h.2)]
    have hne : ((p' : Int) != (M : Int)) = true := by simpa using (by omega : ¬ (p' : Int) = (M : Int))
    have hne2 : ¬ ((p' : Int) = (M : Int)) := by omega
    clear HDf
    have HD : Hid (decRes l = (.zero, 0, 3)) := HDk.out
    go_wp2_with (first
      | ((first | with_reducible refine gate_st ?_ | with_reducible refine gate_stw ?_); refine row_store rfl _ _ rfl w.heap.size rfl (kc 0) (kc 0) rfl HJ.out.r.1 rfl rowT_ent (kc_one 0) ?_; intro w9 e9 h9)
      | fail)
    exact ret_row3 rfl _ _ _ _ e9 rowT_ent rfl rfl rfl rfl (DecIs.err 3 HD.out (HJ.out.b.trans (h9.below (Nat.le_refl _))))
  subst hpM
  have HDk : Hid (decRes l = (x, N + 8, 0)) := by unfold Hid; rw [HDf.out, if_pos ⟨rfl, rfl⟩]
  clear HDf
  have m3 : (p' : Int) ≤ 1048572 := by have := HMl.out; omega
  have HE38 := Lib.hid (ent_load wb w9.heap.size es HEs.out P12.out.1.range)
  go_wp2_with (first
    | ((first | with_reducible refine gate_ld ?_ | with_reducible refine gate_ldw ?_); refine list_loadAgg HE38.out rfl _ rfl rfl ?_)
    | ((first | with_reducible refine gate_st ?_ | with_reducible refine gate_stw ?_); refine row_store rfl _ _ rfl w.heap.size rfl (kc 0) es rfl HJ.out.r.1 (by rw [HEs.out, kc_length]) rowT_ent HOne.out ?_; intro wz ez hz)
    | fail)
  refine ret_row3 rfl _ _ _ _ ez (by rw [HEs.out]; exact rowT_ent) rfl rfl rfl rfl ⟨es, by rw [HDk.out]; have := HM.out; simp; omega, ?_, HJ.out.b.trans (hz.below (Nat.le_refl _))⟩
  rw [HDk.out]
  exact entE_ok.weak (entE_ok.keep HRf.out fun k _ _ _ _ _ ha => hz.2.2.2.2 k (by have h1 : w.heap.size < k := ha; omega)) fun k h1 _ => Nat.le_of_lt h1
end Go.Proofs.YtpknalpdcfjffaaGreat
/- The reference's Read. Printed by gen_jou.py. -/
namespace Go.Proofs.YtpknalpdcfjffaaGreat
open Go Go.RowKit

set_option maxHeartbeats 16000000 in
set_option maxRecDepth 100000 in
theorem rread_any (v : Value) (l : List UInt8) (w : World) (h : BytesL w w.heap.size v l) (hm : l.length ≤ 900000) : Calls Tryz.prog 13 #[v] w (ReadIs l w) := by
  obtain ⟨a, c, rfl⟩ := h.slice
  have hlc : l.length ≤ c ∧ c ≤ 9223372036854775807 := by
    obtain ⟨a', c', e, h1, h2, _⟩ := h
    obtain ⟨_, rfl⟩ : a = a' ∧ c = c' := by simpa using e
    exact ⟨h1, h2⟩
  have HL := Lib.hid h
  have HM := Lib.hid hm
  obtain ⟨n, hn⟩ : ∃ n, n = l.length := ⟨_, rfl⟩
  rw [← hn] at HL hlc ⊢
  have HN := Lib.hid hn
  have m1 : (n : Int) ≤ 900000 := by omega
  have m2 : (n : Int) ≤ (c : Int) := by omega
  have m3 : (c : Int) ≤ 9223372036854775807 := by omega
  have HLc := Lib.hid hlc
  clear h hm hn hlc
  have HS : Hid (RowE entE 55 w.heap.size w (.slice none 0 0) [] ∧ Below w.heap.size w w) := ⟨.nil, Below.refl _ _⟩
  go_enter Tryz.func13, Tryz.ntmps13
  go_wp2_with fail
  go_loopw [4, 5] (fun lv kv wr => ∃ (i : Nat) (done : List Ent), kv = .int .i64 i ∧ i ≤ n ∧ Hid (RowE entE 55 w.heap.size wr lv done ∧ Below w.heap.size w wr) ∧ Hid (readAll l = (done ++ (readAll (l.drop i)).1, i + (readAll (l.drop i)).2) ∧ done.length ≤ i)) (fun _ kv _ => (2000000 - intOf kv).toNat)
  case atStart => exact ⟨0, [], rfl, by omega, HS, ⟨by simp, by simp⟩⟩
  case round =>
    clear HS
    obtain ⟨i, done, rfl, hi, HS1, HA⟩ := hrel
    have i0 : (i : Int) ≤ (n : Int) := by omega
    have i1 : (i : Int) ≤ (c : Int) := by omega
    by_cases hci : c = i
    · have hni : n = i := by omega
      have hd0 : l.drop i = [] := List.drop_eq_nil_of_le (by have := HN.out; omega)
      have HNe : Hid ((decRes (l.drop i)).2.2 ≠ 0) := by unfold Hid; rw [hd0]; decide
      have HBl : Hid (BytesL wr wr.heap.size (.slice a (n - i) 0) (l.drop i)) := by
        have h1 : BytesL wr w.heap.size (.slice a n c) l := HL.out.below HS1.out.2
        have h2 := h1.drop (a2 := a) i (by have := HN.out; omega) (fun h => by have := HN.out; omega)
        rw [← HN.out] at h2
        have e : c - i = 0 := by omega
        rw [e] at h2
        exact h2.up HS1.out.2.size
      clear hd0 hni
      go_wp2_with fail
      obtain ⟨va, vc, rfl⟩ := HS1.out.1.slice
      refine (rdecode_any _ (l.drop i) wr HBl.out).mono ?_
      rintro e w3 ⟨cs, rfl, hrep, hb3⟩
      have hei := decRes_err (l.drop i)
      have HcsL : cs.length = 38 := entE_ok.len hrep
      have HRp := Lib.hid hrep
      have HB3 := Lib.hid hb3
      obtain ⟨qn, hqn⟩ : ∃ q, q = (decRes (l.drop i)).2.1 := ⟨_, rfl⟩
      obtain ⟨qe, hqe⟩ : ∃ q, q = (decRes (l.drop i)).2.2 := ⟨_, rfl⟩
      rw [← hqn, ← hqe]
      have HQn := Lib.hid hqn
      have HQe := Lib.hid hqe
      clear hrep hb3 hqn hqe HBl
      have hne : (qe != 0) = true := by rw [HQe.out]; simpa using HNe.out
      clear hei
      go_wp2_with (first
        | (refine list_storeAgg rfl _ _ rfl w3.heap.size 0 rfl cs rfl (by rw [sz_ent, HcsL]) (entE_ok.one HRp.out) (log_there w3 _ (Nat.le_of_eq HcsL)) ?_
           intro w4 hw
           have h4 := log_new w3 cs HcsL hw
           have HP4 := Lib.hid h4.1
           have HBx : Hid (Below wr.heap.size wr w4) := below_then HB3.out h4.2
           have HB4 := Lib.hid (HS1.out.2.trans (HBx.out.mono HS1.out.2.size))
           have HR4 := Lib.hid (HS1.out.1.below entE_ok HBx.out)
           have HRp4 := Lib.hid (entE_ok.keep HRp.out (Keeps.of_below h4.2))
           clear hw h4 HB3)
        | fail)
      have hdl : done.length ≤ 1000000 := by have := HA.out.2; have := HM.out; have := HN.out; omega
      have HF : Hid (ReadIs l w (.returned (.tuple #[.slice va done.length vc, .int .i64 (i : Nat)])) w4) := by
        have e1 : readAll l = (done, i) := by rw [HA.out.1, readAll_step, if_neg HNe.out]; simp
        exact ⟨_, by rw [e1], by rw [e1]; exact HR4.out.rd entE_ok (by decide) hdl, HB4.out⟩
      clear HA HR4 HB4
      go_wp2_with fail
      go_ret2
      exact HF.out
    · have HBl : Hid (BytesL wr wr.heap.size (.slice (Option.map (fun x => x.add i) a) (n - i) (c - i)) (l.drop i)) := by
        have h1 : BytesL wr w.heap.size (.slice a n c) l := HL.out.below HS1.out.2
        have h2 := h1.drop (a2 := Option.map (fun x => x.add i) a) i (by have := HN.out; omega) (fun _ ab ao e => by rw [e]; simp [Addr.add_mid])
        rw [← HN.out] at h2
        exact h2.up HS1.out.2.size
      go_wp2_with fail
      obtain ⟨va, vc, rfl⟩ := HS1.out.1.slice
      refine (rdecode_any _ (l.drop i) wr HBl.out).mono ?_
      rintro e w3 ⟨cs, rfl, hrep, hb3⟩
      have hei := decRes_err (l.drop i)
      have HcsL : cs.length = 38 := entE_ok.len hrep
      have HRp := Lib.hid hrep
      have HB3 := Lib.hid hb3
      obtain ⟨qn, hqn⟩ : ∃ q, q = (decRes (l.drop i)).2.1 := ⟨_, rfl⟩
      obtain ⟨qe, hqe⟩ : ∃ q, q = (decRes (l.drop i)).2.2 := ⟨_, rfl⟩
      rw [← hqn, ← hqe]
      have HQn := Lib.hid hqn
      have HQe := Lib.hid hqe
      clear hrep hb3 hqn hqe HBl
      by_cases he : qe = 0
      · subst he
        have HQ0 : Hid ((decRes (l.drop i)).2.2 = 0) := HQe.out.symm
        have hq8 := decRes_ok _ HQ0.out
        rw [← HQn.out, List.length_drop, ← HN.out] at hq8
        have HQ8 := Lib.hid hq8
        have q1 : (qn : Int) ≤ 900000 := by omega
        clear hq8 hei
        go_wp2_with (first
          | (refine list_storeAgg rfl _ _ rfl w3.heap.size 0 rfl cs rfl (by rw [sz_ent, HcsL]) (entE_ok.one HRp.out) (log_there w3 _ (Nat.le_of_eq HcsL)) ?_
             intro w4 hw
             have h4 := log_new w3 cs HcsL hw
             have HP4 := Lib.hid h4.1
             have HBx : Hid (Below wr.heap.size wr w4) := below_then HB3.out h4.2
             have HB4 := Lib.hid (HS1.out.2.trans (HBx.out.mono HS1.out.2.size))
             have HR4 := Lib.hid (HS1.out.1.below entE_ok HBx.out)
             have HRp4 := Lib.hid (entE_ok.keep HRp.out (Keeps.of_below h4.2))
             clear hw h4 HB3)
          | (refine list_loadAgg (ent_load0 w4 w3.heap.size cs HcsL HP4.out.1.range) rfl _ rfl rfl ?_
             have hre : entE.rep (avR w.heap.size (.slice va done.length vc)) w4 cs (decRes (l.drop i)).1 := entE_ok.weak HRp4.out fun k hk _ => by
               have h1 : wr.heap.size ≤ k := hk
               refine ⟨Nat.le_trans HS1.out.2.size h1, fun e => ?_⟩
               have := (HS1.out.1.lt k e).2
               omega
             obtain ⟨v6, w6, hrun, hr6, hb6⟩ := RowE.append entE_ok logT HR4.out hre (by have := HA.out.2; have := HM.out; have := HN.out; omega) HB4.out.size 26
             have HRun := Lib.hid hrun
             have HS6 : Hid (RowE entE 55 w.heap.size w6 v6 (done ++ [(decRes (l.drop i)).1]) ∧ Below w.heap.size w w6) := ⟨hr6, HB4.out.trans hb6⟩
             clear hre hrun hr6 hb6)
          | (refine list_lit logT rfl _ rfl cs rfl HcsL (entE_ok.one HRp4.out) ?_)
          | (at_builtin; refine wpList_append_run rfl _ _ _ rfl _ _ _ _ rfl rfl HRun.out ?_; clear HRun)
          | fail)
        go_roundw
        case rel =>
          refine ⟨i + qn, _, by go_num, by have := HQ8.out; omega, HS6, ?_, ?_⟩
          · rw [HA.out.1, readAll_step, if_pos HQ0.out, ← HQn.out, List.drop_drop, List.append_assoc]
            simp [Nat.add_assoc]
          · rw [List.length_append]
            have := HA.out.2; have := HQ8.out
            simp; omega
        case measure => have := HQ8.out; simp [intOf]; omega
      · have HNe : Hid ((decRes (l.drop i)).2.2 ≠ 0) := by unfold Hid; rw [← HQe.out]; exact he
        have hne : (qe != 0) = true := by simpa using he
        clear hei he
        go_wp2_with (first
          | (refine list_storeAgg rfl _ _ rfl w3.heap.size 0 rfl cs rfl (by rw [sz_ent, HcsL]) (entE_ok.one HRp.out) (log_there w3 _ (Nat.le_of_eq HcsL)) ?_
             intro w4 hw
             have h4 := log_new w3 cs HcsL hw
             have HP4 := Lib.hid h4.1
             have HBx : Hid (Below wr.heap.size wr w4) := below_then HB3.out h4.2
             have HB4 := Lib.hid (HS1.out.2.trans (HBx.out.mono HS1.out.2.size))
             have HR4 := Lib.hid (HS1.out.1.below entE_ok HBx.out)
             have HRp4 := Lib.hid (entE_ok.keep HRp.out (Keeps.of_below h4.2))
             clear hw h4 HB3)
          | fail)
        have hdl : done.length ≤ 1000000 := by have := HA.out.2; have := HM.out; have := HN.out; omega
        have HF : Hid (ReadIs l w (.returned (.tuple #[.slice va done.length vc, .int .i64 (i : Nat)])) w4) := by
          have e1 : readAll l = (done, i) := by rw [HA.out.1, readAll_step, if_neg HNe.out]; simp
          exact ⟨_, by rw [e1], by rw [e1]; exact HR4.out.rd entE_ok (by decide) hdl, HB4.out⟩
        clear HA HR4 HB4
        go_wp2_with fail
        go_ret2
        exact HF.out
end Go.Proofs.YtpknalpdcfjffaaGreat
/- The reference's Cut; synopticfield.Mod. -/
namespace Go.Proofs.YtpknalpdcfjffaaGreat
open Go Go.RowKit

set_option maxHeartbeats 16000000 in
set_option maxRecDepth 100000 in
theorem rcut_any (v : Value) (l : List UInt8) (n : Int) (hn : I64 n) (w : World) (h : BytesL w w.heap.size v l) (hm : l.length ≤ 150000000000000) : Calls Tryz.prog 15 #[v, .int .i64 n] w (CutIs l n w) := by
  obtain ⟨a, c, rfl⟩ := h.slice
  have hlc : l.length ≤ c := by
    obtain ⟨a', c', e, h1, _⟩ := h
    obtain ⟨_, rfl⟩ : a = a' ∧ c = c' := by simpa using e
    exact h1
  have m0 : (l.length : Int) ≤ 150000000000000 := by omega
  have m1 : (l.length : Int) ≤ (c : Int) := by omega
  unfold I64 at hn
  have fin : ∀ K : Nat, K ≤ l.length → ∃ v' w', (Builtin.append_ #[22, 22] 22 #[.slice none 0 0, .slice a K c]).run Tryz.prog w = .ok v' w' ∧ OwnB w' w.heap.size v' (l.take K) ∧ Below w.heap.size w w' := fun K hK => by
    have hl : (l.take K).length = K := by rw [List.length_take]; omega
    obtain ⟨v', w', h1, h2, h3⟩ := append_bl (OwnB.nil w w.heap.size) (by rw [hl]; exact h.take K hK) (by simp) (by rw [hl]; omega) (Nat.le_refl _) 22
    rw [List.nil_append] at h2
    rw [hl] at h1
    exact ⟨v', w', h1, h2, h3⟩
  by_cases h0 : n < 1
  · obtain ⟨v', w', h1, h2, h3⟩ := fin l.length (Nat.le_refl _)
    have HRun := Lib.hid h1
    have HF : Hid (CutIs l n w (.returned v') w') := ⟨v', rfl, by
      have e : l.length - (min (max n 0) l.length).toNat = l.length := by omega
      rw [e]; exact h2, h3⟩
    clear h1 h2 h3 fin h hm
    go_enter Tryz.func15, Tryz.ntmps15
    go_wp2_with (first
      | (at_builtin; refine wpList_append_run rfl _ _ _ rfl _ _ _ _ rfl rfl HRun.out ?_; clear HRun)
      | fail)
    go_ret
    exact HF.out
  · obtain ⟨k, rfl⟩ := Int.eq_ofNat_of_zero_le (show 0 ≤ n by omega)
    have g0 : decide ((k : Int) < 1) = false := decide_eq_false h0
    by_cases h1 : k ≤ l.length
    · have g1 : decide ((l.length : Int) < (k : Int)) = false := decide_eq_false (by omega)
      obtain ⟨K, hK⟩ : ∃ K, K = l.length - k := ⟨_, rfl⟩
      have hs : (l.length : Int) - (k : Int) = (K : Int) := by omega
      have hKc : (K : Int) ≤ (c : Int) := by omega
      have hK0 : (0 : Int) ≤ (K : Int) := by omega
      have hk0 : (k : Int) ≤ (l.length : Int) := by omega
      obtain ⟨v', w', h1, h2, h3⟩ := fin K (by omega)
      have HRun := Lib.hid h1
      have HF : Hid (CutIs l (k : Int) w (.returned v') w') := ⟨v', rfl, by
        have e : l.length - (min (max (k : Int) 0) l.length).toNat = K := by omega
        rw [e]; exact h2, h3⟩
      clear h1 h2 h3 fin h hm hK
      go_enter Tryz.func15, Tryz.ntmps15
      go_wp2_with (first
        | (at_builtin; refine wpList_append_run rfl _ _ _ rfl _ _ _ _ rfl rfl HRun.out ?_; clear HRun)
        | fail)
      go_ret
      exact HF.out
    · have g1 : (l.length : Int) < (k : Int) := by omega
      have HF : Hid (CutIs l (k : Int) w (.returned (.slice none 0 0)) w) := ⟨_, rfl, by
        have e : l.length - (min (max (k : Int) 0) l.length).toNat = 0 := by omega
        rw [e, List.take_zero]; exact OwnB.nil _ _, Below.refl _ _⟩
      clear fin h hm
      go_enter Tryz.func15, Tryz.ntmps15
      go_wp2_with fail
      go_ret
      exact HF.out
def ModIs (w : World) (e : Ending) (w' : World) : Prop := ∃ k : Int, e = .returned (.int .i64 k) ∧ I64 k ∧ w = w'
set_option maxHeartbeats 16000000 in
set_option maxRecDepth 100000 in
theorem mod_any (n m : Int) (hn : I64 n) (hm : 1 ≤ m ∧ m ≤ 9000000000000000000) (w : World) : Calls Tryz.prog 11 #[.int .i64 n, .int .i64 m] w (ModIs w) := by
  unfold I64 at hn
  have g0 : decide (m < 1) = false := decide_eq_false (by omega)
  have g1 : ¬ (m = 0) := by omega
  obtain ⟨r, hr⟩ : ∃ r, r = n.tmod m := ⟨_, rfl⟩
  have hr' : n.tmod m = r := hr.symm
  have hlt : r < m := by rw [hr]; exact Int.tmod_lt_of_pos n (by omega)
  have hgt : -m < r := by
    have h := Int.tmod_lt_of_pos (-n) (show 0 < m by omega)
    rw [Int.neg_tmod] at h
    omega
  clear hr
  by_cases h0 : r < 0
  · have b0 : -9223372036854775808 ≤ r + m := by omega
    have b1 : r + m ≤ 9223372036854775807 := by omega
    have hw : IntKind.i64.wrap (r + m) = r + m := by simp [IntKind.wrap, IntKind.signed, IntKind.bits] <;> omega
    go_enter Tryz.func11, Tryz.ntmps11
    go_wp2_with fail
    go_ret
    exact ⟨_, rfl, by unfold I64; omega, rfl⟩
  · have h0' : decide (r < 0) = false := decide_eq_false h0
    go_enter Tryz.func11, Tryz.ntmps11
    go_wp2_with fail
    go_ret
    exact ⟨_, rfl, by unfold I64; omega, rfl⟩
end Go.Proofs.YtpknalpdcfjffaaGreat
