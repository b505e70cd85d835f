/- Package dag: Heads. -/
import Derived.Test.YthfinaocdcinlaaDag9
namespace Go.Proofs.Ythfinaocdcinlaa
open Go.RowKit
attribute [local go_sem] eql_sl_nil neq_sl_nil max_two
set_option linter.unusedVariables false
set_option linter.unusedSimpArgs false

set_option maxHeartbeats 8000000 in
set_option maxRecDepth 100000 in
/-- (*Dag).Heads -/
theorem heads_calls (g m1 m2 : Nat) (D : Nodes) (w : World) (h : DagAt g m1 m2 D w) (hb : D.length ≤ 900000000) :
    Calls Try.prog 26 #[.pointer (some ⟨g, 0, none⟩)] w fun e w' => ∃ v l, e = .returned v ∧ OwnI w.heap.size v l w' ∧ Ext w w' ∧ (l.Pairwise fun a b => cmpI a b < 0) ∧ ∀ n, n ∈ l ↔ has D n = true ∧ isKid D n = false := by
  obtain ⟨hg, hne, ⟨l1, a1, a2, a3⟩, l2, b1, b2⟩ := h
  obtain ⟨o, hrg, hra⟩ := run_range (P := Try.prog) 63 _ _ Try.underlying63 a1
  have c0 : w.cell? ⟨g, 0, none⟩ = some (.map (some m1)) := blk_cell hg 0
  have HC1 : Hd (w.cell? ⟨g, 1, none⟩ = some (.map (some m2))) := ⟨blk_cell hg 1⟩
  have HRA := Hd.mk hra
  have HB2 := Hd.mk b2
  have HB1 := Hd.mk b1
  have HK := Hd.mk a2
  have hll : l1.length = D.length := by have := congrArg List.length a2; simpa using this
  have hu := Try.underlying24
  clear hra hg hne a1 a2 a3 b1 b2
  go_enter Try.func26, Try.ntmps26
  go_wp2
  go_loopw [3] (fun iv wr => ∃ (ks os : List Id) (B : Option Addr) (k kc : Nat), iv = .slice B k kc ∧ Hd (os.length = k) ∧ Hd (OwnI (w.heap.size + 1) iv os wr) ∧ Hd (RangeAt idV w.heap.size m1 l1 ks wr) ∧ Hd (os = ks.filter (fun z => !isKid D z)) ∧ Hd (Ext w wr) ∧ w.heap.size + 1 ≤ wr.heap.size) (fun iv wr => l1.length - seenOf w.heap.size wr)
  case atStart => exact ⟨[], [], none, 0, 0, rfl, ⟨rfl⟩, ⟨OwnK.nil _ _ _ _ _⟩, ⟨by simpa using HRA.out⟩, ⟨rfl⟩, ⟨Ext.alloc' _ _⟩, by simp⟩
  case round =>
    clear HRA
    obtain ⟨ks3, os, B, k, kc, rfl, HL, HO, HR3, HOS, HE3, hsz3⟩ := hrel
    have hk9 : k ≤ 900000000 := by
      have h1 := nodup_len HR3.out.nodup HR3.out.sub
      rw [List.length_map] at h1
      have h2 := List.length_filter_le (fun z => !isKid D z) ks3
      rw [← HOS.out, HL.out] at h2
      omega
    have hkle : k ≤ 1000000000 := by omega
    rcases run_next (P := Try.prog) HR3.out with ⟨hall, hrun⟩ | ⟨n, v, w1, hxl, hnk, hrun, hra', hchg, hent⟩
    · have hks3 : ∀ k, k ∈ ks3 ↔ k ∈ l1.map Prod.fst := fun k => ⟨HR3.out.sub k, hall k⟩
      have HKS3 := Hd.mk hks3
      clear hall hks3
      go_wp2_with (go_at_call 36; refine (sortc_calls os B k kc (w.heap.size + 1) _ HO.out HL.out hkle).mono ?_; rintro e w2 ⟨rfl, ho2, hc2⟩; have HO2 := Hd.mk ho2; have HC2 := Hd.mk hc2; clear ho2 hc2)
      go_ret
      refine ⟨_, _, rfl, HO2.out.lower (by omega), HE3.out.chg HC2.out (fun b hb => by have := (HO.out.lt b hb).1; omega), ?_, fun n => ?_⟩
      · refine sortC_rising ?_
        rw [HOS.out]
        exact HR3.out.nodup.filter _
      · rw [(sortC_perm os).mem_iff, HOS.out, List.mem_filter, HKS3.out, HK.out]
        have h1 := look_none_keys (l := D) (k := n)
        refine and_congr ⟨fun hm => ?_, has_mem⟩ (by simp)
        cases hl : look D n with
        | none => exact absurd hm (h1.1 hl)
        | some z => simp [has, hl]
    · have hrun' : ∀ ty, (Instr.next (.pointer (some ⟨w.heap.size, 0, none⟩)) false ty).run Try.prog wr = .ok (.tuple #[.bool true, .agg (idA n), v]) w1 := hrun
      have hent' : (Instr.entry (.pointer (some ⟨w.heap.size, 0, none⟩))).run Try.prog w1 = .ok (.tuple #[.agg (idA n), v]) w1 := hent
      have hE1 : Ext w w1 := HE3.out.chg hchg (fun b hb => by omega)
      obtain ⟨bk, hbk⟩ : ∃ b, isKid D n = b := ⟨_, rfl⟩
      have hE1w : Ext w (w1.alloc (.cells (idA n) 24)) := hE1.alloc1 _
      have HS : Hd (∀ W, Ext (w1.alloc (.cells (idA n) 24)) W → W.rangeAt w1.heap.size 0 (idC n) ∧ W.cell? ⟨g, 1, none⟩ = some (.map (some m2)) ∧ (Instr.lookup 60 (.map (some m2)) (.agg (idA n)) false).run Try.prog W = .ok (.bool bk) W) := ⟨fun W he =>
        ⟨range_blk (he.blk (heap_alloc_new w1 _) (fun h => h)), (hE1w.tr he).cell HC1.out (fun h => h), by
          have h1 : (Instr.lookup 60 (.map (some m2)) (.agg (idA n)) false).run Try.prog W = _ := run_lookup idKeys Try.underlying60 (zeroBool _) (HB1.out.ext (hE1w.tr he)) n
          rw [h1, HB2.out n, hbk]
          cases bk <;> rfl⟩⟩
      have HXB : Hd ((w1.alloc (.cells (idA n) 24)).heap[w1.heap.size]? = some (.cells (idA n) 24 (0, 0))) := ⟨heap_alloc_new _ _⟩
      have HO1 : Hd (OwnI (w.heap.size + 1) (.slice B k kc) os w1) := ⟨HO.out.chg hchg (fun b hb e => by have := (HO.out.lt b hb).1; omega)⟩
      have hlt : ks3.length < l1.length := by
        have h2 := nodup_len (ks := ks3 ++ [n]) hra'.nodup hra'.sub
        rw [List.length_append, List.length_map] at h2
        simp only [List.length_singleton] at h2; omega
      have hseen := HR3.out.seen
      have HR1 := Hd.mk hra'
      have HE1' := Hd.mk hE1
      have hsz1 : w.heap.size + 1 ≤ w1.heap.size := Nat.le_trans hsz3 hchg.size
      have hfil : (ks3 ++ [n]).filter (fun z => !isKid D z) = os ++ (if bk = true then [] else [n]) := by
        rw [List.filter_append, ← HOS.out, ← hbk]
        congr 1
        cases h : isKid D n <;> simp [List.filter, h]
      have HFIL := Hd.mk hfil
      clear hrun hent hra' hchg hE1 hxl hnk hfil hbk hE1w
      have hw2e : Ext w1 (w1.alloc (.cells (idA n) 24)).drew := (by repeat (first | assumption | exact Ext.rfl' _ | apply Ext.drew1 | apply Ext.drewN1 | apply Ext.alloc1 | (refine Ext.set1' ?_ (by simp) _) | refine Ext.tr ?_ (by assumption)))
      have HW2E := Hd.mk hw2e
      have HXB2 : Hd ((w1.alloc (.cells (idA n) 24)).drew.heap[w1.heap.size]? = some (.cells (idA n) 24 (0, 0))) := HXB
      have HRW := Hd.mk (row1 (w1.alloc (.cells (idA n) 24)).drew n 24)
      clear hw2e
      cases bk
      · have HO2 : Hd (OwnI (w.heap.size + 1) (.slice B k kc) os (w1.alloc (.cells (idA n) 24)).drew) := ⟨HO1.out.ext HW2E.out⟩
        have hszd : w.heap.size + 1 ≤ (w1.alloc (.cells (idA n) 24)).drew.heap.size := Nat.le_trans hsz1 HW2E.out.size
        go_wp2_with (refine wpList_var_id rfl rfl rfl (.tmp 4) (.tmp 13) rfl n rfl rfl ?_)
        (refine wp_region_held_drew (S := fun W => W.rangeAt w1.heap.size 0 (idC n) ∧ W.cell? ⟨g, 1, none⟩ = some (.map (some m2)) ∧ (Instr.lookup 60 (.map (some m2)) (.agg (idA n)) false).run Try.prog W = .ok (.bool false) W) (by kernel_rfl) (HS.out _ (by repeat (first | assumption | exact Ext.rfl' _ | apply Ext.drew1 | apply Ext.drewN1 | apply Ext.alloc1 | (refine Ext.set1' ?_ (by simp) _) | refine Ext.tr ?_ (by assumption)))) (fun hHeld => ?_); (refine reg_run (i := 0) (v := ?_) rfl (by kernel_rfl) ?_ ?_ (fun _ _ _ h => h) rfl ?_ (by assumption) ?_; rotate_left; (focus (decide +kernel)); (focus (decide +kernel)); (focus (intro W hW; (try dsimp only at hW); go_simp; (try with_reducible rfl); done)); (try simp only [Act.put, List.setIfInBounds_toArray, List.set_cons_zero, List.set_cons_succ])); (refine reg_run (i := 1) (v := ?_) rfl (by kernel_rfl) ?_ ?_ (fun _ _ _ h => h) rfl ?_ (by assumption) ?_; rotate_left; (focus (decide +kernel)); (focus (decide +kernel)); (focus (intro W hW; (try dsimp only at hW); go_simp; (try with_reducible rfl); done)); (try simp only [Act.put, List.setIfInBounds_toArray, List.set_cons_zero, List.set_cons_succ])); (refine reg_run (i := 2) (v := ?_) rfl (by kernel_rfl) ?_ ?_ (fun _ _ _ h => h) rfl ?_ (by assumption) ?_; rotate_left; (focus (decide +kernel)); (focus (decide +kernel)); (focus (intro W hW; (try dsimp only at hW); go_simp; (try with_reducible rfl); done)); (try simp only [Act.put, List.setIfInBounds_toArray, List.set_cons_zero, List.set_cons_succ])); (refine reg_run (i := 3) (v := ?_) rfl (by kernel_rfl) ?_ ?_ (fun _ _ _ h => h) rfl ?_ (by assumption) ?_; rotate_left; (focus (decide +kernel)); (focus (decide +kernel)); (focus (intro W hW; (try dsimp only at hW); go_simp; (try with_reducible rfl); done)); (try simp only [Act.put, List.setIfInBounds_toArray, List.set_cons_zero, List.set_cons_succ])); (refine reg_load (i := 4) (cs := idC n) rfl rfl (by kernel_rfl) ?_ ?_ rfl hu rfl ?_ (by rw [idC_len]; exact info_sz) rfl (fun _ _ _ h => h) (by assumption) ?_; (focus (decide +kernel)); (focus (decide +kernel)); (focus (intro W hW; (try dsimp only at hW); go_split_ands; assumption)); (try simp only [Act.put, List.setIfInBounds_toArray, List.set_cons_zero, List.set_cons_succ])); (refine reg_run (i := 5) (v := ?_) rfl (by kernel_rfl) ?_ ?_ (fun _ _ _ h => h) rfl ?_ (by assumption) ?_; rotate_left; (focus (decide +kernel)); (focus (decide +kernel)); (focus (intro W hW; (try dsimp only at hW); go_simp; (try with_reducible rfl); done)); (try simp only [Act.put, List.setIfInBounds_toArray, List.set_cons_zero, List.set_cons_succ])); (refine reg_run (i := 6) (v := ?_) rfl (by kernel_rfl) ?_ ?_ (fun _ _ _ h => h) rfl ?_ (by assumption) ?_; rotate_left; (focus (decide +kernel)); (focus (decide +kernel)); (focus (intro W hW; (try dsimp only at hW); go_simp; (try with_reducible rfl); done)); (try simp only [Act.put, List.setIfInBounds_toArray, List.set_cons_zero, List.set_cons_succ])); refine wpAnyH_done ?_ ?_ _; (focus (decide +kernel)); clear hHeld)
        go_wp2_with (first
          | (refine wpList_load_row (P := Try.prog) rfl 24 (.tmp 4) rfl w1.heap.size rfl 24 (idA n) (0, 0) _ HXB2.out hu rfl (by rw [idA_size]; exact info_sz) ?_)
          | (refine wpList_slice1 rfl (.tmp 22) rfl n rfl ?_)
          | (at_builtin; refine wpList_append_K idFlat rfl (.tmp 21) (.tmp 23) 29 24 rfl _ 32 Try.underlying29 info_id zId_size (HO2.out.alloc _) rfl rfl rfl HRW.out (by have := HL.out; simp; omega) (by have := HL.out; simp; omega) (by simp; omega) ?_; intro v5 w5 ho hg hat; obtain ⟨B5, k5, c5, rfl, H5L, h51, h52⟩ := ho.named; have HO5 := Hd.mk ho; have HG5 := Hd.mk hg; clear ho hg hat))
        have hrow : ∀ b, (Value.slice B k kc).ownBlock = some b → w.heap.size + 1 ≤ b := fun b hb => (HO.out.lt b hb).1
        have hchg5 : Chg (fun b => (Value.slice B k kc).ownBlock = some b) w1 w5 := ((((Chg.refl _ w1).alloc _).drew).alloc _).grown HG5.out (fun b hb e => e)
        have hr5 : RangeAt idV w.heap.size m1 l1 (ks3 ++ [n]) w5 := HR1.out.chg hchg5 (fun e => by have := hrow _ e; omega) (fun e => by have := hrow _ e; have := HR1.out.lt; have := (HO1.out.lt _ e); have h9 := HE3.out; have h8 := HR3.out.map; obtain ⟨es, c, hm⟩ := h8; exact HO.out.neMap hm _ e rfl)
        go_roundw
        case rel => exact ⟨ks3 ++ [n], os ++ [n], B5, k5, c5, rfl, H5L, ⟨HO5.out⟩, ⟨hr5⟩, ⟨by rw [HFIL.out]; simp⟩, ⟨HE1'.out.chg hchg5 (fun b hb => by have := hrow b hb; omega)⟩, Nat.le_trans hsz1 hchg5.size⟩
        case measure => rw [hr5.seen, hseen]; simp; omega
      · go_wp2_with (refine wpList_var_id rfl rfl rfl (.tmp 4) (.tmp 13) rfl n rfl rfl ?_)
        (refine wp_region_held_drew (S := fun W => W.rangeAt w1.heap.size 0 (idC n) ∧ W.cell? ⟨g, 1, none⟩ = some (.map (some m2)) ∧ (Instr.lookup 60 (.map (some m2)) (.agg (idA n)) false).run Try.prog W = .ok (.bool true) W) (by kernel_rfl) (HS.out _ (by repeat (first | assumption | exact Ext.rfl' _ | apply Ext.drew1 | apply Ext.drewN1 | apply Ext.alloc1 | (refine Ext.set1' ?_ (by simp) _) | refine Ext.tr ?_ (by assumption)))) (fun hHeld => ?_); (refine reg_run (i := 0) (v := ?_) rfl (by kernel_rfl) ?_ ?_ (fun _ _ _ h => h) rfl ?_ (by assumption) ?_; rotate_left; (focus (decide +kernel)); (focus (decide +kernel)); (focus (intro W hW; (try dsimp only at hW); go_simp; (try with_reducible rfl); done)); (try simp only [Act.put, List.setIfInBounds_toArray, List.set_cons_zero, List.set_cons_succ])); (refine reg_run (i := 1) (v := ?_) rfl (by kernel_rfl) ?_ ?_ (fun _ _ _ h => h) rfl ?_ (by assumption) ?_; rotate_left; (focus (decide +kernel)); (focus (decide +kernel)); (focus (intro W hW; (try dsimp only at hW); go_simp; (try with_reducible rfl); done)); (try simp only [Act.put, List.setIfInBounds_toArray, List.set_cons_zero, List.set_cons_succ])); (refine reg_run (i := 2) (v := ?_) rfl (by kernel_rfl) ?_ ?_ (fun _ _ _ h => h) rfl ?_ (by assumption) ?_; rotate_left; (focus (decide +kernel)); (focus (decide +kernel)); (focus (intro W hW; (try dsimp only at hW); go_simp; (try with_reducible rfl); done)); (try simp only [Act.put, List.setIfInBounds_toArray, List.set_cons_zero, List.set_cons_succ])); (refine reg_run (i := 3) (v := ?_) rfl (by kernel_rfl) ?_ ?_ (fun _ _ _ h => h) rfl ?_ (by assumption) ?_; rotate_left; (focus (decide +kernel)); (focus (decide +kernel)); (focus (intro W hW; (try dsimp only at hW); go_simp; (try with_reducible rfl); done)); (try simp only [Act.put, List.setIfInBounds_toArray, List.set_cons_zero, List.set_cons_succ])); (refine reg_load (i := 4) (cs := idC n) rfl rfl (by kernel_rfl) ?_ ?_ rfl hu rfl ?_ (by rw [idC_len]; exact info_sz) rfl (fun _ _ _ h => h) (by assumption) ?_; (focus (decide +kernel)); (focus (decide +kernel)); (focus (intro W hW; (try dsimp only at hW); go_split_ands; assumption)); (try simp only [Act.put, List.setIfInBounds_toArray, List.set_cons_zero, List.set_cons_succ])); (refine reg_run (i := 5) (v := ?_) rfl (by kernel_rfl) ?_ ?_ (fun _ _ _ h => h) rfl ?_ (by assumption) ?_; rotate_left; (focus (decide +kernel)); (focus (decide +kernel)); (focus (intro W hW; (try dsimp only at hW); go_simp; (try with_reducible rfl); done)); (try simp only [Act.put, List.setIfInBounds_toArray, List.set_cons_zero, List.set_cons_succ])); (refine reg_run (i := 6) (v := ?_) rfl (by kernel_rfl) ?_ ?_ (fun _ _ _ h => h) rfl ?_ (by assumption) ?_; rotate_left; (focus (decide +kernel)); (focus (decide +kernel)); (focus (intro W hW; (try dsimp only at hW); go_simp; (try with_reducible rfl); done)); (try simp only [Act.put, List.setIfInBounds_toArray, List.set_cons_zero, List.set_cons_succ])); refine wpAnyH_done ?_ ?_ _; (focus (decide +kernel)); clear hHeld)
        go_wp2
        have hr4 : RangeAt idV w.heap.size m1 l1 (ks3 ++ [n]) (w1.alloc (.cells (idA n) 24)).drew := HR1.out.ext HW2E.out
        go_roundw
        case rel => exact ⟨ks3 ++ [n], os, B, k, kc, rfl, HL, ⟨HO1.out.ext HW2E.out⟩, ⟨hr4⟩, ⟨by rw [HFIL.out]; simp⟩, ⟨HE1'.out.tr HW2E.out⟩, Nat.le_trans hsz1 HW2E.out.size⟩
        case measure => rw [hr4.seen, hseen]; simp; omega
end Go.Proofs.Ythfinaocdcinlaa
