/- Package dag: Reaches. -/
import Derived.Test.YthfinaocdcinlaaDag6
namespace Go.Proofs.Ythfinaocdcinlaa
open Go.RowKit
attribute [local go_sem] eql_sl_nil neq_sl_nil max_two
set_option linter.unusedVariables false
set_option linter.unusedSimpArgs false

theorem rowOne (w : World) (x : Id) (t : TypeId) : RowAt Ty.id (some ⟨w.heap.size, 0, none⟩) [x] (w.alloc (.cells (idA x) t)) := by
  intro j y hj
  rcases j with _ | j
  · obtain rfl : x = y := by simpa using hj
    refine ⟨_, idC x, rfl, rfl, fun i u hu => ?_⟩
    rw [Addr.add_lit]
    have := range_blk (heap_alloc_new w (.cells (idA x) t)) i u hu
    simpa using this
  · simp at hj

set_option maxHeartbeats 400000 in
set_option maxRecDepth 100000 in
/-- (*Dag).Reaches -/
theorem reaches_calls (g m1 m2 : Nat) (D : Nodes) (x y : Id) (w : World) (h : DagAt g m1 m2 D w) (hb : wgtAll D ≤ 900000000) :
    Calls Try.prog 24 #[.pointer (some ⟨g, 0, none⟩), .agg (idA x), .agg (idA y)] w fun e w' => ∃ b, e = .returned (.bool b) ∧ (b = true ↔ Rch D [x] y) ∧ Ext w w' := by
  have HS : Hd (∀ W, Ext ((w.alloc (.cells (idA x) 24)).alloc (.cells (idA y) 24)) W → W.rangeAt w.heap.size 0 (idC x) ∧ W.rangeAt (w.heap.size + 1) 0 (idC y)) := ⟨fun W he =>
    ⟨range_blk (he.blk (heap_alloc2_old w _ _) (fun h => h)), range_blk (he.blk (heap_alloc2_new w _ _) (fun h => h))⟩⟩
  have HRW : Hd (RowAt Ty.id (some ⟨w.heap.size + 2, 0, none⟩) [x] ((((w.alloc (.cells (idA x) 24)).alloc (.cells (idA y) 24)).drew).alloc (.cells (idA x) 24))) := ⟨by simpa [World.drew] using rowOne ((((w.alloc (.cells (idA x) 24)).alloc (.cells (idA y) 24)).drew)) x 24⟩
  have HD := Hd.mk h
  have hu := Try.underlying24
  clear h
  go_enter Try.func24, Try.ntmps24
  go_wp2_with fail
  (refine wp_region_held_drew (S := fun W => W.rangeAt w.heap.size 0 (idC x) ∧ W.rangeAt (w.heap.size + 1) 0 (idC y)) (by kernel_rfl) (HS.out _ (by repeat (first | assumption | exact Ext.rfl' _ | apply Ext.drew1 | apply Ext.drewN1 | apply Ext.alloc1 | (refine Ext.set1' ?_ (by simp) _) | refine Ext.tr ?_ (by assumption)))) (fun hHeld => ?_); (refine reg_run (i := 0) (v := ?_) rfl (by kernel_rfl) ?_ ?_ (fun _ _ _ h => h) rfl ?_ (by assumption) ?_; rotate_left; (focus (decide +kernel)); (focus (decide +kernel)); (focus (intro W hW; (try dsimp only at hW); go_simp; (try with_reducible rfl); done)); (try simp only [Act.put, List.setIfInBounds_toArray, List.set_cons_zero, List.set_cons_succ])); (refine reg_load (i := 1) (cs := idC x) rfl rfl (by kernel_rfl) ?_ ?_ rfl hu rfl ?_ (by rw [idC_len]; exact info_sz) rfl (fun _ _ _ h => h) (by assumption) ?_; (focus (decide +kernel)); (focus (decide +kernel)); (focus (intro W hW; (try dsimp only at hW); go_split_ands; assumption)); (try simp only [Act.put, List.setIfInBounds_toArray, List.set_cons_zero, List.set_cons_succ])); (refine reg_load (i := 4) (cs := idC y) rfl rfl (by kernel_rfl) ?_ ?_ rfl hu rfl ?_ (by rw [idC_len]; exact info_sz) rfl (fun _ _ _ h => h) (by assumption) ?_; (focus (decide +kernel)); (focus (decide +kernel)); (focus (intro W hW; (try dsimp only at hW); go_split_ands; assumption)); (try simp only [Act.put, List.setIfInBounds_toArray, List.set_cons_zero, List.set_cons_succ])); refine reg_eff (i := 2) rfl ?_ rfl (fun K hK => ?_); (focus (decide +kernel)); (refine op_slice1 (.tmp 8) rfl x rfl ?_); refine hK.out _ _ (HS.out _ (by repeat (first | assumption | exact Ext.rfl' _ | apply Ext.drew1 | apply Ext.drewN1 | apply Ext.alloc1 | (refine Ext.set1' ?_ (by simp) _) | refine Ext.tr ?_ (by assumption)))) (fun hHeldN => ?_); clear hK K hHeld; have hHeld := hHeldN; clear hHeldN; (try simp only [Act.put, List.setIfInBounds_toArray, List.set_cons_zero, List.set_cons_succ]); refine reg_eff (i := 3) rfl ?_ rfl (fun K hK => ?_); (focus (decide +kernel)); (go_simp; go_at_call 34; refine (reach_calls g m1 m2 D [x] _ 1 1 _ (HD.out.ext (by repeat (first | assumption | exact Ext.rfl' _ | apply Ext.drew1 | apply Ext.drewN1 | apply Ext.alloc1 | (refine Ext.set1' ?_ (by simp) _) | refine Ext.tr ?_ (by assumption)))) rfl HRW.out (by omega)).mono ?_; rintro e w1 ⟨mb, l, rfl, hml, hmb, he, hl⟩; have r1 : (Instr.lookup 60 (.map (some mb)) (.agg (idA y)) false).run Try.prog w1 = .ok ((look l y).getD (.bool false)) w1 := run_lookup idKeys Try.underlying60 (zeroBool _) hml y; have HL := Hd.mk hl; clear hml hl hmb); refine hK.out _ _ (HS.out _ (by repeat (first | assumption | exact Ext.rfl' _ | apply Ext.drew1 | apply Ext.drewN1 | apply Ext.alloc1 | (refine Ext.set1' ?_ (by simp) _) | refine Ext.tr ?_ (by assumption)))) (fun hHeldN => ?_); clear hK K hHeld; have hHeld := hHeldN; clear hHeldN; (try simp only [Act.put, List.setIfInBounds_toArray, List.set_cons_zero, List.set_cons_succ]); refine reg_eff (i := 5) rfl ?_ rfl (fun K hK => ?_); (focus (decide +kernel)); (have hext1 : Hd (Ext w w1) := ⟨(by repeat (first | assumption | exact Ext.rfl' _ | apply Ext.drew1 | apply Ext.drewN1 | apply Ext.alloc1 | (refine Ext.set1' ?_ (by simp) _) | refine Ext.tr ?_ (by assumption)))⟩; obtain ⟨bv, hbv, hbv2⟩ : ∃ b, (look l y).getD (.bool false) = .bool b ∧ Hd (b = true ↔ Rch D [x] y) := (by rcases HL.out y with ⟨e1, e2⟩ | ⟨e1, e2⟩; exact ⟨true, (by rw [e1]; rfl), ⟨(by simp [e2])⟩⟩; exact ⟨false, (by rw [e1]; rfl), ⟨(by simp [e2])⟩⟩); rw [hbv] at r1; go_simp); refine hK.out _ _ (HS.out _ (by repeat (first | assumption | exact Ext.rfl' _ | apply Ext.drew1 | apply Ext.drewN1 | apply Ext.alloc1 | (refine Ext.set1' ?_ (by simp) _) | refine Ext.tr ?_ (by assumption)))) (fun hHeldN => ?_); clear hK K hHeld; have hHeld := hHeldN; clear hHeldN; (try simp only [Act.put, List.setIfInBounds_toArray, List.set_cons_zero, List.set_cons_succ]); (refine reg_run (i := 6) (v := ?_) rfl (by kernel_rfl) ?_ ?_ (fun _ _ _ h => h) rfl ?_ (by assumption) ?_; rotate_left; (focus (decide +kernel)); (focus (decide +kernel)); (focus (intro W hW; (try dsimp only at hW); go_simp; (try with_reducible rfl); done)); (try simp only [Act.put, List.setIfInBounds_toArray, List.set_cons_zero, List.set_cons_succ])); refine wpAnyH_done ?_ ?_ _; (focus (decide +kernel)); clear hHeld)
  go_wp2
  go_ret
  exact ⟨bv, rfl, hbv2.out, hext1.out⟩
end Go.Proofs.Ythfinaocdcinlaa
