/- Small functions of the references and laws: Cmp, list, SameIDs. -/
import Derived.Test.YthfinaocdcinlaaCon4
namespace Go.Proofs.Ythfinaocdcinlaa
open Go.RowKit
attribute [local go_sem] eql_sl_nil neq_sl_nil max_two min_two
set_option linter.unusedVariables false
set_option linter.unusedSimpArgs false

theorem cb_take : ∀ (k : Nat) (a b : List UInt8), k ≤ a.length → k ≤ b.length → a.take k = b.take k → Lib.compareBytes a b = Lib.compareBytes (a.drop k) (b.drop k)
  | 0, a, b, _, _, _ => rfl
  | k + 1, [], b, h, _, _ => by simp at h
  | k + 1, x :: a, [], _, h, _ => by simp at h
  | k + 1, x :: a, y :: b, h1, h2, h => by
    simp only [List.take_succ_cons, List.cons.injEq] at h
    obtain ⟨rfl, h⟩ := h
    simp only [List.drop_succ_cons, Lib.compareBytes, UInt8.lt_irrefl, if_false]
    exact cb_take k a b (by simpa using h1) (by simpa using h2) h
theorem cmp_at {x y : Id} {k : Nat} {a b : UInt8} (ht : x.1.take k = y.1.take k) (ha : x.1[k]? = some a) (hb : y.1[k]? = some b) : cmpI x y = if a < b then -1 else if b < a then 1 else Lib.compareBytes (x.1.drop (k + 1)) (y.1.drop (k + 1)) := by
  have h1 := (List.getElem?_eq_some_iff.1 ha)
  have h2 := (List.getElem?_eq_some_iff.1 hb)
  obtain ⟨h1, e1⟩ := h1
  obtain ⟨h2, e2⟩ := h2
  unfold cmpI
  rw [cb_take k _ _ (by omega) (by omega) ht, List.drop_eq_getElem_cons h1, List.drop_eq_getElem_cons h2, e1, e2]
  simp only [Lib.compareBytes]

set_option maxHeartbeats 4000000 in
set_option maxRecDepth 100000 in
/-- pollardref01.Cmp -/
theorem rcmp_calls (x y : Id) (w : World) : Calls Try.prog 29 #[.agg (idA x), .agg (idA y)] w fun e w' => e = .returned (.int .i64 (cmpI x y)) ∧ Ext w w' := by
  have hu := Try.underlying23
  obtain ⟨r, hr⟩ : ∃ r, cmpI x y = r := ⟨_, rfl⟩
  rw [hr]
  have HR := Hd.mk hr
  clear hr
  go_enter Try.func29, Try.ntmps29
  go_wp2
  have HB1 : Hd (((w.alloc (.cells (idA x) 23)).alloc (.cells (idA y) 23)).heap[w.heap.size]? = some (.cells (idA x) 23 (0, 0))) := ⟨heap_alloc2_old w _ _⟩
  have HB2 : Hd (((w.alloc (.cells (idA x) 23)).alloc (.cells (idA y) 23)).heap[w.heap.size + 1]? = some (.cells (idA y) 23 (0, 0))) := ⟨heap_alloc2_new w _ _⟩
  have HE0 : Hd (Ext w ((w.alloc (.cells (idA x) 23)).alloc (.cells (idA y) 23))) := ⟨(by repeat (first | assumption | exact Ext.rfl' _ | apply Ext.drew1 | apply Ext.drewN1 | apply Ext.alloc1 | (refine Ext.set1' ?_ (by simp) _) | refine Ext.tr ?_ (by assumption)))⟩
  generalize (w.alloc (.cells (idA x) 23)).alloc (.cells (idA y) 23) = w2 at *
  go_loopw [5] (fun iv wr => ∃ k : Nat, k ≤ 32 ∧ iv = .int .i64 k ∧ Hd (x.1.take k = y.1.take k) ∧ Hd (Ext w2 wr)) (fun iv _ => 32 - (intOf iv).toNat)
  case atStart => exact ⟨0, by omega, rfl, ⟨rfl⟩, ⟨Chg.refl _ _⟩⟩
  case round =>
    obtain ⟨k, hk, rfl, HT, HE⟩ := hrel
    by_cases hlt : k < 32
    · obtain ⟨p, hp⟩ : ∃ p, x.1[k]? = some p := ⟨_, List.getElem?_eq_getElem (by rw [x.2]; exact hlt)⟩
      obtain ⟨q, hq⟩ : ∃ q, y.1[k]? = some q := ⟨_, List.getElem?_eq_getElem (by rw [y.2]; exact hlt)⟩
      obtain ⟨a, ha⟩ : ∃ a, p.toNat = a := ⟨_, rfl⟩
      obtain ⟨b, hb⟩ : ∃ a, q.toNat = a := ⟨_, rfl⟩
      have HS : Hd (∀ W, Ext w2 W → W.cell? ⟨w.heap.size, k, none⟩ = some (.int .u8 (a : Int)) ∧ W.cell? ⟨w.heap.size + 1, k, none⟩ = some (.int .u8 (b : Int))) := ⟨fun W he => by
        rw [blk_cell (he.blk HB1.out (fun h => h)), blk_cell (he.blk HB2.out (fun h => h))]
        simp [idA, idC, hp, hq, bv, ha, hb]⟩
      have hcm := cmp_at HT.out hp hq
      rw [HR.out] at hcm
      have HCM : Hd (r = if a < b then -1 else if b < a then 1 else Lib.compareBytes (x.1.drop (k + 1)) (y.1.drop (k + 1))) := ⟨by rw [hcm, ← ha, ← hb]; rfl⟩
      have HN : Hd (a = b → x.1.take (k + 1) = y.1.take (k + 1)) := ⟨fun e => by
        rw [← ha, ← hb] at e
        obtain rfl := UInt8.toNat_inj.1 e
        exact take_step' HT.out hp hq⟩
      have HE' := HE.out
      clear hp hq ha hb hcm
      have b1 : (0 : Int) ≤ (k : Int) := by omega
      have b2 : (k : Int) < 32 := by omega
      by_cases h1 : a < b
      · have hr : r = -1 := by rw [HCM.out, if_pos h1]
        have HRR := Hd.mk hr
        clear hr
        go_wp2_with fail
        (refine wp_region_held_drew (S := fun W => W.cell? ⟨w.heap.size, k, none⟩ = some (.int .u8 (a : Int)) ∧ W.cell? ⟨w.heap.size + 1, k, none⟩ = some (.int .u8 (b : Int))) (by kernel_rfl) (HS.out _ (by repeat (first | assumption | exact Ext.rfl' _ | apply Ext.drew1 | apply Ext.drewN1 | apply Ext.alloc1 | (refine Ext.set1' ?_ (by simp) _) | refine Ext.tr ?_ (by assumption)))) (fun hHeld => ?_); (refine reg_run (i := 0) (v := ?_) rfl (by kernel_rfl) ?_ ?_ (fun _ _ _ h => h) rfl ?_ (by assumption) ?_; rotate_left; (focus (decide +kernel)); (focus (decide +kernel)); (focus (intro W hW; (try dsimp only at hW); go_simp; (try with_reducible rfl); done)); (try simp only [Act.put, List.setIfInBounds_toArray, List.set_cons_zero, List.set_cons_succ])); (refine reg_run (i := 1) (v := ?_) rfl (by kernel_rfl) ?_ ?_ (fun _ _ _ h => h) rfl ?_ (by assumption) ?_; rotate_left; (focus (decide +kernel)); (focus (decide +kernel)); (focus (intro W hW; (try dsimp only at hW); go_simp; (try with_reducible rfl); done)); (try simp only [Act.put, List.setIfInBounds_toArray, List.set_cons_zero, List.set_cons_succ])); (refine reg_run (i := 2) (v := ?_) rfl (by kernel_rfl) ?_ ?_ (fun _ _ _ h => h) rfl ?_ (by assumption) ?_; rotate_left; (focus (decide +kernel)); (focus (decide +kernel)); (focus (intro W hW; (try dsimp only at hW); go_simp; (try with_reducible rfl); done)); (try simp only [Act.put, List.setIfInBounds_toArray, List.set_cons_zero, List.set_cons_succ])); (refine reg_run (i := 3) (v := ?_) rfl (by kernel_rfl) ?_ ?_ (fun _ _ _ h => h) rfl ?_ (by assumption) ?_; rotate_left; (focus (decide +kernel)); (focus (decide +kernel)); (focus (intro W hW; (try dsimp only at hW); go_simp; (try with_reducible rfl); done)); (try simp only [Act.put, List.setIfInBounds_toArray, List.set_cons_zero, List.set_cons_succ])); (refine reg_run (i := 4) (v := ?_) rfl (by kernel_rfl) ?_ ?_ (fun _ _ _ h => h) rfl ?_ (by assumption) ?_; rotate_left; (focus (decide +kernel)); (focus (decide +kernel)); (focus (intro W hW; (try dsimp only at hW); go_simp; (try with_reducible rfl); done)); (try simp only [Act.put, List.setIfInBounds_toArray, List.set_cons_zero, List.set_cons_succ])); (refine reg_run (i := 5) (v := ?_) rfl (by kernel_rfl) ?_ ?_ (fun _ _ _ h => h) rfl ?_ (by assumption) ?_; rotate_left; (focus (decide +kernel)); (focus (decide +kernel)); (focus (intro W hW; (try dsimp only at hW); go_simp; (try with_reducible rfl); done)); (try simp only [Act.put, List.setIfInBounds_toArray, List.set_cons_zero, List.set_cons_succ])); (refine reg_run (i := 6) (v := ?_) rfl (by kernel_rfl) ?_ ?_ (fun _ _ _ h => h) rfl ?_ (by assumption) ?_; rotate_left; (focus (decide +kernel)); (focus (decide +kernel)); (focus (intro W hW; (try dsimp only at hW); go_simp; (try with_reducible rfl); done)); (try simp only [Act.put, List.setIfInBounds_toArray, List.set_cons_zero, List.set_cons_succ])); refine wpAnyH_done ?_ ?_ _; (focus (decide +kernel)); clear hHeld)
        go_wp2
        go_ret
        exact ⟨by rw [HRR.out]; rfl, HE0.out.tr (by repeat (first | assumption | exact Ext.rfl' _ | apply Ext.drew1 | apply Ext.drewN1 | apply Ext.alloc1 | (refine Ext.set1' ?_ (by simp) _) | refine Ext.tr ?_ (by assumption)))⟩
      · have h1' : b ≤ a := by omega
        by_cases h2 : b < a
        · have hr : r = 1 := by rw [HCM.out, if_neg h1, if_pos h2]
          have HRR := Hd.mk hr
          clear hr
          go_wp2_with fail
          (refine wp_region_held_drew (S := fun W => W.cell? ⟨w.heap.size, k, none⟩ = some (.int .u8 (a : Int)) ∧ W.cell? ⟨w.heap.size + 1, k, none⟩ = some (.int .u8 (b : Int))) (by kernel_rfl) (HS.out _ (by repeat (first | assumption | exact Ext.rfl' _ | apply Ext.drew1 | apply Ext.drewN1 | apply Ext.alloc1 | (refine Ext.set1' ?_ (by simp) _) | refine Ext.tr ?_ (by assumption)))) (fun hHeld => ?_); (refine reg_run (i := 0) (v := ?_) rfl (by kernel_rfl) ?_ ?_ (fun _ _ _ h => h) rfl ?_ (by assumption) ?_; rotate_left; (focus (decide +kernel)); (focus (decide +kernel)); (focus (intro W hW; (try dsimp only at hW); go_simp; (try with_reducible rfl); done)); (try simp only [Act.put, List.setIfInBounds_toArray, List.set_cons_zero, List.set_cons_succ])); (refine reg_run (i := 1) (v := ?_) rfl (by kernel_rfl) ?_ ?_ (fun _ _ _ h => h) rfl ?_ (by assumption) ?_; rotate_left; (focus (decide +kernel)); (focus (decide +kernel)); (focus (intro W hW; (try dsimp only at hW); go_simp; (try with_reducible rfl); done)); (try simp only [Act.put, List.setIfInBounds_toArray, List.set_cons_zero, List.set_cons_succ])); (refine reg_run (i := 2) (v := ?_) rfl (by kernel_rfl) ?_ ?_ (fun _ _ _ h => h) rfl ?_ (by assumption) ?_; rotate_left; (focus (decide +kernel)); (focus (decide +kernel)); (focus (intro W hW; (try dsimp only at hW); go_simp; (try with_reducible rfl); done)); (try simp only [Act.put, List.setIfInBounds_toArray, List.set_cons_zero, List.set_cons_succ])); (refine reg_run (i := 3) (v := ?_) rfl (by kernel_rfl) ?_ ?_ (fun _ _ _ h => h) rfl ?_ (by assumption) ?_; rotate_left; (focus (decide +kernel)); (focus (decide +kernel)); (focus (intro W hW; (try dsimp only at hW); go_simp; (try with_reducible rfl); done)); (try simp only [Act.put, List.setIfInBounds_toArray, List.set_cons_zero, List.set_cons_succ])); (refine reg_run (i := 4) (v := ?_) rfl (by kernel_rfl) ?_ ?_ (fun _ _ _ h => h) rfl ?_ (by assumption) ?_; rotate_left; (focus (decide +kernel)); (focus (decide +kernel)); (focus (intro W hW; (try dsimp only at hW); go_simp; (try with_reducible rfl); done)); (try simp only [Act.put, List.setIfInBounds_toArray, List.set_cons_zero, List.set_cons_succ])); (refine reg_run (i := 5) (v := ?_) rfl (by kernel_rfl) ?_ ?_ (fun _ _ _ h => h) rfl ?_ (by assumption) ?_; rotate_left; (focus (decide +kernel)); (focus (decide +kernel)); (focus (intro W hW; (try dsimp only at hW); go_simp; (try with_reducible rfl); done)); (try simp only [Act.put, List.setIfInBounds_toArray, List.set_cons_zero, List.set_cons_succ])); (refine reg_run (i := 6) (v := ?_) rfl (by kernel_rfl) ?_ ?_ (fun _ _ _ h => h) rfl ?_ (by assumption) ?_; rotate_left; (focus (decide +kernel)); (focus (decide +kernel)); (focus (intro W hW; (try dsimp only at hW); go_simp; (try with_reducible rfl); done)); (try simp only [Act.put, List.setIfInBounds_toArray, List.set_cons_zero, List.set_cons_succ])); refine wpAnyH_done ?_ ?_ _; (focus (decide +kernel)); clear hHeld)
          go_wp2_with fail
          (refine wp_region_held_drew (S := fun W => W.cell? ⟨w.heap.size, k, none⟩ = some (.int .u8 (a : Int)) ∧ W.cell? ⟨w.heap.size + 1, k, none⟩ = some (.int .u8 (b : Int))) (by kernel_rfl) (HS.out _ (by repeat (first | assumption | exact Ext.rfl' _ | apply Ext.drew1 | apply Ext.drewN1 | apply Ext.alloc1 | (refine Ext.set1' ?_ (by simp) _) | refine Ext.tr ?_ (by assumption)))) (fun hHeld => ?_); (refine reg_run (i := 0) (v := ?_) rfl (by kernel_rfl) ?_ ?_ (fun _ _ _ h => h) rfl ?_ (by assumption) ?_; rotate_left; (focus (decide +kernel)); (focus (decide +kernel)); (focus (intro W hW; (try dsimp only at hW); go_simp; (try with_reducible rfl); done)); (try simp only [Act.put, List.setIfInBounds_toArray, List.set_cons_zero, List.set_cons_succ])); (refine reg_run (i := 1) (v := ?_) rfl (by kernel_rfl) ?_ ?_ (fun _ _ _ h => h) rfl ?_ (by assumption) ?_; rotate_left; (focus (decide +kernel)); (focus (decide +kernel)); (focus (intro W hW; (try dsimp only at hW); go_simp; (try with_reducible rfl); done)); (try simp only [Act.put, List.setIfInBounds_toArray, List.set_cons_zero, List.set_cons_succ])); (refine reg_run (i := 2) (v := ?_) rfl (by kernel_rfl) ?_ ?_ (fun _ _ _ h => h) rfl ?_ (by assumption) ?_; rotate_left; (focus (decide +kernel)); (focus (decide +kernel)); (focus (intro W hW; (try dsimp only at hW); go_simp; (try with_reducible rfl); done)); (try simp only [Act.put, List.setIfInBounds_toArray, List.set_cons_zero, List.set_cons_succ])); (refine reg_run (i := 3) (v := ?_) rfl (by kernel_rfl) ?_ ?_ (fun _ _ _ h => h) rfl ?_ (by assumption) ?_; rotate_left; (focus (decide +kernel)); (focus (decide +kernel)); (focus (intro W hW; (try dsimp only at hW); go_simp; (try with_reducible rfl); done)); (try simp only [Act.put, List.setIfInBounds_toArray, List.set_cons_zero, List.set_cons_succ])); (refine reg_run (i := 4) (v := ?_) rfl (by kernel_rfl) ?_ ?_ (fun _ _ _ h => h) rfl ?_ (by assumption) ?_; rotate_left; (focus (decide +kernel)); (focus (decide +kernel)); (focus (intro W hW; (try dsimp only at hW); go_simp; (try with_reducible rfl); done)); (try simp only [Act.put, List.setIfInBounds_toArray, List.set_cons_zero, List.set_cons_succ])); (refine reg_run (i := 5) (v := ?_) rfl (by kernel_rfl) ?_ ?_ (fun _ _ _ h => h) rfl ?_ (by assumption) ?_; rotate_left; (focus (decide +kernel)); (focus (decide +kernel)); (focus (intro W hW; (try dsimp only at hW); go_simp; (try with_reducible rfl); done)); (try simp only [Act.put, List.setIfInBounds_toArray, List.set_cons_zero, List.set_cons_succ])); (refine reg_run (i := 6) (v := ?_) rfl (by kernel_rfl) ?_ ?_ (fun _ _ _ h => h) rfl ?_ (by assumption) ?_; rotate_left; (focus (decide +kernel)); (focus (decide +kernel)); (focus (intro W hW; (try dsimp only at hW); go_simp; (try with_reducible rfl); done)); (try simp only [Act.put, List.setIfInBounds_toArray, List.set_cons_zero, List.set_cons_succ])); refine wpAnyH_done ?_ ?_ _; (focus (decide +kernel)); clear hHeld)
          go_wp2
          go_ret
          exact ⟨by rw [HRR.out]; rfl, HE0.out.tr (by repeat (first | assumption | exact Ext.rfl' _ | apply Ext.drew1 | apply Ext.drewN1 | apply Ext.alloc1 | (refine Ext.set1' ?_ (by simp) _) | refine Ext.tr ?_ (by assumption)))⟩
        · have h2' : a ≤ b := by omega
          go_wp2_with fail
          (refine wp_region_held_drew (S := fun W => W.cell? ⟨w.heap.size, k, none⟩ = some (.int .u8 (a : Int)) ∧ W.cell? ⟨w.heap.size + 1, k, none⟩ = some (.int .u8 (b : Int))) (by kernel_rfl) (HS.out _ (by repeat (first | assumption | exact Ext.rfl' _ | apply Ext.drew1 | apply Ext.drewN1 | apply Ext.alloc1 | (refine Ext.set1' ?_ (by simp) _) | refine Ext.tr ?_ (by assumption)))) (fun hHeld => ?_); (refine reg_run (i := 0) (v := ?_) rfl (by kernel_rfl) ?_ ?_ (fun _ _ _ h => h) rfl ?_ (by assumption) ?_; rotate_left; (focus (decide +kernel)); (focus (decide +kernel)); (focus (intro W hW; (try dsimp only at hW); go_simp; (try with_reducible rfl); done)); (try simp only [Act.put, List.setIfInBounds_toArray, List.set_cons_zero, List.set_cons_succ])); (refine reg_run (i := 1) (v := ?_) rfl (by kernel_rfl) ?_ ?_ (fun _ _ _ h => h) rfl ?_ (by assumption) ?_; rotate_left; (focus (decide +kernel)); (focus (decide +kernel)); (focus (intro W hW; (try dsimp only at hW); go_simp; (try with_reducible rfl); done)); (try simp only [Act.put, List.setIfInBounds_toArray, List.set_cons_zero, List.set_cons_succ])); (refine reg_run (i := 2) (v := ?_) rfl (by kernel_rfl) ?_ ?_ (fun _ _ _ h => h) rfl ?_ (by assumption) ?_; rotate_left; (focus (decide +kernel)); (focus (decide +kernel)); (focus (intro W hW; (try dsimp only at hW); go_simp; (try with_reducible rfl); done)); (try simp only [Act.put, List.setIfInBounds_toArray, List.set_cons_zero, List.set_cons_succ])); (refine reg_run (i := 3) (v := ?_) rfl (by kernel_rfl) ?_ ?_ (fun _ _ _ h => h) rfl ?_ (by assumption) ?_; rotate_left; (focus (decide +kernel)); (focus (decide +kernel)); (focus (intro W hW; (try dsimp only at hW); go_simp; (try with_reducible rfl); done)); (try simp only [Act.put, List.setIfInBounds_toArray, List.set_cons_zero, List.set_cons_succ])); (refine reg_run (i := 4) (v := ?_) rfl (by kernel_rfl) ?_ ?_ (fun _ _ _ h => h) rfl ?_ (by assumption) ?_; rotate_left; (focus (decide +kernel)); (focus (decide +kernel)); (focus (intro W hW; (try dsimp only at hW); go_simp; (try with_reducible rfl); done)); (try simp only [Act.put, List.setIfInBounds_toArray, List.set_cons_zero, List.set_cons_succ])); (refine reg_run (i := 5) (v := ?_) rfl (by kernel_rfl) ?_ ?_ (fun _ _ _ h => h) rfl ?_ (by assumption) ?_; rotate_left; (focus (decide +kernel)); (focus (decide +kernel)); (focus (intro W hW; (try dsimp only at hW); go_simp; (try with_reducible rfl); done)); (try simp only [Act.put, List.setIfInBounds_toArray, List.set_cons_zero, List.set_cons_succ])); (refine reg_run (i := 6) (v := ?_) rfl (by kernel_rfl) ?_ ?_ (fun _ _ _ h => h) rfl ?_ (by assumption) ?_; rotate_left; (focus (decide +kernel)); (focus (decide +kernel)); (focus (intro W hW; (try dsimp only at hW); go_simp; (try with_reducible rfl); done)); (try simp only [Act.put, List.setIfInBounds_toArray, List.set_cons_zero, List.set_cons_succ])); refine wpAnyH_done ?_ ?_ _; (focus (decide +kernel)); clear hHeld)
          go_wp2_with fail
          (refine wp_region_held_drew (S := fun W => W.cell? ⟨w.heap.size, k, none⟩ = some (.int .u8 (a : Int)) ∧ W.cell? ⟨w.heap.size + 1, k, none⟩ = some (.int .u8 (b : Int))) (by kernel_rfl) (HS.out _ (by repeat (first | assumption | exact Ext.rfl' _ | apply Ext.drew1 | apply Ext.drewN1 | apply Ext.alloc1 | (refine Ext.set1' ?_ (by simp) _) | refine Ext.tr ?_ (by assumption)))) (fun hHeld => ?_); (refine reg_run (i := 0) (v := ?_) rfl (by kernel_rfl) ?_ ?_ (fun _ _ _ h => h) rfl ?_ (by assumption) ?_; rotate_left; (focus (decide +kernel)); (focus (decide +kernel)); (focus (intro W hW; (try dsimp only at hW); go_simp; (try with_reducible rfl); done)); (try simp only [Act.put, List.setIfInBounds_toArray, List.set_cons_zero, List.set_cons_succ])); (refine reg_run (i := 1) (v := ?_) rfl (by kernel_rfl) ?_ ?_ (fun _ _ _ h => h) rfl ?_ (by assumption) ?_; rotate_left; (focus (decide +kernel)); (focus (decide +kernel)); (focus (intro W hW; (try dsimp only at hW); go_simp; (try with_reducible rfl); done)); (try simp only [Act.put, List.setIfInBounds_toArray, List.set_cons_zero, List.set_cons_succ])); (refine reg_run (i := 2) (v := ?_) rfl (by kernel_rfl) ?_ ?_ (fun _ _ _ h => h) rfl ?_ (by assumption) ?_; rotate_left; (focus (decide +kernel)); (focus (decide +kernel)); (focus (intro W hW; (try dsimp only at hW); go_simp; (try with_reducible rfl); done)); (try simp only [Act.put, List.setIfInBounds_toArray, List.set_cons_zero, List.set_cons_succ])); (refine reg_run (i := 3) (v := ?_) rfl (by kernel_rfl) ?_ ?_ (fun _ _ _ h => h) rfl ?_ (by assumption) ?_; rotate_left; (focus (decide +kernel)); (focus (decide +kernel)); (focus (intro W hW; (try dsimp only at hW); go_simp; (try with_reducible rfl); done)); (try simp only [Act.put, List.setIfInBounds_toArray, List.set_cons_zero, List.set_cons_succ])); (refine reg_run (i := 4) (v := ?_) rfl (by kernel_rfl) ?_ ?_ (fun _ _ _ h => h) rfl ?_ (by assumption) ?_; rotate_left; (focus (decide +kernel)); (focus (decide +kernel)); (focus (intro W hW; (try dsimp only at hW); go_simp; (try with_reducible rfl); done)); (try simp only [Act.put, List.setIfInBounds_toArray, List.set_cons_zero, List.set_cons_succ])); (refine reg_run (i := 5) (v := ?_) rfl (by kernel_rfl) ?_ ?_ (fun _ _ _ h => h) rfl ?_ (by assumption) ?_; rotate_left; (focus (decide +kernel)); (focus (decide +kernel)); (focus (intro W hW; (try dsimp only at hW); go_simp; (try with_reducible rfl); done)); (try simp only [Act.put, List.setIfInBounds_toArray, List.set_cons_zero, List.set_cons_succ])); (refine reg_run (i := 6) (v := ?_) rfl (by kernel_rfl) ?_ ?_ (fun _ _ _ h => h) rfl ?_ (by assumption) ?_; rotate_left; (focus (decide +kernel)); (focus (decide +kernel)); (focus (intro W hW; (try dsimp only at hW); go_simp; (try with_reducible rfl); done)); (try simp only [Act.put, List.setIfInBounds_toArray, List.set_cons_zero, List.set_cons_succ])); refine wpAnyH_done ?_ ?_ _; (focus (decide +kernel)); clear hHeld)
          go_wp2
          go_roundw
          case rel => exact ⟨k + 1, by omega, by go_num, ⟨HN.out (by omega)⟩, ⟨(by repeat (first | assumption | exact Ext.rfl' _ | apply Ext.drew1 | apply Ext.drewN1 | apply Ext.alloc1 | (refine Ext.set1' ?_ (by simp) _) | refine Ext.tr ?_ (by assumption)))⟩⟩
          case measure => simp [intOf]; omega
    · obtain rfl : k = 32 := by omega
      have hr : r = 0 := by
        rw [← HR.out]
        have h1 := HT.out
        rw [List.take_of_length_le (by rw [x.2]; exact Nat.le_refl _), List.take_of_length_le (by rw [y.2]; exact Nat.le_refl _)] at h1
        have : x = y := Subtype.ext h1
        rw [this, cmpI_refl]
      have HRR := Hd.mk hr
      clear hr
      go_wp2
      go_ret
      exact ⟨by rw [HRR.out]; rfl, HE0.out.tr HE.out⟩

theorem info_sz' : (Try.prog.info? 23).map (·.size) = some 32 := by kernel_rfl
theorem info_j : (Try.prog.info? 23).map (fun i => (i.zero, i.size, i.bytes)) = some (some (.agg (idA zId)), Ty.id.sz, 32) := by kernel_rfl
abbrev OwnJ (base : Nat) (v : Value) (l : List Id) (w : World) : Prop := OwnK Ty.id idC 23 base v l w
theorem run_slice1J (w : World) (x : Id) : (Instr.buildSlice 36 1 #[(0, .agg (idA x))]).run Try.prog w = .ok (.slice (some ⟨w.heap.size, 0, none⟩) 1 1) (w.alloc (.cells ([x].flatMap idC).toArray 23)) := by
  obtain ⟨ie, hie, hz⟩ := Option.map_eq_some_iff.1 info_j
  simp only [Prod.mk.injEq] at hz
  obtain ⟨hz0, hz1, _⟩ := hz
  exact run_sliceN idC_len (by omega) w _ _ ie _ Try.underlying36 hie hz0 hz1 [x] (by simp) (by simp) _ rfl
theorem rowLitJ (w : World) (l : List Id) (hl : l.length ≤ 1000) : RowAt Ty.id (some ⟨w.heap.size, 0, none⟩) l (w.alloc (.cells (l.flatMap idC).toArray 23)) :=
  OwnK.rowAt idFlat (OwnK.lit idFlat w w.heap.size 23 l (Nat.le_refl _) (by omega))
theorem wpList_slice1J {ops : Array Oper} {rest : List Oper} {o : Oper} {a : Act} {Q : Exit → Act → World → Prop} {w : World} (hw : Region.wanted o (yielded ops a.tmps) = true) (y : Operand) (ho : o.op = .buildSlice 36 1 #[(0, y)]) (x : Id) (hy : a.eval y = .agg (idA x))
    (h : ∀ (g : Nat) (w' : World), RowAt Ty.id (some ⟨g, 0, none⟩) [x] w' → Ext w w' → w.heap.size ≤ g → g < w'.heap.size → wpList Try.prog ops Q rest (a.put o.dst (.slice (some ⟨g, 0, none⟩) 1 1)) w') : wpList Try.prog ops Q (o :: rest) a w :=
  wpList_do hw fun _ hK => by
    unfold Oper.wp execOp
    simp only [ho, List.map_toArray, List.map_cons, List.map_nil, hy, Sem.run_bind, run_slice1J, Result.andThen_ok]
    exact hK _ _ (h _ _ (rowLitJ w [x] (by simp)) (Ext.alloc' w _) (Nat.le_refl _) (by simp))
theorem op_alloc_id {o : Oper} {a : Act} {Q : Exit → Act → World → Prop} {K : Act → World → Prop} {w : World} (ho : o.op = .alloc 24)
    (h : ∀ g w', w'.heap[g]? = some (.cells (idA zId) 24 (0, 0)) → Ext w w' → w.heap.size ≤ g → K (a.put o.dst (.pointer (some ⟨g, 0, none⟩))) w') : Oper.wp Try.prog o a w K Q := by
  unfold Oper.wp execOp
  simp only [ho, run_alloc_id, Sem.run_bind, Sem.run_pure, Result.andThen_ok]
  exact h _ _ (heap_alloc_new w _) (Ext.alloc' w _) (Nat.le_refl _)
/-- A new variable, another assigned, then the store. -/
theorem wpList_varA {ops : Array Oper} {rest : List Oper} {o1 o2 o3 : Oper} {a : Act} {Q : Exit → Act → World → Prop} {w : World} (hg1 : o1.guard = none) (hg2 : o2.guard = none) (hg3 : o3.guard = none) (h1 : o1.op = .alloc 24) (y2 : Operand) (h2 : o2.op = .assign y2) (v2 : Value) (hv : ∀ g : Nat, (a.put o1.dst (.pointer (some ⟨g, 0, none⟩))).eval y2 = v2) (q y : Operand) (h3 : o3.op = .store 24 q y) (x : Id)
    (hp : ∀ g : Nat, (((a.put o1.dst (.pointer (some ⟨g, 0, none⟩))).put o2.dst v2)).eval q = .pointer (some ⟨g, 0, none⟩))
    (hy : ∀ g : Nat, (((a.put o1.dst (.pointer (some ⟨g, 0, none⟩))).put o2.dst v2)).eval y = .agg (idA x))
    (h : ∀ (g : Nat) (w' : World), IdAt (fun _ => False) w' g 0 x → Ext w w' → wpList Try.prog ops Q rest ((((a.put o1.dst (.pointer (some ⟨g, 0, none⟩))).put o2.dst v2)).put o3.dst undef) w') : wpList Try.prog ops Q (o1 :: o2 :: o3 :: rest) a w := by
  refine wpList_plain hg1 fun K hK => op_alloc_id h1 fun g u hb he hs => hK _ _ (wpList_plain hg2 fun K' hK' => ?_)
  unfold Oper.wp execOp
  simp only [h2, hv, Sem.run_pure, Result.andThen_ok]
  refine hK' _ _ (wpList_plain hg3 fun K2 hK2 => op_store_id q y h3 g (hp g) x (hy g) _ _ hb (idA_size _) fun w' hb' hc' => hK2 _ _ (h g w' (IdAt.of hb' (fun h => h)) (he.chg hc' (fun b hb => by omega))))
theorem wpList_varB {ops : Array Oper} {rest : List Oper} {o1 o3 : Oper} {a : Act} {Q : Exit → Act → World → Prop} {w : World} (hg1 : o1.guard = none) (hg3 : o3.guard = none) (h1 : o1.op = .alloc 24) (q y : Operand) (h3 : o3.op = .store 24 q y) (x : Id)
    (hp : ∀ g : Nat, (a.put o1.dst (.pointer (some ⟨g, 0, none⟩))).eval q = .pointer (some ⟨g, 0, none⟩))
    (hy : ∀ g : Nat, (a.put o1.dst (.pointer (some ⟨g, 0, none⟩))).eval y = .agg (idA x))
    (h : ∀ (g : Nat) (w' : World), IdAt (fun _ => False) w' g 0 x → Ext w w' → wpList Try.prog ops Q rest ((a.put o1.dst (.pointer (some ⟨g, 0, none⟩))).put o3.dst undef) w') : wpList Try.prog ops Q (o1 :: o3 :: rest) a w :=
  wpList_plain hg1 fun K hK => op_alloc_id h1 fun g u hb he hs => hK _ _ (wpList_plain hg3 fun K2 hK2 => op_store_id q y h3 g (hp g) x (hy g) _ _ hb (idA_size _) fun w' hb' hc' => hK2 _ _ (h g w' (IdAt.of hb' (fun h => h)) (he.chg hc' (fun b hb => by omega))))
/-- Reaches, its answer known. -/
theorem reaches_yes {g m1 m2 : Nat} {D : Nodes} {x y : Id} {w : World} (h : DagAt g m1 m2 D w) (hb : wgtAll D ≤ 900000000) (hr : Rch D [x] y) :
    Calls Try.prog 24 #[.pointer (some ⟨g, 0, none⟩), .agg (idA x), .agg (idA y)] w fun e w' => e = .returned (.bool true) ∧ Ext w w' := by
  refine (reaches_calls g m1 m2 D x y w h hb).mono ?_
  rintro e w' ⟨b, rfl, hbr, he⟩
  obtain rfl := hbr.2 hr
  exact ⟨rfl, he⟩
theorem reaches_no {g m1 m2 : Nat} {D : Nodes} {x y : Id} {w : World} (h : DagAt g m1 m2 D w) (hb : wgtAll D ≤ 900000000) (hr : ¬ Rch D [x] y) :
    Calls Try.prog 24 #[.pointer (some ⟨g, 0, none⟩), .agg (idA x), .agg (idA y)] w fun e w' => e = .returned (.bool false) ∧ Ext w w' := by
  refine (reaches_calls g m1 m2 D x y w h hb).mono ?_
  rintro e w' ⟨b, rfl, hbr, he⟩
  cases b
  · exact ⟨rfl, he⟩
  · exact absurd (hbr.1 rfl) hr
/-- An ID in a row, for ever. -/
theorem IdAt.ofExt {w : World} {b off : Nat} {x : Id} (h : ∀ W, Ext w W → W.rangeAt b off (idC x)) : IdAt (fun _ => False) w b off x := ⟨h⟩
theorem IdAt.var (w : World) (x : Id) (t : TypeId) : IdAt (fun _ => False) (w.alloc (.cells (idA x) t)) w.heap.size 0 x := IdAt.of (heap_alloc_new w _) (fun h => h)

set_option maxHeartbeats 4000000 in
set_option maxRecDepth 100000 in
/-- list -/
theorem list_calls (A : Option Addr) (n c : Nat) (l : List Id) (w : World) (hn : l.length = n) (hb : n ≤ 1000000000) (h : RowAt Ty.id A l w) :
    Calls Try.prog 12 #[.slice A n c] w fun e w' => ∃ v, e = .returned v ∧ OwnJ w.heap.size v l w' ∧ Ext w w' := by
  have HN := Hd.mk hn
  have HR := Hd.mk h
  clear hn h
  have hu := Try.underlying24
  go_enter Try.func12, Try.ntmps12
  go_wp2
  go_loopw [3, 9] (fun v3 iv wr => ∃ (i c3 : Nat) (B : Option Addr), iv = .int .i64 i ∧ i ≤ n ∧ v3 = .slice B i c3 ∧ Hd (OwnJ w.heap.size (.slice B i c3) (l.take i) wr) ∧ Hd (Ext w wr)) (fun _ iv _ => n - (intOf iv).toNat)
  case atStart => exact ⟨0, 0, _, rfl, by omega, rfl, ⟨OwnK.lit idFlat w w.heap.size 23 [] (Nat.le_refl _) (by simp)⟩, ⟨Ext.alloc' _ _⟩⟩
  case round =>
    obtain ⟨i, c3, B, rfl, hi, rfl, HO, HE⟩ := hrel
    by_cases hlt : i < n
    · obtain ⟨x, hx⟩ : ∃ x, l[i]? = some x := ⟨_, List.getElem?_eq_getElem (by have := HN.out; omega)⟩
      obtain ⟨go, oo, rfl, hrng⟩ := open_ids HR.out (by have := HN.out; omega)
      have HI := IdAt.ofExt (fun W he => hrng W (HE.out.tr he) i x hx)
      have HV := IdAt.var wr x 24
      have HX := Hd.mk hx
      clear hrng hx
      have b1 : (0 : Int) ≤ (i : Int) := by omega
      have b2 : (i : Int) < (n : Int) := by omega
      have hlen : (l.take i).length = i := by have := HN.out; simp; omega
      have HLEN := Hd.mk hlen
      clear hlen
      go_wp2_with (first
        | ((with_reducible refine wpList_atLoad 24 ?_); refine wpList_loadI _ rfl (by rfl) (by rfl) (by assumption) (by repeat (first | assumption | exact Chg.refl _ _ | apply Chg.drew | apply Chg.drewN | apply Chg.alloc | (refine Chg.trans ?_ (by assumption) (fun _ _ h => h)) | (refine Chg.ext ?_ (by assumption)))) ?_; go_frame)
        | ((with_reducible refine wpList_at 5 ?_); refine wpList_var_id rfl rfl rfl (.tmp 5) (.tmp 12) rfl x rfl rfl ?_; go_frame)
        | ((with_reducible refine wpList_at 15 ?_); refine wpList_slice1J (by rfl) _ rfl x rfl ?_; intro g9 w9 hr hx9 hg91 hg92; have HR9 := Hd.mk hr; clear hr; go_frame)
        | (at_builtin; refine wpList_append_K idFlat rfl (.tmp 13) (.tmp 15) 36 23 rfl _ 32 Try.underlying36 info_j zId_size (HO.out.ext (by repeat (first | assumption | exact Ext.rfl' _ | apply Ext.drew1 | apply Ext.drewN1 | apply Ext.alloc1 | (refine Ext.set1' ?_ (by simp) _) | refine Ext.tr ?_ (by assumption)))) rfl rfl rfl HR9.out (by rw [HLEN.out]; simp; omega) (by rw [HLEN.out]; simp; omega) (Nat.le_trans HE.out.size (show Ext wr w9 from (by repeat (first | assumption | exact Ext.rfl' _ | apply Ext.drew1 | apply Ext.drewN1 | apply Ext.alloc1 | (refine Ext.set1' ?_ (by simp) _) | refine Ext.tr ?_ (by assumption)))).size) ?_; intro v7 w7 ho hg hat; obtain ⟨B7, k7, c7, rfl, H7L, h71, h72⟩ := ho.named; have HO7 := Hd.mk ho; have HG7 := Hd.mk hg; clear ho hg hat))
      have h9 : Ext wr w9 := (by repeat (first | assumption | exact Ext.rfl' _ | apply Ext.drew1 | apply Ext.drewN1 | apply Ext.alloc1 | (refine Ext.set1' ?_ (by simp) _) | refine Ext.tr ?_ (by assumption)))
      have hk7 : k7 = i + 1 := by have h1 := H7L.out; rw [List.length_append, HLEN.out] at h1; simpa using h1.symm
      subst hk7
      have hE7 : Ext w w7 := (HE.out.tr h9).chg (Chg.of_grown HG7.out) (fun b hb => (HO.out.lt b hb.symm).1)
      go_roundw
      case rel => exact ⟨i + 1, c7, B7, by go_num, by omega, rfl, ⟨by have := HO7.out; rwa [← take_snoc' HX.out] at this⟩, ⟨hE7⟩⟩
      case measure => simp [intOf]; omega
    · obtain rfl : i = n := by omega
      go_wp2
      go_ret
      exact ⟨_, rfl, by have := HO.out; rwa [List.take_of_length_le (by rw [HN.out]; exact Nat.le_refl _)] at this, HE.out⟩

set_option maxHeartbeats 4000000 in
set_option maxRecDepth 100000 in
/-- pollardref04.SameIDs -/
theorem same_calls (A B : Option Addr) (n m c d : Nat) (l r : List Id) (w : World) (hn : l.length = n) (hm : r.length = m) (hc : n ≤ 1000000000) (hd : m ≤ 1000000000) (hA : RowAt Ty.id A l w) (hB : RowAt Ty.id B r w) :
    Calls Try.prog 16 #[.slice A n c, .slice B m d] w fun e w' => e = .returned (.bool (decide (l = r))) ∧ Drawn w w' := by
  have HN := Hd.mk hn
  have HM := Hd.mk hm
  by_cases hnm : n = m
  · subst hnm
    rcases Nat.eq_zero_or_pos n with h0 | h0
    · subst h0
      obtain rfl := List.eq_nil_of_length_eq_zero hn
      obtain rfl := List.eq_nil_of_length_eq_zero hm
      clear hn hm HN HM hA hB
      go_enter Try.func16, Try.ntmps16
      go_wp2
      go_loop [5] (fun i => i = .int .i64 0) (fun _ => 0)
      case atStart => rfl
      case round =>
        subst hrel
        go_wp2
        go_ret
        exact ⟨rfl, Drawn.refl _⟩
    obtain ⟨g1, o1, rfl, h1⟩ := open_ids hA (by omega)
    obtain ⟨g2, o2, rfl, h2⟩ := open_ids hB (by omega)
    have H1 := Hd.mk h1
    have H2 := Hd.mk h2
    obtain ⟨bq, hbq⟩ : ∃ b, decide (l = r) = b := ⟨_, rfl⟩
    rw [hbq]
    have HBQ := Hd.mk hbq
    clear hn hm hA hB h1 h2 hbq
    have hu := Try.underlying24
    have hu' := Try.underlying23
    go_enter Try.func16, Try.ntmps16
    go_wp2
    go_loopw [5] (fun i wr => ∃ k : Nat, k ≤ n ∧ i = .int .i64 k ∧ Hd (l.take k = r.take k) ∧ Hd (Drawn w wr)) (fun i _ => n - (intOf i).toNat)
    case atStart => exact ⟨0, by omega, rfl, ⟨rfl⟩, ⟨Drawn.refl _⟩⟩
    case round =>
      obtain ⟨k, hk, rfl, HT, HW⟩ := hrel
      by_cases hlt : k < n
      · obtain ⟨x, hx⟩ : ∃ x, l[k]? = some x := ⟨_, List.getElem?_eq_getElem (by have := HN.out; omega)⟩
        obtain ⟨y, hy⟩ : ∃ y, r[k]? = some y := ⟨_, List.getElem?_eq_getElem (by have := HM.out; omega)⟩
        have HX := Hd.mk hx
        have HY := Hd.mk hy
        have hi2 : (Try.prog.info? 24).map (·.size) = some (idC y).length := by rw [idC_len]; kernel_rfl
        have HS : Hd (∀ W, Ext w W → W.rangeAt g1 (o1 + k * 32) (idC x) ∧ W.rangeAt g2 (o2 + k * 32) (idC y)) := ⟨fun W he => ⟨H1.out W he k x HX.out, H2.out W he k y HY.out⟩⟩
        have hE : Ext w wr := HW.out.ext
        have b1 : (0 : Int) ≤ (k : Int) := by omega
        have b2 : (k : Int) < (n : Int) := by omega
        clear hx hy
        by_cases hxy : x = y
        · have hdec : (!decide (x = y)) = false := by simp [hxy]
          have HXY := Hd.mk hxy
          have q3 := fun W => bin_ne_id W x y
          rw [hdec] at q3
          clear hdec hxy
          go_wp2_with fail
          (refine wp_region_held_drew (S := fun W => W.rangeAt g1 (o1 + k * 32) (idC x) ∧ W.rangeAt g2 (o2 + k * 32) (idC y)) (by kernel_rfl) (HS.out _ (by repeat (first | assumption | exact Ext.rfl' _ | apply Ext.drew1 | apply Ext.drewN1 | apply Ext.alloc1 | (refine Ext.set1' ?_ (by simp) _) | refine Ext.tr ?_ (by assumption)))) (fun hHeld => ?_); (refine reg_run (i := 0) (v := ?_) rfl (by kernel_rfl) ?_ ?_ (fun _ _ _ h => h) rfl ?_ (by assumption) ?_; rotate_left; (focus (decide +kernel)); (focus (decide +kernel)); (focus (intro W hW; (try dsimp only at hW); go_simp; (try with_reducible rfl); done)); (try simp only [Act.put, List.setIfInBounds_toArray, List.set_cons_zero, List.set_cons_succ])); (refine reg_run (i := 1) (v := ?_) rfl (by kernel_rfl) ?_ ?_ (fun _ _ _ h => h) rfl ?_ (by assumption) ?_; rotate_left; (focus (decide +kernel)); (focus (decide +kernel)); (focus (intro W hW; (try dsimp only at hW); go_simp; (try with_reducible rfl); done)); (try simp only [Act.put, List.setIfInBounds_toArray, List.set_cons_zero, List.set_cons_succ])); (refine reg_run (i := 2) (v := ?_) rfl (by kernel_rfl) ?_ ?_ (fun _ _ _ h => h) rfl ?_ (by assumption) ?_; rotate_left; (focus (decide +kernel)); (focus (decide +kernel)); (focus (intro W hW; (try dsimp only at hW); go_simp; (try with_reducible rfl); done)); (try simp only [Act.put, List.setIfInBounds_toArray, List.set_cons_zero, List.set_cons_succ])); (refine reg_load (i := 3) (cs := idC x) rfl rfl (by kernel_rfl) ?_ ?_ rfl hu rfl ?_ (by rw [idC_len]; exact info_sz) rfl (fun _ _ _ h => h) (by assumption) ?_; (focus (decide +kernel)); (focus (decide +kernel)); (focus (intro W hW; (try dsimp only at hW); go_split_ands; assumption)); (try simp only [Act.put, List.setIfInBounds_toArray, List.set_cons_zero, List.set_cons_succ])); (refine reg_run (i := 4) (v := ?_) rfl (by kernel_rfl) ?_ ?_ (fun _ _ _ h => h) rfl ?_ (by assumption) ?_; rotate_left; (focus (decide +kernel)); (focus (decide +kernel)); (focus (intro W hW; (try dsimp only at hW); go_simp; (try with_reducible rfl); done)); (try simp only [Act.put, List.setIfInBounds_toArray, List.set_cons_zero, List.set_cons_succ])); (refine reg_run (i := 5) (v := ?_) rfl (by kernel_rfl) ?_ ?_ (fun _ _ _ h => h) rfl ?_ (by assumption) ?_; rotate_left; (focus (decide +kernel)); (focus (decide +kernel)); (focus (intro W hW; (try dsimp only at hW); go_simp; (try with_reducible rfl); done)); (try simp only [Act.put, List.setIfInBounds_toArray, List.set_cons_zero, List.set_cons_succ])); (refine reg_run (i := 6) (v := ?_) rfl (by kernel_rfl) ?_ ?_ (fun _ _ _ h => h) rfl ?_ (by assumption) ?_; rotate_left; (focus (decide +kernel)); (focus (decide +kernel)); (focus (intro W hW; (try dsimp only at hW); go_simp; (try with_reducible rfl); done)); (try simp only [Act.put, List.setIfInBounds_toArray, List.set_cons_zero, List.set_cons_succ])); (refine reg_load (i := 7) (cs := idC y) rfl rfl (by kernel_rfl) ?_ ?_ rfl hu' rfl ?_ (by rw [idC_len]; exact info_sz') rfl (fun _ _ _ h => h) (by assumption) ?_; (focus (decide +kernel)); (focus (decide +kernel)); (focus (intro W hW; (try dsimp only at hW); go_split_ands; assumption)); (try simp only [Act.put, List.setIfInBounds_toArray, List.set_cons_zero, List.set_cons_succ])); (refine reg_run (i := 8) (v := ?_) rfl (by kernel_rfl) ?_ ?_ (fun _ _ _ h => h) rfl ?_ (by assumption) ?_; rotate_left; (focus (decide +kernel)); (focus (decide +kernel)); (focus (intro W hW; (try dsimp only at hW); go_simp; (try with_reducible rfl); done)); (try simp only [Act.put, List.setIfInBounds_toArray, List.set_cons_zero, List.set_cons_succ])); refine wpAnyH_done ?_ ?_ _; (focus (decide +kernel)); clear hHeld)
          go_wp2
          go_roundw
          case rel => exact ⟨k + 1, by omega, by go_num, ⟨take_step' HT.out HX.out (by rw [HXY.out]; exact HY.out)⟩, ⟨HW.out.drew⟩⟩
          case measure => simp [intOf]; omega
        · have hdec : (!decide (x = y)) = true := by simp [hxy]
          have HXY := Hd.mk hxy
          have q3 := fun W => bin_ne_id W x y
          rw [hdec] at q3
          clear hdec hxy
          have hne : bq = false := by
            rw [← HBQ.out]
            simp only [decide_eq_false_iff_not]
            intro e
            have h1 := HX.out
            rw [e, HY.out] at h1
            exact HXY.out (by injection h1 with h1; exact h1.symm)
          subst hne
          go_wp2_with fail
          (refine wp_region_held_drew (S := fun W => W.rangeAt g1 (o1 + k * 32) (idC x) ∧ W.rangeAt g2 (o2 + k * 32) (idC y)) (by kernel_rfl) (HS.out _ (by repeat (first | assumption | exact Ext.rfl' _ | apply Ext.drew1 | apply Ext.drewN1 | apply Ext.alloc1 | (refine Ext.set1' ?_ (by simp) _) | refine Ext.tr ?_ (by assumption)))) (fun hHeld => ?_); (refine reg_run (i := 0) (v := ?_) rfl (by kernel_rfl) ?_ ?_ (fun _ _ _ h => h) rfl ?_ (by assumption) ?_; rotate_left; (focus (decide +kernel)); (focus (decide +kernel)); (focus (intro W hW; (try dsimp only at hW); go_simp; (try with_reducible rfl); done)); (try simp only [Act.put, List.setIfInBounds_toArray, List.set_cons_zero, List.set_cons_succ])); (refine reg_run (i := 1) (v := ?_) rfl (by kernel_rfl) ?_ ?_ (fun _ _ _ h => h) rfl ?_ (by assumption) ?_; rotate_left; (focus (decide +kernel)); (focus (decide +kernel)); (focus (intro W hW; (try dsimp only at hW); go_simp; (try with_reducible rfl); done)); (try simp only [Act.put, List.setIfInBounds_toArray, List.set_cons_zero, List.set_cons_succ])); (refine reg_run (i := 2) (v := ?_) rfl (by kernel_rfl) ?_ ?_ (fun _ _ _ h => h) rfl ?_ (by assumption) ?_; rotate_left; (focus (decide +kernel)); (focus (decide +kernel)); (focus (intro W hW; (try dsimp only at hW); go_simp; (try with_reducible rfl); done)); (try simp only [Act.put, List.setIfInBounds_toArray, List.set_cons_zero, List.set_cons_succ])); (refine reg_load (i := 3) (cs := idC x) rfl rfl (by kernel_rfl) ?_ ?_ rfl hu rfl ?_ (by rw [idC_len]; exact info_sz) rfl (fun _ _ _ h => h) (by assumption) ?_; (focus (decide +kernel)); (focus (decide +kernel)); (focus (intro W hW; (try dsimp only at hW); go_split_ands; assumption)); (try simp only [Act.put, List.setIfInBounds_toArray, List.set_cons_zero, List.set_cons_succ])); (refine reg_run (i := 4) (v := ?_) rfl (by kernel_rfl) ?_ ?_ (fun _ _ _ h => h) rfl ?_ (by assumption) ?_; rotate_left; (focus (decide +kernel)); (focus (decide +kernel)); (focus (intro W hW; (try dsimp only at hW); go_simp; (try with_reducible rfl); done)); (try simp only [Act.put, List.setIfInBounds_toArray, List.set_cons_zero, List.set_cons_succ])); (refine reg_run (i := 5) (v := ?_) rfl (by kernel_rfl) ?_ ?_ (fun _ _ _ h => h) rfl ?_ (by assumption) ?_; rotate_left; (focus (decide +kernel)); (focus (decide +kernel)); (focus (intro W hW; (try dsimp only at hW); go_simp; (try with_reducible rfl); done)); (try simp only [Act.put, List.setIfInBounds_toArray, List.set_cons_zero, List.set_cons_succ])); (refine reg_run (i := 6) (v := ?_) rfl (by kernel_rfl) ?_ ?_ (fun _ _ _ h => h) rfl ?_ (by assumption) ?_; rotate_left; (focus (decide +kernel)); (focus (decide +kernel)); (focus (intro W hW; (try dsimp only at hW); go_simp; (try with_reducible rfl); done)); (try simp only [Act.put, List.setIfInBounds_toArray, List.set_cons_zero, List.set_cons_succ])); (refine reg_load (i := 7) (cs := idC y) rfl rfl (by kernel_rfl) ?_ ?_ rfl hu' rfl ?_ (by rw [idC_len]; exact info_sz') rfl (fun _ _ _ h => h) (by assumption) ?_; (focus (decide +kernel)); (focus (decide +kernel)); (focus (intro W hW; (try dsimp only at hW); go_split_ands; assumption)); (try simp only [Act.put, List.setIfInBounds_toArray, List.set_cons_zero, List.set_cons_succ])); (refine reg_run (i := 8) (v := ?_) rfl (by kernel_rfl) ?_ ?_ (fun _ _ _ h => h) rfl ?_ (by assumption) ?_; rotate_left; (focus (decide +kernel)); (focus (decide +kernel)); (focus (intro W hW; (try dsimp only at hW); go_simp; (try with_reducible rfl); done)); (try simp only [Act.put, List.setIfInBounds_toArray, List.set_cons_zero, List.set_cons_succ])); refine wpAnyH_done ?_ ?_ _; (focus (decide +kernel)); clear hHeld)
          go_wp2
          go_ret
          exact ⟨rfl, HW.out.drew⟩
      · obtain rfl : k = n := by omega
        have he : bq = true := by
          rw [← HBQ.out]
          simp only [decide_eq_true_eq]
          have h := HT.out
          rwa [List.take_of_length_le (by have := HN.out; omega), List.take_of_length_le (by have := HM.out; omega)] at h
        subst he
        go_wp2
        go_ret
        exact ⟨rfl, HW.out⟩
  · have hne : decide (l = r) = false := by
      simp only [decide_eq_false_iff_not]
      intro e
      rw [e] at hn
      omega
    rw [hne]
    have d1 : ((n : Int) != (m : Int)) = true := by simp; omega
    clear hne hn hm hA hB
    go_enter Try.func16, Try.ntmps16
    go_wp2
    go_ret
    exact ⟨rfl, Drawn.refl _⟩

end Go.Proofs.Ythfinaocdcinlaa
