/- Package dag: right, Add. -/
import Derived.Test.YthfinaocdcinlaaDag
namespace Go.Proofs.Ythfinaocdcinlaa
open Go.RowKit
attribute [local go_sem] eql_sl_nil neq_sl_nil
set_option linter.unusedVariables false
set_option linter.unusedSimpArgs false

/-- The parents rise. -/
def rising : List Id → Bool
  | a :: b :: r => decide (cmpI a b < 0) && rising (b :: r)
  | _ => true
/-- May a commit be? -/
def rightF (x : Id) (ps : List Id) : Bool := rising ps && !decide (x = zId) && decide (ps.length ≤ 2)
theorem rising_at : ∀ {ps : List Id} {k : Nat} {a b : Id}, rising ps = true → ps[k]? = some a → ps[k + 1]? = some b → cmpI a b < 0
  | [], _, _, _, _, h, _ => by simp at h
  | [x], k, a, b, _, _, h => by simp at h
  | x :: y :: r, 0, a, b, h, h1, h2 => by
    simp only [List.getElem?_cons_zero, List.getElem?_cons_succ, Option.some.injEq] at h1 h2
    subst h1; subst h2
    simp only [rising, Bool.and_eq_true, decide_eq_true_eq] at h
    exact h.1
  | x :: y :: r, k + 1, a, b, h, h1, h2 => by
    simp only [rising, Bool.and_eq_true, decide_eq_true_eq] at h
    exact rising_at h.2 (by simpa using h1) (by simpa using h2)
theorem rising_of : ∀ {ps : List Id}, (∀ k a b, ps[k]? = some a → ps[k + 1]? = some b → cmpI a b < 0) → rising ps = true
  | [], _ => rfl
  | [x], _ => rfl
  | x :: y :: r, h => by
    simp only [rising, Bool.and_eq_true, decide_eq_true_eq]
    exact ⟨h 0 x y rfl rfl, rising_of (fun k a b h1 h2 => h (k + 1) a b (by simpa using h1) (by simpa using h2))⟩

set_option maxHeartbeats 4000000 in
set_option maxRecDepth 100000 in
/-- dag.right -/
theorem right_calls (A : Option Addr) (n c : Nat) (x : Id) (ps : List Id) (w : World) (hn : ps.length = n) (hb : n ≤ 1000000000) (h : RowAt Ty.id A ps w) :
    Calls Try.prog 30 #[.agg (idA x), .slice A n c] w fun e w' => e = .returned (.bool (rightF x ps)) ∧ Ext w w' := by
  have HN := Hd.mk hn
  have HR := Hd.mk h
  clear hn h
  obtain ⟨bq, hbq⟩ : ∃ b, rightF x ps = b := ⟨_, rfl⟩
  rw [hbq]
  have HBQ := Hd.mk hbq
  clear hbq
  have hu := Try.underlying24
  go_enter Try.func30, Try.ntmps30
  go_wp2
  go_loopw [5] (fun i wr => ∃ k : Nat, 1 ≤ k ∧ (k ≤ n ∨ k = 1) ∧ i = .int .i64 k ∧ Hd (∀ j a b, j + 1 < k → ps[j]? = some a → ps[j + 1]? = some b → cmpI a b < 0) ∧ Hd (Ext (w.alloc (.cells (idA x) 24)) wr)) (fun i _ => n + 1 - (intOf i).toNat)
  case atStart => exact ⟨1, by omega, .inr rfl, rfl, ⟨fun j a b h => absurd h (by omega)⟩, ⟨Ext.rfl' _⟩⟩
  case round =>
    obtain ⟨k, hk1, hk, rfl, HK, HE⟩ := hrel
    by_cases hlt : k < n
    · obtain ⟨k, rfl⟩ : ∃ j, k = j + 1 := ⟨k - 1, by omega⟩
      obtain ⟨y, hy⟩ : ∃ y, ps[k]? = some y := ⟨_, List.getElem?_eq_getElem (by have := HN.out; omega)⟩
      obtain ⟨z, hz⟩ : ∃ z, ps[k + 1]? = some z := ⟨_, List.getElem?_eq_getElem (by have := HN.out; omega)⟩
      obtain ⟨g1, o1, rfl, h1⟩ := open_ids HR.out (by have := HN.out; omega)
      have HY := Hd.mk hy
      have HZ := Hd.mk hz
      have HS : Hd (∀ W, Ext w W → W.rangeAt g1 (o1 + k * 32) (idC y) ∧ W.rangeAt g1 (o1 + (k + 1) * 32) (idC z)) := ⟨fun W he => ⟨h1 W he k y hy, h1 W he (k + 1) z hz⟩⟩
      have hE : Ext w wr := (Ext.alloc' w _).tr HE.out
      obtain ⟨ci, hci⟩ : ∃ ci, cmpI y z = ci := ⟨_, rfl⟩
      have HCI := Hd.mk hci
      clear hy hz h1 hk hci
      have e1 : ((k + 1 : Nat) : Int) - 1 = (k : Int) := by omega
      have hwk : IntKind.i64.wrap (k : Int) = (k : Int) := by rw [IntKind.wrap_i64]; omega
      have b1 : (0 : Int) ≤ (k : Int) := by omega
      have b2 : (k : Int) < (n : Int) := by omega
      have b3 : (0 : Int) ≤ (k : Int) + 1 := by omega
      have b4 : (k : Int) + 1 < (n : Int) := by omega
      have b5 : ((k : Int) + 1).toNat = k + 1 := by omega
      go_wp2_with fail
      (refine wp_region_held_drew (S := fun W => W.rangeAt g1 (o1 + k * 32) (idC y) ∧ W.rangeAt g1 (o1 + (k + 1) * 32) (idC z)) (by kernel_rfl) (HS.out _ (by repeat (first | assumption | exact Ext.rfl' _ | apply Ext.drew1 | apply Ext.drewN1 | apply Ext.alloc1 | (refine Ext.set1' ?_ (by simp) _) | refine Ext.tr ?_ (by assumption)))) (fun hHeld => ?_); (refine reg_run (i := 0) (v := ?_) rfl (by kernel_rfl) ?_ ?_ (fun _ _ _ h => h) rfl ?_ (by assumption) ?_; rotate_left; (focus (decide +kernel)); (focus (decide +kernel)); (focus (intro W hW; (try dsimp only at hW); go_simp; (try with_reducible rfl); done)); (try simp only [Act.put, List.setIfInBounds_toArray, List.set_cons_zero, List.set_cons_succ])); (refine reg_run (i := 1) (v := ?_) rfl (by kernel_rfl) ?_ ?_ (fun _ _ _ h => h) rfl ?_ (by assumption) ?_; rotate_left; (focus (decide +kernel)); (focus (decide +kernel)); (focus (intro W hW; (try dsimp only at hW); go_simp; (try with_reducible rfl); done)); (try simp only [Act.put, List.setIfInBounds_toArray, List.set_cons_zero, List.set_cons_succ])); (refine reg_run (i := 2) (v := ?_) rfl (by kernel_rfl) ?_ ?_ (fun _ _ _ h => h) rfl ?_ (by assumption) ?_; rotate_left; (focus (decide +kernel)); (focus (decide +kernel)); (focus (intro W hW; (try dsimp only at hW); go_simp; (try with_reducible rfl); done)); (try simp only [Act.put, List.setIfInBounds_toArray, List.set_cons_zero, List.set_cons_succ])); (refine reg_run (i := 3) (v := ?_) rfl (by kernel_rfl) ?_ ?_ (fun _ _ _ h => h) rfl ?_ (by assumption) ?_; rotate_left; (focus (decide +kernel)); (focus (decide +kernel)); (focus (intro W hW; (try dsimp only at hW); go_simp; (try with_reducible rfl); done)); (try simp only [Act.put, List.setIfInBounds_toArray, List.set_cons_zero, List.set_cons_succ])); (refine reg_load (i := 4) (cs := idC y) rfl rfl (by kernel_rfl) ?_ ?_ rfl hu rfl ?_ (by rw [idC_len]; exact info_sz) rfl (fun _ _ _ h => h) (by assumption) ?_; (focus (decide +kernel)); (focus (decide +kernel)); (focus (intro W hW; (try dsimp only at hW); go_split_ands; assumption)); (try simp only [Act.put, List.setIfInBounds_toArray, List.set_cons_zero, List.set_cons_succ])); (refine reg_run (i := 5) (v := ?_) rfl (by kernel_rfl) ?_ ?_ (fun _ _ _ h => h) rfl ?_ (by assumption) ?_; rotate_left; (focus (decide +kernel)); (focus (decide +kernel)); (focus (intro W hW; (try dsimp only at hW); go_simp; (try with_reducible rfl); done)); (try simp only [Act.put, List.setIfInBounds_toArray, List.set_cons_zero, List.set_cons_succ])); (refine reg_run (i := 6) (v := ?_) rfl (by kernel_rfl) ?_ ?_ (fun _ _ _ h => h) rfl ?_ (by assumption) ?_; rotate_left; (focus (decide +kernel)); (focus (decide +kernel)); (focus (intro W hW; (try dsimp only at hW); go_simp; (try with_reducible rfl); done)); (try simp only [Act.put, List.setIfInBounds_toArray, List.set_cons_zero, List.set_cons_succ])); (refine reg_run (i := 7) (v := ?_) rfl (by kernel_rfl) ?_ ?_ (fun _ _ _ h => h) rfl ?_ (by assumption) ?_; rotate_left; (focus (decide +kernel)); (focus (decide +kernel)); (focus (intro W hW; (try dsimp only at hW); go_simp; (try with_reducible rfl); done)); (try simp only [Act.put, List.setIfInBounds_toArray, List.set_cons_zero, List.set_cons_succ])); (refine reg_load (i := 8) (cs := idC z) rfl rfl (by kernel_rfl) ?_ ?_ rfl hu rfl ?_ (by rw [idC_len]; exact info_sz) rfl (fun _ _ _ h => h) (by assumption) ?_; (focus (decide +kernel)); (focus (decide +kernel)); (focus (intro W hW; (try dsimp only at hW); go_split_ands; assumption)); (try simp only [Act.put, List.setIfInBounds_toArray, List.set_cons_zero, List.set_cons_succ])); refine reg_eff (i := 9) rfl ?_ rfl (fun K hK => ?_); (focus (decide +kernel)); (go_simp; go_at_call 37; refine (scmp_calls y z _).mono ?_; rintro e w1 ⟨rfl, he⟩; have he1 : Ext wr.drew w1 := he; rw [HCI.out]); refine hK.out _ _ (HS.out _ (by repeat (first | assumption | exact Ext.rfl' _ | apply Ext.drew1 | apply Ext.drewN1 | apply Ext.alloc1 | (refine Ext.set1' ?_ (by simp) _) | refine Ext.tr ?_ (by assumption)))) (fun hHeldN => ?_); clear hK K hHeld; have hHeld := hHeldN; clear hHeldN; (try simp only [Act.put, List.setIfInBounds_toArray, List.set_cons_zero, List.set_cons_succ]); (refine reg_run (i := 10) (v := ?_) rfl (by kernel_rfl) ?_ ?_ (fun _ _ _ h => h) rfl ?_ (by assumption) ?_; rotate_left; (focus (decide +kernel)); (focus (decide +kernel)); (focus (intro W hW; (try dsimp only at hW); go_simp; (try with_reducible rfl); done)); (try simp only [Act.put, List.setIfInBounds_toArray, List.set_cons_zero, List.set_cons_succ])); refine wpAnyH_done ?_ ?_ _; (focus (decide +kernel)); clear hHeld)
      by_cases hneg : ci < 0
      · go_wp2
        go_roundw
        case rel =>
          refine ⟨k + 2, by omega, .inl (by omega), by go_num, ⟨fun j a b hj h1 h2 => ?_⟩, ⟨(Ext.drew1 HE.out).tr he1⟩⟩
          by_cases hjk : j = k
          · subst hjk
            rw [HY.out] at h1
            rw [HZ.out] at h2
            injection h1 with h1
            injection h2 with h2
            subst h1; subst h2
            rw [HCI.out]; exact hneg
          · exact HK.out j a b (by omega) h1 h2
        case measure => simp [intOf]; omega
      · have hbf : bq = false := by
          rw [← HBQ.out, rightF]
          cases hr : rising ps
          · rfl
          · have := rising_at hr HY.out HZ.out; rw [HCI.out] at this; omega
        subst hbf
        have hneg' : 0 ≤ ci := by omega
        go_wp2
        go_ret
        exact ⟨rfl, (Ext.alloc' w _).tr ((Ext.drew1 HE.out).tr he1)⟩
    · have HB := Hd.mk (HE.out.blk (heap_alloc_new w _) (fun h => h))
      have q3 := fun W => bin_ne_id W x zId
      have hz : idA zId = #[.int .u8 0, .int .u8 0, .int .u8 0, .int .u8 0, .int .u8 0, .int .u8 0, .int .u8 0, .int .u8 0, .int .u8 0, .int .u8 0, .int .u8 0, .int .u8 0, .int .u8 0, .int .u8 0, .int .u8 0, .int .u8 0, .int .u8 0, .int .u8 0, .int .u8 0, .int .u8 0, .int .u8 0, .int .u8 0, .int .u8 0, .int .u8 0, .int .u8 0, .int .u8 0, .int .u8 0, .int .u8 0, .int .u8 0, .int .u8 0, .int .u8 0, .int .u8 0] := by kernel_rfl
      rw [hz] at q3
      clear hz
      obtain ⟨bz, hbz⟩ : ∃ b, decide (x = zId) = b := ⟨_, rfl⟩
      rw [hbz] at q3
      have HBZ := Hd.mk hbz
      clear hbz
      have HRI : Hd (rising ps = true) := ⟨rising_of (fun j a b h1 h2 => HK.out j a b (by have := (List.getElem?_eq_some_iff.1 h2).1; have := HN.out; omega) h1 h2)⟩
      have hfin : bq = (!bz && decide (n ≤ 2)) := by rw [← HBQ.out, rightF, HRI.out, HBZ.out, HN.out]; simp
      have HFIN := Hd.mk hfin
      clear hfin
      cases bz
      · by_cases h2 : n ≤ 2
        · obtain rfl : bq = true := by rw [HFIN.out]; simp [h2]
          have hd2 : decide ((n : Int) ≤ 2) = true := by simp; omega
          go_wp2_with (refine wpList_load_row (P := Try.prog) rfl 24 (.tmp 2) rfl w.heap.size rfl 24 (idA x) (0, 0) _ HB.out hu rfl (by rw [idA_size]; exact info_sz) ?_)
          go_ret
          exact ⟨by first | rfl | (rw [hd2]; rfl), (Ext.alloc' w _).tr HE.out⟩
        · obtain rfl : bq = false := by rw [HFIN.out]; simp [h2]
          have hd2 : decide ((n : Int) ≤ 2) = false := by simp; omega
          go_wp2_with (refine wpList_load_row (P := Try.prog) rfl 24 (.tmp 2) rfl w.heap.size rfl 24 (idA x) (0, 0) _ HB.out hu rfl (by rw [idA_size]; exact info_sz) ?_)
          go_ret
          exact ⟨by first | rfl | (rw [hd2]; rfl), (Ext.alloc' w _).tr HE.out⟩
      · obtain rfl : bq = false := by rw [HFIN.out]; simp
        go_wp2_with (refine wpList_load_row (P := Try.prog) rfl 24 (.tmp 2) rfl w.heap.size rfl 24 (idA x) (0, 0) _ HB.out hu rfl (by rw [idA_size]; exact info_sz) ?_)
        go_ret
        exact ⟨rfl, (Ext.alloc' w _).tr HE.out⟩
end Go.Proofs.Ythfinaocdcinlaa
