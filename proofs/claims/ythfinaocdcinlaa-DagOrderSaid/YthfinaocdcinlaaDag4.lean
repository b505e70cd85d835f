/- Package dag: Add of a new commit. -/
import Derived.Test.YthfinaocdcinlaaDag3
namespace Go.Proofs.Ythfinaocdcinlaa
open Go.RowKit
attribute [local go_sem] eql_sl_nil neq_sl_nil max_two
set_option linter.unusedVariables false
set_option linter.unusedSimpArgs false

theorem depF_take {D : Nodes} {ps : List Id} {k : Nat} {p : Id} (h : ps[k]? = some p) : depF D (ps.take (k + 1)) = max (depF D (ps.take k)) (dep D p + 1) := by
  unfold depF
  rw [take_snoc' h, List.foldl_append]; rfl
theorem depF_le {D : Nodes} {B : Nat} (h : ∀ p, dep D p ≤ B) : ∀ (ps : List Id), depF D ps ≤ B + 1 := fun ps => by
  unfold depF
  have key : ∀ (ps : List Id) (a : Nat), a ≤ B + 1 → ps.foldl (fun d p => max d (dep D p + 1)) a ≤ B + 1 := by
    intro ps
    induction ps with
    | nil => intro a ha; exact ha
    | cons p r ih => intro a ha; exact ih _ (by have h1 := h p; show max a (dep D p + 1) ≤ B + 1; omega)
  exact key ps 1 (by omega)

theorem putL_new {K V : Type} [DecidableEq K] {l : List (K × V)} {k : K} (h : look l k = none) (u : V) : putL l k u = l ++ [(k, u)] := by
  induction l with
  | nil => rfl
  | cons y r ih =>
    obtain ⟨a, v⟩ := y
    simp only [look] at h
    split at h
    · cases h
    · rename_i hne
      simp only [putL, if_neg hne, List.cons_append, ih h]
theorem isKid_new (D : Nodes) (x : Id) (ps : List Id) (d : Nat) (y : Id) : isKid (D ++ [(x, (ps, d))]) y = (isKid D y || ps.contains y) := by
  simp [isKid, List.any_append]
theorem contains_take {ps : List Id} {k : Nat} {p : Id} (h : ps[k]? = some p) (y : Id) : (ps.take (k + 1)).contains y = ((ps.take k).contains y || decide (y = p)) := by
  rw [take_snoc' h]
  simp
/-- The Dag behind Add. -/
theorem dag_add {g m1 m2 : Nat} {D : Nodes} {x : Id} {ps : List Id} {d : Nat} {wf : World} {l1 l1' l2' : List (Id × Value)} {v : Value} (hg : wf.heap[g]? = some (.cells #[.map (some m1), .map (some m2)] 65 (0, 0))) (hne : m1 ≠ m2)
    (hl : look D x = none) (a2 : l1.map Prod.fst = D.map Prod.fst) (he : l1' = putL l1 x v) (h1 : MapAt idV m1 l1' wf) (a3 : ∀ y n, look D y = some n → ∃ v, look l1 y = some v ∧ NodeV n v wf) (hv : NodeV (ps, d) v wf)
    (h2 : MapAt idV m2 l2' wf) (b2 : ∀ y, look l2' y = if (isKid D y || ps.contains y) = true then some (.bool true) else none) : DagAt g m1 m2 (D ++ [(x, (ps, d))]) wf := by
  subst he
  refine ⟨hg, hne, ⟨_, h1, ?_, fun y n hy => ?_⟩, l2', h2, fun y => by rw [isKid_new]; exact b2 y⟩
  · have h0 : look l1 x = none := (look_keys a2 x).2 hl
    rw [putL_new h0, List.map_append, List.map_append, a2]; rfl
  · rw [← putL_new hl, look_put] at hy
    rw [look_put]
    split at hy
    · rename_i e
      subst e
      injection hy with hy
      subst hy
      rw [if_pos rfl]
      exact ⟨v, rfl, hv⟩
    · rename_i e
      rw [if_neg e]
      exact a3 y n hy

section
variable (g m1 m2 : Nat) (D : Nodes) (x : Id) (ps : List Id) (A : Option Addr) (n c : Nat) (w : World)
set_option maxHeartbeats 8000000 in
set_option maxRecDepth 100000 in
theorem add_new (h : DagAt g m1 m2 D w) (hn : ps.length = n) (hb : n ≤ 1000000000) (hr : RowAt Ty.id A ps w) (hx : rightF x ps = true) (hlook : has D x = false) (hdep : ∀ p, dep D p ≤ 1000000000) :
    Calls Try.prog 10 #[.pointer (some ⟨g, 0, none⟩), .agg (idA x), .slice A n c] w (fun e w' => AddPost g m1 m2 D x ps w e w' ∧ RowsMove m1 w w') := by
  have HF : Hd (addF D x ps = if ps.all (has D) = true then (D ++ [(x, (ps, depF D ps))], 0) else (D, 110)) := ⟨by
    unfold addF
    rw [if_neg (by rw [hx]; simp)]
    unfold has at hlook
    cases hl : look D x with
    | none => rfl
    | some nd => rw [hl] at hlook; cases hlook⟩
  obtain ⟨NA, nk, nc, hl1, hl2, HL, hk1, hk2, HNR⟩ := h.node x
  obtain ⟨d, hd⟩ : ∃ d, dep D x = d := ⟨_, rfl⟩
  rw [hd, hlook] at hl2
  have HS : Hd (∀ W, Ext (w.alloc (.cells (idA x) 24)) W → W.rangeAt w.heap.size 0 (idC x) ∧ W.cell? ⟨g, 0, none⟩ = some (.map (some m1)) ∧ (Instr.lookup 63 (.map (some m1)) (.agg (idA x)) true).run Try.prog W = .ok (.tuple #[.agg #[.slice NA nk nc, .int .i64 d], .bool false]) W) := ⟨fun W he =>
    ⟨range_blk (he.blk (heap_alloc_new w _) (fun h => h)), ((Ext.alloc' w _).tr he).cell (blk_cell h.1 0) (fun h => h), hl2 W ((Ext.alloc' w _).tr he)⟩⟩
  have HD := Hd.mk h
  have HN := Hd.mk hn
  have HR := Hd.mk hr
  have HX := Hd.mk hx
  have HDEP := Hd.mk hdep
  have HLK := Hd.mk hlook
  clear h hn hr hx hl1 hl2 hlook hd hdep HL HNR
  have hu := Try.underlying24
  go_enter Try.func10, Try.ntmps10
  go_wp2_with (first
    | (go_at_call 30; refine (right_calls A n c x ps _ HN.out hb (HR.out.ext (by repeat (first | assumption | exact Ext.rfl' _ | apply Ext.drew1 | apply Ext.drewN1 | apply Ext.alloc1 | (refine Ext.set1' ?_ (by simp) _) | refine Ext.tr ?_ (by assumption))))).mono ?_; rintro e w1 ⟨rfl, he⟩; rw [HX.out])
    | (refine wpList_load_row (P := Try.prog) rfl 24 (.tmp 4) rfl w.heap.size rfl 24 (idA x) (0, 0) _ (heap_alloc_new w _) hu rfl (by rw [idA_size]; exact info_sz) ?_))
  (refine wp_region_held_drew (S := fun W => W.rangeAt w.heap.size 0 (idC x) ∧ W.cell? ⟨g, 0, none⟩ = some (.map (some m1)) ∧ (Instr.lookup 63 (.map (some m1)) (.agg (idA x)) true).run Try.prog W = .ok (.tuple #[.agg #[.slice NA nk nc, .int .i64 d], .bool false]) W) (by kernel_rfl) (HS.out _ (by repeat (first | assumption | exact Ext.rfl' _ | apply Ext.drew1 | apply Ext.drewN1 | apply Ext.alloc1 | (refine Ext.set1' ?_ (by simp) _) | refine Ext.tr ?_ (by assumption)))) (fun hHeld => ?_); (refine reg_run (i := 0) (v := ?_) rfl (by kernel_rfl) ?_ ?_ (fun _ _ _ h => h) rfl ?_ (by assumption) ?_; rotate_left; (focus (decide +kernel)); (focus (decide +kernel)); (focus (intro W hW; (try dsimp only at hW); go_simp; (try with_reducible rfl); done)); (try simp only [Act.put, List.setIfInBounds_toArray, List.set_cons_zero, List.set_cons_succ])); (refine reg_run (i := 1) (v := ?_) rfl (by kernel_rfl) ?_ ?_ (fun _ _ _ h => h) rfl ?_ (by assumption) ?_; rotate_left; (focus (decide +kernel)); (focus (decide +kernel)); (focus (intro W hW; (try dsimp only at hW); go_simp; (try with_reducible rfl); done)); (try simp only [Act.put, List.setIfInBounds_toArray, List.set_cons_zero, List.set_cons_succ])); (refine reg_run (i := 2) (v := ?_) rfl (by kernel_rfl) ?_ ?_ (fun _ _ _ h => h) rfl ?_ (by assumption) ?_; rotate_left; (focus (decide +kernel)); (focus (decide +kernel)); (focus (intro W hW; (try dsimp only at hW); go_simp; (try with_reducible rfl); done)); (try simp only [Act.put, List.setIfInBounds_toArray, List.set_cons_zero, List.set_cons_succ])); (refine reg_run (i := 3) (v := ?_) rfl (by kernel_rfl) ?_ ?_ (fun _ _ _ h => h) rfl ?_ (by assumption) ?_; rotate_left; (focus (decide +kernel)); (focus (decide +kernel)); (focus (intro W hW; (try dsimp only at hW); go_simp; (try with_reducible rfl); done)); (try simp only [Act.put, List.setIfInBounds_toArray, List.set_cons_zero, List.set_cons_succ])); (refine reg_load (i := 4) (cs := idC x) rfl rfl (by kernel_rfl) ?_ ?_ rfl hu rfl ?_ (by rw [idC_len]; exact info_sz) rfl (fun _ _ _ h => h) (by assumption) ?_; (focus (decide +kernel)); (focus (decide +kernel)); (focus (intro W hW; (try dsimp only at hW); go_split_ands; assumption)); (try simp only [Act.put, List.setIfInBounds_toArray, List.set_cons_zero, List.set_cons_succ])); (refine reg_run (i := 5) (v := ?_) rfl (by kernel_rfl) ?_ ?_ (fun _ _ _ h => h) rfl ?_ (by assumption) ?_; rotate_left; (focus (decide +kernel)); (focus (decide +kernel)); (focus (intro W hW; (try dsimp only at hW); go_simp; (try with_reducible rfl); done)); (try simp only [Act.put, List.setIfInBounds_toArray, List.set_cons_zero, List.set_cons_succ])); (refine reg_run (i := 6) (v := ?_) rfl (by kernel_rfl) ?_ ?_ (fun _ _ _ h => h) rfl ?_ (by assumption) ?_; rotate_left; (focus (decide +kernel)); (focus (decide +kernel)); (focus (intro W hW; (try dsimp only at hW); go_simp; (try with_reducible rfl); done)); (try simp only [Act.put, List.setIfInBounds_toArray, List.set_cons_zero, List.set_cons_succ])); (refine reg_run (i := 7) (v := ?_) rfl (by kernel_rfl) ?_ ?_ (fun _ _ _ h => h) rfl ?_ (by assumption) ?_; rotate_left; (focus (decide +kernel)); (focus (decide +kernel)); (focus (intro W hW; (try dsimp only at hW); go_simp; (try with_reducible rfl); done)); (try simp only [Act.put, List.setIfInBounds_toArray, List.set_cons_zero, List.set_cons_succ])); (refine reg_run (i := 8) (v := ?_) rfl (by kernel_rfl) ?_ ?_ (fun _ _ _ h => h) rfl ?_ (by assumption) ?_; rotate_left; (focus (decide +kernel)); (focus (decide +kernel)); (focus (intro W hW; (try dsimp only at hW); go_simp; (try with_reducible rfl); done)); (try simp only [Act.put, List.setIfInBounds_toArray, List.set_cons_zero, List.set_cons_succ])); refine reg_eff (i := 9) rfl ?_ rfl (fun K hK => ?_); (focus (decide +kernel)); go_simp; refine hK.out _ _ (HS.out _ (by repeat (first | assumption | exact Ext.rfl' _ | apply Ext.drew1 | apply Ext.drewN1 | apply Ext.alloc1 | (refine Ext.set1' ?_ (by simp) _) | refine Ext.tr ?_ (by assumption)))) (fun hHeldN => ?_); clear hK K hHeld; have hHeld := hHeldN; clear hHeldN; (try simp only [Act.put, List.setIfInBounds_toArray, List.set_cons_zero, List.set_cons_succ]); refine reg_eff (i := 10) rfl ?_ rfl (fun K hK => ?_); (focus (decide +kernel)); go_simp; refine hK.out _ _ (HS.out _ (by repeat (first | assumption | exact Ext.rfl' _ | apply Ext.drew1 | apply Ext.drewN1 | apply Ext.alloc1 | (refine Ext.set1' ?_ (by simp) _) | refine Ext.tr ?_ (by assumption)))) (fun hHeldN => ?_); clear hK K hHeld; have hHeld := hHeldN; clear hHeldN; (try simp only [Act.put, List.setIfInBounds_toArray, List.set_cons_zero, List.set_cons_succ]); (refine reg_run (i := 11) (v := ?_) rfl (by kernel_rfl) ?_ ?_ (fun _ _ _ h => h) rfl ?_ (by assumption) ?_; rotate_left; (focus (decide +kernel)); (focus (decide +kernel)); (focus (intro W hW; (try dsimp only at hW); go_simp; (try with_reducible rfl); done)); (try simp only [Act.put, List.setIfInBounds_toArray, List.set_cons_zero, List.set_cons_succ])); refine wpAnyH_done ?_ ?_ _; (focus (decide +kernel)); clear hHeld)
  have hw1 : Ext w w1 := (by repeat (first | assumption | exact Ext.rfl' _ | apply Ext.drew1 | apply Ext.drewN1 | apply Ext.alloc1 | (refine Ext.set1' ?_ (by simp) _) | refine Ext.tr ?_ (by assumption)))
  go_wp2_with (go_at_call 32; refine (clone_ids A n c ps _ HN.out hb (HR.out.ext (by repeat (first | assumption | exact Ext.rfl' _ | apply Ext.drew1 | apply Ext.drewN1 | apply Ext.alloc1 | (refine Ext.set1' ?_ (by simp) _) | refine Ext.tr ?_ (by assumption))))).mono ?_; rintro e w2 ⟨v2, rfl, ho, he⟩; obtain ⟨VA, vk, vc, rfl, HVL, hv1, hv2⟩ := ho.named; have hvk : vk ≤ 1000000000 := (by have h1 := HVL.out; have h2 := HN.out; omega); have HO := Hd.mk ho; clear ho)
  have HBX := Hd.mk (Chg.blk (show Ext (w.alloc (.cells (idA x) 24)) w2 from (by repeat (first | assumption | exact Ext.rfl' _ | apply Ext.drew1 | apply Ext.drewN1 | apply Ext.alloc1 | (refine Ext.set1' ?_ (by simp) _) | refine Ext.tr ?_ (by assumption)))) (heap_alloc_new w _) (fun h => h))
  have hw2 : Ext w w2 := (by repeat (first | assumption | exact Ext.rfl' _ | apply Ext.drew1 | apply Ext.drewN1 | apply Ext.alloc1 | (refine Ext.set1' ?_ (by simp) _) | refine Ext.tr ?_ (by assumption)))
  have HVR : Hd (RowAt Ty.id VA ps w2) := ⟨OwnK.rowAt idFlat HO.out⟩
  have HVB : Hd (∀ ad, VA = some ad → w.heap.size ≤ ad.block) := ⟨fun ad e => by
    have h1 := (HO.out.lt ad.block (by rw [e]; rfl)).1
    have h2 : Ext w (w1.alloc (.cells #[.slice NA nk nc, .int .i64 d] 68)) := (by repeat (first | assumption | exact Ext.rfl' _ | apply Ext.drew1 | apply Ext.drewN1 | apply Ext.alloc1 | (refine Ext.set1' ?_ (by simp) _) | refine Ext.tr ?_ (by assumption)))
    have h3 := h2.size
    simp at h1 h3 ⊢
    omega⟩
  clear HO HS
  clear he hw1
  generalize he12 : w1.alloc (.cells #[.slice NA nk nc, .int .i64 d] 68) = w12 at *
  clear he12
  obtain ⟨nb, hnb⟩ : ∃ nb, w2.heap.size = nb := ⟨_, rfl⟩
  rw [hnb]
  have HNB := Hd.mk hnb
  have HC0 : Hd ((w2.alloc (.cells #[.slice VA vk vc, .int .i64 1] 68)).heap[nb]? = some (.cells #[.slice VA vk vc, .int .i64 1] 68 (0, 0))) := ⟨by rw [← hnb]; exact heap_alloc_new _ _⟩
  clear hnb
  go_wp2
  go_loopw [40] (fun iv wr => ∃ (k : Nat), iv = .int .i64 k ∧ k ≤ n ∧ Hd (∀ q ∈ ps.take k, has D q = true) ∧ Hd (wr.heap[nb]? = some (.cells #[.slice VA vk vc, .int .i64 (depF D (ps.take k))] 68 (0, 0))) ∧ Hd (Ext w2 wr)) (fun iv _ => n - (intOf iv).toNat)
  case atStart => exact ⟨0, rfl, by omega, ⟨by simp⟩, HC0, ⟨Ext.alloc' _ _⟩⟩
  case round =>
    obtain ⟨k, rfl, hk, HAL, HC, HE⟩ := hrel
    clear HC0
    by_cases hlt : k < n
    · obtain ⟨q, hq⟩ : ∃ q, ps[k]? = some q := ⟨_, List.getElem?_eq_getElem (by have := HN.out; omega)⟩
      obtain ⟨go, oo, rfl, hrng⟩ := open_ids HR.out (by have := HN.out; omega)
      have hE : Ext w wr := hw2.tr HE.out
      have HRQ := Hd.mk (hrng wr hE k q hq)
      have HQ := Hd.mk hq
      obtain ⟨QA, qk, qc, hq1, hq2, HQL, hqk1, hqk2, HQR⟩ := HD.out.node q
      obtain ⟨dq, hdq⟩ : ∃ dq, dep D q = dq := ⟨_, rfl⟩
      obtain ⟨bq, hbq⟩ : ∃ bq, has D q = bq := ⟨_, rfl⟩
      obtain ⟨dk, hdk⟩ : ∃ dk, depF D (ps.take k) = dk := ⟨_, rfl⟩
      have hdk9 : dk ≤ 1000000001 := by rw [← hdk]; exact depF_le HDEP.out _
      have hdq9 : dq ≤ 1000000000 := by rw [← hdq]; exact HDEP.out q
      rw [hdq, hbq] at hq2
      rw [hdk] at HC
      have HDQ := Hd.mk hdq
      have HBQ := Hd.mk hbq
      have HDK := Hd.mk hdk
      have HS : Hd (∀ W, Ext (wr.alloc (.cells (idA q) 24)) W → W.rangeAt wr.heap.size 0 (idC q) ∧ W.cell? ⟨g, 0, none⟩ = some (.map (some m1)) ∧ (Instr.lookup 63 (.map (some m1)) (.agg (idA q)) true).run Try.prog W = .ok (.tuple #[.agg #[.slice QA qk qc, .int .i64 dq], .bool bq]) W) := ⟨fun W he =>
        ⟨range_blk (he.blk (heap_alloc_new wr _) (fun h => h)), (hE.tr ((Ext.alloc' wr _).tr he)).cell (blk_cell HD.out.1 0) (fun h => h), hq2 W (hE.tr ((Ext.alloc' wr _).tr he))⟩⟩
      clear hrng hq hq1 hq2 hdq hbq hdk
      have b1 : (0 : Int) ≤ (k : Int) := by omega
      have b2 : (k : Int) < (n : Int) := by omega
      go_wp2_with (first
        | (refine wpList_load_mid (P := Try.prog) rfl 24 (.tmp 42) rfl go (oo + k * 32) rfl (idC q) _ HRQ.out hu rfl (by rw [idC_len]; exact info_sz) ?_)
        | (refine wpList_var_id rfl rfl rfl (.tmp 11) (.tmp 43) rfl q rfl rfl ?_))
      (refine wp_region_held_drew (S := fun W => W.rangeAt wr.heap.size 0 (idC q) ∧ W.cell? ⟨g, 0, none⟩ = some (.map (some m1)) ∧ (Instr.lookup 63 (.map (some m1)) (.agg (idA q)) true).run Try.prog W = .ok (.tuple #[.agg #[.slice QA qk qc, .int .i64 dq], .bool bq]) W) (by kernel_rfl) (HS.out _ (by repeat (first | assumption | exact Ext.rfl' _ | apply Ext.drew1 | apply Ext.drewN1 | apply Ext.alloc1 | (refine Ext.set1' ?_ (by simp) _) | refine Ext.tr ?_ (by assumption)))) (fun hHeld => ?_); (refine reg_run (i := 0) (v := ?_) rfl (by kernel_rfl) ?_ ?_ (fun _ _ _ h => h) rfl ?_ (by assumption) ?_; rotate_left; (focus (decide +kernel)); (focus (decide +kernel)); (focus (intro W hW; (try dsimp only at hW); go_simp; (try with_reducible rfl); done)); (try simp only [Act.put, List.setIfInBounds_toArray, List.set_cons_zero, List.set_cons_succ])); (refine reg_run (i := 1) (v := ?_) rfl (by kernel_rfl) ?_ ?_ (fun _ _ _ h => h) rfl ?_ (by assumption) ?_; rotate_left; (focus (decide +kernel)); (focus (decide +kernel)); (focus (intro W hW; (try dsimp only at hW); go_simp; (try with_reducible rfl); done)); (try simp only [Act.put, List.setIfInBounds_toArray, List.set_cons_zero, List.set_cons_succ])); (refine reg_run (i := 2) (v := ?_) rfl (by kernel_rfl) ?_ ?_ (fun _ _ _ h => h) rfl ?_ (by assumption) ?_; rotate_left; (focus (decide +kernel)); (focus (decide +kernel)); (focus (intro W hW; (try dsimp only at hW); go_simp; (try with_reducible rfl); done)); (try simp only [Act.put, List.setIfInBounds_toArray, List.set_cons_zero, List.set_cons_succ])); (refine reg_run (i := 3) (v := ?_) rfl (by kernel_rfl) ?_ ?_ (fun _ _ _ h => h) rfl ?_ (by assumption) ?_; rotate_left; (focus (decide +kernel)); (focus (decide +kernel)); (focus (intro W hW; (try dsimp only at hW); go_simp; (try with_reducible rfl); done)); (try simp only [Act.put, List.setIfInBounds_toArray, List.set_cons_zero, List.set_cons_succ])); (refine reg_load (i := 4) (cs := idC q) rfl rfl (by kernel_rfl) ?_ ?_ rfl hu rfl ?_ (by rw [idC_len]; exact info_sz) rfl (fun _ _ _ h => h) (by assumption) ?_; (focus (decide +kernel)); (focus (decide +kernel)); (focus (intro W hW; (try dsimp only at hW); go_split_ands; assumption)); (try simp only [Act.put, List.setIfInBounds_toArray, List.set_cons_zero, List.set_cons_succ])); (refine reg_run (i := 5) (v := ?_) rfl (by kernel_rfl) ?_ ?_ (fun _ _ _ h => h) rfl ?_ (by assumption) ?_; rotate_left; (focus (decide +kernel)); (focus (decide +kernel)); (focus (intro W hW; (try dsimp only at hW); go_simp; (try with_reducible rfl); done)); (try simp only [Act.put, List.setIfInBounds_toArray, List.set_cons_zero, List.set_cons_succ])); (refine reg_run (i := 6) (v := ?_) rfl (by kernel_rfl) ?_ ?_ (fun _ _ _ h => h) rfl ?_ (by assumption) ?_; rotate_left; (focus (decide +kernel)); (focus (decide +kernel)); (focus (intro W hW; (try dsimp only at hW); go_simp; (try with_reducible rfl); done)); (try simp only [Act.put, List.setIfInBounds_toArray, List.set_cons_zero, List.set_cons_succ])); (refine reg_run (i := 7) (v := ?_) rfl (by kernel_rfl) ?_ ?_ (fun _ _ _ h => h) rfl ?_ (by assumption) ?_; rotate_left; (focus (decide +kernel)); (focus (decide +kernel)); (focus (intro W hW; (try dsimp only at hW); go_simp; (try with_reducible rfl); done)); (try simp only [Act.put, List.setIfInBounds_toArray, List.set_cons_zero, List.set_cons_succ])); (refine reg_run (i := 8) (v := ?_) rfl (by kernel_rfl) ?_ ?_ (fun _ _ _ h => h) rfl ?_ (by assumption) ?_; rotate_left; (focus (decide +kernel)); (focus (decide +kernel)); (focus (intro W hW; (try dsimp only at hW); go_simp; (try with_reducible rfl); done)); (try simp only [Act.put, List.setIfInBounds_toArray, List.set_cons_zero, List.set_cons_succ])); refine reg_eff (i := 9) rfl ?_ rfl (fun K hK => ?_); (focus (decide +kernel)); go_simp; refine hK.out _ _ (HS.out _ (by repeat (first | assumption | exact Ext.rfl' _ | apply Ext.drew1 | apply Ext.drewN1 | apply Ext.alloc1 | (refine Ext.set1' ?_ (by simp) _) | refine Ext.tr ?_ (by assumption)))) (fun hHeldN => ?_); clear hK K hHeld; have hHeld := hHeldN; clear hHeldN; (try simp only [Act.put, List.setIfInBounds_toArray, List.set_cons_zero, List.set_cons_succ]); refine reg_eff (i := 10) rfl ?_ rfl (fun K hK => ?_); (focus (decide +kernel)); go_simp; refine hK.out _ _ (HS.out _ (by repeat (first | assumption | exact Ext.rfl' _ | apply Ext.drew1 | apply Ext.drewN1 | apply Ext.alloc1 | (refine Ext.set1' ?_ (by simp) _) | refine Ext.tr ?_ (by assumption)))) (fun hHeldN => ?_); clear hK K hHeld; have hHeld := hHeldN; clear hHeldN; (try simp only [Act.put, List.setIfInBounds_toArray, List.set_cons_zero, List.set_cons_succ]); (refine reg_run (i := 11) (v := ?_) rfl (by kernel_rfl) ?_ ?_ (fun _ _ _ h => h) rfl ?_ (by assumption) ?_; rotate_left; (focus (decide +kernel)); (focus (decide +kernel)); (focus (intro W hW; (try dsimp only at hW); go_simp; (try with_reducible rfl); done)); (try simp only [Act.put, List.setIfInBounds_toArray, List.set_cons_zero, List.set_cons_succ])); refine wpAnyH_done ?_ ?_ _; (focus (decide +kernel)); clear hHeld)
      have hW9e : Ext wr ((wr.alloc (.cells (idA q) 24)).alloc (.cells #[.slice QA qk qc, .int .i64 dq] 68)).drew := (by repeat (first | assumption | exact Ext.rfl' _ | apply Ext.drew1 | apply Ext.drewN1 | apply Ext.alloc1 | (refine Ext.set1' ?_ (by simp) _) | refine Ext.tr ?_ (by assumption)))
      have hW9n : ((wr.alloc (.cells (idA q) 24)).alloc (.cells #[.slice QA qk qc, .int .i64 dq] 68)).drew.heap[wr.heap.size + 1]? = some (.cells #[.slice QA qk qc, .int .i64 dq] 68 (0, 0)) := heap_alloc2_new wr _ _
      generalize hW9 : ((wr.alloc (.cells (idA q) 24)).alloc (.cells #[.slice QA qk qc, .int .i64 dq] 68)).drew = W9 at hW9e hW9n ⊢
      clear hW9
      have HCW := Hd.mk (hW9e.blk HC.out (fun h => h))
      have cn : W9.cell? ⟨nb, 1, none⟩ = some (.int .i64 dk) := blk_cell HCW.out 1
      have fn := blk_free HCW.out 1
      have cq : W9.cell? ⟨wr.heap.size + 1, 1, none⟩ = some (.int .i64 dq) := blk_cell hW9n 1
      have HW9 := Hd.mk hW9e
      clear hW9n hW9e HC HS
      cases bq
      · have hres : (addF D x ps) = (D, 110) := by
          rw [HF.out, if_neg]
          intro hall
          have := List.all_eq_true.1 hall q (List.mem_of_getElem? HQ.out)
          rw [HBQ.out] at this; cases this
        have HRES := Hd.mk hres
        clear hres
        go_wp2
        go_ret
        have hfin : Ext w W9 := hE.tr HW9.out
        exact ⟨⟨by rw [HRES.out]; rfl, by rw [HRES.out]; exact HD.out.ext hfin, hfin.mono (fun _ _ h => h.elim)⟩, RowsMove.ext HD.out hfin⟩
      · have hnew := depF_take (D := D) HQ.out
        rw [HDK.out, HDQ.out] at hnew
        have hall : ∀ z ∈ ps.take (k + 1), has D z = true := fun z hz => by
          rw [take_snoc' HQ.out, List.mem_append, List.mem_singleton] at hz
          rcases hz with hz | rfl
          · exact HAL.out z hz
          · exact HBQ.out
        have HALL := Hd.mk hall
        have HNEW := Hd.mk hnew
        clear hall hnew
        by_cases hm : dk < dq + 1
        · go_wp2
          go_roundw
          case rel =>
            refine ⟨k + 1, by go_num, by omega, HALL, ⟨?_⟩, ⟨(HE.out.tr HW9.out).set1' (by have := HNB.out; simp; omega) _⟩⟩
            have := blk_set HCW.out 1 (.int .i64 ((dq : Int) + 1))
            rw [HNEW.out, show max dk (dq + 1) = dq + 1 by omega]
            exact this
          case measure => simp [intOf]; omega
        · go_wp2
          go_roundw
          case rel =>
            refine ⟨k + 1, by go_num, by omega, HALL, ⟨?_⟩, ⟨(HE.out.tr HW9.out).set1' (by have := HNB.out; simp; omega) _⟩⟩
            have := blk_set HCW.out 1 (.int .i64 (dk : Int))
            rw [HNEW.out, show max dk (dq + 1) = dk by omega]
            exact this
          case measure => simp [intOf]; omega
    · obtain rfl : k = n := by omega
      have hres : (addF D x ps) = (D ++ [(x, (ps, depF D ps))], 0) := by
        rw [HF.out, if_pos]
        refine List.all_eq_true.2 (fun z hz => HAL.out z ?_)
        rw [List.take_of_length_le (by rw [HN.out]; omega)]; exact hz
      have HRES := Hd.mk hres
      have hdn : depF D (ps.take k) = depF D ps := by rw [List.take_of_length_le (by rw [HN.out]; omega)]
      rw [hdn] at HC
      obtain ⟨dn, hdn2⟩ : ∃ dn, depF D ps = dn := ⟨_, rfl⟩
      rw [hdn2] at HC
      have HDN := Hd.mk hdn2
      have hlk : look D x = none := by
        have := HLK.out
        unfold has at this
        cases h : look D x with
        | none => rfl
        | some z => rw [h] at this; cases this
      have HLK2 := Hd.mk hlk
      clear hres hdn hdn2 hlk
      obtain ⟨wo, rfl⟩ : ∃ wo : World, wo = wr := ⟨_, rfl⟩
      have hE : Ext w wo := hw2.tr HE.out
      obtain ⟨hg0, hmne, ⟨l1, a1, a2, a3⟩, l2, b1, b2⟩ := HD.out.ext hE
      have hgm1 := a1.ne hg0
      have hgm2 := b1.ne hg0
      have HG0 := Hd.mk hg0
      have HA1 := Hd.mk a1
      have HA2 := Hd.mk a2
      have HA3 := Hd.mk a3
      have HB1 := Hd.mk b1
      have HB2 := Hd.mk b2
      have HVW : Hd (RowAt Ty.id VA ps wo) := ⟨HVR.out.ext HE.out⟩
      have HRW : Hd (RowAt Ty.id A ps wo) := ⟨HR.out.ext hE⟩
      have HBXo := Hd.mk (HE.out.blk HBX.out (fun h => h))
      clear hg0 a1 a2 a3 b1 b2
      go_wp2
      go_loopw [65] (fun iv wr => ∃ (i : Nat), iv = .int .i64 i ∧ i ≤ k ∧ Hd (Chg (· = m2) wo wr) ∧ Hd (∃ l2', MapAt idV m2 l2' wr ∧ ∀ y, look l2' y = if (isKid D y || (ps.take i).contains y) = true then some (.bool true) else none)) (fun iv _ => k - (intOf iv).toNat)
      case atStart => exact ⟨0, rfl, by omega, ⟨Chg.refl _ _⟩, ⟨l2, HB1.out, fun y => by rw [HB2.out y]; simp⟩⟩
      case round =>
        obtain ⟨i, rfl, hi, HCH, HL2⟩ := hrel
        by_cases hlt2 : i < k
        · obtain ⟨q, hq⟩ : ∃ q, ps[i]? = some q := ⟨_, List.getElem?_eq_getElem (by have := HN.out; omega)⟩
          obtain ⟨lq, hlq, hlq2⟩ := HL2.out
          obtain ⟨_, esq, ckq, hmb, _⟩ := id HB1.out
          obtain ⟨go, oo, rfl, hrng⟩ := open_ids (HRW.out.chgMap idFlat hmb HCH.out) (by have := HN.out; omega)
          have HRQ := Hd.mk (hrng wr (Ext.rfl' _) i q hq)
          have HQ := Hd.mk hq
          have hgq := HCH.out.blk HG0.out (fun e => hgm2 e.symm)
          have hmq := (hlq.ext (Ext.alloc' wr (.cells (idA q) 24))).lt
          have hne2 : ¬ wr.heap.size = m2 := fun e => by have := hlq.lt; omega
          have HS : Hd (∀ W, Chg (· = m2) (wr.alloc (.cells (idA q) 24)) W → W.rangeAt wr.heap.size 0 (idC q) ∧ W.cell? ⟨g, 1, none⟩ = some (.map (some m2))) := ⟨fun W he =>
            ⟨range_blk (he.blk (heap_alloc_new wr _) hne2), blk_cell (he.blk (blk_alloc hgq _) (fun e => hgm2 e.symm)) 1⟩⟩
          obtain ⟨w6, hup, hm6, hc6, hs6⟩ := run_mapUpdate idKeys Try.underlying60 (w := (wr.alloc (.cells (idA q) 24)).drew) (show MapAt idV m2 lq (wr.alloc (.cells (idA q) 24)).drew from hlq.ext (Ext.alloc' _ _).drew1) q (.bool true)
          have hup2 : (Instr.mapUpdate 60 (.map (some m2)) (.agg (idA q)) (.bool true)).run Try.prog (wr.alloc (.cells (idA q) 24)).drew = .ok () w6 := hup
          have hcw : Chg (· = m2) (wr.alloc (.cells (idA q) 24)) w6 := ((Chg.refl (· = m2) _).drew).trans hc6 (fun _ _ h => h)
          have HM6 : Hd (∃ l2', MapAt idV m2 l2' w6 ∧ ∀ y, look l2' y = if (isKid D y || (ps.take (i + 1)).contains y) = true then some (.bool true) else none) := ⟨_, hm6, fun y => by
            rw [look_put, hlq2 y, contains_take hq]
            by_cases e : y = q <;> simp [e]⟩
          have HCW := Hd.mk hcw
          clear hup hm6 hlq hlq2 hrng hq hmb hs6 hc6 hcw hgq hmq HL2
          have b1 : (0 : Int) ≤ (i : Int) := by omega
          have b2 : (i : Int) < (k : Int) := by omega
          go_wp2_with (first
            | (refine wpList_load_mid (P := Try.prog) rfl 24 (.tmp 67) rfl go (oo + i * 32) rfl (idC q) _ HRQ.out hu rfl (by rw [idC_len]; exact info_sz) ?_)
            | (refine wpList_var_id rfl rfl rfl (.tmp 15) (.tmp 68) rfl q rfl rfl ?_))
          (refine wp_region_held_drew (S := fun W => W.rangeAt wr.heap.size 0 (idC q) ∧ W.cell? ⟨g, 1, none⟩ = some (.map (some m2))) (by kernel_rfl) (by first | exact HS.out _ (Chg.refl _ _).drew | exact HS.out _ HCW.out) (fun hHeld => ?_); (refine reg_run (i := 0) (v := ?_) rfl (by kernel_rfl) ?_ ?_ (fun _ _ _ h => h) rfl ?_ (by assumption) ?_; rotate_left; (focus (decide +kernel)); (focus (decide +kernel)); (focus (intro W hW; (try dsimp only at hW); go_simp; (try with_reducible rfl); done)); (try simp only [Act.put, List.setIfInBounds_toArray, List.set_cons_zero, List.set_cons_succ])); (refine reg_run (i := 1) (v := ?_) rfl (by kernel_rfl) ?_ ?_ (fun _ _ _ h => h) rfl ?_ (by assumption) ?_; rotate_left; (focus (decide +kernel)); (focus (decide +kernel)); (focus (intro W hW; (try dsimp only at hW); go_simp; (try with_reducible rfl); done)); (try simp only [Act.put, List.setIfInBounds_toArray, List.set_cons_zero, List.set_cons_succ])); (refine reg_run (i := 2) (v := ?_) rfl (by kernel_rfl) ?_ ?_ (fun _ _ _ h => h) rfl ?_ (by assumption) ?_; rotate_left; (focus (decide +kernel)); (focus (decide +kernel)); (focus (intro W hW; (try dsimp only at hW); go_simp; (try with_reducible rfl); done)); (try simp only [Act.put, List.setIfInBounds_toArray, List.set_cons_zero, List.set_cons_succ])); (refine reg_run (i := 3) (v := ?_) rfl (by kernel_rfl) ?_ ?_ (fun _ _ _ h => h) rfl ?_ (by assumption) ?_; rotate_left; (focus (decide +kernel)); (focus (decide +kernel)); (focus (intro W hW; (try dsimp only at hW); go_simp; (try with_reducible rfl); done)); (try simp only [Act.put, List.setIfInBounds_toArray, List.set_cons_zero, List.set_cons_succ])); (refine reg_load (i := 4) (cs := idC q) rfl rfl (by kernel_rfl) ?_ ?_ rfl hu rfl ?_ (by rw [idC_len]; exact info_sz) rfl (fun _ _ _ h => h) (by assumption) ?_; (focus (decide +kernel)); (focus (decide +kernel)); (focus (intro W hW; (try dsimp only at hW); go_split_ands; assumption)); (try simp only [Act.put, List.setIfInBounds_toArray, List.set_cons_zero, List.set_cons_succ])); refine reg_eff (i := 5) rfl ?_ rfl (fun K hK => ?_); (focus (decide +kernel)); go_simp; refine hK.out _ _ (by first | exact HS.out _ (Chg.refl _ _).drew | exact HS.out _ HCW.out) (fun hHeldN => ?_); clear hK K hHeld; have hHeld := hHeldN; clear hHeldN; (try simp only [Act.put, List.setIfInBounds_toArray, List.set_cons_zero, List.set_cons_succ]); refine wpAnyH_done ?_ ?_ _; (focus (decide +kernel)); clear hHeld)
          go_wp2
          go_roundw
          case rel => exact ⟨i + 1, by go_num, by omega, ⟨(HCH.out.alloc _).trans HCW.out (fun _ _ h => h)⟩, HM6⟩
          case measure => simp [intOf]; omega
        · obtain rfl : i = k := by omega
          obtain ⟨lq, hlq, hlq2⟩ := HL2.out
          obtain ⟨_, esq, ckq, hmb, _⟩ := id HB1.out
          have hgq := HCH.out.blk HG0.out (fun e => hgm2 e.symm)
          have hm1q : MapAt idV m1 l1 wr := HA1.out.chg HCH.out hmne
          have hxq := HCH.out.blk HBXo.out (fun e => HB1.out.ne HBXo.out e.symm)
          have hnq := HCH.out.blk HC.out (fun e => HB1.out.ne HC.out e.symm)
          have hg1x := hm1q.ne hxq
          have hg1n := hm1q.ne hnq
          have hg1g := hm1q.ne hgq
          obtain ⟨_, es1, ck1, hmb1, _⟩ := id hm1q
          have HS : Hd (∀ W, Chg (· = m1) wr W → W.rangeAt w.heap.size 0 (idC x) ∧ W.cell? ⟨g, 0, none⟩ = some (.map (some m1)) ∧ W.cell? ⟨nb, 0, none⟩ = some (.slice VA vk vc) ∧ W.cell? ⟨nb, 1, none⟩ = some (.int .i64 dn)) := ⟨fun W he =>
            ⟨range_blk (he.blk hxq (fun e => hg1x e.symm)), blk_cell (he.blk hgq (fun e => hg1g e.symm)) 0, blk_cell (he.blk hnq (fun e => hg1n e.symm)) 0, blk_cell (he.blk hnq (fun e => hg1n e.symm)) 1⟩⟩
          obtain ⟨w6, hup, hm6, hc6, hs6⟩ := run_mapUpdate idKeys Try.underlying63 (w := wr.drew) (show MapAt idV m1 l1 wr.drew from hm1q) x (.agg #[.slice VA vk vc, .int .i64 dn])
          have hup2 : (Instr.mapUpdate 63 (.map (some m1)) (.agg (idA x)) (.agg #[.slice VA vk vc, .int .i64 dn])).run Try.prog wr.drew = .ok () w6 := hup
          have hcw : Chg (· = m1) wr w6 := ((Chg.refl (· = m1) _).drew).trans hc6 (fun _ _ h => h)
          have HCW := Hd.mk hcw
          have hfin : DagAt g m1 m2 (D ++ [(x, (ps, depF D ps))]) w6 := by
            refine dag_add (l1 := l1) (hcw.blk hgq (fun e => hg1g e.symm)) hmne HLK2.out HA2.out rfl hm6 (fun y nd hy => ?_) ?_ (hlq.chg hcw (fun e => hmne e.symm)) (fun y => ?_)
            · obtain ⟨v, h1, h2⟩ := HA3.out y nd hy
              exact ⟨v, h1, (h2.chgMap hmb HCH.out).chgMap hmb1 hcw⟩
            · refine ⟨VA, vc, ?_, by rw [HVL.out]; exact hv1, hv2, (HVW.out.chgMap idFlat hmb HCH.out).chgMap idFlat hmb1 hcw⟩
              rw [HVL.out, HDN.out]
            · rw [hlq2 y, List.take_of_length_le (by rw [HN.out]; omega)]
          have HFIN := Hd.mk hfin
          have hend : Chg (fun b => b = m1 ∨ b = m2) w w6 := (hE.mono (fun _ _ h => h.elim)).trans ((HCH.out.mono (T := fun b => b = m1 ∨ b = m2) (fun _ _ h => .inr h)).trans hcw (fun _ _ h => .inl h)) (fun _ _ h => h)
          have HEND := Hd.mk hend
          have hmove : RowsMove m1 w w6 := fun F hF => by
            intro l' hl' y v hy
            obtain rfl := listOf_inj hm6 hl'
            rw [look_put] at hy
            split at hy
            · injection hy with hy
              subst hy
              intro A' k' c' d' e hk ad ha
              injection e with e
              simp only [Array.mk.injEq, List.cons.injEq, Value.slice.injEq] at e
              exact .inr (HVB.out ad (e.1.1.trans ha))
            · obtain ⟨lw, hlw⟩ := HD.out.map1
              obtain rfl := listOf_inj (hlw.ext hE) HA1.out
              intro A' k' c' d' e hk ad ha
              exact .inl (hF _ hlw y v hy A' k' c' d' e hk ad ha)
          have HMOVE := Hd.mk hmove
          clear hmove
          clear hup hm6 hlq hlq2 hmb hs6 hc6 hcw hgq hxq hnq hmb1 hm1q hg1x hg1n hg1g hfin hend HL2
          go_wp2_with fail
          (refine wp_region_held_drew (S := fun W => W.rangeAt w.heap.size 0 (idC x) ∧ W.cell? ⟨g, 0, none⟩ = some (.map (some m1)) ∧ W.cell? ⟨nb, 0, none⟩ = some (.slice VA vk vc) ∧ W.cell? ⟨nb, 1, none⟩ = some (.int .i64 dn)) (by kernel_rfl) (by first | exact HS.out _ (Chg.refl _ _).drew | exact HS.out _ HCW.out) (fun hHeld => ?_); (refine reg_run (i := 0) (v := ?_) rfl (by kernel_rfl) ?_ ?_ (fun _ _ _ h => h) rfl ?_ (by assumption) ?_; rotate_left; (focus (decide +kernel)); (focus (decide +kernel)); (focus (intro W hW; (try dsimp only at hW); go_simp; (try with_reducible rfl); done)); (try simp only [Act.put, List.setIfInBounds_toArray, List.set_cons_zero, List.set_cons_succ])); (refine reg_run (i := 1) (v := ?_) rfl (by kernel_rfl) ?_ ?_ (fun _ _ _ h => h) rfl ?_ (by assumption) ?_; rotate_left; (focus (decide +kernel)); (focus (decide +kernel)); (focus (intro W hW; (try dsimp only at hW); go_simp; (try with_reducible rfl); done)); (try simp only [Act.put, List.setIfInBounds_toArray, List.set_cons_zero, List.set_cons_succ])); (refine reg_run (i := 2) (v := ?_) rfl (by kernel_rfl) ?_ ?_ (fun _ _ _ h => h) rfl ?_ (by assumption) ?_; rotate_left; (focus (decide +kernel)); (focus (decide +kernel)); (focus (intro W hW; (try dsimp only at hW); go_simp; (try with_reducible rfl); done)); (try simp only [Act.put, List.setIfInBounds_toArray, List.set_cons_zero, List.set_cons_succ])); (refine reg_run (i := 3) (v := ?_) rfl (by kernel_rfl) ?_ ?_ (fun _ _ _ h => h) rfl ?_ (by assumption) ?_; rotate_left; (focus (decide +kernel)); (focus (decide +kernel)); (focus (intro W hW; (try dsimp only at hW); go_simp; (try with_reducible rfl); done)); (try simp only [Act.put, List.setIfInBounds_toArray, List.set_cons_zero, List.set_cons_succ])); (refine reg_load (i := 4) (cs := idC x) rfl rfl (by kernel_rfl) ?_ ?_ rfl hu rfl ?_ (by rw [idC_len]; exact info_sz) rfl (fun _ _ _ h => h) (by assumption) ?_; (focus (decide +kernel)); (focus (decide +kernel)); (focus (intro W hW; (try dsimp only at hW); go_split_ands; assumption)); (try simp only [Act.put, List.setIfInBounds_toArray, List.set_cons_zero, List.set_cons_succ])); (refine reg_run (i := 5) (v := ?_) rfl (by kernel_rfl) ?_ ?_ (fun _ _ _ h => h) rfl ?_ (by assumption) ?_; rotate_left; (focus (decide +kernel)); (focus (decide +kernel)); (focus (intro W hW; (try dsimp only at hW); go_simp; (try with_reducible rfl); done)); (try simp only [Act.put, List.setIfInBounds_toArray, List.set_cons_zero, List.set_cons_succ])); refine reg_eff (i := 6) rfl ?_ rfl (fun K hK => ?_); (focus (decide +kernel)); go_simp; refine hK.out _ _ (by first | exact HS.out _ (Chg.refl _ _).drew | exact HS.out _ HCW.out) (fun hHeldN => ?_); clear hK K hHeld; have hHeld := hHeldN; clear hHeldN; (try simp only [Act.put, List.setIfInBounds_toArray, List.set_cons_zero, List.set_cons_succ]); refine wpAnyH_done ?_ ?_ _; (focus (decide +kernel)); clear hHeld)
          go_wp2
          go_ret
          exact ⟨⟨by rw [HRES.out]; rfl, by rw [HRES.out]; exact HFIN.out, HEND.out⟩, HMOVE.out⟩

/-- (*Dag).Add -/
theorem add_callsF (h : DagAt g m1 m2 D w) (hn : ps.length = n) (hb : n ≤ 1000000000) (hr : RowAt Ty.id A ps w) (hpb : (par D x).length ≤ 1000000000) (hdep : ∀ p, dep D p ≤ 1000000000) :
    Calls Try.prog 10 #[.pointer (some ⟨g, 0, none⟩), .agg (idA x), .slice A n c] w (fun e w' => AddPost g m1 m2 D x ps w e w' ∧ RowsMove m1 w w') := by
  cases hx : rightF x ps
  · exact add_wrong g m1 m2 D x ps A n c w h hn hb hr hx
  · cases hl : has D x
    · exact add_new g m1 m2 D x ps A n c w h hn hb hr hx hl hdep
    · exact add_twice g m1 m2 D x ps A n c w h hn hb hr hx hl hpb
theorem add_calls (h : DagAt g m1 m2 D w) (hn : ps.length = n) (hb : n ≤ 1000000000) (hr : RowAt Ty.id A ps w) (hpb : (par D x).length ≤ 1000000000) (hdep : ∀ p, dep D p ≤ 1000000000) :
    Calls Try.prog 10 #[.pointer (some ⟨g, 0, none⟩), .agg (idA x), .slice A n c] w (AddPost g m1 m2 D x ps w) := (add_callsF g m1 m2 D x ps A n c w h hn hb hr hpb hdep).mono fun _ _ h => h.1
end
end Go.Proofs.Ythfinaocdcinlaa
