/- grown: the walk. -/
import Derived.Test.YthfinaocdcinlaaCon4
import Derived.Test.YthfinaocdcinlaaGrown1
import Derived.Test.YthfinaocdcinlaaOpen11
import Derived.Deep.CutRange
namespace Go.Proofs.Ythfinaocdcinlaa
open Go.RowKit
attribute [local go_sem] eql_sl_nil neq_sl_nil max_two min_two
set_option linter.unusedVariables false
set_option linter.unusedSimpArgs false

theorem lid_u8' (j : Nat) (hj : j < 100) : ((j : Int) + 1) = ((UInt8.ofNat (j + 1)).toNat : Int) := by simp [UInt8.toNat_ofNat']; omega
def GPost (w : World) (e : Ending) (w' : World) : Prop := ∃ (g m1 m2 i c : Nat) (B : Option Addr) (D : Nodes), e = .returned (.tuple #[.pointer (some ⟨g, 0, none⟩), .slice B i c]) ∧ i ≤ 60 ∧ GInv i D ∧ DagAt g m1 m2 D w' ∧ OwnI w.heap.size (.slice B i c) ((List.range i).map lid) w' ∧ Ext w w'

set_option maxHeartbeats 8000000 in
set_option maxRecDepth 100000 in
theorem grown_calls (A : Option Addr) (p c : Nat) (nums : List (Int × Int)) (w : World) (hn : nums.length = p) (hb : p ≤ 9223372036854775807) (hr : RowAt Ty.int2 A nums w) :
    Calls Try.prog 28 #[.slice A p c] w (GPost w) := by
  have HN := Hd.mk hn
  have HR := Hd.mk hr
  clear hn hr
  have hu := Try.underlying24
  go_enter Try.func28, Try.ntmps28
  go_upto_region 4 with (first
    | (go_at_call 8; refine (new_calls _).mono ?_; rintro e w1 ⟨g, m1, m2, rfl, hd, he1, hm1, hm2, hgw⟩; have HD := DG.of hd; have HMS := Hd.mk (And.intro hm1 (And.intro hm2 hgw)); clear hd hm1 hm2 hgw))
  have hHE : Ext w (w1.alloc (.cells #[] 24)) := (by repeat (first | assumption | exact Ext.rfl' _ | apply Ext.drew1 | apply Ext.drewN1 | apply Ext.alloc1 | (refine Ext.set1' ?_ (by simp) _) | refine Ext.tr ?_ (by assumption)))
  have hO0 : OwnI w.heap.size (.slice (some ⟨w1.heap.size, 0, none⟩) 0 0) [] (w1.alloc (.cells #[] 24)) := OwnK.lit idFlat w1 w.heap.size 24 [] he1.size (by simp)
  have hD0 : DG g m1 m2 (fun b => (Value.slice (some ⟨w1.heap.size, 0, none⟩) 0 0).ownBlock ≠ some b) [] (w1.alloc (.cells #[] 24)) := (HD.mono (fun b hb e => by simp [Value.ownBlock] at e; omega)).ext (by repeat (first | assumption | exact Ext.rfl' _ | apply Ext.drew1 | apply Ext.drewN1 | apply Ext.alloc1 | (refine Ext.set1' ?_ (by simp) _) | refine Ext.tr ?_ (by assumption)))
  have HO0 := Hd.mk hO0
  have HE0 := Hd.mk hHE
  have HMW : Hd (w.heap.size ≤ m1 ∧ w.heap.size ≤ m2) := ⟨⟨HMS.out.1, HMS.out.2.1⟩⟩
  clear hO0 hHE HD HMS
  go_loopw [5, 16] (fun v5 v16 wr => ∃ (i c5 : Nat) (B : Option Addr) (D : Nodes), v16 = .int .i64 i ∧ v5 = .slice B i c5 ∧ i ≤ p ∧ i ≤ 60 ∧ GInv i D ∧ Hd (OwnI w.heap.size (.slice B i c5) ((List.range i).map lid) wr) ∧ DG g m1 m2 (fun b => (Value.slice B i c5).ownBlock ≠ some b) D wr ∧ Hd (Ext w wr)) (fun _ v16 _ => p - (intOf v16).toNat)
  case atStart => exact ⟨0, 0, _, [], rfl, rfl, by omega, by omega, GInv.nil, HO0, hD0, HE0⟩
  case round =>
    obtain ⟨i, c5, B, D, rfl, rfl, hip, hi6, HG, HO, HDI, HE⟩ := hrel
    clear hD0 HO0 HE0
    by_cases hlt : i < p
    · obtain ⟨x, hx⟩ : ∃ x, nums[i]? = some x := ⟨nums[i]'(by have := HN.out; omega), List.getElem?_eq_getElem _⟩
      obtain ⟨pg, po, rfl, c1, c2⟩ := (HR.out.ext HE.out).int2 i x hx
      clear hx
      by_cases h60 : i < 60
      · obtain ⟨bu, hbu⟩ : ∃ b : UInt8, UInt8.ofNat (i + 1) = b := ⟨_, rfl⟩
        have HU8 : Hd ((i : Int) + 1 = (bu.toNat : Int)) := ⟨by rw [← hbu]; exact lid_u8' i (by omega)⟩
        obtain ⟨y, hy⟩ : ∃ y, cid bu = y := ⟨_, rfl⟩
        have HY : Hd (lid i = y) := ⟨by rw [← hy, ← hbu]; rfl⟩
        have HYB := Hd.mk hy
        clear hbu hy
        go_upto_region 9 with (first
          | ((with_reducible refine wpList_at 26 ?_); refine wpList_build1I (by rfl) (.tmp 25) rfl bu rfl HU8.out ?_; rw [HYB.out]; go_frame)
          | ((with_reducible refine wpList_at 8 ?_); refine wpList_var_id rfl rfl rfl (.tmp 8) (.tmp 26) rfl y rfl rfl ?_; go_frame))
        rw [show (wr.alloc (.cells #[.int .i64 x.1, .int .i64 x.2] 80)).heap.size = wr.heap.size + 1 by simp]
        have hE3 : Ext wr (((wr.alloc (.cells #[.int .i64 x.1, .int .i64 x.2] 80)).alloc (.cells (idA y) 24)).alloc (.cells #[] 24)) := (by repeat (first | assumption | exact Ext.rfl' _ | apply Ext.drew1 | apply Ext.drewN1 | apply Ext.alloc1 | (refine Ext.set1' ?_ (by simp) _) | refine Ext.tr ?_ (by assumption)))
        have hs3 : (((wr.alloc (.cells #[.int .i64 x.1, .int .i64 x.2] 80)).alloc (.cells (idA y) 24)).alloc (.cells #[] 24)).heap.size = wr.heap.size + 3 := by simp
        have hp3 : (((wr.alloc (.cells #[.int .i64 x.1, .int .i64 x.2] 80)).alloc (.cells (idA y) 24)).alloc (.cells #[] 24)).heap[wr.heap.size]? = some (.cells #[.int .i64 x.1, .int .i64 x.2] 80 (0, 0)) := blk_alloc (blk_alloc (heap_alloc_new _ _) _) _
        have hi3 : (((wr.alloc (.cells #[.int .i64 x.1, .int .i64 x.2] 80)).alloc (.cells (idA y) 24)).alloc (.cells #[] 24)).heap[wr.heap.size + 1]? = some (.cells (idA y) 24 (0, 0)) := by
          have := blk_alloc (heap_alloc_new (wr.alloc (.cells #[.int .i64 x.1, .int .i64 x.2] 80)) (.cells (idA y) 24)) (.cells #[] 24)
          simpa using this
        have ho3 : OwnI (wr.heap.size + 2) (.slice (some ⟨wr.heap.size + 1 + 1, 0, none⟩) 0 0) [] (((wr.alloc (.cells #[.int .i64 x.1, .int .i64 x.2] 80)).alloc (.cells (idA y) 24)).alloc (.cells #[] 24)) := by
          have := OwnK.lit idFlat ((wr.alloc (.cells #[.int .i64 x.1, .int .i64 x.2] 80)).alloc (.cells (idA y) 24)) (wr.heap.size + 2) 24 [] (by simp) (by simp)
          simpa using this
        generalize ((wr.alloc (.cells #[.int .i64 x.1, .int .i64 x.2] 80)).alloc (.cells (idA y) 24)).alloc (.cells #[] 24) = w3 at *
        have HE3 := Hd.mk hE3
        have HS3 := Hd.mk hs3
        clear hs3
        have HP3 := Hd.mk hp3
        have HI3 := Hd.mk hi3
        have HO3 := Hd.mk ho3
        clear hE3 hp3 hi3 ho3 c1 c2
        go_cut [34] from 28 to 33 (fun v34 wx => ∃ bq : Bool, v34 = .bool bq ∧ Hd (bq = true ↔ (0 < i ∧ 0 ≤ x.1)) ∧ wx = w3)
        case first =>
          have d1 : w3.cell? ⟨wr.heap.size, 0, none⟩ = some (.int .i64 x.1) := blk_cell HP3.out 0
          by_cases hi0 : 0 < i
          · by_cases hx0 : 0 ≤ x.1
            · go_wp2_with fail
              go_meet
              exact ⟨true, rfl, ⟨by simp [hi0, hx0]⟩, rfl⟩
            · have hx1 : x.1 < 0 := by omega
              go_wp2_with fail
              go_meet
              exact ⟨false, rfl, ⟨by simp [hi0, hx0]⟩, rfl⟩
          · go_wp2_with fail
            go_meet
            exact ⟨false, rfl, ⟨by simp [hi0]⟩, rfl⟩
        case rest =>
          obtain ⟨bq, rfl, HBQ, rfl⟩ := hcut
          obtain ⟨wq, rfl⟩ : ∃ wq : World, wq = wc := ⟨_, rfl⟩
          go_upto_if 34 with (fail)
          go_cut [9, 10, 11] from 35 to 65 (fun v9 v10 v11 wx => ∃ (n c9 : Nat) (A9 : Option Addr) (ps : List Id), v9 = .slice A9 n c9 ∧ n ≤ 2 ∧ GPar i ps ∧ Hd (ps.length = n) ∧ Hd (OwnI (wr.heap.size + 2) (.slice A9 n c9) ps wx) ∧ Hd (Chg (fun b => b = wr.heap.size + 2) wq wx))
          case first =>
            cases bq
            · go_wp2_with fail
              go_meet
              exact ⟨0, 0, _, [], rfl, by omega, .inl rfl, ⟨rfl⟩, HO3, ⟨Chg.refl _ _⟩⟩
            · obtain ⟨hi0, hx0⟩ := HBQ.out.1 rfl
              obtain ⟨ka, hka, hb1⟩ := and_small x.1 1023 (by omega)
              have hb1 : bits .and .i64 x.1 1023 = (ka : Int) := hb1
              obtain ⟨kb, hkb, hb2⟩ := and_small x.2 1023 (by omega)
              have hb2 : bits .and .i64 x.2 1023 = (kb : Int) := hb2
              obtain ⟨a, ha1, ha2⟩ : ∃ a : Nat, (ka : Int).tmod (i : Int) = (a : Int) ∧ a < i := ⟨ka % i, by rw [Int.natCast_emod, Int.tmod_eq_emod_of_nonneg (by omega)], Nat.mod_lt _ (by omega)⟩
              obtain ⟨b, hc1, hc2⟩ : ∃ a : Nat, (kb : Int).tmod (i : Int) = (a : Int) ∧ a < i := ⟨kb % i, by rw [Int.natCast_emod, Int.tmod_eq_emod_of_nonneg (by omega)], Nat.mod_lt _ (by omega)⟩
              have hi0' : ¬ i = 0 := by omega
              have HS : Hd (∀ W, Ext wq W → W.cell? ⟨wr.heap.size, 0, none⟩ = some (.int .i64 x.1) ∧ W.cell? ⟨wr.heap.size, 1, none⟩ = some (.int .i64 x.2)) := ⟨fun W he => ⟨blk_cell (he.blk HP3.out (fun h => h)) 0, blk_cell (he.blk HP3.out (fun h => h)) 1⟩⟩
              go_wp2_with fail
              (refine wp_region_held_drew (S := fun W => W.cell? ⟨wr.heap.size, 0, none⟩ = some (.int .i64 x.1) ∧ W.cell? ⟨wr.heap.size, 1, none⟩ = some (.int .i64 x.2)) (by kernel_rfl) (HS.out _ (by repeat (first | assumption | exact Ext.rfl' _ | apply Ext.drew1 | apply Ext.drewN1 | apply Ext.alloc1 | (refine Ext.set1' ?_ (by simp) _) | refine Ext.tr ?_ (by assumption)))) (fun hHeld => ?_); (refine reg_run (i := 0) (v := ?_) rfl (by kernel_rfl) ?_ ?_ (fun _ _ _ h => h) rfl ?_ (by assumption) ?_; rotate_left; (focus (decide +kernel)); (focus (decide +kernel)); (focus (intro W hW; (try dsimp only at hW); go_simp; (try with_reducible rfl); done)); (try simp only [Act.put, List.setIfInBounds_toArray, List.set_cons_zero, List.set_cons_succ])); (refine reg_run (i := 1) (v := ?_) rfl (by kernel_rfl) ?_ ?_ (fun _ _ _ h => h) rfl ?_ (by assumption) ?_; rotate_left; (focus (decide +kernel)); (focus (decide +kernel)); (focus (intro W hW; (try dsimp only at hW); go_simp; (try with_reducible rfl); done)); (try simp only [Act.put, List.setIfInBounds_toArray, List.set_cons_zero, List.set_cons_succ])); (refine reg_run (i := 2) (v := ?_) rfl (by kernel_rfl) ?_ ?_ (fun _ _ _ h => h) rfl ?_ (by assumption) ?_; rotate_left; (focus (decide +kernel)); (focus (decide +kernel)); (focus (intro W hW; (try dsimp only at hW); go_simp; (try with_reducible rfl); done)); (try simp only [Act.put, List.setIfInBounds_toArray, List.set_cons_zero, List.set_cons_succ])); (refine reg_run (i := 3) (v := ?_) rfl (by kernel_rfl) ?_ ?_ (fun _ _ _ h => h) rfl ?_ (by assumption) ?_; rotate_left; (focus (decide +kernel)); (focus (decide +kernel)); (focus (intro W hW; (try dsimp only at hW); go_simp; (try with_reducible rfl); done)); (try simp only [Act.put, List.setIfInBounds_toArray, List.set_cons_zero, List.set_cons_succ])); (refine reg_run (i := 4) (v := ?_) rfl (by kernel_rfl) ?_ ?_ (fun _ _ _ h => h) rfl ?_ (by assumption) ?_; rotate_left; (focus (decide +kernel)); (focus (decide +kernel)); (focus (intro W hW; (try dsimp only at hW); go_simp; (try with_reducible rfl); done)); (try simp only [Act.put, List.setIfInBounds_toArray, List.set_cons_zero, List.set_cons_succ])); (refine reg_run (i := 5) (v := ?_) rfl (by kernel_rfl) ?_ ?_ (fun _ _ _ h => h) rfl ?_ (by assumption) ?_; rotate_left; (focus (decide +kernel)); (focus (decide +kernel)); (focus (intro W hW; (try dsimp only at hW); go_simp; (try with_reducible rfl); done)); (try simp only [Act.put, List.setIfInBounds_toArray, List.set_cons_zero, List.set_cons_succ])); (refine reg_run (i := 6) (v := ?_) rfl (by kernel_rfl) ?_ ?_ (fun _ _ _ h => h) rfl ?_ (by assumption) ?_; rotate_left; (focus (decide +kernel)); (focus (decide +kernel)); (focus (intro W hW; (try dsimp only at hW); go_simp; (try with_reducible rfl); done)); (try simp only [Act.put, List.setIfInBounds_toArray, List.set_cons_zero, List.set_cons_succ])); (refine reg_run (i := 7) (v := ?_) rfl (by kernel_rfl) ?_ ?_ (fun _ _ _ h => h) rfl ?_ (by assumption) ?_; rotate_left; (focus (decide +kernel)); (focus (decide +kernel)); (focus (intro W hW; (try dsimp only at hW); go_simp; (try with_reducible rfl); done)); (try simp only [Act.put, List.setIfInBounds_toArray, List.set_cons_zero, List.set_cons_succ])); (refine reg_run (i := 8) (v := ?_) rfl (by kernel_rfl) ?_ ?_ (fun _ _ _ h => h) rfl ?_ (by assumption) ?_; rotate_left; (focus (decide +kernel)); (focus (decide +kernel)); (focus (intro W hW; (try dsimp only at hW); go_simp; (try with_reducible rfl); done)); (try simp only [Act.put, List.setIfInBounds_toArray, List.set_cons_zero, List.set_cons_succ])); (refine reg_run (i := 9) (v := ?_) rfl (by kernel_rfl) ?_ ?_ (fun _ _ _ h => h) rfl ?_ (by assumption) ?_; rotate_left; (focus (decide +kernel)); (focus (decide +kernel)); (focus (intro W hW; (try dsimp only at hW); go_simp; (try with_reducible rfl); done)); (try simp only [Act.put, List.setIfInBounds_toArray, List.set_cons_zero, List.set_cons_succ])); (refine reg_run (i := 10) (v := ?_) rfl (by kernel_rfl) ?_ ?_ (fun _ _ _ h => h) rfl ?_ (by assumption) ?_; rotate_left; (focus (decide +kernel)); (focus (decide +kernel)); (focus (intro W hW; (try dsimp only at hW); go_simp; (try with_reducible rfl); done)); (try simp only [Act.put, List.setIfInBounds_toArray, List.set_cons_zero, List.set_cons_succ])); (refine reg_run (i := 11) (v := ?_) rfl (by kernel_rfl) ?_ ?_ (fun _ _ _ h => h) rfl ?_ (by assumption) ?_; rotate_left; (focus (decide +kernel)); (focus (decide +kernel)); (focus (intro W hW; (try dsimp only at hW); go_simp; (try with_reducible rfl); done)); (try simp only [Act.put, List.setIfInBounds_toArray, List.set_cons_zero, List.set_cons_succ])); refine wpAnyH_done ?_ ?_ _; (focus (decide +kernel)); clear hHeld)
              have HHA := Hd.mk ha1
              have HHC := Hd.mk hc1
              clear ha1 hc1 hb1 hb2 HS hi0'
              go_upto_region 11 with (fail)
              obtain ⟨bg, bo, rfl, hrb⟩ := open_ids (OwnK.rowAt idFlat HO.out) (by simp; omega)
              have hap := HO.out.lt bg rfl
              have hrB : ∀ m, m < i → IdAt (fun b => b = wr.heap.size + 2) wq bg (bo + m * 32) (lid m) := fun m hm => ⟨fun W hc => range_chg (hrb wq HE3.out m _ (by simp [hm])) hc (by omega)⟩
              have hIA := hrB a ha2
              have hIB := hrB b hc2
              have b1 : (0 : Int) ≤ (a : Int) := by omega
              have b2 : (a : Int) < (i : Int) := by omega
              have b3 : (0 : Int) ≤ (b : Int) := by omega
              have b4 : (b : Int) < (i : Int) := by omega
              clear hrB hrb hap
              rcases Nat.lt_trichotomy a b with hab | hab | hab
              · go_wp2_with (first
                  | ((with_reducible refine wpList_atLoad 24 ?_); refine wpList_loadI _ rfl (by rfl) (by rfl) (by assumption) (by repeat (first | assumption | exact Chg.refl _ _ | apply Chg.drew | apply Chg.drewN | apply Chg.alloc | (refine Chg.trans ?_ (by assumption) (fun _ _ h => h)) | (refine Chg.ext ?_ (by assumption)))) ?_; go_frame)
                  | ((with_reducible refine wpList_at 52 ?_); refine wpList_slice1B (by rfl) _ rfl (lid a) rfl ?_; intro g6 w6 hr hx6 hg61 hg62; have HR6 := Hd.mk hr; clear hr; go_frame)
                  | ((with_reducible refine wpList_at 64 ?_); refine wpList_slice1B (by rfl) _ rfl (lid b) rfl ?_; intro g8 w8 hr hx8 hg81 hg82; have HR8 := Hd.mk hr; clear hr; go_frame)
                  | (at_builtin; refine wpList_append_K idFlat rfl (.tmp 57) (.tmp 64) 29 24 rfl _ 32 Try.underlying29 info_id zId_size (HO7.out.ext hx8) rfl rfl rfl HR8.out (by simp) (by simp) (by have h1 := HS3.out; have h3 := HZ7.out; have h2 := hx8.size; omega) ?_; intro v9 w9 ho hg hat; obtain ⟨B9, k9, c9, rfl, H9L, h91, h92⟩ := ho.named; have HO9 := Hd.mk ho; have HG9 := Hd.mk hg; clear ho hg hat)
                  | (at_builtin; refine wpList_append_K idFlat rfl (.tmp 45) (.tmp 52) 29 24 rfl _ 32 Try.underlying29 info_id zId_size (HO3.out.ext (by repeat (first | assumption | exact Ext.rfl' _ | apply Ext.drew1 | apply Ext.drewN1 | apply Ext.alloc1 | (refine Ext.set1' ?_ (by simp) _) | refine Ext.tr ?_ (by assumption)))) rfl rfl rfl HR6.out (by simp) (by simp) (by have h1 := HS3.out; have h2 : wq.heap.size ≤ w6.heap.size := (show Ext wq w6 from (by repeat (first | assumption | exact Ext.rfl' _ | apply Ext.drew1 | apply Ext.drewN1 | apply Ext.alloc1 | (refine Ext.set1' ?_ (by simp) _) | refine Ext.tr ?_ (by assumption)))).size; omega) ?_; intro v7 w7 ho hg hat; obtain ⟨B7, k7, c7, rfl, H7L, h71, h72⟩ := ho.named; have hc7 : Chg (fun b => b = wr.heap.size + 2) wq w7 := (show Ext wq w6 from (by repeat (first | assumption | exact Ext.rfl' _ | apply Ext.drew1 | apply Ext.drewN1 | apply Ext.alloc1 | (refine Ext.set1' ?_ (by simp) _) | refine Ext.tr ?_ (by assumption)))).then ((Chg.of_grown hg).mono (fun k _ e => (by simpa [Value.ownBlock] using e))); have hk7 : k7 = 1 := (by have h1 := H7L.out; simpa using h1.symm); have HZ7 : Hd (wq.heap.size ≤ w7.heap.size) := ⟨hc7.size⟩; have HOB : Hd (∀ k, (Value.slice B7 k7 c7).ownBlock = some k → k = wr.heap.size + 2 ∨ wq.heap.size ≤ k) := ⟨fun k e => (by rcases hat with h | h; exact .inl (by rw [h] at e; simpa [Value.ownBlock] using e.symm); exact .inr (by rw [h] at e; injection e with e; have h2 : wq.heap.size ≤ w6.heap.size := (show Ext wq w6 from (by repeat (first | assumption | exact Ext.rfl' _ | apply Ext.drew1 | apply Ext.drewN1 | apply Ext.alloc1 | (refine Ext.set1' ?_ (by simp) _) | refine Ext.tr ?_ (by assumption)))).size; omega))⟩; subst hk7; have HO7 := Hd.mk ho; have HC7 := Hd.mk hc7; clear ho hg hat))
                go_meet
                have hk9 : k9 = 2 := by have h1 := H9L.out; simpa using h1.symm
                subst hk9
                exact ⟨2, c9, B9, [lid a, lid b], rfl, by omega, .inr (.inr ⟨a, b, hab, by omega, rfl⟩), ⟨rfl⟩, ⟨HO9.out⟩, ⟨HC7.out.trans (hx8.then (Chg.of_grown HG9.out)) (fun k hk e => by
                  have := HOB.out k e.symm
                  omega)⟩⟩
              · subst hab
                go_wp2_with (first
                  | ((with_reducible refine wpList_atLoad 24 ?_); refine wpList_loadI _ rfl (by rfl) (by rfl) (by assumption) (by repeat (first | assumption | exact Chg.refl _ _ | apply Chg.drew | apply Chg.drewN | apply Chg.alloc | (refine Chg.trans ?_ (by assumption) (fun _ _ h => h)) | (refine Chg.ext ?_ (by assumption)))) ?_; go_frame)
                  | ((with_reducible refine wpList_at 52 ?_); refine wpList_slice1B (by rfl) _ rfl (lid a) rfl ?_; intro g6 w6 hr hx6 hg61 hg62; have HR6 := Hd.mk hr; clear hr; go_frame)
                  | (at_builtin; refine wpList_append_K idFlat rfl (.tmp 45) (.tmp 52) 29 24 rfl _ 32 Try.underlying29 info_id zId_size (HO3.out.ext (by repeat (first | assumption | exact Ext.rfl' _ | apply Ext.drew1 | apply Ext.drewN1 | apply Ext.alloc1 | (refine Ext.set1' ?_ (by simp) _) | refine Ext.tr ?_ (by assumption)))) rfl rfl rfl HR6.out (by simp) (by simp) (by have h1 := HS3.out; have h2 : wq.heap.size ≤ w6.heap.size := (show Ext wq w6 from (by repeat (first | assumption | exact Ext.rfl' _ | apply Ext.drew1 | apply Ext.drewN1 | apply Ext.alloc1 | (refine Ext.set1' ?_ (by simp) _) | refine Ext.tr ?_ (by assumption)))).size; omega) ?_; intro v7 w7 ho hg hat; obtain ⟨B7, k7, c7, rfl, H7L, h71, h72⟩ := ho.named; have hc7 : Chg (fun b => b = wr.heap.size + 2) wq w7 := (show Ext wq w6 from (by repeat (first | assumption | exact Ext.rfl' _ | apply Ext.drew1 | apply Ext.drewN1 | apply Ext.alloc1 | (refine Ext.set1' ?_ (by simp) _) | refine Ext.tr ?_ (by assumption)))).then ((Chg.of_grown hg).mono (fun k _ e => (by simpa [Value.ownBlock] using e))); have hk7 : k7 = 1 := (by have h1 := H7L.out; simpa using h1.symm); have HZ7 : Hd (wq.heap.size ≤ w7.heap.size) := ⟨hc7.size⟩; have HOB : Hd (∀ k, (Value.slice B7 k7 c7).ownBlock = some k → k = wr.heap.size + 2 ∨ wq.heap.size ≤ k) := ⟨fun k e => (by rcases hat with h | h; exact .inl (by rw [h] at e; simpa [Value.ownBlock] using e.symm); exact .inr (by rw [h] at e; injection e with e; have h2 : wq.heap.size ≤ w6.heap.size := (show Ext wq w6 from (by repeat (first | assumption | exact Ext.rfl' _ | apply Ext.drew1 | apply Ext.drewN1 | apply Ext.alloc1 | (refine Ext.set1' ?_ (by simp) _) | refine Ext.tr ?_ (by assumption)))).size; omega))⟩; subst hk7; have HO7 := Hd.mk ho; have HC7 := Hd.mk hc7; clear ho hg hat))
                go_meet
                exact ⟨1, c7, B7, [lid a], rfl, by omega, .inr (.inl ⟨a, ha2, rfl⟩), ⟨rfl⟩, ⟨HO7.out⟩, HC7⟩
              · go_wp2_with (first
                  | ((with_reducible refine wpList_atLoad 24 ?_); refine wpList_loadI _ rfl (by rfl) (by rfl) (by assumption) (by repeat (first | assumption | exact Chg.refl _ _ | apply Chg.drew | apply Chg.drewN | apply Chg.alloc | (refine Chg.trans ?_ (by assumption) (fun _ _ h => h)) | (refine Chg.ext ?_ (by assumption)))) ?_; go_frame)
                  | ((with_reducible refine wpList_at 52 ?_); refine wpList_slice1B (by rfl) _ rfl (lid b) rfl ?_; intro g6 w6 hr hx6 hg61 hg62; have HR6 := Hd.mk hr; clear hr; go_frame)
                  | ((with_reducible refine wpList_at 64 ?_); refine wpList_slice1B (by rfl) _ rfl (lid a) rfl ?_; intro g8 w8 hr hx8 hg81 hg82; have HR8 := Hd.mk hr; clear hr; go_frame)
                  | (at_builtin; refine wpList_append_K idFlat rfl (.tmp 57) (.tmp 64) 29 24 rfl _ 32 Try.underlying29 info_id zId_size (HO7.out.ext hx8) rfl rfl rfl HR8.out (by simp) (by simp) (by have h1 := HS3.out; have h3 := HZ7.out; have h2 := hx8.size; omega) ?_; intro v9 w9 ho hg hat; obtain ⟨B9, k9, c9, rfl, H9L, h91, h92⟩ := ho.named; have HO9 := Hd.mk ho; have HG9 := Hd.mk hg; clear ho hg hat)
                  | (at_builtin; refine wpList_append_K idFlat rfl (.tmp 45) (.tmp 52) 29 24 rfl _ 32 Try.underlying29 info_id zId_size (HO3.out.ext (by repeat (first | assumption | exact Ext.rfl' _ | apply Ext.drew1 | apply Ext.drewN1 | apply Ext.alloc1 | (refine Ext.set1' ?_ (by simp) _) | refine Ext.tr ?_ (by assumption)))) rfl rfl rfl HR6.out (by simp) (by simp) (by have h1 := HS3.out; have h2 : wq.heap.size ≤ w6.heap.size := (show Ext wq w6 from (by repeat (first | assumption | exact Ext.rfl' _ | apply Ext.drew1 | apply Ext.drewN1 | apply Ext.alloc1 | (refine Ext.set1' ?_ (by simp) _) | refine Ext.tr ?_ (by assumption)))).size; omega) ?_; intro v7 w7 ho hg hat; obtain ⟨B7, k7, c7, rfl, H7L, h71, h72⟩ := ho.named; have hc7 : Chg (fun b => b = wr.heap.size + 2) wq w7 := (show Ext wq w6 from (by repeat (first | assumption | exact Ext.rfl' _ | apply Ext.drew1 | apply Ext.drewN1 | apply Ext.alloc1 | (refine Ext.set1' ?_ (by simp) _) | refine Ext.tr ?_ (by assumption)))).then ((Chg.of_grown hg).mono (fun k _ e => (by simpa [Value.ownBlock] using e))); have hk7 : k7 = 1 := (by have h1 := H7L.out; simpa using h1.symm); have HZ7 : Hd (wq.heap.size ≤ w7.heap.size) := ⟨hc7.size⟩; have HOB : Hd (∀ k, (Value.slice B7 k7 c7).ownBlock = some k → k = wr.heap.size + 2 ∨ wq.heap.size ≤ k) := ⟨fun k e => (by rcases hat with h | h; exact .inl (by rw [h] at e; simpa [Value.ownBlock] using e.symm); exact .inr (by rw [h] at e; injection e with e; have h2 : wq.heap.size ≤ w6.heap.size := (show Ext wq w6 from (by repeat (first | assumption | exact Ext.rfl' _ | apply Ext.drew1 | apply Ext.drewN1 | apply Ext.alloc1 | (refine Ext.set1' ?_ (by simp) _) | refine Ext.tr ?_ (by assumption)))).size; omega))⟩; subst hk7; have HO7 := Hd.mk ho; have HC7 := Hd.mk hc7; clear ho hg hat))
                go_meet
                have hk9 : k9 = 2 := by have h1 := H9L.out; simpa using h1.symm
                subst hk9
                exact ⟨2, c9, B9, [lid b, lid a], rfl, by omega, .inr (.inr ⟨b, a, hab, by omega, rfl⟩), ⟨rfl⟩, ⟨HO9.out⟩, ⟨HC7.out.trans (hx8.then (Chg.of_grown HG9.out)) (fun k hk e => by
                  have := HOB.out k e.symm
                  omega)⟩⟩
          case rest =>
            obtain ⟨n, c9, A9, ps, rfl, hn2, HGP, HPL, HOP, HCW⟩ := hcut
            obtain ⟨hadd, hG'⟩ := HG.step (by omega) HGP
            rw [HY.out] at hadd
            have hE : Ext wr wc := HE3.out.chg HCW.out (fun b hb => by omega)
            have hDI := HDI.ext hE
            have hiw := HCW.out.blk HI3.out (by omega)
            have HPI : IdAt (fun b => b = m1 ∨ b = m2) wc (wr.heap.size + 1) 0 y := IdAt.of hiw (not_map hDI.dag.maps hiw)
            have HOI := Hd.mk (HO.out.ext hE)
            have HFR := Hd.mk HOI.out.fresh
            have HRP := Hd.mk (OwnK.rowAt idFlat HOP.out)
            have HADD := Hd.mk hadd
            have HE' := Hd.mk hE
            have HSM : Hd (wgtAll D ≤ 1000 ∧ ∀ p, dep D p ≤ 1000) := ⟨by have := HG.wg; omega, fun p => Nat.le_trans (HG.dp p) (by omega)⟩
            have hn9 : n ≤ 1000000000 := by omega
            clear hadd hE hiw HBQ HO3 HOP HCW HI3 HP3 HS3
            go_wp2_with (first
              | ((with_reducible refine wpList_atLoad 24 ?_); refine wpList_loadI _ rfl (by rfl) (by rfl) (by assumption) (by repeat (first | assumption | exact Chg.refl _ _ | apply Chg.drew | apply Chg.drewN | apply Chg.alloc | (refine Chg.trans ?_ (by assumption) (fun _ _ h => h)) | (refine Chg.ext ?_ (by assumption)))) ?_; go_frame)
              | (go_at_call 10; (with_reducible refine (add_smallG hDI HFR.out HADD.out HPL.out hn9 HRP.out HSM.out).mono ?_); rintro e w5 ⟨rfl, HD5, hc5⟩)
              | ((with_reducible refine wpList_at 73 ?_); refine wpList_slice1B (by rfl) _ rfl y rfl ?_; intro g9 w9 hr hx9 hg91 hg92; have HR9 := Hd.mk hr; clear hr; go_frame)
              | (at_builtin; refine wpList_append_K idFlat rfl (.tmp 71) (.tmp 73) 29 24 rfl _ 32 Try.underlying29 info_id zId_size ((HOI.out.chgD hDI.dag hc5).ext hx9) rfl rfl rfl HR9.out (by simp; omega) (by simp; omega) (Nat.le_trans HE.out.size (Nat.le_trans HE'.out.size (Chg.size (S := fun b => b = m1 ∨ b = m2) (by repeat (first | assumption | exact Chg.refl _ _ | apply Chg.drew | apply Chg.drewN | apply Chg.alloc | (refine Chg.trans ?_ (by assumption) (fun _ _ h => h)) | (refine Chg.ext ?_ (by assumption))))))) ?_; intro v7 w7 ho hg hat; obtain ⟨B7, k7, c7, rfl, H7L, h71, h72⟩ := ho.named; have HO7 := Hd.mk ho; have HG7 := Hd.mk hg; have HA7 := Hd.mk hat; clear ho hg hat))
            have hO9 := (HOI.out.chgD hDI.dag hc5).ext hx9
            have hD7 := DG.append (HD5.ext hx9) hO9 HG7.out HA7.out
            have hE7 : Ext w w7 := (((HE.out.tr HE'.out).chg hc5 (fun b hb => by have := HMW.out; omega)).tr hx9).chg (Chg.of_grown HG7.out) (fun b hb => (hO9.lt b hb.symm).1)
            have hk7 : k7 = i + 1 := by have h1 := H7L.out; simp at h1; omega
            subst hk7
            go_roundw
            case rel =>
              refine ⟨i + 1, c7, B7, _, by go_num, rfl, by omega, by omega, hG', ⟨?_⟩, ?_, ⟨hE7⟩⟩
              · have := HO7.out
                rw [← HY.out] at this
                rwa [List.range_succ, List.map_append]
              · rw [HY.out]; exact hD7
            case measure => simp [intOf]; omega
      · go_wp2
        go_ret2
        exact ⟨g, m1, m2, i, c5, B, D, rfl, hi6, HG, HDI.dag.ext (by repeat (first | assumption | exact Ext.rfl' _ | apply Ext.drew1 | apply Ext.drewN1 | apply Ext.alloc1 | (refine Ext.set1' ?_ (by simp) _) | refine Ext.tr ?_ (by assumption))), HO.out.ext (by repeat (first | assumption | exact Ext.rfl' _ | apply Ext.drew1 | apply Ext.drewN1 | apply Ext.alloc1 | (refine Ext.set1' ?_ (by simp) _) | refine Ext.tr ?_ (by assumption))), HE.out.tr (by repeat (first | assumption | exact Ext.rfl' _ | apply Ext.drew1 | apply Ext.drewN1 | apply Ext.alloc1 | (refine Ext.set1' ?_ (by simp) _) | refine Ext.tr ?_ (by assumption)))⟩
    · go_wp2
      go_ret2
      exact ⟨g, m1, m2, i, c5, B, D, rfl, hi6, HG, HDI.dag.ext (by repeat (first | assumption | exact Ext.rfl' _ | apply Ext.drew1 | apply Ext.drewN1 | apply Ext.alloc1 | (refine Ext.set1' ?_ (by simp) _) | refine Ext.tr ?_ (by assumption))), HO.out.ext (by repeat (first | assumption | exact Ext.rfl' _ | apply Ext.drew1 | apply Ext.drewN1 | apply Ext.alloc1 | (refine Ext.set1' ?_ (by simp) _) | refine Ext.tr ?_ (by assumption))), HE.out.tr (by repeat (first | assumption | exact Ext.rfl' _ | apply Ext.drew1 | apply Ext.drewN1 | apply Ext.alloc1 | (refine Ext.set1' ?_ (by simp) _) | refine Ext.tr ?_ (by assumption)))⟩
end Go.Proofs.Ythfinaocdcinlaa
