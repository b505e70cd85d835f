/- Package dag: the order in which IDs are sorted. -/
import Derived.Test.YthfinaocdcinlaaDag5
import Derived.Great.BuildSlice
import Derived.Great.FillDense
import Derived.Sort.Grow
namespace Go.Proofs.Ythfinaocdcinlaa
open Go.RowKit
attribute [local go_sem] eql_sl_nil neq_sl_nil max_two
set_option linter.unusedVariables false
set_option linter.unusedSimpArgs false

/-- What has grown and drawn, and turned nothing. -/
theorem grow_of {w w' : World} (h : Ext w w') (hd : w.drawn ≤ w'.drawn) : ∃ q os, w' = Sort.grow (w.drewN q) os := by
  refine ⟨w'.drawn - w.drawn, w'.heap.extract w.heap.size w'.heap.size, ?_⟩
  obtain ⟨a1, a2, a3, a4, a5⟩ := h
  cases w; cases w'
  simp only [World.drewN, Sort.grow] at *
  subst a1; subst a2; subst a3
  congr 1
  · apply Array.ext_getElem?
    intro i
    rw [Array.getElem?_append]
    split
    · rename_i hi; exact a5 i hi (fun h => h)
    · rename_i hi
      rw [Array.getElem?_extract]
      split
      · congr 1; omega
      · rename_i hlt
        rw [Array.getElem?_eq_none (by omega)]
  · omega
theorem grow_ext (w : World) (q : Nat) (os : Array Obj) : Ext w (Sort.grow (w.drewN q) os) := by
  refine ⟨rfl, rfl, rfl, by simp [Sort.grow, World.drewN], fun k hk _ => ?_⟩
  simp [Sort.grow, World.drewN, Array.getElem?_append, hk]

/-- A slice literal of one ID. -/
theorem run_slice1 (w : World) (x : Id) : (Instr.buildSlice 29 1 #[(0, .agg (idA x))]).run Try.prog w = .ok (.slice (some ⟨w.heap.size, 0, none⟩) 1 1) (w.alloc (.cells (idA x) 24)) := by
  obtain ⟨ie, hie, hz⟩ := Option.map_eq_some_iff.1 info_id
  simp only [Prod.mk.injEq] at hz
  obtain ⟨hz0, hz1, _⟩ := hz
  have hz1 : ie.size = 32 := hz1
  obtain ⟨r, hr, hsz, hk⟩ := Great.fill_dense (s := 32) (by omega) [idV x] 0 ((Array.range (1 * 32)).map ((Value.agg (idA zId)).cells[· % (Value.agg (idA zId)).cells.size]!)) (fun v hv => by rw [List.mem_singleton.1 hv]; simp [idV, Value.cells, idC_len]) (by simp)
  have hrx : r = idA x := by
    apply Array.ext_getElem?
    intro k
    rw [hk k]
    by_cases hlt : k < 32
    · rw [if_pos ⟨by omega, by simpa using hlt⟩]
      have h0 : k / 32 = 0 := by omega
      have h1 : k % 32 = k := by omega
      rw [h0, h1]
      simp [idV, Value.cells]
    · rw [if_neg (fun h => hlt (by simpa using h.2))]
      rw [Array.getElem?_eq_none (by simp; omega), Array.getElem?_eq_none (by rw [idA_size]; omega)]
  subst hrx
  refine run_buildSlice w _ _ 1 _ (idA x) ie (.agg (idA zId)) Try.underlying29 hie hz0 (by rw [hz1]; decide) (by rw [hz1]; decide) ?_
  rw [hz1]
  exact hr

section
variable {ops : Array Oper} {rest : List Oper} {o : Oper} {a : Act} {Q : Exit → Act → World → Prop}
theorem op_slice1 {K : Act → World → Prop} {w : World} (y : Operand) (ho : o.op = .buildSlice 29 1 #[(0, y)]) (x : Id) (hy : a.eval y = .agg (idA x))
    (h : K (a.put o.dst (.slice (some ⟨w.heap.size, 0, none⟩) 1 1)) (w.alloc (.cells (idA x) 24))) : Oper.wp Try.prog o a w K Q := by
  unfold Oper.wp execOp
  simp only [ho, List.map_toArray, List.map_cons, List.map_nil, hy, Sem.run_bind, run_slice1, Result.andThen_ok]
  exact h
theorem wpList_slice1 {w : World} (hg : o.guard = none) (y : Operand) (ho : o.op = .buildSlice 29 1 #[(0, y)]) (x : Id) (hy : a.eval y = .agg (idA x))
    (h : wpList Try.prog ops Q rest (a.put o.dst (.slice (some ⟨w.heap.size, 0, none⟩) 1 1)) (w.alloc (.cells (idA x) 24))) : wpList Try.prog ops Q (o :: rest) a w :=
  wpList_plain hg fun _ hK => op_slice1 y ho x hy (hK _ _ h)
end
theorem World.drawn_alloc (w : World) (o : Obj) : (w.alloc o).drawn = w.drawn := rfl
set_option maxHeartbeats 4000000 in
set_option maxRecDepth 100000 in
/-- sha.Cmp, with what it draws. -/
theorem scmp_calls' (x y : Id) (w : World) : Calls Try.prog 37 #[.agg (idA x), .agg (idA y)] w fun e w' => e = .returned (.int .i64 (cmpI x y)) ∧ Ext w w' ∧ w.drawn ≤ w'.drawn := by
  have hu := Try.underlying24
  go_enter Try.func37, Try.ntmps37
  go_wp2_with fail
  go_quiet ((go_at_call 44; exact Calls.quiet_of_same (bcompare_calls _ _ x.1 y.1 32 32 32 32 _ x.2 y.2 (row_id (heap_alloc2_old w _ _)) (row_id (heap_alloc2_new w _ _)))))
  go_wp2
  go_ret
  exact ⟨rfl, ((Ext.alloc' w _).alloc1 _).drewN1 _, by simp [World.drewN, World.drawn_alloc]⟩

/-- What is read of a Dag where depths are asked. -/
def DepAt (g m1 : Nat) (D : Nodes) (w : World) : Prop := w.cell? ⟨g, 0, none⟩ = some (.map (some m1)) ∧ ∃ l1 : List (Id × Value), MapAt idV m1 l1 w ∧ ∀ x, ∃ A k c, (look l1 x).getD (.agg #[.slice none 0 0, .int .i64 0]) = .agg #[.slice A k c, .int .i64 (dep D x)]
theorem DepAt.chg {S : Nat → Prop} {g m1 : Nat} {D : Nodes} {w w1 : World} (h : DepAt g m1 D w) (hc : Chg S w w1) (hg : ¬ S g) (hm : ¬ S m1) : DepAt g m1 D w1 := by
  obtain ⟨h1, l1, h2, h3⟩ := h
  exact ⟨hc.cell h1 hg, l1, h2.chg hc hm, h3⟩
theorem DagAt.depAt {g m1 m2 : Nat} {D : Nodes} {w : World} (h : DagAt g m1 m2 D w) : DepAt g m1 D w := by
  obtain ⟨h1, _, ⟨l1, a1, a2, a3⟩, _⟩ := h
  refine ⟨blk_cell h1 0, l1, a1, fun x => ?_⟩
  cases hx : look D x with
  | none =>
    rw [(look_keys a2 x).2 hx]
    exact ⟨none, 0, 0, by simp [dep, hx]⟩
  | some n =>
    obtain ⟨v, hv, A, c, rfl, _⟩ := a3 x n hx
    rw [hv]
    exact ⟨A, _, c, by simp [dep, hx]; rfl⟩
theorem DepAt.node {g m1 : Nat} {D : Nodes} {w : World} (h : DepAt g m1 D w) (x : Id) : ∃ A k c, ∀ W, Ext w W → (Instr.lookup 63 (.map (some m1)) (.agg (idA x)) false).run Try.prog W = .ok (.agg #[.slice A k c, .int .i64 (dep D x)]) W := by
  obtain ⟨h1, l1, h2, h3⟩ := h
  obtain ⟨A, k, c, hv⟩ := h3 x
  refine ⟨A, k, c, fun W he => ?_⟩
  have := run_lookup idKeys Try.underlying63 (zeroNode W) (h2.ext he) x
  rw [hv] at this
  exact this

/-- Sooner: the lesser depth, then the lesser ID. -/
def cmpD (D : Nodes) (x y : Id) : Int := iorF (icmpF (dep D x) (dep D y)) (cmpI x y)
set_option maxHeartbeats 4000000 in
set_option maxRecDepth 100000 in
theorem srt1_calls (g m1 bx : Nat) (D : Nodes) (x y : Id) (w : World) (hbox : w.heap[bx]? = some (.cells #[.pointer (some ⟨g, 0, none⟩)] 25 (0, 0))) (h : DepAt g m1 D w) :
    Calls Try.prog 39 #[.agg (idA x), .agg (idA y), .pointer (some ⟨bx, 0, none⟩)] w fun e w' => e = .returned (.int .i64 (cmpD D x y)) ∧ Ext w w' ∧ w.drawn ≤ w'.drawn := by
  obtain ⟨XA, xk, xc, hx⟩ := h.node x
  obtain ⟨YA, yk, yc, hy⟩ := h.node y
  obtain ⟨dx, hdx⟩ : ∃ d, dep D x = d := ⟨_, rfl⟩
  obtain ⟨dy, hdy⟩ : ∃ d, dep D y = d := ⟨_, rfl⟩
  obtain ⟨cx, hcx⟩ : ∃ c, icmpF dx dy = c := ⟨_, rfl⟩
  obtain ⟨ci, hci⟩ : ∃ c, cmpI x y = c := ⟨_, rfl⟩
  obtain ⟨r, hr⟩ : ∃ r, cmpD D x y = r := ⟨_, rfl⟩
  have hr' : iorF cx ci = r := by rw [← hr, cmpD, hdx, hdy, hcx, hci]
  rw [hr]
  rw [hdx] at hx
  rw [hdy] at hy
  have HS : Hd (∀ W, Ext ((w.alloc (.cells (idA x) 24)).alloc (.cells (idA y) 24)) W → W.rangeAt w.heap.size 0 (idC x) ∧ W.rangeAt (w.heap.size + 1) 0 (idC y) ∧ W.cell? ⟨bx, 0, none⟩ = some (.pointer (some ⟨g, 0, none⟩)) ∧ W.cell? ⟨g, 0, none⟩ = some (.map (some m1)) ∧
      (Instr.lookup 63 (.map (some m1)) (.agg (idA x)) false).run Try.prog W = .ok (.agg #[.slice XA xk xc, .int .i64 dx]) W ∧ (Instr.lookup 63 (.map (some m1)) (.agg (idA y)) false).run Try.prog W = .ok (.agg #[.slice YA yk yc, .int .i64 dy]) W) := ⟨fun W he => by
    have he' : Ext w W := ((Ext.alloc' w _).alloc1 _).tr he
    exact ⟨range_blk (he.blk (heap_alloc2_old w _ _) (fun h => h)), range_blk (he.blk (heap_alloc2_new w _ _) (fun h => h)), he'.cell (blk_cell hbox 0) (fun h => h), he'.cell h.1 (fun h => h), hx W he', hy W he'⟩⟩
  have HCX := Hd.mk hcx
  have HCI := Hd.mk hci
  have HR := Hd.mk hr'
  have hu := Try.underlying24
  have hfx := fun W => field_dep XA xk xc dx W
  have hfy := fun W => field_dep YA yk yc dy W
  clear hx hy hdx hdy hcx hci hr hr' h hbox
  go_enter Try.func39, Try.ntmps39
  go_wp2_with fail
  (refine wp_region_held_drew (S := fun W => W.rangeAt w.heap.size 0 (idC x) ∧ W.rangeAt (w.heap.size + 1) 0 (idC y) ∧ W.cell? ⟨bx, 0, none⟩ = some (.pointer (some ⟨g, 0, none⟩)) ∧ W.cell? ⟨g, 0, none⟩ = some (.map (some m1)) ∧
      (Instr.lookup 63 (.map (some m1)) (.agg (idA x)) false).run Try.prog W = .ok (.agg #[.slice XA xk xc, .int .i64 dx]) W ∧ (Instr.lookup 63 (.map (some m1)) (.agg (idA y)) false).run Try.prog W = .ok (.agg #[.slice YA yk yc, .int .i64 dy]) W) (by kernel_rfl) (HS.out _ (by repeat (first | assumption | exact Ext.rfl' _ | apply Ext.drew1 | apply Ext.drewN1 | apply Ext.alloc1 | (refine Ext.set1' ?_ (by simp) _) | refine Ext.tr ?_ (by assumption)))) (fun hHeld => ?_); (refine reg_run (i := 0) (v := ?_) rfl (by kernel_rfl) ?_ ?_ (fun _ _ _ h => h) rfl ?_ (by assumption) ?_; rotate_left; (focus (decide +kernel)); (focus (decide +kernel)); (focus (intro W hW; (try dsimp only at hW); go_simp; (try with_reducible rfl); done)); (try simp only [Act.put, List.setIfInBounds_toArray, List.set_cons_zero, List.set_cons_succ])); (refine reg_run (i := 1) (v := ?_) rfl (by kernel_rfl) ?_ ?_ (fun _ _ _ h => h) rfl ?_ (by assumption) ?_; rotate_left; (focus (decide +kernel)); (focus (decide +kernel)); (focus (intro W hW; (try dsimp only at hW); go_simp; (try with_reducible rfl); done)); (try simp only [Act.put, List.setIfInBounds_toArray, List.set_cons_zero, List.set_cons_succ])); (refine reg_run (i := 2) (v := ?_) rfl (by kernel_rfl) ?_ ?_ (fun _ _ _ h => h) rfl ?_ (by assumption) ?_; rotate_left; (focus (decide +kernel)); (focus (decide +kernel)); (focus (intro W hW; (try dsimp only at hW); go_simp; (try with_reducible rfl); done)); (try simp only [Act.put, List.setIfInBounds_toArray, List.set_cons_zero, List.set_cons_succ])); (refine reg_run (i := 3) (v := ?_) rfl (by kernel_rfl) ?_ ?_ (fun _ _ _ h => h) rfl ?_ (by assumption) ?_; rotate_left; (focus (decide +kernel)); (focus (decide +kernel)); (focus (intro W hW; (try dsimp only at hW); go_simp; (try with_reducible rfl); done)); (try simp only [Act.put, List.setIfInBounds_toArray, List.set_cons_zero, List.set_cons_succ])); (refine reg_load (i := 4) (cs := idC x) rfl rfl (by kernel_rfl) ?_ ?_ rfl hu rfl ?_ (by rw [idC_len]; exact info_sz) rfl (fun _ _ _ h => h) (by assumption) ?_; (focus (decide +kernel)); (focus (decide +kernel)); (focus (intro W hW; (try dsimp only at hW); go_split_ands; assumption)); (try simp only [Act.put, List.setIfInBounds_toArray, List.set_cons_zero, List.set_cons_succ])); (refine reg_run (i := 5) (v := ?_) rfl (by kernel_rfl) ?_ ?_ (fun _ _ _ h => h) rfl ?_ (by assumption) ?_; rotate_left; (focus (decide +kernel)); (focus (decide +kernel)); (focus (intro W hW; (try dsimp only at hW); go_simp; (try with_reducible rfl); done)); (try simp only [Act.put, List.setIfInBounds_toArray, List.set_cons_zero, List.set_cons_succ])); (refine reg_run (i := 6) (v := ?_) rfl (by kernel_rfl) ?_ ?_ (fun _ _ _ h => h) rfl ?_ (by assumption) ?_; rotate_left; (focus (decide +kernel)); (focus (decide +kernel)); (focus (intro W hW; (try dsimp only at hW); go_simp; (try with_reducible rfl); done)); (try simp only [Act.put, List.setIfInBounds_toArray, List.set_cons_zero, List.set_cons_succ])); (refine reg_run (i := 7) (v := ?_) rfl (by kernel_rfl) ?_ ?_ (fun _ _ _ h => h) rfl ?_ (by assumption) ?_; rotate_left; (focus (decide +kernel)); (focus (decide +kernel)); (focus (intro W hW; (try dsimp only at hW); go_simp; (try with_reducible rfl); done)); (try simp only [Act.put, List.setIfInBounds_toArray, List.set_cons_zero, List.set_cons_succ])); (refine reg_run (i := 8) (v := ?_) rfl (by kernel_rfl) ?_ ?_ (fun _ _ _ h => h) rfl ?_ (by assumption) ?_; rotate_left; (focus (decide +kernel)); (focus (decide +kernel)); (focus (intro W hW; (try dsimp only at hW); go_simp; (try with_reducible rfl); done)); (try simp only [Act.put, List.setIfInBounds_toArray, List.set_cons_zero, List.set_cons_succ])); (refine reg_run (i := 9) (v := ?_) rfl (by kernel_rfl) ?_ ?_ (fun _ _ _ h => h) rfl ?_ (by assumption) ?_; rotate_left; (focus (decide +kernel)); (focus (decide +kernel)); (focus (intro W hW; (try dsimp only at hW); go_simp; (try with_reducible rfl); done)); (try simp only [Act.put, List.setIfInBounds_toArray, List.set_cons_zero, List.set_cons_succ])); (refine reg_run (i := 10) (v := ?_) rfl (by kernel_rfl) ?_ ?_ (fun _ _ _ h => h) rfl ?_ (by assumption) ?_; rotate_left; (focus (decide +kernel)); (focus (decide +kernel)); (focus (intro W hW; (try dsimp only at hW); go_simp; (try with_reducible rfl); done)); (try simp only [Act.put, List.setIfInBounds_toArray, List.set_cons_zero, List.set_cons_succ])); (refine reg_load (i := 11) (cs := idC y) rfl rfl (by kernel_rfl) ?_ ?_ rfl hu rfl ?_ (by rw [idC_len]; exact info_sz) rfl (fun _ _ _ h => h) (by assumption) ?_; (focus (decide +kernel)); (focus (decide +kernel)); (focus (intro W hW; (try dsimp only at hW); go_split_ands; assumption)); (try simp only [Act.put, List.setIfInBounds_toArray, List.set_cons_zero, List.set_cons_succ])); (refine reg_run (i := 12) (v := ?_) rfl (by kernel_rfl) ?_ ?_ (fun _ _ _ h => h) rfl ?_ (by assumption) ?_; rotate_left; (focus (decide +kernel)); (focus (decide +kernel)); (focus (intro W hW; (try dsimp only at hW); go_simp; (try with_reducible rfl); done)); (try simp only [Act.put, List.setIfInBounds_toArray, List.set_cons_zero, List.set_cons_succ])); (refine reg_run (i := 13) (v := ?_) rfl (by kernel_rfl) ?_ ?_ (fun _ _ _ h => h) rfl ?_ (by assumption) ?_; rotate_left; (focus (decide +kernel)); (focus (decide +kernel)); (focus (intro W hW; (try dsimp only at hW); go_simp; (try with_reducible rfl); done)); (try simp only [Act.put, List.setIfInBounds_toArray, List.set_cons_zero, List.set_cons_succ])); (refine reg_load (i := 15) (cs := idC x) rfl rfl (by kernel_rfl) ?_ ?_ rfl hu rfl ?_ (by rw [idC_len]; exact info_sz) rfl (fun _ _ _ h => h) (by assumption) ?_; (focus (decide +kernel)); (focus (decide +kernel)); (focus (intro W hW; (try dsimp only at hW); go_split_ands; assumption)); (try simp only [Act.put, List.setIfInBounds_toArray, List.set_cons_zero, List.set_cons_succ])); (refine reg_load (i := 16) (cs := idC y) rfl rfl (by kernel_rfl) ?_ ?_ rfl hu rfl ?_ (by rw [idC_len]; exact info_sz) rfl (fun _ _ _ h => h) (by assumption) ?_; (focus (decide +kernel)); (focus (decide +kernel)); (focus (intro W hW; (try dsimp only at hW); go_split_ands; assumption)); (try simp only [Act.put, List.setIfInBounds_toArray, List.set_cons_zero, List.set_cons_succ])); refine reg_eff (i := 14) rfl ?_ rfl (fun K hK => ?_); (focus (decide +kernel)); (go_simp; go_at_call 41; refine (icmp_calls dx dy _).mono ?_; rintro e w1 ⟨rfl, rfl⟩; rw [HCX.out]); refine hK.out _ _ (HS.out _ (by repeat (first | assumption | exact Ext.rfl' _ | apply Ext.drew1 | apply Ext.drewN1 | apply Ext.alloc1 | (refine Ext.set1' ?_ (by simp) _) | refine Ext.tr ?_ (by assumption)))) (fun hHeldN => ?_); clear hK K hHeld; have hHeld := hHeldN; clear hHeldN; (try simp only [Act.put, List.setIfInBounds_toArray, List.set_cons_zero, List.set_cons_succ]); refine reg_eff (i := 17) rfl ?_ rfl (fun K hK => ?_); (focus (decide +kernel)); (go_simp; go_at_call 37; refine (scmp_calls' x y _).mono ?_; rintro e w1 ⟨rfl, he, hd⟩; rw [HCI.out]; have HE := Hd.mk he; have HDR := Hd.mk hd; clear hd; have hext1 : Ext ((w.alloc (.cells (idA x) 24)).alloc (.cells (idA y) 24)) w1 := (by repeat (first | assumption | exact Ext.rfl' _ | apply Ext.drew1 | apply Ext.drewN1 | apply Ext.alloc1 | (refine Ext.set1' ?_ (by simp) _) | refine Ext.tr ?_ (by assumption))); clear he); refine hK.out _ _ (HS.out _ (by repeat (first | assumption | exact Ext.rfl' _ | apply Ext.drew1 | apply Ext.drewN1 | apply Ext.alloc1 | (refine Ext.set1' ?_ (by simp) _) | refine Ext.tr ?_ (by assumption)))) (fun hHeldN => ?_); clear hK K hHeld; have hHeld := hHeldN; clear hHeldN; (try simp only [Act.put, List.setIfInBounds_toArray, List.set_cons_zero, List.set_cons_succ]); refine reg_eff (i := 18) rfl ?_ rfl (fun K hK => ?_); (focus (decide +kernel)); go_simp; refine hK.out _ _ (HS.out _ (by repeat (first | assumption | exact Ext.rfl' _ | apply Ext.drew1 | apply Ext.drewN1 | apply Ext.alloc1 | (refine Ext.set1' ?_ (by simp) _) | refine Ext.tr ?_ (by assumption)))) (fun hHeldN => ?_); clear hK K hHeld; have hHeld := hHeldN; clear hHeldN; (try simp only [Act.put, List.setIfInBounds_toArray, List.set_cons_zero, List.set_cons_succ]); refine reg_eff (i := 19) rfl ?_ rfl (fun K hK => ?_); (focus (decide +kernel)); (go_simp; go_at_call 40; refine (ior_calls cx ci _ _ (heap_alloc_new _ _)).mono ?_; rintro e w2 ⟨rfl, rfl⟩; rw [HR.out]); refine hK.out _ _ (HS.out _ (by repeat (first | assumption | exact Ext.rfl' _ | apply Ext.drew1 | apply Ext.drewN1 | apply Ext.alloc1 | (refine Ext.set1' ?_ (by simp) _) | refine Ext.tr ?_ (by assumption)))) (fun hHeldN => ?_); clear hK K hHeld; have hHeld := hHeldN; clear hHeldN; (try simp only [Act.put, List.setIfInBounds_toArray, List.set_cons_zero, List.set_cons_succ]); (refine reg_run (i := 20) (v := ?_) rfl (by kernel_rfl) ?_ ?_ (fun _ _ _ h => h) rfl ?_ (by assumption) ?_; rotate_left; (focus (decide +kernel)); (focus (decide +kernel)); (focus (intro W hW; (try dsimp only at hW); go_simp; (try with_reducible rfl); done)); (try simp only [Act.put, List.setIfInBounds_toArray, List.set_cons_zero, List.set_cons_succ])); refine wpAnyH_done ?_ ?_ _; (focus (decide +kernel)); clear hHeld)
  go_wp2
  go_ret
  refine ⟨rfl, (Ext.alloc1 (((Ext.alloc' w _).alloc1 _).tr hext1) _), ?_⟩
  have := HDR.out
  simpa [World.drawn_alloc, World.drew, World.drewN] using Nat.le_of_succ_le this
end Go.Proofs.Ythfinaocdcinlaa
