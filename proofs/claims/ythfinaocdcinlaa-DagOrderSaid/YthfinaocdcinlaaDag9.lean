/- Package dag: Ancestors, Bases. -/
import Derived.Test.YthfinaocdcinlaaDag7
import Derived.Test.YthfinaocdcinlaaDag8
import Derived.Deep.CutRange
namespace Go.Proofs.Ythfinaocdcinlaa
open Go.RowKit
attribute [local go_sem] eql_sl_nil neq_sl_nil max_two
set_option linter.unusedVariables false
set_option linter.unusedSimpArgs false

theorem op_slice1X {o : Oper} {a : Act} {Q : Exit → Act → World → Prop} {K : Act → World → Prop} {w : World} (y : Operand) (ho : o.op = .buildSlice 29 1 #[(0, y)]) (x : Id) (hy : a.eval y = .agg (idA x))
    (h : ∀ A w', RowAt Ty.id A [x] w' → Ext w w' → K (a.put o.dst (.slice A 1 1)) w') : Oper.wp Try.prog o a w K Q :=
  op_slice1 y ho x hy (h _ _ (rowOne w x _) (Ext.alloc' w _))
/-- What reach's map says. -/
def Says (D : Nodes) (fr : List Id) (l : List (Id × Value)) : Prop := ∀ x, (look l x = some vT ∧ Rch D fr x) ∨ (look l x = none ∧ ¬ Rch D fr x)
/-- The keys are what is reached. -/
theorem Says.keys {D : Nodes} {fr : List Id} {l : List (Id × Value)} (h : Says D fr l) (x : Id) : x ∈ l.map Prod.fst ↔ Rch D fr x := by
  have h1 := look_none_keys (l := l) (k := x)
  rcases h x with ⟨e, hr⟩ | ⟨e, hr⟩
  · exact ⟨fun _ => hr, fun _ => by
      rw [e] at h1
      apply Classical.byContradiction
      intro hn
      cases h1.2 hn⟩
  · exact ⟨fun hx => absurd hx (h1.1 e), fun hx => absurd hx hr⟩
theorem has_mem {D : Nodes} {x : Id} (h : has D x = true) : x ∈ D.map Prod.fst := by
  apply Classical.byContradiction
  intro hn
  rw [has, look_none_keys.2 hn] at h
  cases h
theorem Rch.has {D : Nodes} {fr : List Id} {x : Id} (h : Rch D fr x) : has D x = true := by
  cases h <;> assumption
theorem Says.short {D : Nodes} {fr : List Id} {l : List (Id × Value)} (h : Says D fr l) (hn : (l.map Prod.fst).Nodup) : l.length ≤ D.length := by
  have := nodup_len hn (l := D.map Prod.fst) (fun x hx => has_mem ((h.keys x).1 hx).has)
  simpa using this
theorem wgtAll_len : ∀ D : Nodes, D.length ≤ wgtAll D
  | [] => Nat.zero_le _
  | (a, v) :: r => by
    have := wgtAll_len r
    unfold wgtAll at *
    simp [wgt]; omega

/-- (*Dag).Ancestors -/
theorem ancestors_calls (g m1 m2 : Nat) (D : Nodes) (fr : List Id) (A : Option Addr) (n c : Nat) (w : World) (h : DagAt g m1 m2 D w) (hn : fr.length = n) (hr : RowAt Ty.id A fr w) (hb : wgtAll D + n ≤ 1000000000) :
    Calls Try.prog 20 #[.pointer (some ⟨g, 0, none⟩), .slice A n c] w fun e w' => ∃ v ks, e = .returned v ∧ OwnI w.heap.size v (sortI D ks) w' ∧ Ext w w' ∧ ks.Nodup ∧ ∀ x, x ∈ ks ↔ Rch D fr x := by
  have HD := Hd.mk h
  have HN := Hd.mk hn
  have HR := Hd.mk hr
  have HB := Hd.mk hb
  clear h hn hr hb
  go_enter Try.func20, Try.ntmps20
  go_wp2_with (first
    | (go_at_call 34; refine (reach_calls g m1 m2 D fr A n c _ HD.out HN.out HR.out HB.out).mono ?_; rintro e w1 ⟨mb, l, rfl, hml, hmb, he, hl⟩; have HM := Hd.mk hml; have HL : Hd (Says D fr l) := ⟨hl⟩; clear hml hl)
    | (go_at_call 33; refine (sorted_calls g m1 m2 mb D l _ (HD.out.ext he) HM.out (by have h1 := HL.out.short HM.out.1; have h2 := wgtAll_len D; have h3 := HB.out; omega)).mono ?_; rintro e w2 ⟨v, rfl, ho, he2⟩; have HO := Hd.mk ho; clear ho))
  go_ret
  exact ⟨v, l.map Prod.fst, rfl, HO.out.lower he.size, he.tr he2, HM.out.1, HL.out.keys⟩

/-- IDs, sorted. -/
def sortC (l : List Id) : List Id := l.mergeSort fun x y => !(ltOf cmpI) y x
theorem ltC (x y : Id) : ltOf cmpI x y = decide (cmpI x y < 0) := rfl
theorem cmpI_irrefl (x : Id) : ¬ cmpI x x < 0 := by rw [cmpI_refl]; omega
theorem cmpI_tot {x y : Id} (h : ¬ cmpI x y < 0) (k : ¬ cmpI y x < 0) : x = y := by
  have := cmpI_swap x y
  exact cmpI_eq (by omega)
theorem swoC : Sort.SWO (ltOf cmpI) where
  irrefl x := by rw [ltC]; simpa using cmpI_irrefl x
  trans x y z h1 h2 := by rw [ltC] at *; simp only [decide_eq_true_eq] at *; exact cmpI_trans h1 h2
  ntrans x y z h1 h2 := by
    rw [ltC] at *
    simp only [decide_eq_false_iff_not] at *
    intro h3
    by_cases hyx : cmpI y x < 0
    · exact h2 (cmpI_trans hyx h3)
    · exact h2 (by rw [← cmpI_tot h1 hyx]; exact h3)
theorem sortC_perm (l : List Id) : (sortC l).Perm l := List.mergeSort_perm _ _
theorem sortC_len (l : List Id) : (sortC l).length = l.length := (sortC_perm l).length_eq
theorem sortC_sorted (l : List Id) : (sortC l).Pairwise fun x y => (!(ltOf cmpI) y x) = true := by
  refine List.pairwise_mergeSort (fun a b c h1 h2 => ?_) (fun a b => ?_) l
  · simp only [ltC, Bool.not_eq_true', decide_eq_false_iff_not] at *
    have := swoC.ntrans c b a (by rw [ltC]; simpa using h2) (by rw [ltC]; simpa using h1)
    rw [ltC] at this
    simpa using this
  · simp only [ltC, Bool.or_eq_true, Bool.not_eq_true', decide_eq_false_iff_not]
    by_cases h : cmpI b a < 0
    · exact .inr (fun h2 => cmpI_irrefl _ (cmpI_trans h h2))
    · exact .inl h
theorem sortC_rising {l : List Id} (hn : l.Nodup) : (sortC l).Pairwise fun x y => cmpI x y < 0 := by
  have h1 := sortC_sorted l
  have h2 : (sortC l).Nodup := (sortC_perm l).nodup_iff.2 hn
  refine (h1.and h2).imp ?_
  rintro a b ⟨h3, h4⟩
  simp only [ltC, Bool.not_eq_true', decide_eq_false_iff_not] at h3
  apply Classical.byContradiction
  intro h5
  exact h4 (cmpI_tot h5 h3)
/-- slices.SortFunc by sha.Cmp. -/
theorem sortc_calls (l : List Id) (A : Option Addr) (n c base : Nat) (w : World) (ho : OwnI base (.slice A n c) l w) (hn : l.length = n) (hb : n ≤ 1000000000) :
    Calls Try.prog 36 #[.slice A n c, .func (.func 37) #[] #[]] w fun e w' => e = .returned (.tuple #[]) ∧ OwnI base (.slice A n c) (sortC l) w' ∧ Chg (fun k => (Value.slice A n c).ownBlock = some k) w w' := by
  rcases Nat.eq_zero_or_pos n with h0 | h0
  · subst h0
    obtain rfl := List.eq_nil_of_length_eq_zero hn
    have hcon := AnyF.slices_SortFunc_none (P := Try.prog) (ρ := Try.sortIds_ren) { Try.sortIds with } A c (.func (.func 37) #[] #[]) w
    refine hcon.mono ?_
    rintro e w' ⟨rfl, rfl⟩
    exact ⟨rfl, by simpa [sortC] using ho, Chg.refl _ _⟩
  · obtain ⟨blk, rfl⟩ : ∃ blk, A = some ⟨blk, 0, none⟩ := by
      rcases ho.2 with ⟨h, _⟩ | ⟨gg, cap, cur, h, _⟩
      · injection h with _ h _; omega
      · injection h with h _ _; exact ⟨gg, h⟩
    have hblk : blk < w.heap.size := (ho.lt blk rfl).2
    have eg : ∀ args w, (callFunc 37 args).run Try.prog w = .ok (.enter 37 args) w := enters_of Try.func37 (by kernel_rfl) rfl
    have hcmp : CmpLays Try.prog 37 #[] idC 32 cmpI blk 0 l.toArray.size w := by
      intro m os dk hdk x y
      refine (scmp_calls' x y _).mono ?_
      rintro e w' ⟨rfl, he, hdr⟩
      exact ⟨rfl, grow_of he hdr⟩
    have hcon := AnyQ.slices_SortFunc_total Try.sortIds 32 Try.isAgg24 Try.sizeOf24 idC idC_len idC_one cmpI swoC 37 #[] blk 0 c l.toArray w eg hcmp (own_holds idFlat ho) hblk (by simp; omega) (fun x y h1 h2 => cmpI_tot (by simpa [ltC] using h1) (by simpa [ltC] using h2))
    rw [show l.toArray.size = n by simpa using hn] at hcon
    refine hcon.mono ?_
    rintro e w' ⟨rfl, m, os, rfl⟩
    refine ⟨rfl, sortK_own idFlat ho (sortC_len l) m os, (sortK_chg w 32 blk m _ os).mono (fun b _ h => by rw [h]; rfl)⟩

/-- A best common ancestor. -/
def Best (D : Nodes) (x y n : Id) : Prop := (Rch D [x] n ∧ Rch D [y] n) ∧ ¬ ∃ m, (Rch D [x] m ∧ Rch D [y] m) ∧ n ∈ par D m
theorem if_b {b b' : Bool} (h : b = b') (u v : Option Value) : (if b = true then u else v) = if b' = true then u else v := by subst h; rfl
def commF (lx ly : List (Id × Value)) (x : Id) : Bool := (look lx x).isSome && (look ly x).isSome
theorem Says.some_iff {D : Nodes} {fr : List Id} {l : List (Id × Value)} (h : Says D fr l) (x : Id) : (look l x).isSome = true ↔ Rch D fr x := by
  rcases h x with ⟨e, hr⟩ | ⟨e, hr⟩ <;> simp [e, hr]
theorem comm_iff {D : Nodes} {x y : Id} {lx ly : List (Id × Value)} (hx : Says D [x] lx) (hy : Says D [y] ly) (z : Id) : commF lx ly z = true ↔ Rch D [x] z ∧ Rch D [y] z := by
  unfold commF
  rw [Bool.and_eq_true, hx.some_iff, hy.some_iff]
theorem keys_if {l : List (Id × Value)} {f : Id → Bool} (h : ∀ z, look l z = if f z = true then some vT else none) (z : Id) : z ∈ l.map Prod.fst ↔ f z = true := by
  have h1 := look_none_keys (l := l) (k := z)
  have h2 := h z
  cases hf : f z
  · rw [hf] at h2
    exact ⟨fun hz => absurd hz (h1.1 h2), fun e => by cases e⟩
  · rw [hf] at h2
    exact ⟨fun _ => rfl, fun _ => Classical.byContradiction fun hn => by rw [h1.2 hn] at h2; cases h2⟩
theorem Best.of {D : Nodes} {x y : Id} {lx ly lc lu : List (Id × Value)} (hx : Says D [x] lx) (hy : Says D [y] ly) (hc : ∀ z, look lc z = if commF lx ly z = true then some vT else none)
    {ks ks2 : List Id} (h2 : ∀ k, k ∈ ks2 ↔ k ∈ lc.map Prod.fst) (hu : ∀ z, look lu z = if (ks2.any (fun n => (par D n).contains z)) = true then some vT else none) (hk : ∀ k, k ∈ ks ↔ k ∈ lc.map Prod.fst) (n : Id) :
    n ∈ ks.filter (fun z => !(look lu z).isSome) ↔ Best D x y n := by
  rw [List.mem_filter, hk, keys_if hc, comm_iff hx hy, hu n]
  unfold Best
  refine and_congr Iff.rfl ?_
  cases hb : ks2.any (fun n_1 => (par D n_1).contains n)
  · simp only [Bool.false_eq_true, if_false, Option.isSome_none, Bool.not_false, true_iff]
    rintro ⟨m, hm, hn⟩
    have h3 : m ∈ ks2 := (h2 m).2 ((keys_if hc m).2 ((comm_iff hx hy m).2 hm))
    have := List.any_eq_false.1 hb m h3
    exact this (by simpa using hn)
  · simp only [if_true, Option.isSome_some, Bool.not_true, Bool.false_eq_true, false_iff]
    obtain ⟨m, h3, h4⟩ := List.any_eq_true.1 hb
    exact fun hn => hn ⟨m, (comm_iff hx hy m).1 ((keys_if hc m).1 ((h2 m).1 h3)), by simpa using h4⟩
set_option maxHeartbeats 8000000 in
set_option maxRecDepth 100000 in
/-- (*Dag).Bases -/
theorem bases_calls (g m1 m2 : Nat) (D : Nodes) (x y : Id) (w : World) (h : DagAt g m1 m2 D w) (hb : wgtAll D ≤ 900000000) :
    Calls Try.prog 22 #[.pointer (some ⟨g, 0, none⟩), .agg (idA x), .agg (idA y)] w fun e w' => ∃ v l, e = .returned v ∧ OwnI w.heap.size v l w' ∧ Ext w w' ∧ (l.Pairwise fun a b => cmpI a b < 0) ∧ ∀ n, n ∈ l ↔ Best D x y n := by
  have HS : Hd (∀ W, Ext ((w.alloc (.cells (idA x) 24)).alloc (.cells (idA y) 24)) W → W.rangeAt w.heap.size 0 (idC x) ∧ W.rangeAt (w.heap.size + 1) 0 (idC y)) := ⟨fun W he =>
    ⟨range_blk (he.blk (heap_alloc2_old w _ _) (fun h => h)), range_blk (he.blk (heap_alloc2_new w _ _) (fun h => h))⟩⟩
  have HD := Hd.mk h
  have hu := Try.underlying24
  have hmm := @run_makeMap Try.prog
  have HB := Hd.mk hb
  clear h
  go_enter Try.func22, Try.ntmps22
  go_upto_region 1 with fail
  go_cut [7, 8] from 17 to 24 (fun v7 v8 wx => ∃ mx lx my ly, v7 = .map (some mx) ∧ v8 = .map (some my) ∧ Hd (MapAt idV mx lx wx) ∧ Hd (MapAt idV my ly wx) ∧ Hd (Says D [x] lx) ∧ Hd (Says D [y] ly) ∧ Hd (Ext w wx))
  case first =>
    (refine wp_region_held_drew (S := fun W => W.rangeAt w.heap.size 0 (idC x) ∧ W.rangeAt (w.heap.size + 1) 0 (idC y)) (by kernel_rfl) (HS.out _ (by repeat (first | assumption | exact Ext.rfl' _ | apply Ext.drew1 | apply Ext.drewN1 | apply Ext.alloc1 | (refine Ext.set1' ?_ (by simp) _) | refine Ext.tr ?_ (by assumption)))) (fun hHeld => ?_); (refine reg_run (i := 0) (v := ?_) rfl (by kernel_rfl) ?_ ?_ (fun _ _ _ h => h) rfl ?_ (by assumption) ?_; rotate_left; (focus (decide +kernel)); (focus (decide +kernel)); (focus (intro W hW; (try dsimp only at hW); go_simp; (try with_reducible rfl); done)); (try simp only [Act.put, List.setIfInBounds_toArray, List.set_cons_zero, List.set_cons_succ])); (refine reg_load (i := 1) (cs := idC x) rfl rfl (by kernel_rfl) ?_ ?_ rfl hu rfl ?_ (by rw [idC_len]; exact info_sz) rfl (fun _ _ _ h => h) (by assumption) ?_; (focus (decide +kernel)); (focus (decide +kernel)); (focus (intro W hW; (try dsimp only at hW); go_split_ands; assumption)); (try simp only [Act.put, List.setIfInBounds_toArray, List.set_cons_zero, List.set_cons_succ])); (refine reg_run (i := 4) (v := ?_) rfl (by kernel_rfl) ?_ ?_ (fun _ _ _ h => h) rfl ?_ (by assumption) ?_; rotate_left; (focus (decide +kernel)); (focus (decide +kernel)); (focus (intro W hW; (try dsimp only at hW); go_simp; (try with_reducible rfl); done)); (try simp only [Act.put, List.setIfInBounds_toArray, List.set_cons_zero, List.set_cons_succ])); (refine reg_load (i := 5) (cs := idC y) rfl rfl (by kernel_rfl) ?_ ?_ rfl hu rfl ?_ (by rw [idC_len]; exact info_sz) rfl (fun _ _ _ h => h) (by assumption) ?_; (focus (decide +kernel)); (focus (decide +kernel)); (focus (intro W hW; (try dsimp only at hW); go_split_ands; assumption)); (try simp only [Act.put, List.setIfInBounds_toArray, List.set_cons_zero, List.set_cons_succ])); refine reg_eff2 (i := 2) (j := 6) rfl rfl ?hr1 rfl rfl (fun K hK => ?ha1) (fun K hK => ?hb1); (case hr1 => decide +kernel); (case' ha1 => ((refine op_slice1X (.tmp 18) rfl x rfl ?_; intro Ax wx1 hrx hex; have HRX := Hd.mk hrx; clear hrx); refine hK.out _ _ (HS.out _ (by repeat (first | assumption | exact Ext.rfl' _ | apply Ext.drew1 | apply Ext.drewN1 | apply Ext.alloc1 | (refine Ext.set1' ?_ (by simp) _) | refine Ext.tr ?_ (by assumption)))) (fun hHeldN => ?_); clear hK K hHeld; have hHeld := hHeldN; clear hHeldN; (try simp only [Act.put, List.setIfInBounds_toArray, List.set_cons_zero, List.set_cons_succ]); refine reg_eff2 (i := 3) (j := 6) rfl rfl ?hr2 rfl rfl (fun K hK => ?ha2) (fun K hK => ?hb2); (case hr2 => decide +kernel); (case' ha2 => ((go_simp; go_at_call 34; refine (reach_calls g m1 m2 D [x] Ax 1 1 _ (HD.out.ext (by repeat (first | assumption | exact Ext.rfl' _ | apply Ext.drew1 | apply Ext.drewN1 | apply Ext.alloc1 | (refine Ext.set1' ?_ (by simp) _) | refine Ext.tr ?_ (by assumption)))) rfl (HRX.out.ext (by repeat (first | assumption | exact Ext.rfl' _ | apply Ext.drew1 | apply Ext.drewN1 | apply Ext.alloc1 | (refine Ext.set1' ?_ (by simp) _) | refine Ext.tr ?_ (by assumption)))) (by omega)).mono ?_; rintro e wx2 ⟨mx, lx, rfl, hmx, hmx2, hex2, hlx⟩; have HMX := Hd.mk hmx; have HLX : Hd (Says D [x] lx) := ⟨hlx⟩; clear hmx hmx2 hlx); refine hK.out _ _ (HS.out _ (by repeat (first | assumption | exact Ext.rfl' _ | apply Ext.drew1 | apply Ext.drewN1 | apply Ext.alloc1 | (refine Ext.set1' ?_ (by simp) _) | refine Ext.tr ?_ (by assumption)))) (fun hHeldN => ?_); clear hK K hHeld; have hHeld := hHeldN; clear hHeldN; (try simp only [Act.put, List.setIfInBounds_toArray, List.set_cons_zero, List.set_cons_succ]); refine reg_eff (i := 6) rfl ?_ rfl (fun K hK => ?_); (focus (decide +kernel)); (refine op_slice1X (.tmp 22) rfl y rfl ?_; intro Ay wy1 hry hey; have HRY := Hd.mk hry; clear hry); refine hK.out _ _ (HS.out _ (by repeat (first | assumption | exact Ext.rfl' _ | apply Ext.drew1 | apply Ext.drewN1 | apply Ext.alloc1 | (refine Ext.set1' ?_ (by simp) _) | refine Ext.tr ?_ (by assumption)))) (fun hHeldN => ?_); clear hK K hHeld; have hHeld := hHeldN; clear hHeldN; (try simp only [Act.put, List.setIfInBounds_toArray, List.set_cons_zero, List.set_cons_succ]); refine reg_eff (i := 7) rfl ?_ rfl (fun K hK => ?_); (focus (decide +kernel)); (go_simp; go_at_call 34; refine (reach_calls g m1 m2 D [y] Ay 1 1 _ (HD.out.ext (by repeat (first | assumption | exact Ext.rfl' _ | apply Ext.drew1 | apply Ext.drewN1 | apply Ext.alloc1 | (refine Ext.set1' ?_ (by simp) _) | refine Ext.tr ?_ (by assumption)))) rfl (HRY.out.ext (by repeat (first | assumption | exact Ext.rfl' _ | apply Ext.drew1 | apply Ext.drewN1 | apply Ext.alloc1 | (refine Ext.set1' ?_ (by simp) _) | refine Ext.tr ?_ (by assumption)))) (by omega)).mono ?_; rintro e wy2 ⟨my, ly, rfl, hmy, hmy2, hey2, hly⟩; have HMY := Hd.mk hmy; have HLY : Hd (Says D [y] ly) := ⟨hly⟩; clear hmy hmy2 hly); refine hK.out _ _ (HS.out _ (by repeat (first | assumption | exact Ext.rfl' _ | apply Ext.drew1 | apply Ext.drewN1 | apply Ext.alloc1 | (refine Ext.set1' ?_ (by simp) _) | refine Ext.tr ?_ (by assumption)))) (fun hHeldN => ?_); clear hK K hHeld; have hHeld := hHeldN; clear hHeldN; (try simp only [Act.put, List.setIfInBounds_toArray, List.set_cons_zero, List.set_cons_succ]); (refine reg_run (i := 8) (v := ?_) rfl (by kernel_rfl) ?_ ?_ (fun _ _ _ h => h) rfl ?_ (by assumption) ?_; rotate_left; (focus (decide +kernel)); (focus (decide +kernel)); (focus (intro W hW; (try dsimp only at hW); go_simp; (try with_reducible rfl); done)); (try simp only [Act.put, List.setIfInBounds_toArray, List.set_cons_zero, List.set_cons_succ])); (refine reg_run (i := 9) (v := ?_) rfl (by kernel_rfl) ?_ ?_ (fun _ _ _ h => h) rfl ?_ (by assumption) ?_; rotate_left; (focus (decide +kernel)); (focus (decide +kernel)); (focus (intro W hW; (try dsimp only at hW); go_simp; (try with_reducible rfl); done)); (try simp only [Act.put, List.setIfInBounds_toArray, List.set_cons_zero, List.set_cons_succ])); refine wpAnyH_done ?_ ?_ _; (focus (decide +kernel)); clear hHeld)); (case' hb2 => ((refine op_slice1X (.tmp 22) rfl y rfl ?_; intro Ay wy1 hry hey; have HRY := Hd.mk hry; clear hry); refine hK.out _ _ (HS.out _ (by repeat (first | assumption | exact Ext.rfl' _ | apply Ext.drew1 | apply Ext.drewN1 | apply Ext.alloc1 | (refine Ext.set1' ?_ (by simp) _) | refine Ext.tr ?_ (by assumption)))) (fun hHeldN => ?_); clear hK K hHeld; have hHeld := hHeldN; clear hHeldN; (try simp only [Act.put, List.setIfInBounds_toArray, List.set_cons_zero, List.set_cons_succ]); refine reg_eff (i := 3) rfl ?_ rfl (fun K hK => ?_); (focus (decide +kernel)); (go_simp; go_at_call 34; refine (reach_calls g m1 m2 D [x] Ax 1 1 _ (HD.out.ext (by repeat (first | assumption | exact Ext.rfl' _ | apply Ext.drew1 | apply Ext.drewN1 | apply Ext.alloc1 | (refine Ext.set1' ?_ (by simp) _) | refine Ext.tr ?_ (by assumption)))) rfl (HRX.out.ext (by repeat (first | assumption | exact Ext.rfl' _ | apply Ext.drew1 | apply Ext.drewN1 | apply Ext.alloc1 | (refine Ext.set1' ?_ (by simp) _) | refine Ext.tr ?_ (by assumption)))) (by omega)).mono ?_; rintro e wx2 ⟨mx, lx, rfl, hmx, hmx2, hex2, hlx⟩; have HMX := Hd.mk hmx; have HLX : Hd (Says D [x] lx) := ⟨hlx⟩; clear hmx hmx2 hlx); refine hK.out _ _ (HS.out _ (by repeat (first | assumption | exact Ext.rfl' _ | apply Ext.drew1 | apply Ext.drewN1 | apply Ext.alloc1 | (refine Ext.set1' ?_ (by simp) _) | refine Ext.tr ?_ (by assumption)))) (fun hHeldN => ?_); clear hK K hHeld; have hHeld := hHeldN; clear hHeldN; (try simp only [Act.put, List.setIfInBounds_toArray, List.set_cons_zero, List.set_cons_succ]); refine reg_eff (i := 7) rfl ?_ rfl (fun K hK => ?_); (focus (decide +kernel)); (go_simp; go_at_call 34; refine (reach_calls g m1 m2 D [y] Ay 1 1 _ (HD.out.ext (by repeat (first | assumption | exact Ext.rfl' _ | apply Ext.drew1 | apply Ext.drewN1 | apply Ext.alloc1 | (refine Ext.set1' ?_ (by simp) _) | refine Ext.tr ?_ (by assumption)))) rfl (HRY.out.ext (by repeat (first | assumption | exact Ext.rfl' _ | apply Ext.drew1 | apply Ext.drewN1 | apply Ext.alloc1 | (refine Ext.set1' ?_ (by simp) _) | refine Ext.tr ?_ (by assumption)))) (by omega)).mono ?_; rintro e wy2 ⟨my, ly, rfl, hmy, hmy2, hey2, hly⟩; have HMY := Hd.mk hmy; have HLY : Hd (Says D [y] ly) := ⟨hly⟩; clear hmy hmy2 hly); refine hK.out _ _ (HS.out _ (by repeat (first | assumption | exact Ext.rfl' _ | apply Ext.drew1 | apply Ext.drewN1 | apply Ext.alloc1 | (refine Ext.set1' ?_ (by simp) _) | refine Ext.tr ?_ (by assumption)))) (fun hHeldN => ?_); clear hK K hHeld; have hHeld := hHeldN; clear hHeldN; (try simp only [Act.put, List.setIfInBounds_toArray, List.set_cons_zero, List.set_cons_succ]); (refine reg_run (i := 8) (v := ?_) rfl (by kernel_rfl) ?_ ?_ (fun _ _ _ h => h) rfl ?_ (by assumption) ?_; rotate_left; (focus (decide +kernel)); (focus (decide +kernel)); (focus (intro W hW; (try dsimp only at hW); go_simp; (try with_reducible rfl); done)); (try simp only [Act.put, List.setIfInBounds_toArray, List.set_cons_zero, List.set_cons_succ])); (refine reg_run (i := 9) (v := ?_) rfl (by kernel_rfl) ?_ ?_ (fun _ _ _ h => h) rfl ?_ (by assumption) ?_; rotate_left; (focus (decide +kernel)); (focus (decide +kernel)); (focus (intro W hW; (try dsimp only at hW); go_simp; (try with_reducible rfl); done)); (try simp only [Act.put, List.setIfInBounds_toArray, List.set_cons_zero, List.set_cons_succ])); refine wpAnyH_done ?_ ?_ _; (focus (decide +kernel)); clear hHeld)))); (case' hb1 => ((refine op_slice1X (.tmp 22) rfl y rfl ?_; intro Ay wy1 hry hey; have HRY := Hd.mk hry; clear hry); refine hK.out _ _ (HS.out _ (by repeat (first | assumption | exact Ext.rfl' _ | apply Ext.drew1 | apply Ext.drewN1 | apply Ext.alloc1 | (refine Ext.set1' ?_ (by simp) _) | refine Ext.tr ?_ (by assumption)))) (fun hHeldN => ?_); clear hK K hHeld; have hHeld := hHeldN; clear hHeldN; (try simp only [Act.put, List.setIfInBounds_toArray, List.set_cons_zero, List.set_cons_succ]); refine reg_eff (i := 2) rfl ?_ rfl (fun K hK => ?_); (focus (decide +kernel)); (refine op_slice1X (.tmp 18) rfl x rfl ?_; intro Ax wx1 hrx hex; have HRX := Hd.mk hrx; clear hrx); refine hK.out _ _ (HS.out _ (by repeat (first | assumption | exact Ext.rfl' _ | apply Ext.drew1 | apply Ext.drewN1 | apply Ext.alloc1 | (refine Ext.set1' ?_ (by simp) _) | refine Ext.tr ?_ (by assumption)))) (fun hHeldN => ?_); clear hK K hHeld; have hHeld := hHeldN; clear hHeldN; (try simp only [Act.put, List.setIfInBounds_toArray, List.set_cons_zero, List.set_cons_succ]); refine reg_eff (i := 3) rfl ?_ rfl (fun K hK => ?_); (focus (decide +kernel)); (go_simp; go_at_call 34; refine (reach_calls g m1 m2 D [x] Ax 1 1 _ (HD.out.ext (by repeat (first | assumption | exact Ext.rfl' _ | apply Ext.drew1 | apply Ext.drewN1 | apply Ext.alloc1 | (refine Ext.set1' ?_ (by simp) _) | refine Ext.tr ?_ (by assumption)))) rfl (HRX.out.ext (by repeat (first | assumption | exact Ext.rfl' _ | apply Ext.drew1 | apply Ext.drewN1 | apply Ext.alloc1 | (refine Ext.set1' ?_ (by simp) _) | refine Ext.tr ?_ (by assumption)))) (by omega)).mono ?_; rintro e wx2 ⟨mx, lx, rfl, hmx, hmx2, hex2, hlx⟩; have HMX := Hd.mk hmx; have HLX : Hd (Says D [x] lx) := ⟨hlx⟩; clear hmx hmx2 hlx); refine hK.out _ _ (HS.out _ (by repeat (first | assumption | exact Ext.rfl' _ | apply Ext.drew1 | apply Ext.drewN1 | apply Ext.alloc1 | (refine Ext.set1' ?_ (by simp) _) | refine Ext.tr ?_ (by assumption)))) (fun hHeldN => ?_); clear hK K hHeld; have hHeld := hHeldN; clear hHeldN; (try simp only [Act.put, List.setIfInBounds_toArray, List.set_cons_zero, List.set_cons_succ]); refine reg_eff (i := 7) rfl ?_ rfl (fun K hK => ?_); (focus (decide +kernel)); (go_simp; go_at_call 34; refine (reach_calls g m1 m2 D [y] Ay 1 1 _ (HD.out.ext (by repeat (first | assumption | exact Ext.rfl' _ | apply Ext.drew1 | apply Ext.drewN1 | apply Ext.alloc1 | (refine Ext.set1' ?_ (by simp) _) | refine Ext.tr ?_ (by assumption)))) rfl (HRY.out.ext (by repeat (first | assumption | exact Ext.rfl' _ | apply Ext.drew1 | apply Ext.drewN1 | apply Ext.alloc1 | (refine Ext.set1' ?_ (by simp) _) | refine Ext.tr ?_ (by assumption)))) (by omega)).mono ?_; rintro e wy2 ⟨my, ly, rfl, hmy, hmy2, hey2, hly⟩; have HMY := Hd.mk hmy; have HLY : Hd (Says D [y] ly) := ⟨hly⟩; clear hmy hmy2 hly); refine hK.out _ _ (HS.out _ (by repeat (first | assumption | exact Ext.rfl' _ | apply Ext.drew1 | apply Ext.drewN1 | apply Ext.alloc1 | (refine Ext.set1' ?_ (by simp) _) | refine Ext.tr ?_ (by assumption)))) (fun hHeldN => ?_); clear hK K hHeld; have hHeld := hHeldN; clear hHeldN; (try simp only [Act.put, List.setIfInBounds_toArray, List.set_cons_zero, List.set_cons_succ]); (refine reg_run (i := 8) (v := ?_) rfl (by kernel_rfl) ?_ ?_ (fun _ _ _ h => h) rfl ?_ (by assumption) ?_; rotate_left; (focus (decide +kernel)); (focus (decide +kernel)); (focus (intro W hW; (try dsimp only at hW); go_simp; (try with_reducible rfl); done)); (try simp only [Act.put, List.setIfInBounds_toArray, List.set_cons_zero, List.set_cons_succ])); (refine reg_run (i := 9) (v := ?_) rfl (by kernel_rfl) ?_ ?_ (fun _ _ _ h => h) rfl ?_ (by assumption) ?_; rotate_left; (focus (decide +kernel)); (focus (decide +kernel)); (focus (intro W hW; (try dsimp only at hW); go_simp; (try with_reducible rfl); done)); (try simp only [Act.put, List.setIfInBounds_toArray, List.set_cons_zero, List.set_cons_succ])); refine wpAnyH_done ?_ ?_ _; (focus (decide +kernel)); clear hHeld)))
    all_goals (go_wp2_with fail; go_meet; exact ⟨mx, lx, my, ly, rfl, rfl, ⟨HMX.out.ext (by repeat (first | assumption | exact Ext.rfl' _ | apply Ext.drew1 | apply Ext.drewN1 | apply Ext.alloc1 | (refine Ext.set1' ?_ (by simp) _) | refine Ext.tr ?_ (by assumption)))⟩, HMY, HLX, HLY, ⟨(by repeat (first | assumption | exact Ext.rfl' _ | apply Ext.drew1 | apply Ext.drewN1 | apply Ext.alloc1 | (refine Ext.set1' ?_ (by simp) _) | refine Ext.tr ?_ (by assumption)))⟩⟩)
  case rest =>
    obtain ⟨mx, lx, my, ly, rfl, rfl, HMX, HMY, HLX, HLY, HE⟩ := hcut
    obtain ⟨o1, hrg1, hra1⟩ := run_range (P := Try.prog) 60 _ _ Try.underlying60 (HMX.out.ext (Ext.alloc' wc (.map #[] 0)))
    have HRA1 := Hd.mk hra1
    have HMC : Hd (MapAt idV wc.heap.size [] ((wc.alloc (.map #[] 0)).alloc o1)) := ⟨(MapAt.made wc).ext (Ext.alloc' _ _)⟩
    clear hra1
    go_wp2
    go_loopw [10] (fun iv wr => ∃ (ks : List Id) (lc : List (Id × Value)), Hd (RangeAt idV (wc.heap.size + 1) mx lx ks wr) ∧ Hd (MapAt idV wc.heap.size lc wr) ∧ Hd (∀ z, look lc z = if (ks.contains z && (look ly z).isSome) = true then some vT else none) ∧ Hd (Ext wc wr)) (fun iv wr => lx.length - seenOf (wc.heap.size + 1) wr)
    case atStart => exact ⟨[], [], ⟨by simpa using HRA1.out⟩, HMC, ⟨fun z => by simp [look]⟩, ⟨(Ext.alloc' _ _).alloc1 _⟩⟩
    case round =>
      clear HRA1 HMC
      obtain ⟨ks, lc, HR, HC, HCK, HE1⟩ := hrel
      rcases run_next (P := Try.prog) HR.out with ⟨hall, hrun⟩ | ⟨n, v, w1, hxl, hnk, hrun, hra', hchg, hent⟩
      · obtain ⟨wd, rfl⟩ : ∃ wd : World, wd = wr := ⟨_, rfl⟩
        have hcm : ∀ z, look lc z = if commF lx ly z = true then some vT else none := fun z => by
          rw [HCK.out z]
          unfold commF
          have h1 := look_none_keys (l := lx) (k := z)
          cases hz : look lx z with
          | none =>
            have : z ∉ ks := fun hk => (h1.1 hz) (HR.out.sub z hk)
            simp [this]
          | some v =>
            have : z ∈ ks := hall z (Classical.byContradiction fun hn => by rw [h1.2 hn] at hz; cases hz)
            simp [this]
        have HCM := Hd.mk hcm
        obtain ⟨o2, hrg2, hra2⟩ := run_range (P := Try.prog) 60 _ _ Try.underlying60 (HC.out.ext (Ext.alloc' wd (.map #[] 0)))
        have HRA2 := Hd.mk hra2
        have HMU : Hd (MapAt idV wd.heap.size [] ((wd.alloc (.map #[] 0)).alloc o2)) := ⟨(MapAt.made wd).ext (Ext.alloc' _ _)⟩
        have hcd := HC.out.lt
        have hED : Ext w wd := HE.out.tr HE1.out
        have HED := Hd.mk hED
        have hwcd := HE1.out.size
        clear hra2 hall HCK hcm hED
        go_wp2
        go_loopw [12] (fun iv wr => ∃ (ks : List Id) (lu : List (Id × Value)), Hd (RangeAt idV (wd.heap.size + 1) wc.heap.size lc ks wr) ∧ Hd (MapAt idV wd.heap.size lu wr) ∧ Hd (∀ z, look lu z = if (ks.any (fun n => (par D n).contains z)) = true then some vT else none) ∧ Hd (Ext wd wr)) (fun iv wr => lc.length - seenOf (wd.heap.size + 1) wr)
        case atStart => exact ⟨[], [], ⟨by simpa using HRA2.out⟩, HMU, ⟨fun z => by simp [look]⟩, ⟨(Ext.alloc' _ _).alloc1 _⟩⟩
        case round =>
          clear HRA2 HMU
          obtain ⟨ks2, lu, HR2, HU, HUK, HE2⟩ := hrel
          rcases run_next (P := Try.prog) HR2.out with ⟨hall, hrun⟩ | ⟨n, v, w1, hxl, hnk, hrun, hra', hchg, hent⟩
          · obtain ⟨we, rfl⟩ : ∃ we : World, we = wr := ⟨_, rfl⟩
            have hks2 : ∀ k, k ∈ ks2 ↔ k ∈ lc.map Prod.fst := fun k => ⟨HR2.out.sub k, hall k⟩
            have hlc : lc.length ≤ 900000000 := by
              have h1 := nodup_len HC.out.1 (l := lx.map Prod.fst) (fun k hk => (HLX.out.keys k).2 ((comm_iff HLX.out HLY.out k).1 ((keys_if HCM.out k).1 hk)).1)
              rw [List.length_map, List.length_map] at h1
              have h2 := HLX.out.short HMX.out.1
              have h3 := wgtAll_len D
              have h4 := HB.out
              omega
            have HKS2 := Hd.mk hks2
            obtain ⟨o3, hrg3, hra3⟩ := run_range (P := Try.prog) 60 _ _ Try.underlying60 (HC.out.ext HE2.out)
            have HRA3 := Hd.mk hra3
            have hue := HU.out.lt
            have hEE : Ext w we := HED.out.tr HE2.out
            have HEE := Hd.mk hEE
            clear hra3 hall hks2 hEE
            go_wp2
            go_loopw [15] (fun iv wr => ∃ (ks os : List Id) (B : Option Addr) (k kc : Nat), iv = .slice B k kc ∧ Hd (os.length = k) ∧ Hd (OwnI (we.heap.size + 1) iv os wr) ∧ Hd (RangeAt idV we.heap.size wc.heap.size lc ks wr) ∧ Hd (os = ks.filter (fun z => !(look lu z).isSome)) ∧ Hd (Ext we wr) ∧ we.heap.size + 1 ≤ wr.heap.size) (fun iv wr => lc.length - seenOf we.heap.size wr)
            case atStart => exact ⟨[], [], none, 0, 0, rfl, ⟨rfl⟩, ⟨OwnK.nil _ _ _ _ _⟩, ⟨by simpa using HRA3.out⟩, ⟨rfl⟩, ⟨Ext.alloc' _ _⟩, by simp⟩
            case round =>
              clear HRA3
              obtain ⟨ks3, os, B, k, kc, rfl, HL, HO, HR3, HOS, HE3, hsz3⟩ := hrel
              have hk9 : k ≤ 900000000 := by
                have h1 := nodup_len HR3.out.nodup HR3.out.sub
                rw [List.length_map] at h1
                have h2 := List.length_filter_le (fun z => !(look lu z).isSome) ks3
                rw [← HOS.out, HL.out] at h2
                omega
              have hkle : k ≤ 1000000000 := by omega
              rcases run_next (P := Try.prog) HR3.out with ⟨hall, hrun⟩ | ⟨n, v, w1, hxl, hnk, hrun, hra', hchg, hent⟩
              · have hks3 : ∀ k, k ∈ ks3 ↔ k ∈ lc.map Prod.fst := fun k => ⟨HR3.out.sub k, hall k⟩
                have HKS3 := Hd.mk hks3
                clear hall hks3
                go_wp2_with (go_at_call 36; refine (sortc_calls os B k kc (we.heap.size + 1) _ HO.out HL.out hkle).mono ?_; rintro e w2 ⟨rfl, ho2, hc2⟩; have HO2 := Hd.mk ho2; have HC2 := Hd.mk hc2; clear ho2 hc2)
                go_ret
                have hsw := HEE.out.size
                refine ⟨_, _, rfl, HO2.out.lower (by omega), (HEE.out.tr HE3.out).chg HC2.out (fun b hb => by have := (HO.out.lt b hb).1; omega), ?_, fun n => ?_⟩
                · refine sortC_rising ?_
                  rw [HOS.out]
                  exact HR3.out.nodup.filter _
                · rw [(sortC_perm os).mem_iff, HOS.out]
                  exact Best.of HLX.out HLY.out HCM.out HKS2.out HUK.out HKS3.out n
              · have hrun' : ∀ ty, (Instr.next (.pointer (some ⟨we.heap.size, 0, none⟩)) false ty).run Try.prog wr = .ok (.tuple #[.bool true, .agg (idA n), v]) w1 := hrun
                have hent' : (Instr.entry (.pointer (some ⟨we.heap.size, 0, none⟩))).run Try.prog w1 = .ok (.tuple #[.agg (idA n), v]) w1 := hent
                have hE1 : Ext we w1 := HE3.out.chg hchg (fun b hb => by omega)
                have r1 : (Instr.lookup 60 (.map (some wd.heap.size)) (.agg (idA n)) false).run Try.prog (w1.alloc (.cells (idA n) 24)) = .ok ((look lu n).getD (.bool false)) (w1.alloc (.cells (idA n) 24)) := run_lookup idKeys Try.underlying60 (zeroBool _) (HU.out.ext (hE1.alloc1 _)) n
                have HXB : Hd ((w1.alloc (.cells (idA n) 24)).heap[w1.heap.size]? = some (.cells (idA n) 24 (0, 0))) := ⟨heap_alloc_new _ _⟩
                have HRW := Hd.mk (row1 (w1.alloc (.cells (idA n) 24)) n 24)
                have HO1 : Hd (OwnI (we.heap.size + 1) (.slice B k kc) os w1) := ⟨HO.out.chg hchg (fun b hb e => by have := (HO.out.lt b hb).1; omega)⟩
                have hlt : ks3.length < lc.length := by
                  have h2 := nodup_len (ks := ks3 ++ [n]) hra'.nodup hra'.sub
                  rw [List.length_append, List.length_map] at h2
                  simp only [List.length_singleton] at h2; omega
                have hseen := HR3.out.seen
                have HR1 := Hd.mk hra'
                have HE1' := Hd.mk hE1
                have hsz1 : we.heap.size + 1 ≤ w1.heap.size := Nat.le_trans hsz3 hchg.size
                have hlu : look lu n = some vT ∨ look lu n = none := by
                  rw [HUK.out n]; split
                  · exact .inl rfl
                  · exact .inr rfl
                have hfil : (ks3 ++ [n]).filter (fun z => !(look lu z).isSome) = os ++ (if (look lu n).isSome = true then [] else [n]) := by
                  rw [List.filter_append, ← HOS.out]
                  congr 1
                  cases h : (look lu n).isSome <;> simp [List.filter, h]
                have HFIL := Hd.mk hfil
                clear hrun hent hra' hchg hE1 hxl hnk hfil
                rcases hlu with e1 | e1
                · rw [e1] at r1
                  simp only [Option.getD_some] at r1
                  have HV := Hd.mk e1
                  clear e1
                  go_wp2_with (first
                    | (refine wpList_var_id rfl rfl rfl (.tmp 16) (.tmp 64) rfl n rfl rfl ?_)
                    | (refine wpList_load_row (P := Try.prog) rfl 24 (.tmp 16) rfl w1.heap.size rfl 24 (idA n) (0, 0) _ HXB.out hu rfl (by rw [idA_size]; exact info_sz) ?_))
                  have hr4 : RangeAt idV we.heap.size wc.heap.size lc (ks3 ++ [n]) (w1.alloc (.cells (idA n) 24)) := HR1.out.ext (Ext.alloc' _ _)
                  go_roundw
                  case rel => exact ⟨ks3 ++ [n], os, B, k, kc, rfl, HL, ⟨HO1.out.ext (Ext.alloc' _ _)⟩, ⟨hr4⟩, ⟨by rw [HFIL.out, HV.out]; simp⟩, ⟨HE1'.out.alloc1 _⟩, by simp; omega⟩
                  case measure => rw [hr4.seen, hseen]; simp; omega
                · rw [e1] at r1
                  simp only [Option.getD_none] at r1
                  have HV := Hd.mk e1
                  clear e1
                  go_wp2_with (first
                    | (refine wpList_var_id rfl rfl rfl (.tmp 16) (.tmp 64) rfl n rfl rfl ?_)
                    | (refine wpList_load_row (P := Try.prog) rfl 24 (.tmp 16) rfl w1.heap.size rfl 24 (idA n) (0, 0) _ HXB.out hu rfl (by rw [idA_size]; exact info_sz) ?_)
                    | (refine wpList_slice1 rfl (.tmp 70) rfl n rfl ?_)
                    | (at_builtin; refine wpList_append_K idFlat rfl (.tmp 69) (.tmp 71) 29 24 rfl _ 32 Try.underlying29 info_id zId_size ((HO1.out.alloc _).alloc _) rfl rfl rfl HRW.out (by have := HL.out; simp; omega) (by have := HL.out; simp; omega) (by simp; omega) ?_; intro v5 w5 ho hg hat; obtain ⟨B5, k5, c5, rfl, H5L, h51, h52⟩ := ho.named; have HO5 := Hd.mk ho; have HG5 := Hd.mk hg; clear ho hg hat))
                  have hrow : ∀ b, (Value.slice B k kc).ownBlock = some b → we.heap.size + 1 ≤ b := fun b hb => (HO.out.lt b hb).1
                  have hchg5 : Chg (fun b => (Value.slice B k kc).ownBlock = some b) w1 w5 := (((Chg.refl _ w1).alloc _).alloc _).grown HG5.out (fun b hb e => e)
                  have hr5 : RangeAt idV we.heap.size wc.heap.size lc (ks3 ++ [n]) w5 := HR1.out.chg hchg5 (fun e => by have := hrow _ e; omega) (fun e => by have := hrow _ e; omega)
                  go_roundw
                  case rel => exact ⟨ks3 ++ [n], os ++ [n], B5, k5, c5, rfl, H5L, ⟨HO5.out⟩, ⟨hr5⟩, ⟨by rw [HFIL.out, HV.out]; simp⟩, ⟨HE1'.out.chg hchg5 (fun b hb => by have := hrow b hb; omega)⟩, Nat.le_trans hsz1 hchg5.size⟩
                  case measure => rw [hr5.seen, hseen]; simp; omega
          · have hrun' : ∀ ty, (Instr.next (.pointer (some ⟨wd.heap.size + 1, 0, none⟩)) false ty).run Try.prog wr = .ok (.tuple #[.bool true, .agg (idA n), v]) w1 := hrun
            have hent' : (Instr.entry (.pointer (some ⟨wd.heap.size + 1, 0, none⟩))).run Try.prog w1 = .ok (.tuple #[.agg (idA n), v]) w1 := hent
            have hE1 : Ext wd w1 := HE2.out.chg hchg (fun b hb => by omega)
            have hU1 : MapAt idV wd.heap.size lu w1 := HU.out.chg hchg (fun e => by omega)
            have hlt : ks2.length < lc.length := by
              have h2 := nodup_len (ks := ks2 ++ [n]) hra'.nodup hra'.sub
              rw [List.length_append, List.length_map] at h2
              simp only [List.length_singleton] at h2; omega
            have hseen := HR2.out.seen
            obtain ⟨PA, pk, pc, hp1, hp2, HPL, hpk1, hpk2, HPR⟩ := HD.out.node n
            obtain ⟨dn, hdn⟩ : ∃ dn, dep D n = dn := ⟨_, rfl⟩
            rw [hdn] at hp1
            have hpk9 : pk ≤ 1000000000 := by have h1 := HPL.out; have h2 := HB.out; have h3 := par_le D n; omega
            have hE1w : Ext w (w1.alloc (.cells (idA n) 24)) := (HED.out.tr hE1).alloc1 _
            have HS2 : Hd (∀ W, Ext (w1.alloc (.cells (idA n) 24)) W → W.rangeAt w1.heap.size 0 (idC n) ∧ W.cell? ⟨g, 0, none⟩ = some (.map (some m1)) ∧ (Instr.lookup 63 (.map (some m1)) (.agg (idA n)) false).run Try.prog W = .ok (.agg #[.slice PA pk pc, .int .i64 dn]) W) := ⟨fun W he =>
              ⟨range_blk (he.blk (heap_alloc_new w1 _) (fun h => h)), (hE1w.tr he).cell (blk_cell HD.out.1 0) (fun h => h), hp1 W (hE1w.tr he)⟩⟩
            have hf0 := fun W => field_par PA pk pc dn W
            have HR1 := Hd.mk hra'
            have HE1' := Hd.mk hE1
            have HU1 := Hd.mk hU1
            have hud := hU1.lt
            clear hrun hent hra' hchg hE1 hU1 hxl hnk hp1 hp2 hdn hE1w
            go_wp2_with (refine wpList_var_id rfl rfl rfl (.tmp 12) (.tmp 43) rfl n rfl rfl ?_)
            (refine wp_region_held_drew (S := fun W => W.rangeAt w1.heap.size 0 (idC n) ∧ W.cell? ⟨g, 0, none⟩ = some (.map (some m1)) ∧ (Instr.lookup 63 (.map (some m1)) (.agg (idA n)) false).run Try.prog W = .ok (.agg #[.slice PA pk pc, .int .i64 dn]) W) (by kernel_rfl) (HS2.out _ (by repeat (first | assumption | exact Ext.rfl' _ | apply Ext.drew1 | apply Ext.drewN1 | apply Ext.alloc1 | (refine Ext.set1' ?_ (by simp) _) | refine Ext.tr ?_ (by assumption)))) (fun hHeld => ?_); (refine reg_run (i := 0) (v := ?_) rfl (by kernel_rfl) ?_ ?_ (fun _ _ _ h => h) rfl ?_ (by assumption) ?_; rotate_left; (focus (decide +kernel)); (focus (decide +kernel)); (focus (intro W hW; (try dsimp only at hW); go_simp; (try with_reducible rfl); done)); (try simp only [Act.put, List.setIfInBounds_toArray, List.set_cons_zero, List.set_cons_succ])); (refine reg_run (i := 1) (v := ?_) rfl (by kernel_rfl) ?_ ?_ (fun _ _ _ h => h) rfl ?_ (by assumption) ?_; rotate_left; (focus (decide +kernel)); (focus (decide +kernel)); (focus (intro W hW; (try dsimp only at hW); go_simp; (try with_reducible rfl); done)); (try simp only [Act.put, List.setIfInBounds_toArray, List.set_cons_zero, List.set_cons_succ])); (refine reg_run (i := 2) (v := ?_) rfl (by kernel_rfl) ?_ ?_ (fun _ _ _ h => h) rfl ?_ (by assumption) ?_; rotate_left; (focus (decide +kernel)); (focus (decide +kernel)); (focus (intro W hW; (try dsimp only at hW); go_simp; (try with_reducible rfl); done)); (try simp only [Act.put, List.setIfInBounds_toArray, List.set_cons_zero, List.set_cons_succ])); (refine reg_run (i := 3) (v := ?_) rfl (by kernel_rfl) ?_ ?_ (fun _ _ _ h => h) rfl ?_ (by assumption) ?_; rotate_left; (focus (decide +kernel)); (focus (decide +kernel)); (focus (intro W hW; (try dsimp only at hW); go_simp; (try with_reducible rfl); done)); (try simp only [Act.put, List.setIfInBounds_toArray, List.set_cons_zero, List.set_cons_succ])); (refine reg_load (i := 4) (cs := idC n) rfl rfl (by kernel_rfl) ?_ ?_ rfl hu rfl ?_ (by rw [idC_len]; exact info_sz) rfl (fun _ _ _ h => h) (by assumption) ?_; (focus (decide +kernel)); (focus (decide +kernel)); (focus (intro W hW; (try dsimp only at hW); go_split_ands; assumption)); (try simp only [Act.put, List.setIfInBounds_toArray, List.set_cons_zero, List.set_cons_succ])); (refine reg_run (i := 5) (v := ?_) rfl (by kernel_rfl) ?_ ?_ (fun _ _ _ h => h) rfl ?_ (by assumption) ?_; rotate_left; (focus (decide +kernel)); (focus (decide +kernel)); (focus (intro W hW; (try dsimp only at hW); go_simp; (try with_reducible rfl); done)); (try simp only [Act.put, List.setIfInBounds_toArray, List.set_cons_zero, List.set_cons_succ])); (refine reg_run (i := 6) (v := ?_) rfl (by kernel_rfl) ?_ ?_ (fun _ _ _ h => h) rfl ?_ (by assumption) ?_; rotate_left; (focus (decide +kernel)); (focus (decide +kernel)); (focus (intro W hW; (try dsimp only at hW); go_simp; (try with_reducible rfl); done)); (try simp only [Act.put, List.setIfInBounds_toArray, List.set_cons_zero, List.set_cons_succ])); (refine reg_run (i := 7) (v := ?_) rfl (by kernel_rfl) ?_ ?_ (fun _ _ _ h => h) rfl ?_ (by assumption) ?_; rotate_left; (focus (decide +kernel)); (focus (decide +kernel)); (focus (intro W hW; (try dsimp only at hW); go_simp; (try with_reducible rfl); done)); (try simp only [Act.put, List.setIfInBounds_toArray, List.set_cons_zero, List.set_cons_succ])); (refine reg_run (i := 8) (v := ?_) rfl (by kernel_rfl) ?_ ?_ (fun _ _ _ h => h) rfl ?_ (by assumption) ?_; rotate_left; (focus (decide +kernel)); (focus (decide +kernel)); (focus (intro W hW; (try dsimp only at hW); go_simp; (try with_reducible rfl); done)); (try simp only [Act.put, List.setIfInBounds_toArray, List.set_cons_zero, List.set_cons_succ])); refine wpAnyH_done ?_ ?_ _; (focus (decide +kernel)); clear hHeld)
            have hE1x : Ext w1 (w1.alloc (.cells (idA n) 24)).drew := (by repeat (first | assumption | exact Ext.rfl' _ | apply Ext.drew1 | apply Ext.drewN1 | apply Ext.alloc1 | (refine Ext.set1' ?_ (by simp) _) | refine Ext.tr ?_ (by assumption)))
            have HE1x := Hd.mk hE1x
            clear hE1x HS2
            go_wp2
            go_loopw [52] (fun iv wi => ∃ (i : Nat) (lu' : List (Id × Value)), iv = .int .i64 i ∧ i ≤ pk ∧ Hd (RangeAt idV (wd.heap.size + 1) wc.heap.size lc (ks2 ++ [n]) wi) ∧ Hd (MapAt idV wd.heap.size lu' wi) ∧ Hd (∀ z, look lu' z = if (ks2.any (fun n => (par D n).contains z) || ((par D n).take i).contains z) = true then some vT else none) ∧ Hd (Ext wd wi)) (fun iv _ => pk - (intOf iv).toNat)
            case atStart => exact ⟨0, lu, rfl, by omega, ⟨HR1.out.ext HE1x.out⟩, ⟨HU1.out.ext HE1x.out⟩, ⟨fun z => by rw [HUK.out z]; exact if_b (by simp) _ _⟩, ⟨HE1'.out.tr HE1x.out⟩⟩
            case round =>
              obtain ⟨i, lu', rfl, hi, HRi, HUi, HUKi, HEi⟩ := hrel
              obtain ⟨wi, rfl⟩ : ∃ wi : World, wi = wr := ⟨_, rfl⟩
              by_cases hlti : i < pk
              · obtain ⟨q, hq⟩ : ∃ q, (par D n)[i]? = some q := ⟨_, List.getElem?_eq_getElem (by have := HPL.out; omega)⟩
                obtain ⟨go, oo, rfl, hrng⟩ := open_ids HPR.out (by have := HPL.out; omega)
                have HRQ := Hd.mk (hrng wi (HED.out.tr HEi.out) i q hq)
                have HQ := Hd.mk hq
                have HXQ : Hd ((wi.alloc (.cells (idA q) 24)).heap[wi.heap.size]? = some (.cells (idA q) 24 (0, 0))) := ⟨heap_alloc_new _ _⟩
                obtain ⟨w4, hup, hm4, hc4, hs4⟩ := run_mapUpdate idKeys Try.underlying60 (HUi.out.ext (Ext.alloc' wi (.cells (idA q) 24))) q vT
                have hup2 : (Instr.mapUpdate 60 (.map (some wd.heap.size)) (.agg (idA q)) vT).run Try.prog (wi.alloc (.cells (idA q) 24)) = .ok () w4 := hup
                have HM4 := Hd.mk hm4
                have HC4 := Hd.mk hc4
                clear hrng hq hup hm4 hc4 hs4
                go_wp2_with (first
                  | (refine wpList_load_mid (P := Try.prog) rfl 24 (.tmp 54) rfl go (oo + i * 32) rfl (idC q) _ HRQ.out hu rfl (by rw [idC_len]; exact info_sz) ?_)
                  | (refine wpList_var_id rfl rfl rfl (.tmp 14) (.tmp 55) rfl q rfl rfl ?_)
                  | (refine wpList_load_row (P := Try.prog) rfl 24 (.tmp 14) rfl wi.heap.size rfl 24 (idA q) (0, 0) _ HXQ.out hu rfl (by rw [idA_size]; exact info_sz) ?_))
                have hr4 : RangeAt idV (wd.heap.size + 1) wc.heap.size lc (ks2 ++ [n]) w4 := (HRi.out.ext (Ext.alloc' _ _)).chg HC4.out (fun e => by omega) (fun e => by omega)
                go_roundw
                case rel => exact ⟨i + 1, putL lu' q vT, by go_num, by omega, ⟨hr4⟩, HM4, ⟨fun z => by
                  rw [look_put, HUKi.out z]
                  by_cases e : z = q
                  · subst e
                    rw [if_pos rfl]
                    exact (if_pos (by rw [contains_take HQ.out]; simp)).symm
                  · rw [if_neg e]
                    exact if_b (by rw [contains_take HQ.out]; simp [e]) _ _⟩, ⟨(HEi.out.alloc1 _).chg HC4.out (fun b hb => by omega)⟩⟩
                case measure => simp [intOf]; omega
              · obtain rfl : i = pk := by omega
                have hfin : ∀ z, look lu' z = if ((ks2 ++ [n]).any (fun n => (par D n).contains z)) = true then some vT else none := fun z => by
                  rw [HUKi.out z]
                  exact if_b (by rw [List.take_of_length_le (by rw [HPL.out]; omega), List.any_append]; simp only [List.any_cons, List.any_nil, Bool.or_false]) _ _
                have HFIN := Hd.mk hfin
                clear hfin
                go_wp2
                go_roundw
                case rel => exact ⟨ks2 ++ [n], lu', HRi, HUi, HFIN, HEi⟩
                case measure => rw [HRi.out.seen, hseen]; simp; omega
      · have hrun' : ∀ ty, (Instr.next (.pointer (some ⟨wc.heap.size + 1, 0, none⟩)) false ty).run Try.prog wr = .ok (.tuple #[.bool true, .agg (idA n), v]) w1 := hrun
        have hent' : (Instr.entry (.pointer (some ⟨wc.heap.size + 1, 0, none⟩))).run Try.prog w1 = .ok (.tuple #[.agg (idA n), v]) w1 := hent
        have hE1 : Ext wc w1 := HE1.out.chg hchg (fun b hb => by omega)
        have hC1 : MapAt idV wc.heap.size lc w1 := HC.out.chg hchg (fun e => by omega)
        have r1 : (Instr.lookup 60 (.map (some my)) (.agg (idA n)) false).run Try.prog (w1.alloc (.cells (idA n) 24)) = .ok ((look ly n).getD (.bool false)) (w1.alloc (.cells (idA n) 24)) := run_lookup idKeys Try.underlying60 (zeroBool _) (HMY.out.ext (hE1.alloc1 _)) n
        obtain ⟨w4, hup, hm4, hc4, hs4⟩ := run_mapUpdate idKeys Try.underlying60 (hC1.ext (Ext.alloc' w1 (.cells (idA n) 24))) n vT
        have hup2 : (Instr.mapUpdate 60 (.map (some wc.heap.size)) (.agg (idA n)) vT).run Try.prog (w1.alloc (.cells (idA n) 24)) = .ok () w4 := hup
        have HXB : Hd ((w1.alloc (.cells (idA n) 24)).heap[w1.heap.size]? = some (.cells (idA n) 24 (0, 0))) := ⟨heap_alloc_new _ _⟩
        have hlt : ks.length < lx.length := by
          have h2 := nodup_len (ks := ks ++ [n]) hra'.nodup hra'.sub
          rw [List.length_append, List.length_map] at h2
          simp only [List.length_singleton] at h2; omega
        have hseen := HR.out.seen
        have HR1 := Hd.mk hra'
        have HE1' := Hd.mk hE1
        have HC1 := Hd.mk hC1
        have HM4 := Hd.mk hm4
        have HC4 := Hd.mk hc4
        have hapart := hra'.apart
        have hmxw := HMX.out.lt
        have hw1 := hE1.size
        have hcs := hC1.lt
        have HNK := Hd.mk hnk
        clear hrun hent hra' hchg hup hm4 hc4 hE1 hC1 hs4 hxl hnk
        rcases HLY.out n with ⟨e1, e2⟩ | ⟨e1, e2⟩
        · rw [e1] at r1
          simp only [Option.getD_some] at r1
          have HV := Hd.mk e1
          clear e1 e2
          go_wp2_with (first
            | (refine wpList_var_id rfl rfl rfl (.tmp 10) (.tmp 31) rfl n rfl rfl ?_)
            | (refine wpList_load_row (P := Try.prog) rfl 24 (.tmp 10) rfl w1.heap.size rfl 24 (idA n) (0, 0) _ HXB.out hu rfl (by rw [idA_size]; exact info_sz) ?_))
          have hr4 : RangeAt idV (wc.heap.size + 1) mx lx (ks ++ [n]) w4 := (HR1.out.ext (Ext.alloc' _ _)).chg HC4.out (fun e => by omega) (fun e => by omega)
          go_roundw
          case rel => exact ⟨ks ++ [n], putL lc n vT, ⟨hr4⟩, HM4, ⟨fun z => by
            rw [look_put, HCK.out z]
            by_cases e : z = n
            · subst e; simp [HV.out]
            · simp [e]⟩, ⟨(HE1'.out.alloc1 _).chg HC4.out (fun b hb => by omega)⟩⟩
          case measure => rw [hr4.seen, hseen]; simp; omega
        · rw [e1] at r1
          simp only [Option.getD_none] at r1
          have HV := Hd.mk e1
          clear e1 e2 hup2
          go_wp2_with (first
            | (refine wpList_var_id rfl rfl rfl (.tmp 10) (.tmp 31) rfl n rfl rfl ?_)
            | (refine wpList_load_row (P := Try.prog) rfl 24 (.tmp 10) rfl w1.heap.size rfl 24 (idA n) (0, 0) _ HXB.out hu rfl (by rw [idA_size]; exact info_sz) ?_))
          have hr4 : RangeAt idV (wc.heap.size + 1) mx lx (ks ++ [n]) (w1.alloc (.cells (idA n) 24)) := HR1.out.ext (Ext.alloc' _ _)
          go_roundw
          case rel => exact ⟨ks ++ [n], lc, ⟨hr4⟩, ⟨HC1.out.ext (Ext.alloc' _ _)⟩, ⟨fun z => by
            rw [HCK.out z]
            by_cases e : z = n
            · subst e; simp [HV.out]
            · simp [e]⟩, ⟨HE1'.out.alloc1 _⟩⟩
          case measure => rw [hr4.seen, hseen]; simp; omega
end Go.Proofs.Ythfinaocdcinlaa
