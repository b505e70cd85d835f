/- Package dag: Add. -/
import Derived.Test.YthfinaocdcinlaaDag2
namespace Go.Proofs.Ythfinaocdcinlaa
open Go.RowKit
attribute [local go_sem] eql_sl_nil neq_sl_nil
set_option linter.unusedVariables false
set_option linter.unusedSimpArgs false

theorem max_two (ats : Array TypeId) (ty : TypeId) (k : IntKind) (x y : Int) : Builtin.max_ ats ty #[.int k x, .int k y] = pure (.int k (if x < y then y else x)) := by
  simp only [Builtin.max_, List.foldlM, Builtin.max2]
  first | rfl | split <;> rfl
/-- A row whose elements are written out stays where a map turns. -/
theorem RowAt.chgMap {α : Type} {d : Ty α} {enc : α → List Value} (F : Flat d enc) {A : Option Addr} {l : List α} {w w1 : World} {m : Nat} {es : Array MapEntry} {c : Nat} (h : RowAt d A l w) (hm : w.heap[m]? = some (.map es c)) (hc : Chg (· = m) w w1) : RowAt d A l w1 := by
  intro j x hj
  obtain ⟨ad, cs, e, hk, hcell⟩ := h j x hj
  refine ⟨ad, cs, e, ?_, fun i u hu => hc.cell (hcell i u hu) (fun e2 => ?_)⟩
  · rw [F.inv hk]; exact F.kk x w1
  · have h1 := hcell i u hu
    rw [World.cell?] at h1
    rw [e2, hm] at h1
    simp at h1
theorem NodeV.chgMap {n : List Id × Nat} {v : Value} {w w1 : World} {m : Nat} {es : Array MapEntry} {c : Nat} (h : NodeV n v w) (hm : w.heap[m]? = some (.map es c)) (hc : Chg (· = m) w w1) : NodeV n v w1 := by
  obtain ⟨A, k, h1, h2, h3, h4⟩ := h
  exact ⟨A, k, h1, h2, h3, h4.chgMap idFlat hm hc⟩

def depF (D : Nodes) (ps : List Id) : Nat := ps.foldl (fun d p => max d (dep D p + 1)) 1
/-- What Add does. -/
def addF (D : Nodes) (x : Id) (ps : List Id) : Nodes × Int :=
  if rightF x ps = false then (D, 1)
  else match look D x with
    | some n => if n.1 = ps then (D, 0) else (D, 5)
    | none => if ps.all (has D) = true then (D ++ [(x, (ps, depF D ps))], 0) else (D, 110)
def AddPost (g m1 m2 : Nat) (D : Nodes) (x : Id) (ps : List Id) (w : World) (e : Ending) (w' : World) : Prop :=
  e = .returned (.int .i64 (addF D x ps).2) ∧ DagAt g m1 m2 (addF D x ps).1 w' ∧ Chg (fun k => k = m1 ∨ k = m2) w w'

/-- The IDs of a node lie in a block of F. -/
def VIn (F : Nat → Prop) (v : Value) : Prop := ∀ A k c d, v = .agg #[.slice A k c, d] → 0 < k → ∀ ad, A = some ad → F ad.block
/-- All parents in the map at m lie in blocks of F. -/
def RowsIn (F : Nat → Prop) (m : Nat) (w : World) : Prop := ∀ l : List (Id × Value), MapAt idV m l w → ∀ x v, look l x = some v → VIn F v
/-- What Add does to where the parents lie. -/
def RowsMove (m1 : Nat) (w w' : World) : Prop := ∀ F, RowsIn F m1 w → RowsIn (fun b => F b ∨ w.heap.size ≤ b) m1 w'
theorem listOf_inj {mb : Nat} {l l' : List (Id × Value)} {w : World} (h : MapAt idV mb l w) (h' : MapAt idV mb l' w) : l = l' := by
  obtain ⟨_, es, c, h2, h3, _⟩ := h
  obtain ⟨_, es', c', h2', h3', _⟩ := h'
  rw [h2] at h2'
  injection h2' with h2'
  injection h2' with e1 e2
  subst e1
  rw [h3] at h3'
  exact (List.map_inj_right (fun a b h => by
    obtain ⟨a1, a2⟩ := a
    obtain ⟨b1, b2⟩ := b
    simp only [Prod.mk.injEq] at h ⊢
    exact ⟨idV_inj _ _ h.1, h.2⟩)).1 h3'
theorem RowsIn.mono {F G : Nat → Prop} {m : Nat} {w : World} (h : RowsIn F m w) (hi : ∀ b, F b → G b) : RowsIn G m w := fun l hl x v hx A k c d e hk ad ha => hi _ (h l hl x v hx A k c d e hk ad ha)
theorem RowsIn.same {F : Nat → Prop} {m : Nat} {l : List (Id × Value)} {w w' : World} (h : RowsIn F m w) (h1 : MapAt idV m l w) (h2 : MapAt idV m l w') : RowsIn F m w' := fun l' hl' => by
  obtain rfl := listOf_inj h2 hl'
  exact h l h1
theorem DagAt.map1 {g m1 m2 : Nat} {D : Nodes} {w : World} (h : DagAt g m1 m2 D w) : ∃ l1 : List (Id × Value), MapAt idV m1 l1 w := h.2.2.1.imp fun _ h => h.1
theorem RowsMove.ext {g m1 m2 : Nat} {D : Nodes} {w w' : World} (h : DagAt g m1 m2 D w) (he : Ext w w') : RowsMove m1 w w' := fun F hF => by
  obtain ⟨l1, hl⟩ := h.map1
  exact (hF.same hl (hl.ext he)).mono (fun _ h => .inl h)

section
variable (g m1 m2 : Nat) (D : Nodes) (x : Id) (ps : List Id) (A : Option Addr) (n c : Nat) (w : World)
set_option maxHeartbeats 4000000 in
set_option maxRecDepth 100000 in
theorem add_wrong (h : DagAt g m1 m2 D w) (hn : ps.length = n) (hb : n ≤ 1000000000) (hr : RowAt Ty.id A ps w) (hx : rightF x ps = false) :
    Calls Try.prog 10 #[.pointer (some ⟨g, 0, none⟩), .agg (idA x), .slice A n c] w (fun e w' => AddPost g m1 m2 D x ps w e w' ∧ RowsMove m1 w w') := by
  have HF : Hd (addF D x ps = (D, 1)) := ⟨by unfold addF; rw [if_pos hx]⟩
  have HD := Hd.mk h
  have HN := Hd.mk hn
  have HR := Hd.mk hr
  have HX := Hd.mk hx
  clear h hn hr hx
  have hu := Try.underlying24
  go_enter Try.func10, Try.ntmps10
  go_wp2_with (first
    | (go_at_call 30; refine (right_calls A n c x ps _ HN.out hb (HR.out.ext (by repeat (first | assumption | exact Ext.rfl' _ | apply Ext.drew1 | apply Ext.drewN1 | apply Ext.alloc1 | (refine Ext.set1' ?_ (by simp) _) | refine Ext.tr ?_ (by assumption))))).mono ?_; rintro e w1 ⟨rfl, he⟩; rw [HX.out])
    | (refine wpList_load_row (P := Try.prog) rfl 24 (.tmp 4) rfl w.heap.size rfl 24 (idA x) (0, 0) _ (heap_alloc_new w _) hu rfl (by rw [idA_size]; exact info_sz) ?_))
  go_ret
  have hfin : Ext w w1 := (by repeat (first | assumption | exact Ext.rfl' _ | apply Ext.drew1 | apply Ext.drewN1 | apply Ext.alloc1 | (refine Ext.set1' ?_ (by simp) _) | refine Ext.tr ?_ (by assumption)))
  exact ⟨⟨by rw [HF.out]; rfl, by rw [HF.out]; exact HD.out.ext hfin, hfin.mono (fun _ _ h => h.elim)⟩, RowsMove.ext HD.out hfin⟩

set_option maxHeartbeats 4000000 in
set_option maxRecDepth 100000 in
theorem add_twice (h : DagAt g m1 m2 D w) (hn : ps.length = n) (hb : n ≤ 1000000000) (hr : RowAt Ty.id A ps w) (hx : rightF x ps = true) (hlook : has D x = true) (hpb : (par D x).length ≤ 1000000000) :
    Calls Try.prog 10 #[.pointer (some ⟨g, 0, none⟩), .agg (idA x), .slice A n c] w (fun e w' => AddPost g m1 m2 D x ps w e w' ∧ RowsMove m1 w w') := by
  obtain ⟨bq, hbq⟩ : ∃ b, decide (par D x = ps) = b := ⟨_, rfl⟩
  have HF : Hd (addF D x ps = (D, if bq = true then 0 else 5)) := ⟨by
    unfold addF
    rw [if_neg (by rw [hx]; simp)]
    unfold has at hlook
    unfold par at hbq
    cases hl : look D x with
    | none => rw [hl] at hlook; cases hlook
    | some nd =>
      rw [hl] at hbq
      simp only [Option.map_some, Option.getD_some] at hbq
      rw [← hbq]
      simp only [decide_eq_true_eq]
      split <;> rfl⟩
  obtain ⟨NA, nk, nc, hl1, hl2, HL, hk1, hk2, HNR⟩ := h.node x
  obtain ⟨d, hd⟩ : ∃ d, dep D x = d := ⟨_, rfl⟩
  rw [hd, hlook] at hl2
  rw [HL.out] at hpb
  have HS : Hd (∀ W, Ext (w.alloc (.cells (idA x) 24)) W → W.rangeAt w.heap.size 0 (idC x) ∧ W.cell? ⟨g, 0, none⟩ = some (.map (some m1)) ∧ (Instr.lookup 63 (.map (some m1)) (.agg (idA x)) true).run Try.prog W = .ok (.tuple #[.agg #[.slice NA nk nc, .int .i64 d], .bool true]) W) := ⟨fun W he =>
    ⟨range_blk (he.blk (heap_alloc_new w _) (fun h => h)), ((Ext.alloc' w _).tr he).cell (blk_cell h.1 0) (fun h => h), hl2 W ((Ext.alloc' w _).tr he)⟩⟩
  have HD := Hd.mk h
  have HN := Hd.mk hn
  have HR := Hd.mk hr
  have HX := Hd.mk hx
  have HBQ := Hd.mk hbq
  clear h hn hr hx hl1 hl2 hlook hd hbq
  have hu := Try.underlying24
  go_enter Try.func10, Try.ntmps10
  go_wp2_with (first
    | (go_at_call 30; refine (right_calls A n c x ps _ HN.out hb (HR.out.ext (by repeat (first | assumption | exact Ext.rfl' _ | apply Ext.drew1 | apply Ext.drewN1 | apply Ext.alloc1 | (refine Ext.set1' ?_ (by simp) _) | refine Ext.tr ?_ (by assumption))))).mono ?_; rintro e w1 ⟨rfl, he⟩; rw [HX.out])
    | (refine wpList_load_row (P := Try.prog) rfl 24 (.tmp 4) rfl w.heap.size rfl 24 (idA x) (0, 0) _ (heap_alloc_new w _) hu rfl (by rw [idA_size]; exact info_sz) ?_))
  (refine wp_region_held_drew (S := fun W => W.rangeAt w.heap.size 0 (idC x) ∧ W.cell? ⟨g, 0, none⟩ = some (.map (some m1)) ∧ (Instr.lookup 63 (.map (some m1)) (.agg (idA x)) true).run Try.prog W = .ok (.tuple #[.agg #[.slice NA nk nc, .int .i64 d], .bool true]) W) (by kernel_rfl) (HS.out _ (by repeat (first | assumption | exact Ext.rfl' _ | apply Ext.drew1 | apply Ext.drewN1 | apply Ext.alloc1 | (refine Ext.set1' ?_ (by simp) _) | refine Ext.tr ?_ (by assumption)))) (fun hHeld => ?_); (refine reg_run (i := 0) (v := ?_) rfl (by kernel_rfl) ?_ ?_ (fun _ _ _ h => h) rfl ?_ (by assumption) ?_; rotate_left; (focus (decide +kernel)); (focus (decide +kernel)); (focus (intro W hW; (try dsimp only at hW); go_simp; (try with_reducible rfl); done)); (try simp only [Act.put, List.setIfInBounds_toArray, List.set_cons_zero, List.set_cons_succ])); (refine reg_run (i := 1) (v := ?_) rfl (by kernel_rfl) ?_ ?_ (fun _ _ _ h => h) rfl ?_ (by assumption) ?_; rotate_left; (focus (decide +kernel)); (focus (decide +kernel)); (focus (intro W hW; (try dsimp only at hW); go_simp; (try with_reducible rfl); done)); (try simp only [Act.put, List.setIfInBounds_toArray, List.set_cons_zero, List.set_cons_succ])); (refine reg_run (i := 2) (v := ?_) rfl (by kernel_rfl) ?_ ?_ (fun _ _ _ h => h) rfl ?_ (by assumption) ?_; rotate_left; (focus (decide +kernel)); (focus (decide +kernel)); (focus (intro W hW; (try dsimp only at hW); go_simp; (try with_reducible rfl); done)); (try simp only [Act.put, List.setIfInBounds_toArray, List.set_cons_zero, List.set_cons_succ])); (refine reg_run (i := 3) (v := ?_) rfl (by kernel_rfl) ?_ ?_ (fun _ _ _ h => h) rfl ?_ (by assumption) ?_; rotate_left; (focus (decide +kernel)); (focus (decide +kernel)); (focus (intro W hW; (try dsimp only at hW); go_simp; (try with_reducible rfl); done)); (try simp only [Act.put, List.setIfInBounds_toArray, List.set_cons_zero, List.set_cons_succ])); (refine reg_load (i := 4) (cs := idC x) rfl rfl (by kernel_rfl) ?_ ?_ rfl hu rfl ?_ (by rw [idC_len]; exact info_sz) rfl (fun _ _ _ h => h) (by assumption) ?_; (focus (decide +kernel)); (focus (decide +kernel)); (focus (intro W hW; (try dsimp only at hW); go_split_ands; assumption)); (try simp only [Act.put, List.setIfInBounds_toArray, List.set_cons_zero, List.set_cons_succ])); (refine reg_run (i := 5) (v := ?_) rfl (by kernel_rfl) ?_ ?_ (fun _ _ _ h => h) rfl ?_ (by assumption) ?_; rotate_left; (focus (decide +kernel)); (focus (decide +kernel)); (focus (intro W hW; (try dsimp only at hW); go_simp; (try with_reducible rfl); done)); (try simp only [Act.put, List.setIfInBounds_toArray, List.set_cons_zero, List.set_cons_succ])); (refine reg_run (i := 6) (v := ?_) rfl (by kernel_rfl) ?_ ?_ (fun _ _ _ h => h) rfl ?_ (by assumption) ?_; rotate_left; (focus (decide +kernel)); (focus (decide +kernel)); (focus (intro W hW; (try dsimp only at hW); go_simp; (try with_reducible rfl); done)); (try simp only [Act.put, List.setIfInBounds_toArray, List.set_cons_zero, List.set_cons_succ])); (refine reg_run (i := 7) (v := ?_) rfl (by kernel_rfl) ?_ ?_ (fun _ _ _ h => h) rfl ?_ (by assumption) ?_; rotate_left; (focus (decide +kernel)); (focus (decide +kernel)); (focus (intro W hW; (try dsimp only at hW); go_simp; (try with_reducible rfl); done)); (try simp only [Act.put, List.setIfInBounds_toArray, List.set_cons_zero, List.set_cons_succ])); (refine reg_run (i := 8) (v := ?_) rfl (by kernel_rfl) ?_ ?_ (fun _ _ _ h => h) rfl ?_ (by assumption) ?_; rotate_left; (focus (decide +kernel)); (focus (decide +kernel)); (focus (intro W hW; (try dsimp only at hW); go_simp; (try with_reducible rfl); done)); (try simp only [Act.put, List.setIfInBounds_toArray, List.set_cons_zero, List.set_cons_succ])); refine reg_eff (i := 9) rfl ?_ rfl (fun K hK => ?_); (focus (decide +kernel)); go_simp; refine hK.out _ _ (HS.out _ (by repeat (first | assumption | exact Ext.rfl' _ | apply Ext.drew1 | apply Ext.drewN1 | apply Ext.alloc1 | (refine Ext.set1' ?_ (by simp) _) | refine Ext.tr ?_ (by assumption)))) (fun hHeldN => ?_); clear hK K hHeld; have hHeld := hHeldN; clear hHeldN; (try simp only [Act.put, List.setIfInBounds_toArray, List.set_cons_zero, List.set_cons_succ]); refine reg_eff (i := 10) rfl ?_ rfl (fun K hK => ?_); (focus (decide +kernel)); go_simp; refine hK.out _ _ (HS.out _ (by repeat (first | assumption | exact Ext.rfl' _ | apply Ext.drew1 | apply Ext.drewN1 | apply Ext.alloc1 | (refine Ext.set1' ?_ (by simp) _) | refine Ext.tr ?_ (by assumption)))) (fun hHeldN => ?_); clear hK K hHeld; have hHeld := hHeldN; clear hHeldN; (try simp only [Act.put, List.setIfInBounds_toArray, List.set_cons_zero, List.set_cons_succ]); (refine reg_run (i := 11) (v := ?_) rfl (by kernel_rfl) ?_ ?_ (fun _ _ _ h => h) rfl ?_ (by assumption) ?_; rotate_left; (focus (decide +kernel)); (focus (decide +kernel)); (focus (intro W hW; (try dsimp only at hW); go_simp; (try with_reducible rfl); done)); (try simp only [Act.put, List.setIfInBounds_toArray, List.set_cons_zero, List.set_cons_succ])); refine wpAnyH_done ?_ ?_ _; (focus (decide +kernel)); clear hHeld)
  have hw1 : Ext w w1 := (by repeat (first | assumption | exact Ext.rfl' _ | apply Ext.drew1 | apply Ext.drewN1 | apply Ext.alloc1 | (refine Ext.set1' ?_ (by simp) _) | refine Ext.tr ?_ (by assumption)))
  cases bq
  · go_wp2_with (go_at_call 31; refine (equal_ids NA A nk n nc c (par D x) ps _ HL.out HN.out hpb hb (HNR.out.ext (by repeat (first | assumption | exact Ext.rfl' _ | apply Ext.drew1 | apply Ext.drewN1 | apply Ext.alloc1 | (refine Ext.set1' ?_ (by simp) _) | refine Ext.tr ?_ (by assumption)))) (HR.out.ext (by repeat (first | assumption | exact Ext.rfl' _ | apply Ext.drew1 | apply Ext.drewN1 | apply Ext.alloc1 | (refine Ext.set1' ?_ (by simp) _) | refine Ext.tr ?_ (by assumption))))).mono ?_; rintro e w2 ⟨rfl, hdr⟩; rw [HBQ.out]; have he2 := hdr.ext; clear hdr)
    go_ret
    have hfin : Ext w w2 := (by repeat (first | assumption | exact Ext.rfl' _ | apply Ext.drew1 | apply Ext.drewN1 | apply Ext.alloc1 | (refine Ext.set1' ?_ (by simp) _) | refine Ext.tr ?_ (by assumption)))
    exact ⟨⟨by rw [HF.out]; rfl, by rw [HF.out]; exact HD.out.ext hfin, hfin.mono (fun _ _ h => h.elim)⟩, RowsMove.ext HD.out hfin⟩
  · go_wp2_with (go_at_call 31; refine (equal_ids NA A nk n nc c (par D x) ps _ HL.out HN.out hpb hb (HNR.out.ext (by repeat (first | assumption | exact Ext.rfl' _ | apply Ext.drew1 | apply Ext.drewN1 | apply Ext.alloc1 | (refine Ext.set1' ?_ (by simp) _) | refine Ext.tr ?_ (by assumption)))) (HR.out.ext (by repeat (first | assumption | exact Ext.rfl' _ | apply Ext.drew1 | apply Ext.drewN1 | apply Ext.alloc1 | (refine Ext.set1' ?_ (by simp) _) | refine Ext.tr ?_ (by assumption))))).mono ?_; rintro e w2 ⟨rfl, hdr⟩; rw [HBQ.out]; have he2 := hdr.ext; clear hdr)
    go_ret
    have hfin : Ext w w2 := (by repeat (first | assumption | exact Ext.rfl' _ | apply Ext.drew1 | apply Ext.drewN1 | apply Ext.alloc1 | (refine Ext.set1' ?_ (by simp) _) | refine Ext.tr ?_ (by assumption)))
    exact ⟨⟨by rw [HF.out]; rfl, by rw [HF.out]; exact HD.out.ext hfin, hfin.mono (fun _ _ h => h.elim)⟩, RowsMove.ext HD.out hfin⟩
end
end Go.Proofs.Ythfinaocdcinlaa
