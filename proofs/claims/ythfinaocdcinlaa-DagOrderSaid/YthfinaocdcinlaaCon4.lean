/- Words for the laws: slices of IDs that grow beside a Dag. -/
import Derived.Test.YthfinaocdcinlaaCon3
namespace Go.Proofs.Ythfinaocdcinlaa
open Go.RowKit
set_option linter.unusedVariables false
set_option linter.unusedSimpArgs false

theorem min_two (ats : Array TypeId) (ty : TypeId) (k : IntKind) (x y : Int) : Builtin.min_ ats ty #[.int k x, .int k y] = pure (.int k (if y < x then y else x)) := by
  simp only [Builtin.min_, List.foldlM, Builtin.min2]
  first | rfl | (split <;> rfl)
theorem range_chg {S : Nat → Prop} {w w' : World} {b o : Nat} {cs : List Value} (h : w.rangeAt b o cs) (hc : Chg S w w') (hb : ¬ S b) : w'.rangeAt b o cs := fun j v hv => hc.cell (h j v hv) hb
/-- A load of an ID, at an operation. -/
theorem op_loadI {o : Oper} {a : Act} {Q : Exit → Act → World → Prop} {K : Act → World → Prop} {w : World} (p : Operand) (ho : o.op = .load 24 p) (b off : Nat) (hp : a.eval p = .pointer (some ⟨b, off, none⟩)) (x : Id) (hc : w.rangeAt b off (idC x)) (h : K (a.put o.dst (.agg (idA x))) w) : Oper.wp Try.prog o a w K Q :=
  wp_load_mid _ p ho b off hp (idC x) _ hc Try.underlying24 rfl (by rw [idC_len]; exact info_sz0) h
theorem RowAt.chgB {α : Type} {d : Ty α} {enc : α → List Value} (F : Flat d enc) {A : Option Addr} {l : List α} {w w1 : World} {S : Nat → Prop} (h : RowAt d A l w) (hS : ∀ ad, A = some ad → ¬ S ad.block) (hc : Chg S w w1) : RowAt d A l w1 := by
  intro j x hj
  obtain ⟨ad, cs, e, hk, hcell⟩ := h j x hj
  refine ⟨ad, cs, e, ?_, fun i u hu => hc.cell (hcell i u hu) (by rw [add_block]; exact hS ad e)⟩
  rw [F.inv hk]; exact F.kk x w1
section
variable {ops : Array Oper} {rest : List Oper} {o : Oper} {a : Act} {Q : Exit → Act → World → Prop}
/-- A slice literal of one ID, its block. -/
theorem wpList_slice1B {w : World} (hw : Region.wanted o (yielded ops a.tmps) = true) (y : Operand) (ho : o.op = .buildSlice 29 1 #[(0, y)]) (x : Id) (hy : a.eval y = .agg (idA x))
    (h : ∀ (g : Nat) (w' : World), RowAt Ty.id (some ⟨g, 0, none⟩) [x] w' → Ext w w' → w.heap.size ≤ g → g < w'.heap.size → wpList Try.prog ops Q rest (a.put o.dst (.slice (some ⟨g, 0, none⟩) 1 1)) w') : wpList Try.prog ops Q (o :: rest) a w :=
  wpList_do hw fun _ hK => op_slice1 y ho x hy (hK _ _ (h _ _ (rowOne w x _) (Ext.alloc' w _) (Nat.le_refl _) (by simp)))
end
section
variable {g m1 m2 base : Nat} {F : Nat → Prop} {D : Nodes} {v v' : Value} {l : List Id} {w w' : World}
theorem OwnK.apartD (ho : OwnI base v l w) (hd : DagAt g m1 m2 D w) : ∀ k, v.ownBlock = some k → k ≠ g ∧ k ≠ m1 ∧ k ≠ m2 := fun k hk => by
  obtain ⟨hg, _, ⟨l1, ⟨_, es1, c1, h1, _⟩, _⟩, l2, ⟨_, es2, c2, h2, _⟩, _⟩ := hd
  exact ⟨ho.ne hg (by decide) k hk, ho.neMap h1 k hk, ho.neMap h2 k hk⟩
theorem OwnK.chgD (ho : OwnI base v l w) (hd : DagAt g m1 m2 D w) (hc : Chg (fun b => b = m1 ∨ b = m2) w w') : OwnI base v l w' :=
  ho.chg hc (fun k hk h => by have := ho.apartD hd k hk; omega)
/-- A new variable that holds an ID, beside a Dag. -/
theorem IdAt.new (hd : DagAt g m1 m2 D w) (x : Id) : IdAt (fun b => b = m1 ∨ b = m2) (w.alloc (.cells (idA x) 24)) w.heap.size 0 x := by
  have hb := heap_alloc_new w (.cells (idA x) 24)
  exact IdAt.of hb (not_map (hd.ext (Ext.alloc' w _)).maps hb)
/-- What is fresh is not the slice's block. -/
theorem OwnK.fresh (ho : OwnI base v l w) : ∀ b, w.heap.size ≤ b → v.ownBlock ≠ some b := fun b hb e => by have := (ho.lt b e).2; omega
/-- A Dag beside a slice that grows. -/
theorem DG.append (h : DG g m1 m2 (fun b => v.ownBlock ≠ some b) D w) (ho : OwnI base v l w) (hg : w.grownBy w' v.ownBlock) (hat : v'.ownBlock = v.ownBlock ∨ v'.ownBlock = some w.heap.size) : DG g m1 m2 (fun b => v'.ownBlock ≠ some b) D w' := by
  have hap := ho.apartD h.dag
  have hc := Chg.of_grown hg
  have h1 : DG g m1 m2 (fun b => v.ownBlock ≠ some b ∧ b < w.heap.size) D w := ⟨h.dag, fun l hl x u hx A k c d e hk ad ha => ⟨h.rows l hl x u hx A k c d e hk ad ha, h.dag.rowsLt l hl x u hx A k c d e hk ad ha⟩⟩
  refine (h1.chg hc (fun e => (hap g e.symm).1 rfl) (fun e => (hap m1 e.symm).2.1 rfl) (fun e => (hap m2 e.symm).2.2 rfl) (fun b hb e => hb.1 e.symm)).mono (fun b hb e => ?_)
  rcases hat with e' | e'
  · exact hb.1 (e'.symm.trans e)
  · rw [e'] at e
    injection e with e
    omega
end
end Go.Proofs.Ythfinaocdcinlaa
