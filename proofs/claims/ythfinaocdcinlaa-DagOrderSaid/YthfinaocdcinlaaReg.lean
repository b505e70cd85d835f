/- Regions that draw their order, walked by hand: what reads is taken first, under what holds in every later world. -/
import Derived.Test.YthfinaocdcinlaaId
import Derived.Deep.RegionHeld3
import Derived.Deep.DrawnRows
import Derived.Deep.WholeRow
namespace Go.Proofs.Ythfinaocdcinlaa
open Go.RowKit
set_option linter.unusedVariables false
set_option linter.unusedSimpArgs false

section
variable {P : Program} {l : List Oper} {Q : Exit → Act → World → Prop} {md : Region.Mode} {S : World → Prop} {i : Nat} {oi : Oper} {v : Value} {fuel : Nat} {listed : Array Bool} {a : Act} {w : World}
theorem reg_run (hi : l[i]? = some oi) (hs : Region.noSelect l.toArray = true) (hf : Region.free md l.toArray listed i = true) (hr : (Region.ready md l.toArray listed).contains i = true)
    (hQ : ∀ c a w, Q (.panic c) (a.put oi.dst v) w → Q (.panic c) a w) (hw : Region.wanted oi (yielded l.toArray a.tmps) = true) (hy : ∀ w, S w → (execOp a.eval oi).run P w = .ok (.value v) w) (hS : S w)
    (h : wpAnyH P md l.toArray Q S fuel (listed.setIfInBounds i true) (a.put oi.dst v) w) : wpAnyH P md l.toArray Q S (fuel + 1) listed a w :=
  wpAnyH_take (by simpa using hi) hs hf hr hQ (.inl ⟨hw, hy⟩) hS h
theorem reg_skip (hi : l[i]? = some oi) (hs : Region.noSelect l.toArray = true) (hf : Region.free md l.toArray listed i = true) (hr : (Region.ready md l.toArray listed).contains i = true)
    (hQ : ∀ c a w, Q (.panic c) (a.put oi.dst undef) w → Q (.panic c) a w) (hw : Region.wanted oi (yielded l.toArray a.tmps) = false) (hS : S w)
    (h : wpAnyH P md l.toArray Q S fuel (listed.setIfInBounds i true) (a.put oi.dst undef) w) : wpAnyH P md l.toArray Q S (fuel + 1) listed a w :=
  wpAnyH_take (by simpa using hi) hs hf hr hQ (.inr ⟨hw, rfl⟩) hS h
/-- A load of a whole array. -/
theorem reg_load (hi : l[i]? = some oi) {ty : TypeId} {x : Operand} (ho : oi.op = .load ty x) (hs : Region.noSelect l.toArray = true) (hf : Region.free md l.toArray listed i = true) (hr : (Region.ready md l.toArray listed).contains i = true)
    {b o : Nat} (hx : a.eval x = .pointer (some ⟨b, o, none⟩)) {cs : List Value} {d : TypeDesc} (hu : P.underlying ty = some d) (hd : d.isRow = true) (hc : ∀ w, S w → w.rangeAt b o cs) (hsz : (P.info? ty).map (·.size) = some cs.length)
    (hw : Region.wanted oi (yielded l.toArray a.tmps) = true) (hQ : ∀ c a w, Q (.panic c) (a.put oi.dst (.agg cs.toArray)) w → Q (.panic c) a w) (hS : S w)
    (h : wpAnyH P md l.toArray Q S fuel (listed.setIfInBounds i true) (a.put oi.dst (.agg cs.toArray)) w) : wpAnyH P md l.toArray Q S (fuel + 1) listed a w :=
  wpAnyH_take (by simpa using hi) hs hf hr hQ (yieldsIf_load_mid hw ty x ho b o hx cs d hc hu hd hsz) hS h
/-- What is not only a reading: the only one that may come up. -/
theorem reg_eff (hi : l[i]? = some oi) (hr : Region.ready md l.toArray listed = [i]) (hw : Region.wanted oi (yielded l.toArray a.tmps) = true)
    (h : ∀ K' : Act → World → Prop, Shut (∀ a w, S w → (S w → wpAnyH P md l.toArray Q S fuel (listed.setIfInBounds i true) a w) → K' a w) → Oper.wp P oi a w K' Q) : wpAnyH P md l.toArray Q S (fuel + 1) listed a w :=
  wpAnyH_ready hr (by simp) (AllReadyH.cons (by simpa using hi) (fun K hK => by rw [if_pos hw]; exact h K hK) AllReadyH.nil)
/-- Two that may come up. -/
theorem reg_eff2 {j : Nat} {oj : Oper} (hi : l[i]? = some oi) (hj : l[j]? = some oj) (hr : Region.ready md l.toArray listed = [i, j]) (hwi : Region.wanted oi (yielded l.toArray a.tmps) = true) (hwj : Region.wanted oj (yielded l.toArray a.tmps) = true)
    (h1 : ∀ K' : Act → World → Prop, Shut (∀ a w, S w → (S w → wpAnyH P md l.toArray Q S fuel (listed.setIfInBounds i true) a w) → K' a w) → Oper.wp P oi a w K' Q)
    (h2 : ∀ K' : Act → World → Prop, Shut (∀ a w, S w → (S w → wpAnyH P md l.toArray Q S fuel (listed.setIfInBounds j true) a w) → K' a w) → Oper.wp P oj a w K' Q) : wpAnyH P md l.toArray Q S (fuel + 1) listed a w :=
  wpAnyH_ready hr (by simp) (AllReadyH.cons (by simpa using hi) (fun K hK => by rw [if_pos hwi]; exact h1 K hK) (AllReadyH.cons (by simpa using hj) (fun K hK => by rw [if_pos hwj]; exact h2 K hK) AllReadyH.nil))
end

theorem zero_id (w : World) : (zeroValue 24).run Try.prog w = .ok (.agg (idA ⟨List.replicate 32 0, rfl⟩)) w := by kernel_rfl
theorem info_sz0 : (Try.prog.info? 24).map (·.size) = some 32 := by kernel_rfl
theorem run_alloc_id (w : World) : (Instr.alloc 24 true (.tuple #[])).run Try.prog w = .ok (.pointer (some ⟨w.heap.size, 0, none⟩)) (w.alloc (.cells (idA ⟨List.replicate 32 0, rfl⟩) 24)) := by
  kernel_rfl
section
variable {ops : Array Oper} {rest : List Oper} {o1 o2 : Oper} {a : Act} {Q : Exit → Act → World → Prop}
/-- A new variable that is given an ID at once. -/
theorem wpList_var_id {w : World} (hg1 : o1.guard = none) (hg2 : o2.guard = none) (h1 : o1.op = .alloc 24) (q y : Operand) (h2 : o2.op = .store 24 q y) (x : Id)
    (hp : (a.put o1.dst (.pointer (some ⟨w.heap.size, 0, none⟩))).eval q = .pointer (some ⟨w.heap.size, 0, none⟩)) (hy : (a.put o1.dst (.pointer (some ⟨w.heap.size, 0, none⟩))).eval y = .agg (idA x))
    (h : wpList Try.prog ops Q rest ((a.put o1.dst (.pointer (some ⟨w.heap.size, 0, none⟩))).put o2.dst undef) (w.alloc (.cells (idA x) 24))) : wpList Try.prog ops Q (o1 :: o2 :: rest) a w := by
  refine wpList_plain hg1 fun K hK => ?_
  unfold Oper.wp execOp
  simp only [h1, run_alloc_id, Sem.run_bind, Sem.run_pure, Result.andThen_ok]
  refine hK _ _ (wpList_plain hg2 fun K' hK' => ?_)
  refine wp_store_row _ q y h2 w.heap.size (idA x) hp hy _ _ (heap_alloc_new w _) (by rw [idA_size]; exact info_sz0) (by rw [idA_size, idA_size]) (by simpa using idC_one x) ?_
  rw [World.setRow_alloc_new]
  exact hK' _ _ h
end
end Go.Proofs.Ythfinaocdcinlaa
