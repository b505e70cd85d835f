/- IDs and rows that are written out. -/
import Derived.Test.YthfinaocdcinlaaDag10
namespace Go.Proofs.Ythfinaocdcinlaa
open Go.RowKit
set_option linter.unusedVariables false
set_option linter.unusedSimpArgs false

/-- An ID of one byte. -/
def cid (b : UInt8) : Id := ⟨b :: List.replicate 31 0, by simp⟩
def cid2 (a b : UInt8) : Id := ⟨a :: b :: List.replicate 30 0, by simp⟩
theorem run_build1 (w : World) (b : UInt8) : (Instr.build 24 #[(0, .int .u8 b.toNat)]).run Try.prog w = .ok (.agg (idA (cid b))) w := by kernel_rfl
theorem run_build2 (w : World) (a b : UInt8) : (Instr.build 24 #[(0, .int .u8 a.toNat), (1, .int .u8 b.toNat)]).run Try.prog w = .ok (.agg (idA (cid2 a b))) w := by kernel_rfl
theorem run_build0 (w : World) : (Instr.build 24 #[]).run Try.prog w = .ok (.agg (idA zId)) w := by kernel_rfl

section
variable {ops : Array Oper} {rest : List Oper} {o : Oper} {a : Act} {Q : Exit → Act → World → Prop}
theorem op_build1 {K : Act → World → Prop} {w : World} (y : Operand) (ho : o.op = .build 24 #[(0, y)]) (b : UInt8) (hy : a.eval y = .int .u8 b.toNat) (h : K (a.put o.dst (.agg (idA (cid b)))) w) : Oper.wp Try.prog o a w K Q := by
  unfold Oper.wp execOp
  simp only [ho, List.map_toArray, List.map_cons, List.map_nil, hy, Sem.run_bind, run_build1, Result.andThen_ok]
  exact h
theorem wpList_build1 {w : World} (hg : o.guard = none) (y : Operand) (ho : o.op = .build 24 #[(0, y)]) (b : UInt8) (hy : a.eval y = .int .u8 b.toNat) (h : wpList Try.prog ops Q rest (a.put o.dst (.agg (idA (cid b)))) w) : wpList Try.prog ops Q (o :: rest) a w :=
  wpList_plain hg fun _ hK => op_build1 y ho b hy (hK _ _ h)
end

/-- A slice literal of elements of several cells. -/
theorem run_sliceN {P : Program} {α : Type} {enc : α → List Value} {k : Nat} (hk : ∀ x, (enc x).length = k) (h0 : 0 < k) (w : World) (t e : TypeId) (ie : TypeInfo) (z : Value) (hu : P.underlying t = some (.slice e)) (hie : P.info? e = some ie) (hz : ie.zero = some z) (hsz : ie.size = k)
    (l : List α) (hl : 0 < l.length) (hlb : l.length * k ≤ 2 ^ 24) (vs : List (Nat × Value)) (hvs : vs = (l.map (fun x => Value.agg (enc x).toArray)).zipIdx.map fun x => (x.2, x.1)) :
    (Instr.buildSlice t l.length vs.toArray).run P w = .ok (.slice (some ⟨w.heap.size, 0, none⟩) l.length l.length) (w.alloc (.cells (l.flatMap enc).toArray e)) := by
  subst hvs
  obtain ⟨r, hr, hrs, hrk⟩ := Great.fill_dense h0 (l.map (fun x => Value.agg (enc x).toArray)) 0 ((Array.range (l.length * k)).map (z.cells[· % z.cells.size]!)) (fun v hv => by
    obtain ⟨x, _, rfl⟩ := List.mem_map.1 hv
    simp [Value.cells, hk]) (by simp)
  have hrx : r = (l.flatMap enc).toArray := by
    apply Array.ext_getElem?
    intro t
    rw [hrk t]
    by_cases hlt : t < l.length * k
    · rw [if_pos ⟨by omega, by simpa using hlt⟩]
      have hq : t / k < l.length := Nat.div_lt_of_lt_mul (by rw [Nat.mul_comm]; exact hlt)
      have hg := flat_get hk l (t / k) (t % k) _ (List.getElem?_eq_getElem hq) (Nat.mod_lt _ h0)
      rw [show t / k * k + t % k = t by rw [Nat.mul_comm]; exact Nat.div_add_mod t k] at hg
      simp only [Nat.sub_zero, List.getElem?_map, List.getElem?_eq_getElem hq, Option.map_some, Option.bind_some, Value.cells, List.getElem?_toArray]
      exact hg.symm
    · rw [if_neg (fun h => hlt (by simpa using h.2))]
      rw [Array.getElem?_eq_none (by simp; omega), Array.getElem?_eq_none (by simp only [List.size_toArray, flat_len hk]; omega)]
  subst hrx
  refine run_buildSlice w t e l.length _ _ ie z hu hie hz (by rw [hsz]; omega) (by rw [hsz]; exact Nat.ne_of_gt (Nat.mul_pos hl h0)) ?_
  rw [hsz]
  exact hr

/-- Any ID, byte by byte: so that the kernel can reckon with it. -/
def mkId (f : Nat → UInt8) : Id := ⟨(List.range 32).map f, by simp⟩
theorem id_mk (x : Id) : ∃ f, x = mkId f := by
  refine ⟨fun i => x.1.getD i 0, Subtype.ext ?_⟩
  apply List.ext_getElem?
  intro i
  simp only [mkId, List.getElem?_map]
  by_cases hi : i < 32
  · rw [List.getElem?_range hi, Option.map_some, List.getElem?_eq_getElem (by rw [x.2]; exact hi)]
    simp [x.2, hi]
  · rw [List.getElem?_eq_none (by rw [x.2]; omega), List.getElem?_eq_none (by simp; omega)]; rfl
/-- A law's Node, as cells. -/
def nodeC (n : Id × Value) : List Value := idC n.1 ++ [n.2]
theorem nodeC_len (n : Id × Value) : (nodeC n).length = 33 := by simp [nodeC, idC_len]
theorem run_build_node (w : World) (x : Id) (A : Option Addr) (n c : Nat) : (Instr.build 31 #[(0, .agg (idA x)), (1, .slice A n c)]).run Try.prog w = .ok (.agg (nodeC (x, .slice A n c)).toArray) w := by
  obtain ⟨f, rfl⟩ := id_mk x
  kernel_rfl

section
variable {ops : Array Oper} {rest : List Oper} {o : Oper} {a : Act} {Q : Exit → Act → World → Prop}
theorem wpList_build_node {w : World} (hg : o.guard = none) (y z : Operand) (ho : o.op = .build 31 #[(0, y), (1, z)]) (x : Id) (A : Option Addr) (n c : Nat) (hy : a.eval y = .agg (idA x)) (hz : a.eval z = .slice A n c)
    (h : wpList Try.prog ops Q rest (a.put o.dst (.agg (nodeC (x, .slice A n c)).toArray)) w) : wpList Try.prog ops Q (o :: rest) a w :=
  wpList_plain hg fun _ hK => by
    unfold Oper.wp execOp
    simp only [ho, List.map_toArray, List.map_cons, List.map_nil, hy, hz, Sem.run_bind, run_build_node, Result.andThen_ok]
    exact hK _ _ h
theorem run_slice2 (w : World) (x y : Id) : (Instr.buildSlice 29 2 #[(0, .agg (idA x)), (1, .agg (idA y))]).run Try.prog w = .ok (.slice (some ⟨w.heap.size, 0, none⟩) 2 2) (w.alloc (.cells ([x, y].flatMap idC).toArray 24)) := by
  obtain ⟨ie, hie, hz⟩ := Option.map_eq_some_iff.1 info_id
  simp only [Prod.mk.injEq] at hz
  obtain ⟨hz0, hz1, _⟩ := hz
  exact run_sliceN idC_len (by omega) w _ _ ie _ Try.underlying29 hie hz0 hz1 [x, y] (by simp) (by simp) _ rfl
theorem rowLit (w : World) (l : List Id) (hl : l.length ≤ 1000) : RowAt Ty.id (some ⟨w.heap.size, 0, none⟩) l (w.alloc (.cells (l.flatMap idC).toArray 24)) :=
  OwnK.rowAt idFlat (OwnK.lit idFlat w w.heap.size 24 l (Nat.le_refl _) (by omega))
theorem wpList_slice1X {w : World} (hg : o.guard = none) (y : Operand) (ho : o.op = .buildSlice 29 1 #[(0, y)]) (x : Id) (hy : a.eval y = .agg (idA x))
    (h : ∀ A w', RowAt Ty.id A [x] w' → Ext w w' → wpList Try.prog ops Q rest (a.put o.dst (.slice A 1 1)) w') : wpList Try.prog ops Q (o :: rest) a w :=
  wpList_slice1 hg y ho x hy (h _ _ (rowOne w x _) (Ext.alloc' w _))
theorem wpList_slice2X {w : World} (hg : o.guard = none) (y z : Operand) (ho : o.op = .buildSlice 29 2 #[(0, y), (1, z)]) (x x' : Id) (hy : a.eval y = .agg (idA x)) (hz : a.eval z = .agg (idA x'))
    (h : ∀ A w', RowAt Ty.id A [x, x'] w' → Ext w w' → wpList Try.prog ops Q rest (a.put o.dst (.slice A 2 2)) w') : wpList Try.prog ops Q (o :: rest) a w :=
  wpList_plain hg fun _ hK => by
    unfold Oper.wp execOp
    simp only [ho, List.map_toArray, List.map_cons, List.map_nil, hy, hz, Sem.run_bind, run_slice2, Result.andThen_ok]
    exact hK _ _ (h _ _ (rowLit w [x, x'] (by simp)) (Ext.alloc' w _))
/-- A new variable for an ID. -/
theorem wpList_alloc_id {w : World} (hg : o.guard = none) (k : Tmp) (hd : o.dst = some k) (ho : o.op = .alloc 24)
    (h : ∀ g w', w'.heap[g]? = some (.cells (idA zId) 24 (0, 0)) → Ext w w' → w.heap.size ≤ g → wpList Try.prog ops Q rest (a.put o.dst (.pointer (some ⟨g, 0, none⟩))) w') : wpList Try.prog ops Q (o :: rest) a w :=
  wpList_plain hg fun _ hK => by
    unfold Oper.wp execOp
    simp only [ho, run_alloc_id, Sem.run_bind, Sem.run_pure, Result.andThen_ok]
    exact hK _ _ (h _ _ (heap_alloc_new w _) (Ext.alloc' w _) (Nat.le_refl _))
end
theorem setRow_chg (w : World) (g : Nat) (cs : Array Value) : Chg (· = g) w (w.setRow g cs) := by
  refine ⟨rfl, rfl, rfl, by simp [World.setRow], fun k hk hne => ?_⟩
  simp only [World.setRow, Array.getElem?_modify]
  rw [if_neg (fun e => hne e.symm)]
section
variable {ops : Array Oper} {rest : List Oper} {o : Oper} {a : Act} {Q : Exit → Act → World → Prop}
/-- A store into a variable for an ID. -/
theorem wpList_store_id {w : World} (hg : o.guard = none) (q y : Operand) (ho : o.op = .store 24 q y) (g : Nat) (hq : a.eval q = .pointer (some ⟨g, 0, none⟩)) (x : Id) (hy : a.eval y = .agg (idA x)) (cs : Array Value) (t : TypeId)
    (hb : w.heap[g]? = some (.cells cs t (0, 0))) (hcs : cs.size = 32) (h : ∀ w', w'.heap[g]? = some (.cells (idA x) t (0, 0)) → Chg (· = g) w w' → wpList Try.prog ops Q rest (a.put o.dst undef) w') : wpList Try.prog ops Q (o :: rest) a w :=
  wpList_plain hg fun _ hK => wp_store_row _ q y ho g (idA x) hq hy t cs hb (by rw [idA_size]; exact info_sz0) (by rw [hcs, idA_size]) (by simpa using idC_one x) (hK _ _ (h _ (setRow_heap w g cs (idA x) t (0, 0) hb) (setRow_chg w g _)))
theorem run_alloc_node (w : World) : (Instr.alloc 31 true (.tuple #[])).run Try.prog w = .ok (.pointer (some ⟨w.heap.size, 0, none⟩)) (w.alloc (.cells (nodeC (zId, .slice none 0 0)).toArray 31)) := by kernel_rfl
theorem info_node : (Try.prog.info? 31).map (·.size) = some 33 := by kernel_rfl
/-- A new variable that is given a Node at once. -/
theorem wpList_var_node {w : World} (hg1 : o.guard = none) {o2 : Oper} (hg2 : o2.guard = none) (h1 : o.op = .alloc 31) (q y : Operand) (h2 : o2.op = .store 31 q y) (x : Id) (A : Option Addr) (n c : Nat)
    (hp : (a.put o.dst (.pointer (some ⟨w.heap.size, 0, none⟩))).eval q = .pointer (some ⟨w.heap.size, 0, none⟩)) (hy : (a.put o.dst (.pointer (some ⟨w.heap.size, 0, none⟩))).eval y = .agg (nodeC (x, .slice A n c)).toArray)
    (h : wpList Try.prog ops Q rest ((a.put o.dst (.pointer (some ⟨w.heap.size, 0, none⟩))).put o2.dst undef) (w.alloc (.cells (nodeC (x, .slice A n c)).toArray 31))) : wpList Try.prog ops Q (o :: o2 :: rest) a w := by
  refine wpList_plain hg1 fun K hK => ?_
  unfold Oper.wp execOp
  simp only [h1, run_alloc_node, Sem.run_bind, Sem.run_pure, Result.andThen_ok]
  refine hK _ _ (wpList_plain hg2 fun K' hK' => ?_)
  refine wp_store_row _ q y h2 w.heap.size (nodeC (x, .slice A n c)).toArray hp hy _ _ (heap_alloc_new w _) (by simp only [List.size_toArray, nodeC_len]; exact info_node) (by simp [nodeC_len]) (by
    simp only [List.all_toArray, List.all_eq_true]
    intro v hv
    rcases List.mem_append.1 hv with hv | hv
    · exact idC_one x v hv
    · rw [List.mem_singleton.1 hv]; rfl) ?_
  rw [World.setRow_alloc_new]
  exact hK' _ _ h
end
/-- A Node's ID, and its parents, where it lies. -/
theorem range_node {w : World} {g o : Nat} {x : Id} {v : Value} (h : w.rangeAt g o (nodeC (x, v))) : w.rangeAt g o (idC x) ∧ w.cell? ⟨g, o + 32, none⟩ = some v := by
  constructor
  · intro j u hu
    have hj : j < (idC x).length := (List.getElem?_eq_some_iff.1 hu).1
    exact h j u (by rw [nodeC, List.getElem?_append_left hj]; exact hu)
  · exact h 32 v (by rw [nodeC, List.getElem?_append_right (by rw [idC_len]; exact Nat.le_refl _), idC_len]; rfl)
theorem range_blkL {t : TypeId} {w : World} {g : Nat} {cs : List Value} {fr : Nat × Nat} (hg : w.heap[g]? = some (.cells cs.toArray t fr)) : w.rangeAt g 0 cs := fun j v hv => by
  rw [Nat.zero_add, blk_cell hg]
  simpa using hv
/-- An element of a row that is one block. -/
theorem range_elem {α : Type} {enc : α → List Value} {k : Nat} (hk : ∀ x, (enc x).length = k) {t : TypeId} {w : World} {g : Nat} {l : List α} {fr : Nat × Nat} (hg : w.heap[g]? = some (.cells (l.flatMap enc).toArray t fr)) {j : Nat} {x : α} (hj : l[j]? = some x) : w.rangeAt g (0 + j * k) (enc x) := fun i v hv => by
  have hi : i < k := by have := (List.getElem?_eq_some_iff.1 hv).1; rw [hk] at this; exact this
  rw [Nat.zero_add, blk_cell hg, List.getElem?_toArray, flat_get hk l j i x hj hi]
  exact hv
/-- A row stays where blocks turn that are maps. -/
theorem RowAt.chgS {α : Type} {d : Ty α} {enc : α → List Value} (F : Flat d enc) {A : Option Addr} {l : List α} {w w1 : World} {S : Nat → Prop} (h : RowAt d A l w) (hS : ∀ b, S b → ∃ es c, w.heap[b]? = some (.map es c)) (hc : Chg S w w1) : RowAt d A l w1 := by
  intro j x hj
  obtain ⟨ad, cs, e, hk, hcell⟩ := h j x hj
  refine ⟨ad, cs, e, ?_, fun i u hu => hc.cell (hcell i u hu) (fun e2 => ?_)⟩
  · rw [F.inv hk]; exact F.kk x w1
  · have h1 := hcell i u hu
    obtain ⟨es, c, hm⟩ := hS _ e2
    rw [World.cell?, hm] at h1
    simp at h1
theorem DagAt.maps {g m1 m2 : Nat} {D : Nodes} {w : World} (h : DagAt g m1 m2 D w) : ∀ b, (b = m1 ∨ b = m2) → ∃ es c, w.heap[b]? = some (.map es c) := by
  obtain ⟨_, _, ⟨l1, a1, _⟩, l2, b1, _⟩ := h
  obtain ⟨_, es1, c1, h1, _⟩ := a1
  obtain ⟨_, es2, c2, h2, _⟩ := b1
  rintro b (rfl | rfl)
  · exact ⟨_, _, h1⟩
  · exact ⟨_, _, h2⟩

/-! ### what is reached, reckoned -/
/-- S is what is reached from fr in D. -/
def rchOk (D : Nodes) (fr S : List Id) : Bool :=
  fr.all (fun x => !has D x || S.contains x) && S.all (fun y => (par D y).all fun x => !has D x || S.contains x) && (List.range S.length).all fun i => match S[i]? with
    | some x => has D x && (fr.contains x || (S.take i).any fun y => (par D y).contains x)
    | none => true
theorem rchOk_iff {D : Nodes} {fr S : List Id} (h : rchOk D fr S = true) (x : Id) : Rch D fr x ↔ x ∈ S := by
  simp only [rchOk, Bool.and_eq_true] at h
  obtain ⟨⟨h1, h2⟩, h3⟩ := h
  constructor
  · intro hx
    induction hx with
    | base ha hb => simpa [hb] using List.all_eq_true.1 h1 _ ha
    | step ha hb hc ih => simpa [hc] using List.all_eq_true.1 (List.all_eq_true.1 h2 _ ih) _ hb
  · have key : ∀ (i : Nat) (x : Id), S[i]? = some x → Rch D fr x := by
      intro i
      induction i using Nat.strongRecOn with
      | _ i ih =>
        intro x hx
        have hi : i < S.length := (List.getElem?_eq_some_iff.1 hx).1
        have h4 := List.all_eq_true.1 h3 i (List.mem_range.2 hi)
        rw [hx] at h4
        simp only [Bool.and_eq_true, Bool.or_eq_true] at h4
        obtain ⟨h5, h6 | h6⟩ := h4
        · exact .base (by simpa using h6) h5
        · obtain ⟨y, hy, hxy⟩ := List.any_eq_true.1 h6
          obtain ⟨k, hk⟩ := List.mem_iff_getElem?.1 hy
          have hki : k < i := by
            have := (List.getElem?_eq_some_iff.1 hk).1
            simp at this; omega
          rw [List.getElem?_take, if_pos hki] at hk
          exact .step (ih k hki y hk) (by simpa using hxy) h5
    intro hx
    obtain ⟨i, hi⟩ := List.mem_iff_getElem?.1 hx
    exact key i x hi
/-- Two rising lists of the same IDs are one. -/
theorem rising_ext : ∀ {l l' : List Id}, (l.Pairwise fun a b => cmpI a b < 0) → (l'.Pairwise fun a b => cmpI a b < 0) → (∀ n, n ∈ l ↔ n ∈ l') → l = l'
  | [], [], _, _, _ => rfl
  | [], y :: r, _, _, h => absurd ((h y).2 List.mem_cons_self) (by simp)
  | x :: r, [], _, _, h => absurd ((h x).1 List.mem_cons_self) (by simp)
  | x :: r, y :: s, h1, h2, h => by
    rw [List.pairwise_cons] at h1 h2
    have hxy : x = y := by
      rcases List.mem_cons.1 ((h x).1 List.mem_cons_self) with e | e
      · exact e
      · rcases List.mem_cons.1 ((h y).2 List.mem_cons_self) with e' | e'
        · exact e'.symm
        · exact absurd (cmpI_trans (h1.1 y e') (h2.1 x e)) (cmpI_irrefl x)
    subst hxy
    congr 1
    refine rising_ext h1.2 h2.2 (fun n => ?_)
    have h3 := h n
    rw [List.mem_cons, List.mem_cons] at h3
    constructor
    · intro hn
      rcases h3.1 (.inr hn) with e | e
      · subst e; exact absurd (h1.1 n hn) (cmpI_irrefl n)
      · exact e
    · intro hn
      rcases h3.2 (.inr hn) with e | e
      · subst e; exact absurd (h2.1 n hn) (cmpI_irrefl n)
      · exact e
end Go.Proofs.Ythfinaocdcinlaa
