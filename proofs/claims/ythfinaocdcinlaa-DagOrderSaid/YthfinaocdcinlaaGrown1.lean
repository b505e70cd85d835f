/- grown: the plain part: Dags that are grown, commit by commit. -/
import Derived.Test.YthfinaocdcinlaaLines1
namespace Go.Proofs.Ythfinaocdcinlaa
open Go.RowKit
set_option linter.unusedVariables false
set_option linter.unusedSimpArgs false

/-- A Dag that was built by Add. -/
inductive Wf : Nodes → Prop
  | nil : Wf []
  | add {D : Nodes} {x : Id} {ps : List Id} : Wf D → has D x = false → (∀ p ∈ ps, has D p = true) → Wf (D ++ [(x, (ps, depF D ps))])
theorem look_append {D : Nodes} {x y : Id} {n : List Id × Nat} (h : look D x = none) : look (D ++ [(x, n)]) y = if y = x then some n else look D y := by
  rw [← putL_new h, look_put]
theorem has_none {D : Nodes} {x : Id} (h : has D x = false) : look D x = none := by
  unfold has at h
  cases hl : look D x with
  | none => rfl
  | some n => rw [hl] at h; cases h
theorem wgt_append (p : Id → Bool) : ∀ (D E : Nodes), wgt p (D ++ E) = wgt p D + wgt p E
  | [], E => by simp [wgt]
  | (a, v) :: r, E => by simp only [List.cons_append, wgt, wgt_append p r E]; omega
structure GInv (i : Nat) (D : Nodes) : Prop where
  keys : D.map Prod.fst = (List.range i).map lid
  wf : Wf D
  wg : wgtAll D ≤ 3 * i
  dp : ∀ p, dep D p ≤ i
theorem GInv.nil : GInv 0 [] := ⟨rfl, .nil, by decide, fun p => by simp [dep, look]⟩
theorem GInv.len {i : Nat} {D : Nodes} (h : GInv i D) : D.length = i := by have := congrArg List.length h.keys; simpa using this
theorem has_of_mem {D : Nodes} {x : Id} (h : x ∈ D.map Prod.fst) : has D x = true := by
  cases hh : has D x
  · exact absurd h (look_none_keys.1 (has_none hh))
  · rfl
theorem GInv.has {i : Nat} {D : Nodes} (h : GInv i D) {j : Nat} (hj : j < i) : has D (lid j) = true :=
  has_of_mem (by rw [h.keys]; exact List.mem_map.2 ⟨j, List.mem_range.2 hj, rfl⟩)
theorem GInv.new {i : Nat} {D : Nodes} (h : GInv i D) (hi : i < 100) : Go.Proofs.Ythfinaocdcinlaa.has D (lid i) = false := by
  cases hh : Go.Proofs.Ythfinaocdcinlaa.has D (lid i)
  · rfl
  · have := has_mem hh
    rw [h.keys] at this
    obtain ⟨j, hj, e⟩ := List.mem_map.1 this
    have hj := List.mem_range.1 hj
    have := lid_inj (by omega) (by omega) e
    omega
theorem lid_lt {a b : Nat} (h : a < b) (hb : b < 200) : cmpI (lid a) (lid b) < 0 := by
  have h1 : UInt8.ofNat (a + 1) < UInt8.ofNat (b + 1) := by
    show (UInt8.ofNat (a + 1)).toNat < (UInt8.ofNat (b + 1)).toNat
    simp; omega
  simp only [cmpI, lid, cid, Lib.compareBytes, if_pos h1]
  decide
theorem lid_nz {i : Nat} (hi : i < 200) : ¬ lid i = zId := by
  intro h
  have h1 := congrArg (fun x : Id => x.1.head?) h
  simp only [lid, cid, zId, List.head?_cons] at h1
  have h2 : UInt8.ofNat (i + 1) = 0 := by simpa using h1
  have h3 := congrArg UInt8.toNat h2
  simp at h3
  omega
/-- The parents that a grown commit may have. -/
def GPar (i : Nat) (ps : List Id) : Prop := ps = [] ∨ (∃ a, a < i ∧ ps = [lid a]) ∨ ∃ a b, a < b ∧ b < i ∧ ps = [lid a, lid b]
theorem GPar.right {i : Nat} {ps : List Id} (h : GPar i ps) (hi : i < 100) : rightF (lid i) ps = true := by
  have hz := lid_nz (i := i) (by omega)
  rcases h with rfl | ⟨a, ha, rfl⟩ | ⟨a, b, ha, hb, rfl⟩
  · simp [rightF, rising, hz]
  · simp [rightF, rising, hz]
  · simp [rightF, rising, hz, lid_lt ha (by omega)]
theorem GPar.len {i : Nat} {ps : List Id} (h : GPar i ps) : ps.length ≤ 2 := by
  rcases h with rfl | ⟨a, ha, rfl⟩ | ⟨a, b, ha, hb, rfl⟩ <;> simp
theorem GPar.mem {i : Nat} {ps : List Id} (h : GPar i ps) {p : Id} (hp : p ∈ ps) : ∃ a, a < i ∧ p = lid a := by
  rcases h with rfl | ⟨a, ha, rfl⟩ | ⟨a, b, ha, hb, rfl⟩
  · simp at hp
  · exact ⟨a, ha, by simpa using hp⟩
  · rcases List.mem_cons.1 hp with rfl | hp
    · exact ⟨a, by omega, rfl⟩
    · exact ⟨b, hb, by simpa using hp⟩
theorem GInv.step {i : Nat} {D : Nodes} {ps : List Id} (h : GInv i D) (hi : i < 100) (hp : GPar i ps) :
    addF D (lid i) ps = (D ++ [(lid i, (ps, depF D ps))], 0) ∧ GInv (i + 1) (D ++ [(lid i, (ps, depF D ps))]) := by
  have hall : ∀ p ∈ ps, Go.Proofs.Ythfinaocdcinlaa.has D p = true := fun p hq => by
    obtain ⟨a, ha, rfl⟩ := hp.mem hq
    exact h.has ha
  have hn := h.new hi
  have hl := has_none hn
  refine ⟨?_, ?_, .add h.wf hn hall, ?_, fun p => ?_⟩
  · unfold addF
    rw [if_neg (by rw [hp.right hi]; simp), hl]
    simp only
    rw [if_pos (List.all_eq_true.2 hall)]
  · rw [List.map_append, h.keys, List.range_succ, List.map_append]; rfl
  · have h1 := wgt_append (fun _ => true) D [(lid i, (ps, depF D ps))]
    have h2 := h.wg
    have h3 := hp.len
    unfold wgtAll at *
    rw [h1]
    simp [wgt]
    omega
  · unfold dep
    rw [look_append hl]
    split
    · have := depF_le h.dp ps
      simpa using this
    · have := h.dp p
      unfold dep at this
      omega
end Go.Proofs.Ythfinaocdcinlaa
