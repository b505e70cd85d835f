/- A sort's worlds, at rows of several cells that are the call's own. -/
import Derived.Test.YthfinaocdcinlaaOwnK
import Derived.Shelf.GgSortFunc.InsertionK
namespace Go.Proofs.Ythfinaocdcinlaa
open Go.RowKit
set_option linter.unusedVariables false
set_option linter.unusedSimpArgs false
set_option linter.unusedSectionVars false

section
variable {α : Type} [Inhabited α] {d : Ty α} {enc : α → List Value}
theorem flatK_toList {k : Nat} (hk : ∀ x, (enc x).length = k) (h0 : 0 < k) (l : List α) : (Sort.flatK enc k l.toArray).toList = l.flatMap enc := by
  apply List.ext_getElem?
  intro t
  by_cases ht : t < l.length * k
  · have h1 := Sort.get_flatK enc k l.toArray t (by simpa using ht)
    have hq : t / k < l.length := Nat.div_lt_of_lt_mul (by rw [Nat.mul_comm]; exact ht)
    have hr : t % k < k := Nat.mod_lt _ h0
    have hg := flat_get hk l (t / k) (t % k) _ (List.getElem?_eq_getElem hq) hr
    rw [show t / k * k + t % k = t by rw [Nat.mul_comm]; exact Nat.div_add_mod t k] at hg
    rw [hg, Array.getElem?_toList, Array.getElem?_eq_getElem (by simpa using ht)]
    rw [getElem!_pos _ t (by simpa using ht)] at h1
    rw [h1]
    have e1 : (l.toArray)[t / k]! = l[t / k] := by rw [getElem!_pos _ _ (by simpa using hq)]; simp
    rw [e1, getElem!_pos _ _ (by rw [hk]; exact hr), List.getElem?_eq_getElem (by rw [hk]; exact hr)]
  · rw [List.getElem?_eq_none (by simp; omega), List.getElem?_eq_none (by rw [flat_len hk]; omega)]
theorem flatK_cells {k : Nat} (hk : ∀ x, (enc x).length = k) (h0 : 0 < k) (l : List α) (t : Nat) : (Sort.flatK enc k l.toArray)[t]? = (l.flatMap enc)[t]? := by
  rw [← flatK_toList hk h0 l, Array.getElem?_toList]
theorem own_holds (F : Flat d enc) {e base blk n c : Nat} {l : List α} {w : World} (h : OwnK d enc e base (.slice (some ⟨blk, 0, none⟩) n c) l w) : Sort.HoldsK enc d.sz w blk 0 l.toArray := by
  intro j hj
  have hl := flat_len (F.len w) l
  rw [Sort.size_flatK] at hj
  have hj : j < l.length * d.sz := by simpa using hj
  have hlt : j < (l.flatMap enc).length := by rw [hl]; exact hj
  have hc := World.ownsRow.cells (g := blk) h rfl j _ (List.getElem?_eq_getElem hlt)
  refine ⟨?_, ?_⟩
  · rw [Nat.zero_add]
    refine Eq.trans ?_ (hc.trans ?_)
    · rw [Addr.add_lit, Nat.zero_add]
    · rw [getElem!_pos _ j (by rw [Sort.size_flatK]; simpa using hj)]
      have := flatK_cells (F.len w) F.pos l j
      rw [Array.getElem?_eq_getElem (by rw [Sort.size_flatK]; simpa using hj), List.getElem?_eq_getElem hlt] at this
      injection this with this
      rw [this]; rfl
  · obtain ⟨cs, fr, hb⟩ : ∃ cs fr, w.heap[blk]? = some (.cells cs e fr) ∧ fr = (0, 0) := by
      rcases h.2 with ⟨h2, _⟩ | ⟨g, cap, cur, hv, hg, hh, _⟩
      · cases h2
      · injection hv with hA _ _
        injection hA with hA
        injection hA with hA
        subst hA
        exact ⟨cur, (0, 0), hh, rfl⟩
    obtain ⟨hb, rfl⟩ := hb
    exact blk_free hb _
theorem sortK_chg (w : World) (k blk m : Nat) (dk : Array α) (os : Array Obj) : Chg (· = blk) w (sortWorldK enc k w blk 0 m dk os) := by
  refine ⟨rfl, rfl, rfl, by simp [sortWorldK, Sort.putRowK], fun b hb hne => ?_⟩
  simp only [sortWorldK]
  rw [Sort.heap_grow_old _ _ (by simpa [Sort.putRowK] using hb)]
  simp [Sort.putRowK, Sort.putRow, Sort.mapBlock, Array.getElem?_modify]
  intro e; exact absurd e.symm hne
theorem sortK_own (F : Flat d enc) {e base blk n c : Nat} {l l' : List α} {w : World} (h : OwnK d enc e base (.slice (some ⟨blk, 0, none⟩) n c) l w) (hl : l'.length = l.length) (m : Nat) (os : Array Obj) :
    OwnK d enc e base (.slice (some ⟨blk, 0, none⟩) n c) l' (sortWorldK enc d.sz w blk 0 m l'.toArray os) := by
  have hf' := flat_len (F.len w) l'
  obtain ⟨h1, h2⟩ := h
  refine ⟨by rw [hf'], ?_⟩
  rcases h2 with ⟨h2, _⟩ | ⟨g, cap, cur, hv, hg, hh, hcap, hmax, hsz, htk⟩
  · cases h2
  · injection hv with hA hN hC
    injection hA with hA
    injection hA with hA
    subst hA; subst hC
    have hle : l'.length * d.sz ≤ cur.size := by rw [hsz, hl]; exact Nat.mul_le_mul_right _ hcap
    refine .inr ⟨blk, c, Sort.putCells id 0 (Sort.flatK enc d.sz l'.toArray) cur, by rw [hl, ← hN], hg, ?_, by rw [hl]; exact hcap, hmax, by simp [Sort.putCells, hsz], ?_⟩
    · simp only [sortWorldK]
      rw [Sort.heap_grow_old _ _ (by have := blk_lt hh; simpa [Sort.putRowK] using this)]
      simp [Sort.putRowK, Sort.putRow, Sort.mapBlock, Array.getElem?_modify, hh, Sort.onCells]
    · apply List.ext_getElem?
      intro t
      by_cases ht : t < l'.length * d.sz
      · rw [List.getElem?_take, if_pos ht, Array.getElem?_toList, ← flatK_cells (F.len w) F.pos l' t]
        simp only [Sort.putCells, Array.getElem?_mapIdx]
        rw [Array.getElem?_eq_getElem (show t < cur.size by omega)]
        simp only [Option.map_some, Nat.zero_le, Nat.zero_add, Nat.sub_zero, true_and, Sort.size_flatK]
        rw [if_pos (by simpa using ht)]
        rw [getElem!_pos _ t (by rw [Sort.size_flatK]; simpa using ht), Array.getElem?_eq_getElem (by rw [Sort.size_flatK]; simpa using ht)]
        rfl
      · rw [List.getElem?_eq_none (by simp; omega), List.getElem?_eq_none (by rw [hf']; omega)]
end
end Go.Proofs.Ythfinaocdcinlaa
