/- range over a map. -/
import Derived.Test.YthfinaocdcinlaaMap
import Derived.Maps.RangeRun
namespace Go.Proofs.Ythfinaocdcinlaa
open Go.RowKit
set_option linter.unusedVariables false
set_option linter.unusedSimpArgs false
set_option linter.unusedSectionVars false

section
variable {K : Type} [DecidableEq K] {P : Program} {ek : K → Value} {r bm : Nat} {l : List (K × Value)} {ks : List K} {w w1 : World}
/-- The iterator at r goes over the map at bm, that holds l; the keys ks have come. -/
def RangeAt (ek : K → Value) (r bm : Nat) (l : List (K × Value)) (ks : List K) (w : World) : Prop :=
  ∃ es clock since seen c0, w.heap[r]? = some (.mapIter (some bm) since seen c0) ∧ w.heap[bm]? = some (.map es clock) ∧ (l.map Prod.fst).Nodup ∧ es.toList.map (fun e => (e.key, e.val)) = l.map (fun x => (ek x.1, x.2)) ∧
    (es.toList.map (·.born)).Nodup ∧ (∀ e ∈ es.toList, e.born < since) ∧ since ≤ c0 ∧ since ≤ clock ∧ seen.size = ks.length ∧ ks.Nodup ∧ (∀ k ∈ ks, k ∈ l.map Prod.fst) ∧
    ∀ (i : Nat) (e : MapEntry) (p : K × Value), es.toList[i]? = some e → l[i]? = some p → (seen.contains e.born = true ↔ p.1 ∈ ks)
theorem RangeAt.chg {S : Nat → Prop} (h : RangeAt ek r bm l ks w) (hc : Chg S w w1) (hr : ¬ S r) (hb : ¬ S bm) : RangeAt ek r bm l ks w1 := by
  obtain ⟨es, clock, since, seen, c0, h1, h2, h3⟩ := h
  exact ⟨es, clock, since, seen, c0, hc.blk h1 hr, hc.blk h2 hb, h3⟩
theorem RangeAt.ext (h : RangeAt ek r bm l ks w) (hc : Ext w w1) : RangeAt ek r bm l ks w1 := h.chg hc (fun h => h) (fun h => h)
theorem RangeAt.nodup (h : RangeAt ek r bm l ks w) : ks.Nodup := by
  obtain ⟨es, clock, since, seen, c0, h1, h2, h3, h4, h5, h6, h7, h8, hss, h9, h10, h11⟩ := h
  exact h9
theorem RangeAt.sub (h : RangeAt ek r bm l ks w) : ∀ k ∈ ks, k ∈ l.map Prod.fst := by
  obtain ⟨es, clock, since, seen, c0, h1, h2, h3, h4, h5, h6, h7, h8, hss, h9, h10, h11⟩ := h
  exact h10
/-- How many keys have come. -/
def seenOf (r : Nat) (w : World) : Nat := match w.heap[r]? with
  | some (.mapIter _ _ seen _) => seen.size
  | _ => 0
theorem RangeAt.seen (h : RangeAt ek r bm l ks w) : seenOf r w = ks.length := by
  obtain ⟨es, clock, since, seen, c0, h1, h2, h3, h4, h5, h6, h7, h8, hss, h9, h10, h11⟩ := h
  unfold seenOf; rw [h1]; exact hss
theorem RangeAt.keys (h : RangeAt ek r bm l ks w) : (l.map Prod.fst).Nodup := by
  obtain ⟨es, clock, since, seen, c0, h1, h2, h3, h4⟩ := h
  exact h3
theorem RangeAt.lt (h : RangeAt ek r bm l ks w) : r < w.heap.size ∧ bm < w.heap.size := by
  obtain ⟨es, clock, since, seen, c0, h1, h2, h3⟩ := h
  exact ⟨blk_lt h1, blk_lt h2⟩
theorem RangeAt.ne (h : RangeAt ek r bm l ks w) {g : Nat} {cs : Array Value} {t : TypeId} {fr : Nat × Nat} (hg : w.heap[g]? = some (.cells cs t fr)) : r ≠ g ∧ bm ≠ g := by
  obtain ⟨es, clock, since, seen, c0, h1, h2, h3⟩ := h
  constructor
  · rintro rfl; rw [hg] at h1; cases h1
  · rintro rfl; rw [hg] at h2; cases h2
theorem RangeAt.apart (h : RangeAt ek r bm l ks w) : r ≠ bm := by
  obtain ⟨es, clock, since, seen, c0, h1, h2, h3⟩ := h
  rintro rfl
  rw [h1] at h2; cases h2
theorem RangeAt.map (h : RangeAt ek r bm l ks w) : ∃ es c, w.heap[bm]? = some (.map es c) := by
  obtain ⟨es, clock, since, seen, c0, h1, h2, h3⟩ := h
  exact ⟨_, _, h2⟩
theorem run_range (t k e : TypeId) (ht : P.underlying t = some (.map k e)) (h : MapAt ek bm l w) :
    ∃ o, (Instr.range t (.map (some bm))).run P w = .ok (.pointer (some ⟨w.heap.size, 0, none⟩)) (w.alloc o) ∧ RangeAt ek w.heap.size bm l [] (w.alloc o) := by
  obtain ⟨h1, es, clock, h2, h3, h4, h5⟩ := h
  refine ⟨_, run_range_map w t k e bm es clock ht h2, es, clock, clock, #[], clock, heap_alloc_new w _, blk_alloc h2 _, h1, h3, h4, h5, Nat.le_refl _, Nat.le_refl _, rfl, List.nodup_nil, by simp, by simp⟩
/-- The next step: nothing is left; or one key that has not come. -/
theorem run_next (h : RangeAt ek r bm l ks w) :
    ((∀ k ∈ l.map Prod.fst, k ∈ ks) ∧ ∀ ty, (Instr.next (.pointer (some ⟨r, 0, none⟩)) false ty).run P w = .ok (.tuple #[.bool false]) w) ∨
    ∃ k v w', (k, v) ∈ l ∧ k ∉ ks ∧ (∀ ty, (Instr.next (.pointer (some ⟨r, 0, none⟩)) false ty).run P w = .ok (.tuple #[.bool true, ek k, v]) w') ∧ RangeAt ek r bm l (ks ++ [k]) w' ∧ Chg (· = r) w w' ∧ (Instr.entry (.pointer (some ⟨r, 0, none⟩))).run P w' = .ok (.tuple #[ek k, v]) w' := by
  obtain ⟨es, clock, since, seen, c0, h1, h2, h3, h4, h5, h6, h7, h8, hss, h9, h10, h11⟩ := h
  have hlen : es.toList.length = l.length := by have := congrArg List.length h4; simpa using this
  rcases run_next_at (P := P) w 0 r bm since c0 seen es clock h1 h2 h6 h7 with ⟨hz, hrun⟩ | ⟨e, he, w2, hw2, hrun⟩
  · left
    refine ⟨fun k hk => ?_, fun ty => hrun⟩
    obtain ⟨p, hp, rfl⟩ := List.mem_map.1 hk
    obtain ⟨i, hi⟩ := List.mem_iff_getElem?.1 hp
    have hil : i < es.toList.length := by rw [hlen]; exact (List.getElem?_eq_some_iff.1 hi).1
    have hei := List.getElem?_eq_getElem hil
    rw [← h11 i _ p hei hi]
    cases hc : seen.contains es.toList[i].born with
    | true => rfl
    | false =>
      exfalso
      have : es.toList[i] ∈ leftOf es seen := by
        unfold leftOf
        exact Array.mem_filter.2 ⟨Array.mem_toList_iff.1 (List.getElem_mem hil), by rw [hc]; rfl⟩
      rw [Array.eq_empty_of_size_eq_zero hz] at this
      simp at this
  · right
    obtain ⟨hes, hns⟩ := mem_left he
    obtain ⟨i, hi⟩ := List.mem_iff_getElem?.1 hes
    have hil : i < l.length := by rw [← hlen]; exact (List.getElem?_eq_some_iff.1 hi).1
    have hli := List.getElem?_eq_getElem hil
    have hkv : (e.key, e.val) = (ek l[i].1, l[i].2) := by
      have := congrArg (fun z => z[i]?) h4
      simp only [List.getElem?_map, hi, hli, Option.map_some, Option.some.injEq] at this
      exact this
    obtain ⟨hk1, hv1⟩ : e.key = ek l[i].1 ∧ e.val = l[i].2 := by simpa using hkv
    have hnk : l[i].1 ∉ ks := fun hk => by
      have := (h11 i e _ hi hli).2 hk
      rw [this] at hns; cases hns
    rw [hk1, hv1] at hrun
    have hsame : w2.heap = w.heap := by rcases hw2 with rfl | rfl <;> rfl
    have hr2 : w2.heap[r]? = some (.mapIter (some bm) since seen c0) := by rw [hsame]; exact h1
    have hb2 : w2.heap[bm]? = some (.map es clock) := by rw [hsame]; exact h2
    have hrb : r ≠ bm := by rintro rfl; rw [h1] at h2; cases h2
    have hR : (ChangeMaps.setBlock w2 r (.mapIter (some bm) since (seen.push e.born) clock)).heap[r]? = some (.mapIter (some bm) since (seen.push e.born) clock) := by
      have := blk_lt hr2
      simp [ChangeMaps.setBlock, Array.getElem?_setIfInBounds, this]
    have hB : (ChangeMaps.setBlock w2 r (.mapIter (some bm) since (seen.push e.born) clock)).heap[bm]? = some (.map es clock) := by
      simp only [ChangeMaps.setBlock, Array.getElem?_setIfInBounds, if_neg hrb]
      exact hb2
    have hent := run_entry_at (P := P) (ChangeMaps.setBlock w2 r (.mapIter (some bm) since (seen.push e.born) clock)) r bm since seen es clock e hR hB hes h5
    rw [hk1, hv1] at hent
    refine ⟨l[i].1, l[i].2, _, List.getElem_mem hil, hnk, fun ty => hrun, ⟨es, clock, since, seen.push e.born, clock, hR, hB, h3, h4, h5, h6, h8, h8, by simp [hss], ?_, ?_, ?_⟩, ?_, hent⟩
    · rw [List.nodup_append]
      exact ⟨h9, by simp, fun a ha b hb e => hnk (by rw [List.mem_singleton.1 hb] at e; rw [← e]; exact ha)⟩
    · intro k hk
      rcases List.mem_append.1 hk with hk | hk
      · exact h10 k hk
      · rw [List.mem_singleton.1 hk]
        exact List.mem_map.2 ⟨_, List.getElem_mem hil, rfl⟩
    · intro j e' p hj hp
      rw [contains_push, List.mem_append, List.mem_singleton, Bool.or_eq_true, h11 j e' p hj hp, beq_iff_eq]
      refine or_congr Iff.rfl ?_
      constructor
      · intro hbn
        have hji : j = i := by
          have q1 : (es.toList.map (·.born))[j]? = some e'.born := by rw [List.getElem?_map, hj]; rfl
          have q2 : (es.toList.map (·.born))[i]? = some e.born := by rw [List.getElem?_map, hi]; rfl
          rw [hbn] at q1
          exact (List.getElem?_inj (by rw [List.length_map]; exact (List.getElem?_eq_some_iff.1 hj).1) h5).1 (q1.trans q2.symm)
        subst hji
        rw [hli] at hp
        injection hp with hp
        rw [hp]
      · intro hk
        have hji : j = i := by
          have q1 : (l.map Prod.fst)[j]? = some p.1 := by rw [List.getElem?_map, hp]; rfl
          have q2 : (l.map Prod.fst)[i]? = some l[i].1 := by rw [List.getElem?_map, hli]; rfl
          rw [hk] at q1
          exact (List.getElem?_inj (by rw [List.length_map]; exact (List.getElem?_eq_some_iff.1 hp).1) h3).1 (q1.trans q2.symm)
        subst hji
        rw [hi] at hj
        injection hj with hj
        rw [hj]
    · have hc0 : Chg (· = r) w w2 := by rcases hw2 with rfl | rfl; exact Chg.refl _ _; exact (Chg.refl _ _).drew
      exact hc0.trans (Chg.setBlock _ _ _) (fun _ _ h => h)
end
end Go.Proofs.Ythfinaocdcinlaa
