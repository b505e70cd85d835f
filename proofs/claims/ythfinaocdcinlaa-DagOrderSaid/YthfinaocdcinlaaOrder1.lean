/- DagOrder: the plain part. -/
import Derived.Test.YthfinaocdcinlaaBases1
namespace Go.Proofs.Ythfinaocdcinlaa
open Go.RowKit
set_option linter.unusedVariables false
set_option linter.unusedSimpArgs false

theorem GInv.nodup {i : Nat} {D : Nodes} (h : GInv i D) (hi : i ≤ 200) : (D.map Prod.fst).Nodup := by
  rw [h.keys, ← LD_keys]; exact LD_nodup hi
theorem par_kid {D : Nodes} {m x : Id} (h : x ∈ par D m) : isKid D x = true := by
  unfold par at h
  cases hl : look D m with
  | none => rw [hl] at h; simp at h
  | some n =>
    rw [hl] at h
    exact List.any_eq_true.2 ⟨(m, n), look_some_mem hl, by simpa using h⟩
theorem kid_par {D : Nodes} (hn : (D.map Prod.fst).Nodup) {x : Id} (h : isKid D x = true) : ∃ m, has D m = true ∧ x ∈ par D m := by
  obtain ⟨⟨m, n⟩, h1, h2⟩ := List.any_eq_true.1 h
  have hl := look_mem hn h1
  exact ⟨m, by simp [has, hl], by simpa [par, hl] using h2⟩
section
variable {D : Nodes}
/-- Each commit is reached from a head. -/
theorem head_over (hw : Wf D) (hn : (D.map Prod.fst).Nodup) (B : Nat) (hB : ∀ p, dep D p ≤ B) : ∀ (k : Nat) (x : Id), B - dep D x ≤ k → has D x = true → ∃ h, has D h = true ∧ isKid D h = false ∧ Rch D [h] x
  | k, x, hk, hx => by
    cases hb : isKid D x
    · exact ⟨x, hx, hb, rch_self hx⟩
    · obtain ⟨m, h1, h2⟩ := kid_par hn hb
      have hd := (hw.par m x h2).2
      have hm := hB m
      match k, hk with
      | 0, hk => omega
      | k + 1, hk =>
        obtain ⟨h, e1, e2, e3⟩ := head_over hw hn B hB k m (by omega) h1
        exact ⟨h, e1, e2, .step e3 h2 hx⟩
theorem rch_mono {fr fr' : List Id} (h : ∀ x ∈ fr, x ∈ fr') {x : Id} (hr : Rch D fr x) : Rch D fr' x := by
  induction hr with
  | base h1 h2 => exact .base (h _ h1) h2
  | step h1 h2 h3 ih => exact .step ih h2 h3
theorem heads_all (hw : Wf D) (hn : (D.map Prod.fst).Nodup) (B : Nat) (hB : ∀ p, dep D p ≤ B) {lh ks : List Id} (hh : ∀ n, n ∈ lh ↔ has D n = true ∧ isKid D n = false) (h1 : ks.Nodup) (h2 : ∀ x, x ∈ ks ↔ Rch D lh x) : ks.length = D.length := by
  rw [len_of h1 hn (fun x => (h2 x).trans ?_), List.length_map]
  constructor
  · exact fun h => has_mem h.has
  · intro h
    obtain ⟨m, e1, e2, e3⟩ := head_over hw hn B hB _ x (Nat.le_refl _) (has_of_mem h)
    exact rch_mono (fun y hy => by rw [List.mem_singleton.1 hy]; exact (hh m).2 ⟨e1, e2⟩) e3
theorem head_alone {h x : Id} (hk : isKid D h = false) (hne : x ≠ h) : ¬ Rch D [x] h := fun hr => by
  obtain ⟨m, h1, h2⟩ := rch_last hr hne
  rw [par_kid h2] at hk
  cases hk
section
variable {a b : Id} {ks : List Id}
theorem sortI_nodup (hn : ks.Nodup) : (sortI D ks).Nodup := (sortI_perm D ks).nodup_iff.2 hn
theorem sortI_le {i j : Nat} {x y : Id} (hij : i < j) (hx : (sortI D ks)[i]? = some x) (hy : (sortI D ks)[j]? = some y) : dep D x ≤ dep D y := by
  have h := sortI_sorted D ks
  rw [List.pairwise_iff_getElem] at h
  obtain ⟨q1, q2⟩ := List.getElem?_eq_some_iff.1 hx
  obtain ⟨q3, q4⟩ := List.getElem?_eq_some_iff.1 hy
  have := h i j q1 q3 hij
  rw [q2, q4, ltD] at this
  simp only [Bool.not_eq_true', decide_eq_false_iff_not, cmpD_iff] at this
  omega
theorem ord_par (hw : Wf D) (hm : ∀ x, x ∈ ks ↔ Rch D [a, b] x) {q : Nat} {x p : Id} (hx : (sortI D ks)[q]? = some x) (hp : p ∈ par D x) : p ∈ (sortI D ks).take q ∧ dep D p < dep D x := by
  obtain ⟨h1, h2⟩ := hw.par x p hp
  refine ⟨?_, h2⟩
  have hrx : Rch D [a, b] x := (hm x).1 ((sortI_perm D ks).mem_iff.1 (List.mem_of_getElem? hx))
  have hpm : p ∈ sortI D ks := (sortI_perm D ks).mem_iff.2 ((hm p).2 (.step hrx hp h1))
  obtain ⟨r, hr⟩ := List.mem_iff_getElem?.1 hpm
  have hrq : r < q := by
    rcases Nat.lt_trichotomy r q with h | h | h
    · exact h
    · subst h
      rw [hx] at hr
      injection hr with hr
      subst hr
      omega
    · have := sortI_le h hx hr
      omega
  refine List.mem_iff_getElem?.2 ⟨r, ?_⟩
  rw [List.getElem?_take, if_pos hrq]; exact hr
theorem not_yet {l : List Id} (hn : l.Nodup) {q : Nat} {x : Id} (hx : l[q]? = some x) : x ∉ l.take q := fun h => by
  obtain ⟨r, hr⟩ := List.mem_iff_getElem?.1 h
  have hrq : r < q := by
    have := (List.getElem?_eq_some_iff.1 hr).1
    simp at this; omega
  rw [List.getElem?_take, if_pos hrq] at hr
  obtain ⟨q3, q4⟩ := List.getElem?_eq_some_iff.1 hr
  have := (List.getElem?_inj q3 hn).1 (hr.trans hx.symm)
  omega
end
end
end Go.Proofs.Ythfinaocdcinlaa
