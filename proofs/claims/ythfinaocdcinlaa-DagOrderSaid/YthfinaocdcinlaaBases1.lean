/- DagBases, DagOrder: the plain part: what is reached in a Dag that was built by Add. -/
import Derived.Test.YthfinaocdcinlaaGrown1
namespace Go.Proofs.Ythfinaocdcinlaa
open Go.RowKit
set_option linter.unusedVariables false
set_option linter.unusedSimpArgs false

theorem has_append {D : Nodes} {x y : Id} {n : List Id × Nat} (h : look D x = none) : has (D ++ [(x, n)]) y = (decide (y = x) || has D y) := by
  unfold has
  rw [look_append h]
  split
  · rename_i e; simp [e]
  · rename_i e; simp [e]
theorem depF_ge {D : Nodes} {ps : List Id} {p : Id} (h : p ∈ ps) : dep D p + 1 ≤ depF D ps := by
  have mono : ∀ (ps : List Id) (a : Nat), a ≤ ps.foldl (fun d p => max d (dep D p + 1)) a := by
    intro ps
    induction ps with
    | nil => intro a; exact Nat.le_refl _
    | cons q r ih => intro a; exact Nat.le_trans (Nat.le_max_left _ _) (ih _)
  have key : ∀ (ps : List Id) (a : Nat), p ∈ ps → dep D p + 1 ≤ ps.foldl (fun d p => max d (dep D p + 1)) a := by
    intro ps
    induction ps with
    | nil => intro a h; simp at h
    | cons q r ih =>
      intro a h
      rcases List.mem_cons.1 h with rfl | h
      · exact Nat.le_trans (Nat.le_max_right _ _) (mono r _)
      · exact ih _ h
  exact key ps 1 h
theorem Wf.par {D : Nodes} (h : Wf D) : ∀ y p, p ∈ par D y → has D p = true ∧ dep D p < dep D y := by
  induction h with
  | nil => intro y p hp; simp [Go.Proofs.Ythfinaocdcinlaa.par, look] at hp
  | @add D x ps hD hx hps ih =>
    have hl := has_none hx
    intro y p hp
    have hdep : ∀ q, has D q = true → dep (D ++ [(x, (ps, depF D ps))]) q = dep D q := fun q hq => by
      unfold dep
      rw [look_append hl, if_neg (fun e => by rw [e, hx] at hq; cases hq)]
    by_cases e : y = x
    · subst e
      have hpy : Go.Proofs.Ythfinaocdcinlaa.par (D ++ [(y, (ps, depF D ps))]) y = ps := by simp [Go.Proofs.Ythfinaocdcinlaa.par, look_append hl]
      have hdy : dep (D ++ [(y, (ps, depF D ps))]) y = depF D ps := by simp [dep, look_append hl]
      rw [hpy] at hp
      refine ⟨by rw [has_append hl, hps p hp]; simp, ?_⟩
      rw [hdep p (hps p hp), hdy]
      exact depF_ge hp
    · have hpy : Go.Proofs.Ythfinaocdcinlaa.par (D ++ [(x, (ps, depF D ps))]) y = Go.Proofs.Ythfinaocdcinlaa.par D y := by simp [Go.Proofs.Ythfinaocdcinlaa.par, look_append hl, e]
      have hdy : dep (D ++ [(x, (ps, depF D ps))]) y = dep D y := by simp [dep, look_append hl, e]
      rw [hpy] at hp
      obtain ⟨h1, h2⟩ := ih y p hp
      exact ⟨by rw [has_append hl, h1]; simp, by rw [hdep p h1, hdy]; exact h2⟩
section
variable {D : Nodes} {a b x y z : Id}
theorem rch_trans {fr : List Id} (h : Rch D fr y) (k : Rch D [y] z) : Rch D fr z := by
  induction k with
  | base h1 h2 => rw [List.mem_singleton.1 h1]; exact h
  | step h1 h2 h3 ih => exact .step ih h2 h3
theorem rch_self (h : has D x = true) : Rch D [x] x := .base (by simp) h
theorem rch_last (h : Rch D [x] y) (hne : x ≠ y) : ∃ m, Rch D [x] m ∧ y ∈ par D m := by
  cases h with
  | base h1 h2 => exact absurd (List.mem_singleton.1 h1).symm hne
  | step h1 h2 h3 => exact ⟨_, h1, h2⟩
theorem rch_dep (hw : Wf D) (h : Rch D [x] y) : dep D y ≤ dep D x := by
  induction h with
  | base h1 h2 => rw [List.mem_singleton.1 h1]; exact Nat.le_refl _
  | step h1 h2 h3 ih => exact Nat.le_trans (Nat.le_of_lt (hw.par _ _ h2).2) ih
theorem rch_two (a b : Id) (x : Id) : Rch D [a, b] x ↔ Rch D [a] x ∨ Rch D [b] x := by
  constructor
  · intro h
    induction h with
    | base h1 h2 =>
      rcases List.mem_cons.1 h1 with rfl | h1
      · exact .inl (.base (by simp) h2)
      · exact .inr (.base h1 h2)
    | step h1 h2 h3 ih => exact ih.imp (fun h => .step h h2 h3) (fun h => .step h h2 h3)
  · have mono : ∀ {c : Id}, c ∈ [a, b] → Rch D [c] x → Rch D [a, b] x := fun {c} hc h => by
      induction h with
      | base h1 h2 => exact .base (by rw [List.mem_singleton.1 h1]; exact hc) h2
      | step h1 h2 h3 ih => exact .step ih h2 h3
    rintro (h | h)
    · exact mono (by simp) h
    · exact mono (by simp) h
theorem best_swap (n : Id) : Best D b a n ↔ Best D a b n := by
  unfold Best
  exact and_congr (and_comm) (not_congr (exists_congr fun m => and_congr and_comm Iff.rfl))
/-- None of the best reaches another one. -/
theorem best_apart (hp : Best D a b x) (hq : Best D a b y) (hne : x ≠ y) : ¬ Rch D [x] y := fun h => by
  obtain ⟨m, h1, h2⟩ := rch_last h hne
  exact hq.2 ⟨m, ⟨rch_trans hp.1.1 h1, rch_trans hp.1.2 h1⟩, h2⟩
/-- Each common ancestor is reached by one of the best. -/
theorem best_over (hw : Wf D) (B : Nat) (hB : ∀ p, dep D p ≤ B) : ∀ (k : Nat) (c : Id), B - dep D c ≤ k → Rch D [a] c → Rch D [b] c → ∃ m, Best D a b m ∧ Rch D [m] c
  | k, c, hk, h1, h2 => by
    by_cases hb : ∃ m, (Rch D [a] m ∧ Rch D [b] m) ∧ c ∈ par D m
    · obtain ⟨m, ⟨h3, h4⟩, h5⟩ := hb
      have hd := (hw.par m c h5).2
      have hm := hB m
      match k, hk with
      | 0, hk => omega
      | k + 1, hk =>
        obtain ⟨n, hn, hr⟩ := best_over hw B hB k m (by omega) h3 h4
        exact ⟨n, hn, .step hr h5 h1.has⟩
    · exact ⟨c, ⟨⟨h1, h2⟩, hb⟩, rch_self h1.has⟩
theorem best_of_rch (hw : Wf D) (h : Rch D [a] b) (n : Id) : Best D a b n ↔ n ∈ [b] := by
  rw [List.mem_singleton]
  constructor
  · intro hn
    apply Classical.byContradiction
    intro hne
    obtain ⟨m, h1, h2⟩ := rch_last hn.1.2 (fun e => hne e.symm)
    exact hn.2 ⟨m, ⟨rch_trans h h1, h1⟩, h2⟩
  · rintro rfl
    refine ⟨⟨h, rch_self h.has⟩, ?_⟩
    rintro ⟨m, ⟨_, h2⟩, h3⟩
    have h4 := rch_dep hw h2
    have h5 := (hw.par m n h3).2
    omega
end
theorem cb_neg : ∀ (a b : List UInt8), Lib.compareBytes a b < 0 → Lib.compareBytes a b = -1
  | [], [], h => by simp [Lib.compareBytes] at h
  | [], _ :: _, _ => rfl
  | _ :: _, [], h => by simp [Lib.compareBytes] at h
  | x :: a, y :: b, h => by
    simp only [Lib.compareBytes] at h ⊢
    split
    · rfl
    · rename_i h1
      rw [if_neg h1] at h
      split
      · rename_i h2; rw [if_pos h2] at h; simp at h
      · rename_i h2; rw [if_neg h2] at h; exact cb_neg a b h
theorem cmpI_neg {x y : Id} (h : cmpI x y < 0) : cmpI x y = -1 := cb_neg _ _ h
end Go.Proofs.Ythfinaocdcinlaa
