/- DagLines: the plain part: commits in a line. -/
import Derived.Test.YthfinaocdcinlaaAlive
namespace Go.Proofs.Ythfinaocdcinlaa
open Go.RowKit
set_option linter.unusedVariables false
set_option linter.unusedSimpArgs false

def lid (j : Nat) : Id := cid (UInt8.ofNat (j + 1))
def lpar : Nat → List Id
  | 0 => []
  | j + 1 => [lid j]
def LD (n : Nat) : Nodes := (List.range n).map fun j => (lid j, (lpar j, j + 1))
theorem lid_inj {i j : Nat} (hi : i < 200) (hj : j < 200) (h : lid i = lid j) : i = j := by
  have h1 := congrArg (fun x : Id => x.1.head?) h
  simp only [lid, cid, List.head?_cons, Option.some.injEq] at h1
  have h2 := congrArg UInt8.toNat h1
  simp at h2
  omega
theorem LD_keys (n : Nat) : (LD n).map Prod.fst = (List.range n).map lid := by simp [LD, Function.comp_def]
theorem LD_nodup {n : Nat} (hn : n ≤ 200) : ((LD n).map Prod.fst).Nodup := by
  rw [LD_keys, List.nodup_iff_pairwise_ne, List.pairwise_map]
  refine (List.pairwise_lt_range (n := n)).imp_of_mem ?_
  intro a b ha hb hab e
  have := List.mem_range.1 ha
  have := List.mem_range.1 hb
  have := lid_inj (by omega) (by omega) e
  omega
theorem LD_look {n j : Nat} (hn : n ≤ 200) (hj : j < n) : look (LD n) (lid j) = some (lpar j, j + 1) :=
  look_mem (LD_nodup hn) (List.mem_map.2 ⟨j, List.mem_range.2 hj, rfl⟩)
theorem LD_has {n : Nat} (hn : n ≤ 200) (x : Id) : has (LD n) x = true ↔ ∃ j, j < n ∧ x = lid j := by
  constructor
  · intro h
    have := has_mem h
    rw [LD_keys] at this
    obtain ⟨j, hj, rfl⟩ := List.mem_map.1 this
    exact ⟨j, List.mem_range.1 hj, rfl⟩
  · rintro ⟨j, hj, rfl⟩
    simp [has, LD_look hn hj]
theorem LD_par {n j : Nat} (hn : n ≤ 200) (hj : j < n) : par (LD n) (lid j) = lpar j := by simp [par, LD_look hn hj]
theorem LD_dep {n j : Nat} (hn : n ≤ 200) (hj : j < n) : dep (LD n) (lid j) = j + 1 := by simp [dep, LD_look hn hj]
theorem LD_len (n : Nat) : (LD n).length = n := by simp [LD]
theorem rch_line {n i : Nat} (hn : n ≤ 200) (hi : i < n) (x : Id) : Rch (LD n) [lid i] x ↔ ∃ j, j ≤ i ∧ x = lid j := by
  constructor
  · intro h
    induction h with
    | base h1 h2 => exact ⟨i, Nat.le_refl _, by simpa using h1⟩
    | step h1 h2 h3 ih =>
      obtain ⟨j, hj, rfl⟩ := ih
      rw [LD_par hn (by omega)] at h2
      cases j with
      | zero => simp [lpar] at h2
      | succ j => exact ⟨j, by omega, by simpa [lpar] using h2⟩
  · rintro ⟨j, hj, rfl⟩
    have key : ∀ d, d ≤ i → Rch (LD n) [lid i] (lid (i - d)) := by
      intro d
      induction d with
      | zero => exact fun _ => .base (by simp) ((LD_has hn _).2 ⟨i, hi, rfl⟩)
      | succ d ih =>
        intro hd
        refine .step (ih (by omega)) ?_ ((LD_has hn _).2 ⟨i - (d + 1), by omega, rfl⟩)
        rw [LD_par hn (by omega), show i - d = i - (d + 1) + 1 by omega]
        simp [lpar]
    have := key (i - j) (by omega)
    rwa [show i - (i - j) = j by omega] at this
theorem best_line {n i k : Nat} (hn : n ≤ 200) (hi : i < n) (hk : k < n) (x : Id) : Best (LD n) (lid i) (lid k) x ↔ x ∈ [lid (min i k)] := by
  unfold Best
  simp only [rch_line hn hi, rch_line hn hk, List.mem_singleton]
  constructor
  · rintro ⟨⟨⟨j, hj, rfl⟩, j', hj', e⟩, hno⟩
    have := lid_inj (by omega) (by omega) e
    subst this
    by_cases hlt : j < min i k
    · exfalso
      refine hno ⟨lid (j + 1), ⟨⟨j + 1, by omega, rfl⟩, j + 1, by omega, rfl⟩, ?_⟩
      rw [LD_par hn (by omega)]; simp [lpar]
    · rw [show j = min i k by omega]
  · rintro rfl
    refine ⟨⟨⟨min i k, by omega, rfl⟩, min i k, by omega, rfl⟩, ?_⟩
    rintro ⟨m, ⟨⟨j, hj, rfl⟩, j', hj', e⟩, hm⟩
    have := lid_inj (by omega) (by omega) e
    subst this
    rw [LD_par hn (by omega)] at hm
    cases j with
    | zero => simp [lpar] at hm
    | succ j =>
      have e : lid (min i k) = lid j := by simpa [lpar] using hm
      have := lid_inj (by omega) (by omega) e
      omega
theorem head_line {n : Nat} (hn : n ≤ 200) (h0 : 0 < n) (x : Id) : (has (LD n) x = true ∧ isKid (LD n) x = false) ↔ x ∈ [lid (n - 1)] := by
  rw [LD_has hn, List.mem_singleton]
  have hkid : ∀ j, j < n → (isKid (LD n) (lid j) = true ↔ j + 1 < n) := by
    intro j hj
    simp only [isKid, LD, List.any_eq_true, List.mem_map, List.mem_range, List.contains_iff_mem]
    constructor
    · rintro ⟨_, ⟨k, hk, rfl⟩, hm⟩
      cases k with
      | zero => simp [lpar] at hm
      | succ k =>
        have e : lid j = lid k := by simpa [lpar] using hm
        have := lid_inj (by omega) (by omega) e
        omega
    · intro h
      exact ⟨_, ⟨j + 1, h, rfl⟩, by simp [lpar]⟩
  constructor
  · rintro ⟨⟨j, hj, rfl⟩, h2⟩
    have := hkid j hj
    rw [h2] at this
    simp at this
    rw [show j = n - 1 by omega]
  · rintro rfl
    refine ⟨⟨n - 1, by omega, rfl⟩, ?_⟩
    have := hkid (n - 1) (by omega)
    cases h : isKid (LD n) (lid (n - 1))
    · rfl
    · rw [h] at this
      have := this.1 rfl
      omega
theorem anc_line {n i : Nat} (hn : n ≤ 200) (hi : i < n) {ks : List Id} (h1 : ks.Nodup) (h : ∀ x, x ∈ ks ↔ Rch (LD n) [lid i] x) : ks.length = i + 1 := by
  have h2 : ((List.range (i + 1)).map lid).Nodup := by rw [← LD_keys]; exact LD_nodup (by omega)
  rw [len_of h1 h2 (fun x => (h x).trans ?_)]
  · simp
  · rw [rch_line hn hi]
    simp only [List.mem_map, List.mem_range]
    exact ⟨fun ⟨j, hj, e⟩ => ⟨j, by omega, e.symm⟩, fun ⟨j, hj, e⟩ => ⟨j, by omega, e.symm⟩⟩

def lineOk (j : Nat) : Bool :=
  decide (addF (LD j) (lid j) (lpar j) = (LD (j + 1), 0)) && decide (addF (LD (j + 1)) (lid j) (lpar j) = (LD (j + 1), 0)) && decide (addF (LD (j + 1)) (lid j) [cid 77] = (LD (j + 1), 5)) &&
  decide (addF (LD (j + 1)) (cid 99) [cid 98] = (LD (j + 1), 110)) && decide (addF (LD (j + 1)) zId [] = (LD (j + 1), 1)) && decide (wgtAll (LD j) ≤ 1000) && decide (wgtAll (LD (j + 1)) ≤ 1000) && (LD (j + 1)).all (fun n => decide (n.2.2 ≤ 1000)) && (LD j).all (fun n => decide (n.2.2 ≤ 1000))
theorem lines_ok : (List.range 32).all lineOk = true := by kernel_rfl
structure LRound (j : Nat) : Prop where
  a1 : addF (LD j) (lid j) (lpar j) = (LD (j + 1), 0)
  a2 : addF (LD (j + 1)) (lid j) (lpar j) = (LD (j + 1), 0)
  a3 : addF (LD (j + 1)) (lid j) [cid 77] = (LD (j + 1), 5)
  a4 : addF (LD (j + 1)) (cid 99) [cid 98] = (LD (j + 1), 110)
  a5 : addF (LD (j + 1)) zId [] = (LD (j + 1), 1)
  s1 : wgtAll (LD j) ≤ 1000 ∧ ∀ p, dep (LD j) p ≤ 1000
  s2 : wgtAll (LD (j + 1)) ≤ 1000 ∧ ∀ p, dep (LD (j + 1)) p ≤ 1000
theorem lround {j : Nat} (hj : j < 32) : LRound j := by
  have h := List.all_eq_true.1 lines_ok j (List.mem_range.2 hj)
  simp only [lineOk, Bool.and_eq_true, decide_eq_true_eq] at h
  obtain ⟨⟨⟨⟨⟨⟨⟨⟨h1, h2⟩, h3⟩, h4⟩, h5⟩, h6⟩, h7⟩, h8⟩, h9⟩ := h
  exact ⟨h1, h2, h3, h4, h5, ⟨h6, dep_le h9⟩, h7, dep_le h8⟩
theorem lpar_len (j : Nat) : (lpar j).length ≤ 1 := by cases j <;> simp [lpar]
end Go.Proofs.Ythfinaocdcinlaa
