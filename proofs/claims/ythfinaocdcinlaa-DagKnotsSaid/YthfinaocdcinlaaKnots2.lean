/- DagKnots: what each round answers; what the end answers. -/
import Derived.Test.YthfinaocdcinlaaKnots1
namespace Go.Proofs.Ythfinaocdcinlaa
open Go.RowKit
set_option linter.unusedVariables false
set_option linter.unusedSimpArgs false

theorem heads_of {D : Nodes} {S : List Id} (h : (D.map Prod.fst).all (fun n => (has D n && !isKid D n) == S.contains n) = true) (k : S.all (fun n => has D n) = true) (n : Id) : (has D n = true ∧ isKid D n = false) ↔ n ∈ S := by
  constructor
  · rintro ⟨h1, h2⟩
    have h3 := List.all_eq_true.1 h n (has_mem h1)
    rw [h1, h2] at h3
    simpa using h3
  · intro hn
    have h3 := List.all_eq_true.1 h n (has_mem (List.all_eq_true.1 k n hn))
    rw [show S.contains n = true by simpa using hn] at h3
    simpa using h3
def kx (i : Nat) : Bool := decide (cmpI (ka i) (kb i) < 0) && decide (ka (i + 1) ≠ kb (i + 1)) && decide ((KD (i + 1)).length = 3 + 2 * (i + 1)) && rchOk (KD (i + 1)) [cid 99] [] && decide ((bestL (KD (i + 1)) (clos (KD (i + 1)) [ka (i + 1)]) (clos (KD (i + 1)) [ka (i + 1)])) = [ka (i + 1)])
theorem kxs : (List.range 8).all kx = true := by kernel_rfl
structure KRound (i : Nat) : Prop where
  a1 : addF (KD i) (ka (i + 1)) [ka i, kb i] = (KM i, 0)
  a2 : addF (KM i) (kb (i + 1)) [ka i, kb i] = (KD (i + 1), 0)
  a3 : addF (KD (i + 1)) (cid2 100 (UInt8.ofNat i)) [kb i, ka i] = (KD (i + 1), 1)
  bs : ∀ l : List Id, (l.Pairwise fun a b => cmpI a b < 0) → (∀ n, n ∈ l ↔ Best (KD (i + 1)) (ka (i + 1)) (kb (i + 1)) n) → l = [ka i, kb i]
  dp : dep (KD (i + 1)) (ka (i + 1)) = 3 + i
  an : ∀ ks : List Id, ks.Nodup → (∀ x, x ∈ ks ↔ Rch (KD (i + 1)) [ka (i + 1), kb (i + 1)] x) → ks.length = 5 + 2 * i
  hd : ∀ l : List Id, (l.Pairwise fun a b => cmpI a b < 0) → (∀ n, n ∈ l ↔ has (KD (i + 1)) n = true ∧ isKid (KD (i + 1)) n = false) → l.length = 2
  ln : (KD (i + 1)).length = 3 + 2 * (i + 1)
  b0 : ∀ l : List Id, (∀ n, n ∈ l ↔ Best (KD (i + 1)) (ka (i + 1)) (cid 99) n) → l.length = 0
  b1 : ∀ l : List Id, (l.Pairwise fun a b => cmpI a b < 0) → (∀ n, n ∈ l ↔ Best (KD (i + 1)) (ka (i + 1)) (ka (i + 1)) n) → l.length = 1
theorem kround {i : Nat} (hi : i < 8) : KRound i := by
  have h := List.all_eq_true.1 rounds_ok i (List.mem_range.2 hi)
  have k := List.all_eq_true.1 kxs i (List.mem_range.2 hi)
  simp only [roundOk, Bool.and_eq_true, decide_eq_true_eq] at h
  simp only [kx, Bool.and_eq_true, decide_eq_true_eq] at k
  obtain ⟨⟨⟨⟨⟨⟨⟨⟨⟨⟨⟨h1, h2⟩, h3⟩, h4⟩, h5⟩, h6⟩, h7⟩, h8⟩, h9⟩, h10⟩, h11⟩, h12⟩ := h
  obtain ⟨⟨⟨⟨k1, k2⟩, k3⟩, k4⟩, k5⟩ := k
  have hab : ka i ≠ kb i := fun e => by rw [e] at k1; exact cmpI_irrefl _ k1
  refine ⟨Prod.ext rfl h1, Prod.ext rfl h2, h3, fun l hp hm => ?_, h7, fun ks hn hm => ?_, fun l hp hm => ?_, k3, fun l hm => ?_, fun l hp hm => ?_⟩
  · refine rising_ext hp (by simp [k1]) (fun n => (hm n).trans ?_)
    rw [best_iff h4 h5, h6]
  · rw [← h9]
    exact len_of hn h10 (fun n => (hm n).trans (rchOk_iff h8 n))
  · have := len_of (rising_nodup hp) (S := [ka (i + 1), kb (i + 1)]) (by simp [k2]) (fun n => (hm n).trans (heads_of h11 h12 n))
    exact this
  · have : l = [] := by
      apply List.eq_nil_iff_forall_not_mem.2
      intro n hn
      have h := (best_iff h4 k4 n).1 ((hm n).1 hn)
      simp [bestL] at h
    rw [this]; rfl
  · have := len_of (rising_nodup hp) (S := [ka (i + 1)]) (by simp) (fun n => ((hm n).trans (best_iff h4 h4 n)).trans (by rw [k5]))
    exact this
end Go.Proofs.Ythfinaocdcinlaa
