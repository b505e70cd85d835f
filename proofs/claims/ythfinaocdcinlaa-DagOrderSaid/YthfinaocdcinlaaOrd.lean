/- The order of IDs, and by depth: plain. -/
import Derived.Test.YthfinaocdcinlaaDag6
namespace Go.Proofs.Ythfinaocdcinlaa
open Go.RowKit
set_option linter.unusedVariables false

theorem cb_refl : ∀ a : List UInt8, Lib.compareBytes a a = 0
  | [] => rfl
  | a :: r => by
    simp only [Lib.compareBytes]
    rw [if_neg (by simp), if_neg (by simp)]
    exact cb_refl r
theorem cb_swap : ∀ a b : List UInt8, Lib.compareBytes a b = - Lib.compareBytes b a
  | [], [] => rfl
  | [], _ :: _ => rfl
  | _ :: _, [] => rfl
  | a :: r, b :: s => by
    simp only [Lib.compareBytes]
    by_cases h1 : a < b
    · rw [if_pos h1, if_neg (by intro h2; exact absurd (UInt8.lt_trans h1 h2) (by simp)), if_pos h1]
    · by_cases h2 : b < a
      · rw [if_neg h1, if_pos h2, if_pos h2]; rfl
      · rw [if_neg h1, if_neg h2, if_neg h2, if_neg h1]
        exact cb_swap r s
theorem u8_tri {a b : UInt8} (h1 : ¬ a < b) (h2 : ¬ b < a) : a = b := by
  apply UInt8.toNat_inj.1
  have h1 : ¬ a.toNat < b.toNat := h1
  have h2 : ¬ b.toNat < a.toNat := h2
  omega
theorem cb_eq : ∀ {a b : List UInt8}, Lib.compareBytes a b = 0 → a = b
  | [], [], _ => rfl
  | [], _ :: _, h => by simp [Lib.compareBytes] at h
  | _ :: _, [], h => by simp [Lib.compareBytes] at h
  | a :: r, b :: s, h => by
    simp only [Lib.compareBytes] at h
    by_cases h1 : a < b
    · rw [if_pos h1] at h; simp at h
    · by_cases h2 : b < a
      · rw [if_neg h1, if_pos h2] at h; simp at h
      · rw [if_neg h1, if_neg h2] at h
        rw [u8_tri h1 h2, cb_eq h]
theorem cb_trans : ∀ {a b c : List UInt8}, Lib.compareBytes a b < 0 → Lib.compareBytes b c < 0 → Lib.compareBytes a c < 0
  | [], [], _, h, _ => by simp [Lib.compareBytes] at h
  | [], _ :: _, [], _, h => by simp [Lib.compareBytes] at h
  | [], _ :: _, _ :: _, _, _ => by simp [Lib.compareBytes]
  | _ :: _, [], _, h, _ => by simp [Lib.compareBytes] at h
  | _ :: _, _ :: _, [], _, h => by simp [Lib.compareBytes] at h
  | a :: r, b :: s, c :: t, h, k => by
    simp only [Lib.compareBytes] at h k ⊢
    by_cases h1 : a < b
    · by_cases k1 : b < c
      · rw [if_pos (UInt8.lt_trans h1 k1)]; decide
      · by_cases k2 : c < b
        · rw [if_neg k1, if_pos k2] at k; simp at k
        · rw [← u8_tri k1 k2, if_pos h1]; decide
    · by_cases h2 : b < a
      · rw [if_neg h1, if_pos h2] at h; simp at h
      · rw [if_neg h1, if_neg h2] at h
        obtain rfl := u8_tri h1 h2
        by_cases k1 : a < c
        · rw [if_pos k1]; decide
        · by_cases k2 : c < a
          · rw [if_neg k1, if_pos k2] at k; simp at k
          · rw [if_neg k1, if_neg k2] at k ⊢
            exact cb_trans h k

theorem cmpI_refl (x : Id) : cmpI x x = 0 := cb_refl _
theorem cmpI_swap (x y : Id) : cmpI x y = - cmpI y x := cb_swap _ _
theorem cmpI_eq {x y : Id} (h : cmpI x y = 0) : x = y := Subtype.ext (cb_eq h)
theorem cmpI_trans {x y z : Id} (h : cmpI x y < 0) (k : cmpI y z < 0) : cmpI x z < 0 := cb_trans h k

theorem cmpD_iff (D : Nodes) (x y : Id) : cmpD D x y < 0 ↔ dep D x < dep D y ∨ (dep D x = dep D y ∧ cmpI x y < 0) := by
  unfold cmpD
  rcases Nat.lt_trichotomy (dep D x) (dep D y) with h | h | h
  · have e : icmpF (dep D x) (dep D y) = -1 := by unfold icmpF; rw [if_pos (by omega)]
    rw [e]
    simp [iorF, h]
  · have e : icmpF (dep D x) (dep D y) = 0 := by unfold icmpF; rw [if_neg (by omega), if_neg (by omega)]
    rw [e, h]
    simp [iorF]
  · have e : icmpF (dep D x) (dep D y) = 1 := by unfold icmpF; rw [if_neg (by omega), if_pos (by omega)]
    rw [e]
    simp [iorF]; omega
theorem cmpD_irrefl (D : Nodes) (x : Id) : ¬ cmpD D x x < 0 := by
  rw [cmpD_iff, cmpI_refl]; omega
theorem cmpD_trans {D : Nodes} {x y z : Id} (h : cmpD D x y < 0) (k : cmpD D y z < 0) : cmpD D x z < 0 := by
  rw [cmpD_iff] at *
  rcases h with h | ⟨h, h'⟩ <;> rcases k with k | ⟨k, k'⟩
  · left; omega
  · left; omega
  · left; omega
  · exact .inr ⟨by omega, cmpI_trans h' k'⟩
theorem cmpD_tot {D : Nodes} {x y : Id} (h : ¬ cmpD D x y < 0) (k : ¬ cmpD D y x < 0) : x = y := by
  rw [cmpD_iff] at *
  have h1 : dep D x = dep D y := by omega
  have h2 := cmpI_swap x y
  exact cmpI_eq (by omega)
end Go.Proofs.Ythfinaocdcinlaa
