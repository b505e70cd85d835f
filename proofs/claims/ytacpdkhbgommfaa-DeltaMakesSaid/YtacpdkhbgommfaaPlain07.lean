/- Plain laws of numbers' bytes and of deltas: no program, no memory. -/
import Derived.Test.YtacpdkhbgommfaaNum
import Derived.Test.YtacpdkhbgommfaaDelta
namespace Go.Proofs.Ytacpdkhbgommfaa
set_option linter.unusedVariables false
set_option linter.unusedSimpArgs false

theorem numGo_enc {most : Int} : ∀ (k j u sh m : Nat) (r : List UInt8), k ≤ j → m < 2 ^ (7 * (k + 1)) → u + m * 2 ^ sh ≤ 4611686018427387904 → ((u + m * 2 ^ sh : Nat) : Int) ≤ most → (0 < m ∨ sh = 0) →
    numGo most (j + 1) u sh (encGo k m ++ r) = some (u + m * 2 ^ sh, r)
  | k, j, u, sh, m, r, hj, hm, h1, h2, h3 => by
    by_cases hlt : m < 128
    · rw [encGo_small hlt]
      have hb : (UInt8.ofNat m).toNat = m := by simp; omega
      rw [List.singleton_append, numGo_done (by rw [hb]; omega) (by rw [hb, Nat.mod_eq_of_lt hlt]; omega), hb, Nat.mod_eq_of_lt hlt]
    · cases k with
      | zero => have : (2:Nat) ^ (7 * (0 + 1)) = 128 := rfl; omega
      | succ k =>
        obtain ⟨j, rfl⟩ : ∃ i, j = i + 1 := ⟨j - 1, by omega⟩
        simp only [encGo]
        rw [if_pos (by omega), List.cons_append]
        have hb : (UInt8.ofNat (m % 128 + 128)).toNat = m % 128 + 128 := by simp; omega
        rw [numGo_more (by rw [hb]; omega), hb]
        have hlow : (m % 128 + 128) % 128 = m % 128 := by omega
        rw [hlow]
        have hp : 2 ^ (sh + 7) = 128 * 2 ^ sh := by rw [Nat.pow_add]; omega
        have hsum : u + m % 128 * 2 ^ sh + m / 128 * 2 ^ (sh + 7) = u + m * 2 ^ sh := by
          rw [hp, ← Nat.mul_assoc, Nat.add_assoc, ← Nat.add_mul]
          congr 2
          omega
        have hp2 : (2:Nat) ^ (7 * (k + 1 + 1)) = 128 * 2 ^ (7 * (k + 1)) := by rw [show 7 * (k + 1 + 1) = 7 * (k + 1) + 7 by omega, Nat.pow_add]; omega
        rw [numGo_enc k j _ _ _ r (by omega) (by omega) (by rw [hsum]; exact h1) (by rw [hsum]; exact h2) (.inl (by omega)), hsum]

/-- What is made is read back. -/
theorem num_enc7 (most : Int) (n : Nat) (r : List UInt8) (h1 : n ≤ 4611686018427387904) (h2 : (n : Int) ≤ most) : num most (enc7 n ++ r) = some (n, r) := by
  have := numGo_enc (most := most) 8 8 0 0 n r (Nat.le_refl _) (Nat.lt_of_le_of_lt h1 (by decide)) (by simpa using h1) (by simpa using h2) (.inr rfl)
  simpa [num, enc7] using this
theorem enc7_ne (n : Nat) (r : List UInt8) : enc7 n ++ r ≠ [] := by
  intro h
  have := (enc7_len n).2
  have h2 := congrArg List.length h
  rw [List.length_append, List.length_nil] at h2
  omega

/-- Enough rounds are enough. -/
theorem applyGo_fuel (base : List UInt8) : ∀ (f f' : Nat) (l out : List UInt8), l.length < f → l.length < f' → applyGo base f l out = applyGo base f' l out
  | 0, _, _, _, h, _ => absurd h (by omega)
  | _, 0, _, _, _, h => absurd h (by omega)
  | f + 1, f' + 1, l, out, h, h' => by
    by_cases hl : l = []
    · subst hl; simp [applyGo]
    · cases hn : num 4611686018427387904 l with
      | none => rw [applyGo_form hl hn, applyGo_form hl hn]
      | some p =>
        obtain ⟨n, r⟩ := p
        obtain ⟨b, p, hp⟩ := num_drop hn
        have hr : r.length < l.length := by rw [hp]; simp; omega
        by_cases hc : n / 2 < 1 ∨ 1048576 < n / 2 + out.length
        · rw [applyGo_size hl hn hc, applyGo_size hl hn hc]
        · by_cases h2 : n % 2 = 0
          · rw [applyGo_own hl hn hc h2, applyGo_own hl hn hc h2]
            split
            · rfl
            · exact applyGo_fuel base f f' _ _ (by rw [List.length_drop]; omega) (by rw [List.length_drop]; omega)
          · cases hn2 : num 4611686018427387904 r with
            | none => rw [applyGo_form2 hl hn hc h2 hn2, applyGo_form2 hl hn hc h2 hn2]
            | some q =>
              obtain ⟨o, s⟩ := q
              obtain ⟨b2, p2, hp2⟩ := num_drop hn2
              have hs : s.length < r.length := by rw [hp2]; simp; omega
              rw [applyGo_copy hl hn hc h2 hn2, applyGo_copy hl hn hc h2 hn2]
              split
              · rfl
              · exact applyGo_fuel base f f' _ _ (by omega) (by omega)

/-- What the steps l make, behind out. -/
def steps (base l out : List UInt8) : Except Nat (List UInt8) := applyGo base (l.length + 1) l out
theorem steps_nil (base out : List UInt8) : steps base [] out = .ok out := by simp [steps, applyGo]
theorem steps_own (base own rest out : List UInt8) (h1 : 1 ≤ own.length) (h2 : own.length + out.length ≤ 1048576) :
    steps base (enc7 (2 * own.length) ++ (own ++ rest)) out = steps base rest (out ++ own) := by
  have hn := num_enc7 4611686018427387904 (2 * own.length) (own ++ rest) (by omega) (by omega)
  unfold steps
  rw [applyGo_own (enc7_ne _ _) hn (by omega) (by omega), show 2 * own.length / 2 = own.length by omega, if_neg (by simp), List.drop_left, List.take_left]
  exact applyGo_fuel base _ _ _ _ (by simp; omega) (by omega)
theorem steps_copy (base rest out : List UInt8) (n o : Nat) (h1 : 1 ≤ n) (h2 : n + out.length ≤ 1048576) (h3 : o + n ≤ base.length) (h4 : o ≤ 4611686018427387904) :
    steps base (enc7 (2 * n + 1) ++ (enc7 o ++ rest)) out = steps base rest (out ++ (base.drop o).take n) := by
  have hn := num_enc7 4611686018427387904 (2 * n + 1) (enc7 o ++ rest) (by omega) (by omega)
  have hn2 := num_enc7 4611686018427387904 o rest (by omega) (by omega)
  unfold steps
  rw [applyGo_copy (enc7_ne _ _) hn (by omega) (by omega) hn2, show (2 * n + 1) / 2 = n by omega, if_neg (by omega)]
  have hl := (enc7_len o).2
  exact applyGo_fuel base _ _ _ _ (by simp only [List.length_append]; omega) (by omega)
theorem steps_over (base rest out : List UInt8) (n o : Nat) (h1 : 1 ≤ n) (h2 : n + out.length ≤ 1048576) (h3 : base.length < o + n) (h4 : o ≤ 4611686018427387904) :
    steps base (enc7 (2 * n + 1) ++ (enc7 o ++ rest)) out = .error 70 := by
  have hn := num_enc7 4611686018427387904 (2 * n + 1) (enc7 o ++ rest) (by omega) (by omega)
  have hn2 := num_enc7 4611686018427387904 o rest (by omega) (by omega)
  unfold steps
  rw [applyGo_copy (enc7_ne _ _) hn (by omega) (by omega) hn2, show (2 * n + 1) / 2 = n by omega, if_pos (by omega)]
theorem apply_ok {base l out : List UInt8} {told : Nat} (h : told ≤ 1048576) (hs : steps base l [] = .ok out) (hl : out.length = told) : applyF base (enc7 told ++ l) = .ok out := by
  have hn := num_enc7 1048576 told l (by omega) (by omega)
  unfold steps at hs
  simp only [applyF, hn, hs, if_pos hl]
theorem apply_ne {base l out : List UInt8} {told : Nat} (h : told ≤ 1048576) (hs : steps base l [] = .ok out) (hl : out.length ≠ told) : applyF base (enc7 told ++ l) = .error 20 := by
  have hn := num_enc7 1048576 told l (by omega) (by omega)
  unfold steps at hs
  simp only [applyF, hn, hs, if_neg hl]
theorem apply_err {base l : List UInt8} {told e : Nat} (h : told ≤ 1048576) (hs : steps base l [] = .error e) : applyF base (enc7 told ++ l) = .error e := by
  have hn := num_enc7 1048576 told l (by omega) (by omega)
  unfold steps at hs
  simp only [applyF, hn, hs]
theorem size_enc7 {told : Nat} (l : List UInt8) (h : told ≤ 1048576) : sizeF (enc7 told ++ l) = some told := by
  have hn := num_enc7 1048576 told l (by omega) (by omega)
  simp only [sizeF, hn]; rfl
end Go.Proofs.Ytacpdkhbgommfaa
