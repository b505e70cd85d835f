/- Plain laws of what Make makes: no program, no memory. -/
import Derived.Test.YtacpdkhbgommfaaMakeF
import Derived.Test.YtacpdkhbgommfaaPlain07
namespace Go.Proofs.Ytacpdkhbgommfaa
set_option linter.unusedVariables false
set_option linter.unusedSimpArgs false

theorem common_take : ∀ (l r : List UInt8), l.take (common l r) = r.take (common l r) ∧ common l r ≤ l.length ∧ common l r ≤ r.length
  | [], r => by simp [common]
  | _ :: _, [] => by simp [common]
  | a :: l, b :: r => by
    have ⟨h1, h2, h3⟩ := common_take l r
    simp only [common]
    split
    · rename_i h
      subst h
      simp only [List.take_succ_cons, List.length_cons]
      exact ⟨by rw [h1], by omega, by omega⟩
    · simp

/-- A piece of the base that stands in the target. -/
def Fits (b t : List UInt8) (at_ : Nat) (q : Nat × Nat) : Prop := q.1 + q.2 ≤ b.length ∧ at_ + q.2 ≤ t.length ∧ (b.drop q.1).take q.2 = (t.drop at_).take q.2
theorem places_mem {b s : List UInt8} {p : Nat} (h : p ∈ places b s) : p + 8 ≤ b.length ∧ (b.drop p).take 8 = s := by
  have h1 := List.mem_of_mem_take h
  have h2 := (List.mem_filter.1 h1).2
  simpa using h2
theorem longStep_fits {b t : List UInt8} {at_ p : Nat} {acc : Nat × Nat} (ht : at_ + 8 ≤ t.length) (hp : p + 8 ≤ b.length ∧ (b.drop p).take 8 = (t.drop at_).take 8) (h : Fits b t at_ acc) : Fits b t at_ (longStep b t at_ acc p) := by
  unfold longStep
  split
  · have ⟨h1, h2, h3⟩ := common_take (b.drop (p + 8)) (t.drop (at_ + 8))
    rw [List.length_drop] at h2 h3
    refine ⟨by simp only; omega, by simp only; omega, ?_⟩
    simp only
    generalize common (b.drop (p + 8)) (t.drop (at_ + 8)) = k at *
    rw [List.take_add, List.take_add, hp.2, List.drop_drop, List.drop_drop, h1]
  · exact h
theorem longest_fits {b t : List UInt8} {at_ : Nat} (h : at_ ≤ t.length) : Fits b t at_ (longestF b t at_) := by
  unfold longestF
  split
  · exact ⟨by simp, by simpa using h, by simp⟩
  · have hmem : ∀ p ∈ places b ((t.drop at_).take 8), p + 8 ≤ b.length ∧ (b.drop p).take 8 = (t.drop at_).take 8 := fun p hp => places_mem hp
    generalize places b ((t.drop at_).take 8) = ps at hmem
    have h0 : Fits b t at_ (0, 0) := ⟨by simp, by simpa using h, by simp⟩
    generalize (0, 0) = acc at h0
    induction ps generalizing acc with
    | nil => exact h0
    | cons p ps ih =>
      exact ih (fun q hq => hmem q (List.mem_cons_of_mem _ hq)) _ (longStep_fits (by omega) (hmem p List.mem_cons_self) h0)

/-- The steps s tell the first n bytes of the target. -/
def Tells (b t s : List UInt8) (n : Nat) : Prop := ∀ rest, steps b (s ++ rest) [] = steps b rest (t.take n)
theorem flush_tells {b t s : List UInt8} {told own at_ : Nat} (ht : t.length ≤ 1048576) (h1 : own ≤ at_) (h2 : at_ ≤ t.length) (h : Tells b t s own) :
    ∃ s', flushF t (enc7 told ++ s) own at_ = enc7 told ++ s' ∧ Tells b t s' at_ := by
  unfold flushF
  split
  · refine ⟨s ++ enc7 (2 * (at_ - own)) ++ (t.drop own).take (at_ - own), by simp [List.append_assoc], fun rest => ?_⟩
    have hl : ((t.drop own).take (at_ - own)).length = at_ - own := by rw [List.length_take, List.length_drop]; omega
    have := steps_own b ((t.drop own).take (at_ - own)) rest (t.take own) (by omega) (by rw [hl, List.length_take]; omega)
    rw [hl] at this
    rw [List.append_assoc, List.append_assoc, h, this]
    congr 1
    rw [← List.take_add, show own + (at_ - own) = at_ by omega]
  · obtain rfl : own = at_ := by omega
    exact ⟨s, rfl, h⟩
theorem makeLoop_tells {b t : List UInt8} (ht : t.length ≤ 1048576) (hb : b.length ≤ 4611686018427387904) (told : Nat) : ∀ (f at_ own : Nat) (s : List UInt8), own ≤ at_ → at_ ≤ t.length → Tells b t s own →
    ∃ s', makeLoop b t f at_ own (enc7 told ++ s) = enc7 told ++ s' ∧ Tells b t s' t.length
  | 0, at_, own, s, h1, h2, h => by simp only [makeLoop]; exact flush_tells ht (by omega) (Nat.le_refl _) h
  | f + 1, at_, own, s, h1, h2, h => by
    simp only [makeLoop]
    split
    · exact flush_tells ht (by omega) (Nat.le_refl _) h
    · split
      · exact makeLoop_tells ht hb told f _ _ s (by omega) (by omega) h
      · rename_i hz
        have ⟨g1, g2, g3⟩ := longest_fits (b := b) h2
        generalize longestF b t at_ = q at *
        obtain ⟨s1, e1, k1⟩ := flush_tells (told := told) ht h1 h2 h
        rw [e1]
        have := makeLoop_tells ht hb told f (at_ + q.2) (at_ + q.2) (s1 ++ enc7 (2 * q.2 + 1) ++ enc7 q.1) (Nat.le_refl _) g2 (fun rest => by
          have := steps_copy b rest (t.take at_) q.2 q.1 (by omega) (by rw [List.length_take]; omega) g1 (by omega)
          rw [List.append_assoc, List.append_assoc, k1, this]
          congr 1
          rw [g3, ← List.take_add])
        simpa [List.append_assoc] using this

theorem index_fits {b t : List UInt8} (h : 0 ≤ Lib.index b t) (ht : 0 < t.length) : (Lib.index b t).toNat + t.length ≤ b.length ∧ (b.drop (Lib.index b t).toNat).take t.length = t := by
  rcases Lib.index_spec b t with ⟨h1, _⟩ | ⟨i, h1, h2, h3, _⟩
  · omega
  · rw [h1, Int.toNat_natCast]
    obtain ⟨r, hr⟩ := List.isPrefixOf_iff_prefix.1 h3
    have hl := congrArg List.length hr
    rw [List.length_append, List.length_drop] at hl
    exact ⟨by omega, by rw [← hr, List.take_left]⟩
/-- Where the base has all of the target, it is found. -/
theorem index_has (a t c : List UInt8) : 0 ≤ Lib.index (a ++ t ++ c) t := by
  rcases Lib.index_spec (a ++ t ++ c) t with ⟨h1, h2⟩ | ⟨i, h1, _⟩
  · have := h2 a.length (by simp)
    unfold Lib.occAt at this
    rw [List.append_assoc, List.drop_left] at this
    rw [List.isPrefixOf_iff_prefix.2 ⟨c, rfl⟩] at this
    cases this
  · omega

/-- Of what is made comes the target. -/
theorem apply_make {b t : List UInt8} (ht : t.length ≤ 1048576) (hb : b.length ≤ 4611686018427387904) : applyF b (makeF b t) = .ok t := by
  unfold makeF
  split
  · rename_i h
    obtain rfl : t = [] := List.eq_nil_of_length_eq_zero h
    have := apply_ok (base := b) (l := []) (out := []) (told := 0) (by omega) (steps_nil _ _) rfl
    simpa using this
  · split
    · rename_i h0 h
      obtain ⟨h1, h2⟩ := index_fits h (by omega)
      have := steps_copy b [] [] t.length (Lib.index b t).toNat (by omega) (by simpa using ht) h1 (by omega)
      rw [List.append_nil, steps_nil, h2] at this
      have := apply_ok (base := b) (told := t.length) ht this (by simp)
      simpa [List.append_assoc] using this
    · rename_i h0 h
      simp only
      have hp : applyF b (enc7 t.length ++ enc7 (2 * t.length) ++ t) = .ok t := by
        have := steps_own b t [] [] (by omega) (by simpa using ht)
        rw [List.append_nil, steps_nil] at this
        have := apply_ok (base := b) (told := t.length) ht this (by simp)
        simpa [List.append_assoc] using this
      have ho : applyF b (makeLoop b t (t.length + 1) 0 0 (enc7 t.length)) = .ok t := by
        obtain ⟨s, e, k⟩ := makeLoop_tells ht hb t.length (t.length + 1) 0 0 [] (Nat.le_refl _) (by omega) (fun rest => by simp)
        rw [List.append_nil] at e
        rw [e]
        have := k []
        rw [List.append_nil, steps_nil, List.take_length] at this
        exact apply_ok ht this rfl
      split
      · exact hp
      · exact ho

theorem enc7_len3 {n : Nat} (h : n < 2097152) : (enc7 n).length ≤ 3 := by
  show (if 128 ≤ n then UInt8.ofNat (n % 128 + 128) :: (if 128 ≤ n / 128 then UInt8.ofNat (n / 128 % 128 + 128) :: encGo 6 (n / 128 / 128) else [UInt8.ofNat (n / 128)]) else [UInt8.ofNat n]).length ≤ 3
  split
  · split
    · rw [encGo_small (by omega)]; simp
    · simp
  · simp
theorem make_len {b t : List UInt8} (ht : t.length ≤ 20000) (hb : b.length ≤ 1000000) : (makeF b t).length ≤ t.length + 16 := by
  have e1 := enc7_len3 (n := t.length) (by omega)
  have e2 := enc7_len3 (n := 2 * t.length) (by omega)
  have e3 := enc7_len3 (n := 2 * t.length + 1) (by omega)
  unfold makeF
  split
  · omega
  · split
    · rename_i h0 h
      obtain ⟨h1, h2⟩ := index_fits h (by omega)
      have e4 := enc7_len3 (n := (Lib.index b t).toNat) (by omega)
      simp only [List.length_append]; omega
    · simp only
      split
      · simp only [List.length_append]; omega
      · simp only [List.length_append] at *; omega
theorem make_short {b t : List UInt8} (ht : t.length ≤ 1000000) (hb : b.length ≤ 1000000) (h : 0 ≤ Lib.index b t ∨ t.length = 0) : (makeF b t).length ≤ 16 := by
  have e1 := enc7_len3 (n := t.length) (by omega)
  have e3 := enc7_len3 (n := 2 * t.length + 1) (by omega)
  unfold makeF
  split
  · omega
  · rename_i h0
    have h' : 0 ≤ Lib.index b t := by rcases h with h | h; exact h; omega
    rw [if_pos h']
    obtain ⟨h1, h2⟩ := index_fits h' (by omega)
    have e4 := enc7_len3 (n := (Lib.index b t).toNat) (by omega)
    simp only [List.length_append]; omega
/-- Its told size is the target's. -/
theorem size_make {b t : List UInt8} (ht : t.length ≤ 1048576) (hb : b.length ≤ 4611686018427387904) : sizeF (makeF b t) = some t.length := by
  unfold makeF
  split
  · have := size_enc7 (told := t.length) [] ht; simpa using this
  · split
    · rw [List.append_assoc]; exact size_enc7 _ ht
    · simp only
      split
      · rw [List.append_assoc]; exact size_enc7 _ ht
      · obtain ⟨s, e, k⟩ := makeLoop_tells ht hb t.length (t.length + 1) 0 0 [] (Nat.le_refl _) (by omega) (fun rest => by simp)
        rw [List.append_nil] at e
        rw [e]; exact size_enc7 _ ht

/-! ### bytes behind a delta -/
theorem numGo_more_bytes {most : Int} (x : List UInt8) : ∀ {k u sh : Nat} {l r : List UInt8} {n : Nat}, numGo most k u sh l = some (n, r) → numGo most k u sh (l ++ x) = some (n, r ++ x)
  | 0, _, _, _, _, _, h => by simp [numGo] at h
  | _ + 1, _, _, [], _, _, h => by simp [numGo] at h
  | k + 1, u, sh, b :: l, r, n, h => by
    simp only [numGo, List.cons_append] at h ⊢
    split at h
    · rename_i hb
      rw [if_pos hb]; exact numGo_more_bytes x h
    · rename_i hb
      rw [if_neg hb]
      split at h
      · cases h
      · rename_i hn
        rw [if_neg hn]
        obtain ⟨rfl, rfl⟩ : _ ∧ _ := by simpa using h
        rfl
theorem num_more_bytes {most : Int} {l r : List UInt8} {n : Nat} (x : List UInt8) (h : num most l = some (n, r)) : num most (l ++ x) = some (n, r ++ x) := numGo_more_bytes x h
theorem applyGo_more (base x : List UInt8) : ∀ (f : Nat) (l out o : List UInt8), l.length < f → applyGo base f l out = .ok o → steps base (l ++ x) out = steps base x o
  | 0, _, _, _, h, _ => absurd h (by omega)
  | f + 1, l, out, o, hf, h => by
    by_cases hl : l = []
    · subst hl
      simp only [applyGo, if_true] at h
      obtain rfl : out = o := by injection h
      rfl
    · have hlx : l ++ x ≠ [] := by simp [hl]
      cases hn : num 4611686018427387904 l with
      | none => rw [applyGo_form hl hn] at h; cases h
      | some p =>
        obtain ⟨n, r⟩ := p
        have hn' := num_more_bytes x hn
        obtain ⟨b, p, hp⟩ := num_drop hn
        have hr : r.length < l.length := by rw [hp]; simp; omega
        unfold steps
        by_cases hc : n / 2 < 1 ∨ 1048576 < n / 2 + out.length
        · rw [applyGo_size hl hn hc] at h; cases h
        · by_cases h2 : n % 2 = 0
          · rw [applyGo_own hl hn hc h2] at h
            rw [applyGo_own hlx hn' hc h2]
            split at h
            · cases h
            · rw [if_neg (by rw [List.length_append]; omega), List.drop_append_of_le_length (by omega), List.take_append_of_le_length (by omega), show applyGo base (x.length + 1) x o = _ from (applyGo_more base x f _ _ o (by rw [List.length_drop]; omega) h).symm]
              exact applyGo_fuel base _ _ _ _ (by simp only [List.length_append, List.length_drop]; omega) (by omega)
          · cases hn2 : num 4611686018427387904 r with
            | none => rw [applyGo_form2 hl hn hc h2 hn2] at h; cases h
            | some q =>
              obtain ⟨o', s⟩ := q
              obtain ⟨b2, p2, hp2⟩ := num_drop hn2
              have hs : s.length < r.length := by rw [hp2]; simp; omega
              rw [applyGo_copy hl hn hc h2 hn2] at h
              rw [applyGo_copy hlx hn' hc h2 (num_more_bytes x hn2)]
              split at h
              · cases h
              · rename_i hb
                rw [if_neg hb, show applyGo base (x.length + 1) x o = _ from (applyGo_more base x f _ _ o (by omega) h).symm]
                exact applyGo_fuel base _ _ _ _ (by simp only [List.length_append]; omega) (by omega)
theorem steps_grow (base : List UInt8) : ∀ (f : Nat) (l out o : List UInt8), l ≠ [] → applyGo base f l out = .ok o → out.length < o.length
  | 0, _, _, _, _, h => by simp [applyGo] at h
  | f + 1, l, out, o, hl, h => by
    have key : ∀ (r out' : List UInt8), out.length < out'.length → applyGo base f r out' = .ok o → out.length < o.length := fun r out' h1 h2 => by
      by_cases hr : r = []
      · subst hr
        cases f with
        | zero => simp [applyGo] at h2
        | succ f =>
          simp only [applyGo, if_true] at h2
          obtain rfl : out' = o := by injection h2
          exact h1
      · have := steps_grow base f r out' o hr h2; omega
    cases hn : num 4611686018427387904 l with
    | none => rw [applyGo_form hl hn] at h; cases h
    | some p =>
      obtain ⟨n, r⟩ := p
      by_cases hc : n / 2 < 1 ∨ 1048576 < n / 2 + out.length
      · rw [applyGo_size hl hn hc] at h; cases h
      · by_cases h2 : n % 2 = 0
        · rw [applyGo_own hl hn hc h2] at h
          split at h
          · cases h
          · exact key _ _ (by rw [List.length_append, List.length_take]; omega) h
        · cases hn2 : num 4611686018427387904 r with
          | none => rw [applyGo_form2 hl hn hc h2 hn2] at h; cases h
          | some q =>
            obtain ⟨o', s⟩ := q
            rw [applyGo_copy hl hn hc h2 hn2] at h
            split at h
            · cases h
            · exact key _ _ (by rw [List.length_append, List.length_take, List.length_drop]; omega) h
/-- A delta that makes o, cut off: it makes something else, or nothing. -/
theorem apply_cut {base d o : List UInt8} {k : Nat} (hk : k < d.length) (h : applyF base d = .ok o) : applyF base (d.take k) ≠ .ok o := by
  intro hc
  unfold applyF at hc
  split at hc
  · cases hc
  · rename_i told r hn
    split at hc
    · cases hc
    · rename_i out hg
      split at hc
      · rename_i hl
        obtain rfl : out = o := by injection hc
        have hn' := num_more_bytes (d.drop k) hn
        rw [List.take_append_drop] at hn'
        have hg' := applyGo_more base (d.drop k) _ _ _ _ (Nat.lt_succ_self _) hg
        unfold applyF at h
        rw [hn'] at h
        simp only at h
        rw [show applyGo base ((r ++ d.drop k).length + 1) (r ++ d.drop k) [] = steps base (d.drop k) out from hg'] at h
        split at h
        · cases h
        · rename_i o2 hg2
          have := steps_grow base _ _ _ _ (by intro e; have := congrArg List.length e; rw [List.length_drop, List.length_nil] at this; omega) hg2
          split at h
          · injection h with h; subst h; omega
          · cases h
      · cases hc
/-- .. with a step more: refused. -/
theorem apply_over {base d o : List UInt8} (c : UInt8) (h : applyF base d = .ok o) (ho : o.length < 1048576) : applyF base (d ++ [2, c]) = .error 20 := by
  unfold applyF at h
  split at h
  · cases h
  · rename_i told r hn
    split at h
    · cases h
    · rename_i out hg
      split at h
      · rename_i hl
        obtain rfl : out = o := by injection h
        have hn' := num_more_bytes [2, c] hn
        have hg' := applyGo_more base [2, c] _ _ _ _ (Nat.lt_succ_self _) hg
        have h2 : steps base [2, c] out = .ok (out ++ [c]) := by
          have := steps_own base [c] [] out (by simp) (by simp; omega)
          rw [steps_nil] at this
          exact this
        unfold applyF
        rw [hn']
        simp only
        rw [show applyGo base ((r ++ [2, c]).length + 1) (r ++ [2, c]) [] = steps base [2, c] out from hg', h2]
        simp only
        rw [if_neg (by rw [List.length_append, hl]; simp)]
      · cases h
end Go.Proofs.Ytacpdkhbgommfaa
