/- (*maker).longest: the map of places. -/
import Derived.Test.YtacpdkhbgommfaaMakeF
import Derived.Test.YtacpdkhbgommfaaMap
namespace Go.Proofs.Ytacpdkhbgommfaa
open Go.RowKit
attribute [local go_sem] eql_sl_nil neq_sl_nil
set_option linter.unusedVariables false
set_option linter.unusedSimpArgs false

abbrev nilS : Value := .slice none 0 0
/-- Block mb is a map that holds, at each piece, its places in the base; the rows lie from block base on. -/
def PlacesAt (base mb : Nat) (P : List UInt8 → List Int) (w : World) : Prop :=
  ∃ l : List (List UInt8 × Value), MapAt strK mb l w ∧ (∀ s, OwnS (Value.int .i64) 3 base ((look l s).getD nilS) (P s) w) ∧
    ∀ s s', s ≠ s' → ((look l s).getD nilS).ownBlock = none ∨ ((look l s).getD nilS).ownBlock ≠ ((look l s').getD nilS).ownBlock

theorem keysS : KeyT Try.prog 9 strK := strKeys Try.underlying9
theorem zeroSl (w : World) : (zeroValue 55).run Try.prog w = .ok nilS w := by kernel_rfl
theorem OwnS.neMap {α : Type} {enc : α → Value} {e base : Nat} {v : Value} {l : List α} {w : World} (h : OwnS enc e base v l w) {g : Nat} {es : Array MapEntry} {c : Nat} (hg : w.heap[g]? = some (.map es c)) : ∀ k, v.ownBlock = some k → k ≠ g := by
  rcases h.2 with ⟨rfl, _⟩ | ⟨g', cap, cur, rfl, _, hh, _⟩
  · intro k hk; simp [Value.ownBlock] at hk
  · rintro k hk rfl
    obtain rfl : g' = k := by simpa [Value.ownBlock] using hk
    rw [hh] at hg
    cases hg
theorem PlacesAt.look {base mb : Nat} {P : List UInt8 → List Int} {w : World} (h : PlacesAt base mb P w) (s : List UInt8) :
    ∃ A c, (Instr.lookup 51 (.map (some mb)) (.string ⟨s.toArray⟩) false).run Try.prog w = .ok (.slice A (P s).length c) w ∧ RowAt Ty.int A (P s) w := by
  obtain ⟨l, hm, hr, _⟩ := h
  have ho := hr s
  have hrun := run_lookup keysS Try.underlying51 (zeroSl w) hm s
  obtain ⟨A, c, e, h1, h2⟩ := ho.form
  rw [e] at hrun ho
  exact ⟨A, c, hrun, ho.rowAt (fun _ => rfl)⟩
theorem PlacesAt.ext {base mb : Nat} {P : List UInt8 → List Int} {w w1 : World} (h : PlacesAt base mb P w) (hc : Ext w w1) : PlacesAt base mb P w1 := by
  obtain ⟨l, hm, hr, hd⟩ := h
  exact ⟨l, hm.ext hc, fun s => (hr s).ext hc, hd⟩
theorem PlacesAt.far {base mb g : Nat} {P : List UInt8 → List Int} {w w1 : World} (h : PlacesAt base mb P w) {cs : Array Value} {t : TypeId} {fr : Nat × Nat} (hg : w.heap[g]? = some (.cells cs t fr)) (ht : 3 ≠ t) (hc : Chg (· = g) w w1) : PlacesAt base mb P w1 := by
  obtain ⟨l, hm, hr, hd⟩ := h
  exact ⟨l, hm.chg hc (hm.ne hg), fun s => (hr s).chg hc ((hr s).ne hg ht), hd⟩
theorem PlacesAt.made (w : World) (base : Nat) : PlacesAt base w.heap.size (fun _ => []) (w.alloc (.map #[] 0)) :=
  ⟨[], MapAt.made w, fun s => OwnS.nil _ _ _ _, fun s s' h => .inl rfl⟩
/-- The row at a piece, and the way back behind an append to it. -/
theorem PlacesAt.at_ {base mb : Nat} {P : List UInt8 → List Int} {w : World} (h : PlacesAt base mb P w) (s : List UInt8) :
    ∃ v, (Instr.lookup 51 (.map (some mb)) (.string ⟨s.toArray⟩) false).run Try.prog w = .ok v w ∧ OwnS (Value.int .i64) 3 base v (P s) w ∧
      ∀ (w1 : World) (v' : Value) (x : List Int), Chg (fun k => some k = v.ownBlock) w w1 → OwnS (Value.int .i64) 3 base v' x w1 → (v'.ownBlock = v.ownBlock ∨ ∃ g, v'.ownBlock = some g ∧ w.heap.size ≤ g) →
        ∃ w2, (Instr.mapUpdate 51 (.map (some mb)) (.string ⟨s.toArray⟩) v').run Try.prog w1 = .ok () w2 ∧ PlacesAt base mb (fun z => if z = s then x else P z) w2 ∧ Chg (· = mb) w1 w2 ∧ w2.heap.size = w1.heap.size := by
  obtain ⟨l, hm, hr, hd⟩ := h
  obtain ⟨_, es, clock, hmb, _⟩ := id hm
  refine ⟨_, run_lookup keysS Try.underlying51 (zeroSl w) hm s, hr s, fun w1 v' x hc ho hat => ?_⟩
  have hmv : ¬ (some mb = ((Go.Proofs.Ytacpdkhbgommfaa.look l s).getD nilS).ownBlock) := fun e => (hr s).neMap hmb mb e.symm rfl
  have hm1 := hm.chg hc hmv
  obtain ⟨_, es1, clock1, hmb1, _⟩ := id hm1
  obtain ⟨w2, hrun, h2, h3, h4⟩ := run_mapUpdate keysS Try.underlying51 hm1 s v'
  have hlook : ∀ z, (Go.Proofs.Ytacpdkhbgommfaa.look (putL l s v') z).getD nilS = if z = s then v' else (Go.Proofs.Ytacpdkhbgommfaa.look l z).getD nilS := fun z => by
    rw [look_put]; split <;> rfl
  have old : ∀ z, z ≠ s → OwnS (Value.int .i64) 3 base ((Go.Proofs.Ytacpdkhbgommfaa.look l z).getD nilS) (P z) w1 := fun z hz => (hr z).chg hc (fun k hk e => by
    rcases hd z s hz with h | h
    · rw [h] at hk; cases hk
    · exact h (hk.trans e))
  have far : ∀ z, z ≠ s → ((Go.Proofs.Ytacpdkhbgommfaa.look l z).getD nilS).ownBlock = none ∨ ((Go.Proofs.Ytacpdkhbgommfaa.look l z).getD nilS).ownBlock ≠ v'.ownBlock := fun z hz => by
    rcases hat with e | ⟨g, e, hg⟩
    · rw [e]; exact hd z s hz
    · cases hk : ((Go.Proofs.Ytacpdkhbgommfaa.look l z).getD nilS).ownBlock with
      | none => exact .inl rfl
      | some k =>
        refine .inr (fun e2 => ?_)
        have := ((hr z).lt k hk).2
        rw [e] at e2
        injection e2 with e2
        omega
  refine ⟨w2, hrun, ⟨_, h2, fun z => ?_, fun z z' hz => ?_⟩, h3, h4⟩
  · rw [hlook]
    simp only
    split
    · exact ho.chg h3 (fun k hk => ho.neMap hmb1 k hk)
    · rename_i hz
      exact (old z hz).chg h3 (fun k hk => (old z hz).neMap hmb1 k hk)
  · rw [hlook, hlook]
    split <;> split
    · rename_i h1 h2; exact absurd (h1.trans h2.symm) hz
    · rename_i h1 h2
      rcases far z' h2 with h | h
      · cases hv : v'.ownBlock with
        | none => exact .inl rfl
        | some k => exact .inr (by rw [h]; simp)
      · cases hv : v'.ownBlock with
        | none => exact .inl rfl
        | some k => exact .inr (by rw [← hv]; exact fun e => h e.symm)
    · rename_i h1 h2; exact far z h1
    · exact hd z z' hz

end Go.Proofs.Ytacpdkhbgommfaa
