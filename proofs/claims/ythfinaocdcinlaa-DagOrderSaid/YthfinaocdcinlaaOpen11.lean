/- A law's arguments, opened (chapter 11): what reads as data, reads by our words too. -/
import Derived.Test.YthfinaocdcinlaaCon3
import Derived.ProofKit
import Derived.OpenShut
import Derived.ChangeOld
import Derived.SizedLaws
import Derived.ChangeSlices
import Derived.DataReads
namespace Go.Proofs.Ythfinaocdcinlaa
open Go.RowKit Go.ChangeShapes Go.WideShapes Go.ChangeAt
set_option linter.unusedVariables false
set_option linter.unusedSimpArgs false

theorem own_knob : ownKnob Try.prog.godebug = none := by kernel_rfl
theorem laid_out : laidOutB Try.prog = true := by kernel_rfl

/-- An array of two ints. -/
def Ty.int2 : Ty (Int × Int) where
  sz := 2
  K := fun x cs _ => cs = [.int .i64 x.1, .int .i64 x.2]
  len := fun h => by rw [h]; rfl
  one := fun h u hu => by
    rw [h] at hu
    rcases List.mem_cons.1 hu with rfl | hu
    · rfl
    · rw [List.mem_singleton.1 hu]; rfl
  loc := fun h _ _ => h

theorem RowAt.int2 {A : Option Addr} {l : List (Int × Int)} {w : World} (h : RowAt Ty.int2 A l w) (k : Nat) (x : Int × Int) (hk : l[k]? = some x) :
    ∃ g o, A = some ⟨g, o, none⟩ ∧ w.cell? ⟨g, o + k * 2, none⟩ = some (.int .i64 x.1) ∧ w.cell? ⟨g, o + k * 2 + 1, none⟩ = some (.int .i64 x.2) := by
  obtain ⟨g, o, rfl, hc⟩ := h.openG (by have := (List.getElem?_eq_some_iff.1 hk).1; omega) (by decide)
  obtain ⟨cs, rfl, hcell⟩ := hc k x hk
  exact ⟨g, o, rfl, by simpa [Ty.int2] using hcell 0 _ rfl, by simpa [Ty.int2, Nat.add_assoc] using hcell 1 _ rfl⟩

/-- What reads as data of type t reads as kind d says. -/
def Opens {H : Type} (enc : TypeId × Value → H) (P : Program) (W : World) (t : TypeId) {α : Type} (d : Ty α) : Prop :=
  ∀ (fuel : Nat) (cs : List Value) (x : DataW H × List MemPlace), DataW.trod enc P W 0 (fun _ => true) true fuel t cs = some x → ∃ y, d.K y cs W

section
variable {H : Type} {enc : TypeId × Value → H} {P : Program} {W : World}
theorem mapM_get {α β : Type} {f : α → Option β} : ∀ {l : List α} {ys : List β}, l.mapM f = some ys → ∀ x ∈ l, ∃ y, f x = some y
  | [], _, _, x, hx => by simp at hx
  | a :: l, ys, h, x, hx => by
    rw [List.mapM_cons] at h
    cases ha : f a with
    | none => simp [ha] at h
    | some b =>
      cases hl : l.mapM f with
      | none => simp [ha, hl] at h
      | some bs =>
        rcases List.mem_cons.1 hx with rfl | hx
        · exact ⟨b, ha⟩
        · exact mapM_get hl x hx

theorem Opens.int {t : TypeId} (hu : P.underlying t = some (.int .i64)) : Opens enc P W t Ty.int := by
  intro fuel cs x h
  cases fuel with
  | zero => simp [DataW.trod] at h
  | succ n =>
    unfold DataW.trod at h
    rw [hu] at h
    split at h <;> simp_all
    exact ⟨_, by subst_vars; rfl⟩

theorem list_of {α : Type} (Q : Nat → α → Prop) : ∀ n : Nat, (∀ i, i < n → ∃ y, Q i y) → ∃ l : List α, l.length = n ∧ ∀ (j : Nat) (x : α), l[j]? = some x → Q j x
  | 0, _ => ⟨[], rfl, fun j x h => by simp at h⟩
  | n + 1, h => by
    obtain ⟨l, hl, hq⟩ := list_of Q n (fun i hi => h i (by omega))
    obtain ⟨y, hy⟩ := h n (by omega)
    refine ⟨l ++ [y], by simp [hl], fun j x hj => ?_⟩
    rcases Nat.lt_or_ge j n with hlt | hge
    · rw [List.getElem?_append_left (by omega)] at hj
      exact hq j x hj
    · have hjn : j = n := by
        have := (List.getElem?_eq_some_iff.1 hj).1
        simp at this
        omega
      subst hjn
      rw [List.getElem?_append_right (by omega)] at hj
      obtain rfl : y = x := by simpa [hl] using hj
      exact hy

/-- A slice opens to a row. -/
theorem open_sl {α : Type} {d : Ty α} {t e : TypeId} (hu : P.underlying t = some (.slice e)) (hc : P.cellsOf e = d.sz) (ho : Opens enc P W e d) {a : Option Addr} {len cap : Nat} {x : DataW H} {p : List MemPlace}
    (h : DataW.Trod enc P W 0 (fun _ => true) true t (.slice a len cap) x p) : ∃ l : List α, l.length = len ∧ len ≤ cap ∧ cap ≤ 9223372036854775807 ∧ RowAt d a l W := by
  obtain ⟨fuel, hf⟩ := h
  rcases DataW.trod_slice hu hf with ⟨hcs, _⟩ | ⟨ad, len', cap', elems, rest, n, _, hcs, _, _, hl, hm, hlen, hel, _, _⟩
  · simp [Value.cells] at hcs
    obtain ⟨rfl, rfl, rfl⟩ := hcs
    exact ⟨[], rfl, by omega, by omega, RowAt.nil _ _ _⟩
  · simp [Value.cells] at hcs
    obtain ⟨rfl, rfl, rfl⟩ := hcs
    have each : ∀ i, i < len → ∃ y cs, d.K y cs W ∧ ∀ (j : Nat) (u : Value), cs[j]? = some u → W.cell? (ad.add (i * d.sz + j)) = some u := by
      intro i hi
      have h1 := hel i hi
      rw [List.getElem?_eq_getElem (by omega)] at h1
      obtain ⟨cs, hcs, htr⟩ := Option.bind_eq_some_iff.1 h1
      obtain ⟨y, hy⟩ := ho _ _ _ htr
      refine ⟨y, cs, hy, fun j u hj => ?_⟩
      have hcell := World.cells?_some hcs
      have hjl : j < cs.length := (List.getElem?_eq_some_iff.1 hj).1
      rw [← hc, ← add_add, hcell.2.2 j (by rw [← hcell.2.1]; exact hjl)]
      exact hj
    obtain ⟨l, hll, hlq⟩ := list_of (fun i y => ∃ cs, d.K y cs W ∧ ∀ (j : Nat) (u : Value), cs[j]? = some u → W.cell? (ad.add (i * d.sz + j)) = some u) len each
    refine ⟨l, hll, hl, by simpa [maxLen] using hm, fun j y hj => ?_⟩
    obtain ⟨cs, h1, h2⟩ := hlq j y hj
    exact ⟨ad, cs, rfl, h1, h2⟩

/-- An array of two ints. -/
theorem Opens.int2 {t e : TypeId} (hu : P.underlying t = some (.array 2 e)) (he : P.underlying e = some (.int .i64)) (hc : P.cellsOf t = 2) (hce : P.cellsOf e = 1) : Opens enc P W t Ty.int2 := by
  intro fuel cs x h
  cases fuel with
  | zero => simp [DataW.trod] at h
  | succ n =>
    unfold DataW.trod at h
    rw [hu] at h
    simp only at h
    split at h
    · rename_i hl
      rw [hc] at hl
      obtain ⟨a, b, rfl⟩ : ∃ a b, cs = [a, b] := by
        match cs, hl with
        | [a, b], _ => exact ⟨a, b, rfl⟩
      obtain ⟨ys, hys, _⟩ := Option.map_eq_some_iff.1 h
      obtain ⟨y0, h0⟩ := mapM_get hys 0 (by simp)
      obtain ⟨y1, h1⟩ := mapM_get hys 1 (by simp)
      rw [hce] at h0 h1
      obtain ⟨z0, k0⟩ := Opens.int he _ _ _ h0
      obtain ⟨z1, k1⟩ := Opens.int he _ _ _ h1
      have e0 : a = .int .i64 z0 := by simpa [Ty.int, Ty.sc] using k0
      have e1 : b = .int .i64 z1 := by simpa [Ty.int, Ty.sc] using k1
      exact ⟨(z0, z1), by rw [e0, e1]; rfl⟩
    · cases h
end
end Go.Proofs.Ythfinaocdcinlaa
