/- The walks of the laws on delta.Make. -/
import Derived.Test.YtacpdkhbgommfaaMakeW
import Derived.Test.YtacpdkhbgommfaaLawApplies
namespace Go.Proofs.Ytacpdkhbgommfaa
open Go.RowKit
attribute [local go_sem] eql_sl_nil neq_sl_nil
set_option linter.unusedVariables false
set_option linter.unusedSimpArgs false

def IntCell (w : World) : Prop := ∃ z, w.cell? ⟨0, 0, none⟩ = some (.int .i64 z)
theorem IntCell.ext {w w1 : World} (h : IntCell w) (he : Ext w w1) : IntCell w1 := by
  obtain ⟨z, hz⟩ := h
  exact ⟨z, he.cell hz (fun h => h)⟩
theorem making_val : 0 ≤ Lib.index [48, 49, 50, 51, 52, 53, 54, 55, 56, 57] [50, 51, 52, 53, 54] := by
  have : Lib.index [48, 49, 50, 51, 52, 53, 54, 55, 56, 57] [50, 51, 52, 53, 54] = 2 := by kernel_rfl
  omega

/-- What Make answers, for its callers. -/
theorem make_for {A B : Option Addr} {n m c cb : Nat} {base t : List UInt8} {w : World} (hn : t.length = n) (hnc : n ≤ c) (hc' : c ≤ 9223372036854775807) (hnm : n ≤ 20000) (h : RowAt Ty.u8 A t w)
    (hm : base.length = m) (hcb : m ≤ cb) (hms : m ≤ 100000) (hcb' : cb ≤ 9223372036854775807) (hB : RowAt Ty.u8 B base w) (hnil : B = none → cb = 0) (hx : IntCell w) :
    Calls Try.prog 16 #[.slice B m cb, .slice A n c] w fun e w' => Ext w w' ∧ ∃ A' k c', e = .returned (.tuple #[.slice A' k c', .int .i64 0]) ∧ k ≤ n + 16 ∧ 1 ≤ k ∧ k ≤ c' ∧ c' ≤ 9223372036854775807 ∧
      Hd ((makeF base t).length = k) ∧ Hd (RowAt Ty.u8 A' (makeF base t) w') ∧ Hd (applyF base (makeF base t) = .ok t) ∧ Hd (sizeF (makeF base t) = some n) := by
  refine (make_calls A B n m c cb base t w hn hnc hc' (by omega) h hm hcb (by omega) hcb' hB hnil hx).mono ?_
  rintro e w' ⟨hE, A', k, c', rfl, h1, h2, h3, h4⟩
  have hsz := size_make (b := base) (t := t) (by omega) (by omega)
  refine ⟨hE, A', k, c', rfl, ?_, ?_, h2, h3, ⟨h1⟩, ⟨h4⟩, ⟨apply_make (by omega) (by omega)⟩, ⟨by rw [hsz, hn]⟩⟩
  · rw [← h1, ← hn]; exact make_len (by omega) (by omega)
  · rcases Nat.eq_zero_or_pos k with h0 | h0
    · rw [h0] at h1
      rw [List.eq_nil_of_length_eq_zero h1] at hsz
      have : sizeF [] = none := rfl
      rw [this] at hsz; cases hsz
    · exact h0
theorem apply_for {A B : Option Addr} {n m c cb : Nat} {base d t : List UInt8} {w : World} (hn : d.length = n) (hc : n ≤ c) (hc' : c ≤ 9223372036854775807) (hb : n ≤ 140737488355328) (h : RowAt Ty.u8 A d w)
    (hm : base.length = m) (hcb : m ≤ cb) (hcb' : cb ≤ 9223372036854775807) (hB : RowAt Ty.u8 B base w) (ha : applyF base d = .ok t) {k : Nat} (hk : t.length = k) :
    Calls Try.prog 10 #[.slice B m cb, .slice A n c] w fun e w' => Ext w w' ∧ ∃ A' c', e = .returned (.tuple #[.slice A' k c', .int .i64 0]) ∧ k ≤ c' ∧ c' ≤ 9223372036854775807 ∧ Hd (RowAt Ty.u8 A' t w') := by
  refine (apply_calls A B n m c cb base d w hn hc hc' hb h hm hcb hcb' hB).mono ?_
  rintro e w' ⟨hE, hp⟩
  rw [ha] at hp
  obtain ⟨v, rfl, ho⟩ := hp
  obtain ⟨A', c', rfl, h1, h2⟩ := ho.form' hk
  exact ⟨hE, A', c', rfl, h1, h2, ⟨ho.rowAt bv_one⟩⟩

set_option maxHeartbeats 8000000 in
set_option maxRecDepth 100000 in
/-- making: true -/
theorem making_calls (w : World) (hx : IntCell w) : Calls Try.prog 15 #[] w fun e w' => e = .returned (.bool true) ∧ Ext w w' := by
  have kc := fun (w : World) (C : Array Value) (n c : Nat) => Lib.run_convert_bytes_const (P := Try.prog) w 22 5 C n c Try.underlying22 Try.underlying5
  have kc2 : ∀ (w : World) (C1 C2 : Array Value) (fr : Nat × Nat) (n c : Nat), (convert 22 22 (.slice (some ⟨w.heap.size + 1, 0, none⟩) n c)).run Try.prog ((w.alloc (.cells C1 5 fr)).alloc (.cells C2 5)) = .ok (.slice (some ⟨w.heap.size + 1, 0, none⟩) n c) ((w.alloc (.cells C1 5 fr)).alloc (.cells C2 5 (C2.size, C2.size + 1))) := fun w C1 C2 fr n c => by
    have := kc (w.alloc (.cells C1 5 fr)) C2 n c
    simpa using this
  have HX := Hd.mk hx
  clear hx
  have HSH := Hd.mk (make_short (b := [48, 49, 50, 51, 52, 53, 54, 55, 56, 57]) (t := [50, 51, 52, 53, 54]) (by decide) (by decide) (.inl making_val))
  have hEE : ∀ {w1 w2 w3 : World}, Ext w1 w2 → Ext w2 w3 → Ext w1 w3 := fun h k => h.trans k (fun _ _ h => h)
  have HEE := Hd.mk @hEE
  clear hEE
  go_enter Try.func15, Try.ntmps15
  go_wp2_with (first
    | (go_at_call 10; refine (apply_for (m := 10) (cb := 10) (k := 5) HL1.out h12 h13 (by omega) (HR1.out.ext (Ext.alloc' _ _)) rfl (by omega) (by omega) (row_of_blk bv_one (heap_alloc_new w1 _) [48, 49, 50, 51, 52, 53, 54, 55, 56, 57] (by kernel_rfl)) HA1.out rfl).mono ?_; rintro e w2 ⟨he, A2, c2, rfl, h21, h22, HR2⟩; have hs2 := run_string (P := Try.prog) w2 22 5 9 Try.underlying22 Try.underlying5 Try.underlying9 HR2.out 5 c2 rfl; have HE2 := Hd.mk he; clear he)
    | (go_at_call 16; refine (make_for (A := some ⟨w.heap.size + 1, 0, none⟩) (B := some ⟨w.heap.size, 0, none⟩) (n := 5) (m := 10) (c := 5) (cb := 10) (base := [48, 49, 50, 51, 52, 53, 54, 55, 56, 57]) (t := [50, 51, 52, 53, 54]) rfl (by omega) (by omega) (by omega) (row_of_blk bv_one (heap_alloc2_new w _ _) _ (by kernel_rfl)) rfl (by omega) (by omega) (by omega) (row_of_blk bv_one (heap_alloc2_old w _ _) _ (by kernel_rfl)) (fun h => by cases h) (HX.out.ext (((Chg.refl _ w).alloc _).alloc _))).mono ?_; rintro e w1 ⟨he, A1, k1, c1, rfl, h11, h10, h12, h13, HL1, HR1, HA1, HS1⟩; have hk1 : k1 ≤ 16 := (by have h := HSH.out; rw [HL1.out] at h; exact h); have hkd : decide ((k1 : Int) ≤ 16) = true := (by simp; omega); have HE1 := Hd.mk he; clear he))
  go_ret
  exact ⟨rfl, HEE.out (((Chg.refl _ w).alloc _).alloc _) (HEE.out (HE1.out.alloc _) HE2.out)⟩
end Go.Proofs.Ytacpdkhbgommfaa
