/- The walk of the law DeltaApplies. -/
import Derived.Test.YtacpdkhbgommfaaRef07
namespace Go.Proofs.Ytacpdkhbgommfaa
open Go.RowKit
attribute [local go_sem] eql_sl_nil neq_sl_nil
set_option linter.unusedVariables false
set_option linter.unusedSimpArgs false

theorem applying_val : applyF [97, 98, 99] [4, 4, 120, 121, 5, 1] = .ok [120, 121, 98, 99] := by kernel_rfl

set_option maxHeartbeats 8000000 in
set_option maxRecDepth 100000 in
/-- applying: true -/
theorem applying_calls (w : World) : Calls Try.prog 9 #[] w fun e w' => e = .returned (.bool true) ∧ Ext w w' := by
  have kc := fun (w : World) (C : Array Value) (n c : Nat) => Lib.run_convert_bytes_const (P := Try.prog) w 22 5 C n c Try.underlying22 Try.underlying5
  go_enter Try.func9, Try.ntmps9
  go_wp2_with (go_at_call 10; refine (apply_calls _ _ 6 3 6 3 [97, 98, 99] [4, 4, 120, 121, 5, 1] _ rfl (by omega) (by omega) (by omega) (row_of_blk bv_one (heap_alloc2_new w _ _) _ (by kernel_rfl)) rfl (by omega) (by omega) (row_of_blk bv_one (heap_alloc2_old w _ _) _ (by kernel_rfl))).mono ?_; rintro e w1 ⟨he, hp⟩; rw [applying_val] at hp; obtain ⟨v, rfl, ho⟩ := hp; obtain ⟨A5, c5, rfl, h51, h52⟩ := ho.form' (n := 4) rfl; have hw := run_string (P := Try.prog) w1 22 5 9 Try.underlying22 Try.underlying5 Try.underlying9 (ho.rowAt bv_one) 4 c5 rfl; clear ho; have HE := Hd.mk he; clear he)
  go_ret
  exact ⟨rfl, (((Chg.refl _ w).alloc _).alloc _).trans HE.out (fun _ _ h => h)⟩

set_option maxHeartbeats 8000000 in
set_option maxRecDepth 100000 in
theorem applies_calls (A B : Option Addr) (n m c cb : Nat) (base d : List UInt8) (w : World) (hn : d.length = n) (hc : n ≤ c) (hc' : c ≤ 9223372036854775807) (h : RowAt Ty.u8 A d w)
    (hm : base.length = m) (hcb : m ≤ cb) (hcb' : cb ≤ 9223372036854775807) (hB : RowAt Ty.u8 B base w) :
    Calls Try.prog 3 #[.slice B m cb, .slice A n c] w fun e w' => e = .returned (.bool true) ∧ Ext w w' := by
  have HA := Hd.mk h
  have HN := Hd.mk hn
  have HB := Hd.mk hB
  have HM := Hd.mk hm
  clear h hn hB hm
  by_cases hl : 20000 < n
  · go_enter Try.func3, Try.ntmps3
    go_wp2_with (go_at_call 9; refine (applying_calls _).mono ?_; rintro e w1 ⟨rfl, he⟩; have HE1 := Hd.mk he; clear he)
    go_ret
    exact ⟨rfl, HE1.out⟩
  · have hl' : n ≤ 20000 := by omega
    have hX : ∀ {w1 w2 : World}, Ext w w1 → Ext w1 w2 → Ext w w2 := fun h k => h.trans k (fun _ _ h => h)
    have HX := Hd.mk @hX
    clear hX
    cases hap : applyF base d with
    | error er =>
      have HAP := Hd.mk hap
      clear hap
      go_enter Try.func3, Try.ntmps3
      go_wp2_with (first
        | (go_at_call 9; refine (applying_calls _).mono ?_; rintro e w1 ⟨rfl, he⟩; have HE1 := Hd.mk he; clear he)
        | (go_at_call 10; refine (apply_calls A B n m c cb base d _ HN.out hc hc' (by omega) (HA.out.ext HE1.out) HM.out hcb hcb' (HB.out.ext HE1.out)).mono ?_; rintro e w2 ⟨he, hp⟩; have hx := HX.out HE1.out he; rw [HAP.out] at hp; obtain rfl := hp; have HX2 := Hd.mk hx; have HE2 := Hd.mk he; clear hx he)
        | (go_at_call 11; refine (refapply_calls A B n m c cb base d _ HN.out hc hc' (by omega) (HA.out.ext HX2.out) HM.out hcb hcb' (HB.out.ext HX2.out)).mono ?_; rintro e w3 ⟨he, hp⟩; have hx := HX.out HX2.out he; rw [HAP.out] at hp; obtain rfl := hp; have HX3 := Hd.mk hx; have HE3 := Hd.mk he; clear hx he)
        | (go_at_call 12; refine (same_true none none 0 0 0 0 [] _ rfl rfl (by omega) (RowAt.nil _ _ _) (RowAt.nil _ _ _)).mono ?_; rintro e w4 ⟨rfl, hd⟩; have HD4 := Hd.mk hd; clear hd))
      go_ret
      exact ⟨rfl, HX.out HX3.out HD4.out.ext⟩
    | ok out =>
      have HAP := Hd.mk hap
      clear hap
      go_enter Try.func3, Try.ntmps3
      go_wp2_with (first
        | (go_at_call 9; refine (applying_calls _).mono ?_; rintro e w1 ⟨rfl, he⟩; have HE1 := Hd.mk he; clear he)
        | (go_at_call 10; refine (apply_calls A B n m c cb base d _ HN.out hc hc' (by omega) (HA.out.ext HE1.out) HM.out hcb hcb' (HB.out.ext HE1.out)).mono ?_; rintro e w2 ⟨he, hp⟩; have hx := HX.out HE1.out he; rw [HAP.out] at hp; obtain ⟨v2, rfl, ho⟩ := hp; obtain ⟨A2, c2, rfl, h21, h22⟩ := ho.form; have hr := ho.rowAt bv_one; clear ho; have HX2 := Hd.mk hx; have HE2 := Hd.mk he; have HR2 := Hd.mk hr; clear hx he hr)
        | (go_at_call 11; refine (refapply_calls A B n m c cb base d _ HN.out hc hc' (by omega) (HA.out.ext HX2.out) HM.out hcb hcb' (HB.out.ext HX2.out)).mono ?_; rintro e w3 ⟨he, hp⟩; have hx := HX.out HX2.out he; have hr2 := HR2.out.ext he; rw [HAP.out] at hp; obtain ⟨v3, rfl, ho⟩ := hp; obtain ⟨A3, c3, rfl, h31, h32⟩ := ho.form; have hr := ho.rowAt bv_one; clear ho; have HX3 := Hd.mk hx; have HE3 := Hd.mk he; have HR3 := Hd.mk hr; have HR32 := Hd.mk hr2; clear hx he hr hr2)
        | (go_at_call 12; refine (same_true A2 A3 out.length out.length c2 c3 out _ rfl rfl (by omega) HR32.out HR3.out).mono ?_; rintro e w4 ⟨rfl, hd⟩; have HD4 := Hd.mk hd; clear hd))
      go_ret
      exact ⟨rfl, HX.out HX3.out HD4.out.ext⟩

end Go.Proofs.Ytacpdkhbgommfaa
