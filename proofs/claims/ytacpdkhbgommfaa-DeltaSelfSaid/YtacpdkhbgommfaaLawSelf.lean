/- The walk of the law DeltaSelf. -/
import Derived.Test.YtacpdkhbgommfaaLawMake2
namespace Go.Proofs.Ytacpdkhbgommfaa
open Go.RowKit
attribute [local go_sem] eql_sl_nil neq_sl_nil
set_option linter.unusedVariables false
set_option linter.unusedSimpArgs false

/-- A base among the four: its cell, what it reads as. -/
def BaseAt (g i : Nat) (W w : World) : Prop := ∃ B m cb l, W.cell? ⟨g, i, none⟩ = some (.slice B m cb) ∧ m ≤ 6000 ∧ m ≤ cb ∧ cb ≤ 9223372036854775807 ∧ Hd (l.length = m) ∧ Hd (RowAt Ty.u8 B l w) ∧ (B = none → cb = 0)

set_option maxHeartbeats 8000000 in
set_option maxRecDepth 100000 in
theorem self_calls (A0 A1 : Option Addr) (n0 n1 c0 c1 : Nat) (a b : List UInt8) (w : World) (hx : IntCell w) (hn0 : a.length = n0) (hc0 : n0 ≤ c0) (hm0 : c0 ≤ 9223372036854775807) (h0 : RowAt Ty.u8 A0 a w) (hnil : A0 = none → c0 = 0) (hn1 : b.length = n1) (hc1 : n1 ≤ c1) (hm1 : c1 ≤ 9223372036854775807) (h1 : RowAt Ty.u8 A1 b w) (hnil1 : A1 = none → c1 = 0) :
    Calls Try.prog 6 #[.slice A0 n0 c0, .slice A1 n1 c1] w fun e w' => e = .returned (.bool true) ∧ Ext w w' := by
  have HXC := Hd.mk hx
  have HN0 := Hd.mk hn0
  have HN1 := Hd.mk hn1
  have HA0 := Hd.mk h0
  have HA1 := Hd.mk h1
  clear hx hn0 hn1 h0 h1
  by_cases hl0 : 3000 < n0
  · go_enter Try.func6, Try.ntmps6
    go_wp2_with (first
      | (go_at_call 9; refine (applying_calls _).mono ?_; rintro e w1 ⟨rfl, he⟩; have HX1 := Hd.mk he; clear he)
      | (go_at_call 15; refine (making_calls _ (HXC.out.ext HX1.out)).mono ?_; rintro e w2 ⟨rfl, he⟩; have hx := HX1.out.then he; have HX2 := Hd.mk hx; have HE2 := Hd.mk he; clear hx he))
    go_ret
    exact ⟨rfl, HX2.out⟩
  · by_cases hl1 : 3000 < n1
    · go_enter Try.func6, Try.ntmps6
      go_wp2_with (first
        | (go_at_call 9; refine (applying_calls _).mono ?_; rintro e w1 ⟨rfl, he⟩; have HX1 := Hd.mk he; clear he)
        | (go_at_call 15; refine (making_calls _ (HXC.out.ext HX1.out)).mono ?_; rintro e w2 ⟨rfl, he⟩; have hx := HX1.out.then he; have HX2 := Hd.mk hx; have HE2 := Hd.mk he; clear hx he))
      go_ret
      exact ⟨rfl, HX2.out⟩
    · have HSH : Hd ((makeF a a).length ≤ 16) := ⟨by
        have h := index_has [] a []
        rw [List.nil_append, List.append_nil] at h
        exact make_short (by rw [HN0.out]; omega) (by rw [HN0.out]; omega) (.inl h)⟩
      go_enter Try.func6, Try.ntmps6
      go_wp2_with (first
        | (go_at_call 9; refine (applying_calls _).mono ?_; rintro e w1 ⟨rfl, he⟩; have HX1 := Hd.mk he; clear he)
        | (go_at_call 15; refine (making_calls _ (HXC.out.ext HX1.out)).mono ?_; rintro e w2 ⟨rfl, he⟩; have hx := HX1.out.then he; have HX2 := Hd.mk hx; have HE2 := Hd.mk he; clear hx he)
        | (go_at_call 12; refine (same_true A4 A0 n0 n0 c4 c0 a _ HN0.out HN0.out (by omega) HR4.out (HA0.out.ext HX4.out)).mono ?_; rintro e w5 ⟨rfl, hd⟩; have hx := HX4.out.trans hd.ext (fun _ _ h => h); have hol : OwnB w.heap.size (.slice (some ⟨w5.heap.size, 0, none⟩) 0 0) [] (w5.alloc (.cells #[] 5)) := OwnS.lit (enc := bv) w5 w.heap.size 5 [] hx.size (by simp); have HOL := Hd.mk hol; clear hol hd; have HX5 := Hd.mk hx; clear hx)
        | (go_at_call 10; refine (apply_for HL3.out h33 h34 (by omega) HR3.out HN0.out hc0 hm0 (HA0.out.ext HX3.out) HA3.out HN0.out).mono ?_; rintro e w4 ⟨he, A4, c4, rfl, h41, h42, HR4⟩; have hx := HX3.out.trans he (fun _ _ h => h); clear he; have HX4 := Hd.mk hx; clear hx)
        | (go_at_call 16; refine (make_for HN0.out hc0 hm0 (by omega) (HA0.out.ext HX2.out) HN0.out hc0 (by omega) hm0 (HA0.out.ext HX2.out) hnil (HXC.out.ext HX2.out)).mono ?_; rintro e w3 ⟨he, A3, k3, c3, rfl, h31, h32, h33, h34, HL3, HR3, HA3, HS3⟩; have hx := HX2.out.trans he (fun _ _ h => h); have hk3 : k3 ≤ 16 := (by have h := HSH.out; rw [HL3.out] at h; exact h); have hkd : decide (16 < (k3 : Int)) = false := (by simp; omega); clear he; have HX3 := Hd.mk hx; clear hx)
        | (at_builtin; refine wpList_append_B rfl (.tmp 57) (.tmp 58) rfl (HX6.out) (HO6.out) rfl (l := [] ++ a) (nl := k6) (m := b) (n := n1) HL6.out HN1.out (by omega) rfl (HA1.out.ext HX6.out) ?_; intro A7 k7 c7 w7 hk1 hk2 hkc hcm hl ho hc hx; have HL7 := Hd.mk hl; have HO7 := Hd.mk ho; have HC7 := Hd.mk hc; have HX7 := Hd.mk hx; clear hl ho hc hx; have hk71 := hk1; have hk72 := hk2; have hkc7 := hkc; have hcm7 := hcm; clear hk1 hk2 hkc hcm; have hnil7 : A7 = none → c7 = 0 := (fun e => by subst e; exact own_nil HO7.out))
        | (at_builtin; refine wpList_append_B rfl (.tmp 55) (.tmp 56) rfl (HX5.out.alloc _) (HOL.out) rfl (l := []) (nl := 0) (m := a) (n := n0) rfl HN0.out (by omega) rfl (HA0.out.ext (HX5.out.alloc _)) ?_; intro A6 k6 c6 w6 hk1 hk2 hkc hcm hl ho hc hx; have HL6 := Hd.mk hl; have HO6 := Hd.mk ho; have HC6 := Hd.mk hc; have HX6 := Hd.mk hx; clear hl ho hc hx; have hk61 := hk1; have hk62 := hk2; clear hk1 hk2 hkc hcm))
      have HB0 : Hd (∀ i, i < 4 → BaseAt w7.heap.size i (w7.alloc (.cells #[.slice none 0 0, .slice A0 n0 c0, .slice A1 n1 c1, .slice A7 k7 c7] 22)) (w7.alloc (.cells #[.slice none 0 0, .slice A0 n0 c0, .slice A1 n1 c1, .slice A7 k7 c7] 22))) := ⟨by
        have hc : ∀ j, (w7.alloc (.cells #[.slice none 0 0, .slice A0 n0 c0, .slice A1 n1 c1, .slice A7 k7 c7] 22)).cell? ⟨w7.heap.size, j, none⟩ = #[.slice none 0 0, .slice A0 n0 c0, .slice A1 n1 c1, .slice A7 k7 c7][j]? := fun j => blk_cell (heap_alloc_new w7 _) j
        have he := HX7.out.alloc (.cells #[.slice none 0 0, .slice A0 n0 c0, .slice A1 n1 c1, .slice A7 k7 c7] 22)
        intro i hi
        match i, hi with
        | 0, _ => exact ⟨none, 0, 0, [], hc 0, by omega, by omega, by omega, ⟨rfl⟩, ⟨RowAt.nil _ _ _⟩, fun _ => rfl⟩
        | 1, _ => exact ⟨A0, n0, c0, a, hc 1, by omega, hc0, hm0, HN0, ⟨HA0.out.ext he⟩, hnil⟩
        | 2, _ => exact ⟨A1, n1, c1, b, hc 2, by omega, hc1, hm1, HN1, ⟨HA1.out.ext he⟩, hnil1⟩
        | 3, _ => exact ⟨A7, k7, c7, _, hc 3, by omega, hkc7, hcm7, HL7, ⟨(OwnS.rowAt bv_one HO7.out).ext (Ext.alloc' _ _)⟩, hnil7⟩⟩
      have HX8 := Hd.mk (HX7.out.alloc (.cells #[.slice none 0 0, .slice A0 n0 c0, .slice A1 n1 c1, .slice A7 k7 c7] 22))
      have HO8 : Hd (RowAt Ty.u8 A7 ([] ++ a ++ b) (w7.alloc (.cells #[.slice none 0 0, .slice A0 n0 c0, .slice A1 n1 c1, .slice A7 k7 c7] 22))) := ⟨(OwnS.rowAt bv_one HO7.out).ext (Ext.alloc' _ _)⟩
      obtain ⟨w8, hw8⟩ : ∃ W, w7.alloc (.cells #[.slice none 0 0, .slice A0 n0 c0, .slice A1 n1 c1, .slice A7 k7 c7] 22) = W := ⟨_, rfl⟩
      obtain ⟨g8, hg8⟩ : ∃ g, w7.heap.size = g := ⟨_, rfl⟩
      rw [hw8] at HB0 HX8 HO8
      rw [hg8] at HB0
      rw [hw8, hg8]
      clear hw8 hg8
      go_wp2
      go_loopw [65] (fun iv wr => ∃ i : Nat, i ≤ 4 ∧ iv = .int .i64 i ∧ Hd (Ext w8 wr)) (fun iv _ => 4 - (intOf iv).toNat)
      case atStart => exact ⟨0, by omega, rfl, ⟨Chg.refl _ _⟩⟩
      case round =>
        obtain ⟨i, hi, rfl, HE⟩ := hrel
        by_cases hlt : i < 4
        · obtain ⟨B, m, cb, l, hcell, hm6, hmc, hcx, HLB, HRB, hnb⟩ := HB0.out i hlt
          have hc8 := HE.out.cell hcell (fun h => h)
          have HW := Hd.mk (HX8.out.trans HE.out (fun _ _ h => h))
          clear hcell
          obtain ⟨wo, rfl⟩ : ∃ wo : World, wo = wr := ⟨_, rfl⟩
          go_wp2_with (first
            | (go_at_call 12; refine (same_true Aa A7 k7 k7 ca c7 ([] ++ a ++ b) _ HL7.out HL7.out (by omega) HRa.out (HO8.out.ext HEa.out)).mono ?_; rintro e wb ⟨rfl, hd⟩; have hx := HEa.out.trans hd.ext (fun _ _ h => h); clear hd; have HEb := Hd.mk hx; clear hx)
            | (go_at_call 10; refine (apply_for HLm.out hm3 hm4 (by omega) HRm.out HLB.out hmc hcx (HRB.out.ext HEm.out) HAm.out HL7.out).mono ?_; rintro e wa ⟨he, Aa, ca, rfl, ha1, ha2, HRa⟩; have hx := HEm.out.trans he (fun _ _ h => h); clear he; have HEa := Hd.mk hx; clear hx)
            | (go_at_call 16; refine (make_for HL7.out hkc7 hcm7 (by omega) (HO8.out.ext HE.out) HLB.out hmc (by omega) hcx (HRB.out.ext HE.out) hnb (HXC.out.ext HW.out)).mono ?_; rintro e wm ⟨he, Am, km, cm, rfl, hm1x, hm2, hm3, hm4, HLm, HRm, HAm, HSm⟩; have hx := HE.out.trans he (fun _ _ h => h); have hkm : decide ((k7 : Int) + 16 < (km : Int)) = false := (by simp; omega); clear he; have HEm := Hd.mk hx; clear hx))
          go_roundw
          case rel => exact ⟨i + 1, by omega, by go_num, HEb⟩
          case measure => simp [intOf]; omega
        · obtain rfl : i = 4 := by omega
          go_wp2
          go_ret
          exact ⟨rfl, HX8.out.trans HE.out (fun _ _ h => h)⟩
end Go.Proofs.Ytacpdkhbgommfaa
