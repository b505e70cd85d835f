/- The walk of the law DeltaCuts. -/
import Derived.Test.YtacpdkhbgommfaaLawMake2
namespace Go.Proofs.Ytacpdkhbgommfaa
open Go.RowKit
attribute [local go_sem] eql_sl_nil neq_sl_nil
set_option linter.unusedVariables false
set_option linter.unusedSimpArgs false

theorem rowU8 {e base n c : Nat} {A : Option Addr} {l : List UInt8} {w : World} (h : OwnS bv e base (.slice A n c) l w) : RowAt Ty.u8 A l w := h.rowAt bv_one
theorem i64_and20 (n : Int) : bits .and .i64 n 1048575 = n % 1048576 := by
  have h127 : (BitVec.ofInt 64 1048575).toNat = 2 ^ 20 - 1 := by decide
  have key : (BitVec.ofInt 64 n &&& BitVec.ofInt 64 1048575).toNat = (n % ((2 ^ 64 : Nat) : Int)).toNat % 2 ^ 20 := by
    rw [BitVec.toNat_and, BitVec.toNat_ofInt, h127, Nat.and_two_pow_sub_one_eq_mod]
  show IntKind.i64.wrap ((BitVec.ofInt 64 n &&& BitVec.ofInt 64 1048575).toNat : Nat) = n % 1048576
  rw [key, IntKind.wrap_i64]
  omega
theorem applyGo_errs (base : List UInt8) : ∀ (f : Nat) (l out : List UInt8) (e : Nat), l.length < f → applyGo base f l out = .error e → e = 20 ∨ e = 70
  | 0, _, _, _, h, _ => absurd h (by omega)
  | f + 1, l, out, e, hf, h => by
    by_cases hl : l = []
    · subst hl; simp [applyGo] at h
    · cases hn : num 4611686018427387904 l with
      | none => rw [applyGo_form hl hn] at h; injection h with h; exact .inl h.symm
      | some p =>
        obtain ⟨n, r⟩ := p
        obtain ⟨b, p, hp⟩ := num_drop hn
        have hr : r.length < l.length := by rw [hp]; simp; omega
        by_cases hc : n / 2 < 1 ∨ 1048576 < n / 2 + out.length
        · rw [applyGo_size hl hn hc] at h; injection h with h; exact .inl h.symm
        · by_cases h2 : n % 2 = 0
          · rw [applyGo_own hl hn hc h2] at h
            split at h
            · injection h with h; exact .inl h.symm
            · exact applyGo_errs base f _ _ e (by rw [List.length_drop]; omega) h
          · cases hn2 : num 4611686018427387904 r with
            | none => rw [applyGo_form2 hl hn hc h2 hn2] at h; injection h with h; exact .inl h.symm
            | some q =>
              obtain ⟨o', s⟩ := q
              obtain ⟨b2, p2, hp2⟩ := num_drop hn2
              have hs : s.length < r.length := by rw [hp2]; simp; omega
              rw [applyGo_copy hl hn hc h2 hn2] at h
              split at h
              · injection h with h; exact .inr h.symm
              · exact applyGo_errs base f _ _ e (by omega) h
theorem applyF_errs {base d : List UInt8} {e : Nat} (h : applyF base d = .error e) : e = 20 ∨ e = 70 := by
  unfold applyF at h
  split at h
  · injection h with h; exact .inl h.symm
  · split at h
    · rename_i hg; injection h with h; subst h; exact applyGo_errs base _ _ _ _ (Nat.lt_succ_self _) hg
    · split at h
      · cases h
      · injection h with h; exact .inl h.symm

set_option maxHeartbeats 8000000 in
set_option maxRecDepth 100000 in
theorem cuts_big (A0 A1 : Option Addr) (n0 n1 c0 c1 : Nat) (at_ : Int) (w : World) (hx : IntCell w) (hl : 3000 < n0 ∨ 3000 < n1 ∨ n1 = 0) :
    Calls Try.prog 8 #[.slice A0 n0 c0, .slice A1 n1 c1, .int .i64 at_] w fun e w' => e = .returned (.bool true) ∧ Ext w w' := by
  have HXC := Hd.mk hx
  clear hx
  by_cases hl0 : 3000 < n0
  · clear hl
    go_enter Try.func8, Try.ntmps8
    go_wp2_with (first
      | (go_at_call 9; refine (applying_calls _).mono ?_; rintro e w1 ⟨rfl, he⟩; have HX1 := Hd.mk he; clear he)
      | (go_at_call 15; refine (making_calls _ (HXC.out.ext HX1.out)).mono ?_; rintro e w2 ⟨rfl, he⟩; have hx := HX1.out.then he; have HX2 := Hd.mk hx; have HE2 := Hd.mk he; clear hx he))
    go_ret
    exact ⟨rfl, HX2.out⟩
  · by_cases hl1 : 3000 < n1
    · clear hl
      go_enter Try.func8, Try.ntmps8
      go_wp2_with (first
        | (go_at_call 9; refine (applying_calls _).mono ?_; rintro e w1 ⟨rfl, he⟩; have HX1 := Hd.mk he; clear he)
        | (go_at_call 15; refine (making_calls _ (HXC.out.ext HX1.out)).mono ?_; rintro e w2 ⟨rfl, he⟩; have hx := HX1.out.then he; have HX2 := Hd.mk hx; have HE2 := Hd.mk he; clear hx he))
      go_ret
      exact ⟨rfl, HX2.out⟩
    · have hz : n1 = 0 := by omega
      subst hz
      clear hl
      go_enter Try.func8, Try.ntmps8
      go_wp2_with (first
        | (go_at_call 9; refine (applying_calls _).mono ?_; rintro e w1 ⟨rfl, he⟩; have HX1 := Hd.mk he; clear he)
        | (go_at_call 15; refine (making_calls _ (HXC.out.ext HX1.out)).mono ?_; rintro e w2 ⟨rfl, he⟩; have hx := HX1.out.then he; have HX2 := Hd.mk hx; have HE2 := Hd.mk he; clear hx he))
      go_ret
      exact ⟨rfl, HX2.out⟩

set_option maxHeartbeats 8000000 in
set_option maxRecDepth 100000 in
theorem cuts_main (A0 A1 : Option Addr) (n0 n1 c0 c1 : Nat) (a b : List UInt8) (at_ : Int) (w : World) (hx : IntCell w) (hn0 : a.length = n0) (hc0 : n0 ≤ c0) (hm0 : c0 ≤ 9223372036854775807) (h0 : RowAt Ty.u8 A0 a w) (hnil : A0 = none → c0 = 0) (hn1 : b.length = n1) (hc1 : n1 ≤ c1) (hm1 : c1 ≤ 9223372036854775807) (h1 : RowAt Ty.u8 A1 b w)
    (hl0 : n0 ≤ 3000) (hl1 : n1 ≤ 3000) (hp1 : 0 < n1) :
    Calls Try.prog 8 #[.slice A0 n0 c0, .slice A1 n1 c1, .int .i64 at_] w fun e w' => e = .returned (.bool true) ∧ Ext w w' := by
  have HXC := Hd.mk hx
  have HN0 := Hd.mk hn0
  have HN1 := Hd.mk hn1
  have HA0 := Hd.mk h0
  have HA1 := Hd.mk h1
  have hne1 : ((n1 : Int) == 0) = false := by simp; omega
  have hmk := apply_make (b := a) (t := b) (by omega) (by omega)
  obtain ⟨k, hk⟩ : ∃ k, (makeF a b).length = k := ⟨_, rfl⟩
  have hk2 : 2 ≤ k := by rw [← hk]; exact make_two hmk (by omega)
  have hkb : k ≤ 4000 := by have := make_len (b := a) (t := b) (by omega) (by omega); omega
  have HOV : Hd (applyF a ([] ++ makeF a b ++ [2, 120]) = .error 20) := ⟨apply_over 120 hmk (by omega)⟩
  have hand := i64_and20 at_
  have hpos : 0 ≤ at_ % 1048576 := by omega
  obtain ⟨r, hr, hrl⟩ : ∃ r : Nat, at_ % 1048576 % (k : Int) = (r : Int) ∧ r < k := by
    have h1 := Int.emod_nonneg (at_ % 1048576) (show (k : Int) ≠ 0 by omega)
    have h2 := Int.emod_lt_of_pos (at_ % 1048576) (show (0 : Int) < (k : Int) by omega)
    exact ⟨(at_ % 1048576 % (k : Int)).toNat, by omega, by omega⟩
  have hcut := apply_cut (k := r) (by omega) hmk
  have hlen : ((makeF a b).take r).length = r := by rw [List.length_take]; omega
  have HLEN := Hd.mk hlen
  have HK := Hd.mk hk
  clear hx hn0 hn1 h0 h1 hmk hk hlen
  cases hap : applyF a ((makeF a b).take r) with
  | error er =>
    have her : ((er : Int) == 0) = false := by rcases applyF_errs hap with h | h <;> subst h <;> rfl
    have HAP := Hd.mk hap
    clear hap hcut
    go_enter Try.func8, Try.ntmps8
    go_wp2_with (first
      | (go_at_call 9; refine (applying_calls _).mono ?_; rintro e w1 ⟨rfl, he⟩; have HX1 := Hd.mk he; clear he)
      | (go_at_call 15; refine (making_calls _ (HXC.out.ext HX1.out)).mono ?_; rintro e w2 ⟨rfl, he⟩; have hx := HX1.out.then he; have HX2 := Hd.mk hx; have HE2 := Hd.mk he; clear hx he)
      | (go_at_call 14; (with_reducible refine (size_calls none 0 0 [] _ rfl (by omega) (RowAt.nil _ _ _)).mono ?_); rintro e w9 ⟨he, hp⟩; have hsn : sizeF [] = none := rfl; rw [hsn] at hp; obtain rfl := hp; clear hsn; have hx := HX8.out.trans he (fun _ _ h => h); clear he; have HX9 := Hd.mk hx; clear hx)
      | (go_at_call 14; (with_reducible refine (size_calls A3 k c3 (makeF a b) _ HK.out (by omega) (HR3.out.ext HX37.out)).mono ?_); rintro e w8 ⟨he, hp⟩; rw [HS3.out] at hp; obtain rfl := hp; have hx := HX7.out.trans he (fun _ _ h => h); clear he; have HX8 := Hd.mk hx; clear hx)
      | (go_at_call 10; (with_reducible refine (apply_calls _ _ k6 n0 c6 c0 a ([] ++ makeF a b ++ [2, 120]) _ HL6.out hkc6 hcm6 (by omega) (rowU8 HO6.out) HN0.out hc0 hm0 (HA0.out.ext HXw6.out)).mono ?_); rintro e w7 ⟨he, hp⟩; rw [HOV.out] at hp; obtain rfl := hp; have hx := HXw6.out.trans he (fun _ _ h => h); have h37 := HX36.out.trans he (fun _ _ h => h); clear he; have HX7 := Hd.mk hx; have HX37 := Hd.mk h37; clear hx h37)
      | (at_builtin; refine wpList_append_B (w := w4) rfl (.tmp 72) (.tmp 73) rfl (HX5.out.alloc _) ((OwnS.alloc HO5.out _)) rfl (l := [] ++ makeF a b) (nl := k5) (m := [2, 120]) (n := 2) HL5.out rfl (by omega) rfl (row_of_blk bv_one (heap_alloc_new w5 _) [2, 120] (by kernel_rfl)) ?_; intro A6 k6 c6 w6 hk1 hk2 hkc hcm hl ho hc hx; have HL6 := Hd.mk hl; have HO6 := Hd.mk ho; have HC6 := Hd.mk hc; have HX6 := Hd.mk hx; clear hl ho hc hx; have hk61 := hk1; have hk62 := hk2; have hkc6 := hkc; have hcm6 := hcm; clear hk1 hk2 hkc hcm; have h36 : Ext w3 w6 := HX34.out.trans HX6.out (fun _ _ h => h); have h6 : Ext w w6 := HX4.out.trans HX6.out (fun _ _ h => h); have HX36 := Hd.mk h36; have HXw6 := Hd.mk h6; clear h36 h6)
      | (at_builtin; refine wpList_append_B (w := w4) rfl (.tmp 70) (.tmp 71) rfl ((Ext.alloc' w4 (.cells #[] 5))) (HOL.out) rfl (l := []) (nl := 0) (m := makeF a b) (n := k) rfl HK.out (by omega) rfl (HR3.out.ext (HX34.out.alloc _)) ?_; intro A5 k5 c5 w5 hk1 hk2 hkc hcm hl ho hc hx; have HL5 := Hd.mk hl; have HO5 := Hd.mk ho; have HC5 := Hd.mk hc; have HX5 := Hd.mk hx; clear hl ho hc hx; have hk51 := hk1; have hk52 := hk2; clear hk1 hk2 hkc hcm)
      | (go_at_call 10; (with_reducible refine (apply_calls _ _ r n0 c3 c0 a ((makeF a b).take r) _ HLEN.out (by omega) h34 (by omega) (HR3.out.take r) HN0.out hc0 hm0 (HA0.out.ext HX3.out)).mono ?_); rintro e w4 ⟨he, hp⟩; rw [HAP.out] at hp; obtain rfl := hp; clear hr hand hpos; have hx := HX3.out.trans he (fun _ _ h => h); have h34x : Ext w3 w4 := he; have hol : OwnB w4.heap.size (.slice (some ⟨w4.heap.size, 0, none⟩) 0 0) [] (w4.alloc (.cells #[] 5)) := OwnS.lit (enc := bv) w4 w4.heap.size 5 [] (Nat.le_refl _) (by simp); have HOL := Hd.mk hol; clear hol he; have HX4 := Hd.mk hx; have HX34 := Hd.mk h34x; clear hx h34x)
      | (go_at_call 16; refine (make_for HN1.out hc1 hm1 (by omega) (HA1.out.ext HX2.out) HN0.out hc0 (by omega) hm0 (HA0.out.ext HX2.out) hnil (HXC.out.ext HX2.out)).mono ?_; rintro e w3 ⟨he, A3, k3, c3, rfl, h31, h32, h33, h34, HL3, HR3, HA3, HS3⟩; obtain rfl : k = k3 := (by rw [← HK.out]; exact HL3.out); have hx := HX2.out.trans he (fun _ _ h => h); clear he; have HX3 := Hd.mk hx; clear hx))
    go_ret
    exact ⟨rfl, HX9.out⟩
  | ok o =>
    have hne : o ≠ b := fun e => hcut (by rw [hap, e])
    have HNE := Hd.mk hne
    have HAP := Hd.mk hap
    obtain ⟨ko, hko⟩ : ∃ ko, o.length = ko := ⟨_, rfl⟩
    have HKO := Hd.mk hko
    clear hap hcut hne hko
    go_enter Try.func8, Try.ntmps8
    go_wp2_with (first
      | (go_at_call 9; refine (applying_calls _).mono ?_; rintro e w1 ⟨rfl, he⟩; have HX1 := Hd.mk he; clear he)
      | (go_at_call 15; refine (making_calls _ (HXC.out.ext HX1.out)).mono ?_; rintro e w2 ⟨rfl, he⟩; have hx := HX1.out.then he; have HX2 := Hd.mk hx; have HE2 := Hd.mk he; clear hx he)
      | (go_at_call 14; (with_reducible refine (size_calls none 0 0 [] _ rfl (by omega) (RowAt.nil _ _ _)).mono ?_); rintro e w9 ⟨he, hp⟩; have hsn : sizeF [] = none := rfl; rw [hsn] at hp; obtain rfl := hp; clear hsn; have hx := HX8.out.trans he (fun _ _ h => h); clear he; have HX9 := Hd.mk hx; clear hx)
      | (go_at_call 14; (with_reducible refine (size_calls A3 k c3 (makeF a b) _ HK.out (by omega) (HR3.out.ext HX37.out)).mono ?_); rintro e w8 ⟨he, hp⟩; rw [HS3.out] at hp; obtain rfl := hp; have hx := HX7.out.trans he (fun _ _ h => h); clear he; have HX8 := Hd.mk hx; clear hx)
      | (go_at_call 10; (with_reducible refine (apply_calls _ _ k6 n0 c6 c0 a ([] ++ makeF a b ++ [2, 120]) _ HL6.out hkc6 hcm6 (by omega) (rowU8 HO6.out) HN0.out hc0 hm0 (HA0.out.ext HXw6.out)).mono ?_); rintro e w7 ⟨he, hp⟩; rw [HOV.out] at hp; obtain rfl := hp; have hx := HXw6.out.trans he (fun _ _ h => h); have h37 := HX36.out.trans he (fun _ _ h => h); clear he; have HX7 := Hd.mk hx; have HX37 := Hd.mk h37; clear hx h37)
      | (at_builtin; refine wpList_append_B (w := w4) rfl (.tmp 72) (.tmp 73) rfl (HX5.out.alloc _) ((OwnS.alloc HO5.out _)) rfl (l := [] ++ makeF a b) (nl := k5) (m := [2, 120]) (n := 2) HL5.out rfl (by omega) rfl (row_of_blk bv_one (heap_alloc_new w5 _) [2, 120] (by kernel_rfl)) ?_; intro A6 k6 c6 w6 hk1 hk2 hkc hcm hl ho hc hx; have HL6 := Hd.mk hl; have HO6 := Hd.mk ho; have HC6 := Hd.mk hc; have HX6 := Hd.mk hx; clear hl ho hc hx; have hk61 := hk1; have hk62 := hk2; have hkc6 := hkc; have hcm6 := hcm; clear hk1 hk2 hkc hcm; have h36 : Ext w3 w6 := HX34.out.trans HX6.out (fun _ _ h => h); have h6 : Ext w w6 := HX4.out.trans HX6.out (fun _ _ h => h); have HX36 := Hd.mk h36; have HXw6 := Hd.mk h6; clear h36 h6)
      | (at_builtin; refine wpList_append_B (w := w4) rfl (.tmp 70) (.tmp 71) rfl ((Ext.alloc' w4 (.cells #[] 5))) (HOL.out) rfl (l := []) (nl := 0) (m := makeF a b) (n := k) rfl HK.out (by omega) rfl (HR3.out.ext (HX34.out.alloc _)) ?_; intro A5 k5 c5 w5 hk1 hk2 hkc hcm hl ho hc hx; have HL5 := Hd.mk hl; have HO5 := Hd.mk ho; have HC5 := Hd.mk hc; have HX5 := Hd.mk hx; clear hl ho hc hx; have hk51 := hk1; have hk52 := hk2; clear hk1 hk2 hkc hcm)
      | (go_at_call 12; refine (same_false A4 A1 ko n1 c4 c1 o b _ HKO.out HN1.out (by omega) (by omega) HR4.out (HA1.out.ext HX4p.out) HNE.out).mono ?_; rintro e w4 ⟨rfl, hd⟩; have hx := HX4p.out.trans hd.ext (fun _ _ h => h); have h34x := HX34p.out.trans hd.ext (fun _ _ h => h); have hol : OwnB w4.heap.size (.slice (some ⟨w4.heap.size, 0, none⟩) 0 0) [] (w4.alloc (.cells #[] 5)) := OwnS.lit (enc := bv) w4 w4.heap.size 5 [] (Nat.le_refl _) (by simp); have HOL := Hd.mk hol; clear hol hd; have HX4 := Hd.mk hx; have HX34 := Hd.mk h34x; clear hx h34x)
      | (go_at_call 10; (with_reducible refine (apply_for HLEN.out (by omega) h34 (by omega) (HR3.out.take r) HN0.out hc0 hm0 (HA0.out.ext HX3.out) HAP.out HKO.out).mono ?_); rintro e w4p ⟨he, A4, c4, rfl, h41, h42, HR4⟩; clear hr hand hpos; have hx := HX3.out.trans he (fun _ _ h => h); have h34x : Ext w3 w4p := he; clear he; have HX4p := Hd.mk hx; have HX34p := Hd.mk h34x; clear hx h34x)
      | (go_at_call 16; refine (make_for HN1.out hc1 hm1 (by omega) (HA1.out.ext HX2.out) HN0.out hc0 (by omega) hm0 (HA0.out.ext HX2.out) hnil (HXC.out.ext HX2.out)).mono ?_; rintro e w3 ⟨he, A3, k3, c3, rfl, h31, h32, h33, h34, HL3, HR3, HA3, HS3⟩; obtain rfl : k = k3 := (by rw [← HK.out]; exact HL3.out); have hx := HX2.out.trans he (fun _ _ h => h); clear he; have HX3 := Hd.mk hx; clear hx))
    go_ret
    exact ⟨rfl, HX9.out⟩

theorem cuts_calls (A0 A1 : Option Addr) (n0 n1 c0 c1 : Nat) (a b : List UInt8) (at_ : Int) (w : World) (hx : IntCell w) (hn0 : a.length = n0) (hc0 : n0 ≤ c0) (hm0 : c0 ≤ 9223372036854775807) (h0 : RowAt Ty.u8 A0 a w) (hnil : A0 = none → c0 = 0) (hn1 : b.length = n1) (hc1 : n1 ≤ c1) (hm1 : c1 ≤ 9223372036854775807) (h1 : RowAt Ty.u8 A1 b w) :
    Calls Try.prog 8 #[.slice A0 n0 c0, .slice A1 n1 c1, .int .i64 at_] w fun e w' => e = .returned (.bool true) ∧ Ext w w' := by
  by_cases hl : 3000 < n0 ∨ 3000 < n1 ∨ n1 = 0
  · exact cuts_big A0 A1 n0 n1 c0 c1 at_ w hx hl
  · exact cuts_main A0 A1 n0 n1 c0 c1 a b at_ w hx hn0 hc0 hm0 h0 hnil hn1 hc1 hm1 h1 (by omega) (by omega) (by omega)
end Go.Proofs.Ytacpdkhbgommfaa
