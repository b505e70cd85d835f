/- The references' Join and SameBytes. -/
import Derived.Test.YtacpdkhbgommfaaEnc
import Derived.RegionTactic
namespace Go.Proofs.Ytacpdkhbgommfaa
open Go.RowKit
attribute [local go_sem] eql_sl_nil neq_sl_nil
set_option linter.unusedVariables false
set_option linter.unusedSimpArgs false

theorem take_succ {α : Type} {l : List α} {k : Nat} {x : α} (h : l[k]? = some x) : l.take (k + 1) = l.take k ++ [x] := by
  rw [List.take_add_one, h]; rfl

set_option maxHeartbeats 8000000 in
/-- pollardref01.SameBytes of two that are the same -/
theorem same_true (A B : Option Addr) (n m c d : Nat) (l : List UInt8) (w : World) (hn : l.length = n) (hm : l.length = m) (hc : n ≤ 9223372036854775807) (hA : RowAt Ty.u8 A l w) (hB : RowAt Ty.u8 B l w) :
    Calls Try.prog 12 #[.slice A n c, .slice B m d] w fun e w' => e = .returned (.bool true) ∧ Drawn w w' := by
  obtain rfl : n = m := by omega
  have HA := Hd.mk hA
  have HB := Hd.mk hB
  have HN := Hd.mk hn
  clear hA hB hn hm
  go_enter Try.func12, Try.ntmps12
  go_wp2
  go_loopw [5] (fun i wr => ∃ k : Nat, k ≤ n ∧ i = .int .i64 k ∧ Drawn w wr) (fun i _ => n - (intOf i).toNat)
  case atStart => exact ⟨0, Nat.zero_le _, rfl, Drawn.refl _⟩
  case round =>
    obtain ⟨k, hk, rfl, HW⟩ := hrel
    by_cases hlt : k < n
    · obtain ⟨x, hx⟩ : ∃ x, l[k]? = some x := ⟨l[k]'(by have := HN.out; omega), List.getElem?_eq_getElem _⟩
      obtain ⟨g, o, rfl, hcell⟩ := (HW.row HA.out).open_ (by have := HN.out; omega)
      obtain ⟨g2, o2, rfl, hcell2⟩ := (HW.row HB.out).open_ (by have := HN.out; omega)
      have c1 := hcell k x hx
      have c2 := hcell2 k x hx
      simp only [bv] at c1 c2
      clear hcell hcell2 hx
      have h0 : (0 : Int) ≤ (k : Int) := by omega
      have h1 : (k : Int) < (n : Int) := by omega
      go_wp2_with fail
      go_quiet (fail)
      go_wp2_with fail
      go_roundw
      case rel => exact ⟨k + 1, by omega, by go_num, HW.then _⟩
      case measure => simp [intOf]; omega
    · go_wp2_with fail
      go_ret
      exact ⟨rfl, HW⟩

set_option maxHeartbeats 8000000 in
/-- pollardref01.Join -/
theorem join_calls (A B : Option Addr) (n m c d : Nat) (a b : List UInt8) (w : World) (hn : a.length = n) (hm : b.length = m) (hbd : n + m ≤ 140737488355328) (hA : RowAt Ty.u8 A a w) (hB : RowAt Ty.u8 B b w) :
    Calls Try.prog 22 #[.slice A n c, .slice B m d] w fun e w' => ∃ v, e = .returned v ∧ OwnB w.heap.size v (a ++ b) w' ∧ Ext w w' := by
  have HA := Hd.mk hA
  have HB := Hd.mk hB
  have HN := Hd.mk hn
  have HM := Hd.mk hm
  clear hA hB hn hm
  go_enter Try.func22, Try.ntmps22
  go_wp2
  go_loopw [5, 6] (fun v i wr => ∃ k : Nat, k ≤ n ∧ i = .int .i64 k ∧ Hd (OwnB w.heap.size v (a.take k) wr) ∧ Hd (Ext w wr)) (fun _ i _ => n - (intOf i).toNat)
  case atStart => exact ⟨0, Nat.zero_le _, rfl, ⟨OwnS.lit (enc := bv) w w.heap.size 5 [] (Nat.le_refl _) (by simp)⟩, ⟨(Chg.refl _ w).alloc _⟩⟩
  case round =>
    obtain ⟨k, hk, rfl, HO, HX⟩ := hrel
    by_cases hlt : k < n
    · obtain ⟨x, hx⟩ : ∃ x, a[k]? = some x := ⟨a[k]'(by have := HN.out; omega), List.getElem?_eq_getElem _⟩
      obtain ⟨g, o, rfl, hcell⟩ := (HA.out.ext HX.out).open_ (by have := HN.out; omega)
      have c1 := hcell k x hx
      simp only [bv] at c1
      have HTS := Hd.mk (take_succ hx)
      clear hcell hx
      go_wp2_with (at_builtin; go_loud (refine wpList_append_S bv_one rfl (.tmp 15) (.tmp 20) 22 5 rfl _ 1 Try.underlying22 info_u8 rfl w.heap.size _ (a.take k) rfl (HO.out.alloc _) _ _ _ [x] rfl rfl (one_new bv_one wr x _) (by have := HN.out; simp; omega) (by have := HN.out; simp; omega) (HX.out.alloc _).size ?_); intro v1 w5 ho hg hat5; rw [← HTS.out] at ho; have HX5 := Hd.mk ((HX.out.alloc _).grown hg (fun b hb e => absurd (HO.out.lt b e).1 (by omega))); have HO5 := Hd.mk ho; clear ho hg hat5)
      go_roundw
      case rel => exact ⟨k + 1, by omega, by go_num, HO5, HX5⟩
      case measure => simp [intOf]; omega
    · have hkn : k = n := by omega
      subst hkn
      have hfull : a.take k = a := List.take_of_length_le (by have := HN.out; omega)
      rw [hfull] at HO
      clear hfull
      go_wp2_with fail
      go_loopw [5, 7] (fun v i wr => ∃ j : Nat, j ≤ m ∧ i = .int .i64 j ∧ Hd (OwnB w.heap.size v (a ++ b.take j) wr) ∧ Hd (Ext w wr)) (fun _ i _ => m - (intOf i).toNat)
      case atStart => exact ⟨0, Nat.zero_le _, rfl, ⟨by simpa using HO.out⟩, HX⟩
      case round =>
        obtain ⟨j, hj, rfl, HO2, HX2⟩ := hrel
        by_cases hlt2 : j < m
        · obtain ⟨x, hx⟩ : ∃ x, b[j]? = some x := ⟨b[j]'(by have := HM.out; omega), List.getElem?_eq_getElem _⟩
          obtain ⟨g, o, rfl, hcell⟩ := (HB.out.ext HX2.out).open_ (by have := HM.out; omega)
          have c1 := hcell j x hx
          simp only [bv] at c1
          have HTS := Hd.mk (take_succ hx)
          clear hcell hx
          go_wp2_with (at_builtin; refine wpList_append_S bv_one rfl (.tmp 28) (.tmp 33) 22 5 rfl _ 1 Try.underlying22 info_u8 rfl w.heap.size _ (a ++ b.take j) rfl (HO2.out.alloc _) _ _ _ [x] rfl rfl (one_new bv_one _ x _) (by have := HN.out; have := HM.out; simp; omega) (by have := HN.out; have := HM.out; simp; omega) (HX2.out.alloc _).size ?_; intro v1 w5 ho hg hat5; rw [List.append_assoc, ← HTS.out] at ho; have HX5 := Hd.mk ((HX2.out.alloc _).grown hg (fun b hb e => absurd (HO2.out.lt b e).1 (by omega))); have HO5 := Hd.mk ho; clear ho hg hat5)
          go_roundw
          case rel => exact ⟨j + 1, by omega, by go_num, HO5, HX5⟩
          case measure => simp [intOf]; omega
        · have hjm : j = m := by omega
          subst hjm
          go_wp2_with fail
          go_ret
          exact ⟨_, rfl, by have := HO2.out; rw [List.take_of_length_le (by have := HM.out; omega)] at this; exact this, HX2.out⟩

end Go.Proofs.Ytacpdkhbgommfaa
