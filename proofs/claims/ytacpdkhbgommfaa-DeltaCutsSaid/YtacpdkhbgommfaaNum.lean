/- A number's bytes: what pollardref02.Num and enc.Num make, and what reads them back. -/
import Derived.Test.YtacpdkhbgommfaaEnc
namespace Go.Proofs.Ytacpdkhbgommfaa
open Go.RowKit
attribute [local go_sem] eql_sl_nil neq_sl_nil
set_option linter.unusedVariables false
set_option linter.unusedSimpArgs false

/-- Two slices of the call's own have unlike blocks. -/
def Apart (v u : Value) : Prop := ∀ k, v.ownBlock = some k → u.ownBlock ≠ some k
theorem Apart.symm {v u : Value} (h : Apart v u) : Apart u v := fun k hk e => h k e hk
theorem Apart.grow {v u v' : Value} {W : World} (h : Apart v u) (hat : v'.ownBlock = v.ownBlock ∨ v'.ownBlock = some W.heap.size) (hu : ∀ k, u.ownBlock = some k → k < W.heap.size) : Apart v' u := by
  intro k hk e
  rcases hat with h1 | h1
  · exact h k (h1 ▸ hk) e
  · have := hu k e
    rw [h1] at hk
    injection hk with hk
    omega
theorem Apart.fresh {v u : Value} {W : World} (hv : ∀ k, v.ownBlock = some k → W.heap.size ≤ k) (hu : ∀ k, u.ownBlock = some k → k < W.heap.size) : Apart v u := fun k hk e => by
  have := hv k hk
  have := hu k e
  omega
theorem OwnS.other {α : Type} {enc : α → Value} {e base : Nat} {u v : Value} {l : List α} {w w1 : World} (h : OwnS enc e base u l w) (hg : w.grownBy w1 v.ownBlock) (ha : Apart v u) : OwnS enc e base u l w1 :=
  h.chg (Chg.of_grown hg) (fun k hk e => ha k e.symm hk)

def encGo : Nat → Nat → List UInt8
  | 0, n => [UInt8.ofNat n]
  | k + 1, n => if 128 ≤ n then UInt8.ofNat (n % 128 + 128) :: encGo k (n / 128) else [UInt8.ofNat n]
/-- A number's bytes. -/
def enc7 (n : Nat) : List UInt8 := encGo 8 n
theorem encGo_small {k n : Nat} (h : n < 128) : encGo k n = [UInt8.ofNat n] := by
  cases k with
  | zero => rfl
  | succ k => simp only [encGo]; rw [if_neg (by omega)]
theorem encGo_len : ∀ (k n : Nat), (encGo k n).length ≤ k + 1 ∧ 1 ≤ (encGo k n).length
  | 0, n => by simp [encGo]
  | k + 1, n => by
    simp only [encGo]
    split
    · have := encGo_len k (n / 128)
      simp only [List.length_cons]; omega
    · simp
theorem enc7_len (n : Nat) : (enc7 n).length ≤ 9 ∧ 1 ≤ (enc7 n).length := encGo_len 8 n

set_option maxHeartbeats 8000000 in
set_option maxRecDepth 100000 in
/-- pollardref02.Num -/
theorem refnum_calls (n : Int) (w : World) (h0 : 0 ≤ n) (h1 : n ≤ 4611686018427387904) :
    Calls Try.prog 13 #[.int .i64 n] w fun e w' => ∃ v, e = .returned v ∧ OwnB w.heap.size v (enc7 n.toNat) w' ∧ Ext w w' := by
  obtain ⟨n, rfl⟩ := Int.eq_ofNat_of_zero_le h0
  rw [Int.toNat_natCast]
  have h2 : n ≤ 4611686018427387904 := by omega
  clear h0 h1
  go_enter Try.func13, Try.ntmps13
  go_wp2
  go_loopw [0, 3] (fun nv v wr => ∃ (m : Nat) (acc : List UInt8), nv = .int .i64 m ∧ m ≤ 4611686018427387904 ∧ acc.length ≤ 9 ∧ Hd (∃ k, enc7 n = acc ++ encGo k m ∧ m < 2 ^ (7 * (k + 1)) ∧ acc.length + k = 8) ∧ Hd (OwnB w.heap.size v acc wr) ∧ Hd (Ext w wr)) (fun nv _ _ => (intOf nv).toNat)
  case atStart => exact ⟨n, [], rfl, h2, by simp, ⟨8, rfl, Nat.lt_of_le_of_lt h2 (by decide), rfl⟩, ⟨OwnS.lit (enc := bv) w w.heap.size 5 [] (Nat.le_refl _) (by simp)⟩, ⟨(Chg.refl _ w).alloc _⟩⟩
  case round =>
    obtain ⟨m, acc, rfl, hm, hacc, HI, HO, HX⟩ := hrel
    by_cases hlt : 128 ≤ m
    · obtain ⟨b, hbe, hw⟩ : ∃ b : UInt8, UInt8.ofNat (m % 128 + 128) = b ∧ IntKind.u8.wrap ((m : Int) % 128 + 128) = (b.toNat : Int) := ⟨_, rfl, by rw [IntKind.wrap_u8]; simp⟩
      have HBE := Hd.mk hbe
      clear hbe
      go_wp2_with (at_builtin; refine wpList_append_S bv_one rfl (.tmp 11) (.tmp 16) 22 5 rfl _ 1 Try.underlying22 info_u8 rfl w.heap.size _ acc rfl (HO.out.alloc _) _ _ _ [b] rfl rfl (one_new bv_one _ b _) (by simp; omega) (by simp; omega) (HX.out.alloc _).size ?_; intro v1 w5 ho hg hat5; have HX5 := Hd.mk ((HX.out.alloc _).grown hg (fun b hb e => absurd (HO.out.lt b e).1 (by omega))); have HO5 := Hd.mk ho; clear ho hg hat5)
      go_roundw
      case rel =>
        obtain ⟨k, h3, h4, h5⟩ := HI.out
        obtain ⟨k, rfl⟩ : ∃ j, k = j + 1 := by
          cases k with
          | zero => have : (2:Nat) ^ (7 * (0 + 1)) = 128 := rfl; omega
          | succ j => exact ⟨j, rfl⟩
        refine ⟨m / 128, acc ++ [b], by go_num, by omega, by simp; omega, ⟨k, ?_, ?_, by simp; omega⟩, HO5, HX5⟩
        · rw [h3, ← HBE.out]; simp only [encGo]; rw [if_pos hlt]; simp
        · have : (2:Nat) ^ (7 * (k + 1 + 1)) = 128 * 2 ^ (7 * (k + 1)) := by rw [show 7 * (k + 1 + 1) = 7 * (k + 1) + 7 by omega, Nat.pow_add]; omega
          omega
      case measure => simp [intOf]; omega
    · obtain ⟨b, hbe, hw⟩ : ∃ b : UInt8, UInt8.ofNat m = b ∧ IntKind.u8.wrap (m : Int) = (b.toNat : Int) := ⟨_, rfl, by rw [IntKind.wrap_u8]; simp⟩
      have HBE := Hd.mk hbe
      clear hbe
      go_wp2_with (at_builtin; refine wpList_append_S bv_one rfl (.tmp 20) (.tmp 23) 22 5 rfl _ 1 Try.underlying22 info_u8 rfl w.heap.size _ acc rfl (HO.out.alloc _) _ _ _ [b] rfl rfl (one_new bv_one _ b _) (by simp; omega) (by simp; omega) (HX.out.alloc _).size ?_; intro v1 w5 ho hg hat5; have HX5 := Hd.mk ((HX.out.alloc _).grown hg (fun b hb e => absurd (HO.out.lt b e).1 (by omega))); have HO5 := Hd.mk ho; clear ho hg hat5)
      go_ret
      obtain ⟨k, h3, h4, h5⟩ := HI.out
      exact ⟨_, rfl, by rw [h3, encGo_small (by omega), HBE.out]; exact HO5.out, HX5.out⟩

end Go.Proofs.Ytacpdkhbgommfaa
