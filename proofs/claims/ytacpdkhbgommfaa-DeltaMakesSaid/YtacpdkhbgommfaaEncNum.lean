/- enc.Num: bytes with a number behind. -/
import Derived.Test.YtacpdkhbgommfaaNum
namespace Go.Proofs.Ytacpdkhbgommfaa
open Go.RowKit
attribute [local go_sem] eql_sl_nil neq_sl_nil
set_option linter.unusedVariables false
set_option linter.unusedSimpArgs false

theorem max_two (ats : Array TypeId) (ty : TypeId) (k : IntKind) (x y : Int) : Builtin.max_ ats ty #[.int k x, .int k y] = pure (.int k (if x < y then y else x)) := by
  simp only [Builtin.max_, List.foldlM, Builtin.max2]
  first | rfl | split <;> rfl
theorem min_two (ats : Array TypeId) (ty : TypeId) (k : IntKind) (x y : Int) : Builtin.min_ ats ty #[.int k x, .int k y] = pure (.int k (if y < x then y else x)) := by
  simp only [Builtin.min_, List.foldlM, Builtin.min2]
  first | rfl | split <;> rfl
attribute [local go_sem] max_two min_two
set_option maxRecDepth 100000 in
theorem or128_fin : ∀ k : Fin 256, bits BinOp.or IntKind.u8 ((k.val : Nat) : Int) 128 = (((k.val % 128 + 128 : Nat)) : Int) := by decide
theorem or128 (m : Nat) : bits BinOp.or IntKind.u8 ((m : Int) % 256) 128 = ((UInt8.ofNat (m % 128 + 128)).toNat : Int) := by
  have := or128_fin ⟨m % 256, Nat.mod_lt _ (by decide)⟩
  simp only at this
  rw [show ((m : Int) % 256) = ((m % 256 : Nat) : Int) by omega, this]
  simp
  omega

set_option maxHeartbeats 8000000 in
set_option maxRecDepth 100000 in
/-- enc.Num -/
theorem encnum_calls (A : Option Addr) (k c : Nat) (b : List UInt8) (n : Int) (w : World) (hk : b.length = k) (hb : k ≤ 140737488000000) (h : RowAt Ty.u8 A b w) (h0 : 0 ≤ n) (h1 : n ≤ 4611686018427387904) :
    Calls Try.prog 23 #[.slice A k c, .int .i64 n] w fun e w' => ∃ v, e = .returned v ∧ OwnB w.heap.size v (b ++ enc7 n.toNat) w' ∧ Ext w w' := by
  obtain ⟨n, rfl⟩ := Int.eq_ofNat_of_zero_le h0
  rw [Int.toNat_natCast]
  have h2 : n ≤ 4611686018427387904 := by omega
  clear h0 h1
  have HR := Hd.mk h
  have HK := Hd.mk hk
  clear h hk
  go_enter Try.func23, Try.ntmps23
  go_wp2_with (go_at_call 25; refine (clone_u8 A k c b _ HK.out (by omega) HR.out).mono ?_; rintro e w1 ⟨v, rfl, ho, he, hv⟩; clear hv; have HO1 := Hd.mk ho; have HE1 := Hd.mk he; clear ho he)
  go_wp2
  go_loopw [5, 6] (fun v nv wr => ∃ (m : Nat) (acc : List UInt8), nv = .int .u64 m ∧ m ≤ 4611686018427387904 ∧ acc.length ≤ 9 ∧ Hd (∃ k, enc7 n = acc ++ encGo k m ∧ m < 2 ^ (7 * (k + 1)) ∧ acc.length + k = 8) ∧ Hd (OwnB w.heap.size v (b ++ acc) wr) ∧ Hd (Ext w wr)) (fun _ nv _ => (intOf nv).toNat)
  case atStart => exact ⟨n, [], rfl, h2, by simp, ⟨8, rfl, Nat.lt_of_le_of_lt h2 (by decide), rfl⟩, ⟨by rw [List.append_nil]; exact HO1.out⟩, HE1⟩
  case round =>
    obtain ⟨m, acc, rfl, hm, hacc, HI, HO, HX⟩ := hrel
    by_cases hlt : 128 ≤ m
    · obtain ⟨x, hbe, hw⟩ : ∃ x : UInt8, UInt8.ofNat (m % 128 + 128) = x ∧ bits BinOp.or IntKind.u8 ((m : Int) % 256) 128 = (x.toNat : Int) := ⟨_, rfl, or128 m⟩
      have HBE := Hd.mk hbe
      clear hbe
      go_wp2_with (at_builtin; refine wpList_append_S bv_one rfl (.tmp 15) (.tmp 19) 22 5 rfl _ 1 Try.underlying22 info_u8 rfl w.heap.size _ (b ++ acc) rfl (HO.out.alloc _) _ _ _ [x] rfl rfl (one_new bv_one _ x _) (by have := HK.out; simp; omega) (by have := HK.out; simp; omega) (HX.out.alloc _).size ?_; intro v1 w5 ho hg hat5; have HX5 := Hd.mk ((HX.out.alloc _).grown hg (fun b hb e => absurd (HO.out.lt b e).1 (by omega))); have HO5 := Hd.mk ho; clear ho hg hat5)
      go_roundw
      case rel =>
        obtain ⟨k, h3, h4, h5⟩ := HI.out
        obtain ⟨k, rfl⟩ : ∃ j, k = j + 1 := by
          cases k with
          | zero => have : (2:Nat) ^ (7 * (0 + 1)) = 128 := rfl; omega
          | succ j => exact ⟨j, rfl⟩
        refine ⟨m / 128, acc ++ [x], by go_num, by omega, by simp; omega, ⟨k, ?_, ?_, by simp; omega⟩, ⟨by rw [← List.append_assoc]; exact HO5.out⟩, HX5⟩
        · rw [h3, ← HBE.out]; simp only [encGo]; rw [if_pos hlt]; simp
        · have : (2:Nat) ^ (7 * (k + 1 + 1)) = 128 * 2 ^ (7 * (k + 1)) := by rw [show 7 * (k + 1 + 1) = 7 * (k + 1) + 7 by omega, Nat.pow_add]; omega
          omega
      case measure => simp [intOf]; omega
    · obtain ⟨x, hbe, hw⟩ : ∃ x : UInt8, UInt8.ofNat m = x ∧ IntKind.u8.wrap (m : Int) = (x.toNat : Int) := ⟨_, rfl, by rw [IntKind.wrap_u8]; simp⟩
      have HBE := Hd.mk hbe
      clear hbe
      go_wp2_with (at_builtin; refine wpList_append_S bv_one rfl (.tmp 23) (.tmp 26) 22 5 rfl _ 1 Try.underlying22 info_u8 rfl w.heap.size _ (b ++ acc) rfl (HO.out.alloc _) _ _ _ [x] rfl rfl (one_new bv_one _ x _) (by have := HK.out; simp; omega) (by have := HK.out; simp; omega) (HX.out.alloc _).size ?_; intro v1 w5 ho hg hat5; have HX5 := Hd.mk ((HX.out.alloc _).grown hg (fun b hb e => absurd (HO.out.lt b e).1 (by omega))); have HO5 := Hd.mk ho; clear ho hg hat5)
      go_ret
      obtain ⟨k, h3, h4, h5⟩ := HI.out
      exact ⟨_, rfl, by rw [h3, encGo_small (by omega), HBE.out, ← List.append_assoc]; exact HO5.out, HX5.out⟩

end Go.Proofs.Ytacpdkhbgommfaa
