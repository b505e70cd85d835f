/- Comparing: bytes.Compare, sha.Cmp, cmp.Compare, cmp.Or. -/
import Derived.Test.YthfinaocdcinlaaId
import Derived.Lib.BytesEntry
import Derived.Lib.Bytealg
import Derived.Deep.RegionHeld3
namespace Go.Proofs.Ythfinaocdcinlaa
open Go.RowKit
attribute [local go_sem] eql_sl_nil neq_sl_nil
set_option linter.unusedVariables false
set_option linter.unusedSimpArgs false

theorem run_bytes {P : Program} {w : World} {A : Option Addr} {l : List UInt8} {n c : Nat} (hn : l.length = n) (h : RowAt Ty.u8 A l w) : (Extern.Bytes.bytesOf (.slice A n c)).run P w = .ok ⟨l.toArray⟩ w := by
  subst hn
  cases A with
  | none =>
    have hl : l = [] := by
      rcases Nat.eq_zero_or_pos l.length with h0 | h0
      · exact List.eq_nil_of_length_eq_zero h0
      · obtain ⟨ad, h⟩ := h.some_ h0
        cases h
    subst hl
    rfl
  | some ad =>
    have hl := Lib.run_loadBytesX (P := P) w (l.map fun x => (x.toNat : Int)) ad .empty (fun j x hj => by
      rw [List.getElem?_map] at hj
      obtain ⟨y, hy, rfl⟩ := Option.map_eq_some_iff.1 hj
      obtain ⟨ad', e, hc⟩ := h.sc j y hy
      obtain rfl : ad = ad' := by injection e
      exact hc)
    rw [List.length_map] at hl
    show (Extern.Bytes.loadBytes ad l.length .empty).run P w = _
    rw [hl]
    congr 1
    apply ByteArray.ext
    show (#[] : Array UInt8) ++ (Lib.bytesOf (l.map fun x => (x.toNat : Int))).toArray = l.toArray
    have : Lib.bytesOf (l.map fun x => (x.toNat : Int)) = l := by
      simp only [Lib.bytesOf, List.map_map]
      refine (List.map_congr_left (fun x _ => ?_)).trans (List.map_id l)
      simp
    rw [this]; simp
theorem run_cmp {P : Program} {w : World} {A B : Option Addr} {l r : List UInt8} {n m c d : Nat} (hn : l.length = n) (hm : r.length = m) (hA : RowAt Ty.u8 A l w) (hB : RowAt Ty.u8 B r w) :
    (Extern.BytealgCompare.compare #[.slice A n c, .slice B m d]).run P w = .ok (.int .i64 (Lib.compareBytes l r)) w := by
  change Sem.run P (do pure (goInt (Extern.BytealgCompare.cmp (← Extern.Bytes.bytesOf (.slice A n c)) (← Extern.Bytes.bytesOf (.slice B m d))))) w = _
  simp only [Sem.run_bind, Sem.run_pure, run_bytes hn hA, run_bytes hm hB, Result.andThen]
  rw [Lib.cmp_eq]
  rfl

/-- bytes.Compare -/
theorem bcompare_calls (A B : Option Addr) (l r : List UInt8) (n m c d : Nat) (w : World) (hn : l.length = n) (hm : r.length = m) (hA : RowAt Ty.u8 A l w) (hB : RowAt Ty.u8 B r w) :
    Calls Try.prog 44 #[.slice A n c, .slice B m d] w fun e w' => e = .returned (.int .i64 (Lib.compareBytes l r)) ∧ w' = w := by
  have hr := run_cmp (P := Try.prog) (c := c) (d := d) hn hm hA hB
  go_enter Try.func44, Try.ntmps44
  go_wp2
  rw [run_callFunc_extern Try.func56 (by kernel_rfl) (by kernel_rfl) (by kernel_rfl) (e := Extern.BytealgCompare.compare) (by kernel_rfl), hr]
  simp only [Result.andThen]
  rw [Oper.upon_value]
  go_wp2
  go_ret
  exact ⟨rfl, rfl⟩

/-- The order of IDs. -/
def cmpI (x y : Id) : Int := Lib.compareBytes x.1 y.1
theorem row_id {w : World} {g : Nat} {t : TypeId} {fr : Nat × Nat} {x : Id} (h : w.heap[g]? = some (.cells (idA x) t fr)) : RowAt Ty.u8 (some ⟨g, 0, none⟩) x.1 w := row_of_blk bv_one h _ rfl

set_option maxHeartbeats 4000000 in
set_option maxRecDepth 100000 in
/-- sha.Cmp -/
theorem scmp_calls (x y : Id) (w : World) : Calls Try.prog 37 #[.agg (idA x), .agg (idA y)] w fun e w' => e = .returned (.int .i64 (cmpI x y)) ∧ Ext w w' := by
  have hu := Try.underlying24
  go_enter Try.func37, Try.ntmps37
  go_wp2_with fail
  go_quiet ((go_at_call 44; exact Calls.quiet_of_same (bcompare_calls _ _ x.1 y.1 32 32 32 32 _ x.2 y.2 (row_id (heap_alloc2_old w _ _)) (row_id (heap_alloc2_new w _ _)))))
  go_wp2
  go_ret
  exact ⟨rfl, ((Ext.alloc' w _).alloc1 _).drewN1 _⟩

def icmpF (a b : Int) : Int := if a < b then -1 else if b < a then 1 else 0
def iorF (a b : Int) : Int := if a = 0 then b else a
/-- cmp.Compare of ints -/
theorem icmp_calls (a b : Int) (w : World) : Calls Try.prog 41 #[.int .i64 a, .int .i64 b] w fun e w' => e = .returned (.int .i64 (icmpF a b)) ∧ w' = w := by
  have hnan : ∀ (z : Int) (w : World), Calls Try.prog 45 #[.int .i64 z] w fun e w' => e = .returned (.bool false) ∧ w' = w := fun z w => by
    go_enter Try.func45, Try.ntmps45
    go_wp2
    go_ret
    exact ⟨rfl, rfl⟩
  have HN := Hd.mk hnan
  clear hnan
  rcases Int.lt_trichotomy a b with h1 | h1 | h1
  · have hr : icmpF a b = -1 := by unfold icmpF; rw [if_pos h1]
    rw [hr]
    go_enter Try.func41, Try.ntmps41
    go_wp2_with (go_at_call 45; refine (HN.out _ _).mono ?_; rintro e w1 ⟨rfl, rfl⟩)
    go_ret
    exact ⟨rfl, rfl⟩
  · subst h1
    have hr : icmpF a a = 0 := by unfold icmpF; rw [if_neg (by omega), if_neg (by omega)]
    rw [hr]
    go_enter Try.func41, Try.ntmps41
    go_wp2_with (go_at_call 45; refine (HN.out _ _).mono ?_; rintro e w1 ⟨rfl, rfl⟩)
    go_ret
    exact ⟨rfl, rfl⟩
  · have hr : icmpF a b = 1 := by unfold icmpF; rw [if_neg (by omega), if_pos h1]
    rw [hr]
    have h2 : ¬ a < b := by omega
    go_enter Try.func41, Try.ntmps41
    go_wp2_with (go_at_call 45; refine (HN.out _ _).mono ?_; rintro e w1 ⟨rfl, rfl⟩)
    go_ret
    exact ⟨rfl, rfl⟩

set_option maxHeartbeats 4000000 in
/-- cmp.Or of two ints -/
theorem ior_calls (a b : Int) (g : Nat) (w : World) (h : w.heap[g]? = some (.cells #[.int .i64 a, .int .i64 b] 3 (0, 0))) :
    Calls Try.prog 40 #[.slice (some ⟨g, 0, none⟩) 2 2] w fun e w' => e = .returned (.int .i64 (iorF a b)) ∧ w' = w := by
  have c0 : w.cell? ⟨g, 0, none⟩ = some (.int .i64 a) := blk_cell h 0
  have c1 : w.cell? ⟨g, 1, none⟩ = some (.int .i64 b) := blk_cell h 1
  clear h
  obtain ⟨r, hr⟩ : ∃ r, iorF a b = r := ⟨_, rfl⟩
  rw [hr]
  have HR := Hd.mk hr
  clear hr
  go_enter Try.func40, Try.ntmps40
  go_wp2
  go_loop [8] (fun i => ∃ k : Nat, k ≤ 2 ∧ i = .int .i64 k ∧ Hd ((1 ≤ k → a = 0) ∧ (2 ≤ k → b = 0))) (fun i => 2 - (intOf i).toNat)
  case atStart => exact ⟨0, by omega, rfl, ⟨by omega, by omega⟩⟩
  case round =>
    obtain ⟨k, hk, rfl, HK⟩ := hrel
    rcases (by omega : k = 0 ∨ k = 1 ∨ k = 2) with rfl | rfl | rfl
    · by_cases ha : a = 0
      · subst ha
        go_wp2
        go_round
        case rel => exact ⟨1, by omega, rfl, ⟨fun _ => by first | rfl | trivial, fun h => absurd h (by omega)⟩⟩
        case measure => simp [intOf]
      · have hd : (a != 0) = true := by simpa using ha
        have HA := Hd.mk ha
        clear ha
        go_wp2
        go_ret
        exact ⟨by have := HR.out; unfold iorF at this; rw [if_neg HA.out] at this; rw [this]; rfl, rfl⟩
    · have ha := HK.out.1 (by omega)
      have HA := Hd.mk ha
      clear ha
      by_cases hb : b = 0
      · have HB := Hd.mk hb
        have hd : (b != 0) = false := by simpa using hb
        clear hb
        go_wp2
        go_round
        case rel => exact ⟨2, by omega, rfl, ⟨fun _ => HA.out, fun _ => HB.out⟩⟩
        case measure => simp [intOf]
      · have hd : (b != 0) = true := by simpa using hb
        clear hb
        go_wp2
        go_ret
        exact ⟨by have := HR.out; unfold iorF at this; rw [if_pos HA.out] at this; rw [this]; rfl, rfl⟩
    · go_wp2
      go_ret
      exact ⟨by have := HR.out; unfold iorF at this; rw [if_pos (HK.out.1 (by omega)), HK.out.2 (by omega)] at this; rw [← this]; rfl, rfl⟩
end Go.Proofs.Ythfinaocdcinlaa
