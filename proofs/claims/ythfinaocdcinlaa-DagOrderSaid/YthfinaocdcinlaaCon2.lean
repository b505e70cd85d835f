/- The words of Con at guarded operations; two-byte IDs. -/
import Derived.Test.YthfinaocdcinlaaAlive
namespace Go.Proofs.Ythfinaocdcinlaa
open Go.RowKit
set_option linter.unusedVariables false
set_option linter.unusedSimpArgs false

section
variable {ops : Array Oper} {rest : List Oper} {o : Oper} {a : Act} {Q : Exit → Act → World → Prop}
theorem wpList_do {w : World} (hw : Region.wanted o (yielded ops a.tmps) = true) (h : ∀ K : Act → World → Prop, (∀ a w, wpList Try.prog ops Q rest a w → K a w) → Oper.wp Try.prog o a w K Q) : wpList Try.prog ops Q (o :: rest) a w :=
  wpList_step fun K hK => by rw [if_pos hw]; exact h K hK
theorem op_build2 {K : Act → World → Prop} {w : World} (y z : Operand) (ho : o.op = .build 24 #[(0, y), (1, z)]) (b c : UInt8) (hy : a.eval y = .int .u8 b.toNat) (hz : a.eval z = .int .u8 c.toNat) (h : K (a.put o.dst (.agg (idA (cid2 b c)))) w) : Oper.wp Try.prog o a w K Q := by
  unfold Oper.wp execOp
  simp only [ho, List.map_toArray, List.map_cons, List.map_nil, hy, hz, Sem.run_bind, run_build2, Result.andThen_ok]
  exact h
theorem op_slice2X {K : Act → World → Prop} {w : World} (y z : Operand) (ho : o.op = .buildSlice 29 2 #[(0, y), (1, z)]) (x x' : Id) (hy : a.eval y = .agg (idA x)) (hz : a.eval z = .agg (idA x'))
    (h : ∀ A w', RowAt Ty.id A [x, x'] w' → Ext w w' → K (a.put o.dst (.slice A 2 2)) w') : Oper.wp Try.prog o a w K Q := by
  unfold Oper.wp execOp
  simp only [ho, List.map_toArray, List.map_cons, List.map_nil, hy, hz, Sem.run_bind, run_slice2, Result.andThen_ok]
  exact h _ _ (rowLit w [x, x'] (by simp)) (Ext.alloc' w _)
theorem wpList_build1G {w : World} (hw : Region.wanted o (yielded ops a.tmps) = true) (y : Operand) (ho : o.op = .build 24 #[(0, y)]) (b : UInt8) (hy : a.eval y = .int .u8 b.toNat) (h : wpList Try.prog ops Q rest (a.put o.dst (.agg (idA (cid b)))) w) : wpList Try.prog ops Q (o :: rest) a w :=
  wpList_do hw fun _ hK => op_build1 y ho b hy (hK _ _ h)
theorem wpList_build2G {w : World} (hw : Region.wanted o (yielded ops a.tmps) = true) (y z : Operand) (ho : o.op = .build 24 #[(0, y), (1, z)]) (b c : UInt8) (hy : a.eval y = .int .u8 b.toNat) (hz : a.eval z = .int .u8 c.toNat) (h : wpList Try.prog ops Q rest (a.put o.dst (.agg (idA (cid2 b c)))) w) : wpList Try.prog ops Q (o :: rest) a w :=
  wpList_do hw fun _ hK => op_build2 y z ho b c hy hz (hK _ _ h)
theorem wpList_slice1G {w : World} (hw : Region.wanted o (yielded ops a.tmps) = true) (y : Operand) (ho : o.op = .buildSlice 29 1 #[(0, y)]) (x : Id) (hy : a.eval y = .agg (idA x))
    (h : ∀ A w', RowAt Ty.id A [x] w' → Ext w w' → wpList Try.prog ops Q rest (a.put o.dst (.slice A 1 1)) w') : wpList Try.prog ops Q (o :: rest) a w :=
  wpList_do hw fun _ hK => op_slice1X y ho x hy fun A w' h1 h2 => hK _ _ (h A w' h1 h2)
theorem wpList_slice2G {w : World} (hw : Region.wanted o (yielded ops a.tmps) = true) (y z : Operand) (ho : o.op = .buildSlice 29 2 #[(0, y), (1, z)]) (x x' : Id) (hy : a.eval y = .agg (idA x)) (hz : a.eval z = .agg (idA x'))
    (h : ∀ A w', RowAt Ty.id A [x, x'] w' → Ext w w' → wpList Try.prog ops Q rest (a.put o.dst (.slice A 2 2)) w') : wpList Try.prog ops Q (o :: rest) a w :=
  wpList_do hw fun _ hK => op_slice2X y z ho x x' hy hz fun A w' h1 h2 => hK _ _ (h A w' h1 h2)
end
end Go.Proofs.Ythfinaocdcinlaa
