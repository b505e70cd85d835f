/- What delta.Make makes, said plainly. -/
import Derived.Test.YtacpdkhbgommfaaFlush
import Derived.Lib.IndexMore
namespace Go.Proofs.Ytacpdkhbgommfaa
open Go.RowKit
set_option linter.unusedVariables false

/-- How many bytes two lists have in common at their heads. -/
def common : List UInt8 → List UInt8 → Nat
  | a :: l, b :: r => if a = b then common l r + 1 else 0
  | _, _ => 0
/-- The places of a piece of eight bytes in the base: every fourth byte, the first four of them. -/
def places (b s : List UInt8) : List Nat :=
  (((List.range (b.length / 4 + 1)).map (· * 4)).filter (fun i => decide (i + 8 ≤ b.length ∧ (b.drop i).take 8 = s))).take 4
def longStep (b t : List UInt8) (at_ : Nat) (acc : Nat × Nat) (p : Nat) : Nat × Nat :=
  if acc.2 < 8 + common (b.drop (p + 8)) (t.drop (at_ + 8)) then (p, 8 + common (b.drop (p + 8)) (t.drop (at_ + 8))) else acc
def longestF (b t : List UInt8) (at_ : Nat) : Nat × Nat :=
  if t.length < at_ + 8 then (0, 0) else (places b ((t.drop at_).take 8)).foldl (longStep b t at_) (0, 0)
def makeLoop (b t : List UInt8) : Nat → Nat → Nat → List UInt8 → List UInt8
  | 0, _, own, out => flushF t out own t.length
  | f + 1, at_, own, out =>
    if t.length ≤ at_ then flushF t out own t.length
    else if (longestF b t at_).2 = 0 then makeLoop b t f (at_ + 1) own out
    else makeLoop b t f (at_ + (longestF b t at_).2) (at_ + (longestF b t at_).2) (flushF t out own at_ ++ enc7 (2 * (longestF b t at_).2 + 1) ++ enc7 (longestF b t at_).1)
/-- What Make makes. -/
def makeF (b t : List UInt8) : List UInt8 :=
  if t.length = 0 then enc7 t.length
  else if 0 ≤ Lib.index b t then enc7 t.length ++ enc7 (2 * t.length + 1) ++ enc7 (Lib.index b t).toNat
  else
    let out := makeLoop b t (t.length + 1) 0 0 (enc7 t.length)
    let plain := enc7 t.length ++ enc7 (2 * t.length) ++ t
    if plain.length < out.length then plain else out

end Go.Proofs.Ytacpdkhbgommfaa
