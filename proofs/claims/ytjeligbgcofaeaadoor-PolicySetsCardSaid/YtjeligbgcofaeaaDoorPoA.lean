/- Package policy: nodes as data; what walk, Holds and run do, in plain words; the reference's Walk, Holds, Run. -/
import Derived.Test.YtjeligbgcofaeaaDoorHdS
namespace Go.Proofs.YtjeligbgcofaeaaDoor
open Go.RowKit
set_option linter.unusedVariables false

inductive Nd where
  | mk (kind f val mask : Int) (kids : List Nd)
namespace Nd
def kind : Nd → Int | mk k _ _ _ _ => k
def f : Nd → Int | mk _ f _ _ _ => f
def val : Nd → Int | mk _ _ v _ _ => v
def mask : Nd → Int | mk _ _ _ m _ => m
def kids : Nd → List Nd | mk _ _ _ _ ks => ks
end Nd
/-- full bits of any field; 0 of none -/
def fullI (f : Int) : Int := if 0 ≤ f ∧ f < 9 then fullN f.toNat else 0
def predB (k : Int) : Bool := decide (1 ≤ k ∧ k ≤ 6)
def loK (k : Int) : Int := if k = 4 ∨ k = 13 then 1 else if k = 17 then 3 else 0
def hiK (k : Int) : Int := if k = 4 ∨ k = 13 then 1 else if k = 5 ∨ k = 6 ∨ k = 15 ∨ k = 16 then 64 else if k = 17 then 3 else 0
/-- is the i-th kid of such a node to be a predicate? -/
def wantK (k : Int) (i : Nat) : Bool := predB k || decide (k = 13) || (decide (k = 17) && decide (i = 0))
mutual
def walkN : Nd → Bool → Int → Int → Int × Int
  | .mk k f v m ks, want, left, deep =>
    if left < 1 ∨ deep < 1 then (0, 34)
    else if k < 1 ∨ (6 < k ∧ k < 11) ∨ 17 < k then (0, 12)
    else if predB k ≠ want then (0, 12)
    else if k = 3 ∧ (f < 0 ∨ 9 ≤ f ∨ bits .andNot .u64 m (fullI f) ≠ 0 ∨ bits .andNot .u64 v m ≠ 0) then (0, 1)
    else if k = 14 ∧ (f < 0 ∨ 9 ≤ f ∨ f = 3 ∨ f = 6 ∨ fullI f < v) then (0, 1)
    else if (ks.length : Int) < loK k ∨ hiK k < ks.length then (0, 2)
    else walkKs ks k 0 1 left (deep - 1)
def walkKs : List Nd → Int → Nat → Int → Int → Int → Int × Int
  | [], _, _, all, _, _ => (all, 0)
  | x :: r, k, i, all, left, deep =>
    if (walkN x (wantK k i) (left - all) deep).2 ≠ 0 then (0, (walkN x (wantK k i) (left - all) deep).2)
    else walkKs r k (i + 1) (all + (walkN x (wantK k i) (left - all) deep).1) left deep
end
mutual
def holdsN : Nd → Hdr → Bool
  | .mk k f v m ks, h =>
    if k = 1 then true
    else if k = 3 then decide (bits .and .u64 (getN h f.toNat) m = v)
    else if k = 4 then holds1 ks h
    else if k = 5 then holdsAll ks h
    else if k = 6 then holdsAny ks h
    else false
def holds1 : List Nd → Hdr → Bool
  | [x], h => !holdsN x h
  | _, _ => false
def holdsAll : List Nd → Hdr → Bool
  | [], _ => true
  | x :: r, h => holdsN x h && holdsAll r h
def holdsAny : List Nd → Hdr → Bool
  | [], _ => false
  | x :: r, h => holdsN x h || holdsAny r h
end
/- how many nodes there are, up to so many -/
mutual
def countN : Nd → Int → Int
  | .mk _ _ _ _ ks, most => countKs ks 1 most
def countKs : List Nd → Int → Int → Int
  | [], all, _ => all
  | x :: r, all, most => if most < all then all else countKs r (all + countN x (most - all)) most
end
end Go.Proofs.YtjeligbgcofaeaaDoor
