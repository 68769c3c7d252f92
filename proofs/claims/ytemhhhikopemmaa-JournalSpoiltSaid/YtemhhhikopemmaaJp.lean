/- A journal's cells and records, by definition: plain lists, no program in sight. -/
import Derived.Test.YtemhhhikopemmaaKs
import Derived.Test.YtemhhhikopemmaaNum
namespace Go.Proofs.Ytemhhhikopemmaa
open Go
def zs (n : Nat) : List Int := List.replicate n 0
def bodyL (number follow : Nat) (part : List Int) : List Int := le number 3 ++ le follow 3 ++ le part.length 2 ++ part ++ zs (48 - part.length)
def cellL (number follow : Nat) (part : List Int) : List Int := hashL 9 (bodyL number follow part) 8 ++ bodyL number follow part
def manyL (n : Nat) : Nat := max ((n + 47) / 48) 1
def partL (bs : List Int) (i : Nat) : List Int := (bs.drop (i * 48)).take 48
/-- The first cells of a record. -/
def recF (number many : Nat) (bs : List Int) : Nat → List Int
  | 0 => []
  | i + 1 => recF number many bs i ++ cellL (number + i) (many - 1 - i) (partL bs i)
def recL (number : Nat) (bs : List Int) : List Int := recF number (manyL bs.length) bs (manyL bs.length)
/-- What a cell without its sum says. -/
def saysL (d : List Int) (k : Nat) : Option (Nat × List Int) :=
  if 48 < leV ((d.drop 6).take 2) then none else
  if leV (d.take 3) ≠ k then none else
  if (((d.drop 8).take 48).drop (leV ((d.drop 6).take 2)).toNat).all (· == 0) then some ((leV ((d.drop 3).take 3)).toNat, ((d.drop 8).take 48).take (leV ((d.drop 6).take 2)).toNat) else none
def cutL (bs : List Int) (k : Nat) : List Int := (bs.drop (k * 64)).take 64
/-- A cell out of a journal: how many follow, its part. -/
def takeL (bs : List Int) (k : Nat) : Option (Nat × List Int) :=
  if bs.length < (k + 1) * 64 then none else
  if hashL 9 ((cutL bs k).drop 8) 8 ≠ (cutL bs k).take 8 then none else saysL ((cutL bs k).drop 8) k
def goL (bs : List Int) (k : Nat) : Nat → Nat → List Int → Option (List Int)
  | 0, _, out => some out
  | left + 1, i, out =>
    match takeL bs (k + 1 + i) with
    | some (f, p) => if f = left ∧ out.length = (i + 1) * 48 then goL bs k left (i + 1) (out ++ p) else none
    | none => none
/-- A record: its bytes, how many cells it takes. -/
def recordL (bs : List Int) (k : Nat) : Option (List Int × Nat) :=
  match takeL bs k with
  | some (f, p) => if f < 1366 then (goL bs k f 0 p).map fun out => (out, f + 1) else none
  | none => none
end Go.Proofs.Ytemhhhikopemmaa
