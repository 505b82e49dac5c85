/- Bytes as hexadecimal digits: plain. -/
import Derived.Test.YtenbejbhjgkibaaEvH
set_option linter.unusedVariables false
set_option linter.unusedSimpArgs false
namespace Go.Eng.Hexa
def sign (n : Nat) : UInt8 := List.getD [48, 49, 50, 51, 52, 53, 54, 55, 56, 57, 97, 98, 99, 100, 101, 102] n 0
def two (x : UInt8) : Str := [sign (x.toNat / 16), sign (x.toNat % 16)]
def text : Str → Str
  | [] => []
  | x :: r => two x ++ text r
def digit (c : UInt8) : Int := if 48 ≤ c.toNat ∧ c.toNat ≤ 57 then c.toNat - 48 else if 97 ≤ c.toNat ∧ c.toNat ≤ 102 then c.toNat - 87 else if 65 ≤ c.toNat ∧ c.toNat ≤ 70 then c.toNat - 55 else -1
def bytes : Str → Option Str
  | [] => some []
  | [_] => none
  | x :: y :: r => if digit x < 0 ∨ digit y < 0 then none else (bytes r).map (UInt8.ofNat ((digit x).toNat * 16 + (digit y).toNat) :: ·)
end Go.Eng.Hexa
