/- Plain functions on bytes that package text computes: letters, numbers, names. No Go and no memory here. -/
import Derived.Lib.Strings
import Derived.Lib.Slices
import Derived.Lib.Bytealg
namespace Go.Proofs.YtchjbkokjilobaaDoor
namespace Tx
def signs : List UInt8 := [33, 63, 42, 43, 45, 47, 60, 61, 62, 95, 46]
/-- may the byte stand in a symbol? -/
def letter (c : UInt8) : Bool := (97 ≤ c && c ≤ 122) || (48 ≤ c && c ≤ 57) || signs.contains c
def digit (c : UInt8) : Bool := 48 ≤ c && c ≤ 57
/-- without the sign -/
def bare (s : List UInt8) : List UInt8 := if s.head? = some 45 then s.tail else s
def number (s : List UInt8) : Bool := (bare s).all digit && !(bare s).isEmpty
def named (s : List UInt8) : Bool := decide (1 ≤ s.length) && decide (s.length ≤ 20) && s.all letter && !number s
end Tx
end Go.Proofs.YtchjbkokjilobaaDoor
