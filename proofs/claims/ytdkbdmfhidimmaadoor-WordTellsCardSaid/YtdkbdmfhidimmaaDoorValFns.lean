/- The package value, as plain functions: values. -/
import Derived.Test.YtdkbdmfhidimmaaDoorBase
namespace Go.Sv
open Go

def okCh (c : UInt8) : Bool := decide (32 ≤ c.toNat) && decide (c.toNat ≤ 126)
def isTextB (s : List UInt8) : Bool := s.all okCh && decide (s.length ≤ 16)
structure Val where
  kind : Int
  n : Int
  s : List UInt8
  deriving DecidableEq
def valL (v : Val) : List V := [i64V v.kind, i64V v.n, str v.s]
def valV (v : Val) : V := .agg (valL v)
def valIs (v : Val) : Bool :=
  if v.kind = 1 then decide (v.s = [])
  else if v.kind = 2 then decide (v.n = 0) && isTextB v.s
  else if v.kind = 3 then (decide (v.n = 0) || decide (v.n = 1)) && decide (v.s = [])
  else false
end Go.Sv
