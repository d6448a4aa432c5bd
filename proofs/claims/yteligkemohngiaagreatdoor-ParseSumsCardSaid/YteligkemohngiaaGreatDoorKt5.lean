/-
  Lit, put together.
  Conditions: none; each part tells its own.
-/
import Derived.Test.YteligkemohngiaaGreatDoorKt2
/-
  What the building of the grammar of sums made: the unit, as abstract cells.
-/
namespace Go.B
open Go
set_option maxRecDepth 100000
def litU : AV := (.ptr 67 7)
def litN : Nat := 1944
def litL : List (Nat × List AV) := [(67, [(.str [37, 116, 111, 107, 101, 110, 32, 78, 32, 91, 48, 45, 57, 93, 43, 32, 37, 116, 111, 107, 101, 110, 32, 80, 32, 34, 43, 34, 32, 37, 108, 101, 102, 116, 32, 80, 32, 37, 37, 32, 69, 32, 58, 32, 69, 32, 80, 32, 69, 32, 123, 36, 49, 32, 43, 32, 36, 51, 125, 32, 124, 32, 78, 32, 59]), (.int .i64 (.ofNat 2000)), (.int .i64 (.ofNat 300)), (.int .i64 (.ofNat 9000)), (.int .i64 (.ofNat 10000)), (.int .i64 (.ofNat 1000)), (.int .i64 (.ofNat 100000)), (.su 192 0 2), .nils, (.su 205 0 1), (.str [69]), (.su 241 0 2), (.su 299 0 3), (.su 310 0 1), (.su 364 0 3), (.su 304 0 3), (.su 307 0 2), (.su 315 0 3), (.ptr 1550 0), (.su 516 0 3)]),
  (192, [(.str [78]), (.str []), (.str [48, 49, 50, 51, 52, 53, 54, 55, 56, 57]), (.bool true), (.str [80]), (.str [43]), (.str []), (.bool false)]),
  (202, [(.str [80])]),
  (205, [(.int .i64 (.ofNat 1)), (.su 202 0 1)]),
  (224, [(.str [69]), (.str [80]), (.str [69])]),
  (236, [(.str [78])]),
  (241, [(.str [69]), (.su 224 0 3), (.str []), (.str [36, 49, 32, 43, 32, 36, 51]), (.str [69]), (.su 236 0 1), (.str []), (.str [])]),
  (299, [(.str [36, 101, 110, 100]), (.str [78]), (.str [80])]),
  (304, [(.int .i64 (.ofNat 0)), (.int .i64 (.ofNat 0)), (.int .i64 (.ofNat 1))]),
  (307, [(.int .i64 (.ofNat 0)), (.int .i64 (.ofNat 1))]),
  (310, [(.str [69])]),
  (315, [(.str []), (.str [36, 49, 32, 43, 32, 36, 51]), (.str [])]),
  (329, [(.int .i64 (.ofNat 3))]),
  (348, [(.int .i64 (.ofNat 3)), (.int .i64 (.ofNat 2)), (.int .i64 (.ofNat 3))]),
  (361, [(.int .i64 (.ofNat 1))]),
  (364, [(.int .i64 (.ofNat 4)), (.sx 329 0 1 1), (.int .i64 (.ofNat 0)), (.int .i64 (.ofNat 3)), (.su 348 0 3), (.int .i64 (.ofNat 1)), (.int .i64 (.ofNat 3)), (.su 361 0 1), (.int .i64 (.ofNat 0))]),
  (498, [(.int .i64 (.ofNat 2)), (.int .i64 (.ofNat 1)), (.int .i64 (.ofNat 2)), (.int .i64 (.ofNat 3)), (.int .i64 (.ofNat 5)), (.int .i64 (.ofNat 0))]),
  (516, [.nils, (.su 498 0 3), .nils]),
  (1550, [(.su 299 0 3), (.su 310 0 1), (.su 364 0 3), (.su 304 0 3), (.su 307 0 2), (.su 315 0 3), (.su 1929 0 5), (.su 1930 0 5), (.su 1920 0 1)]),
  (1597, [(.int .i64 (.ofNat 0)), (.int .i64 (.ofNat 0)), (.int .i64 (.ofNat 1)), (.int .i64 (.ofNat 1)), (.int .i64 (.ofNat 0)), (.int .i64 (.ofNat 0))]),
  (1602, [(.int .i64 (.ofNat 2))]),
  (1684, [(.int .i64 (.ofNat 2)), (.int .i64 (.ofNat 2)), (.int .i64 (.ofNat 0)), (.int .i64 (.ofNat 0)), (.int .i64 (.ofNat 2)), (.int .i64 (.ofNat 2))]),
  (1687, [(.int .i64 (.negSucc 0))]),
  (1766, [(.int .i64 (.ofNat 3)), (.int .i64 (.ofNat 0)), (.int .i64 (.ofNat 0)), (.int .i64 (.ofNat 0)), (.int .i64 (.ofNat 1)), (.int .i64 (.ofNat 3))]),
  (1770, [(.int .i64 (.negSucc 0))]),
  (1821, [(.int .i64 (.ofNat 0)), (.int .i64 (.ofNat 0)), (.int .i64 (.ofNat 1)), (.int .i64 (.ofNat 1)), (.int .i64 (.ofNat 0)), (.int .i64 (.ofNat 0))]),
  (1826, [(.int .i64 (.ofNat 4))]),
  (1907, [(.int .i64 (.ofNat 1))]),
  (1920, [(.int .i64 (.ofNat 4)), (.int .i64 (.ofNat 2)), (.int .i64 (.ofNat 3)), (.su 1907 0 1), (.int .i64 (.ofNat 2)), (.int .i64 (.ofNat 1)), (.bool false)]),
  (1922, [(.int .i64 (.ofNat 2)), (.int .i64 (.ofNat 1)), (.int .i64 (.ofNat 0)), (.int .i64 (.ofNat 0)), (.int .i64 (.ofNat 2)), (.int .i64 (.ofNat 1))]),
  (1926, [(.int .i64 (.negSucc 0))]),
  (1929, [(.su 1597 0 3), (.su 1684 0 3), (.su 1766 0 3), (.su 1821 0 3), (.su 1922 0 3)]),
  (1930, [(.su 1602 0 1), (.su 1687 0 1), (.su 1770 0 1), (.su 1826 0 1), (.su 1926 0 1)])]
end Go.B
