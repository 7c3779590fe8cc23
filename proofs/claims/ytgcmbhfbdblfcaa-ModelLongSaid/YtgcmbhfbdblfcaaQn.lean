/-
  MADE BY A PROGRAM (gencfg.py): the tables of the evaluator for the program 'Try'.
-/
import Derived.Test.YtgcmbhfbdblfcaaQm
import Derived.Test.YtgcmbhfbdblfcaaProg
set_option linter.unusedVariables false
set_option linter.unusedSimpArgs false
set_option maxRecDepth 10000
namespace Go.Q
open Go.Proofs

def zTab : List (List PV) := [
  [],
  [.sc .nilFunc],
  [.sc (.int .i64 0)],
  [.sc (.int .i64 0)],
  [.sc (.bool false)],
  [.sc (.int .u8 0)],
  [.sc (.int .u8 0)],
  [.sc (.int .i64 0), .sc (.int .i64 0), .sc (.bool false), .sc (.int .u8 0)],
  [.sc (.int .i64 0), .sc (.int .i64 0), .sc (.bool false), .sc (.int .u8 0)],
  [],
  [],
  [],
  [.sc (.int .u64 0)],
  [],
  [],
  [.sc (.pointer none)],
  [.sc (.pointer none)],
  [.sc (.pointer none)],
  [.sc (.pointer none)],
  [.sc (.pointer none)],
  [],
  [.sc (.int .i32 0)],
  [.list 4 .full []],
  [.sc .nilFunc],
  [.sc (.pointer none)],
  [.sc .nilFunc],
  [.sc (.pointer none)],
  [.sc .nilFunc],
  [.sc .nilFunc],
  [.list 2 .full []],
  [.sc (.int .i64 0), .list 2 .full []],
  [.sc (.int .i64 0), .list 2 .full []],
  [.list 1 .full []],
  [.sc (.int .i64 0), .sc (.int .i64 0), .sc (.int .i64 0), .list 1 .full []],
  [.sc (.int .i64 0), .sc (.int .i64 0), .sc (.int .i64 0), .list 1 .full []],
  [.sc .nilFunc],
  [.sc (.int .i64 0)],
  [.sc .nilFunc],
  [.sc (.int .i8 0)],
  [],
  [.sc .nilFunc],
  [.sc .nilFunc],
  [.sc .nilFunc],
  [.list 4 .full []],
  [.list 14 .full []],
  [.list 1 .full []],
  [.list 4 .full [], .list 14 .full [], .list 1 .full []],
  [.list 4 .full [], .list 14 .full [], .list 1 .full []],
  [.sc .nilFunc],
  [.list 1 .full []],
  [],
  [.sc .nilFunc],
  [],
  [.sc .nilFunc],
  [.sc (.int .i64 0), .sc (.int .i64 0), .sc (.int .i64 0)],
  [.sc (.int .i64 0), .sc (.int .i64 0), .sc (.int .i64 0)],
  [.list 1 .full []],
  [.sc (.int .i64 0), .list 1 .full [], .sc (.int .i64 0), .sc (.int .i64 0), .sc (.int .i64 0), .sc (.int .i64 0), .sc (.int .i64 0), .sc (.int .i64 0), .sc (.int .i64 0), .sc (.int .i64 0), .sc (.int .i64 0), .sc (.int .i64 0), .list 1 .full [], .list 1 .full []],
  [.sc (.int .i64 0), .list 1 .full [], .sc (.int .i64 0), .sc (.int .i64 0), .sc (.int .i64 0), .sc (.int .i64 0), .sc (.int .i64 0), .sc (.int .i64 0), .sc (.int .i64 0), .sc (.int .i64 0), .sc (.int .i64 0), .sc (.int .i64 0), .list 1 .full [], .list 1 .full []],
  [.sc .nilFunc],
  [.sc .nilFunc],
  [],
  [.sc .nilFunc],
  [.sc .nilFunc],
  [.sc .nilFunc],
  [],
  [.sc .nilFunc],
  [.sc .nilFunc],
  [.sc .nilFunc],
  [.list 14 .full []],
  [.list 14 .full [], .list 14 .full [], .list 14 .full []],
  [.list 4 .full [], .list 14 .full [], .list 1 .full [], .list 1 .full [], .list 14 .full [], .list 14 .full [], .list 14 .full []],
  [.list 4 .full [], .list 14 .full [], .list 1 .full [], .list 1 .full [], .list 14 .full [], .list 14 .full [], .list 14 .full []],
  [.sc (.int .i64 0), .sc (.int .i64 0)],
  [.sc (.int .i64 0), .sc (.int .i64 0), .sc (.int .i64 0), .sc (.int .i64 0), .sc (.int .i64 0), .sc (.int .i64 0), .sc (.int .i64 0), .sc (.int .i64 0), .sc (.int .i64 0), .sc (.int .i64 0), .sc (.int .i64 0), .sc (.int .i64 0), .sc (.int .i64 0), .sc (.int .i64 0)],
  [.sc (.int .i64 0), .sc (.int .i64 0), .sc (.int .i64 0), .sc (.int .i64 0), .sc (.int .i64 0), .sc (.int .i64 0), .sc (.int .i64 0), .sc (.int .i64 0), .sc (.int .i64 0), .sc (.int .i64 0), .sc (.int .i64 0), .sc (.int .i64 0), .sc (.int .i64 0), .sc (.int .i64 0)],
  [.sc .nilFunc],
  [.list 4 .full []],
  [],
  [.sc .nilFunc],
  [.sc .nilFunc],
  [.sc .nilFunc],
  [.sc .nilFunc],
  [.sc (.int .u8 0), .sc (.int .u8 0), .sc (.int .u8 0)],
  [.sc (.int .i64 0), .sc (.int .i64 0), .sc (.int .i64 0), .sc (.int .i64 0)],
  [.sc (.int .i64 0), .sc (.int .i64 0), .sc (.int .i64 0), .sc (.int .i64 0)],
  [.sc .nilFunc],
  [.sc (.int .i64 0), .sc (.int .i64 0), .sc (.int .i64 0), .sc (.bool false)],
  [.sc (.int .i64 0), .sc (.int .i64 0), .sc (.int .i64 0), .sc (.bool false)],
  [.sc .nilFunc],
  [.sc .nilFunc],
  [.sc .nilFunc],
  [.sc .nilFunc],
  [.sc .nilFunc],
  [.sc .nilFunc],
  [.sc .nilFunc],
  [.list 1 .full [], .sc (.int .i64 0), .sc (.int .i64 0), .sc (.bool false)],
  [.list 1 .full [], .sc (.int .i64 0), .sc (.int .i64 0), .sc (.bool false)],
  [],
  [.sc .nilFunc],
  [.sc .nilFunc],
  [.sc .nilFunc],
  [.sc .nilFunc],
  [.sc .nilFunc],
  [.sc .nilFunc],
  [.sc .nilFunc],
  [.sc .nilFunc],
  [],
  [.sc .nilFunc],
  [.sc .nilFunc],
  [.sc .nilFunc],
  [.sc .nilFunc],
  [],
  [.sc .nilFunc],
  [.sc .nilFunc],
  [.list 1 .full []],
  [.list 1 .full []],
  [.sc .nilFunc],
  [],
  [.sc .nilFunc],
  [.sc .nilFunc],
  [.sc (.int .i64 0), .list 1 .full []],
  [.sc (.int .i64 0), .list 1 .full []],
  [.sc .nilFunc],
  [.sc (.pointer none)],
  [.list 1 .full []],
  [.list 1 .full []],
  [.sc .nilFunc],
  [.sc .nilFunc],
  [.sc .nilFunc],
  [.sc .nilFunc],
  [],
  [.sc .nilFunc],
  [.sc (.pointer none)],
  [.list 1 .full [], .sc (.bool false)],
  [.list 1 .full [], .sc (.bool false)],
  [.sc .nilFunc],
  [.sc .nilFunc],
  [.sc .nilFunc],
  [.sc .nilFunc],
  [.sc .nilFunc],
  [.sc .nilFunc],
  [.sc (.pointer none)],
  [.list 1 .full [], .sc (.int .i64 0), .sc (.bool false)],
  [.list 1 .full [], .sc (.int .i64 0), .sc (.bool false)],
  [.sc .nilFunc],
  [.sc .nilFunc],
  [.list 4 .full []],
  [.list 4 .full []],
  [.sc .nilFunc],
  [.sc .nilFunc],
  [.sc .nilFunc],
  [.sc .nilFunc],
  [.sc .nilFunc],
  [.sc .nilFunc],
  [.sc .nilFunc],
  [.sc .nilFunc],
  [.sc .nilFunc],
  [.sc (.int .u64 0)],
  [.sc .nilFunc],
  [.sc .nilFunc],
  [.list 4 .full [], .list 14 .full [], .list 1 .full [], .list 4 .full [], .list 1 .full [], .sc (.int .i64 0), .sc (.int .i64 0), .list 1 .full [], .sc (.int .i64 0), .sc (.int .i64 0), .sc (.int .i64 0), .sc (.int .i64 0), .sc (.int .i64 0), .sc (.int .i64 0), .sc (.int .i64 0), .sc (.int .i64 0), .sc (.int .i64 0), .sc (.int .i64 0), .list 1 .full [], .list 1 .full [], .list 4 .full []],
  [.list 4 .full [], .list 14 .full [], .list 1 .full [], .list 4 .full [], .list 1 .full [], .sc (.int .i64 0), .sc (.int .i64 0), .list 1 .full [], .sc (.int .i64 0), .sc (.int .i64 0), .sc (.int .i64 0), .sc (.int .i64 0), .sc (.int .i64 0), .sc (.int .i64 0), .sc (.int .i64 0), .sc (.int .i64 0), .sc (.int .i64 0), .sc (.int .i64 0), .list 1 .full [], .list 1 .full [], .list 4 .full []],
  [],
  [.sc .nilFunc],
  [.sc .nilFunc],
  [.sc .nilFunc],
  [.sc .nilFunc],
  [.sc .nilFunc],
  [.list 2 .full []],
  [.sc (.int .i64 0), .sc (.int .i64 0), .sc (.int .i64 0), .sc (.int .i64 0)],
  [.sc (.int .i64 0), .sc (.int .i64 0), .sc (.int .i64 0), .sc (.int .i64 0), .sc (.int .i64 0), .sc (.int .i64 0), .sc (.int .i64 0)],
  [.sc (.int .i64 0), .sc (.int .i64 0), .sc (.int .i64 0), .sc (.int .i64 0), .sc (.int .i64 0), .sc (.int .i64 0), .sc (.int .i64 0)],
  [.sc (.int .i64 0), .list 1 .full [], .sc (.int .i64 0), .sc (.int .i64 0), .sc (.int .i64 0), .sc (.int .i64 0), .sc (.int .i64 0), .sc (.int .i64 0), .sc (.int .i64 0), .sc (.int .i64 0), .sc (.int .i64 0), .sc (.int .i64 0), .list 1 .full [], .list 1 .full [], .sc (.int .i64 0), .list 4 .full [], .list 1 .full [], .sc (.int .i64 0), .sc (.int .i64 0), .sc (.int .i64 0), .sc (.int .i64 0), .list 2 .full [], .sc (.int .i64 0), .sc (.int .i64 0), .sc (.int .i64 0), .sc (.int .i64 0), .sc (.int .i64 0), .sc (.int .i64 0), .sc (.int .i64 0)],
  [.sc (.int .i64 0), .list 1 .full [], .sc (.int .i64 0), .sc (.int .i64 0), .sc (.int .i64 0), .sc (.int .i64 0), .sc (.int .i64 0), .sc (.int .i64 0), .sc (.int .i64 0), .sc (.int .i64 0), .sc (.int .i64 0), .sc (.int .i64 0), .list 1 .full [], .list 1 .full [], .sc (.int .i64 0), .list 4 .full [], .list 1 .full [], .sc (.int .i64 0), .sc (.int .i64 0), .sc (.int .i64 0), .sc (.int .i64 0), .list 2 .full [], .sc (.int .i64 0), .sc (.int .i64 0), .sc (.int .i64 0), .sc (.int .i64 0), .sc (.int .i64 0), .sc (.int .i64 0), .sc (.int .i64 0)],
  [],
  [.sc .nilFunc],
  [.sc .nilFunc],
  [.sc .nilFunc],
  [.sc (.pointer none)],
  [.sc (.int .i64 0), .sc (.int .i64 0), .sc (.int .i64 0), .sc (.int .i64 0), .sc (.int .i64 0), .sc (.int .i64 0), .sc (.int .i64 0), .sc (.int .i64 0)],
  [.list 14 .full [], .list 14 .full [], .list 14 .full [], .sc (.int .i64 0), .sc (.int .i64 0), .sc (.int .i64 0), .sc (.int .i64 0), .sc (.int .i64 0), .sc (.int .i64 0), .sc (.int .i64 0), .sc (.int .i64 0)],
  [.list 14 .full [], .list 14 .full [], .list 14 .full [], .sc (.int .i64 0), .sc (.int .i64 0), .sc (.int .i64 0), .sc (.int .i64 0), .sc (.int .i64 0), .sc (.int .i64 0), .sc (.int .i64 0), .sc (.int .i64 0)],
  [],
  [.sc .nilFunc],
  [.sc (.int .i64 0), .sc (.int .i64 0), .sc (.int .i64 0)],
  [.sc .nilFunc],
  [.list 1 .full []],
  [.sc .nilFunc],
  [.sc .nilFunc],
  [],
  [.sc .nilFunc],
  [.sc .nilFunc],
  [.sc .nilFunc],
  [],
  [.sc .nilFunc],
  [.sc .nilFunc],
  [.sc .nilFunc],
  [.sc .nilFunc],
  [.sc .nilFunc],
  [.sc .nilFunc],
  [.sc .nilFunc],
  [.sc .nilFunc],
  [],
  [.sc .nilFunc],
  [.list 4 .full []],
  [],
  [.sc .nilFunc],
  [.sc (.pointer none)],
  [.sc (.pointer none)],
  [.sc (.pointer none), .sc (.int .i64 0), .sc (.int .i64 0), .sc (.int .i64 0)],
  [.sc (.pointer none), .sc (.int .i64 0), .sc (.int .i64 0), .sc (.int .i64 0)],
  [.sc (.pointer none)],
  [.sc .nilFunc],
  [.sc (.int .u32 0)],
  [.sc .nilFunc],
  [.sc .nilFunc],
  [.sc .nilFunc],
  [.list 4 .full [], .list 14 .full [], .list 1 .full [], .list 4 .full [], .list 1 .full [], .sc (.int .i64 0), .sc (.int .i64 0), .list 1 .full [], .sc (.int .i64 0), .sc (.int .i64 0), .sc (.int .i64 0), .sc (.int .i64 0), .sc (.int .i64 0), .sc (.int .i64 0), .sc (.int .i64 0), .sc (.int .i64 0), .sc (.int .i64 0), .sc (.int .i64 0), .list 1 .full [], .list 1 .full [], .list 4 .full [], .list 2 .full [], .sc (.int .i64 0), .sc (.int .i64 0), .sc (.int .i64 0), .sc (.int .i64 0), .sc (.int .i64 0), .sc (.int .i64 0), .sc (.int .i64 0)],
  [.list 4 .full [], .list 14 .full [], .list 1 .full [], .list 4 .full [], .list 1 .full [], .sc (.int .i64 0), .sc (.int .i64 0), .list 1 .full [], .sc (.int .i64 0), .sc (.int .i64 0), .sc (.int .i64 0), .sc (.int .i64 0), .sc (.int .i64 0), .sc (.int .i64 0), .sc (.int .i64 0), .sc (.int .i64 0), .sc (.int .i64 0), .sc (.int .i64 0), .list 1 .full [], .list 1 .full [], .list 4 .full [], .list 2 .full [], .sc (.int .i64 0), .sc (.int .i64 0), .sc (.int .i64 0), .sc (.int .i64 0), .sc (.int .i64 0), .sc (.int .i64 0), .sc (.int .i64 0)],
  [.sc .nilFunc],
  [.sc .nilFunc],
  [],
  [.sc .nilFunc],
  [],
  [.sc .nilFunc],
  [.sc .nilFunc],
  [.sc .nilFunc],
  [.sc .nilFunc],
  [.sc .nilFunc],
  [],
  [.sc .nilFunc],
  [.sc .nilFunc],
  [.sc .nilFunc],
  [.sc .nilFunc],
  [.sc .nilFunc],
  [.sc .nilFunc],
  [.sc (.int .i64 0), .sc (.bool false), .sc (.bool false), .sc (.bool false), .sc (.bool false), .sc (.bool false), .sc .nilFunc, .sc .nilFunc],
  [.sc (.int .i64 0), .sc (.bool false), .sc (.bool false), .sc (.bool false), .sc (.bool false), .sc (.bool false), .sc .nilFunc, .sc .nilFunc],
  [],
  [.sc .nilFunc],
  [.sc .nilFunc],
  [.sc .nilFunc],
  [.sc .nilFunc],
  [.sc .nilFunc],
  [.sc .nilFunc],
  [.sc .nilFunc],
  [.sc (.int .i64 0), .sc (.int .i64 0), .sc (.int .i64 0), .sc (.int .i64 0)],
  [.sc .nilFunc],
  [.sc .nilFunc],
  [.sc (.pointer none)],
  [.sc .nilFunc],
  [.sc .nilFunc],
  [.sc .nilFunc],
  [.sc .nilFunc],
  [.sc .nilFunc],
  [.sc .nilFunc],
  [.sc .nilFunc],
  [.sc .nilFunc],
  [.sc .nilFunc],
  [.sc .nilFunc],
  [.sc .nilFunc],
  [],
  [],
  [],
  [],
  [],
  [.sc (.int .u8 0)],
  [.sc (.int .u8 0)],
  [.sc .nilFunc],
  [.sc (.pointer none)],
  [.sc (.int .i32 0)],
  [.sc (.int .i32 0)],
  [.sc (.int .u64 0), .sc (.int .u64 0), .sc (.int .u32 0), .sc (.int .u8 0), .sc (.int .u8 0), .sc (.int .u8 0), .sc (.int .u8 0), .sc .nilFunc, .sc (.pointer none), .sc (.int .i32 0), .sc (.int .i32 0)],
  [.sc (.int .u64 0), .sc (.int .u64 0), .sc (.int .u32 0), .sc (.int .u8 0), .sc (.int .u8 0), .sc (.int .u8 0), .sc (.int .u8 0), .sc .nilFunc, .sc (.pointer none), .sc (.int .i32 0), .sc (.int .i32 0)],
  []]

def zOf (t : TypeId) : List PV := (zTab[t]?).getD []

def planT3 (id : Nat) : Plan := match id with
  | 4 => .take 0 (.take 1 (.take 2 (.take 3 (.take 4 (.take 5 (.take 6 (.take 7 (.take 9 (.take 10 (.take 11 (.take 12 (.alt [(8, .take 13 (.take 14 (.done)))]))))))))))))
  | 13 => .take 0 (.take 1 (.take 2 (.take 3 (.take 4 (.take 5 (.take 6 (.take 7 (.take 8 (.take 9 (.alt [(10, .done)]))))))))))
  | 21 => .take 0 (.take 1 (.take 2 (.take 3 (.take 5 (.take 6 (.take 7 (.take 8 (.take 9 (.alt [(4, .alt [(10, .take 11 (.done))])])))))))))
  | _ => .alt []
def planT4 (id : Nat) : Plan := match id with
  | 13 => .take 0 (.take 1 (.take 2 (.take 3 (.take 4 (.take 5 (.take 6 (.take 7 (.take 8 (.take 9 (.take 10 (.take 11 (.take 12 (.take 13 (.take 14 (.take 15 (.take 16 (.take 17 (.take 18 (.take 19 (.take 20 (.alt [(21, .done)])))))))))))))))))))))
  | _ => .alt []
def planT5 (id : Nat) : Plan := match id with
  | 7 => .take 0 (.take 1 (.take 2 (.take 3 (.take 4 (.take 5 (.take 6 (.take 7 (.take 8 (.take 9 (.take 10 (.take 11 (.take 12 (.take 13 (.take 14 (.take 15 (.take 16 (.done)))))))))))))))))
  | _ => .alt []
def planT9 (id : Nat) : Plan := match id with
  | 6 => .take 0 (.take 1 (.take 2 (.take 3 (.take 4 (.take 5 (.take 6 (.take 7 (.take 8 (.take 9 (.take 10 (.take 12 (.alt [(11, .alt [(13, .take 14 (.take 15 (.alt [(16, .done)])))])]))))))))))))
  | _ => .alt []
def planT10 (id : Nat) : Plan := match id with
  | 20 => .take 0 (.take 1 (.take 2 (.take 3 (.take 4 (.take 5 (.take 6 (.take 7 (.take 8 (.take 9 (.take 10 (.take 11 (.take 12 (.take 13 (.take 14 (.take 15 (.take 16 (.take 17 (.alt [(18, .take 19 (.take 20 (.alt [(21, .alt [(22, .done)])]))), (21, .alt [(18, .take 19 (.take 20 (.alt [(22, .done)])))])]))))))))))))))))))
  | 21 => .take 0 (.take 1 (.take 2 (.take 3 (.take 4 (.take 5 (.done))))))
  | 24 => .take 0 (.take 1 (.take 2 (.take 3 (.take 4 (.take 5 (.take 6 (.take 7 (.alt [(8, .take 9 (.take 10 (.take 11 (.done))))]))))))))
  | 31 => .take 0 (.take 1 (.take 2 (.take 3 (.take 4 (.take 5 (.take 6 (.take 7 (.take 8 (.take 9 (.take 10 (.take 11 (.take 12 (.take 13 (.take 14 (.take 15 (.take 16 (.take 17 (.take 18 (.take 19 (.take 20 (.alt [(21, .take 22 (.take 23 (.take 24 (.take 25 (.alt [(26, .done)])))))])))))))))))))))))))))
  | _ => .alt []
def planT12 (id : Nat) : Plan := match id with
  | 6 => .take 0 (.take 1 (.take 2 (.take 3 (.alt [(4, .take 5 (.alt [(6, .alt [(7, .done)])])), (6, .alt [(4, .take 5 (.alt [(7, .done)]))])]))))
  | _ => .alt []
def planT13 (id : Nat) : Plan := match id with
  | 8 => .take 0 (.take 1 (.take 2 (.take 3 (.take 5 (.take 6 (.take 7 (.take 8 (.take 9 (.alt [(4, .take 10 (.take 11 (.take 12 (.take 13 (.take 14 (.take 16 (.take 17 (.alt [(15, .alt [(18, .take 19 (.take 20 (.alt [(21, .done)])))])]))))))))])))))))))
  | _ => .alt []
def planT14 (id : Nat) : Plan := match id with
  | 6 => .take 0 (.take 1 (.take 2 (.take 3 (.take 5 (.take 6 (.take 7 (.take 8 (.alt [(4, .alt [(9, .take 10 (.take 11 (.take 12 (.alt [(13, .alt [(14, .alt [(15, .done)])])])))), (13, .alt [(9, .take 10 (.take 11 (.take 12 (.alt [(14, .alt [(15, .done)])]))))])]), (13, .alt [(4, .alt [(9, .take 10 (.take 11 (.take 12 (.alt [(14, .alt [(15, .done)])]))))])])]))))))))
  | 18 => .take 0 (.take 1 (.take 2 (.take 3 (.take 4 (.take 5 (.take 6 (.take 7 (.take 8 (.take 9 (.take 10 (.take 11 (.take 12 (.take 13 (.take 14 (.take 15 (.take 16 (.take 17 (.take 18 (.take 19 (.take 20 (.take 21 (.take 22 (.take 23 (.take 24 (.take 25 (.take 26 (.take 27 (.take 28 (.take 29 (.take 30 (.take 31 (.take 32 (.take 33 (.take 34 (.take 35 (.take 36 (.take 37 (.take 38 (.take 39 (.take 40 (.take 41 (.take 42 (.take 43 (.take 44 (.take 45 (.take 46 (.take 47 (.take 48 (.take 49 (.take 50 (.take 51 (.take 52 (.take 53 (.take 54 (.take 55 (.take 56 (.take 57 (.take 58 (.take 59 (.take 60 (.take 61 (.take 62 (.take 63 (.done))))))))))))))))))))))))))))))))))))))))))))))))))))))))))))))))
  | 20 => .take 0 (.take 1 (.take 2 (.take 3 (.take 4 (.take 5 (.take 6 (.take 7 (.take 8 (.take 9 (.take 10 (.take 11 (.take 12 (.take 13 (.take 14 (.done)))))))))))))))
  | _ => .alt []
def planT16 (id : Nat) : Plan := match id with
  | 39 => .take 0 (.take 1 (.take 2 (.take 3 (.take 4 (.take 5 (.take 6 (.take 7 (.take 8 (.take 9 (.take 10 (.take 11 (.take 12 (.take 13 (.take 14 (.take 15 (.take 16 (.take 17 (.take 18 (.alt [(19, .take 20 (.take 21 (.take 22 (.take 23 (.take 24 (.take 25 (.take 26 (.take 27 (.take 28 (.take 29 (.take 30 (.alt [(31, .take 32 (.alt [(33, .done)]))]))))))))))))])))))))))))))))))))
  | _ => .alt []
def planT17 (id : Nat) : Plan := match id with
  | 33 => .take 0 (.take 1 (.take 2 (.take 3 (.take 4 (.take 5 (.take 6 (.take 7 (.take 8 (.take 9 (.take 10 (.take 11 (.take 12 (.take 13 (.take 14 (.take 15 (.take 16 (.take 17 (.take 18 (.take 19 (.take 20 (.take 21 (.take 22 (.take 23 (.take 24 (.alt [(25, .alt [(26, .done)])])))))))))))))))))))))))))
  | 34 => .take 0 (.take 1 (.take 2 (.take 3 (.take 4 (.take 5 (.done))))))
  | 36 => .take 0 (.take 1 (.take 2 (.take 3 (.take 4 (.take 5 (.take 6 (.take 7 (.take 8 (.take 9 (.take 10 (.take 11 (.take 12 (.take 13 (.take 14 (.take 15 (.take 16 (.take 17 (.take 18 (.take 19 (.take 20 (.take 21 (.take 22 (.take 23 (.done))))))))))))))))))))))))
  | _ => .alt []
def planT19 (id : Nat) : Plan := match id with
  | 5 => .take 0 (.take 2 (.alt [(1, .alt [(3, .alt [(4, .alt [(5, .done)])])])]))
  | 6 => .take 0 (.take 1 (.take 2 (.take 4 (.alt [(3, .alt [(5, .take 6 (.take 7 (.take 8 (.take 9 (.take 10 (.take 11 (.take 12 (.take 13 (.take 14 (.take 15 (.take 16 (.take 17 (.take 18 (.take 19 (.take 20 (.take 21 (.take 22 (.take 24 (.alt [(23, .alt [(25, .take 26 (.take 27 (.alt [(28, .done)])))])])))))))))))))))))))])]))))
  | _ => .alt []
def planT21 (id : Nat) : Plan := match id with
  | 8 => .take 0 (.take 2 (.take 3 (.take 4 (.take 5 (.take 6 (.take 7 (.take 9 (.take 10 (.take 11 (.take 12 (.take 13 (.take 14 (.take 15 (.take 17 (.alt [(1, .alt [(8, .alt [(16, .take 18 (.alt [(19, .done)]))])])])))))))))))))))
  | _ => .alt []
def planT22 (id : Nat) : Plan := match id with
  | 9 => .take 0 (.take 2 (.take 3 (.take 4 (.take 5 (.take 7 (.take 8 (.take 9 (.take 10 (.take 12 (.alt [(1, .alt [(6, .alt [(11, .take 13 (.alt [(14, .done)]))])])]))))))))))
  | 19 => .take 0 (.take 1 (.take 2 (.take 3 (.take 4 (.take 5 (.take 6 (.take 7 (.take 8 (.take 9 (.take 10 (.take 11 (.take 12 (.take 13 (.done))))))))))))))
  | _ => .alt []
def planT31 (id : Nat) : Plan := match id with
  | 11 => .take 0 (.take 1 (.take 2 (.take 3 (.take 4 (.take 5 (.take 6 (.take 7 (.take 8 (.take 9 (.take 10 (.take 11 (.take 12 (.take 13 (.take 14 (.take 15 (.take 16 (.take 17 (.take 18 (.take 19 (.take 20 (.take 21 (.take 22 (.take 23 (.take 24 (.take 25 (.take 26 (.take 27 (.take 28 (.take 29 (.take 30 (.take 31 (.done))))))))))))))))))))))))))))))))
  | 12 => .take 0 (.take 1 (.take 2 (.take 3 (.take 4 (.take 5 (.take 6 (.take 7 (.take 8 (.take 9 (.take 10 (.take 11 (.take 12 (.take 13 (.take 14 (.take 15 (.take 16 (.take 17 (.take 18 (.take 19 (.alt [(20, .done)]))))))))))))))))))))
  | _ => .alt []
def planT32 (id : Nat) : Plan := match id with
  | 6 => .take 0 (.take 1 (.take 2 (.take 3 (.take 4 (.take 5 (.take 6 (.take 7 (.take 8 (.done)))))))))
  | _ => .alt []
def planT38 (id : Nat) : Plan := match id with
  | 3 => .take 0 (.take 1 (.take 3 (.alt [(2, .alt [(4, .done)])])))
  | 4 => .take 0 (.take 1 (.take 3 (.alt [(2, .alt [(4, .done)])])))
  | 5 => .take 0 (.take 1 (.take 3 (.alt [(2, .alt [(4, .done)])])))
  | _ => .alt []
def planT39 (id : Nat) : Plan := match id with
  | 8 => .take 0 (.take 1 (.take 2 (.take 3 (.take 4 (.take 5 (.take 6 (.take 7 (.take 8 (.take 9 (.alt [(10, .alt [(11, .done)])]))))))))))
  | _ => .alt []
def planT40 (id : Nat) : Plan := match id with
  | 14 => .take 0 (.take 1 (.take 2 (.alt [(3, .alt [(4, .alt [(5, .take 6 (.alt [(7, .done)]))])])])))
  | 17 => .take 0 (.take 1 (.take 2 (.take 3 (.take 4 (.take 5 (.take 6 (.take 7 (.take 8 (.take 9 (.take 10 (.take 11 (.take 12 (.take 13 (.take 14 (.take 15 (.take 16 (.take 17 (.take 18 (.take 19 (.done))))))))))))))))))))
  | 19 => .take 0 (.take 1 (.take 2 (.take 3 (.take 4 (.alt [(5, .alt [(6, .alt [(7, .done)])])])))))
  | _ => .alt []
def planT45 (id : Nat) : Plan := match id with
  | 10 => .take 0 (.take 1 (.take 2 (.take 3 (.take 4 (.take 5 (.take 6 (.take 7 (.alt [(8, .alt [(9, .done)])]))))))))
  | _ => .alt []
def planT46 (id : Nat) : Plan := match id with
  | 12 => .take 0 (.take 1 (.take 2 (.take 3 (.take 4 (.take 5 (.take 6 (.take 7 (.take 9 (.take 10 (.take 11 (.take 12 (.take 13 (.take 14 (.take 15 (.alt [(8, .alt [(16, .alt [(17, .alt [(18, .alt [(19, .done)])])])])])))))))))))))))
  | 14 => .take 0 (.take 1 (.take 2 (.take 3 (.take 4 (.take 5 (.take 6 (.take 7 (.take 9 (.take 10 (.take 11 (.take 12 (.take 13 (.take 14 (.take 15 (.alt [(8, .alt [(16, .alt [(17, .alt [(18, .alt [(19, .done)])])])])])))))))))))))))
  | 23 => .take 0 (.take 1 (.take 2 (.take 3 (.take 4 (.take 5 (.take 6 (.take 7 (.take 8 (.take 9 (.take 10 (.take 11 (.take 12 (.take 13 (.take 14 (.take 15 (.take 16 (.alt [(17, .take 18 (.alt [(19, .alt [(20, .alt [(21, .alt [(22, .done)])])])]))])))))))))))))))))
  | 24 => .take 0 (.take 1 (.take 2 (.take 3 (.take 4 (.take 5 (.alt [(6, .take 7 (.alt [(8, .alt [(9, .alt [(10, .alt [(11, .done)])])])]))]))))))
  | 33 => .take 0 (.take 1 (.take 2 (.take 3 (.take 4 (.take 5 (.take 6 (.take 7 (.take 8 (.take 9 (.take 10 (.take 11 (.take 12 (.take 13 (.take 14 (.take 15 (.take 16 (.alt [(17, .alt [(18, .alt [(19, .alt [(20, .alt [(21, .done)])])])])])))))))))))))))))
  | 34 => .take 0 (.take 1 (.take 2 (.take 3 (.take 4 (.take 5 (.take 6 (.take 7 (.take 8 (.take 9 (.take 10 (.take 11 (.alt [(12, .alt [(13, .alt [(14, .alt [(15, .alt [(16, .done)])])])])]))))))))))))
  | _ => .alt []
def planT47 (id : Nat) : Plan := match id with
  | 6 => .take 0 (.take 1 (.take 2 (.take 3 (.take 4 (.take 5 (.take 6 (.take 7 (.take 8 (.done)))))))))
  | _ => .alt []
def planT57 (id : Nat) : Plan := match id with
  | 5 => .take 0 (.take 1 (.take 2 (.take 3 (.take 4 (.take 5 (.take 6 (.take 7 (.take 8 (.take 9 (.alt [(10, .take 11 (.alt [(12, .done)]))]))))))))))
  | _ => .alt []
def planT61 (id : Nat) : Plan := match id with
  | 7 => .take 0 (.take 1 (.take 2 (.take 3 (.take 4 (.take 5 (.take 6 (.take 7 (.take 8 (.take 9 (.alt [(10, .take 11 (.take 12 (.alt [(13, .done)])))]))))))))))
  | _ => .alt []
def planT65 (id : Nat) : Plan := match id with
  | 1 => .take 0 (.take 1 (.take 2 (.take 3 (.take 4 (.take 5 (.take 6 (.take 7 (.take 9 (.alt [(8, .alt [(10, .take 11 (.take 12 (.take 13 (.alt [(14, .alt [(15, .alt [(16, .done)])])])))), (14, .alt [(10, .take 11 (.take 12 (.take 13 (.alt [(15, .alt [(16, .done)])]))))])]), (14, .alt [(8, .alt [(10, .take 11 (.take 12 (.take 13 (.alt [(15, .alt [(16, .done)])]))))])])])))))))))
  | _ => .alt []
def planT66 (id : Nat) : Plan := match id with
  | 8 => .take 1 (.take 2 (.take 3 (.take 4 (.take 5 (.take 6 (.take 7 (.take 8 (.take 9 (.take 10 (.take 11 (.take 12 (.alt [(0, .alt [(13, .alt [(14, .take 15 (.alt [(16, .done)]))])])]))))))))))))
  | _ => .alt []
def planT67 (id : Nat) : Plan := match id with
  | 7 => .take 0 (.take 1 (.take 2 (.take 3 (.take 4 (.take 5 (.take 6 (.take 7 (.take 8 (.take 9 (.take 10 (.take 11 (.take 12 (.take 13 (.take 14 (.take 15 (.take 16 (.take 17 (.take 18 (.take 19 (.take 20 (.take 21 (.take 22 (.take 23 (.alt [(24, .alt [(25, .done)])]))))))))))))))))))))))))
  | 11 => .take 0 (.take 1 (.take 2 (.take 3 (.take 4 (.take 5 (.take 6 (.take 7 (.take 8 (.take 9 (.take 10 (.alt [(11, .alt [(12, .take 13 (.alt [(14, .done)]))])])))))))))))
  | 12 => .take 0 (.take 1 (.take 2 (.take 3 (.take 4 (.take 5 (.take 6 (.take 7 (.take 8 (.take 9 (.take 10 (.alt [(11, .alt [(12, .take 13 (.alt [(14, .done)]))])])))))))))))
  | 26 => .take 0 (.take 2 (.take 3 (.alt [(1, .alt [(4, .alt [(5, .alt [(6, .alt [(7, .alt [(8, .done)])])])])])])))
  | _ => .alt []
def planT69 (id : Nat) : Plan := match id with
  | 4 => .take 0 (.take 1 (.take 2 (.take 3 (.take 4 (.take 5 (.alt [(6, .alt [(7, .done)])]))))))
  | _ => .alt []
def planT73 (id : Nat) : Plan := match id with
  | 11 => .take 0 (.take 1 (.take 2 (.take 3 (.take 4 (.take 5 (.take 6 (.take 7 (.take 8 (.done)))))))))
  | 13 => .take 0 (.take 1 (.take 2 (.take 3 (.take 4 (.take 5 (.take 6 (.take 7 (.take 8 (.alt [(9, .alt [(10, .done)])])))))))))
  | _ => .alt []
def planT75 (id : Nat) : Plan := match id with
  | 9 => .take 0 (.take 1 (.take 2 (.take 3 (.take 4 (.take 5 (.alt [(6, .take 7 (.take 8 (.alt [(9, .done)])))]))))))
  | _ => .alt []
def planT81 (id : Nat) : Plan := match id with
  | 12 => .take 0 (.take 1 (.take 2 (.take 3 (.take 4 (.take 5 (.take 6 (.take 7 (.take 9 (.alt [(8, .take 10 (.alt [(11, .done)]))])))))))))
  | _ => .alt []
def planT90 (id : Nat) : Plan := match id with
  | 6 => .take 0 (.take 1 (.alt [(2, .take 3 (.take 4 (.take 5 (.take 6 (.take 7 (.take 8 (.take 9 (.take 10 (.take 11 (.take 12 (.done)))))))))))]))
  | 16 => .take 0 (.take 1 (.take 2 (.take 3 (.take 4 (.alt [(5, .take 6 (.take 7 (.take 8 (.alt [(9, .alt [(10, .done)])]))))])))))
  | _ => .alt []
def planT93 (id : Nat) : Plan := match id with
  | 0 => .take 0 (.take 1 (.take 2 (.take 4 (.alt [(3, .alt [(5, .take 6 (.alt [(7, .alt [(8, .take 9 (.alt [(10, .done)]))])]))])]))))
  | _ => .alt []
def planT94 (id : Nat) : Plan := match id with
  | 2 => .take 0 (.take 1 (.take 2 (.take 3 (.take 4 (.take 5 (.take 6 (.take 7 (.take 8 (.take 9 (.take 10 (.take 11 (.take 12 (.alt [(13, .done)])))))))))))))
  | _ => .alt []
def planT96 (id : Nat) : Plan := match id with
  | 0 => .take 0 (.take 1 (.take 2 (.alt [(3, .alt [(4, .alt [(5, .take 6 (.alt [(7, .done)]))])])])))
  | _ => .alt []
def planT97 (id : Nat) : Plan := match id with
  | 2 => .take 0 (.take 1 (.take 3 (.alt [(2, .alt [(4, .done)])])))
  | 3 => .take 0 (.take 2 (.take 4 (.take 6 (.alt [(1, .take 8 (.alt [(3, .alt [(5, .alt [(7, .alt [(9, .take 10 (.alt [(11, .take 12 (.alt [(13, .take 14 (.alt [(15, .done)]))]))]))])])])]))]))))
  | 5 => .take 0 (.take 2 (.alt [(1, .take 4 (.alt [(3, .alt [(5, .take 6 (.alt [(7, .done)]))])]))]))
  | 7 => .take 0 (.take 1 (.take 3 (.alt [(2, .alt [(4, .done)])])))
  | 8 => .take 0 (.take 1 (.take 3 (.alt [(2, .alt [(4, .done)])])))
  | _ => .alt []
def planT98 (id : Nat) : Plan := match id with
  | 0 => .take 0 (.take 1 (.take 2 (.alt [(3, .alt [(4, .alt [(5, .take 6 (.alt [(7, .done)]))])])])))
  | _ => .alt []
def planT100 (id : Nat) : Plan := match id with
  | 6 => .take 0 (.take 1 (.take 2 (.take 3 (.take 4 (.take 5 (.take 6 (.take 7 (.take 8 (.done)))))))))
  | _ => .alt []
def planT101 (id : Nat) : Plan := match id with
  | 6 => .take 0 (.take 1 (.take 2 (.take 3 (.take 4 (.take 5 (.take 6 (.take 7 (.take 8 (.done)))))))))
  | _ => .alt []
def planT102 (id : Nat) : Plan := match id with
  | 7 => .take 0 (.take 1 (.take 2 (.take 3 (.take 4 (.take 5 (.take 6 (.take 7 (.take 8 (.take 9 (.take 10 (.done)))))))))))
  | 12 => .take 0 (.take 1 (.take 2 (.take 3 (.take 4 (.take 5 (.take 6 (.take 7 (.take 8 (.take 9 (.take 10 (.done)))))))))))
  | _ => .alt []
def planT103 (id : Nat) : Plan := match id with
  | 1 => .take 0 (.take 1 (.take 2 (.take 3 (.take 4 (.take 5 (.take 6 (.take 7 (.take 8 (.take 9 (.take 10 (.take 11 (.take 12 (.take 13 (.take 14 (.take 15 (.take 16 (.take 17 (.done))))))))))))))))))
  | 8 => .take 0 (.take 1 (.take 2 (.take 3 (.take 4 (.take 5 (.take 6 (.take 7 (.take 8 (.take 9 (.take 10 (.take 11 (.take 12 (.take 13 (.take 14 (.take 15 (.alt [(16, .done)]))))))))))))))))
  | _ => .alt []
def planT106 (id : Nat) : Plan := match id with
  | 16 => .take 0 (.take 1 (.take 2 (.alt [(3, .take 4 (.alt [(5, .alt [(6, .take 7 (.alt [(8, .done)]))])]))])))
  | 21 => .take 0 (.take 1 (.take 2 (.alt [(3, .take 4 (.alt [(5, .alt [(6, .take 7 (.alt [(8, .done)]))])]))])))
  | _ => .alt []
def planT110 (id : Nat) : Plan := match id with
  | 14 => .take 0 (.take 1 (.take 4 (.take 5 (.take 6 (.take 7 (.take 8 (.alt [(2, .alt [(3, .alt [(9, .alt [(10, .done)])])])])))))))
  | _ => .alt []
def planT111 (id : Nat) : Plan := match id with
  | 5 => .take 0 (.take 1 (.take 2 (.take 3 (.take 4 (.take 5 (.take 6 (.take 7 (.take 8 (.take 9 (.take 10 (.take 11 (.take 12 (.take 13 (.take 14 (.take 15 (.take 16 (.take 17 (.take 18 (.alt [(19, .done)])))))))))))))))))))
  | _ => .alt []
def planT113 (id : Nat) : Plan := match id with
  | 10 => .take 0 (.take 1 (.take 2 (.take 3 (.take 4 (.take 5 (.take 6 (.take 7 (.take 8 (.take 9 (.alt [(10, .take 11 (.alt [(12, .done)]))]))))))))))
  | 11 => .take 0 (.take 1 (.take 2 (.take 3 (.take 4 (.take 5 (.take 6 (.alt [(7, .alt [(8, .done)])])))))))
  | 14 => .take 0 (.take 1 (.take 2 (.take 3 (.take 4 (.take 5 (.alt [(6, .take 7 (.alt [(8, .done)]))]))))))
  | 16 => .take 0 (.take 1 (.take 2 (.take 3 (.take 4 (.take 5 (.take 6 (.alt [(7, .alt [(8, .done)])])))))))
  | _ => .alt []
def planT114 (id : Nat) : Plan := match id with
  | 4 => .take 0 (.take 1 (.take 2 (.take 3 (.take 4 (.take 5 (.take 6 (.take 7 (.take 8 (.take 9 (.take 10 (.take 11 (.take 12 (.take 13 (.take 14 (.take 15 (.take 16 (.take 17 (.take 18 (.alt [(19, .done)])))))))))))))))))))
  | _ => .alt []
def planT120 (id : Nat) : Plan := match id with
  | 1 => .take 0 (.take 2 (.take 3 (.alt [(1, .take 4 (.alt [(5, .done)]))])))
  | _ => .alt []
def planT121 (id : Nat) : Plan := match id with
  | 15 => .take 0 (.take 1 (.take 2 (.take 3 (.take 4 (.take 5 (.take 6 (.alt [(7, .alt [(8, .alt [(9, .done)])])])))))))
  | _ => .alt []
def planT123 (id : Nat) : Plan := match id with
  | 5 => .take 0 (.take 1 (.take 2 (.take 4 (.take 5 (.take 7 (.take 8 (.take 10 (.take 11 (.alt [(3, .alt [(6, .alt [(9, .alt [(12, .alt [(13, .done)])])])])])))))))))
  | 7 => .take 0 (.take 1 (.take 2 (.take 4 (.take 5 (.take 7 (.take 8 (.take 10 (.take 11 (.alt [(3, .alt [(6, .alt [(9, .alt [(12, .alt [(13, .done)])])])])])))))))))
  | 11 => .take 0 (.take 1 (.take 2 (.take 3 (.take 4 (.take 6 (.take 7 (.take 8 (.take 9 (.take 11 (.take 12 (.take 13 (.take 14 (.alt [(5, .alt [(10, .alt [(15, .alt [(16, .done)])])])])))))))))))))
  | 13 => .take 0 (.take 1 (.take 2 (.take 4 (.take 5 (.alt [(3, .alt [(6, .alt [(7, .done)])])])))))
  | _ => .alt []
def planT125 (id : Nat) : Plan := match id with
  | 6 => .take 0 (.take 1 (.take 2 (.take 3 (.take 4 (.take 5 (.take 6 (.take 7 (.take 8 (.done)))))))))
  | _ => .alt []
def planT127 (id : Nat) : Plan := match id with
  | 6 => .take 0 (.take 1 (.take 2 (.take 3 (.take 4 (.take 5 (.take 6 (.take 7 (.take 8 (.done)))))))))
  | _ => .alt []
def planT129 (id : Nat) : Plan := match id with
  | 6 => .take 0 (.take 1 (.take 2 (.take 3 (.take 4 (.take 5 (.take 6 (.take 7 (.take 8 (.take 9 (.alt [(10, .alt [(11, .done)])]))))))))))
  | 10 => .take 0 (.take 1 (.take 2 (.take 3 (.take 4 (.take 5 (.alt [(6, .alt [(7, .take 8 (.alt [(9, .done)]))])]))))))
  | _ => .alt []
def planT130 (id : Nat) : Plan := match id with
  | 6 => .take 0 (.take 1 (.take 2 (.take 3 (.take 9 (.take 11 (.alt [(4, .take 5 (.take 6 (.take 7 (.take 8 (.alt [(10, .take 12 (.alt [(13, .alt [(14, .done)])])), (13, .alt [(10, .take 12 (.alt [(14, .done)]))])]))))), (13, .alt [(4, .take 5 (.take 6 (.take 7 (.take 8 (.alt [(10, .take 12 (.alt [(14, .done)]))])))))])]))))))
  | _ => .alt []
def planT132 (id : Nat) : Plan := match id with
  | 1 => .take 0 (.take 1 (.take 2 (.take 3 (.take 4 (.alt [(5, .take 6 (.take 7 (.take 8 (.take 9 (.take 10 (.alt [(11, .alt [(12, .done)])])))))), (11, .alt [(5, .take 6 (.take 7 (.take 8 (.take 9 (.take 10 (.alt [(12, .done)]))))))])])))))
  | 3 => .take 1 (.alt [(0, .alt [(2, .alt [(3, .take 4 (.alt [(5, .done)]))])])])
  | _ => .alt []
def planT138 (id : Nat) : Plan := match id with
  | 1 => .take 0 (.take 1 (.take 2 (.take 3 (.take 4 (.take 5 (.take 6 (.take 7 (.take 8 (.take 9 (.take 10 (.take 11 (.take 12 (.take 13 (.take 14 (.take 15 (.alt [(16, .take 17 (.take 18 (.take 19 (.alt [(20, .alt [(21, .alt [(22, .done)])])])))), (20, .alt [(16, .take 17 (.take 18 (.take 19 (.alt [(21, .alt [(22, .done)])]))))])]))))))))))))))))
  | 7 => .take 0 (.take 1 (.take 2 (.take 3 (.take 4 (.take 5 (.take 6 (.take 7 (.take 8 (.take 9 (.take 10 (.take 11 (.take 12 (.take 13 (.take 14 (.take 15 (.take 16 (.take 17 (.take 18 (.take 19 (.take 20 (.take 21 (.take 22 (.take 23 (.take 24 (.take 25 (.take 26 (.take 27 (.take 28 (.take 29 (.take 30 (.take 31 (.alt [(32, .alt [(33, .alt [(34, .done)])])]))))))))))))))))))))))))))))))))
  | _ => .alt []
def planT139 (id : Nat) : Plan := match id with
  | 2 => .take 0 (.take 1 (.take 2 (.take 3 (.take 4 (.take 5 (.take 6 (.take 7 (.take 8 (.take 9 (.take 10 (.take 11 (.take 12 (.take 13 (.take 14 (.take 15 (.take 16 (.take 17 (.take 18 (.take 19 (.take 20 (.take 21 (.take 22 (.take 23 (.take 24 (.alt [(25, .done)])))))))))))))))))))))))))
  | _ => .alt []
def planT140 (id : Nat) : Plan := match id with
  | 1 => .take 0 (.take 1 (.take 2 (.take 3 (.take 4 (.take 5 (.take 6 (.take 7 (.take 8 (.take 9 (.take 10 (.take 11 (.take 12 (.take 13 (.take 14 (.take 15 (.alt [(16, .take 17 (.take 18 (.take 19 (.alt [(20, .alt [(21, .alt [(22, .done)])])])))), (20, .alt [(16, .take 17 (.take 18 (.take 19 (.alt [(21, .alt [(22, .done)])]))))])]))))))))))))))))
  | 2 => .take 0 (.take 1 (.take 2 (.take 3 (.take 4 (.take 5 (.take 6 (.take 7 (.take 8 (.take 9 (.take 10 (.take 11 (.take 12 (.take 13 (.take 14 (.take 15 (.take 16 (.take 17 (.take 18 (.take 19 (.take 20 (.alt [(21, .alt [(22, .done)])])))))))))))))))))))))
  | 8 => .take 0 (.take 1 (.take 2 (.take 3 (.take 4 (.take 5 (.take 6 (.take 7 (.take 8 (.take 9 (.take 10 (.take 11 (.alt [(12, .done)]))))))))))))
  | _ => .alt []
def planT142 (id : Nat) : Plan := match id with
  | 6 => .take 0 (.take 1 (.take 2 (.take 3 (.take 4 (.take 5 (.take 6 (.take 7 (.take 8 (.done)))))))))
  | _ => .alt []
def planT143 (id : Nat) : Plan := match id with
  | 6 => .take 0 (.take 1 (.take 2 (.take 3 (.take 4 (.take 5 (.take 6 (.take 7 (.alt [(8, .take 9 (.alt [(10, .done)]))]))))))))
  | 7 => .take 0 (.take 1 (.take 2 (.take 3 (.take 4 (.take 5 (.take 6 (.alt [(7, .done)])))))))
  | 11 => .take 0 (.take 1 (.take 2 (.take 3 (.take 4 (.take 5 (.take 6 (.alt [(7, .done)])))))))
  | _ => .alt []
def planT148 (id : Nat) : Plan := match id with
  | 9 => .take 0 (.take 1 (.take 2 (.take 3 (.take 4 (.take 5 (.take 6 (.take 7 (.take 8 (.take 9 (.take 10 (.take 11 (.take 12 (.take 13 (.take 14 (.take 15 (.take 16 (.alt [(17, .take 18 (.take 19 (.take 20 (.done))))])))))))))))))))))
  | _ => .alt []
def planT151 (id : Nat) : Plan := match id with
  | 14 => .take 0 (.take 1 (.take 2 (.take 3 (.take 4 (.take 5 (.take 6 (.take 7 (.alt [(8, .take 9 (.take 10 (.take 11 (.take 12 (.take 13 (.take 14 (.take 15 (.take 16 (.take 17 (.take 18 (.take 19 (.take 20 (.take 21 (.take 22 (.take 23 (.take 24 (.take 25 (.take 26 (.take 27 (.alt [(28, .take 29 (.take 30 (.take 31 (.take 32 (.done)))))]))))))))))))))))))))]))))))))
  | _ => .alt []
def planT154 (id : Nat) : Plan := match id with
  | 10 => .take 0 (.take 1 (.take 2 (.take 3 (.take 4 (.take 5 (.take 6 (.take 7 (.take 9 (.take 10 (.take 11 (.take 12 (.take 13 (.take 14 (.take 15 (.take 16 (.take 18 (.alt [(8, .alt [(17, .take 19 (.alt [(20, .done)]))])])))))))))))))))))
  | 15 => .take 0 (.take 1 (.take 2 (.take 3 (.take 4 (.take 5 (.done))))))
  | 20 => .take 0 (.take 1 (.take 2 (.take 3 (.take 4 (.take 5 (.take 6 (.take 7 (.take 8 (.take 9 (.take 10 (.take 11 (.take 12 (.take 13 (.take 14 (.take 15 (.take 16 (.take 17 (.done))))))))))))))))))
  | 22 => .take 0 (.take 1 (.take 2 (.take 3 (.take 4 (.take 5 (.take 6 (.take 7 (.take 8 (.take 9 (.take 10 (.take 11 (.take 12 (.alt [(13, .done)])))))))))))))
  | 24 => .take 0 (.take 1 (.take 3 (.alt [(2, .alt [(4, .take 5 (.done))])])))
  | _ => .alt []
def planT155 (id : Nat) : Plan := match id with
  | 3 => .take 0 (.take 1 (.take 2 (.take 3 (.take 4 (.take 5 (.take 6 (.take 7 (.take 8 (.take 9 (.take 10 (.take 11 (.take 12 (.alt [(13, .alt [(14, .done)])])))))))))))))
  | 5 => .take 0 (.take 1 (.take 2 (.take 3 (.take 4 (.take 5 (.take 6 (.take 7 (.take 8 (.take 9 (.alt [(10, .alt [(11, .done)])]))))))))))
  | 7 => .take 0 (.take 2 (.take 3 (.take 5 (.take 6 (.alt [(1, .take 4 (.alt [(7, .alt [(8, .done)])]))])))))
  | _ => .alt []
def planT157 (id : Nat) : Plan := match id with
  | 0 => .take 0 (.take 1 (.take 2 (.alt [(3, .alt [(4, .alt [(5, .take 6 (.alt [(7, .done)]))])])])))
  | _ => .alt []
def planT158 (id : Nat) : Plan := match id with
  | 2 => .take 0 (.take 1 (.take 2 (.take 3 (.take 4 (.take 5 (.take 6 (.take 7 (.take 8 (.take 9 (.alt [(10, .done)]))))))))))
  | _ => .alt []
def planT159 (id : Nat) : Plan := match id with
  | 0 => .take 0 (.take 1 (.take 2 (.alt [(3, .take 4 (.alt [(5, .alt [(6, .take 7 (.alt [(8, .done)]))])]))])))
  | _ => .alt []
def planT160 (id : Nat) : Plan := match id with
  | 0 => .take 0 (.take 1 (.take 2 (.alt [(3, .alt [(4, .alt [(5, .take 6 (.alt [(7, .done)]))])])])))
  | _ => .alt []
def planT170 (id : Nat) : Plan := match id with
  | 8 => .take 0 (.take 1 (.take 2 (.take 3 (.take 4 (.take 5 (.take 6 (.take 7 (.take 8 (.take 9 (.take 10 (.take 11 (.take 12 (.take 13 (.alt [(14, .alt [(15, .alt [(16, .done)])]), (15, .alt [(14, .alt [(16, .done)])])]))))))))))))))
  | 11 => .take 0 (.take 1 (.take 2 (.take 3 (.take 4 (.take 5 (.take 6 (.alt [(7, .take 8 (.take 9 (.take 10 (.alt [(11, .alt [(12, .done)])]))))])))))))
  | _ => .alt []
def planT171 (id : Nat) : Plan := match id with
  | 7 => .take 0 (.take 1 (.take 2 (.take 3 (.take 4 (.take 5 (.take 6 (.take 7 (.take 8 (.take 9 (.alt [(10, .alt [(11, .alt [(12, .done)])])]))))))))))
  | 9 => .take 0 (.take 1 (.take 2 (.take 3 (.take 4 (.take 5 (.take 6 (.alt [(7, .alt [(8, .done)])])))))))
  | 13 => .take 0 (.take 1 (.take 2 (.take 3 (.take 4 (.take 5 (.take 6 (.take 7 (.take 8 (.take 9 (.take 10 (.take 11 (.take 12 (.take 13 (.take 14 (.take 15 (.take 16 (.take 17 (.take 18 (.alt [(19, .alt [(20, .alt [(21, .done)])])])))))))))))))))))))
  | 21 => .take 0 (.take 1 (.take 2 (.take 3 (.take 4 (.alt [(5, .alt [(6, .done)])])))))
  | _ => .alt []
def planT178 (id : Nat) : Plan := match id with
  | 6 => .take 0 (.take 1 (.take 2 (.take 3 (.take 4 (.take 5 (.take 6 (.take 7 (.take 8 (.done)))))))))
  | _ => .alt []
def planT179 (id : Nat) : Plan := match id with
  | 6 => .take 0 (.take 1 (.take 2 (.take 3 (.take 4 (.take 5 (.take 6 (.take 7 (.take 8 (.done)))))))))
  | _ => .alt []
def planT180 (id : Nat) : Plan := match id with
  | 6 => .take 0 (.take 1 (.take 2 (.take 3 (.take 4 (.take 5 (.take 6 (.take 7 (.take 8 (.done)))))))))
  | _ => .alt []
def planT185 (id : Nat) : Plan := match id with
  | 2 => .take 0 (.take 1 (.take 3 (.alt [(2, .alt [(4, .alt [(5, .take 6 (.alt [(7, .done)]))])])])))
  | 6 => .take 0 (.take 1 (.take 2 (.take 3 (.take 5 (.take 6 (.alt [(4, .alt [(7, .alt [(8, .alt [(9, .alt [(10, .take 11 (.alt [(12, .done)]))])])])])]))))))
  | 7 => .take 0 (.take 1 (.take 2 (.take 3 (.take 4 (.take 5 (.take 6 (.alt [(7, .alt [(8, .take 9 (.alt [(10, .done)]))])])))))))
  | 8 => .take 0 (.take 1 (.take 2 (.take 3 (.alt [(4, .alt [(5, .alt [(6, .take 7 (.alt [(8, .done)]))])])]))))
  | 10 => .take 0 (.take 1 (.take 2 (.take 3 (.alt [(4, .alt [(5, .alt [(6, .take 7 (.alt [(8, .done)]))])])]))))
  | 11 => .take 0 (.take 1 (.take 2 (.take 3 (.take 4 (.take 5 (.alt [(6, .alt [(7, .alt [(8, .alt [(9, .take 10 (.alt [(11, .done)]))])])])]))))))
  | 15 => .take 0 (.take 1 (.take 2 (.take 3 (.alt [(4, .alt [(5, .alt [(6, .take 7 (.alt [(8, .done)]))])])]))))
  | _ => .alt []
def planT189 (id : Nat) : Plan := match id with
  | 11 => .take 0 (.take 1 (.take 2 (.take 3 (.take 4 (.take 5 (.take 6 (.take 7 (.take 8 (.take 9 (.take 10 (.take 11 (.alt [(12, .take 13 (.take 14 (.take 15 (.alt [(16, .alt [(17, .alt [(18, .done)])])])))), (16, .alt [(12, .take 13 (.take 14 (.take 15 (.alt [(17, .alt [(18, .done)])]))))])]))))))))))))
  | 15 => .take 0 (.take 1 (.take 2 (.take 3 (.take 4 (.take 5 (.take 6 (.take 7 (.take 8 (.alt [(9, .done)])))))))))
  | _ => .alt []
def planT212 (id : Nat) : Plan := match id with
  | 1 => .take 1 (.take 2 (.take 3 (.take 4 (.alt [(0, .alt [(5, .alt [(6, .take 7 (.take 9 (.take 10 (.alt [(8, .alt [(11, .alt [(12, .take 13 (.alt [(14, .done)]))])]), (11, .alt [(8, .alt [(12, .take 13 (.alt [(14, .done)]))])])]))))])]), (5, .alt [(0, .alt [(6, .take 7 (.take 9 (.take 10 (.alt [(8, .alt [(11, .alt [(12, .take 13 (.alt [(14, .done)]))])]), (11, .alt [(8, .alt [(12, .take 13 (.alt [(14, .done)]))])])]))))])])]))))
  | _ => .alt []
def planT216 (id : Nat) : Plan := match id with
  | 7 => .take 0 (.take 1 (.take 2 (.take 3 (.take 4 (.take 5 (.take 6 (.take 7 (.take 8 (.take 9 (.take 10 (.take 11 (.take 12 (.take 13 (.take 14 (.take 15 (.take 16 (.take 17 (.take 18 (.take 19 (.take 20 (.take 21 (.take 22 (.take 23 (.take 24 (.take 25 (.take 26 (.take 27 (.take 28 (.take 29 (.take 30 (.take 31 (.take 32 (.alt [(33, .alt [(34, .alt [(35, .done)])])])))))))))))))))))))))))))))))))))
  | _ => .alt []
def planT217 (id : Nat) : Plan := match id with
  | 1 => .take 0 (.take 1 (.take 2 (.take 3 (.take 4 (.alt [(5, .take 6 (.take 7 (.take 8 (.alt [(9, .alt [(10, .done)])]))))])))))
  | 2 => .take 0 (.take 1 (.take 2 (.take 3 (.take 4 (.take 5 (.take 6 (.take 7 (.take 8 (.take 9 (.take 10 (.take 11 (.take 15 (.take 16 (.take 17 (.take 18 (.take 19 (.take 20 (.take 21 (.take 22 (.take 24 (.take 25 (.take 26 (.take 27 (.take 28 (.take 29 (.alt [(12, .take 13 (.take 14 (.take 23 (.take 30 (.alt [(31, .done)])))))]))))))))))))))))))))))))))
  | _ => .alt []
def planT218 (id : Nat) : Plan := match id with
  | 1 => .take 0 (.take 1 (.take 2 (.take 3 (.take 4 (.take 5 (.take 6 (.take 7 (.take 8 (.take 9 (.take 10 (.take 11 (.take 12 (.take 13 (.take 14 (.take 15 (.take 16 (.take 17 (.take 18 (.take 19 (.take 20 (.take 21 (.alt [(22, .alt [(23, .done)])]))))))))))))))))))))))
  | 5 => .take 0 (.take 1 (.take 2 (.take 3 (.take 4 (.take 5 (.take 6 (.take 7 (.take 8 (.take 9 (.take 10 (.take 11 (.take 12 (.take 13 (.take 14 (.take 15 (.take 16 (.take 17 (.take 18 (.take 19 (.take 21 (.take 24 (.alt [(20, .take 22 (.alt [(23, .take 25 (.alt [(26, .done)]))]))]))))))))))))))))))))))
  | _ => .alt []
def planT219 (id : Nat) : Plan := match id with
  | 9 => .take 0 (.take 1 (.take 2 (.take 3 (.take 4 (.take 5 (.take 6 (.take 7 (.take 8 (.take 9 (.take 10 (.take 11 (.take 12 (.take 13 (.take 14 (.alt [(15, .take 16 (.take 17 (.alt [(18, .done)])))])))))))))))))))
  | _ => .alt []
def planT225 (id : Nat) : Plan := match id with
  | 1 => .take 0 (.take 1 (.take 2 (.take 3 (.take 4 (.take 5 (.take 6 (.take 7 (.take 9 (.take 10 (.take 11 (.take 12 (.take 13 (.take 14 (.take 15 (.take 16 (.take 18 (.alt [(8, .alt [(17, .take 19 (.alt [(20, .done)]))])])))))))))))))))))
  | _ => .alt []
def planT226 (id : Nat) : Plan := match id with
  | 1 => .take 0 (.take 1 (.take 2 (.take 3 (.take 4 (.take 5 (.take 6 (.take 7 (.take 8 (.take 9 (.take 10 (.take 11 (.take 12 (.alt [(13, .alt [(14, .done)])])))))))))))))
  | _ => .alt []
def planT228 (id : Nat) : Plan := match id with
  | 1 => .take 0 (.take 1 (.take 2 (.take 3 (.take 4 (.take 5 (.take 6 (.take 7 (.take 8 (.take 9 (.alt [(10, .alt [(11, .done)])]))))))))))
  | _ => .alt []
def planT230 (id : Nat) : Plan := match id with
  | 1 => .take 0 (.take 2 (.take 3 (.take 5 (.take 6 (.alt [(1, .take 4 (.alt [(7, .alt [(8, .done)])]))])))))
  | _ => .alt []
def planT234 (id : Nat) : Plan := match id with
  | 1 => .take 0 (.take 1 (.take 3 (.alt [(2, .alt [(4, .take 5 (.done))])])))
  | _ => .alt []
def planT240 (id : Nat) : Plan := match id with
  | 8 => .take 0 (.take 1 (.take 2 (.take 3 (.take 4 (.take 5 (.take 6 (.take 7 (.take 8 (.take 9 (.take 10 (.take 11 (.alt [(12, .take 13 (.take 14 (.alt [(15, .done)])))]))))))))))))
  | _ => .alt []
def planT241 (id : Nat) : Plan := match id with
  | 1 => .take 0 (.take 1 (.take 2 (.take 3 (.take 4 (.take 5 (.take 6 (.take 7 (.take 8 (.take 9 (.take 10 (.take 11 (.take 12 (.take 13 (.take 14 (.take 15 (.take 16 (.take 17 (.alt [(18, .take 19 (.take 20 (.take 21 (.alt [(22, .alt [(23, .alt [(24, .done)])])])))), (22, .alt [(18, .take 19 (.take 20 (.take 21 (.alt [(23, .alt [(24, .done)])]))))])]))))))))))))))))))
  | _ => .alt []
def planT244 (id : Nat) : Plan := match id with
  | 16 => .take 0 (.take 1 (.take 2 (.take 3 (.take 4 (.take 5 (.take 6 (.take 7 (.take 8 (.take 9 (.take 10 (.take 15 (.take 18 (.alt [(11, .take 12 (.take 13 (.take 14 (.take 16 (.alt [(17, .take 19 (.alt [(20, .done)]))])))))])))))))))))))
  | 18 => .take 0 (.take 1 (.take 2 (.take 3 (.take 4 (.take 9 (.take 12 (.alt [(5, .take 6 (.take 7 (.take 8 (.take 10 (.alt [(11, .take 13 (.alt [(14, .done)]))])))))])))))))
  | _ => .alt []
def planT (k : Nat) : Nat → Plan := match k with
  | 3 => planT3
  | 4 => planT4
  | 5 => planT5
  | 9 => planT9
  | 10 => planT10
  | 12 => planT12
  | 13 => planT13
  | 14 => planT14
  | 16 => planT16
  | 17 => planT17
  | 19 => planT19
  | 21 => planT21
  | 22 => planT22
  | 31 => planT31
  | 32 => planT32
  | 38 => planT38
  | 39 => planT39
  | 40 => planT40
  | 45 => planT45
  | 46 => planT46
  | 47 => planT47
  | 57 => planT57
  | 61 => planT61
  | 65 => planT65
  | 66 => planT66
  | 67 => planT67
  | 69 => planT69
  | 73 => planT73
  | 75 => planT75
  | 81 => planT81
  | 90 => planT90
  | 93 => planT93
  | 94 => planT94
  | 96 => planT96
  | 97 => planT97
  | 98 => planT98
  | 100 => planT100
  | 101 => planT101
  | 102 => planT102
  | 103 => planT103
  | 106 => planT106
  | 110 => planT110
  | 111 => planT111
  | 113 => planT113
  | 114 => planT114
  | 120 => planT120
  | 121 => planT121
  | 123 => planT123
  | 125 => planT125
  | 127 => planT127
  | 129 => planT129
  | 130 => planT130
  | 132 => planT132
  | 138 => planT138
  | 139 => planT139
  | 140 => planT140
  | 142 => planT142
  | 143 => planT143
  | 148 => planT148
  | 151 => planT151
  | 154 => planT154
  | 155 => planT155
  | 157 => planT157
  | 158 => planT158
  | 159 => planT159
  | 160 => planT160
  | 170 => planT170
  | 171 => planT171
  | 178 => planT178
  | 179 => planT179
  | 180 => planT180
  | 185 => planT185
  | 189 => planT189
  | 212 => planT212
  | 216 => planT216
  | 217 => planT217
  | 218 => planT218
  | 219 => planT219
  | 225 => planT225
  | 226 => planT226
  | 228 => planT228
  | 230 => planT230
  | 234 => planT234
  | 240 => planT240
  | 241 => planT241
  | 244 => planT244
  | _ => fun _ => .alt []
theorem pl3_4 : planT 3 4 = .take 0 (.take 1 (.take 2 (.take 3 (.take 4 (.take 5 (.take 6 (.take 7 (.take 9 (.take 10 (.take 11 (.take 12 (.alt [(8, .take 13 (.take 14 (.done)))])))))))))))) := rfl
theorem pl3_13 : planT 3 13 = .take 0 (.take 1 (.take 2 (.take 3 (.take 4 (.take 5 (.take 6 (.take 7 (.take 8 (.take 9 (.alt [(10, .done)])))))))))) := rfl
theorem pl3_21 : planT 3 21 = .take 0 (.take 1 (.take 2 (.take 3 (.take 5 (.take 6 (.take 7 (.take 8 (.take 9 (.alt [(4, .alt [(10, .take 11 (.done))])]))))))))) := rfl
theorem pl4_13 : planT 4 13 = .take 0 (.take 1 (.take 2 (.take 3 (.take 4 (.take 5 (.take 6 (.take 7 (.take 8 (.take 9 (.take 10 (.take 11 (.take 12 (.take 13 (.take 14 (.take 15 (.take 16 (.take 17 (.take 18 (.take 19 (.take 20 (.alt [(21, .done)]))))))))))))))))))))) := rfl
theorem pl5_7 : planT 5 7 = .take 0 (.take 1 (.take 2 (.take 3 (.take 4 (.take 5 (.take 6 (.take 7 (.take 8 (.take 9 (.take 10 (.take 11 (.take 12 (.take 13 (.take 14 (.take 15 (.take 16 (.done))))))))))))))))) := rfl
theorem pl9_6 : planT 9 6 = .take 0 (.take 1 (.take 2 (.take 3 (.take 4 (.take 5 (.take 6 (.take 7 (.take 8 (.take 9 (.take 10 (.take 12 (.alt [(11, .alt [(13, .take 14 (.take 15 (.alt [(16, .done)])))])])))))))))))) := rfl
theorem pl10_20 : planT 10 20 = .take 0 (.take 1 (.take 2 (.take 3 (.take 4 (.take 5 (.take 6 (.take 7 (.take 8 (.take 9 (.take 10 (.take 11 (.take 12 (.take 13 (.take 14 (.take 15 (.take 16 (.take 17 (.alt [(18, .take 19 (.take 20 (.alt [(21, .alt [(22, .done)])]))), (21, .alt [(18, .take 19 (.take 20 (.alt [(22, .done)])))])])))))))))))))))))) := rfl
theorem pl10_21 : planT 10 21 = .take 0 (.take 1 (.take 2 (.take 3 (.take 4 (.take 5 (.done)))))) := rfl
theorem pl10_24 : planT 10 24 = .take 0 (.take 1 (.take 2 (.take 3 (.take 4 (.take 5 (.take 6 (.take 7 (.alt [(8, .take 9 (.take 10 (.take 11 (.done))))])))))))) := rfl
theorem pl10_31 : planT 10 31 = .take 0 (.take 1 (.take 2 (.take 3 (.take 4 (.take 5 (.take 6 (.take 7 (.take 8 (.take 9 (.take 10 (.take 11 (.take 12 (.take 13 (.take 14 (.take 15 (.take 16 (.take 17 (.take 18 (.take 19 (.take 20 (.alt [(21, .take 22 (.take 23 (.take 24 (.take 25 (.alt [(26, .done)])))))]))))))))))))))))))))) := rfl
theorem pl12_6 : planT 12 6 = .take 0 (.take 1 (.take 2 (.take 3 (.alt [(4, .take 5 (.alt [(6, .alt [(7, .done)])])), (6, .alt [(4, .take 5 (.alt [(7, .done)]))])])))) := rfl
theorem pl13_8 : planT 13 8 = .take 0 (.take 1 (.take 2 (.take 3 (.take 5 (.take 6 (.take 7 (.take 8 (.take 9 (.alt [(4, .take 10 (.take 11 (.take 12 (.take 13 (.take 14 (.take 16 (.take 17 (.alt [(15, .alt [(18, .take 19 (.take 20 (.alt [(21, .done)])))])]))))))))]))))))))) := rfl
theorem pl14_6 : planT 14 6 = .take 0 (.take 1 (.take 2 (.take 3 (.take 5 (.take 6 (.take 7 (.take 8 (.alt [(4, .alt [(9, .take 10 (.take 11 (.take 12 (.alt [(13, .alt [(14, .alt [(15, .done)])])])))), (13, .alt [(9, .take 10 (.take 11 (.take 12 (.alt [(14, .alt [(15, .done)])]))))])]), (13, .alt [(4, .alt [(9, .take 10 (.take 11 (.take 12 (.alt [(14, .alt [(15, .done)])]))))])])])))))))) := rfl
theorem pl14_18 : planT 14 18 = .take 0 (.take 1 (.take 2 (.take 3 (.take 4 (.take 5 (.take 6 (.take 7 (.take 8 (.take 9 (.take 10 (.take 11 (.take 12 (.take 13 (.take 14 (.take 15 (.take 16 (.take 17 (.take 18 (.take 19 (.take 20 (.take 21 (.take 22 (.take 23 (.take 24 (.take 25 (.take 26 (.take 27 (.take 28 (.take 29 (.take 30 (.take 31 (.take 32 (.take 33 (.take 34 (.take 35 (.take 36 (.take 37 (.take 38 (.take 39 (.take 40 (.take 41 (.take 42 (.take 43 (.take 44 (.take 45 (.take 46 (.take 47 (.take 48 (.take 49 (.take 50 (.take 51 (.take 52 (.take 53 (.take 54 (.take 55 (.take 56 (.take 57 (.take 58 (.take 59 (.take 60 (.take 61 (.take 62 (.take 63 (.done)))))))))))))))))))))))))))))))))))))))))))))))))))))))))))))))) := rfl
theorem pl14_20 : planT 14 20 = .take 0 (.take 1 (.take 2 (.take 3 (.take 4 (.take 5 (.take 6 (.take 7 (.take 8 (.take 9 (.take 10 (.take 11 (.take 12 (.take 13 (.take 14 (.done))))))))))))))) := rfl
theorem pl16_39 : planT 16 39 = .take 0 (.take 1 (.take 2 (.take 3 (.take 4 (.take 5 (.take 6 (.take 7 (.take 8 (.take 9 (.take 10 (.take 11 (.take 12 (.take 13 (.take 14 (.take 15 (.take 16 (.take 17 (.take 18 (.alt [(19, .take 20 (.take 21 (.take 22 (.take 23 (.take 24 (.take 25 (.take 26 (.take 27 (.take 28 (.take 29 (.take 30 (.alt [(31, .take 32 (.alt [(33, .done)]))]))))))))))))]))))))))))))))))))) := rfl
theorem pl17_33 : planT 17 33 = .take 0 (.take 1 (.take 2 (.take 3 (.take 4 (.take 5 (.take 6 (.take 7 (.take 8 (.take 9 (.take 10 (.take 11 (.take 12 (.take 13 (.take 14 (.take 15 (.take 16 (.take 17 (.take 18 (.take 19 (.take 20 (.take 21 (.take 22 (.take 23 (.take 24 (.alt [(25, .alt [(26, .done)])]))))))))))))))))))))))))) := rfl
theorem pl17_34 : planT 17 34 = .take 0 (.take 1 (.take 2 (.take 3 (.take 4 (.take 5 (.done)))))) := rfl
theorem pl17_36 : planT 17 36 = .take 0 (.take 1 (.take 2 (.take 3 (.take 4 (.take 5 (.take 6 (.take 7 (.take 8 (.take 9 (.take 10 (.take 11 (.take 12 (.take 13 (.take 14 (.take 15 (.take 16 (.take 17 (.take 18 (.take 19 (.take 20 (.take 21 (.take 22 (.take 23 (.done)))))))))))))))))))))))) := rfl
theorem pl19_5 : planT 19 5 = .take 0 (.take 2 (.alt [(1, .alt [(3, .alt [(4, .alt [(5, .done)])])])])) := rfl
theorem pl19_6 : planT 19 6 = .take 0 (.take 1 (.take 2 (.take 4 (.alt [(3, .alt [(5, .take 6 (.take 7 (.take 8 (.take 9 (.take 10 (.take 11 (.take 12 (.take 13 (.take 14 (.take 15 (.take 16 (.take 17 (.take 18 (.take 19 (.take 20 (.take 21 (.take 22 (.take 24 (.alt [(23, .alt [(25, .take 26 (.take 27 (.alt [(28, .done)])))])])))))))))))))))))))])])))) := rfl
theorem pl21_8 : planT 21 8 = .take 0 (.take 2 (.take 3 (.take 4 (.take 5 (.take 6 (.take 7 (.take 9 (.take 10 (.take 11 (.take 12 (.take 13 (.take 14 (.take 15 (.take 17 (.alt [(1, .alt [(8, .alt [(16, .take 18 (.alt [(19, .done)]))])])]))))))))))))))) := rfl
theorem pl22_9 : planT 22 9 = .take 0 (.take 2 (.take 3 (.take 4 (.take 5 (.take 7 (.take 8 (.take 9 (.take 10 (.take 12 (.alt [(1, .alt [(6, .alt [(11, .take 13 (.alt [(14, .done)]))])])])))))))))) := rfl
theorem pl22_19 : planT 22 19 = .take 0 (.take 1 (.take 2 (.take 3 (.take 4 (.take 5 (.take 6 (.take 7 (.take 8 (.take 9 (.take 10 (.take 11 (.take 12 (.take 13 (.done)))))))))))))) := rfl
theorem pl31_11 : planT 31 11 = .take 0 (.take 1 (.take 2 (.take 3 (.take 4 (.take 5 (.take 6 (.take 7 (.take 8 (.take 9 (.take 10 (.take 11 (.take 12 (.take 13 (.take 14 (.take 15 (.take 16 (.take 17 (.take 18 (.take 19 (.take 20 (.take 21 (.take 22 (.take 23 (.take 24 (.take 25 (.take 26 (.take 27 (.take 28 (.take 29 (.take 30 (.take 31 (.done)))))))))))))))))))))))))))))))) := rfl
theorem pl31_12 : planT 31 12 = .take 0 (.take 1 (.take 2 (.take 3 (.take 4 (.take 5 (.take 6 (.take 7 (.take 8 (.take 9 (.take 10 (.take 11 (.take 12 (.take 13 (.take 14 (.take 15 (.take 16 (.take 17 (.take 18 (.take 19 (.alt [(20, .done)])))))))))))))))))))) := rfl
theorem pl32_6 : planT 32 6 = .take 0 (.take 1 (.take 2 (.take 3 (.take 4 (.take 5 (.take 6 (.take 7 (.take 8 (.done))))))))) := rfl
theorem pl38_3 : planT 38 3 = .take 0 (.take 1 (.take 3 (.alt [(2, .alt [(4, .done)])]))) := rfl
theorem pl38_4 : planT 38 4 = .take 0 (.take 1 (.take 3 (.alt [(2, .alt [(4, .done)])]))) := rfl
theorem pl38_5 : planT 38 5 = .take 0 (.take 1 (.take 3 (.alt [(2, .alt [(4, .done)])]))) := rfl
theorem pl39_8 : planT 39 8 = .take 0 (.take 1 (.take 2 (.take 3 (.take 4 (.take 5 (.take 6 (.take 7 (.take 8 (.take 9 (.alt [(10, .alt [(11, .done)])])))))))))) := rfl
theorem pl40_14 : planT 40 14 = .take 0 (.take 1 (.take 2 (.alt [(3, .alt [(4, .alt [(5, .take 6 (.alt [(7, .done)]))])])]))) := rfl
theorem pl40_17 : planT 40 17 = .take 0 (.take 1 (.take 2 (.take 3 (.take 4 (.take 5 (.take 6 (.take 7 (.take 8 (.take 9 (.take 10 (.take 11 (.take 12 (.take 13 (.take 14 (.take 15 (.take 16 (.take 17 (.take 18 (.take 19 (.done)))))))))))))))))))) := rfl
theorem pl40_19 : planT 40 19 = .take 0 (.take 1 (.take 2 (.take 3 (.take 4 (.alt [(5, .alt [(6, .alt [(7, .done)])])]))))) := rfl
theorem pl45_10 : planT 45 10 = .take 0 (.take 1 (.take 2 (.take 3 (.take 4 (.take 5 (.take 6 (.take 7 (.alt [(8, .alt [(9, .done)])])))))))) := rfl
theorem pl46_12 : planT 46 12 = .take 0 (.take 1 (.take 2 (.take 3 (.take 4 (.take 5 (.take 6 (.take 7 (.take 9 (.take 10 (.take 11 (.take 12 (.take 13 (.take 14 (.take 15 (.alt [(8, .alt [(16, .alt [(17, .alt [(18, .alt [(19, .done)])])])])]))))))))))))))) := rfl
theorem pl46_14 : planT 46 14 = .take 0 (.take 1 (.take 2 (.take 3 (.take 4 (.take 5 (.take 6 (.take 7 (.take 9 (.take 10 (.take 11 (.take 12 (.take 13 (.take 14 (.take 15 (.alt [(8, .alt [(16, .alt [(17, .alt [(18, .alt [(19, .done)])])])])]))))))))))))))) := rfl
theorem pl46_23 : planT 46 23 = .take 0 (.take 1 (.take 2 (.take 3 (.take 4 (.take 5 (.take 6 (.take 7 (.take 8 (.take 9 (.take 10 (.take 11 (.take 12 (.take 13 (.take 14 (.take 15 (.take 16 (.alt [(17, .take 18 (.alt [(19, .alt [(20, .alt [(21, .alt [(22, .done)])])])]))]))))))))))))))))) := rfl
theorem pl46_24 : planT 46 24 = .take 0 (.take 1 (.take 2 (.take 3 (.take 4 (.take 5 (.alt [(6, .take 7 (.alt [(8, .alt [(9, .alt [(10, .alt [(11, .done)])])])]))])))))) := rfl
theorem pl46_33 : planT 46 33 = .take 0 (.take 1 (.take 2 (.take 3 (.take 4 (.take 5 (.take 6 (.take 7 (.take 8 (.take 9 (.take 10 (.take 11 (.take 12 (.take 13 (.take 14 (.take 15 (.take 16 (.alt [(17, .alt [(18, .alt [(19, .alt [(20, .alt [(21, .done)])])])])]))))))))))))))))) := rfl
theorem pl46_34 : planT 46 34 = .take 0 (.take 1 (.take 2 (.take 3 (.take 4 (.take 5 (.take 6 (.take 7 (.take 8 (.take 9 (.take 10 (.take 11 (.alt [(12, .alt [(13, .alt [(14, .alt [(15, .alt [(16, .done)])])])])])))))))))))) := rfl
theorem pl47_6 : planT 47 6 = .take 0 (.take 1 (.take 2 (.take 3 (.take 4 (.take 5 (.take 6 (.take 7 (.take 8 (.done))))))))) := rfl
theorem pl57_5 : planT 57 5 = .take 0 (.take 1 (.take 2 (.take 3 (.take 4 (.take 5 (.take 6 (.take 7 (.take 8 (.take 9 (.alt [(10, .take 11 (.alt [(12, .done)]))])))))))))) := rfl
theorem pl61_7 : planT 61 7 = .take 0 (.take 1 (.take 2 (.take 3 (.take 4 (.take 5 (.take 6 (.take 7 (.take 8 (.take 9 (.alt [(10, .take 11 (.take 12 (.alt [(13, .done)])))])))))))))) := rfl
theorem pl65_1 : planT 65 1 = .take 0 (.take 1 (.take 2 (.take 3 (.take 4 (.take 5 (.take 6 (.take 7 (.take 9 (.alt [(8, .alt [(10, .take 11 (.take 12 (.take 13 (.alt [(14, .alt [(15, .alt [(16, .done)])])])))), (14, .alt [(10, .take 11 (.take 12 (.take 13 (.alt [(15, .alt [(16, .done)])]))))])]), (14, .alt [(8, .alt [(10, .take 11 (.take 12 (.take 13 (.alt [(15, .alt [(16, .done)])]))))])])]))))))))) := rfl
theorem pl66_8 : planT 66 8 = .take 1 (.take 2 (.take 3 (.take 4 (.take 5 (.take 6 (.take 7 (.take 8 (.take 9 (.take 10 (.take 11 (.take 12 (.alt [(0, .alt [(13, .alt [(14, .take 15 (.alt [(16, .done)]))])])])))))))))))) := rfl
theorem pl67_7 : planT 67 7 = .take 0 (.take 1 (.take 2 (.take 3 (.take 4 (.take 5 (.take 6 (.take 7 (.take 8 (.take 9 (.take 10 (.take 11 (.take 12 (.take 13 (.take 14 (.take 15 (.take 16 (.take 17 (.take 18 (.take 19 (.take 20 (.take 21 (.take 22 (.take 23 (.alt [(24, .alt [(25, .done)])])))))))))))))))))))))))) := rfl
theorem pl67_11 : planT 67 11 = .take 0 (.take 1 (.take 2 (.take 3 (.take 4 (.take 5 (.take 6 (.take 7 (.take 8 (.take 9 (.take 10 (.alt [(11, .alt [(12, .take 13 (.alt [(14, .done)]))])]))))))))))) := rfl
theorem pl67_12 : planT 67 12 = .take 0 (.take 1 (.take 2 (.take 3 (.take 4 (.take 5 (.take 6 (.take 7 (.take 8 (.take 9 (.take 10 (.alt [(11, .alt [(12, .take 13 (.alt [(14, .done)]))])]))))))))))) := rfl
theorem pl67_26 : planT 67 26 = .take 0 (.take 2 (.take 3 (.alt [(1, .alt [(4, .alt [(5, .alt [(6, .alt [(7, .alt [(8, .done)])])])])])]))) := rfl
theorem pl69_4 : planT 69 4 = .take 0 (.take 1 (.take 2 (.take 3 (.take 4 (.take 5 (.alt [(6, .alt [(7, .done)])])))))) := rfl
theorem pl73_11 : planT 73 11 = .take 0 (.take 1 (.take 2 (.take 3 (.take 4 (.take 5 (.take 6 (.take 7 (.take 8 (.done))))))))) := rfl
theorem pl73_13 : planT 73 13 = .take 0 (.take 1 (.take 2 (.take 3 (.take 4 (.take 5 (.take 6 (.take 7 (.take 8 (.alt [(9, .alt [(10, .done)])]))))))))) := rfl
theorem pl75_9 : planT 75 9 = .take 0 (.take 1 (.take 2 (.take 3 (.take 4 (.take 5 (.alt [(6, .take 7 (.take 8 (.alt [(9, .done)])))])))))) := rfl
theorem pl81_12 : planT 81 12 = .take 0 (.take 1 (.take 2 (.take 3 (.take 4 (.take 5 (.take 6 (.take 7 (.take 9 (.alt [(8, .take 10 (.alt [(11, .done)]))]))))))))) := rfl
theorem pl90_6 : planT 90 6 = .take 0 (.take 1 (.alt [(2, .take 3 (.take 4 (.take 5 (.take 6 (.take 7 (.take 8 (.take 9 (.take 10 (.take 11 (.take 12 (.done)))))))))))])) := rfl
theorem pl90_16 : planT 90 16 = .take 0 (.take 1 (.take 2 (.take 3 (.take 4 (.alt [(5, .take 6 (.take 7 (.take 8 (.alt [(9, .alt [(10, .done)])]))))]))))) := rfl
theorem pl93_0 : planT 93 0 = .take 0 (.take 1 (.take 2 (.take 4 (.alt [(3, .alt [(5, .take 6 (.alt [(7, .alt [(8, .take 9 (.alt [(10, .done)]))])]))])])))) := rfl
theorem pl94_2 : planT 94 2 = .take 0 (.take 1 (.take 2 (.take 3 (.take 4 (.take 5 (.take 6 (.take 7 (.take 8 (.take 9 (.take 10 (.take 11 (.take 12 (.alt [(13, .done)]))))))))))))) := rfl
theorem pl96_0 : planT 96 0 = .take 0 (.take 1 (.take 2 (.alt [(3, .alt [(4, .alt [(5, .take 6 (.alt [(7, .done)]))])])]))) := rfl
theorem pl97_2 : planT 97 2 = .take 0 (.take 1 (.take 3 (.alt [(2, .alt [(4, .done)])]))) := rfl
theorem pl97_3 : planT 97 3 = .take 0 (.take 2 (.take 4 (.take 6 (.alt [(1, .take 8 (.alt [(3, .alt [(5, .alt [(7, .alt [(9, .take 10 (.alt [(11, .take 12 (.alt [(13, .take 14 (.alt [(15, .done)]))]))]))])])])]))])))) := rfl
theorem pl97_5 : planT 97 5 = .take 0 (.take 2 (.alt [(1, .take 4 (.alt [(3, .alt [(5, .take 6 (.alt [(7, .done)]))])]))])) := rfl
theorem pl97_7 : planT 97 7 = .take 0 (.take 1 (.take 3 (.alt [(2, .alt [(4, .done)])]))) := rfl
theorem pl97_8 : planT 97 8 = .take 0 (.take 1 (.take 3 (.alt [(2, .alt [(4, .done)])]))) := rfl
theorem pl98_0 : planT 98 0 = .take 0 (.take 1 (.take 2 (.alt [(3, .alt [(4, .alt [(5, .take 6 (.alt [(7, .done)]))])])]))) := rfl
theorem pl100_6 : planT 100 6 = .take 0 (.take 1 (.take 2 (.take 3 (.take 4 (.take 5 (.take 6 (.take 7 (.take 8 (.done))))))))) := rfl
theorem pl101_6 : planT 101 6 = .take 0 (.take 1 (.take 2 (.take 3 (.take 4 (.take 5 (.take 6 (.take 7 (.take 8 (.done))))))))) := rfl
theorem pl102_7 : planT 102 7 = .take 0 (.take 1 (.take 2 (.take 3 (.take 4 (.take 5 (.take 6 (.take 7 (.take 8 (.take 9 (.take 10 (.done))))))))))) := rfl
theorem pl102_12 : planT 102 12 = .take 0 (.take 1 (.take 2 (.take 3 (.take 4 (.take 5 (.take 6 (.take 7 (.take 8 (.take 9 (.take 10 (.done))))))))))) := rfl
theorem pl103_1 : planT 103 1 = .take 0 (.take 1 (.take 2 (.take 3 (.take 4 (.take 5 (.take 6 (.take 7 (.take 8 (.take 9 (.take 10 (.take 11 (.take 12 (.take 13 (.take 14 (.take 15 (.take 16 (.take 17 (.done)))))))))))))))))) := rfl
theorem pl103_8 : planT 103 8 = .take 0 (.take 1 (.take 2 (.take 3 (.take 4 (.take 5 (.take 6 (.take 7 (.take 8 (.take 9 (.take 10 (.take 11 (.take 12 (.take 13 (.take 14 (.take 15 (.alt [(16, .done)])))))))))))))))) := rfl
theorem pl106_16 : planT 106 16 = .take 0 (.take 1 (.take 2 (.alt [(3, .take 4 (.alt [(5, .alt [(6, .take 7 (.alt [(8, .done)]))])]))]))) := rfl
theorem pl106_21 : planT 106 21 = .take 0 (.take 1 (.take 2 (.alt [(3, .take 4 (.alt [(5, .alt [(6, .take 7 (.alt [(8, .done)]))])]))]))) := rfl
theorem pl110_14 : planT 110 14 = .take 0 (.take 1 (.take 4 (.take 5 (.take 6 (.take 7 (.take 8 (.alt [(2, .alt [(3, .alt [(9, .alt [(10, .done)])])])]))))))) := rfl
theorem pl111_5 : planT 111 5 = .take 0 (.take 1 (.take 2 (.take 3 (.take 4 (.take 5 (.take 6 (.take 7 (.take 8 (.take 9 (.take 10 (.take 11 (.take 12 (.take 13 (.take 14 (.take 15 (.take 16 (.take 17 (.take 18 (.alt [(19, .done)]))))))))))))))))))) := rfl
theorem pl113_10 : planT 113 10 = .take 0 (.take 1 (.take 2 (.take 3 (.take 4 (.take 5 (.take 6 (.take 7 (.take 8 (.take 9 (.alt [(10, .take 11 (.alt [(12, .done)]))])))))))))) := rfl
theorem pl113_11 : planT 113 11 = .take 0 (.take 1 (.take 2 (.take 3 (.take 4 (.take 5 (.take 6 (.alt [(7, .alt [(8, .done)])]))))))) := rfl
theorem pl113_14 : planT 113 14 = .take 0 (.take 1 (.take 2 (.take 3 (.take 4 (.take 5 (.alt [(6, .take 7 (.alt [(8, .done)]))])))))) := rfl
theorem pl113_16 : planT 113 16 = .take 0 (.take 1 (.take 2 (.take 3 (.take 4 (.take 5 (.take 6 (.alt [(7, .alt [(8, .done)])]))))))) := rfl
theorem pl114_4 : planT 114 4 = .take 0 (.take 1 (.take 2 (.take 3 (.take 4 (.take 5 (.take 6 (.take 7 (.take 8 (.take 9 (.take 10 (.take 11 (.take 12 (.take 13 (.take 14 (.take 15 (.take 16 (.take 17 (.take 18 (.alt [(19, .done)]))))))))))))))))))) := rfl
theorem pl120_1 : planT 120 1 = .take 0 (.take 2 (.take 3 (.alt [(1, .take 4 (.alt [(5, .done)]))]))) := rfl
theorem pl121_15 : planT 121 15 = .take 0 (.take 1 (.take 2 (.take 3 (.take 4 (.take 5 (.take 6 (.alt [(7, .alt [(8, .alt [(9, .done)])])]))))))) := rfl
theorem pl123_5 : planT 123 5 = .take 0 (.take 1 (.take 2 (.take 4 (.take 5 (.take 7 (.take 8 (.take 10 (.take 11 (.alt [(3, .alt [(6, .alt [(9, .alt [(12, .alt [(13, .done)])])])])]))))))))) := rfl
theorem pl123_7 : planT 123 7 = .take 0 (.take 1 (.take 2 (.take 4 (.take 5 (.take 7 (.take 8 (.take 10 (.take 11 (.alt [(3, .alt [(6, .alt [(9, .alt [(12, .alt [(13, .done)])])])])]))))))))) := rfl
theorem pl123_11 : planT 123 11 = .take 0 (.take 1 (.take 2 (.take 3 (.take 4 (.take 6 (.take 7 (.take 8 (.take 9 (.take 11 (.take 12 (.take 13 (.take 14 (.alt [(5, .alt [(10, .alt [(15, .alt [(16, .done)])])])]))))))))))))) := rfl
theorem pl123_13 : planT 123 13 = .take 0 (.take 1 (.take 2 (.take 4 (.take 5 (.alt [(3, .alt [(6, .alt [(7, .done)])])]))))) := rfl
theorem pl125_6 : planT 125 6 = .take 0 (.take 1 (.take 2 (.take 3 (.take 4 (.take 5 (.take 6 (.take 7 (.take 8 (.done))))))))) := rfl
theorem pl127_6 : planT 127 6 = .take 0 (.take 1 (.take 2 (.take 3 (.take 4 (.take 5 (.take 6 (.take 7 (.take 8 (.done))))))))) := rfl
theorem pl129_6 : planT 129 6 = .take 0 (.take 1 (.take 2 (.take 3 (.take 4 (.take 5 (.take 6 (.take 7 (.take 8 (.take 9 (.alt [(10, .alt [(11, .done)])])))))))))) := rfl
theorem pl129_10 : planT 129 10 = .take 0 (.take 1 (.take 2 (.take 3 (.take 4 (.take 5 (.alt [(6, .alt [(7, .take 8 (.alt [(9, .done)]))])])))))) := rfl
theorem pl130_6 : planT 130 6 = .take 0 (.take 1 (.take 2 (.take 3 (.take 9 (.take 11 (.alt [(4, .take 5 (.take 6 (.take 7 (.take 8 (.alt [(10, .take 12 (.alt [(13, .alt [(14, .done)])])), (13, .alt [(10, .take 12 (.alt [(14, .done)]))])]))))), (13, .alt [(4, .take 5 (.take 6 (.take 7 (.take 8 (.alt [(10, .take 12 (.alt [(14, .done)]))])))))])])))))) := rfl
theorem pl132_1 : planT 132 1 = .take 0 (.take 1 (.take 2 (.take 3 (.take 4 (.alt [(5, .take 6 (.take 7 (.take 8 (.take 9 (.take 10 (.alt [(11, .alt [(12, .done)])])))))), (11, .alt [(5, .take 6 (.take 7 (.take 8 (.take 9 (.take 10 (.alt [(12, .done)]))))))])]))))) := rfl
theorem pl132_3 : planT 132 3 = .take 1 (.alt [(0, .alt [(2, .alt [(3, .take 4 (.alt [(5, .done)]))])])]) := rfl
theorem pl138_1 : planT 138 1 = .take 0 (.take 1 (.take 2 (.take 3 (.take 4 (.take 5 (.take 6 (.take 7 (.take 8 (.take 9 (.take 10 (.take 11 (.take 12 (.take 13 (.take 14 (.take 15 (.alt [(16, .take 17 (.take 18 (.take 19 (.alt [(20, .alt [(21, .alt [(22, .done)])])])))), (20, .alt [(16, .take 17 (.take 18 (.take 19 (.alt [(21, .alt [(22, .done)])]))))])])))))))))))))))) := rfl
theorem pl138_7 : planT 138 7 = .take 0 (.take 1 (.take 2 (.take 3 (.take 4 (.take 5 (.take 6 (.take 7 (.take 8 (.take 9 (.take 10 (.take 11 (.take 12 (.take 13 (.take 14 (.take 15 (.take 16 (.take 17 (.take 18 (.take 19 (.take 20 (.take 21 (.take 22 (.take 23 (.take 24 (.take 25 (.take 26 (.take 27 (.take 28 (.take 29 (.take 30 (.take 31 (.alt [(32, .alt [(33, .alt [(34, .done)])])])))))))))))))))))))))))))))))))) := rfl
theorem pl139_2 : planT 139 2 = .take 0 (.take 1 (.take 2 (.take 3 (.take 4 (.take 5 (.take 6 (.take 7 (.take 8 (.take 9 (.take 10 (.take 11 (.take 12 (.take 13 (.take 14 (.take 15 (.take 16 (.take 17 (.take 18 (.take 19 (.take 20 (.take 21 (.take 22 (.take 23 (.take 24 (.alt [(25, .done)]))))))))))))))))))))))))) := rfl
theorem pl140_1 : planT 140 1 = .take 0 (.take 1 (.take 2 (.take 3 (.take 4 (.take 5 (.take 6 (.take 7 (.take 8 (.take 9 (.take 10 (.take 11 (.take 12 (.take 13 (.take 14 (.take 15 (.alt [(16, .take 17 (.take 18 (.take 19 (.alt [(20, .alt [(21, .alt [(22, .done)])])])))), (20, .alt [(16, .take 17 (.take 18 (.take 19 (.alt [(21, .alt [(22, .done)])]))))])])))))))))))))))) := rfl
theorem pl140_2 : planT 140 2 = .take 0 (.take 1 (.take 2 (.take 3 (.take 4 (.take 5 (.take 6 (.take 7 (.take 8 (.take 9 (.take 10 (.take 11 (.take 12 (.take 13 (.take 14 (.take 15 (.take 16 (.take 17 (.take 18 (.take 19 (.take 20 (.alt [(21, .alt [(22, .done)])]))))))))))))))))))))) := rfl
theorem pl140_8 : planT 140 8 = .take 0 (.take 1 (.take 2 (.take 3 (.take 4 (.take 5 (.take 6 (.take 7 (.take 8 (.take 9 (.take 10 (.take 11 (.alt [(12, .done)])))))))))))) := rfl
theorem pl142_6 : planT 142 6 = .take 0 (.take 1 (.take 2 (.take 3 (.take 4 (.take 5 (.take 6 (.take 7 (.take 8 (.done))))))))) := rfl
theorem pl143_6 : planT 143 6 = .take 0 (.take 1 (.take 2 (.take 3 (.take 4 (.take 5 (.take 6 (.take 7 (.alt [(8, .take 9 (.alt [(10, .done)]))])))))))) := rfl
theorem pl143_7 : planT 143 7 = .take 0 (.take 1 (.take 2 (.take 3 (.take 4 (.take 5 (.take 6 (.alt [(7, .done)]))))))) := rfl
theorem pl143_11 : planT 143 11 = .take 0 (.take 1 (.take 2 (.take 3 (.take 4 (.take 5 (.take 6 (.alt [(7, .done)]))))))) := rfl
theorem pl148_9 : planT 148 9 = .take 0 (.take 1 (.take 2 (.take 3 (.take 4 (.take 5 (.take 6 (.take 7 (.take 8 (.take 9 (.take 10 (.take 11 (.take 12 (.take 13 (.take 14 (.take 15 (.take 16 (.alt [(17, .take 18 (.take 19 (.take 20 (.done))))]))))))))))))))))) := rfl
theorem pl151_14 : planT 151 14 = .take 0 (.take 1 (.take 2 (.take 3 (.take 4 (.take 5 (.take 6 (.take 7 (.alt [(8, .take 9 (.take 10 (.take 11 (.take 12 (.take 13 (.take 14 (.take 15 (.take 16 (.take 17 (.take 18 (.take 19 (.take 20 (.take 21 (.take 22 (.take 23 (.take 24 (.take 25 (.take 26 (.take 27 (.alt [(28, .take 29 (.take 30 (.take 31 (.take 32 (.done)))))]))))))))))))))))))))])))))))) := rfl
theorem pl154_10 : planT 154 10 = .take 0 (.take 1 (.take 2 (.take 3 (.take 4 (.take 5 (.take 6 (.take 7 (.take 9 (.take 10 (.take 11 (.take 12 (.take 13 (.take 14 (.take 15 (.take 16 (.take 18 (.alt [(8, .alt [(17, .take 19 (.alt [(20, .done)]))])]))))))))))))))))) := rfl
theorem pl154_15 : planT 154 15 = .take 0 (.take 1 (.take 2 (.take 3 (.take 4 (.take 5 (.done)))))) := rfl
theorem pl154_20 : planT 154 20 = .take 0 (.take 1 (.take 2 (.take 3 (.take 4 (.take 5 (.take 6 (.take 7 (.take 8 (.take 9 (.take 10 (.take 11 (.take 12 (.take 13 (.take 14 (.take 15 (.take 16 (.take 17 (.done)))))))))))))))))) := rfl
theorem pl154_22 : planT 154 22 = .take 0 (.take 1 (.take 2 (.take 3 (.take 4 (.take 5 (.take 6 (.take 7 (.take 8 (.take 9 (.take 10 (.take 11 (.take 12 (.alt [(13, .done)]))))))))))))) := rfl
theorem pl154_24 : planT 154 24 = .take 0 (.take 1 (.take 3 (.alt [(2, .alt [(4, .take 5 (.done))])]))) := rfl
theorem pl155_3 : planT 155 3 = .take 0 (.take 1 (.take 2 (.take 3 (.take 4 (.take 5 (.take 6 (.take 7 (.take 8 (.take 9 (.take 10 (.take 11 (.take 12 (.alt [(13, .alt [(14, .done)])]))))))))))))) := rfl
theorem pl155_5 : planT 155 5 = .take 0 (.take 1 (.take 2 (.take 3 (.take 4 (.take 5 (.take 6 (.take 7 (.take 8 (.take 9 (.alt [(10, .alt [(11, .done)])])))))))))) := rfl
theorem pl155_7 : planT 155 7 = .take 0 (.take 2 (.take 3 (.take 5 (.take 6 (.alt [(1, .take 4 (.alt [(7, .alt [(8, .done)])]))]))))) := rfl
theorem pl157_0 : planT 157 0 = .take 0 (.take 1 (.take 2 (.alt [(3, .alt [(4, .alt [(5, .take 6 (.alt [(7, .done)]))])])]))) := rfl
theorem pl158_2 : planT 158 2 = .take 0 (.take 1 (.take 2 (.take 3 (.take 4 (.take 5 (.take 6 (.take 7 (.take 8 (.take 9 (.alt [(10, .done)])))))))))) := rfl
theorem pl159_0 : planT 159 0 = .take 0 (.take 1 (.take 2 (.alt [(3, .take 4 (.alt [(5, .alt [(6, .take 7 (.alt [(8, .done)]))])]))]))) := rfl
theorem pl160_0 : planT 160 0 = .take 0 (.take 1 (.take 2 (.alt [(3, .alt [(4, .alt [(5, .take 6 (.alt [(7, .done)]))])])]))) := rfl
theorem pl170_8 : planT 170 8 = .take 0 (.take 1 (.take 2 (.take 3 (.take 4 (.take 5 (.take 6 (.take 7 (.take 8 (.take 9 (.take 10 (.take 11 (.take 12 (.take 13 (.alt [(14, .alt [(15, .alt [(16, .done)])]), (15, .alt [(14, .alt [(16, .done)])])])))))))))))))) := rfl
theorem pl170_11 : planT 170 11 = .take 0 (.take 1 (.take 2 (.take 3 (.take 4 (.take 5 (.take 6 (.alt [(7, .take 8 (.take 9 (.take 10 (.alt [(11, .alt [(12, .done)])]))))]))))))) := rfl
theorem pl171_7 : planT 171 7 = .take 0 (.take 1 (.take 2 (.take 3 (.take 4 (.take 5 (.take 6 (.take 7 (.take 8 (.take 9 (.alt [(10, .alt [(11, .alt [(12, .done)])])])))))))))) := rfl
theorem pl171_9 : planT 171 9 = .take 0 (.take 1 (.take 2 (.take 3 (.take 4 (.take 5 (.take 6 (.alt [(7, .alt [(8, .done)])]))))))) := rfl
theorem pl171_13 : planT 171 13 = .take 0 (.take 1 (.take 2 (.take 3 (.take 4 (.take 5 (.take 6 (.take 7 (.take 8 (.take 9 (.take 10 (.take 11 (.take 12 (.take 13 (.take 14 (.take 15 (.take 16 (.take 17 (.take 18 (.alt [(19, .alt [(20, .alt [(21, .done)])])]))))))))))))))))))) := rfl
theorem pl171_21 : planT 171 21 = .take 0 (.take 1 (.take 2 (.take 3 (.take 4 (.alt [(5, .alt [(6, .done)])]))))) := rfl
theorem pl178_6 : planT 178 6 = .take 0 (.take 1 (.take 2 (.take 3 (.take 4 (.take 5 (.take 6 (.take 7 (.take 8 (.done))))))))) := rfl
theorem pl179_6 : planT 179 6 = .take 0 (.take 1 (.take 2 (.take 3 (.take 4 (.take 5 (.take 6 (.take 7 (.take 8 (.done))))))))) := rfl
theorem pl180_6 : planT 180 6 = .take 0 (.take 1 (.take 2 (.take 3 (.take 4 (.take 5 (.take 6 (.take 7 (.take 8 (.done))))))))) := rfl
theorem pl185_2 : planT 185 2 = .take 0 (.take 1 (.take 3 (.alt [(2, .alt [(4, .alt [(5, .take 6 (.alt [(7, .done)]))])])]))) := rfl
theorem pl185_6 : planT 185 6 = .take 0 (.take 1 (.take 2 (.take 3 (.take 5 (.take 6 (.alt [(4, .alt [(7, .alt [(8, .alt [(9, .alt [(10, .take 11 (.alt [(12, .done)]))])])])])])))))) := rfl
theorem pl185_7 : planT 185 7 = .take 0 (.take 1 (.take 2 (.take 3 (.take 4 (.take 5 (.take 6 (.alt [(7, .alt [(8, .take 9 (.alt [(10, .done)]))])]))))))) := rfl
theorem pl185_8 : planT 185 8 = .take 0 (.take 1 (.take 2 (.take 3 (.alt [(4, .alt [(5, .alt [(6, .take 7 (.alt [(8, .done)]))])])])))) := rfl
theorem pl185_10 : planT 185 10 = .take 0 (.take 1 (.take 2 (.take 3 (.alt [(4, .alt [(5, .alt [(6, .take 7 (.alt [(8, .done)]))])])])))) := rfl
theorem pl185_11 : planT 185 11 = .take 0 (.take 1 (.take 2 (.take 3 (.take 4 (.take 5 (.alt [(6, .alt [(7, .alt [(8, .alt [(9, .take 10 (.alt [(11, .done)]))])])])])))))) := rfl
theorem pl185_15 : planT 185 15 = .take 0 (.take 1 (.take 2 (.take 3 (.alt [(4, .alt [(5, .alt [(6, .take 7 (.alt [(8, .done)]))])])])))) := rfl
theorem pl189_11 : planT 189 11 = .take 0 (.take 1 (.take 2 (.take 3 (.take 4 (.take 5 (.take 6 (.take 7 (.take 8 (.take 9 (.take 10 (.take 11 (.alt [(12, .take 13 (.take 14 (.take 15 (.alt [(16, .alt [(17, .alt [(18, .done)])])])))), (16, .alt [(12, .take 13 (.take 14 (.take 15 (.alt [(17, .alt [(18, .done)])]))))])])))))))))))) := rfl
theorem pl189_15 : planT 189 15 = .take 0 (.take 1 (.take 2 (.take 3 (.take 4 (.take 5 (.take 6 (.take 7 (.take 8 (.alt [(9, .done)]))))))))) := rfl
theorem pl212_1 : planT 212 1 = .take 1 (.take 2 (.take 3 (.take 4 (.alt [(0, .alt [(5, .alt [(6, .take 7 (.take 9 (.take 10 (.alt [(8, .alt [(11, .alt [(12, .take 13 (.alt [(14, .done)]))])]), (11, .alt [(8, .alt [(12, .take 13 (.alt [(14, .done)]))])])]))))])]), (5, .alt [(0, .alt [(6, .take 7 (.take 9 (.take 10 (.alt [(8, .alt [(11, .alt [(12, .take 13 (.alt [(14, .done)]))])]), (11, .alt [(8, .alt [(12, .take 13 (.alt [(14, .done)]))])])]))))])])])))) := rfl
theorem pl216_7 : planT 216 7 = .take 0 (.take 1 (.take 2 (.take 3 (.take 4 (.take 5 (.take 6 (.take 7 (.take 8 (.take 9 (.take 10 (.take 11 (.take 12 (.take 13 (.take 14 (.take 15 (.take 16 (.take 17 (.take 18 (.take 19 (.take 20 (.take 21 (.take 22 (.take 23 (.take 24 (.take 25 (.take 26 (.take 27 (.take 28 (.take 29 (.take 30 (.take 31 (.take 32 (.alt [(33, .alt [(34, .alt [(35, .done)])])]))))))))))))))))))))))))))))))))) := rfl
theorem pl217_1 : planT 217 1 = .take 0 (.take 1 (.take 2 (.take 3 (.take 4 (.alt [(5, .take 6 (.take 7 (.take 8 (.alt [(9, .alt [(10, .done)])]))))]))))) := rfl
theorem pl217_2 : planT 217 2 = .take 0 (.take 1 (.take 2 (.take 3 (.take 4 (.take 5 (.take 6 (.take 7 (.take 8 (.take 9 (.take 10 (.take 11 (.take 15 (.take 16 (.take 17 (.take 18 (.take 19 (.take 20 (.take 21 (.take 22 (.take 24 (.take 25 (.take 26 (.take 27 (.take 28 (.take 29 (.alt [(12, .take 13 (.take 14 (.take 23 (.take 30 (.alt [(31, .done)])))))])))))))))))))))))))))))))) := rfl
theorem pl218_1 : planT 218 1 = .take 0 (.take 1 (.take 2 (.take 3 (.take 4 (.take 5 (.take 6 (.take 7 (.take 8 (.take 9 (.take 10 (.take 11 (.take 12 (.take 13 (.take 14 (.take 15 (.take 16 (.take 17 (.take 18 (.take 19 (.take 20 (.take 21 (.alt [(22, .alt [(23, .done)])])))))))))))))))))))))) := rfl
theorem pl218_5 : planT 218 5 = .take 0 (.take 1 (.take 2 (.take 3 (.take 4 (.take 5 (.take 6 (.take 7 (.take 8 (.take 9 (.take 10 (.take 11 (.take 12 (.take 13 (.take 14 (.take 15 (.take 16 (.take 17 (.take 18 (.take 19 (.take 21 (.take 24 (.alt [(20, .take 22 (.alt [(23, .take 25 (.alt [(26, .done)]))]))])))))))))))))))))))))) := rfl
theorem pl219_9 : planT 219 9 = .take 0 (.take 1 (.take 2 (.take 3 (.take 4 (.take 5 (.take 6 (.take 7 (.take 8 (.take 9 (.take 10 (.take 11 (.take 12 (.take 13 (.take 14 (.alt [(15, .take 16 (.take 17 (.alt [(18, .done)])))]))))))))))))))) := rfl
theorem pl225_1 : planT 225 1 = .take 0 (.take 1 (.take 2 (.take 3 (.take 4 (.take 5 (.take 6 (.take 7 (.take 9 (.take 10 (.take 11 (.take 12 (.take 13 (.take 14 (.take 15 (.take 16 (.take 18 (.alt [(8, .alt [(17, .take 19 (.alt [(20, .done)]))])]))))))))))))))))) := rfl
theorem pl226_1 : planT 226 1 = .take 0 (.take 1 (.take 2 (.take 3 (.take 4 (.take 5 (.take 6 (.take 7 (.take 8 (.take 9 (.take 10 (.take 11 (.take 12 (.alt [(13, .alt [(14, .done)])]))))))))))))) := rfl
theorem pl228_1 : planT 228 1 = .take 0 (.take 1 (.take 2 (.take 3 (.take 4 (.take 5 (.take 6 (.take 7 (.take 8 (.take 9 (.alt [(10, .alt [(11, .done)])])))))))))) := rfl
theorem pl230_1 : planT 230 1 = .take 0 (.take 2 (.take 3 (.take 5 (.take 6 (.alt [(1, .take 4 (.alt [(7, .alt [(8, .done)])]))]))))) := rfl
theorem pl234_1 : planT 234 1 = .take 0 (.take 1 (.take 3 (.alt [(2, .alt [(4, .take 5 (.done))])]))) := rfl
theorem pl240_8 : planT 240 8 = .take 0 (.take 1 (.take 2 (.take 3 (.take 4 (.take 5 (.take 6 (.take 7 (.take 8 (.take 9 (.take 10 (.take 11 (.alt [(12, .take 13 (.take 14 (.alt [(15, .done)])))])))))))))))) := rfl
theorem pl241_1 : planT 241 1 = .take 0 (.take 1 (.take 2 (.take 3 (.take 4 (.take 5 (.take 6 (.take 7 (.take 8 (.take 9 (.take 10 (.take 11 (.take 12 (.take 13 (.take 14 (.take 15 (.take 16 (.take 17 (.alt [(18, .take 19 (.take 20 (.take 21 (.alt [(22, .alt [(23, .alt [(24, .done)])])])))), (22, .alt [(18, .take 19 (.take 20 (.take 21 (.alt [(23, .alt [(24, .done)])]))))])])))))))))))))))))) := rfl
theorem pl244_16 : planT 244 16 = .take 0 (.take 1 (.take 2 (.take 3 (.take 4 (.take 5 (.take 6 (.take 7 (.take 8 (.take 9 (.take 10 (.take 15 (.take 18 (.alt [(11, .take 12 (.take 13 (.take 14 (.take 16 (.alt [(17, .take 19 (.alt [(20, .done)]))])))))]))))))))))))) := rfl
theorem pl244_18 : planT 244 18 = .take 0 (.take 1 (.take 2 (.take 3 (.take 4 (.take 9 (.take 12 (.alt [(5, .take 6 (.take 7 (.take 8 (.take 10 (.alt [(11, .take 13 (.alt [(14, .done)]))])))))]))))))) := rfl
/-- Which of so many are not wanted. -/
def mkMask (n : Nat) (l : List Nat) : List Bool := (List.range n).map fun i => !l.contains i
def killT (k b : Nat) : List Bool := match k, b with
  | 3, 4 => mkMask 147 [1, 6, 7, 8, 13, 18]
  | 3, 2 => mkMask 147 [1, 6, 7, 8, 9, 11, 12]
  | 3, 0 => mkMask 147 [1, 6, 7, 8]
  | 4, 0 => mkMask 94 [1, 3, 4, 5, 8, 9]
  | 10, 2 => mkMask 213 [2, 3, 5, 6, 8, 10, 11, 12, 13, 15]
  | 10, 0 => mkMask 213 [2, 3, 5, 6, 8, 9]
  | 11, 0 => mkMask 116 [1, 5, 6, 8, 9, 10]
  | 12, 0 => mkMask 80 [7, 10, 13, 14, 15, 16]
  | 14, 2 => mkMask 204 [2, 3, 5, 6, 8, 10, 12]
  | 14, 0 => mkMask 204 [2, 3, 5, 6, 8, 10, 11]
  | 15, 4 => mkMask 170 [5, 9, 12, 19]
  | 15, 2 => mkMask 170 [5, 9, 11, 12, 13, 14]
  | 15, 0 => mkMask 170 [5, 9, 11, 12, 13]
  | 16, 4 => mkMask 221 [2, 3, 5, 8, 9, 11, 15, 18, 19, 20]
  | 16, 2 => mkMask 221 [2, 3, 5, 8, 9, 11, 15, 16]
  | 16, 0 => mkMask 221 [3, 5, 9, 11, 12, 13]
  | 17, 4 => mkMask 222 [5, 6, 8, 9, 11, 12, 13, 15, 16, 17, 18]
  | 17, 2 => mkMask 222 [5, 6, 8, 9, 11, 12, 13, 15, 16]
  | 17, 0 => mkMask 222 [5, 6, 8, 9, 11, 12, 13, 14]
  | 20, 2 => mkMask 79 [3, 4, 6, 7, 8, 10, 11]
  | 20, 0 => mkMask 79 [3, 4, 6, 7, 8, 9]
  | 22, 2 => mkMask 126 [2, 5, 7, 9, 10, 11, 12]
  | 22, 0 => mkMask 126 [2, 3, 5, 6, 7, 8]
  | 31, 2 => mkMask 92 [0, 1, 2, 8, 9, 10, 11]
  | 31, 0 => mkMask 92 [0, 1, 2, 8, 9]
  | 32, 0 => mkMask 26 [0, 1, 5]
  | 34, 0 => mkMask 70 [1, 2, 3, 4]
  | 35, 2 => mkMask 76 [1, 5, 52, 53, 54]
  | 35, 0 => mkMask 76 [1, 5, 24, 25, 26]
  | 36, 6 => mkMask 151 [1, 4, 13]
  | 36, 4 => mkMask 151 [1, 4, 6, 7, 8, 9, 10]
  | 36, 2 => mkMask 151 [1, 4, 6, 7]
  | 36, 0 => mkMask 151 [1, 4, 5]
  | 39, 0 => mkMask 54 [2, 3, 7]
  | 40, 2 => mkMask 100 [0, 2, 5, 6, 11, 12]
  | 40, 0 => mkMask 100 [0, 2, 5, 6, 7, 8]
  | 44, 0 => mkMask 86 [1, 2, 3, 4, 5]
  | 45, 2 => mkMask 88 [8, 74, 75, 76]
  | 46, 5 => mkMask 239 [9, 16]
  | 46, 1 => mkMask 239 [3, 6, 9, 10, 11, 12]
  | 46, 3 => mkMask 239 [2, 3, 6, 8, 9, 13, 14, 15]
  | 47, 0 => mkMask 26 [0, 1, 5]
  | 53, 2 => mkMask 112 [1, 2, 7, 8]
  | 53, 0 => mkMask 112 [1, 2, 3, 4, 5]
  | 54, 0 => mkMask 39 [26, 27]
  | 55, 0 => mkMask 32 [0, 4, 5]
  | 56, 2 => mkMask 59 [5, 44, 45]
  | 56, 0 => mkMask 59 [1, 5, 25, 26, 27]
  | 57, 0 => mkMask 38 [2, 3, 5, 7]
  | 59, 0 => mkMask 70 [1, 2, 3, 4]
  | 61, 0 => mkMask 37 [0, 1, 5, 6]
  | 63, 1 => mkMask 118 [1, 3, 4, 5]
  | 64, 0 => mkMask 18 [0, 3, 4]
  | 67, 4 => mkMask 207 [8, 10, 17, 18, 19, 21]
  | 67, 2 => mkMask 207 [8, 10, 13, 17, 18, 19, 20]
  | 67, 0 => mkMask 207 [1, 3, 8, 10, 11, 13, 14]
  | 68, 0 => mkMask 91 [1, 2, 3, 6, 8, 10, 11]
  | 69, 0 => mkMask 20 [2, 3, 5]
  | 71, 2 => mkMask 112 [1, 2, 7, 8]
  | 71, 0 => mkMask 112 [1, 2, 3, 4, 5]
  | 72, 3 => mkMask 42 [5, 33, 34]
  | 72, 0 => mkMask 42 [4, 5]
  | 73, 2 => mkMask 85 [1, 4, 5, 6, 7, 8, 9]
  | 73, 0 => mkMask 85 [1, 4, 5, 6]
  | 75, 2 => mkMask 42 [3, 10, 11, 14, 15, 16]
  | 75, 0 => mkMask 42 [3, 10, 11]
  | 76, 2 => mkMask 57 [1, 3, 4, 5]
  | 76, 0 => mkMask 57 [1, 3, 4]
  | 77, 2 => mkMask 51 [1, 4, 20, 21, 25, 26, 27]
  | 77, 0 => mkMask 51 [1, 20, 21]
  | 78, 6 => mkMask 90 [1, 7, 8]
  | 78, 4 => mkMask 90 [1, 7]
  | 78, 2 => mkMask 90 [1, 4, 5, 6]
  | 78, 0 => mkMask 90 [1, 4]
  | 80, 0 => mkMask 32 [1, 4, 5]
  | 81, 4 => mkMask 68 [2, 6, 11]
  | 81, 2 => mkMask 68 [1, 2, 4, 6, 7, 8, 10]
  | 81, 0 => mkMask 68 [1, 2, 4, 6, 7]
  | 86, 0 => mkMask 24 [0, 6, 7, 8]
  | 87, 2 => mkMask 97 [0, 76, 77, 78]
  | 87, 0 => mkMask 97 [0, 3, 57, 58, 59]
  | 90, 4 => mkMask 101 [2, 4, 8, 11]
  | 90, 2 => mkMask 101 [1, 2, 4, 7]
  | 90, 0 => mkMask 101 [1, 2, 4, 6]
  | 91, 0 => mkMask 16 [0, 2, 6, 7]
  | 100, 0 => mkMask 26 [0, 1, 5]
  | 101, 0 => mkMask 26 [0, 1, 5]
  | 102, 2 => mkMask 132 [2, 3, 7]
  | 102, 0 => mkMask 132 [2, 3, 6]
  | 103, 0 => mkMask 59 [0, 1, 5, 6]
  | 106, 2 => mkMask 84 [0, 2, 3, 6, 7]
  | 106, 0 => mkMask 84 [0, 2, 3, 4, 5]
  | 107, 0 => mkMask 27 [0, 3, 4, 5]
  | 108, 2 => mkMask 81 [1, 6, 9]
  | 108, 0 => mkMask 81 [1, 6, 7]
  | 110, 0 => mkMask 70 [1, 4, 6, 24, 25, 26]
  | 111, 0 => mkMask 49 [1, 4, 11, 12, 13]
  | 113, 0 => mkMask 112 [0, 2, 5, 7, 9, 10, 40, 41, 42]
  | 118, 0 => mkMask 32 [1, 2, 15, 16, 17]
  | 121, 2 => mkMask 57 [4, 19, 20, 21, 39, 40, 41]
  | 121, 0 => mkMask 57 [4, 19, 20, 21]
  | 122, 0 => mkMask 23 [0, 1, 7]
  | 123, 1 => mkMask 82 [0, 3, 5]
  | 124, 0 => mkMask 23 [3, 4, 10]
  | 125, 0 => mkMask 26 [0, 1, 12, 13]
  | 127, 0 => mkMask 26 [0, 1, 12, 13]
  | 129, 1 => mkMask 70 [6, 8, 10, 53, 54, 55]
  | 131, 0 => mkMask 43 [1, 2, 8]
  | 137, 0 => mkMask 40 [0, 1, 5, 6]
  | 138, 0 => mkMask 83 [1, 2, 5, 7, 8]
  | 140, 0 => mkMask 88 [1, 2, 4, 5, 7, 8]
  | 141, 0 => mkMask 44 [1, 2, 6, 8, 9]
  | 142, 0 => mkMask 26 [0, 1, 5]
  | 143, 0 => mkMask 53 [0, 11, 12]
  | 148, 2 => mkMask 66 [1, 6]
  | 148, 0 => mkMask 66 [1, 3, 5]
  | 151, 2 => mkMask 85 [4, 6, 8, 9, 10, 11, 12]
  | 151, 0 => mkMask 85 [4, 6, 8, 9]
  | 161, 0 => mkMask 20 [3, 7, 8, 9]
  | 162, 0 => mkMask 21 [0, 1, 5]
  | 163, 2 => mkMask 94 [0, 3, 6]
  | 163, 0 => mkMask 94 [0, 3, 5]
  | 168, 1 => mkMask 55 [1, 35, 36, 37]
  | 169, 0 => mkMask 29 [0, 4, 8, 9, 10]
  | 171, 1 => mkMask 93 [0, 7, 49]
  | 173, 2 => mkMask 34 [0, 1, 8, 10, 11, 12, 16, 17]
  | 173, 0 => mkMask 34 [0, 1, 10, 11, 12]
  | 174, 2 => mkMask 28 [3, 6, 7, 8, 16]
  | 174, 0 => mkMask 28 [3, 6, 7, 8]
  | 176, 0 => mkMask 32 [1, 2, 15, 16, 17]
  | 178, 0 => mkMask 26 [0, 1, 12, 13]
  | 179, 0 => mkMask 26 [0, 1, 12, 13]
  | 180, 0 => mkMask 26 [0, 1, 12, 13]
  | 182, 0 => mkMask 49 [6, 8, 10, 11, 12, 26]
  | 183, 0 => mkMask 34 [0, 1, 5, 6]
  | 185, 2 => mkMask 89 [2, 4, 76, 77]
  | 185, 0 => mkMask 89 [1, 2, 3, 4, 17, 18]
  | 186, 0 => mkMask 31 [9, 10, 20, 21]
  | 189, 2 => mkMask 78 [1, 3, 6, 10, 11, 12, 13, 15]
  | 189, 0 => mkMask 78 [1, 3, 6, 10, 11, 12]
  | 190, 0 => mkMask 111 [1, 2, 3, 4, 8, 10, 13]
  | 191, 0 => mkMask 19 [0, 1, 7, 8]
  | 192, 0 => mkMask 19 [0, 1, 7, 8]
  | 194, 0 => mkMask 19 [0, 1, 7, 8]
  | 195, 0 => mkMask 45 [1, 6, 7, 8]
  | 199, 0 => mkMask 56 [0, 1, 2, 3, 9, 10]
  | 200, 0 => mkMask 23 [0, 1, 7]
  | 201, 0 => mkMask 19 [0, 1, 7, 8]
  | 214, 3 => mkMask 74 [1, 3, 6, 10, 43, 44, 45, 59, 60]
  | 214, 1 => mkMask 74 [1, 3, 6, 10, 43, 44, 45]
  | 216, 0 => mkMask 70 [1, 2, 4, 15, 16, 17]
  | 218, 0 => mkMask 65 [1, 2, 4, 5, 32, 33, 34]
  | 219, 0 => mkMask 65 [1, 8, 10, 14, 15]
  | 220, 2 => mkMask 82 [0, 1, 2, 3, 4, 5, 15, 16, 17, 18]
  | 220, 0 => mkMask 82 [0, 1, 2, 3, 4, 5, 15, 16, 17]
  | 221, 6 => mkMask 73 [1, 3, 4, 5, 8]
  | 221, 4 => mkMask 73 [1, 3, 4, 5, 6, 7]
  | 221, 2 => mkMask 73 [1, 3, 4, 5, 6]
  | 221, 0 => mkMask 73 [1, 3, 4]
  | 236, 0 => mkMask 19 [0, 1, 7, 8]
  | 237, 0 => mkMask 19 [0, 1, 7, 8]
  | 239, 0 => mkMask 19 [0, 1, 7, 8]
  | 240, 0 => mkMask 65 [1, 3, 4, 8, 10, 12, 29, 30, 31]
  | 243, 0 => mkMask 22 [1, 2, 7, 8, 9]
  | 244, 1 => mkMask 116 [1, 2, 3, 4, 8, 49, 50]
  | 245, 0 => mkMask 78 [0, 1, 2, 3, 4, 5, 12, 13, 15]
  | _, _ => []
theorem klq3_4 : killT 3 4 = [true, false, true, true, true, true, false, false, false, true, true, true, true, false, true, true, true, true, false, true, true, true, true, true, true, true, true, true, true, true, true, true, true, true, true, true, true, true, true, true, true, true, true, true, true, true, true, true, true, true, true, true, true, true, true, true, true, true, true, true, true, true, true, true, true, true, true, true, true, true, true, true, true, true, true, true, true, true, true, true, true, true, true, true, true, true, true, true, true, true, true, true, true, true, true, true, true, true, true, true, true, true, true, true, true, true, true, true, true, true, true, true, true, true, true, true, true, true, true, true, true, true, true, true, true, true, true, true, true, true, true, true, true, true, true, true, true, true, true, true, true, true, true, true, true, true, true] := by rfl
theorem klq3_2 : killT 3 2 = [true, false, true, true, true, true, false, false, false, false, true, false, false, true, true, true, true, true, true, true, true, true, true, true, true, true, true, true, true, true, true, true, true, true, true, true, true, true, true, true, true, true, true, true, true, true, true, true, true, true, true, true, true, true, true, true, true, true, true, true, true, true, true, true, true, true, true, true, true, true, true, true, true, true, true, true, true, true, true, true, true, true, true, true, true, true, true, true, true, true, true, true, true, true, true, true, true, true, true, true, true, true, true, true, true, true, true, true, true, true, true, true, true, true, true, true, true, true, true, true, true, true, true, true, true, true, true, true, true, true, true, true, true, true, true, true, true, true, true, true, true, true, true, true, true, true, true] := by rfl
theorem klq3_0 : killT 3 0 = [true, false, true, true, true, true, false, false, false, true, true, true, true, true, true, true, true, true, true, true, true, true, true, true, true, true, true, true, true, true, true, true, true, true, true, true, true, true, true, true, true, true, true, true, true, true, true, true, true, true, true, true, true, true, true, true, true, true, true, true, true, true, true, true, true, true, true, true, true, true, true, true, true, true, true, true, true, true, true, true, true, true, true, true, true, true, true, true, true, true, true, true, true, true, true, true, true, true, true, true, true, true, true, true, true, true, true, true, true, true, true, true, true, true, true, true, true, true, true, true, true, true, true, true, true, true, true, true, true, true, true, true, true, true, true, true, true, true, true, true, true, true, true, true, true, true, true] := by rfl
theorem klq4_0 : killT 4 0 = [true, false, true, false, false, false, true, true, false, false, true, true, true, true, true, true, true, true, true, true, true, true, true, true, true, true, true, true, true, true, true, true, true, true, true, true, true, true, true, true, true, true, true, true, true, true, true, true, true, true, true, true, true, true, true, true, true, true, true, true, true, true, true, true, true, true, true, true, true, true, true, true, true, true, true, true, true, true, true, true, true, true, true, true, true, true, true, true, true, true, true, true, true, true] := by rfl
theorem klq10_2 : killT 10 2 = [true, true, false, false, true, false, false, true, false, true, false, false, false, false, true, false, true, true, true, true, true, true, true, true, true, true, true, true, true, true, true, true, true, true, true, true, true, true, true, true, true, true, true, true, true, true, true, true, true, true, true, true, true, true, true, true, true, true, true, true, true, true, true, true, true, true, true, true, true, true, true, true, true, true, true, true, true, true, true, true, true, true, true, true, true, true, true, true, true, true, true, true, true, true, true, true, true, true, true, true, true, true, true, true, true, true, true, true, true, true, true, true, true, true, true, true, true, true, true, true, true, true, true, true, true, true, true, true, true, true, true, true, true, true, true, true, true, true, true, true, true, true, true, true, true, true, true, true, true, true, true, true, true, true, true, true, true, true, true, true, true, true, true, true, true, true, true, true, true, true, true, true, true, true, true, true, true, true, true, true, true, true, true, true, true, true, true, true, true, true, true, true, true, true, true, true, true, true, true, true, true, true, true, true, true, true, true, true, true, true, true, true, true] := by rfl
theorem klq10_0 : killT 10 0 = [true, true, false, false, true, false, false, true, false, false, true, true, true, true, true, true, true, true, true, true, true, true, true, true, true, true, true, true, true, true, true, true, true, true, true, true, true, true, true, true, true, true, true, true, true, true, true, true, true, true, true, true, true, true, true, true, true, true, true, true, true, true, true, true, true, true, true, true, true, true, true, true, true, true, true, true, true, true, true, true, true, true, true, true, true, true, true, true, true, true, true, true, true, true, true, true, true, true, true, true, true, true, true, true, true, true, true, true, true, true, true, true, true, true, true, true, true, true, true, true, true, true, true, true, true, true, true, true, true, true, true, true, true, true, true, true, true, true, true, true, true, true, true, true, true, true, true, true, true, true, true, true, true, true, true, true, true, true, true, true, true, true, true, true, true, true, true, true, true, true, true, true, true, true, true, true, true, true, true, true, true, true, true, true, true, true, true, true, true, true, true, true, true, true, true, true, true, true, true, true, true, true, true, true, true, true, true, true, true, true, true, true, true] := by rfl
theorem klq11_0 : killT 11 0 = [true, false, true, true, true, false, false, true, false, false, false, true, true, true, true, true, true, true, true, true, true, true, true, true, true, true, true, true, true, true, true, true, true, true, true, true, true, true, true, true, true, true, true, true, true, true, true, true, true, true, true, true, true, true, true, true, true, true, true, true, true, true, true, true, true, true, true, true, true, true, true, true, true, true, true, true, true, true, true, true, true, true, true, true, true, true, true, true, true, true, true, true, true, true, true, true, true, true, true, true, true, true, true, true, true, true, true, true, true, true, true, true, true, true, true, true] := by rfl
theorem klq12_0 : killT 12 0 = [true, true, true, true, true, true, true, false, true, true, false, true, true, false, false, false, false, true, true, true, true, true, true, true, true, true, true, true, true, true, true, true, true, true, true, true, true, true, true, true, true, true, true, true, true, true, true, true, true, true, true, true, true, true, true, true, true, true, true, true, true, true, true, true, true, true, true, true, true, true, true, true, true, true, true, true, true, true, true, true] := by rfl
theorem klq14_2 : killT 14 2 = [true, true, false, false, true, false, false, true, false, true, false, true, false, true, true, true, true, true, true, true, true, true, true, true, true, true, true, true, true, true, true, true, true, true, true, true, true, true, true, true, true, true, true, true, true, true, true, true, true, true, true, true, true, true, true, true, true, true, true, true, true, true, true, true, true, true, true, true, true, true, true, true, true, true, true, true, true, true, true, true, true, true, true, true, true, true, true, true, true, true, true, true, true, true, true, true, true, true, true, true, true, true, true, true, true, true, true, true, true, true, true, true, true, true, true, true, true, true, true, true, true, true, true, true, true, true, true, true, true, true, true, true, true, true, true, true, true, true, true, true, true, true, true, true, true, true, true, true, true, true, true, true, true, true, true, true, true, true, true, true, true, true, true, true, true, true, true, true, true, true, true, true, true, true, true, true, true, true, true, true, true, true, true, true, true, true, true, true, true, true, true, true, true, true, true, true, true, true, true, true, true, true, true, true] := by rfl
theorem klq14_0 : killT 14 0 = [true, true, false, false, true, false, false, true, false, true, false, false, true, true, true, true, true, true, true, true, true, true, true, true, true, true, true, true, true, true, true, true, true, true, true, true, true, true, true, true, true, true, true, true, true, true, true, true, true, true, true, true, true, true, true, true, true, true, true, true, true, true, true, true, true, true, true, true, true, true, true, true, true, true, true, true, true, true, true, true, true, true, true, true, true, true, true, true, true, true, true, true, true, true, true, true, true, true, true, true, true, true, true, true, true, true, true, true, true, true, true, true, true, true, true, true, true, true, true, true, true, true, true, true, true, true, true, true, true, true, true, true, true, true, true, true, true, true, true, true, true, true, true, true, true, true, true, true, true, true, true, true, true, true, true, true, true, true, true, true, true, true, true, true, true, true, true, true, true, true, true, true, true, true, true, true, true, true, true, true, true, true, true, true, true, true, true, true, true, true, true, true, true, true, true, true, true, true, true, true, true, true, true, true] := by rfl
theorem klq15_4 : killT 15 4 = [true, true, true, true, true, false, true, true, true, false, true, true, false, true, true, true, true, true, true, false, true, true, true, true, true, true, true, true, true, true, true, true, true, true, true, true, true, true, true, true, true, true, true, true, true, true, true, true, true, true, true, true, true, true, true, true, true, true, true, true, true, true, true, true, true, true, true, true, true, true, true, true, true, true, true, true, true, true, true, true, true, true, true, true, true, true, true, true, true, true, true, true, true, true, true, true, true, true, true, true, true, true, true, true, true, true, true, true, true, true, true, true, true, true, true, true, true, true, true, true, true, true, true, true, true, true, true, true, true, true, true, true, true, true, true, true, true, true, true, true, true, true, true, true, true, true, true, true, true, true, true, true, true, true, true, true, true, true, true, true, true, true, true, true, true, true, true, true, true, true] := by rfl
theorem klq15_2 : killT 15 2 = [true, true, true, true, true, false, true, true, true, false, true, false, false, false, false, true, true, true, true, true, true, true, true, true, true, true, true, true, true, true, true, true, true, true, true, true, true, true, true, true, true, true, true, true, true, true, true, true, true, true, true, true, true, true, true, true, true, true, true, true, true, true, true, true, true, true, true, true, true, true, true, true, true, true, true, true, true, true, true, true, true, true, true, true, true, true, true, true, true, true, true, true, true, true, true, true, true, true, true, true, true, true, true, true, true, true, true, true, true, true, true, true, true, true, true, true, true, true, true, true, true, true, true, true, true, true, true, true, true, true, true, true, true, true, true, true, true, true, true, true, true, true, true, true, true, true, true, true, true, true, true, true, true, true, true, true, true, true, true, true, true, true, true, true, true, true, true, true, true, true] := by rfl
theorem klq15_0 : killT 15 0 = [true, true, true, true, true, false, true, true, true, false, true, false, false, false, true, true, true, true, true, true, true, true, true, true, true, true, true, true, true, true, true, true, true, true, true, true, true, true, true, true, true, true, true, true, true, true, true, true, true, true, true, true, true, true, true, true, true, true, true, true, true, true, true, true, true, true, true, true, true, true, true, true, true, true, true, true, true, true, true, true, true, true, true, true, true, true, true, true, true, true, true, true, true, true, true, true, true, true, true, true, true, true, true, true, true, true, true, true, true, true, true, true, true, true, true, true, true, true, true, true, true, true, true, true, true, true, true, true, true, true, true, true, true, true, true, true, true, true, true, true, true, true, true, true, true, true, true, true, true, true, true, true, true, true, true, true, true, true, true, true, true, true, true, true, true, true, true, true, true, true] := by rfl
theorem klq16_4 : killT 16 4 = [true, true, false, false, true, false, true, true, false, false, true, false, true, true, true, false, true, true, false, false, false, true, true, true, true, true, true, true, true, true, true, true, true, true, true, true, true, true, true, true, true, true, true, true, true, true, true, true, true, true, true, true, true, true, true, true, true, true, true, true, true, true, true, true, true, true, true, true, true, true, true, true, true, true, true, true, true, true, true, true, true, true, true, true, true, true, true, true, true, true, true, true, true, true, true, true, true, true, true, true, true, true, true, true, true, true, true, true, true, true, true, true, true, true, true, true, true, true, true, true, true, true, true, true, true, true, true, true, true, true, true, true, true, true, true, true, true, true, true, true, true, true, true, true, true, true, true, true, true, true, true, true, true, true, true, true, true, true, true, true, true, true, true, true, true, true, true, true, true, true, true, true, true, true, true, true, true, true, true, true, true, true, true, true, true, true, true, true, true, true, true, true, true, true, true, true, true, true, true, true, true, true, true, true, true, true, true, true, true, true, true, true, true, true, true, true, true, true, true, true, true] := by rfl
theorem klq16_2 : killT 16 2 = [true, true, false, false, true, false, true, true, false, false, true, false, true, true, true, false, false, true, true, true, true, true, true, true, true, true, true, true, true, true, true, true, true, true, true, true, true, true, true, true, true, true, true, true, true, true, true, true, true, true, true, true, true, true, true, true, true, true, true, true, true, true, true, true, true, true, true, true, true, true, true, true, true, true, true, true, true, true, true, true, true, true, true, true, true, true, true, true, true, true, true, true, true, true, true, true, true, true, true, true, true, true, true, true, true, true, true, true, true, true, true, true, true, true, true, true, true, true, true, true, true, true, true, true, true, true, true, true, true, true, true, true, true, true, true, true, true, true, true, true, true, true, true, true, true, true, true, true, true, true, true, true, true, true, true, true, true, true, true, true, true, true, true, true, true, true, true, true, true, true, true, true, true, true, true, true, true, true, true, true, true, true, true, true, true, true, true, true, true, true, true, true, true, true, true, true, true, true, true, true, true, true, true, true, true, true, true, true, true, true, true, true, true, true, true, true, true, true, true, true, true] := by rfl
theorem klq16_0 : killT 16 0 = [true, true, true, false, true, false, true, true, true, false, true, false, false, false, true, true, true, true, true, true, true, true, true, true, true, true, true, true, true, true, true, true, true, true, true, true, true, true, true, true, true, true, true, true, true, true, true, true, true, true, true, true, true, true, true, true, true, true, true, true, true, true, true, true, true, true, true, true, true, true, true, true, true, true, true, true, true, true, true, true, true, true, true, true, true, true, true, true, true, true, true, true, true, true, true, true, true, true, true, true, true, true, true, true, true, true, true, true, true, true, true, true, true, true, true, true, true, true, true, true, true, true, true, true, true, true, true, true, true, true, true, true, true, true, true, true, true, true, true, true, true, true, true, true, true, true, true, true, true, true, true, true, true, true, true, true, true, true, true, true, true, true, true, true, true, true, true, true, true, true, true, true, true, true, true, true, true, true, true, true, true, true, true, true, true, true, true, true, true, true, true, true, true, true, true, true, true, true, true, true, true, true, true, true, true, true, true, true, true, true, true, true, true, true, true, true, true, true, true, true, true] := by rfl
theorem klq17_4 : killT 17 4 = [true, true, true, true, true, false, false, true, false, false, true, false, false, false, true, false, false, false, false, true, true, true, true, true, true, true, true, true, true, true, true, true, true, true, true, true, true, true, true, true, true, true, true, true, true, true, true, true, true, true, true, true, true, true, true, true, true, true, true, true, true, true, true, true, true, true, true, true, true, true, true, true, true, true, true, true, true, true, true, true, true, true, true, true, true, true, true, true, true, true, true, true, true, true, true, true, true, true, true, true, true, true, true, true, true, true, true, true, true, true, true, true, true, true, true, true, true, true, true, true, true, true, true, true, true, true, true, true, true, true, true, true, true, true, true, true, true, true, true, true, true, true, true, true, true, true, true, true, true, true, true, true, true, true, true, true, true, true, true, true, true, true, true, true, true, true, true, true, true, true, true, true, true, true, true, true, true, true, true, true, true, true, true, true, true, true, true, true, true, true, true, true, true, true, true, true, true, true, true, true, true, true, true, true, true, true, true, true, true, true, true, true, true, true, true, true, true, true, true, true, true, true] := by rfl
theorem klq17_2 : killT 17 2 = [true, true, true, true, true, false, false, true, false, false, true, false, false, false, true, false, false, true, true, true, true, true, true, true, true, true, true, true, true, true, true, true, true, true, true, true, true, true, true, true, true, true, true, true, true, true, true, true, true, true, true, true, true, true, true, true, true, true, true, true, true, true, true, true, true, true, true, true, true, true, true, true, true, true, true, true, true, true, true, true, true, true, true, true, true, true, true, true, true, true, true, true, true, true, true, true, true, true, true, true, true, true, true, true, true, true, true, true, true, true, true, true, true, true, true, true, true, true, true, true, true, true, true, true, true, true, true, true, true, true, true, true, true, true, true, true, true, true, true, true, true, true, true, true, true, true, true, true, true, true, true, true, true, true, true, true, true, true, true, true, true, true, true, true, true, true, true, true, true, true, true, true, true, true, true, true, true, true, true, true, true, true, true, true, true, true, true, true, true, true, true, true, true, true, true, true, true, true, true, true, true, true, true, true, true, true, true, true, true, true, true, true, true, true, true, true, true, true, true, true, true, true] := by rfl
theorem klq17_0 : killT 17 0 = [true, true, true, true, true, false, false, true, false, false, true, false, false, false, false, true, true, true, true, true, true, true, true, true, true, true, true, true, true, true, true, true, true, true, true, true, true, true, true, true, true, true, true, true, true, true, true, true, true, true, true, true, true, true, true, true, true, true, true, true, true, true, true, true, true, true, true, true, true, true, true, true, true, true, true, true, true, true, true, true, true, true, true, true, true, true, true, true, true, true, true, true, true, true, true, true, true, true, true, true, true, true, true, true, true, true, true, true, true, true, true, true, true, true, true, true, true, true, true, true, true, true, true, true, true, true, true, true, true, true, true, true, true, true, true, true, true, true, true, true, true, true, true, true, true, true, true, true, true, true, true, true, true, true, true, true, true, true, true, true, true, true, true, true, true, true, true, true, true, true, true, true, true, true, true, true, true, true, true, true, true, true, true, true, true, true, true, true, true, true, true, true, true, true, true, true, true, true, true, true, true, true, true, true, true, true, true, true, true, true, true, true, true, true, true, true, true, true, true, true, true, true] := by rfl
theorem klq20_2 : killT 20 2 = [true, true, true, false, false, true, false, false, false, true, false, false, true, true, true, true, true, true, true, true, true, true, true, true, true, true, true, true, true, true, true, true, true, true, true, true, true, true, true, true, true, true, true, true, true, true, true, true, true, true, true, true, true, true, true, true, true, true, true, true, true, true, true, true, true, true, true, true, true, true, true, true, true, true, true, true, true, true, true] := by rfl
theorem klq20_0 : killT 20 0 = [true, true, true, false, false, true, false, false, false, false, true, true, true, true, true, true, true, true, true, true, true, true, true, true, true, true, true, true, true, true, true, true, true, true, true, true, true, true, true, true, true, true, true, true, true, true, true, true, true, true, true, true, true, true, true, true, true, true, true, true, true, true, true, true, true, true, true, true, true, true, true, true, true, true, true, true, true, true, true] := by rfl
theorem klq22_2 : killT 22 2 = [true, true, false, true, true, false, true, false, true, false, false, false, false, true, true, true, true, true, true, true, true, true, true, true, true, true, true, true, true, true, true, true, true, true, true, true, true, true, true, true, true, true, true, true, true, true, true, true, true, true, true, true, true, true, true, true, true, true, true, true, true, true, true, true, true, true, true, true, true, true, true, true, true, true, true, true, true, true, true, true, true, true, true, true, true, true, true, true, true, true, true, true, true, true, true, true, true, true, true, true, true, true, true, true, true, true, true, true, true, true, true, true, true, true, true, true, true, true, true, true, true, true, true, true, true, true] := by rfl
theorem klq22_0 : killT 22 0 = [true, true, false, false, true, false, false, false, false, true, true, true, true, true, true, true, true, true, true, true, true, true, true, true, true, true, true, true, true, true, true, true, true, true, true, true, true, true, true, true, true, true, true, true, true, true, true, true, true, true, true, true, true, true, true, true, true, true, true, true, true, true, true, true, true, true, true, true, true, true, true, true, true, true, true, true, true, true, true, true, true, true, true, true, true, true, true, true, true, true, true, true, true, true, true, true, true, true, true, true, true, true, true, true, true, true, true, true, true, true, true, true, true, true, true, true, true, true, true, true, true, true, true, true, true, true] := by rfl
theorem klq31_2 : killT 31 2 = [false, false, false, true, true, true, true, true, false, false, false, false, true, true, true, true, true, true, true, true, true, true, true, true, true, true, true, true, true, true, true, true, true, true, true, true, true, true, true, true, true, true, true, true, true, true, true, true, true, true, true, true, true, true, true, true, true, true, true, true, true, true, true, true, true, true, true, true, true, true, true, true, true, true, true, true, true, true, true, true, true, true, true, true, true, true, true, true, true, true, true, true] := by rfl
theorem klq31_0 : killT 31 0 = [false, false, false, true, true, true, true, true, false, false, true, true, true, true, true, true, true, true, true, true, true, true, true, true, true, true, true, true, true, true, true, true, true, true, true, true, true, true, true, true, true, true, true, true, true, true, true, true, true, true, true, true, true, true, true, true, true, true, true, true, true, true, true, true, true, true, true, true, true, true, true, true, true, true, true, true, true, true, true, true, true, true, true, true, true, true, true, true, true, true, true, true] := by rfl
theorem klq32_0 : killT 32 0 = [false, false, true, true, true, false, true, true, true, true, true, true, true, true, true, true, true, true, true, true, true, true, true, true, true, true] := by rfl
theorem klq34_0 : killT 34 0 = [true, false, false, false, false, true, true, true, true, true, true, true, true, true, true, true, true, true, true, true, true, true, true, true, true, true, true, true, true, true, true, true, true, true, true, true, true, true, true, true, true, true, true, true, true, true, true, true, true, true, true, true, true, true, true, true, true, true, true, true, true, true, true, true, true, true, true, true, true, true] := by rfl
theorem klq35_2 : killT 35 2 = [true, false, true, true, true, false, true, true, true, true, true, true, true, true, true, true, true, true, true, true, true, true, true, true, true, true, true, true, true, true, true, true, true, true, true, true, true, true, true, true, true, true, true, true, true, true, true, true, true, true, true, true, false, false, false, true, true, true, true, true, true, true, true, true, true, true, true, true, true, true, true, true, true, true, true, true] := by rfl
theorem klq35_0 : killT 35 0 = [true, false, true, true, true, false, true, true, true, true, true, true, true, true, true, true, true, true, true, true, true, true, true, true, false, false, false, true, true, true, true, true, true, true, true, true, true, true, true, true, true, true, true, true, true, true, true, true, true, true, true, true, true, true, true, true, true, true, true, true, true, true, true, true, true, true, true, true, true, true, true, true, true, true, true, true] := by rfl
theorem klq36_6 : killT 36 6 = [true, false, true, true, false, true, true, true, true, true, true, true, true, false, true, true, true, true, true, true, true, true, true, true, true, true, true, true, true, true, true, true, true, true, true, true, true, true, true, true, true, true, true, true, true, true, true, true, true, true, true, true, true, true, true, true, true, true, true, true, true, true, true, true, true, true, true, true, true, true, true, true, true, true, true, true, true, true, true, true, true, true, true, true, true, true, true, true, true, true, true, true, true, true, true, true, true, true, true, true, true, true, true, true, true, true, true, true, true, true, true, true, true, true, true, true, true, true, true, true, true, true, true, true, true, true, true, true, true, true, true, true, true, true, true, true, true, true, true, true, true, true, true, true, true, true, true, true, true, true, true] := by rfl
theorem klq36_4 : killT 36 4 = [true, false, true, true, false, true, false, false, false, false, false, true, true, true, true, true, true, true, true, true, true, true, true, true, true, true, true, true, true, true, true, true, true, true, true, true, true, true, true, true, true, true, true, true, true, true, true, true, true, true, true, true, true, true, true, true, true, true, true, true, true, true, true, true, true, true, true, true, true, true, true, true, true, true, true, true, true, true, true, true, true, true, true, true, true, true, true, true, true, true, true, true, true, true, true, true, true, true, true, true, true, true, true, true, true, true, true, true, true, true, true, true, true, true, true, true, true, true, true, true, true, true, true, true, true, true, true, true, true, true, true, true, true, true, true, true, true, true, true, true, true, true, true, true, true, true, true, true, true, true, true] := by rfl
theorem klq36_2 : killT 36 2 = [true, false, true, true, false, true, false, false, true, true, true, true, true, true, true, true, true, true, true, true, true, true, true, true, true, true, true, true, true, true, true, true, true, true, true, true, true, true, true, true, true, true, true, true, true, true, true, true, true, true, true, true, true, true, true, true, true, true, true, true, true, true, true, true, true, true, true, true, true, true, true, true, true, true, true, true, true, true, true, true, true, true, true, true, true, true, true, true, true, true, true, true, true, true, true, true, true, true, true, true, true, true, true, true, true, true, true, true, true, true, true, true, true, true, true, true, true, true, true, true, true, true, true, true, true, true, true, true, true, true, true, true, true, true, true, true, true, true, true, true, true, true, true, true, true, true, true, true, true, true, true] := by rfl
theorem klq36_0 : killT 36 0 = [true, false, true, true, false, false, true, true, true, true, true, true, true, true, true, true, true, true, true, true, true, true, true, true, true, true, true, true, true, true, true, true, true, true, true, true, true, true, true, true, true, true, true, true, true, true, true, true, true, true, true, true, true, true, true, true, true, true, true, true, true, true, true, true, true, true, true, true, true, true, true, true, true, true, true, true, true, true, true, true, true, true, true, true, true, true, true, true, true, true, true, true, true, true, true, true, true, true, true, true, true, true, true, true, true, true, true, true, true, true, true, true, true, true, true, true, true, true, true, true, true, true, true, true, true, true, true, true, true, true, true, true, true, true, true, true, true, true, true, true, true, true, true, true, true, true, true, true, true, true, true] := by rfl
theorem klq39_0 : killT 39 0 = [true, true, false, false, true, true, true, false, true, true, true, true, true, true, true, true, true, true, true, true, true, true, true, true, true, true, true, true, true, true, true, true, true, true, true, true, true, true, true, true, true, true, true, true, true, true, true, true, true, true, true, true, true, true] := by rfl
theorem klq40_2 : killT 40 2 = [false, true, false, true, true, false, false, true, true, true, true, false, false, true, true, true, true, true, true, true, true, true, true, true, true, true, true, true, true, true, true, true, true, true, true, true, true, true, true, true, true, true, true, true, true, true, true, true, true, true, true, true, true, true, true, true, true, true, true, true, true, true, true, true, true, true, true, true, true, true, true, true, true, true, true, true, true, true, true, true, true, true, true, true, true, true, true, true, true, true, true, true, true, true, true, true, true, true, true, true] := by rfl
theorem klq40_0 : killT 40 0 = [false, true, false, true, true, false, false, false, false, true, true, true, true, true, true, true, true, true, true, true, true, true, true, true, true, true, true, true, true, true, true, true, true, true, true, true, true, true, true, true, true, true, true, true, true, true, true, true, true, true, true, true, true, true, true, true, true, true, true, true, true, true, true, true, true, true, true, true, true, true, true, true, true, true, true, true, true, true, true, true, true, true, true, true, true, true, true, true, true, true, true, true, true, true, true, true, true, true, true, true] := by rfl
theorem klq44_0 : killT 44 0 = [true, false, false, false, false, false, true, true, true, true, true, true, true, true, true, true, true, true, true, true, true, true, true, true, true, true, true, true, true, true, true, true, true, true, true, true, true, true, true, true, true, true, true, true, true, true, true, true, true, true, true, true, true, true, true, true, true, true, true, true, true, true, true, true, true, true, true, true, true, true, true, true, true, true, true, true, true, true, true, true, true, true, true, true, true, true] := by rfl
theorem klq45_2 : killT 45 2 = [true, true, true, true, true, true, true, true, false, true, true, true, true, true, true, true, true, true, true, true, true, true, true, true, true, true, true, true, true, true, true, true, true, true, true, true, true, true, true, true, true, true, true, true, true, true, true, true, true, true, true, true, true, true, true, true, true, true, true, true, true, true, true, true, true, true, true, true, true, true, true, true, true, true, false, false, false, true, true, true, true, true, true, true, true, true, true, true] := by rfl
theorem klq46_5 : killT 46 5 = [true, true, true, true, true, true, true, true, true, false, true, true, true, true, true, true, false, true, true, true, true, true, true, true, true, true, true, true, true, true, true, true, true, true, true, true, true, true, true, true, true, true, true, true, true, true, true, true, true, true, true, true, true, true, true, true, true, true, true, true, true, true, true, true, true, true, true, true, true, true, true, true, true, true, true, true, true, true, true, true, true, true, true, true, true, true, true, true, true, true, true, true, true, true, true, true, true, true, true, true, true, true, true, true, true, true, true, true, true, true, true, true, true, true, true, true, true, true, true, true, true, true, true, true, true, true, true, true, true, true, true, true, true, true, true, true, true, true, true, true, true, true, true, true, true, true, true, true, true, true, true, true, true, true, true, true, true, true, true, true, true, true, true, true, true, true, true, true, true, true, true, true, true, true, true, true, true, true, true, true, true, true, true, true, true, true, true, true, true, true, true, true, true, true, true, true, true, true, true, true, true, true, true, true, true, true, true, true, true, true, true, true, true, true, true, true, true, true, true, true, true, true, true, true, true, true, true, true, true, true, true, true, true, true, true, true, true, true, true] := by rfl
theorem klq46_1 : killT 46 1 = [true, true, true, false, true, true, false, true, true, false, false, false, false, true, true, true, true, true, true, true, true, true, true, true, true, true, true, true, true, true, true, true, true, true, true, true, true, true, true, true, true, true, true, true, true, true, true, true, true, true, true, true, true, true, true, true, true, true, true, true, true, true, true, true, true, true, true, true, true, true, true, true, true, true, true, true, true, true, true, true, true, true, true, true, true, true, true, true, true, true, true, true, true, true, true, true, true, true, true, true, true, true, true, true, true, true, true, true, true, true, true, true, true, true, true, true, true, true, true, true, true, true, true, true, true, true, true, true, true, true, true, true, true, true, true, true, true, true, true, true, true, true, true, true, true, true, true, true, true, true, true, true, true, true, true, true, true, true, true, true, true, true, true, true, true, true, true, true, true, true, true, true, true, true, true, true, true, true, true, true, true, true, true, true, true, true, true, true, true, true, true, true, true, true, true, true, true, true, true, true, true, true, true, true, true, true, true, true, true, true, true, true, true, true, true, true, true, true, true, true, true, true, true, true, true, true, true, true, true, true, true, true, true, true, true, true, true, true, true] := by rfl
theorem klq46_3 : killT 46 3 = [true, true, false, false, true, true, false, true, false, false, true, true, true, false, false, false, true, true, true, true, true, true, true, true, true, true, true, true, true, true, true, true, true, true, true, true, true, true, true, true, true, true, true, true, true, true, true, true, true, true, true, true, true, true, true, true, true, true, true, true, true, true, true, true, true, true, true, true, true, true, true, true, true, true, true, true, true, true, true, true, true, true, true, true, true, true, true, true, true, true, true, true, true, true, true, true, true, true, true, true, true, true, true, true, true, true, true, true, true, true, true, true, true, true, true, true, true, true, true, true, true, true, true, true, true, true, true, true, true, true, true, true, true, true, true, true, true, true, true, true, true, true, true, true, true, true, true, true, true, true, true, true, true, true, true, true, true, true, true, true, true, true, true, true, true, true, true, true, true, true, true, true, true, true, true, true, true, true, true, true, true, true, true, true, true, true, true, true, true, true, true, true, true, true, true, true, true, true, true, true, true, true, true, true, true, true, true, true, true, true, true, true, true, true, true, true, true, true, true, true, true, true, true, true, true, true, true, true, true, true, true, true, true, true, true, true, true, true, true] := by rfl
theorem klq47_0 : killT 47 0 = [false, false, true, true, true, false, true, true, true, true, true, true, true, true, true, true, true, true, true, true, true, true, true, true, true, true] := by rfl
theorem klq53_2 : killT 53 2 = [true, false, false, true, true, true, true, false, false, true, true, true, true, true, true, true, true, true, true, true, true, true, true, true, true, true, true, true, true, true, true, true, true, true, true, true, true, true, true, true, true, true, true, true, true, true, true, true, true, true, true, true, true, true, true, true, true, true, true, true, true, true, true, true, true, true, true, true, true, true, true, true, true, true, true, true, true, true, true, true, true, true, true, true, true, true, true, true, true, true, true, true, true, true, true, true, true, true, true, true, true, true, true, true, true, true, true, true, true, true, true, true] := by rfl
theorem klq53_0 : killT 53 0 = [true, false, false, false, false, false, true, true, true, true, true, true, true, true, true, true, true, true, true, true, true, true, true, true, true, true, true, true, true, true, true, true, true, true, true, true, true, true, true, true, true, true, true, true, true, true, true, true, true, true, true, true, true, true, true, true, true, true, true, true, true, true, true, true, true, true, true, true, true, true, true, true, true, true, true, true, true, true, true, true, true, true, true, true, true, true, true, true, true, true, true, true, true, true, true, true, true, true, true, true, true, true, true, true, true, true, true, true, true, true, true, true] := by rfl
theorem klq54_0 : killT 54 0 = [true, true, true, true, true, true, true, true, true, true, true, true, true, true, true, true, true, true, true, true, true, true, true, true, true, true, false, false, true, true, true, true, true, true, true, true, true, true, true] := by rfl
theorem klq55_0 : killT 55 0 = [false, true, true, true, false, false, true, true, true, true, true, true, true, true, true, true, true, true, true, true, true, true, true, true, true, true, true, true, true, true, true, true] := by rfl
theorem klq56_2 : killT 56 2 = [true, true, true, true, true, false, true, true, true, true, true, true, true, true, true, true, true, true, true, true, true, true, true, true, true, true, true, true, true, true, true, true, true, true, true, true, true, true, true, true, true, true, true, true, false, false, true, true, true, true, true, true, true, true, true, true, true, true, true] := by rfl
theorem klq56_0 : killT 56 0 = [true, false, true, true, true, false, true, true, true, true, true, true, true, true, true, true, true, true, true, true, true, true, true, true, true, false, false, false, true, true, true, true, true, true, true, true, true, true, true, true, true, true, true, true, true, true, true, true, true, true, true, true, true, true, true, true, true, true, true] := by rfl
theorem klq57_0 : killT 57 0 = [true, true, false, false, true, false, true, false, true, true, true, true, true, true, true, true, true, true, true, true, true, true, true, true, true, true, true, true, true, true, true, true, true, true, true, true, true, true] := by rfl
theorem klq59_0 : killT 59 0 = [true, false, false, false, false, true, true, true, true, true, true, true, true, true, true, true, true, true, true, true, true, true, true, true, true, true, true, true, true, true, true, true, true, true, true, true, true, true, true, true, true, true, true, true, true, true, true, true, true, true, true, true, true, true, true, true, true, true, true, true, true, true, true, true, true, true, true, true, true, true] := by rfl
theorem klq61_0 : killT 61 0 = [false, false, true, true, true, false, false, true, true, true, true, true, true, true, true, true, true, true, true, true, true, true, true, true, true, true, true, true, true, true, true, true, true, true, true, true, true] := by rfl
theorem klq63_1 : killT 63 1 = [true, false, true, false, false, false, true, true, true, true, true, true, true, true, true, true, true, true, true, true, true, true, true, true, true, true, true, true, true, true, true, true, true, true, true, true, true, true, true, true, true, true, true, true, true, true, true, true, true, true, true, true, true, true, true, true, true, true, true, true, true, true, true, true, true, true, true, true, true, true, true, true, true, true, true, true, true, true, true, true, true, true, true, true, true, true, true, true, true, true, true, true, true, true, true, true, true, true, true, true, true, true, true, true, true, true, true, true, true, true, true, true, true, true, true, true, true, true] := by rfl
theorem klq64_0 : killT 64 0 = [false, true, true, false, false, true, true, true, true, true, true, true, true, true, true, true, true, true] := by rfl
theorem klq67_4 : killT 67 4 = [true, true, true, true, true, true, true, true, false, true, false, true, true, true, true, true, true, false, false, false, true, false, true, true, true, true, true, true, true, true, true, true, true, true, true, true, true, true, true, true, true, true, true, true, true, true, true, true, true, true, true, true, true, true, true, true, true, true, true, true, true, true, true, true, true, true, true, true, true, true, true, true, true, true, true, true, true, true, true, true, true, true, true, true, true, true, true, true, true, true, true, true, true, true, true, true, true, true, true, true, true, true, true, true, true, true, true, true, true, true, true, true, true, true, true, true, true, true, true, true, true, true, true, true, true, true, true, true, true, true, true, true, true, true, true, true, true, true, true, true, true, true, true, true, true, true, true, true, true, true, true, true, true, true, true, true, true, true, true, true, true, true, true, true, true, true, true, true, true, true, true, true, true, true, true, true, true, true, true, true, true, true, true, true, true, true, true, true, true, true, true, true, true, true, true, true, true, true, true, true, true, true, true, true, true, true, true] := by rfl
theorem klq67_2 : killT 67 2 = [true, true, true, true, true, true, true, true, false, true, false, true, true, false, true, true, true, false, false, false, false, true, true, true, true, true, true, true, true, true, true, true, true, true, true, true, true, true, true, true, true, true, true, true, true, true, true, true, true, true, true, true, true, true, true, true, true, true, true, true, true, true, true, true, true, true, true, true, true, true, true, true, true, true, true, true, true, true, true, true, true, true, true, true, true, true, true, true, true, true, true, true, true, true, true, true, true, true, true, true, true, true, true, true, true, true, true, true, true, true, true, true, true, true, true, true, true, true, true, true, true, true, true, true, true, true, true, true, true, true, true, true, true, true, true, true, true, true, true, true, true, true, true, true, true, true, true, true, true, true, true, true, true, true, true, true, true, true, true, true, true, true, true, true, true, true, true, true, true, true, true, true, true, true, true, true, true, true, true, true, true, true, true, true, true, true, true, true, true, true, true, true, true, true, true, true, true, true, true, true, true, true, true, true, true, true, true] := by rfl
theorem klq67_0 : killT 67 0 = [true, false, true, false, true, true, true, true, false, true, false, false, true, false, false, true, true, true, true, true, true, true, true, true, true, true, true, true, true, true, true, true, true, true, true, true, true, true, true, true, true, true, true, true, true, true, true, true, true, true, true, true, true, true, true, true, true, true, true, true, true, true, true, true, true, true, true, true, true, true, true, true, true, true, true, true, true, true, true, true, true, true, true, true, true, true, true, true, true, true, true, true, true, true, true, true, true, true, true, true, true, true, true, true, true, true, true, true, true, true, true, true, true, true, true, true, true, true, true, true, true, true, true, true, true, true, true, true, true, true, true, true, true, true, true, true, true, true, true, true, true, true, true, true, true, true, true, true, true, true, true, true, true, true, true, true, true, true, true, true, true, true, true, true, true, true, true, true, true, true, true, true, true, true, true, true, true, true, true, true, true, true, true, true, true, true, true, true, true, true, true, true, true, true, true, true, true, true, true, true, true, true, true, true, true, true, true] := by rfl
theorem klq68_0 : killT 68 0 = [true, false, false, false, true, true, false, true, false, true, false, false, true, true, true, true, true, true, true, true, true, true, true, true, true, true, true, true, true, true, true, true, true, true, true, true, true, true, true, true, true, true, true, true, true, true, true, true, true, true, true, true, true, true, true, true, true, true, true, true, true, true, true, true, true, true, true, true, true, true, true, true, true, true, true, true, true, true, true, true, true, true, true, true, true, true, true, true, true, true, true] := by rfl
theorem klq69_0 : killT 69 0 = [true, true, false, false, true, false, true, true, true, true, true, true, true, true, true, true, true, true, true, true] := by rfl
theorem klq71_2 : killT 71 2 = [true, false, false, true, true, true, true, false, false, true, true, true, true, true, true, true, true, true, true, true, true, true, true, true, true, true, true, true, true, true, true, true, true, true, true, true, true, true, true, true, true, true, true, true, true, true, true, true, true, true, true, true, true, true, true, true, true, true, true, true, true, true, true, true, true, true, true, true, true, true, true, true, true, true, true, true, true, true, true, true, true, true, true, true, true, true, true, true, true, true, true, true, true, true, true, true, true, true, true, true, true, true, true, true, true, true, true, true, true, true, true, true] := by rfl
theorem klq71_0 : killT 71 0 = [true, false, false, false, false, false, true, true, true, true, true, true, true, true, true, true, true, true, true, true, true, true, true, true, true, true, true, true, true, true, true, true, true, true, true, true, true, true, true, true, true, true, true, true, true, true, true, true, true, true, true, true, true, true, true, true, true, true, true, true, true, true, true, true, true, true, true, true, true, true, true, true, true, true, true, true, true, true, true, true, true, true, true, true, true, true, true, true, true, true, true, true, true, true, true, true, true, true, true, true, true, true, true, true, true, true, true, true, true, true, true, true] := by rfl
theorem klq72_3 : killT 72 3 = [true, true, true, true, true, false, true, true, true, true, true, true, true, true, true, true, true, true, true, true, true, true, true, true, true, true, true, true, true, true, true, true, true, false, false, true, true, true, true, true, true, true] := by rfl
theorem klq72_0 : killT 72 0 = [true, true, true, true, false, false, true, true, true, true, true, true, true, true, true, true, true, true, true, true, true, true, true, true, true, true, true, true, true, true, true, true, true, true, true, true, true, true, true, true, true, true] := by rfl
theorem klq73_2 : killT 73 2 = [true, false, true, true, false, false, false, false, false, false, true, true, true, true, true, true, true, true, true, true, true, true, true, true, true, true, true, true, true, true, true, true, true, true, true, true, true, true, true, true, true, true, true, true, true, true, true, true, true, true, true, true, true, true, true, true, true, true, true, true, true, true, true, true, true, true, true, true, true, true, true, true, true, true, true, true, true, true, true, true, true, true, true, true, true] := by rfl
theorem klq73_0 : killT 73 0 = [true, false, true, true, false, false, false, true, true, true, true, true, true, true, true, true, true, true, true, true, true, true, true, true, true, true, true, true, true, true, true, true, true, true, true, true, true, true, true, true, true, true, true, true, true, true, true, true, true, true, true, true, true, true, true, true, true, true, true, true, true, true, true, true, true, true, true, true, true, true, true, true, true, true, true, true, true, true, true, true, true, true, true, true, true] := by rfl
theorem klq75_2 : killT 75 2 = [true, true, true, false, true, true, true, true, true, true, false, false, true, true, false, false, false, true, true, true, true, true, true, true, true, true, true, true, true, true, true, true, true, true, true, true, true, true, true, true, true, true] := by rfl
theorem klq75_0 : killT 75 0 = [true, true, true, false, true, true, true, true, true, true, false, false, true, true, true, true, true, true, true, true, true, true, true, true, true, true, true, true, true, true, true, true, true, true, true, true, true, true, true, true, true, true] := by rfl
theorem klq76_2 : killT 76 2 = [true, false, true, false, false, false, true, true, true, true, true, true, true, true, true, true, true, true, true, true, true, true, true, true, true, true, true, true, true, true, true, true, true, true, true, true, true, true, true, true, true, true, true, true, true, true, true, true, true, true, true, true, true, true, true, true, true] := by rfl
theorem klq76_0 : killT 76 0 = [true, false, true, false, false, true, true, true, true, true, true, true, true, true, true, true, true, true, true, true, true, true, true, true, true, true, true, true, true, true, true, true, true, true, true, true, true, true, true, true, true, true, true, true, true, true, true, true, true, true, true, true, true, true, true, true, true] := by rfl
theorem klq77_2 : killT 77 2 = [true, false, true, true, false, true, true, true, true, true, true, true, true, true, true, true, true, true, true, true, false, false, true, true, true, false, false, false, true, true, true, true, true, true, true, true, true, true, true, true, true, true, true, true, true, true, true, true, true, true, true] := by rfl
theorem klq77_0 : killT 77 0 = [true, false, true, true, true, true, true, true, true, true, true, true, true, true, true, true, true, true, true, true, false, false, true, true, true, true, true, true, true, true, true, true, true, true, true, true, true, true, true, true, true, true, true, true, true, true, true, true, true, true, true] := by rfl
theorem klq78_6 : killT 78 6 = [true, false, true, true, true, true, true, false, false, true, true, true, true, true, true, true, true, true, true, true, true, true, true, true, true, true, true, true, true, true, true, true, true, true, true, true, true, true, true, true, true, true, true, true, true, true, true, true, true, true, true, true, true, true, true, true, true, true, true, true, true, true, true, true, true, true, true, true, true, true, true, true, true, true, true, true, true, true, true, true, true, true, true, true, true, true, true, true, true, true] := by rfl
theorem klq78_4 : killT 78 4 = [true, false, true, true, true, true, true, false, true, true, true, true, true, true, true, true, true, true, true, true, true, true, true, true, true, true, true, true, true, true, true, true, true, true, true, true, true, true, true, true, true, true, true, true, true, true, true, true, true, true, true, true, true, true, true, true, true, true, true, true, true, true, true, true, true, true, true, true, true, true, true, true, true, true, true, true, true, true, true, true, true, true, true, true, true, true, true, true, true, true] := by rfl
theorem klq78_2 : killT 78 2 = [true, false, true, true, false, false, false, true, true, true, true, true, true, true, true, true, true, true, true, true, true, true, true, true, true, true, true, true, true, true, true, true, true, true, true, true, true, true, true, true, true, true, true, true, true, true, true, true, true, true, true, true, true, true, true, true, true, true, true, true, true, true, true, true, true, true, true, true, true, true, true, true, true, true, true, true, true, true, true, true, true, true, true, true, true, true, true, true, true, true] := by rfl
theorem klq78_0 : killT 78 0 = [true, false, true, true, false, true, true, true, true, true, true, true, true, true, true, true, true, true, true, true, true, true, true, true, true, true, true, true, true, true, true, true, true, true, true, true, true, true, true, true, true, true, true, true, true, true, true, true, true, true, true, true, true, true, true, true, true, true, true, true, true, true, true, true, true, true, true, true, true, true, true, true, true, true, true, true, true, true, true, true, true, true, true, true, true, true, true, true, true, true] := by rfl
theorem klq80_0 : killT 80 0 = [true, false, true, true, false, false, true, true, true, true, true, true, true, true, true, true, true, true, true, true, true, true, true, true, true, true, true, true, true, true, true, true] := by rfl
theorem klq81_4 : killT 81 4 = [true, true, false, true, true, true, false, true, true, true, true, false, true, true, true, true, true, true, true, true, true, true, true, true, true, true, true, true, true, true, true, true, true, true, true, true, true, true, true, true, true, true, true, true, true, true, true, true, true, true, true, true, true, true, true, true, true, true, true, true, true, true, true, true, true, true, true, true] := by rfl
theorem klq81_2 : killT 81 2 = [true, false, false, true, false, true, false, false, false, true, false, true, true, true, true, true, true, true, true, true, true, true, true, true, true, true, true, true, true, true, true, true, true, true, true, true, true, true, true, true, true, true, true, true, true, true, true, true, true, true, true, true, true, true, true, true, true, true, true, true, true, true, true, true, true, true, true, true] := by rfl
theorem klq81_0 : killT 81 0 = [true, false, false, true, false, true, false, false, true, true, true, true, true, true, true, true, true, true, true, true, true, true, true, true, true, true, true, true, true, true, true, true, true, true, true, true, true, true, true, true, true, true, true, true, true, true, true, true, true, true, true, true, true, true, true, true, true, true, true, true, true, true, true, true, true, true, true, true] := by rfl
theorem klq86_0 : killT 86 0 = [false, true, true, true, true, true, false, false, false, true, true, true, true, true, true, true, true, true, true, true, true, true, true, true] := by rfl
theorem klq87_2 : killT 87 2 = [false, true, true, true, true, true, true, true, true, true, true, true, true, true, true, true, true, true, true, true, true, true, true, true, true, true, true, true, true, true, true, true, true, true, true, true, true, true, true, true, true, true, true, true, true, true, true, true, true, true, true, true, true, true, true, true, true, true, true, true, true, true, true, true, true, true, true, true, true, true, true, true, true, true, true, true, false, false, false, true, true, true, true, true, true, true, true, true, true, true, true, true, true, true, true, true, true] := by rfl
theorem klq87_0 : killT 87 0 = [false, true, true, false, true, true, true, true, true, true, true, true, true, true, true, true, true, true, true, true, true, true, true, true, true, true, true, true, true, true, true, true, true, true, true, true, true, true, true, true, true, true, true, true, true, true, true, true, true, true, true, true, true, true, true, true, true, false, false, false, true, true, true, true, true, true, true, true, true, true, true, true, true, true, true, true, true, true, true, true, true, true, true, true, true, true, true, true, true, true, true, true, true, true, true, true, true] := by rfl
theorem klq90_4 : killT 90 4 = [true, true, false, true, false, true, true, true, false, true, true, false, true, true, true, true, true, true, true, true, true, true, true, true, true, true, true, true, true, true, true, true, true, true, true, true, true, true, true, true, true, true, true, true, true, true, true, true, true, true, true, true, true, true, true, true, true, true, true, true, true, true, true, true, true, true, true, true, true, true, true, true, true, true, true, true, true, true, true, true, true, true, true, true, true, true, true, true, true, true, true, true, true, true, true, true, true, true, true, true, true] := by rfl
theorem klq90_2 : killT 90 2 = [true, false, false, true, false, true, true, false, true, true, true, true, true, true, true, true, true, true, true, true, true, true, true, true, true, true, true, true, true, true, true, true, true, true, true, true, true, true, true, true, true, true, true, true, true, true, true, true, true, true, true, true, true, true, true, true, true, true, true, true, true, true, true, true, true, true, true, true, true, true, true, true, true, true, true, true, true, true, true, true, true, true, true, true, true, true, true, true, true, true, true, true, true, true, true, true, true, true, true, true, true] := by rfl
theorem klq90_0 : killT 90 0 = [true, false, false, true, false, true, false, true, true, true, true, true, true, true, true, true, true, true, true, true, true, true, true, true, true, true, true, true, true, true, true, true, true, true, true, true, true, true, true, true, true, true, true, true, true, true, true, true, true, true, true, true, true, true, true, true, true, true, true, true, true, true, true, true, true, true, true, true, true, true, true, true, true, true, true, true, true, true, true, true, true, true, true, true, true, true, true, true, true, true, true, true, true, true, true, true, true, true, true, true, true] := by rfl
theorem klq91_0 : killT 91 0 = [false, true, false, true, true, true, false, false, true, true, true, true, true, true, true, true] := by rfl
theorem klq100_0 : killT 100 0 = [false, false, true, true, true, false, true, true, true, true, true, true, true, true, true, true, true, true, true, true, true, true, true, true, true, true] := by rfl
theorem klq101_0 : killT 101 0 = [false, false, true, true, true, false, true, true, true, true, true, true, true, true, true, true, true, true, true, true, true, true, true, true, true, true] := by rfl
theorem klq102_2 : killT 102 2 = [true, true, false, false, true, true, true, false, true, true, true, true, true, true, true, true, true, true, true, true, true, true, true, true, true, true, true, true, true, true, true, true, true, true, true, true, true, true, true, true, true, true, true, true, true, true, true, true, true, true, true, true, true, true, true, true, true, true, true, true, true, true, true, true, true, true, true, true, true, true, true, true, true, true, true, true, true, true, true, true, true, true, true, true, true, true, true, true, true, true, true, true, true, true, true, true, true, true, true, true, true, true, true, true, true, true, true, true, true, true, true, true, true, true, true, true, true, true, true, true, true, true, true, true, true, true, true, true, true, true, true, true] := by rfl
theorem klq102_0 : killT 102 0 = [true, true, false, false, true, true, false, true, true, true, true, true, true, true, true, true, true, true, true, true, true, true, true, true, true, true, true, true, true, true, true, true, true, true, true, true, true, true, true, true, true, true, true, true, true, true, true, true, true, true, true, true, true, true, true, true, true, true, true, true, true, true, true, true, true, true, true, true, true, true, true, true, true, true, true, true, true, true, true, true, true, true, true, true, true, true, true, true, true, true, true, true, true, true, true, true, true, true, true, true, true, true, true, true, true, true, true, true, true, true, true, true, true, true, true, true, true, true, true, true, true, true, true, true, true, true, true, true, true, true, true, true] := by rfl
theorem klq103_0 : killT 103 0 = [false, false, true, true, true, false, false, true, true, true, true, true, true, true, true, true, true, true, true, true, true, true, true, true, true, true, true, true, true, true, true, true, true, true, true, true, true, true, true, true, true, true, true, true, true, true, true, true, true, true, true, true, true, true, true, true, true, true, true] := by rfl
theorem klq106_2 : killT 106 2 = [false, true, false, false, true, true, false, false, true, true, true, true, true, true, true, true, true, true, true, true, true, true, true, true, true, true, true, true, true, true, true, true, true, true, true, true, true, true, true, true, true, true, true, true, true, true, true, true, true, true, true, true, true, true, true, true, true, true, true, true, true, true, true, true, true, true, true, true, true, true, true, true, true, true, true, true, true, true, true, true, true, true, true, true] := by rfl
theorem klq106_0 : killT 106 0 = [false, true, false, false, false, false, true, true, true, true, true, true, true, true, true, true, true, true, true, true, true, true, true, true, true, true, true, true, true, true, true, true, true, true, true, true, true, true, true, true, true, true, true, true, true, true, true, true, true, true, true, true, true, true, true, true, true, true, true, true, true, true, true, true, true, true, true, true, true, true, true, true, true, true, true, true, true, true, true, true, true, true, true, true] := by rfl
theorem klq107_0 : killT 107 0 = [false, true, true, false, false, false, true, true, true, true, true, true, true, true, true, true, true, true, true, true, true, true, true, true, true, true, true] := by rfl
theorem klq108_2 : killT 108 2 = [true, false, true, true, true, true, false, true, true, false, true, true, true, true, true, true, true, true, true, true, true, true, true, true, true, true, true, true, true, true, true, true, true, true, true, true, true, true, true, true, true, true, true, true, true, true, true, true, true, true, true, true, true, true, true, true, true, true, true, true, true, true, true, true, true, true, true, true, true, true, true, true, true, true, true, true, true, true, true, true, true] := by rfl
theorem klq108_0 : killT 108 0 = [true, false, true, true, true, true, false, false, true, true, true, true, true, true, true, true, true, true, true, true, true, true, true, true, true, true, true, true, true, true, true, true, true, true, true, true, true, true, true, true, true, true, true, true, true, true, true, true, true, true, true, true, true, true, true, true, true, true, true, true, true, true, true, true, true, true, true, true, true, true, true, true, true, true, true, true, true, true, true, true, true] := by rfl
theorem klq110_0 : killT 110 0 = [true, false, true, true, false, true, false, true, true, true, true, true, true, true, true, true, true, true, true, true, true, true, true, true, false, false, false, true, true, true, true, true, true, true, true, true, true, true, true, true, true, true, true, true, true, true, true, true, true, true, true, true, true, true, true, true, true, true, true, true, true, true, true, true, true, true, true, true, true, true] := by rfl
theorem klq111_0 : killT 111 0 = [true, false, true, true, false, true, true, true, true, true, true, false, false, false, true, true, true, true, true, true, true, true, true, true, true, true, true, true, true, true, true, true, true, true, true, true, true, true, true, true, true, true, true, true, true, true, true, true, true] := by rfl
theorem klq113_0 : killT 113 0 = [false, true, false, true, true, false, true, false, true, false, false, true, true, true, true, true, true, true, true, true, true, true, true, true, true, true, true, true, true, true, true, true, true, true, true, true, true, true, true, true, false, false, false, true, true, true, true, true, true, true, true, true, true, true, true, true, true, true, true, true, true, true, true, true, true, true, true, true, true, true, true, true, true, true, true, true, true, true, true, true, true, true, true, true, true, true, true, true, true, true, true, true, true, true, true, true, true, true, true, true, true, true, true, true, true, true, true, true, true, true, true, true] := by rfl
theorem klq118_0 : killT 118 0 = [true, false, false, true, true, true, true, true, true, true, true, true, true, true, true, false, false, false, true, true, true, true, true, true, true, true, true, true, true, true, true, true] := by rfl
theorem klq121_2 : killT 121 2 = [true, true, true, true, false, true, true, true, true, true, true, true, true, true, true, true, true, true, true, false, false, false, true, true, true, true, true, true, true, true, true, true, true, true, true, true, true, true, true, false, false, false, true, true, true, true, true, true, true, true, true, true, true, true, true, true, true] := by rfl
theorem klq121_0 : killT 121 0 = [true, true, true, true, false, true, true, true, true, true, true, true, true, true, true, true, true, true, true, false, false, false, true, true, true, true, true, true, true, true, true, true, true, true, true, true, true, true, true, true, true, true, true, true, true, true, true, true, true, true, true, true, true, true, true, true, true] := by rfl
theorem klq122_0 : killT 122 0 = [false, false, true, true, true, true, true, false, true, true, true, true, true, true, true, true, true, true, true, true, true, true, true] := by rfl
theorem klq123_1 : killT 123 1 = [false, true, true, false, true, false, true, true, true, true, true, true, true, true, true, true, true, true, true, true, true, true, true, true, true, true, true, true, true, true, true, true, true, true, true, true, true, true, true, true, true, true, true, true, true, true, true, true, true, true, true, true, true, true, true, true, true, true, true, true, true, true, true, true, true, true, true, true, true, true, true, true, true, true, true, true, true, true, true, true, true, true] := by rfl
theorem klq124_0 : killT 124 0 = [true, true, true, false, false, true, true, true, true, true, false, true, true, true, true, true, true, true, true, true, true, true, true] := by rfl
theorem klq125_0 : killT 125 0 = [false, false, true, true, true, true, true, true, true, true, true, true, false, false, true, true, true, true, true, true, true, true, true, true, true, true] := by rfl
theorem klq127_0 : killT 127 0 = [false, false, true, true, true, true, true, true, true, true, true, true, false, false, true, true, true, true, true, true, true, true, true, true, true, true] := by rfl
theorem klq129_1 : killT 129 1 = [true, true, true, true, true, true, false, true, false, true, false, true, true, true, true, true, true, true, true, true, true, true, true, true, true, true, true, true, true, true, true, true, true, true, true, true, true, true, true, true, true, true, true, true, true, true, true, true, true, true, true, true, true, false, false, false, true, true, true, true, true, true, true, true, true, true, true, true, true, true] := by rfl
theorem klq131_0 : killT 131 0 = [true, false, false, true, true, true, true, true, false, true, true, true, true, true, true, true, true, true, true, true, true, true, true, true, true, true, true, true, true, true, true, true, true, true, true, true, true, true, true, true, true, true, true] := by rfl
theorem klq137_0 : killT 137 0 = [false, false, true, true, true, false, false, true, true, true, true, true, true, true, true, true, true, true, true, true, true, true, true, true, true, true, true, true, true, true, true, true, true, true, true, true, true, true, true, true] := by rfl
theorem klq138_0 : killT 138 0 = [true, false, false, true, true, false, true, false, false, true, true, true, true, true, true, true, true, true, true, true, true, true, true, true, true, true, true, true, true, true, true, true, true, true, true, true, true, true, true, true, true, true, true, true, true, true, true, true, true, true, true, true, true, true, true, true, true, true, true, true, true, true, true, true, true, true, true, true, true, true, true, true, true, true, true, true, true, true, true, true, true, true, true] := by rfl
theorem klq140_0 : killT 140 0 = [true, false, false, true, false, false, true, false, false, true, true, true, true, true, true, true, true, true, true, true, true, true, true, true, true, true, true, true, true, true, true, true, true, true, true, true, true, true, true, true, true, true, true, true, true, true, true, true, true, true, true, true, true, true, true, true, true, true, true, true, true, true, true, true, true, true, true, true, true, true, true, true, true, true, true, true, true, true, true, true, true, true, true, true, true, true, true, true] := by rfl
theorem klq141_0 : killT 141 0 = [true, false, false, true, true, true, false, true, false, false, true, true, true, true, true, true, true, true, true, true, true, true, true, true, true, true, true, true, true, true, true, true, true, true, true, true, true, true, true, true, true, true, true, true] := by rfl
theorem klq142_0 : killT 142 0 = [false, false, true, true, true, false, true, true, true, true, true, true, true, true, true, true, true, true, true, true, true, true, true, true, true, true] := by rfl
theorem klq143_0 : killT 143 0 = [false, true, true, true, true, true, true, true, true, true, true, false, false, true, true, true, true, true, true, true, true, true, true, true, true, true, true, true, true, true, true, true, true, true, true, true, true, true, true, true, true, true, true, true, true, true, true, true, true, true, true, true, true] := by rfl
theorem klq148_2 : killT 148 2 = [true, false, true, true, true, true, false, true, true, true, true, true, true, true, true, true, true, true, true, true, true, true, true, true, true, true, true, true, true, true, true, true, true, true, true, true, true, true, true, true, true, true, true, true, true, true, true, true, true, true, true, true, true, true, true, true, true, true, true, true, true, true, true, true, true, true] := by rfl
theorem klq148_0 : killT 148 0 = [true, false, true, false, true, false, true, true, true, true, true, true, true, true, true, true, true, true, true, true, true, true, true, true, true, true, true, true, true, true, true, true, true, true, true, true, true, true, true, true, true, true, true, true, true, true, true, true, true, true, true, true, true, true, true, true, true, true, true, true, true, true, true, true, true, true] := by rfl
theorem klq151_2 : killT 151 2 = [true, true, true, true, false, true, false, true, false, false, false, false, false, true, true, true, true, true, true, true, true, true, true, true, true, true, true, true, true, true, true, true, true, true, true, true, true, true, true, true, true, true, true, true, true, true, true, true, true, true, true, true, true, true, true, true, true, true, true, true, true, true, true, true, true, true, true, true, true, true, true, true, true, true, true, true, true, true, true, true, true, true, true, true, true] := by rfl
theorem klq151_0 : killT 151 0 = [true, true, true, true, false, true, false, true, false, false, true, true, true, true, true, true, true, true, true, true, true, true, true, true, true, true, true, true, true, true, true, true, true, true, true, true, true, true, true, true, true, true, true, true, true, true, true, true, true, true, true, true, true, true, true, true, true, true, true, true, true, true, true, true, true, true, true, true, true, true, true, true, true, true, true, true, true, true, true, true, true, true, true, true, true] := by rfl
theorem klq161_0 : killT 161 0 = [true, true, true, false, true, true, true, false, false, false, true, true, true, true, true, true, true, true, true, true] := by rfl
theorem klq162_0 : killT 162 0 = [false, false, true, true, true, false, true, true, true, true, true, true, true, true, true, true, true, true, true, true, true] := by rfl
theorem klq163_2 : killT 163 2 = [false, true, true, false, true, true, false, true, true, true, true, true, true, true, true, true, true, true, true, true, true, true, true, true, true, true, true, true, true, true, true, true, true, true, true, true, true, true, true, true, true, true, true, true, true, true, true, true, true, true, true, true, true, true, true, true, true, true, true, true, true, true, true, true, true, true, true, true, true, true, true, true, true, true, true, true, true, true, true, true, true, true, true, true, true, true, true, true, true, true, true, true, true, true] := by rfl
theorem klq163_0 : killT 163 0 = [false, true, true, false, true, false, true, true, true, true, true, true, true, true, true, true, true, true, true, true, true, true, true, true, true, true, true, true, true, true, true, true, true, true, true, true, true, true, true, true, true, true, true, true, true, true, true, true, true, true, true, true, true, true, true, true, true, true, true, true, true, true, true, true, true, true, true, true, true, true, true, true, true, true, true, true, true, true, true, true, true, true, true, true, true, true, true, true, true, true, true, true, true, true] := by rfl
theorem klq168_1 : killT 168 1 = [true, false, true, true, true, true, true, true, true, true, true, true, true, true, true, true, true, true, true, true, true, true, true, true, true, true, true, true, true, true, true, true, true, true, true, false, false, false, true, true, true, true, true, true, true, true, true, true, true, true, true, true, true, true, true] := by rfl
theorem klq169_0 : killT 169 0 = [false, true, true, true, false, true, true, true, false, false, false, true, true, true, true, true, true, true, true, true, true, true, true, true, true, true, true, true, true] := by rfl
theorem klq171_1 : killT 171 1 = [false, true, true, true, true, true, true, false, true, true, true, true, true, true, true, true, true, true, true, true, true, true, true, true, true, true, true, true, true, true, true, true, true, true, true, true, true, true, true, true, true, true, true, true, true, true, true, true, true, false, true, true, true, true, true, true, true, true, true, true, true, true, true, true, true, true, true, true, true, true, true, true, true, true, true, true, true, true, true, true, true, true, true, true, true, true, true, true, true, true, true, true, true] := by rfl
theorem klq173_2 : killT 173 2 = [false, false, true, true, true, true, true, true, false, true, false, false, false, true, true, true, false, false, true, true, true, true, true, true, true, true, true, true, true, true, true, true, true, true] := by rfl
theorem klq173_0 : killT 173 0 = [false, false, true, true, true, true, true, true, true, true, false, false, false, true, true, true, true, true, true, true, true, true, true, true, true, true, true, true, true, true, true, true, true, true] := by rfl
theorem klq174_2 : killT 174 2 = [true, true, true, false, true, true, false, false, false, true, true, true, true, true, true, true, false, true, true, true, true, true, true, true, true, true, true, true] := by rfl
theorem klq174_0 : killT 174 0 = [true, true, true, false, true, true, false, false, false, true, true, true, true, true, true, true, true, true, true, true, true, true, true, true, true, true, true, true] := by rfl
theorem klq176_0 : killT 176 0 = [true, false, false, true, true, true, true, true, true, true, true, true, true, true, true, false, false, false, true, true, true, true, true, true, true, true, true, true, true, true, true, true] := by rfl
theorem klq178_0 : killT 178 0 = [false, false, true, true, true, true, true, true, true, true, true, true, false, false, true, true, true, true, true, true, true, true, true, true, true, true] := by rfl
theorem klq179_0 : killT 179 0 = [false, false, true, true, true, true, true, true, true, true, true, true, false, false, true, true, true, true, true, true, true, true, true, true, true, true] := by rfl
theorem klq180_0 : killT 180 0 = [false, false, true, true, true, true, true, true, true, true, true, true, false, false, true, true, true, true, true, true, true, true, true, true, true, true] := by rfl
theorem klq182_0 : killT 182 0 = [true, true, true, true, true, true, false, true, false, true, false, false, false, true, true, true, true, true, true, true, true, true, true, true, true, true, false, true, true, true, true, true, true, true, true, true, true, true, true, true, true, true, true, true, true, true, true, true, true] := by rfl
theorem klq183_0 : killT 183 0 = [false, false, true, true, true, false, false, true, true, true, true, true, true, true, true, true, true, true, true, true, true, true, true, true, true, true, true, true, true, true, true, true, true, true] := by rfl
theorem klq185_2 : killT 185 2 = [true, true, false, true, false, true, true, true, true, true, true, true, true, true, true, true, true, true, true, true, true, true, true, true, true, true, true, true, true, true, true, true, true, true, true, true, true, true, true, true, true, true, true, true, true, true, true, true, true, true, true, true, true, true, true, true, true, true, true, true, true, true, true, true, true, true, true, true, true, true, true, true, true, true, true, true, false, false, true, true, true, true, true, true, true, true, true, true, true] := by rfl
theorem klq185_0 : killT 185 0 = [true, false, false, false, false, true, true, true, true, true, true, true, true, true, true, true, true, false, false, true, true, true, true, true, true, true, true, true, true, true, true, true, true, true, true, true, true, true, true, true, true, true, true, true, true, true, true, true, true, true, true, true, true, true, true, true, true, true, true, true, true, true, true, true, true, true, true, true, true, true, true, true, true, true, true, true, true, true, true, true, true, true, true, true, true, true, true, true, true] := by rfl
theorem klq186_0 : killT 186 0 = [true, true, true, true, true, true, true, true, true, false, false, true, true, true, true, true, true, true, true, true, false, false, true, true, true, true, true, true, true, true, true] := by rfl
theorem klq189_2 : killT 189 2 = [true, false, true, false, true, true, false, true, true, true, false, false, false, false, true, false, true, true, true, true, true, true, true, true, true, true, true, true, true, true, true, true, true, true, true, true, true, true, true, true, true, true, true, true, true, true, true, true, true, true, true, true, true, true, true, true, true, true, true, true, true, true, true, true, true, true, true, true, true, true, true, true, true, true, true, true, true, true] := by rfl
theorem klq189_0 : killT 189 0 = [true, false, true, false, true, true, false, true, true, true, false, false, false, true, true, true, true, true, true, true, true, true, true, true, true, true, true, true, true, true, true, true, true, true, true, true, true, true, true, true, true, true, true, true, true, true, true, true, true, true, true, true, true, true, true, true, true, true, true, true, true, true, true, true, true, true, true, true, true, true, true, true, true, true, true, true, true, true] := by rfl
theorem klq190_0 : killT 190 0 = [true, false, false, false, false, true, true, true, false, true, false, true, true, false, true, true, true, true, true, true, true, true, true, true, true, true, true, true, true, true, true, true, true, true, true, true, true, true, true, true, true, true, true, true, true, true, true, true, true, true, true, true, true, true, true, true, true, true, true, true, true, true, true, true, true, true, true, true, true, true, true, true, true, true, true, true, true, true, true, true, true, true, true, true, true, true, true, true, true, true, true, true, true, true, true, true, true, true, true, true, true, true, true, true, true, true, true, true, true, true, true] := by rfl
theorem klq191_0 : killT 191 0 = [false, false, true, true, true, true, true, false, false, true, true, true, true, true, true, true, true, true, true] := by rfl
theorem klq192_0 : killT 192 0 = [false, false, true, true, true, true, true, false, false, true, true, true, true, true, true, true, true, true, true] := by rfl
theorem klq194_0 : killT 194 0 = [false, false, true, true, true, true, true, false, false, true, true, true, true, true, true, true, true, true, true] := by rfl
theorem klq195_0 : killT 195 0 = [true, false, true, true, true, true, false, false, false, true, true, true, true, true, true, true, true, true, true, true, true, true, true, true, true, true, true, true, true, true, true, true, true, true, true, true, true, true, true, true, true, true, true, true, true] := by rfl
theorem klq199_0 : killT 199 0 = [false, false, false, false, true, true, true, true, true, false, false, true, true, true, true, true, true, true, true, true, true, true, true, true, true, true, true, true, true, true, true, true, true, true, true, true, true, true, true, true, true, true, true, true, true, true, true, true, true, true, true, true, true, true, true, true] := by rfl
theorem klq200_0 : killT 200 0 = [false, false, true, true, true, true, true, false, true, true, true, true, true, true, true, true, true, true, true, true, true, true, true] := by rfl
theorem klq201_0 : killT 201 0 = [false, false, true, true, true, true, true, false, false, true, true, true, true, true, true, true, true, true, true] := by rfl
theorem klq214_3 : killT 214 3 = [true, false, true, false, true, true, false, true, true, true, false, true, true, true, true, true, true, true, true, true, true, true, true, true, true, true, true, true, true, true, true, true, true, true, true, true, true, true, true, true, true, true, true, false, false, false, true, true, true, true, true, true, true, true, true, true, true, true, true, false, false, true, true, true, true, true, true, true, true, true, true, true, true, true] := by rfl
theorem klq214_1 : killT 214 1 = [true, false, true, false, true, true, false, true, true, true, false, true, true, true, true, true, true, true, true, true, true, true, true, true, true, true, true, true, true, true, true, true, true, true, true, true, true, true, true, true, true, true, true, false, false, false, true, true, true, true, true, true, true, true, true, true, true, true, true, true, true, true, true, true, true, true, true, true, true, true, true, true, true, true] := by rfl
theorem klq216_0 : killT 216 0 = [true, false, false, true, false, true, true, true, true, true, true, true, true, true, true, false, false, false, true, true, true, true, true, true, true, true, true, true, true, true, true, true, true, true, true, true, true, true, true, true, true, true, true, true, true, true, true, true, true, true, true, true, true, true, true, true, true, true, true, true, true, true, true, true, true, true, true, true, true, true] := by rfl
theorem klq218_0 : killT 218 0 = [true, false, false, true, false, false, true, true, true, true, true, true, true, true, true, true, true, true, true, true, true, true, true, true, true, true, true, true, true, true, true, true, false, false, false, true, true, true, true, true, true, true, true, true, true, true, true, true, true, true, true, true, true, true, true, true, true, true, true, true, true, true, true, true, true] := by rfl
theorem klq219_0 : killT 219 0 = [true, false, true, true, true, true, true, true, false, true, false, true, true, true, false, false, true, true, true, true, true, true, true, true, true, true, true, true, true, true, true, true, true, true, true, true, true, true, true, true, true, true, true, true, true, true, true, true, true, true, true, true, true, true, true, true, true, true, true, true, true, true, true, true, true] := by rfl
theorem klq220_2 : killT 220 2 = [false, false, false, false, false, false, true, true, true, true, true, true, true, true, true, false, false, false, false, true, true, true, true, true, true, true, true, true, true, true, true, true, true, true, true, true, true, true, true, true, true, true, true, true, true, true, true, true, true, true, true, true, true, true, true, true, true, true, true, true, true, true, true, true, true, true, true, true, true, true, true, true, true, true, true, true, true, true, true, true, true, true] := by rfl
theorem klq220_0 : killT 220 0 = [false, false, false, false, false, false, true, true, true, true, true, true, true, true, true, false, false, false, true, true, true, true, true, true, true, true, true, true, true, true, true, true, true, true, true, true, true, true, true, true, true, true, true, true, true, true, true, true, true, true, true, true, true, true, true, true, true, true, true, true, true, true, true, true, true, true, true, true, true, true, true, true, true, true, true, true, true, true, true, true, true, true] := by rfl
theorem klq221_6 : killT 221 6 = [true, false, true, false, false, false, true, true, false, true, true, true, true, true, true, true, true, true, true, true, true, true, true, true, true, true, true, true, true, true, true, true, true, true, true, true, true, true, true, true, true, true, true, true, true, true, true, true, true, true, true, true, true, true, true, true, true, true, true, true, true, true, true, true, true, true, true, true, true, true, true, true, true] := by rfl
theorem klq221_4 : killT 221 4 = [true, false, true, false, false, false, false, false, true, true, true, true, true, true, true, true, true, true, true, true, true, true, true, true, true, true, true, true, true, true, true, true, true, true, true, true, true, true, true, true, true, true, true, true, true, true, true, true, true, true, true, true, true, true, true, true, true, true, true, true, true, true, true, true, true, true, true, true, true, true, true, true, true] := by rfl
theorem klq221_2 : killT 221 2 = [true, false, true, false, false, false, false, true, true, true, true, true, true, true, true, true, true, true, true, true, true, true, true, true, true, true, true, true, true, true, true, true, true, true, true, true, true, true, true, true, true, true, true, true, true, true, true, true, true, true, true, true, true, true, true, true, true, true, true, true, true, true, true, true, true, true, true, true, true, true, true, true, true] := by rfl
theorem klq221_0 : killT 221 0 = [true, false, true, false, false, true, true, true, true, true, true, true, true, true, true, true, true, true, true, true, true, true, true, true, true, true, true, true, true, true, true, true, true, true, true, true, true, true, true, true, true, true, true, true, true, true, true, true, true, true, true, true, true, true, true, true, true, true, true, true, true, true, true, true, true, true, true, true, true, true, true, true, true] := by rfl
theorem klq236_0 : killT 236 0 = [false, false, true, true, true, true, true, false, false, true, true, true, true, true, true, true, true, true, true] := by rfl
theorem klq237_0 : killT 237 0 = [false, false, true, true, true, true, true, false, false, true, true, true, true, true, true, true, true, true, true] := by rfl
theorem klq239_0 : killT 239 0 = [false, false, true, true, true, true, true, false, false, true, true, true, true, true, true, true, true, true, true] := by rfl
theorem klq240_0 : killT 240 0 = [true, false, true, false, false, true, true, true, false, true, false, true, false, true, true, true, true, true, true, true, true, true, true, true, true, true, true, true, true, false, false, false, true, true, true, true, true, true, true, true, true, true, true, true, true, true, true, true, true, true, true, true, true, true, true, true, true, true, true, true, true, true, true, true, true] := by rfl
theorem klq243_0 : killT 243 0 = [true, false, false, true, true, true, true, false, false, false, true, true, true, true, true, true, true, true, true, true, true, true] := by rfl
theorem klq244_1 : killT 244 1 = [true, false, false, false, false, true, true, true, false, true, true, true, true, true, true, true, true, true, true, true, true, true, true, true, true, true, true, true, true, true, true, true, true, true, true, true, true, true, true, true, true, true, true, true, true, true, true, true, true, false, false, true, true, true, true, true, true, true, true, true, true, true, true, true, true, true, true, true, true, true, true, true, true, true, true, true, true, true, true, true, true, true, true, true, true, true, true, true, true, true, true, true, true, true, true, true, true, true, true, true, true, true, true, true, true, true, true, true, true, true, true, true, true, true, true, true] := by rfl
theorem klq245_0 : killT 245 0 = [false, false, false, false, false, false, true, true, true, true, true, true, false, false, true, false, true, true, true, true, true, true, true, true, true, true, true, true, true, true, true, true, true, true, true, true, true, true, true, true, true, true, true, true, true, true, true, true, true, true, true, true, true, true, true, true, true, true, true, true, true, true, true, true, true, true, true, true, true, true, true, true, true, true, true, true, true, true] := by rfl
def zcellB (c : PV) (v : Value) : Bool :=
  match c, v with
  | .sc (.int k a), .int k' b => k == k' && a == b
  | .sc (.bool a), .bool b => a == b
  | .sc (.pointer none), .pointer none => true
  | .sc .nilFunc, .nilFunc => true
  | .list s .full [], .slice none 0 0 => decide (0 < s)
  | _, _ => false
def zcheck (P : Program) (t : TypeId) (cs : List PV) : Bool :=
  cs.isEmpty || match P.info? t with
    | some i => match i.zero with
      | some z => z.cells.size == i.size && cs.length == i.size && (cs.zip z.cells.toList).all fun x => zcellB x.1 x.2
      | none => false
    | none => false

theorem zcell_of {c : PV} {v : Value} (h : zcellB c v = true) : ZCell c v := by
  unfold zcellB at h
  split at h
  · simp only [Bool.and_eq_true, beq_iff_eq] at h; obtain ⟨rfl, rfl⟩ := h; exact .inl ⟨rfl, rfl⟩
  · simp only [beq_iff_eq] at h; subst h; exact .inl ⟨rfl, rfl⟩
  · exact .inl ⟨rfl, rfl⟩
  · exact .inl ⟨rfl, rfl⟩
  · rename_i s; exact .inr ⟨s, by simpa using h, rfl, rfl⟩
  · cases h

theorem zcheck_ok {P : Program} {t : TypeId} {cs : List PV} (h : zcheck P t cs = true) (hne : cs ≠ []) :
    ∃ i z, P.info? t = some i ∧ i.zero = some z ∧ z.cells.size = i.size ∧ cs.length = i.size ∧ ∀ (j : Nat) c v, cs[j]? = some c → z.cells[j]? = some v → ZCell c v := by
  unfold zcheck at h
  have : cs.isEmpty = false := by cases cs <;> simp at hne ⊢
  simp only [this, Bool.false_or] at h
  split at h
  · rename_i i hi
    split at h
    · rename_i z hz
      simp only [Bool.and_eq_true, beq_iff_eq] at h
      refine ⟨i, z, hi, hz, h.1.1, h.1.2, fun j c v hc hv => ?_⟩
      refine zcell_of (List.all_eq_true.1 h.2 (c, v) ?_)
      have : (cs.zip z.cells.toList)[j]? = some (c, v) := by
        rw [List.getElem?_zip_eq_some]
        exact ⟨hc, by simpa using hv⟩
      exact List.mem_of_getElem? this
    · cases h
  · cases h

def consT (k : Nat) : List Nat := match k with | 122 => [0] | 123 => [0] | 162 => [0] | 163 => [0] | 173 => [0] | 200 => [0] | _ => []
def escT (k : Nat) : Bool := k == 238
def arrT (k d : Nat) : Bool := false
def eqTab (t : Nat) : Option (List (Option IntKind)) := match t with | 55 => some [some .i64, some .i64, some .i64] | 73 => some [some .i64, some .i64] | 75 => some [some .i64, some .i64, some .i64, some .i64, some .i64, some .i64, some .i64, some .i64, some .i64, some .i64, some .i64, some .i64, some .i64, some .i64] | 85 => some [some .i64, some .i64, some .i64, some .i64] | 88 => some [some .i64, some .i64, some .i64, none] | _ => none
theorem eqt55 : eqTab 55 = some [some .i64, some .i64, some .i64] := rfl
theorem eqt73 : eqTab 73 = some [some .i64, some .i64] := rfl
theorem eqt75 : eqTab 75 = some [some .i64, some .i64, some .i64, some .i64, some .i64, some .i64, some .i64, some .i64, some .i64, some .i64, some .i64, some .i64, some .i64, some .i64] := rfl
theorem eqt85 : eqTab 85 = some [some .i64, some .i64, some .i64, some .i64] := rfl
theorem eqt88 : eqTab 88 = some [some .i64, some .i64, some .i64, none] := rfl
def declT (k : Nat) : Option (List Nat) := match k with | 86 => some [0] | 87 => some [0] | _ => none
/-- slices.Clone -/
def cloneP (sz : Nat) (args : List PV) (B : List (List PV)) : Option Out := match args with
  | [.list n _ xs] => if n = sz ∧ xs.length ≤ maxLenQ then some ⟨.list sz (.slot 0 0) xs, B, []⟩ else none
  | _ => none
def primT (k : Nat) : Option (List PV → List (List PV) → Option Out) := match k with | 82 => some (cloneP 1) | 175 => some (cloneP 1) | 204 => some (cloneP 4) | _ => none
/-- The tables. -/
noncomputable def tcfg : Cfg where
  P := Try.prog
  Z := zOf
  kill := killT
  decl := fun k => declT k
  cons := fun k => consT k
  esc := fun k => escT k
  plan := planT
  arr := fun k d => arrT k d
  eqT := fun t => eqTab t
  prim := fun k => primT k
end Go.Q
