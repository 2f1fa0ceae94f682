/- Texts joined and shortened by program. -/
import Derived.Test.YtkifimaihfildaaGreatD9
import Derived.Test.YtkifimaihfildaaGreatDA
set_option maxHeartbeats 4000000
set_option linter.all false
set_option maxRecDepth 100000
namespace Go.Pg
open Go.Proofs Go.RowKit
structure Lim where
  lo : Int
  hi : Int
  no : Bool
  deriving DecidableEq, Inhabited
abbrev Lim.ds (x : Lim) : List D := [I x.lo, I x.hi, .bool x.no]
end Go.Pg
namespace Go.Pg
open Go.Proofs Go.RowKit Go.Sort Go.Shelf
structure Tg where
  N : Int
  T : Int
  lo : Int
  hi : Int
  no : Bool
  deriving DecidableEq, Inhabited
abbrev Tg.ds (x : Tg) : List D := [I x.N, I x.T, I x.lo, I x.hi, .bool x.no]
abbrev Tg.v (x : Tg) : V1 := .agg x.ds
def Tg.at (x : Tg) : Nat -> D
 | 0 => I x.N
 | 1 => I x.T
 | 2 => I x.lo
 | 3 => I x.hi
 | _ => .bool x.no
structure Prf where
  ax : Int
  k : Int
  an : Int
  ad : Int
  gn : Int
  gd : Int
  deriving DecidableEq, Inhabited
abbrev Prf.ds (x : Prf) : List D := [I x.ax, I x.k, I x.an, I x.ad, I x.gn, I x.gd]
abbrev Prf.v (x : Prf) : V1 := .agg x.ds
def Prf.at (x : Prf) : Nat -> D
 | 0 => I x.ax
 | 1 => I x.k
 | 2 => I x.an
 | 3 => I x.ad
 | 4 => I x.gn
 | _ => I x.gd
end Go.Pg
