/- Lemmas, joined by program. -/
import Derived.Test.YtcmghlfakcppkaaGreatGB
set_option maxHeartbeats 4000000
set_option linter.all false
set_option maxRecDepth 100000
namespace Go.Pg
open Go.Proofs Go.RowKit
structure Prf where
  ax:Int
  k:Int
  an:Int
  ad:Int
  gn:Int
  gd:Int
  deriving DecidableEq,Inhabited
abbrev Prf.ds (x:Prf):List D:=[I x.ax,I x.k,I x.an,I x.ad,I x.gn,I x.gd]
abbrev Prf.v (x:Prf):V1:=.agg x.ds
def Prf.at (x:Prf):Nat->D
 | 0=>I x.ax
 | 1=>I x.k
 | 2=>I x.an
 | 3=>I x.ad
 | 4=>I x.gn
 | _=>I x.gd
abbrev Hz.ds (x:Hz):List D:=[I x.From,I x.To,I x.Far]
theorem avBl {s:St} {ob:Nat->Option Ob} {v:AV} {a b:Bool} (h:v = .d (.bool a)) (e:a=b):AVle s ob v (.d (.bool b)):=by subst h; subst e; exact dE _
end Go.Pg
