import Derived.Test.YtaimbhphepopmaaDoorOpsW11
namespace Go.Proofs.YtaimbhphepopmaaDoor
open Go Go.RowKit Go.Lib

def memB (l : List Opr) (x : Opr) : Bool := l.any fun y => decide (x = y)
def foreB (x y : Opr) : Bool := lessC x.cnt x.who y.cnt y.who
def atO (l : List Opr) (x : Opr) : Nat := l.findIdx (foreB x)
def foundO (l : List Opr) (x : Opr) : Int := if atO l x < l.length then (atO l x : Int) else -1

end Go.Proofs.YtaimbhphepopmaaDoor
