/- What is looked at, ahead of a proof: a function's code against its text for the small machine. No condition. -/
import Derived.Test.YtihgpnfkadldeaaAM19
import Derived.Orders
namespace Go.Proofs.Ytihgpnfkadldeaa.AM
open Go Go.RowKit
set_option linter.unusedVariables false
set_option linter.unusedSimpArgs false

/-- May it make an object? -/
def AOp.fresh : AOp → Bool
  | .box .. | .nl .. | .alloc .. | .bsl .. | .mks .. | .cl .. | .cv .. | .inv .. | .rng .. | .cld .. => true
  | _ => false
def apartS (a i : AOper) : Bool := match a.d with
  | some d => !(i.reads.contains d) && (match i.d with | some e => e != d | none => true)
  | none => true
def apartH (a i : AOper) : Bool := a.o.bare || i.o.bare || (!a.o.hard && !i.o.hard && (!(a.o.fresh && i.o.fresh) || (a.d.getD 0 != i.d.getD 0 && decide (a.d.getD 0 < 100000) && decide (i.d.getD 0 < 100000))))
def indep (a i : AOper) : Bool := apartS a i && apartS i a && apartH a i

/-- Bits of what binds an operation, itself and further on. -/
def befs (md : Region.Mode) : List Oper → Nat → List Nat → List Nat
  | [], _, acc => acc
  | o :: os, n, acc => befs md os (n + 1) (acc ++ [o.after.toList.foldl (fun m e => if Region.binds md e then m ||| (1 <<< e.on) ||| acc.getD e.on 0 else m) 0])
def backs (md : Region.Mode) : List Oper → Nat → Bool
  | [], _ => true
  | o :: os, n => (o.after.toList.all fun e => !Region.binds md e || decide (e.on < n)) && backs md os (n + 1)
def okPair (m : Nat) (i : AOper) : List AOper → Nat → Bool
  | [], _ => true
  | a :: as, j => (m.testBit j || indep a i) && okPair m i as (j + 1)
def okPairs : List Nat → List AOper → List AOper → Bool
  | m :: ms, seen, i :: is => okPair m i seen 0 && okPairs ms (seen ++ [i]) is
  | _, _, _ => true
def okOrder (ops : List Oper) (as : List AOper) : Bool := backs .any ops 0 && okPairs (befs .any ops 0 []) [] as

def okOps (P : Program) (N : Nat) (ops : Array Oper) : List Oper → List AOper → Bool
  | [], [] => true
  | o :: os, a :: as => okOper P N ops o a && okOps P N ops os as
  | _, _ => false
def okRegion (P : Program) (N : Nat) (ops : Array Oper) (as : List AOper) (draw : Bool) : Bool :=
  okOps P N ops ops.toList as && (!draw || okOrder ops.toList as)

def okCode (P : Program) (N : Nat) : Go.Code → ACode → Bool
  | .scope x, y => okCode P N x y
  | .skip, .skip => true
  | .label _, .skip => true
  | .region _ ops draw, .reg as _ => okRegion P N ops as draw
  | .seq x y, .seq x' y' => okCode P N x x' && okCode P N y y'
  | .cond c x y, .ite c' x' y' => okX c c' && okCode P N x x' && okCode P N y y'
  | .block i x, .blk j x' => i == j && okCode P N x x'
  | .loop x, .loop _ x' => okCode P N x x'
  | .exit i, .ex j => i == j
  | .ret, .ret => true
  | _, _ => false
def okRes (P : Program) : ResultVar → ARes → Bool
  | .tmp n, .t m => n == m
  | .tmp n, .td m => n == m
  | .cell n t, .c1 m => n == m && decide (aggT P t = some false)
  | .cell n t, .ck m k => n == m && decide (aggT P t = some true) && P.cellsOf t == k && decide (0 < k)
  | _, _ => false
def okRess (P : Program) : List ResultVar → List ARes → Bool
  | [], [] => true
  | x :: xs, y :: ys => okRes P x y && okRess P xs ys
  | _, _ => false
def okFunc (P : Program) (f : FuncId) (fn : AFunc) : Bool := match P.funcs[f]? with
  | some g => (match g.body with
    | some c => okCode P g.ntmps c fn.body
    | none => false) && decide (fn.np ≤ g.ntmps) && okRess P g.results.toList fn.rs && !(g.name == "runtime.NumGoroutine") && fn.n == g.ntmps
  | none => false
end Go.Proofs.Ytihgpnfkadldeaa.AM
