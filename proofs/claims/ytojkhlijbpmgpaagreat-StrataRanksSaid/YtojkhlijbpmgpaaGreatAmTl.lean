/- The abstract machine and its reader: lemmas. -/
import Derived.Test.YtojkhlijbpmgpaaGreatAmFun
set_option linter.unusedSimpArgs false
set_option linter.unusedVariables false
set_option linter.unusedSectionVars false
namespace Am
open Go
def getP : List AV → Nat → AV
 | [],_ => .junk
 | a :: _,0 => a
 | _ :: l,t + 1 => getP l t
def tl (l : List AV) : Nat → AV := getP l
theorem getD_getP (l : List AV) : ∀ t,l.getD t .junk = getP l t := by
 induction l with
 | nil => intro t; rfl
 | cons a l ih => intro t; cases t with
  | zero => rfl
  | succ t => simpa [getP] using ih t
theorem iniA_tl (args : List AV) (n : Nat) : iniA args n = tl (args ++ List.replicate (n - args.length) undefA) := by
 funext t
 exact getD_getP _ _
def getO : List (Option Blk) → Nat → Option Blk
 | [],_ => none
 | a :: _,0 => a
 | _ :: l,t + 1 => getO l t
def hl (l : List (Option Blk)) : Heap := getO l
theorem hOf_hl (l : List Blk) : hOf l = hl (l.map some) := by
 funext b
 unfold hOf hl
 induction l generalizing b with
 | nil => rfl
 | cons a l ih => cases b with
  | zero => rfl
  | succ b => simpa [getO] using ih b
end Am
