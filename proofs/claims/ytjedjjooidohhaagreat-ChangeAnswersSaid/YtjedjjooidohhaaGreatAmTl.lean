/- An abstract machine over data trees, a reader of functions into plain programs, and their soundness: lemmas, no statement of the program. -/
import Derived.Test.YtjedjjooidohhaaGreatAmFun
set_option linter.unusedSimpArgs false
set_option linter.unusedVariables false
set_option linter.unusedSectionVars false
namespace Am
open Go

def getP : List AV → Nat → AV
  | [], _ => .junk
  | a :: _, 0 => a
  | _ :: l, t + 1 => getP l t
def setP : List AV → Nat → AV → List AV
  | [], 0, v => [v]
  | [], d + 1, v => .junk :: setP [] d v
  | _ :: l, 0, v => v :: l
  | a :: l, d + 1, v => a :: setP l d v
def tl (l : List AV) : Nat → AV := getP l

theorem getP_set (l : List AV) : ∀ (d : Nat) (v : AV) (t : Nat), getP (setP l d v) t = if t = d then v else getP l t := by
  induction l with
  | nil =>
    intro d
    induction d with
    | zero => intro v t; cases t <;> simp [setP, getP]
    | succ d ih => intro v t; cases t <;> simp [setP, getP, ih]
  | cons a l ih =>
    intro d v t
    cases d with
    | zero => cases t <;> simp [setP, getP]
    | succ d => cases t <;> simp [setP, getP, ih]

theorem putT_tl (l : List AV) (d : Nat) (v : AV) : putT (tl l) d v = tl (setP l d v) := by
  funext t
  simp only [putT, tl, getP_set]

theorem getD_getP (l : List AV) : ∀ t, l.getD t .junk = getP l t := by
  induction l with
  | nil => intro t; rfl
  | cons a l ih => intro t; cases t with
    | zero => rfl
    | succ t => simpa [getP] using ih t

theorem iniA_tl (args : List AV) (n : Nat) : iniA args n = tl (args ++ List.replicate (n - args.length) undefA) := by
  funext t
  exact getD_getP _ _

def getO : List (Option Blk) → Nat → Option Blk
  | [], _ => none
  | a :: _, 0 => a
  | _ :: l, t + 1 => getO l t
def setO : List (Option Blk) → Nat → Blk → List (Option Blk)
  | [], 0, v => [some v]
  | [], d + 1, v => none :: setO [] d v
  | _ :: l, 0, v => some v :: l
  | a :: l, d + 1, v => a :: setO l d v
def hl (l : List (Option Blk)) : Heap := getO l

theorem getO_set (l : List (Option Blk)) : ∀ (d : Nat) (v : Blk) (t : Nat), getO (setO l d v) t = if t = d then some v else getO l t := by
  induction l with
  | nil =>
    intro d
    induction d with
    | zero => intro v t; cases t <;> simp [setO, getO]
    | succ d ih => intro v t; cases t <;> simp [setO, getO, ih]
  | cons a l ih =>
    intro d v t
    cases d with
    | zero => cases t <;> simp [setO, getO]
    | succ d => cases t <;> simp [setO, getO, ih]

theorem updH_hl (l : List (Option Blk)) (d : Nat) (v : Blk) : updH (hl l) d v = hl (setO l d v) := by
  funext t
  simp only [updH, hl, getO_set]

theorem hOf_hl (l : List Blk) : hOf l = hl (l.map some) := by
  funext b
  unfold hOf hl
  induction l generalizing b with
  | nil => rfl
  | cons a l ih => cases b with
    | zero => rfl
    | succ b => simpa [getO] using ih b

end Am
