/- The abstract machine and its reader: lemmas. -/
import Derived.Test.YtjicfdolcieliaaAmFun
set_option linter.unusedSimpArgs false
set_option linter.unusedVariables false
set_option linter.unusedSectionVars false
namespace Am
open Go
def getP : List AV → Nat → AV
 | [],_ => .junk
 | a :: _,0 => a
 | _ :: l,t + 1 => getP l t
def tl (l : List AV) : Nat → AV := getP l
def getO : List (Option Blk) → Nat → Option Blk
 | [],_ => none
 | a :: _,0 => a
 | _ :: l,t + 1 => getO l t
def hl (l : List (Option Blk)) : Heap := getO l
end Am

namespace Am
open Go
variable {P : Program} {G : Glob} {k : Nat}
def isCall : Op → Bool
 | .call { callee := .value _,.. } => true
 | .call { callee := .invoke ..,.. } => true
 | _ => false
def dstB (n : Nat) : Option Nat → Bool
 | some d => decide (d < n)
 | none => true
def seqK (k : Nat) (K : Sta → Prop) (Q : Exit → Sta → Prop) : Exit → Sta → Prop := fun e s => match e with | .normal => ∃ s',Ent k s s' ∧ K s' | e => Q e s
def blockK (id : Nat) (Q : Exit → Sta → Prop) : Exit → Sta → Prop := fun e s => match e with | .exit i => if i = id then Q .normal s else Q (.exit i) s | e => Q e s
def loopK (k : Nat) (I : Sta → Prop) (μ : Sta → Nat) (m : Nat) (Q : Exit → Sta → Prop) : Exit → Sta → Prop :=
 fun e s1 => match e with | .normal => ∃ s',Ent k s1 s' ∧ I s' ∧ μ s' < m | e => Q e s1
variable {Q : Exit → Sta → Prop} {s : Sta} {K : Sta → Prop}
theorem awp_seq {a b : Code} (h : awp P G k a (seqK k (awp P G k b Q) Q) s) : awp P G k (.seq a b) Q s := h
theorem awp_block {id : Nat} {b : Code} (h : awp P G k b (blockK id Q) s) : awp P G k (.block id b) Q s := h
theorem awp_cond_t {c : Operand} {a b : Code} (hc : evA G s.tm c = .d (.bool true)) (h : awp P G k a Q s) : awp P G k (.cond c a b) Q s := by
 simp only [awp,hc]; exact h
theorem awp_cond_f {c : Operand} {a b : Code} (hc : evA G s.tm c = .d (.bool false)) (h : awp P G k b Q s) : awp P G k (.cond c a b) Q s := by
 simp only [awp,hc]; exact h
theorem awp_loop {b : Code} (I : Sta → Prop) (μ : Sta → Nat) (s' : Sta) (he : Ent k s s') (hi : I s')
 (h : ∀ s,I s → awp P G k b (loopK k I μ (μ s) Q) s) : awp P G k (.loop b) Q s := ⟨I,μ,⟨s',he,hi⟩,h⟩
end Am
