/- The abstract machine and its reader: lemmas. -/
import Derived.Test.YtojkhlijbpmgpaaGreatAmFun
set_option linter.unusedSimpArgs false
set_option linter.unusedVariables false
set_option linter.unusedSectionVars false
namespace Am
open Go
def getP : List AV → Nat → AV
 | [],_ => .junk
 | a :: _,0 => a
 | _ :: l,t + 1 => getP l t
def tl (l : List AV) : Nat → AV := getP l
theorem getD_getP (l : List AV) : ∀ t,l.getD t .junk = getP l t := by
 induction l with
 | nil => intro t; rfl
 | cons a l ih => intro t; cases t with
  | zero => rfl
  | succ t => simpa [getP] using ih t
theorem iniA_tl (args : List AV) (n : Nat) : iniA args n = tl (args ++ List.replicate (n - args.length) undefA) := by
 funext t
 exact getD_getP _ _
def getO : List (Option Blk) → Nat → Option Blk
 | [],_ => none
 | a :: _,0 => a
 | _ :: l,t + 1 => getO l t
def hl (l : List (Option Blk)) : Heap := getO l
theorem hOf_hl (l : List Blk) : hOf l = hl (l.map some) := by
 funext b
 unfold hOf hl
 induction l generalizing b with
 | nil => rfl
 | cons a l ih => cases b with
  | zero => rfl
  | succ b => simpa [getO] using ih b
end Am

namespace Am
open Go
variable {P : Program} {G : Glob} {k : Nat}
def stepS (P : Program) (G : Glob) (o : SO) (s : Sta) (K : Sta → Prop) : Prop :=
 dstOK s.n o.dst ∧
 match wantedS s.tm o.g with
 | some true => opK P G s.nx (evA G s.tm) s.H o.op fun r => K (s.app o.dst r)
 | some false => K (s.skip o.dst)
 | none => False
def regS (P : Program) (G : Glob) (K : Sta → Prop) : List SO → Sta → Prop
 | [],s => K s
 | o :: rest,s => stepS P G o s (regS P G K rest)
def isCall : Op → Bool
 | .call { callee := .value _,.. } => true
 | .call { callee := .invoke ..,.. } => true
 | _ => false
def dstB (n : Nat) : Option Nat → Bool
 | some d => decide (d < n)
 | none => true
def seqK (k : Nat) (K : Sta → Prop) (Q : Exit → Sta → Prop) : Exit → Sta → Prop := fun e s => match e with | .normal => ∃ s',Ent k s s' ∧ K s' | e => Q e s
def blockK (id : Nat) (Q : Exit → Sta → Prop) : Exit → Sta → Prop := fun e s => match e with | .exit i => if i = id then Q .normal s else Q (.exit i) s | e => Q e s
def loopK (k : Nat) (I : Sta → Prop) (μ : Sta → Nat) (m : Nat) (Q : Exit → Sta → Prop) : Exit → Sta → Prop :=
 fun e s1 => match e with | .normal => ∃ s',Ent k s1 s' ∧ I s' ∧ μ s' < m | e => Q e s1
variable {Q : Exit → Sta → Prop} {s : Sta} {K : Sta → Prop}
theorem regS_regE : ∀ (l : List SO) (s : Sta),regS P G K l s → regE P G k K l s := by
 intro l
 induction l with
 | nil => intro s h; exact ⟨s,.refl _ _,h⟩
 | cons o rest ih =>
  intro s h
  obtain ⟨h1,h2⟩ := h
  refine ⟨s,.refl _ _,h1,?_⟩
  split at h2
  · rename_i hw
    rw [hw]
    have mono : ∀ (K1 K2 : Res → Prop),(∀ r,K1 r → K2 r) → opK P G s.nx (evA G s.tm) s.H o.op K1 → opK P G s.nx (evA G s.tm) s.H o.op K2 := by
     intro K1 K2 hk h
     unfold opK at h ⊢
     split at h
     · split at h
       · obtain ⟨r,a1,a2,a3,a4,a5,a6,a7,a8,hs,hh⟩ := h
         exact ⟨r,a1,a2,a3,a4,a5,a6,a7,a8,hs,hk _ hh⟩
       · exact h.elim
     · split at h
       · exact hk _ h
       · exact h.elim
    exact mono _ _ (fun r => ih _) h2
  · rename_i hw; rw [hw]; exact ih _ h2
  · exact h2.elim
theorem awp_region {id : Nat} {ops : Array Oper} {l : List SO} (hl : slimL ops = l) (h : regS P G (Q .normal) l s) : awp P G k (.region id ops false) Q s := by
 subst hl; exact regS_regE _ _ h
theorem awp_seq {a b : Code} (h : awp P G k a (seqK k (awp P G k b Q) Q) s) : awp P G k (.seq a b) Q s := h
theorem awp_block {id : Nat} {b : Code} (h : awp P G k b (blockK id Q) s) : awp P G k (.block id b) Q s := h
theorem awp_ret (h : Q .ret s) : awp P G k .ret Q s := h
theorem awp_cond_t {c : Operand} {a b : Code} (hc : evA G s.tm c = .d (.bool true)) (h : awp P G k a Q s) : awp P G k (.cond c a b) Q s := by
 simp only [awp,hc]; exact h
theorem awp_cond_f {c : Operand} {a b : Code} (hc : evA G s.tm c = .d (.bool false)) (h : awp P G k b Q s) : awp P G k (.cond c a b) Q s := by
 simp only [awp,hc]; exact h
theorem awp_loop {b : Code} (I : Sta → Prop) (μ : Sta → Nat) (s' : Sta) (he : Ent k s s') (hi : I s')
 (h : ∀ s,I s → awp P G k b (loopK k I μ (μ s) Q) s) : awp P G k (.loop b) Q s := ⟨I,μ,⟨s',he,hi⟩,h⟩
theorem seqK_normal (h : K s) : seqK k K Q .normal s := ⟨s,.refl _ _,h⟩
theorem regS_nil (h : K s) : regS P G K [] s := h
end Am
