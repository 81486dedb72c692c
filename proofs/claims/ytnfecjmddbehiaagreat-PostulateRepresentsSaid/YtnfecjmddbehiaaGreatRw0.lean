/- What functions of the program compute: lemmas. -/
import Derived.Test.YtnfecjmddbehiaaGreatSb3
import Derived.Test.YtnfecjmddbehiaaGreatAm3
import Derived.Test.YtnfecjmddbehiaaGreatAm5
import Derived.Test.YtnfecjmddbehiaaGreatRows
import Derived.Lib.LaidTab
import Derived.ChangeArms
import Derived.WalkKit
import Derived.ProofKit
import Derived.OpenShut
import Derived.Deep.DeepHandedRow
set_option linter.unusedSimpArgs false
set_option linter.unusedVariables false
set_option linter.unusedSectionVars false
namespace Go.Proofs.YtnfecjmddbehiaaGreat
open Go Am Go.ChangeShapes Go.WideShapes
set_option maxRecDepth 100000
theorem u4 : Tryz.prog.underlying 4=some .bool:=by kernel_rfl
theorem u3 : Tryz.prog.underlying 3=some (.int .i64):=by kernel_rfl
theorem laidOut : laidOutB Tryz.prog=true:=by kernel_rfl
theorem rowed : mapsRowed Tryz.prog=true:=by kernel_rfl
theorem fullS : ((List.range Tryz.prog.types.size).all fun t=>match Tryz.prog.underlying t with | some (.slice e)=>decide (0<Tryz.prog.cellsOf e) | _=>true)=true:=by kernel_rfl
theorem ownK : ownKnob Tryz.prog.godebug=none:=by kernel_rfl
def GW : Glob:=fun _=>none
theorem GW_ok : GHyp GW:=rfl
theorem glob_ok {W : World} : GlobOK GW W (allC W):=by
 intro g cells hg
 simp [GW] at hg
theorem call_true {i f : Nat} {sg : Sig} {W : World} {ins : Env} {vs : List Value} (hi : sigs[i]? = some sg) (hf : sg.f=f) (hH : sg.Hin=[]) (hH' : sg.Hout=[]) (hn : sg.nout=1) (hres : sg.res = .atm (.v 0))
 (_hL : laidMetH Tryz.prog [] W) (hwf : EWF ins) (hl : ins.length=sg.nin) (hr : run tb i ins=some [.bool true])
 (hargs : RepAll W (allC W) (fun _=>none) (hOf []) (SV.instL ins (lnL ins []) sg.args) vs) :
 Calls Tryz.prog f ⟨vs⟩ W fun e W'=>e = .returned (.bool true)∧∃ C' ρ',Ext W (allC W) (fun _=>none) (hOf []) W' C' ρ' (hOf []):=by
 have hcc:=run_cc (P:=Tryz.prog) tok gok (by kernel_rfl) (tb_ok GW_ok) hi hwf hl (by rw [hH]; simp) hr (by rw [hn]; rfl)
 rw [hH,hH',hf,hres] at hcc
 refine (hcc.2 W (allC W) (fun _=>none) vs (relH_nil W _) glob_ok hargs).mono fun e W' h=>?_
 obtain ⟨v,C',ρ',rfl,_,hE,hv⟩:=h
 have : v = .bool true:=by
  cases hv with
  | d _ _ h=>cases h; rfl
 subst this
 exact ⟨rfl,C',ρ',hE⟩
end Go.Proofs.YtnfecjmddbehiaaGreat

namespace Go.Proofs.YtnfecjmddbehiaaGreat
open Go Am Go.ChangeShapes Go.WideShapes Go.ChangeAt Go.RowKit
set_option maxRecDepth 100000
noncomputable def laidWorld (os : Os) : World:=World.holding Tryz.prog os ⟨#[],#[],[]⟩
abbrev TBool : TypeId:=4
theorem uBool : Tryz.prog.underlying TBool=some .bool:=u4
def LT : List Nat:=[3,4,5,9,22,40,63,92,60]
theorem simpleLT : simpleT Tryz.prog LT=true:=by kernel_rfl
theorem uInts : Tryz.prog.underlying 22=some (.slice 3):=by kernel_rfl
theorem wt_int {n : Nat} {d : List D} (h : WT Tryz.prog n 3 d) : ∃ x : Int,d=[.int .i64 x]:=by
 cases n with
 | zero=>exact h.elim
 | succ n=>simp only [WT,u3] at h; obtain ⟨x,rfl,_⟩:=h; exact ⟨x,rfl⟩
theorem wt_ints {n : Nat} {d : List D} (h : WT Tryz.prog n 22 d) : ∃ l : List Int,d=[numsD l]∧l.length≤maxLen:=by
 cases n with
 | zero=>exact h.elim
 | succ n=>
  simp only [WT,uInts] at h
  obtain ⟨xs,rfl,hl,hx⟩:=h
  have key : ∀ xs : List (List D),(∀ row ∈ xs,WT Tryz.prog n 3 row)→∃ l : List Int,xs=l.map numR:=by
   intro xs
   induction xs with
   | nil=>intro _; exact ⟨[],rfl⟩
   | cons r xs ih=>
    intro h
    obtain ⟨l,rfl⟩:=ih fun row hr=>h row (by simp [hr])
    obtain ⟨x,rfl⟩:=wt_int (h r (by simp))
    exact ⟨x :: l,rfl⟩
  obtain ⟨l,rfl⟩:=key xs hx
  exact ⟨l,rfl,by simpa using hl⟩
end Go.Proofs.YtnfecjmddbehiaaGreat

namespace Go.Proofs.YtnfecjmddbehiaaGreat
open Go Am
set_option maxRecDepth 100000
end Go.Proofs.YtnfecjmddbehiaaGreat
