/- What functions of the program compute: lemmas. -/
import Derived.Test.YtnfecjmddbehiaaGreatSb3
import Derived.Test.YtnfecjmddbehiaaGreatAm3
import Derived.Test.YtnfecjmddbehiaaGreatAm5
import Derived.Test.YtnfecjmddbehiaaGreatAm7
import Derived.Test.YtnfecjmddbehiaaGreatRows
import Derived.Lib.LaidTab
import Derived.ChangeArms
import Derived.WalkKit
import Derived.ProofKit
import Derived.OpenShut
import Derived.Deep.DeepHandedRow
set_option linter.unusedSimpArgs false
set_option linter.unusedVariables false
set_option linter.unusedSectionVars false
namespace Go.Proofs.YtnfecjmddbehiaaGreat
open Go Am Go.ChangeShapes Go.WideShapes
set_option maxRecDepth 100000
theorem u9:Tryz.prog.underlying 9=some .string:=by kernel_rfl
theorem u4:Tryz.prog.underlying 4=some .bool:=by kernel_rfl
theorem u3:Tryz.prog.underlying 3=some (.int .i64):=by kernel_rfl
theorem qtub:laidOutB Tryz.prog=true:=by kernel_rfl
theorem qdyb:mapsRowed Tryz.prog=true:=by kernel_rfl
theorem qvzb:((List.range Tryz.prog.types.size).all fun t=>match Tryz.prog.underlying t with|some (.slice e)=>decide (0<Tryz.prog.cellsOf e)|_=>true)=true:=by kernel_rfl
theorem ownK:ownKnob Tryz.prog.godebug=none:=by kernel_rfl
def GW:Glob:=fun _=>none
theorem qryb:GHyp GW:=rfl
theorem qpub {W:World}:GlobOK GW W (allC W):=by
 intro g cells hg;simp[GW] at hg
theorem call_true {i f:Nat} {sg:Sig} {W:World} {ins:Env} {vs:List Value} (hi:sigs[i]? = some sg) (hf:sg.f=f) (hH:sg.Hin=[]) (hH':sg.Hout=[]) (hn:sg.nout=1) (hres:sg.res = .atm (.v 0))
 (_hL:laidMetH Tryz.prog [] W) (hwf:EWF ins) (hl:ins.length=sg.nin) (hr:run tb i ins=some [.bool true])
 (hargs:RepAll W (allC W) (fun _=>none) (hOf []) (SV.instL ins (lnL ins []) sg.args) vs) :
 Calls Tryz.prog f ⟨vs⟩ W fun e W'=>e = .returned (.bool true)∧∃ C' ρ',Ext W (allC W) (fun _=>none) (hOf []) W' C' ρ' (hOf []):=by
 have hcc:=qbw (P:=Tryz.prog) tok gok (by kernel_rfl) (qnyb qryb) hi hwf hl (by rw[hH];simp) hr (by rw[hn];rfl)
 rw[hH,hH',hf,hres] at hcc;refine (hcc.2 W (allC W) (fun _=>none) vs (qljb W _) qpub hargs).mono fun e W' h=>?_
 obtain ⟨v,C',ρ',rfl,_,hE,hv⟩:=h
 have:v = .bool true:=by
  cases hv with
  | d _ _ h=>cases h;rfl
 subst this;exact ⟨rfl,C',ρ',hE⟩
end Go.Proofs.YtnfecjmddbehiaaGreat

namespace Go.Proofs.YtnfecjmddbehiaaGreat
open Go Am Go.ChangeShapes Go.WideShapes Go.ChangeAt Go.RowKit
set_option maxRecDepth 100000
noncomputable def laidWorld (os:Os):World:=World.holding Tryz.prog os ⟨#[],#[],[]⟩
abbrev TBool:TypeId:=4
theorem qfyb:Tryz.prog.underlying TBool=some .bool:=u4
def LT:List Nat:=[3,4,5,9,22,40,63,92,60]
theorem qrzb:Tryz.prog.underlying 22=some (.slice 3):=by kernel_rfl
theorem qlyb:Tryz.prog.underlying 40=some (.slice 9):=by kernel_rfl
theorem qzgb {n:Nat} {d:List D} (h:WT Tryz.prog n 3 d):∃ x:Int,d=[.int .i64 x]:=by
 cases n with
 | zero=>exact h.elim
 | succ n=>simp only[WT,u3] at h;obtain ⟨x,rfl,_⟩:=h;exact ⟨x,rfl⟩
theorem qhvb {n:Nat} {d:List D} (h:WT Tryz.prog n 9 d):∃ x:List UInt8,d=[.str x]∧x.length≤maxLen:=by
 cases n with
 | zero=>exact h.elim
 | succ n=>simp only[WT,u9] at h;obtain ⟨x,rfl,h⟩:=h;exact ⟨x,rfl,h⟩
theorem qieb {n:Nat} {d:List D} (h:WT Tryz.prog n 22 d):∃ l:List Int,d=[numsD l]∧l.length≤maxLen:=by
 cases n with
 | zero=>exact h.elim
 | succ n=>
  simp only[WT,qrzb] at h;obtain ⟨xs,rfl,hl,hx⟩:=h
  have key:∀ xs:List (List D),(∀ row∈xs,WT Tryz.prog n 3 row)→∃ l:List Int,xs=l.map numR:=by
   intro xs
   induction xs with
   | nil=>intro _;exact ⟨[],rfl⟩
   | cons r xs ih=>
    intro h;obtain ⟨l,rfl⟩:=ih fun row hr=>h row (by simp[hr])
    obtain ⟨x,rfl⟩:=qzgb (h r (by simp))
    exact ⟨x::l,rfl⟩
  obtain ⟨l,rfl⟩:=key xs hx;exact ⟨l,rfl,by simpa using hl⟩
theorem qttb {n:Nat} {d:List D} (h:WT Tryz.prog n 40 d):∃ l:List (List UInt8),d=[strsD l]∧l.length≤maxLen∧∀ s∈l,s.length≤maxLen:=by
 cases n with
 | zero=>exact h.elim
 | succ n=>
  simp only[WT,qlyb] at h;obtain ⟨xs,rfl,hl,hx⟩:=h
  have key:∀ xs:List (List D),(∀ row∈xs,WT Tryz.prog n 9 row)→∃ l:List (List UInt8),xs=l.map strR∧∀ s∈l,s.length≤maxLen:=by
   intro xs
   induction xs with
   | nil=>intro _;exact ⟨[],rfl,by simp⟩
   | cons r xs ih=>
    intro h;obtain ⟨l,rfl,hm⟩:=ih fun row hr=>h row (by simp[hr])
    obtain ⟨x,rfl,hx⟩:=qhvb (h r (by simp))
    refine ⟨x::l,rfl,fun s hs=>?_⟩
    rcases List.mem_cons.1 hs with rfl|hs
    · exact hx
    · exact hm s hs
  obtain ⟨l,rfl,hm⟩:=key xs hx;exact ⟨l,rfl,by simpa using hl,hm⟩
end Go.Proofs.YtnfecjmddbehiaaGreat

namespace Go.Proofs.YtnfecjmddbehiaaGreat
open Go Am
set_option maxRecDepth 100000
end Go.Proofs.YtnfecjmddbehiaaGreat

namespace Go.Proofs.YtnfecjmddbehiaaGreat
open Go Am
set_option maxRecDepth 100000
def LTT:List Nat:=30::28::LT
theorem qofb:simpleT Tryz.prog LTT=true:=by kernel_rfl
theorem qpzb:Tryz.prog.underlying 28=some (.slice 22):=by kernel_rfl
theorem qdxb:∃ fs,Tryz.prog.underlying 30=some (.struct fs)∧fs.toList.map (·.type)=[3,28]:=by
 have h:(match Tryz.prog.underlying 30 with|some (.struct fs)=>some (fs.toList.map (·.type))|_=>none)=some [3,28]:=by kernel_rfl
 split at h
 · rename_i fs hu;exact ⟨fs,hu,Option.some.inj h⟩
 · cases h
theorem qltb {n:Nat} {d:List D} (h:WT Tryz.prog n 28 d):∃ l:List (List Int),d=[tabD l]∧l.length≤maxLen∧∀ r∈l,r.length≤maxLen:=by
 cases n with
 | zero=>exact h.elim
 | succ n=>
  simp only[WT,qpzb] at h;obtain ⟨xs,rfl,hl,hx⟩:=h
  have key:∀ xs:List (List D),(∀ row∈xs,WT Tryz.prog n 22 row)→∃ l:List (List Int),xs=l.map (fun r=>[numsD r])∧∀ r∈l,r.length≤maxLen:=by
   intro xs
   induction xs with
   | nil=>intro _;exact ⟨[],rfl,fun r hr=>by cases hr⟩
   | cons r xs ih=>
    intro h;obtain ⟨l,rfl,hl⟩:=ih fun row hr=>h row (by simp[hr])
    obtain ⟨x,rfl,hx⟩:=qieb (h r (by simp))
    refine ⟨x::l,by simp,fun r hr=>?_⟩
    rcases List.mem_cons.1 hr with rfl|hr
    · exact hx
    · exact hl r hr
  obtain ⟨l,rfl,hl2⟩:=key xs hx;exact ⟨l,rfl,by simpa using hl,hl2⟩
theorem qtkb {n:Nat} {d:List D} (h:WT Tryz.prog n 30 d):∃ (a:Int) (l:List (List Int)),d=[.int .i64 a,tabD l]∧l.length≤maxLen∧∀ r∈l,r.length≤maxLen:=by
 cases n with
 | zero=>exact h.elim
 | succ n=>
  obtain ⟨fs,hu,ht⟩:=qdxb;simp only[WT,hu,ht] at h;obtain ⟨a1,b1,rfl,h1,a2,b2,rfl,h2,h4⟩:=h;simp only[catW] at h4;subst h4;obtain ⟨a,rfl⟩:=qzgb h1;obtain ⟨l,rfl,h3,h5⟩:=qltb h2;exact ⟨a,l,rfl,h3,h5⟩
end Go.Proofs.YtnfecjmddbehiaaGreat
