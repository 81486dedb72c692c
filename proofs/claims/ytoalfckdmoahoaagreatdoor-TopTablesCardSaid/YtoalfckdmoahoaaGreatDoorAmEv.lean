/- The abstract machine and its reader: lemmas. -/
import Derived.Test.YtoalfckdmoahoaaGreatDoorSe8
set_option linter.unusedSimpArgs false
set_option linter.unusedVariables false
set_option linter.unusedSectionVars false
namespace Am
open Go
def ex (R:Nat→PF) (n:Nat):IR→Env→List PF→Option (List D)
 | .op p args k,e,J=>match p.eval (args.map (·.val e)) with|some outs=>ex R n k (e++outs) J|none=>none
 | .ite c a b,e,J=>match c.val e with | .bool true=>ex R n a e J | .bool false=>ex R n b e J|_=>none
 | .isf c f a b,e,J=>if isFn f (c.val e) then ex R n a e J else ex R n b e J
 | .call i m sc sl args k,e,J=>match R i (args.map (·.val e)) with
  | some outs=>if outs.length=m∧(sc=true→outs.all D.scal=true)∧sl.all (fun j=>(outs.getD j dfl).isSl)=true then ex R n k (e++outs) J else none
  | none=>none
 | .letj _ body rest,e,J=>ex R n body e (J++[fun vs=>ex R n rest (e++vs) J])
 | .loop _ init body,e,J=>iter (fun L vs=>ex R n body (e++vs) (J++[L])) n (init.map (·.val e))
 | .jump j args,e,J=>match J[j]? with|some f=>f (args.map (·.val e))|none=>none
 | .ret args,e,_=>some (args.map (·.val e))
 | .fail,_,_=>none
def noneE:PF:=fun _=>none
def tbOf (l:List TE):Nat→TE:=fun i=>match l[i]? with|some t=>t|none=>.ext noneE
def TEok (P:Program) (G:Glob) (T:Tab) (SG:SGlob) (sigs:List Sig) (i:Nat):TE→Prop
 | .ir x=>∃ sg fn ann fuel,sigs[i]? = some sg∧P.funcs[sg.f]? = some fn∧readFn T SG sigs fuel sg fn ann=some x∧AnnOK P ann
 | .ext E=>(∀ a o,a.length=ninOf sigs i→EWF a→E a=some o→EWF o)∧∀ sg,sigs[i]? = some sg→SigOK P G E sg
def TLok (P:Program) (G:Glob) (T:Tab) (SG:SGlob) (sigs:List Sig):Nat→List TE→Prop
 | _,[]=>True
 | i,t::l=>TEok P G T SG sigs i t∧TLok P G T SG sigs (i+1) l
variable {P:Program} {G:Glob} {T:Tab} {SG:SGlob} {sigs:List Sig}
theorem TEok.none (i:Nat):TEok P G T SG sigs i (.ext noneE):=
 ⟨fun a o _ _ h=>by simp[noneE] at h,fun sg _ ins outs _ _ _ h=>by simp[noneE] at h⟩
theorem TLok.get:∀ {l:List TE} {i:Nat},TLok P G T SG sigs i l→∀ (j:Nat) (t:TE),l[j]? = some t→TEok P G T SG sigs (i+j) t
 | [],i,_,j,t,h=>by simp at h
 | a::l,i,h,0,t,hj=>by simp at hj;subst hj;exact h.1
 | a::l,i,h,j+1,t,hj=>by
  have:=h.2.get j t (by simpa using hj)
  rwa [show i+(j+1)=i+1+j by omega]
theorem qtp {l:List TE} (h:TLok P G T SG sigs 0 l):TabOK P G T SG sigs (tbOf l):=by
 have key:∀ i,TEok P G T SG sigs i (tbOf l i):=by
  intro i;unfold tbOf
  split
  · rename_i t ht;have:=h.get i t ht
    rwa [Nat.zero_add] at this
  · exact TEok.none i
 refine ⟨fun i x hx=>?_,fun i E hx=>?_⟩
 · have:=key i;rw[hx] at this;exact this
 · have:=key i;rw[hx] at this;exact this
end Am
