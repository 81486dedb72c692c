/- Lemmas. -/
import Derived.Test.YtefjlhhicgepfaaGreatDoorSe8
set_option linter.unusedSimpArgs false
set_option linter.unusedVariables false
set_option linter.unusedSectionVars false
namespace Am
open Go
def ex(R:Nat→PF)(n:Nat):IR→Env→List PF→Option (List D)
 | .op p args k,e,J=>match p.eval (args.map (·.val e)) with|some outs=>ex R n k (e++outs) J|none=>none
 | .ite c a b,e,J=>match c.val e with | .bool true=>ex R n a e J | .bool false=>ex R n b e J|_=>none
 | .isf c f a b,e,J=>if acs f (c.val e) then ex R n a e J else ex R n b e J
 | .call i m sc sl args k,e,J=>match R i (args.map (·.val e)) with
  | some outs=>if outs.length=m∧(sc=true→outs.all D.scal=true)∧sl.all (fun j=>(outs.getD j dfl).isSl)=true then ex R n k (e++outs) J else none
  | none=>none
 | .letj _ body rest,e,J=>ex R n body e (J++[fun vs=>ex R n rest (e++vs) J])
 | .loop _ init body,e,J=>eg (fun L vs=>ex R n body (e++vs) (J++[L])) n (init.map (·.val e))
 | .jump j args,e,J=>match J[j]? with|some f=>f (args.map (·.val e))|none=>none
 | .ret args,e,_=>some (args.map (·.val e))
 | .fail,_,_=>none
def sh:PF:=fun _=>none
def abw(l:List TE):Nat→TE:=fun i=>match l[i]? with|some t=>t|none=>.ext sh
def nz(P:Program)(G:bl)(T:Tab)(SG:ef)(sigs:List Sig)(i:Nat):TE→Prop
 | .ir x=>∃ sg fn ann fuel,sigs[i]? = some sg∧P.funcs[sg.f]? = some fn∧ai T SG sigs fuel sg fn ann=some x∧wc P ann
 | .ext E=>(∀ a o,a.length=vy sigs i→EWF a→E a=some o→EWF o)∧∀ sg,sigs[i]? = some sg→jh P G E sg
def aah(P:Program)(G:bl)(T:Tab)(SG:ef)(sigs:List Sig):Nat→List TE→Prop
 | _,[]=>True
 | i,t::l=>nz P G T SG sigs i t∧aah P G T SG sigs (i+1) l
variable {P:Program}{G:bl}{T:Tab}{SG:ef}{sigs:List Sig}
theorem nz.none(i:Nat):nz P G T SG sigs i (.ext sh):=
 ⟨fun a o _ _ h=>by simp[sh] at h,fun sg _ ins outs _ _ _ h=>by simp[sh] at h⟩
theorem aah.get:∀ {l:List TE} {i:Nat},aah P G T SG sigs i l→∀ (j:Nat) (t:TE),l[j]? = some t→nz P G T SG sigs (i+j) t
 | [],i,_,j,t,h=>by simp at h
 | a::l,i,h,0,t,hj=>by simp at hj;subst hj;exact h.1
 | a::l,i,h,j+1,t,hj=>by
  have:=h.2.get j t (by simpa using hj)
  rwa [show i+(j+1)=i+1+j by omega]
theorem qqp{l:List TE}(h:aah P G T SG sigs 0 l):uu P G T SG sigs (abw l):=by
 have key:∀ i,nz P G T SG sigs i (abw l i):=by
  intro i;unfold abw
  split
  · rename_i t ht;have:=h.get i t ht
    rwa [Nat.zero_add] at this
  · exact nz.none i
 refine ⟨fun i x hx=>?_,fun i E hx=>?_⟩
 · have:=key i;rw[hx] at this;exact this
 · have:=key i;rw[hx] at this;exact this
end Am
