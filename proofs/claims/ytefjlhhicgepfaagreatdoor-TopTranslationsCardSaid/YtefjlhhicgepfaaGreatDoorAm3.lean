/- Lemmas. -/
import Derived.Test.YtefjlhhicgepfaaGreatDoorAmEv
import Derived.Sort.OwnSorted
import Derived.Below
set_option linter.unusedSimpArgs false
set_option linter.unusedVariables false
set_option linter.unusedSectionVars false
open Nat (add_zero le_refl mul_one zero_add)
namespace Am
open Go Go.Sort
section
variable {α:Type}[Inhabited α]{P:Program}{G:bl}
def bu(fz:Bool)(ty:TypeId)(dE:α→D)(xs:List α):Blk:={ fz,ap:=true,ty,sz:=1,rows:=xs.map fun x=>[.d (dE x)] }
structure vv(enc:α→Value)(dE:α→D):Prop where
 rep:∀ w C x,eb w C (dE x) (enc x)
 one:∀ x,(enc x).oneCell' = true
 inj:∀ w C x v,eb w C (dE x) v→v=enc x
variable {enc:α→Value}{dE:α→D}{ty:TypeId}{w:World}{C:Com}{ρ:Rho}{xs:List α}
theorem qym{g n:Nat}{os:Array Obj}(d:Array α){cur:Array Value}{e:TypeId}{fr:Nat × Nat}(hb:w.heap[g]? = some (.cells cur e fr)) :
 (grow (putRow enc (Sort.ahead w n) g 0 d) os).heap[g]? = some (.cells (putCells enc 0 d cur) e fr):=by
 have hg:g<w.heap.size:=(Array.getElem?_eq_some_iff.1 hb).1;rw[heap_grow_old _ _ (by simpa using hg)]
 simp only[putRow,mapBlock,Sort.ahead,Array.getElem?_modify,if_true,hb,Option.map_some,onCells]
theorem qgu{g n:Nat}{os:Array Obj}(d:Array α){r:Nat}(hr:r<w.heap.size)(dc:r≠g) :
 (grow (putRow enc (Sort.ahead w n) g 0 d) os).heap[r]? = w.heap[r]?:=by
 rw[heap_grow_old _ _ (by simpa using hr)]
 simp only[putRow,mapBlock,Sort.ahead,Array.getElem?_modify];rw[if_neg (fun h=>dc h.symm)]
theorem qhg{d:Array α}{cur:Array Value}{j:Nat}(hj:j<d.size)(hc:j<cur.size):(putCells enc 0 d cur)[j]? = some (enc d[j]!):=by
 simp[putCells,hj,hc]
theorem a0f{w:World}{r o:Nat}{v:Value}(h:w.cell? ⟨r,o,none⟩ = some v):r<w.heap.size:=by
 rw[qrb] at h
 by_cases hr:r<w.heap.size
 · exact hr
 · rw[Array.getElem?_eq_none (by omega)] at h;simp at h
theorem qvm(hE:vv enc dE)(fz:Bool){xs ys:List α}(hl:ys.length=xs.length)(hR:bh w C ρ (hOf [bu false ty dE xs])){r s:Nat}(hr:ρ 0=some (r,s))(n:Nat)(os:Array Obj) :
 bh (grow (putRow enc (Sort.ahead w n) r 0 ys.toArray) os) (fun r' o=>C r' o∨(fz=true∧r' = r∧o<ys.length)) ρ (hOf [bu fz ty dE ys])∧
 Ext w C ρ (hOf [bu false ty dE xs]) (grow (putRow enc (Sort.ahead w n) r 0 ys.toArray) os) (fun r' o=>C r' o∨(fz=true∧r' = r∧o<ys.length)) ρ (hOf [bu fz ty dE ys]):=by
 have pm:hOf [bu false ty dE xs] 0=some (bu false ty dE xs):=rfl;have vd:=hR.blk 0 _ pm;unfold cw at vd;rw[hr] at vd;obtain ⟨⟨cs,lo,hi,m1,m2,m3,m4,m5,m6,m7⟩,n1,n2⟩:=vd;have hnC:=n1 rfl;have zl:r<w.heap.size:=(Array.getElem?_eq_some_iff.1 m1).1;have hx:xs.length≤cs.size:=by simpa [bu,m2] using m5
 have yw:=qym (enc:=enc) (n:=n) (os:=os) ys.toArray m1;have ab9:∀ r',r' < w.heap.size→r'≠r→(grow (putRow enc (Sort.ahead w n) r 0 ys.toArray) os).heap[r']? = w.heap[r']?:=fun r' h1 h2=>qgu ys.toArray h1 h2
 have bp:∀ r' o,C r' o→(grow (putRow enc (Sort.ahead w n) r 0 ys.toArray) os).cell? ⟨r',o,none⟩ = w.cell? ⟨r',o,none⟩:=by
  intro r' o h;obtain ⟨v,hv⟩:=hR.com r' o h;have h1:=a0f hv;have h2:r'≠r:=fun e=>hnC o (e ▸ h)
  rw[qrb,qrb,ab9 r' h1 h2]
 have yg:∀ r',gq ρ (hOf [bu false ty dE xs]) r'↔r' = r:=by
  intro r'
  constructor
  · rintro ⟨b,s',hb,v7⟩
    match b,hb with
    | 0,_=>rw[hr] at v7;cases v7;rfl
    | b+1,hb=>simp[hOf] at hb
  · rintro rfl;exact ⟨0,s,rfl,hr⟩
 have aav:∀ r',gq ρ (hOf [bu fz ty dE ys]) r'↔r' = r:=by
  intro r'
  constructor
  · rintro ⟨b,s',hb,v7⟩
    match b,hb with
    | 0,_=>rw[hr] at v7;cases v7;rfl
    | b+1,hb=>simp[hOf] at hb
  · rintro rfl;exact ⟨0,s,rfl,hr⟩
 constructor
 · refine ⟨fun b blk hb=>?_,fun b b' r1 s1 s2 dc h1 h2=>?_,fun r' o h=>?_⟩
   · match b,hb with
     | 0,hb=>
      obtain rfl:bu fz ty dE ys=blk:=by simpa [hOf] using hb
      unfold cw;rw[hr];refine ⟨⟨_,lo,hi,yw,by simp[putCells,m2],fun _=>m3 rfl,fun _=>m4 rfl,by simpa [bu,hl] using m5,?_,?_⟩,?_,?_⟩
      · intro i h;simp[bu]
      · intro i j h1 h2;simp only[bu,List.length_map] at h1;have hj:j=0:=by simp[bu] at h2;exact h2
        subst hj;refine ⟨enc ys[i],?_,hE.one _,?_⟩
        · have:(putCells enc 0 ys.toArray cs)[i]? = some (enc ys.toArray[i]!):=qhg (by simpa using h1) (by omega)
          simp only[bu,mul_one,add_zero];rw[this];simp[h1]
        · simp only[bu,List.getElem_map,List.getElem_cons_zero];exact .d _ _ (hE.rep _ _ _)
      · intro hf o ho;rcases ho with ho|⟨h,_⟩
        · exact hnC o ho
        · simp[bu] at hf;rw[hf] at h;cases h
      · intro hf o ho;simp only[bu] at hf ho;exact .inr ⟨hf,rfl,by simpa using ho⟩
     | b+1,hb=>simp[hOf] at hb
   · match b,b' with
     | 0,0=>exact absurd rfl dc
     | b+1,_=>simp[hOf] at h1
     | 0,b'+1=>simp[hOf] at h2
   · rcases h with h|⟨_,rfl,ho⟩
     · rw[bp r' o h];exact hR.com r' o h
     · refine ⟨enc ys.toArray[o]!,?_⟩;rw[qrb,yw];exact qhg (by simpa using ho) (by omega)
 · refine ⟨fun r' o h=>.inl h,bp,fun b blk hb=>?_,rfl,rfl,rfl,?_,fun r' h1 h2=>?_,fun r' h=>?_,fun r' o h=>?_⟩
   · match b,hb with
     | 0,hb=>
      obtain rfl:bu false ty dE xs=blk:=by simpa [hOf] using hb
      exact ⟨bu fz ty dE ys,rfl,rfl,by simp[bu,hl],fun _=>rfl⟩
     | b+1,hb=>simp[hOf] at hb
   · simp
   · exact ab9 r' h1 (fun e=>h2 ((yg r').2 e))
   · exact .inl ((yg r').2 ((aav r').1 h))
   · rcases h with h|⟨_,rfl,_⟩
     · exact .inl h
     · exact .inr (.inl ((yg r').2 rfl))
theorem al6(hR:bh w C ρ (hOf [bu false ty dE xs])){v:Value}(hv:ao w C ρ (hOf [bu false ty dE xs]) (.own 0 xs.length 0 xs.length) v) :
 (xs=[]∧v = .slice none 0 0)∨∃ r s cap,ρ 0=some (r,s)∧v = .slice (some ⟨r,0,none⟩) xs.length cap∧xs.length≤cap:=by
 cases hv with
 | own _ _ _ _ _ blk hb hn h1 h=>
  obtain rfl:bu false ty dE xs=blk:=by simpa [hOf] using hb
  rcases h (by simp[bu]) with ⟨r,s,cap,h2,rfl,h3,_⟩|⟨_,_,h4,rfl⟩
  · exact .inr ⟨r,s,cap,h2,by simp[bu],h3⟩
  · exact .inl ⟨List.length_eq_zero_iff.1 h4,rfl⟩
theorem qvu(hE:vv enc dE)(hR:bh w C ρ (hOf [bu false ty dE xs])){r s:Nat}(hr:ρ 0=some (r,s)):Holds enc w r 0 xs.toArray∧r<w.heap.size:=by
 have vd:=hR.blk 0 _ (rfl:hOf [bu false ty dE xs] 0=some (bu false ty dE xs));unfold cw at vd;rw[hr] at vd;obtain ⟨⟨cs,lo,hi,m1,m2,m3,m4,m5,m6,m7⟩,n1,n2⟩:=vd;refine ⟨fun j hj=>?_,(Array.getElem?_eq_some_iff.1 m1).1⟩
 have gb:j<xs.length:=by simpa using hj
 obtain ⟨v,v1,v2,v3⟩:=m7 j 0 (by simpa [bu] using gb) (by simp[bu])
 simp only[bu,List.getElem_map,List.getElem_cons_zero,mul_one,add_zero] at v1 v3
 have hv:v=enc xs[j]:=by
  cases v3 with
  | d _ _ h=>exact hE.inj _ _ _ _ h
 subst hv
 have cf:j<s:=by
  have:xs.length≤s:=by simpa [bu] using m5
  omega
 constructor
 · rw[qrb,zero_add,m1];simp only[v1];simp[gb]
 · rw[zero_add,qhn w r j m1]
   simpa using m4 rfl j cf
theorem aha(hE:vv enc dE){f:FuncId}(hb:th P f){g:List α→List α}(hg:∀ l,(g l).length=l.length)
 (h:∀ (blk cap:Nat) (l:List α) (w:World),Holds enc w blk 0 l.toArray→blk<w.heap.size→l.length<4611686018427387904→Calls P f #[.slice (some ⟨blk,0,none⟩) l.length cap] w fun e w'=>e = .returned (.tuple #[])∧∃ n os,w' = grow (putRow enc (Sort.ahead w n) blk 0 (g l).toArray) os)
 (h0:∀ p cap w,Calls P f #[.slice p 0 cap] w fun e w'=>e = .returned (.tuple #[])∧w' = w) (xs:List α) (hl:xs.length<4611686018427387904) :
 CC P G f [bu false ty dE xs] [.own 0 xs.length 0 xs.length] [bu false ty dE (g xs)] (.tup []):=by
 refine ⟨hb,fun w C ρ vs hR hG hv=>?_⟩
 obtain ⟨an,hv⟩:=hv
 obtain ⟨v,rfl⟩:∃ v,vs=[v]:=by
  match vs,an with
  | [v],_=>exact ⟨v,rfl⟩
 have hp:=hv 0 (by simp) (by simp)
 simp only[List.getElem_cons_zero] at hp;have aoa:∀ w' C' ρ' H',ao w' C' ρ' H' (.tup []) (.tuple #[]):=fun w' C' ρ' H'=>.tup [] [] rfl fun i h=>by simp at h
 rcases al6 hR hp with ⟨rfl,rfl⟩|⟨r,s,cap,hr,rfl,hc⟩
 · have hg0:g []=[]:=List.length_eq_zero_iff.1 (by rw[hg];rfl)
   rw[hg0];refine (h0 none 0 w).mono ?_;rintro e w' ⟨rfl,rfl⟩;exact ⟨_,C,ρ,rfl,hR,.refl _ _ _ _,aoa _ _ _ _⟩
 · obtain ⟨hH,hs⟩:=qvu hE hR hr;refine (h r cap xs w hH hs hl).mono ?_;rintro e w' ⟨rfl,n,os,rfl⟩;obtain ⟨k1,k2⟩:=qvm hE false (hg xs) hR hr n os
   have hC:(fun r' o=>C r' o∨(false=true∧r' = r∧o<(g xs).length))=C:=by
    funext r' o;simp
   rw[hC] at k1 k2;exact ⟨_,C,ρ,rfl,k1,k2,aoa _ _ _ _⟩
theorem ajp(hE:vv enc dE){f:FuncId}(hb:th P f){g:List α→List α}{k:List α→Nat}(hg:∀ l,(g l).length=l.length)(hk:∀ l,k l≤l.length)
 (h:∀ (blk cap:Nat) (l:List α) (w:World),Holds enc w blk 0 l.toArray→l.length≤9223372036854775807→l.length≤cap→Calls P f #[.slice (some ⟨blk,0,none⟩) l.length cap] w fun e w'=>e = .returned (.slice (some ⟨blk,0,none⟩) (k l) cap)∧∃ n,w' = putRow enc (Sort.ahead w n) blk 0 (g l).toArray)
 (h0:∀ p cap w,Calls P f #[.slice p 0 cap] w fun e w'=>e = .returned (.slice p 0 cap)∧w' = w) (xs:List α) (hl:xs.length<4611686018427387904) :
 CC P G f [bu false ty dE xs] [.own 0 xs.length 0 xs.length] [bu true ty dE (g xs)] (.d (.sl (((g xs).take (k xs)).map fun x=>[dE x]))):=by
 refine ⟨hb,fun w C ρ vs hR hG hv=>?_⟩
 obtain ⟨an,hv⟩:=hv
 obtain ⟨v,rfl⟩:∃ v,vs=[v]:=by
  match vs,an with
  | [v],_=>exact ⟨v,rfl⟩
 have hp:=hv 0 (by simp) (by simp)
 simp only[List.getElem_cons_zero] at hp;rcases al6 hR hp with ⟨rfl,rfl⟩|⟨r,s,cap,hr,rfl,hc⟩
 · have hg0:g []=[]:=List.length_eq_zero_iff.1 (by rw[hg];rfl)
   rw[hg0];refine (h0 none 0 w).mono ?_;rintro e w' ⟨rfl,rfl⟩;have pm:=hR.blk 0 _ (rfl:hOf [bu false ty dE ([]:List α)] 0=some (bu false ty dE []))
   have rj:ao w' C ρ (hOf [bu true ty dE ([]:List α)]) (.d (.sl ((([]:List α).take (k [])).map fun x=>[dE x]))) (.slice none 0 0):=by
    simp only[List.take_nil,List.map_nil];exact .d _ _ .nil
   cases hr:ρ 0 with
   | none=>
    refine ⟨_,C,ρ,rfl,⟨fun b blk hb=>?_,fun b b' r1 s1 s2 dc h1 h2=>?_,hR.com⟩,⟨fun _ _ h=>h,fun _ _ _=>rfl,fun b blk hb=>?_,rfl,rfl,rfl,le_refl _,fun _ _ _=>rfl,fun r' h=>?_,fun _ _ h=>.inl h⟩,rj⟩
    · match b,hb with
      | 0,hb=>
       obtain rfl:bu true ty dE ([]:List α)=blk:=by simpa [hOf] using hb
       unfold cw;rw[hr];exact ⟨rfl,rfl⟩
      | b+1,hb=>simp[hOf] at hb
    · match b,b' with
      | 0,0=>exact absurd rfl dc
      | b+1,_=>simp[hOf] at h1
      | 0,b'+1=>simp[hOf] at h2
    · match b,hb with
      | 0,hb=>
       obtain rfl:bu false ty dE ([]:List α)=blk:=by simpa [hOf] using hb
       exact ⟨bu true ty dE [],rfl,rfl,le_refl _,fun _=>rfl⟩
      | b+1,hb=>simp[hOf] at hb
    · obtain ⟨b,s',hb,v7⟩:=h
      match b,hb with
      | 0,_=>rw[hr] at v7;cases v7
      | b+1,hb=>simp[hOf] at hb
   | some p=>
    obtain ⟨r,s⟩:=p;have hH:Holds enc w' r 0 ([]:List α).toArray:=fun j hj=>by simp at hj
    obtain ⟨k1,k2⟩:=qvm hE true (xs:=([]:List α)) (ys:=[]) rfl hR hr 0 #[]
    have hw:grow (putRow enc (Sort.ahead w' 0) r 0 ([]:List α).toArray) #[]=w':=by
     rw[grow_empty,Sort.ahead_zero,putRow_self enc w' r 0 _ hH]
    rw[hw] at k1 k2;refine ⟨_,_,ρ,rfl,k1,k2,?_⟩;simp only[List.take_nil,List.map_nil];exact .d _ _ .nil
 · obtain ⟨hH,hs⟩:=qvu hE hR hr;refine (h r cap xs w hH (by omega) hc).mono ?_
   rintro e w' ⟨rfl,n,rfl⟩;obtain ⟨k1,k2⟩:=qvm hE true (hg xs) hR hr n #[];rw[grow_empty] at k1 k2;have pm:=hR.blk 0 _ (rfl:hOf [bu false ty dE xs] 0=some (bu false ty dE xs));unfold cw at pm;rw[hr] at pm;obtain ⟨⟨cs,lo,hi,m1,m2,m3,m4,m5,m6,m7⟩,n1,n2⟩:=pm;have hx:xs.length≤cs.size:=by simpa [bu,m2] using m5
   refine ⟨_,_,ρ,rfl,k1,k2,.d _ _ ?_⟩;have hkl:=hk xs;have hgl:=hg xs;have lp:(((g xs).take (k xs)).map fun x=>[dE x]).length=k xs:=by simp;omega
   have key:=eb.sl (w:=putRow enc (Sort.ahead w n) r 0 (g xs).toArray) (C:=fun r' o=>C r' o∨(true=true∧r' = r∧o<(g xs).length)) (((g xs).take (k xs)).map fun x=>[dE x]) r 0 cap 1 (fun i _=>enc (g xs).toArray[i]!) (by rw[lp];omega)
    (fun i h=>by simp) (fun i j h1 h2=>.inr ⟨rfl,rfl,by rw[lp] at h1;omega⟩)
    (fun i j h1 h2=>by
     rw[lp] at h1;refine ⟨?_,hE.one _⟩;have hj:j=0:=by omega
     subst hj;have yw:=qym (enc:=enc) (n:=n) (os:=#[]) (g xs).toArray m1;rw[grow_empty] at yw;rw[qrb,yw];simp only[mul_one,add_zero,zero_add];exact qhg (by simp;omega) (by omega))
    (fun i j h1 h2=>by
     rw[lp] at h1;have hj:j=0:=by simp at h2;exact h2
     subst hj;simp only[List.getElem_map,List.getElem_cons_zero,List.getElem_take];have:(g xs).toArray[i]! = (g xs)[i]'(by omega):=by simp[show i<(g xs).length by omega]
     rw[this];exact hE.rep _ _ _)
   rw[lp] at key;exact key
end
end Am

namespace Am
open Go Go.RowKit
variable {w w':World}{C:Com}{ρ:Rho}{H:ba}
theorem wd(hR:bh w C ρ H)(hb:Below w.heap.size w w'):Ext w C ρ H w' C ρ H where
 com _ _ h:=h
 cell r o hc:=qmd (hb.block r (hR.com_lt hc))
 blk _ blk h:=⟨blk,h,rfl,le_refl _,fun _=>rfl⟩
 os:=hb.os
 tape:=hb.tape
 output:=hb.output
 size:=hb.size
 same r hr _:=hb.block r hr
 rows _ h:=.inl h
 grow _ _ h:=.inl h
theorem qwo(hR:bh w C ρ H)(hb:Below w.heap.size w w'):bh w' C ρ H where
 blk b blk hx:=(hR.blk b blk hx).ext (wd hR hb) rfl (fun r s hr=>hb.block r (hR.row_lt ⟨b,s,by simp[hx],hr⟩)) (fun _ _ _ _ _ hc=>hc)
 dis:=hR.dis
 com r o hc:=by
  obtain ⟨v,hv⟩:=hR.com r o hc;exact ⟨v,by rw[(wd hR hb).cell r o hc];exact hv⟩
theorem tv(hR:bh w C ρ H)(hb:Below w.heap.size w w'){b g:Nat}{blk:Blk}{cs:Array Value}(iz:H b=none)(hg:w.heap.size≤g) :
 Ext w C ρ H w' C (ke ρ b (g,cs.size)) (co H b blk) where
 com _ _ h:=h
 cell r o hc:=qmd (hb.block r (hR.com_lt hc))
 blk x bj hx:=by
  have dk:x≠b:=fun e=>by subst e;rw[iz] at hx;cases hx
  exact ⟨bj,by rw[qp _ _ dk];exact hx,rfl,le_refl _,fun _=>qx _ _ dk⟩
 os:=hb.os
 tape:=hb.tape
 output:=hb.output
 size:=hb.size
 same r hr _:=hb.block r hr
 rows r ho:=by
  obtain ⟨x,s,hx,hr⟩:=ho
  by_cases dk:x=b
  · subst dk;rw[qq] at hr;simp at hr;exact .inr (by omega)
  · rw[qp _ _ dk] at hx;rw[qx _ _ dk] at hr;exact .inl ⟨x,s,hx,hr⟩
 grow _ _ h:=.inl h
theorem qhr(hR:bh w C ρ H)(hb:Below w.heap.size w w'){b g:Nat}{blk:Blk}{cs:Array Value}(iz:H b=none)(hg:w.heap.size≤g)(kr:w'.heap[g]? = some (.cells cs blk.ty (0,0)))
 (hf:lj w' C ρ H blk cs) (kz:blk.fz=false):bh w' C (ke ρ b (g,cs.size)) (co H b blk):=by
 have hR':=qwo hR hb;have e:=tv (cs:=cs) (blk:=blk) hR hb iz hg;have cf:∀ x r s,(H x).isSome=true→ρ x=some (r,s)→r<w.heap.size:=fun x r s hx hr=>hR.row_lt ⟨x,s,hx,hr⟩
 have hup:∀ {x:AV} {v:Value},ao w' C ρ H x v→ao w' C (ke ρ b (g,cs.size)) (co H b blk) x v:=fun {x v} h=>by
  induction h with
  | d x v h=>exact .d x v h
  | nils=>exact .nils
  | agg cs vs hl h1 _ ih=>exact .agg cs vs hl h1 ih
  | tup cs vs hl _ ih=>exact .tup cs vs hl ih
  | ptr b1 n i j v blk1 zb hn h1 h=>
   have dc:b1≠b:=fun e=>by subst e;rw[iz] at zb;cases zb
   refine .ptr b1 n i j v blk1 (by rw[qp _ _ dc];exact zb) hn h1 fun hh=>?_
   rw[qx _ _ dc];exact h hh
  | own b1 n off len v blk1 zb hn h1 h=>
   have dc:b1≠b:=fun e=>by subst e;rw[iz] at zb;cases zb
   refine .own b1 n off len v blk1 (by rw[qp _ _ dc];exact zb) hn h1 fun hh=>?_
   rw[qx _ _ dc];exact h hh
  | eptr cs r o vs hC bp hrec=>exact .eptr cs r o vs hC bp hrec
  | clo f first caps fv cv hf hc _ _ ih1 ih2=>exact .clo f first caps fv cv hf hc ih1 ih2
  | junk v=>exact .junk v
 constructor
 · intro x bj hx
   by_cases dk:x=b
   · subst dk;rw[qab] at hx;obtain rfl:blk=bj:=by simpa using hx
     unfold cw;rw[qq];obtain ⟨f1,f2,f3⟩:=hf;refine ⟨⟨cs,0,0,kr,rfl,fun _ _=>⟨rfl,rfl⟩,fun _ o _=>by omega,f1,f2,fun i j hi hj=>?_⟩,fun _ o hc=>?_,fun h=>by simp[kz] at h⟩
     · obtain ⟨v,g1,g2,g3⟩:=f3 i j hi hj;exact ⟨v,g1,g2,hup g3⟩
     · have:=hR.com_lt hc;omega
   · rw[qp _ _ dk] at hx;exact (hR.blk x bj hx).ext e (qx _ _ dk) (fun r s hr=>hb.block r (cf x r s (by simp[hx]) hr)) (fun _ _ _ _ _ hc=>hc)
 · intro x y r s s' dc hx hy n6 rx
   by_cases dk:x=b
   · subst dk;have r3:y≠x:=fun e=>dc e.symm
     rw[qq] at n6;rw[qp _ _ r3] at hy;rw[qx _ _ r3] at rx;have:=cf y r s' hy rx;simp at n6;omega
   · by_cases r3:y=b
     · subst r3;rw[qq] at rx;rw[qp _ _ dk] at hx;rw[qx _ _ dk] at n6;have:=cf x r s hx n6;simp at rx;omega
     · rw[qp _ _ dk] at hx;rw[qp _ _ r3] at hy;rw[qx _ _ dk] at n6;rw[qx _ _ r3] at rx;exact hR.dis x y r s s' dc hx hy n6 rx
 · exact hR'.com
theorem qun(hR:bh w C ρ H)(hb:Below w.heap.size w w'){b:Nat}{blk:Blk}(iz:H b=none)(h0:blk.rows=[])(wz:blk.ap=true) :
 bh w' C (fun x=>if x=b then none else ρ x) (co H b blk)∧Ext w C ρ H w' C (fun x=>if x=b then none else ρ x) (co H b blk):=by
 have hR':=qwo hR hb
 have e:Ext w C ρ H w' C (fun x=>if x=b then none else ρ x) (co H b blk):=by
  refine ⟨fun _ _ h=>h,fun r o hc=>qmd (hb.block r (hR.com_lt hc)),fun x bj hx=>?_,hb.os,hb.tape,hb.output,hb.size,fun r hr _=>hb.block r hr,fun r ho=>?_,fun _ _ h=>.inl h⟩
  · have dk:x≠b:=fun e=>by subst e;rw[iz] at hx;cases hx
    exact ⟨bj,by rw[qp _ _ dk];exact hx,rfl,le_refl _,fun _=>if_neg dk⟩
  · obtain ⟨x,s,hx,hr⟩:=ho
    by_cases dk:x=b
    · simp[dk] at hr
    · rw[qp _ _ dk] at hx;simp only[dk,if_false] at hr;exact .inl ⟨x,s,hx,hr⟩
 refine ⟨⟨fun x bj hx=>?_,fun x y r s s' dc hx hy n6 rx=>?_,hR'.com⟩,e⟩
 · by_cases dk:x=b
   · subst dk;rw[qab] at hx;obtain rfl:blk=bj:=by simpa using hx
     unfold cw;simp only[if_true];exact ⟨h0,wz⟩
   · rw[qp _ _ dk] at hx;exact (hR.blk x bj hx).ext e (if_neg dk) (fun r s hr=>hb.block r (hR.row_lt ⟨x,s,by simp[hx],hr⟩)) (fun _ _ _ _ _ hc=>hc)
 · by_cases dk:x=b
   · simp[dk] at n6
   · by_cases r3:y=b
     · simp[r3] at rx
     · rw[qp _ _ dk] at hx;rw[qp _ _ r3] at hy;simp only[dk,if_false] at n6;simp only[r3,if_false] at rx;exact hR.dis x y r s s' dc hx hy n6 rx
end Am
