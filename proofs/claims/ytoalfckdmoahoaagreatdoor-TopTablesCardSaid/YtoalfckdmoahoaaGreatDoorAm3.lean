/- The abstract machine and its reader: lemmas. -/
import Derived.Test.YtoalfckdmoahoaaGreatDoorAmEv
import Derived.Test.YtoalfckdmoahoaaGreatDoorRng
import Derived.Test.YtoalfckdmoahoaaGreatDoorSe5
import Derived.Test.YtoalfckdmoahoaaGreatDoorAm9
import Derived.Sort.OwnSorted
import Derived.Below
set_option linter.unusedSimpArgs false
set_option linter.unusedVariables false
set_option linter.unusedSectionVars false
namespace Am
open Go Go.Sort
section
variable {α:Type} [Inhabited α] {P:Program} {G:Glob}
def rowB (fz:Bool) (ty:TypeId) (dE:α→D) (xs:List α):Blk:={ fz,ap:=true,ty,sz:=1,rows:=xs.map fun x=>[.d (dE x)] }
structure EncOK (enc:α→Value) (dE:α→D):Prop where
 rep:∀ w C x,RepD w C (dE x) (enc x)
 one:∀ x,(enc x).oneCell' = true
 inj:∀ w C x v,RepD w C (dE x) v→v=enc x
variable {enc:α→Value} {dE:α→D} {ty:TypeId} {w:World} {C:Com} {ρ:Rho} {xs:List α}
theorem qkm {g n:Nat} {os:Array Obj} (d:Array α) {cur:Array Value} {e:TypeId} {fr:Nat × Nat} (hb:w.heap[g]? = some (.cells cur e fr)) :
 (grow (putRow enc (Sort.ahead w n) g 0 d) os).heap[g]? = some (.cells (putCells enc 0 d cur) e fr):=by
 have hg:g<w.heap.size:=(Array.getElem?_eq_some_iff.1 hb).1;rw[heap_grow_old _ _ (by simpa using hg)]
 simp only[putRow,mapBlock,Sort.ahead,Array.getElem?_modify,if_true,hb,Option.map_some,onCells]
theorem qjr {g n:Nat} {os:Array Obj} (d:Array α) {r:Nat} (hr:r<w.heap.size) (hne:r≠g) :
 (grow (putRow enc (Sort.ahead w n) g 0 d) os).heap[r]? = w.heap[r]?:=by
 rw[heap_grow_old _ _ (by simpa using hr)]
 simp only[putRow,mapBlock,Sort.ahead,Array.getElem?_modify];rw[if_neg (fun h=>hne h.symm)]
theorem qjg {d:Array α} {cur:Array Value} {j:Nat} (hj:j<d.size) (hc:j<cur.size):(putCells enc 0 d cur)[j]? = some (enc d[j]!):=by
 simp[putCells,hj,hc]
theorem qlfb {w:World} {r o:Nat} {v:Value} (h:w.cell? ⟨r,o,none⟩ = some v):r<w.heap.size:=by
 rw[qsb] at h
 by_cases hr:r<w.heap.size
 · exact hr
 · rw[Array.getElem?_eq_none (by omega)] at h;simp at h
theorem qol (hE:EncOK enc dE) (fz:Bool) {xs ys:List α} (hl:ys.length=xs.length) (hR:RelH w C ρ (hOf [rowB false ty dE xs])) {r s:Nat} (hr:ρ 0=some (r,s)) (n:Nat) (os:Array Obj) :
 RelH (grow (putRow enc (Sort.ahead w n) r 0 ys.toArray) os) (fun r' o=>C r' o∨(fz=true∧r' = r∧o<ys.length)) ρ (hOf [rowB fz ty dE ys])∧
 Ext w C ρ (hOf [rowB false ty dE xs]) (grow (putRow enc (Sort.ahead w n) r 0 ys.toArray) os) (fun r' o=>C r' o∨(fz=true∧r' = r∧o<ys.length)) ρ (hOf [rowB fz ty dE ys]):=by
 have hb0:hOf [rowB false ty dE xs] 0=some (rowB false ty dE xs):=rfl;have hbk:=hR.blk 0 _ hb0;unfold BlkOK at hbk;rw[hr] at hbk;obtain ⟨⟨cs,lo,hi,m1,m2,m3,m4,m5,m6,m7⟩,n1,n2⟩:=hbk;have hnC:=n1 rfl;have hrs:r<w.heap.size:=(Array.getElem?_eq_some_iff.1 m1).1;have hx:xs.length≤cs.size:=by simpa [rowB,m2] using m5
 have hrow':=qkm (enc:=enc) (n:=n) (os:=os) ys.toArray m1;have hother:∀ r',r' < w.heap.size→r'≠r→(grow (putRow enc (Sort.ahead w n) r 0 ys.toArray) os).heap[r']? = w.heap[r']?:=fun r' h1 h2=>qjr ys.toArray h1 h2
 have hcell:∀ r' o,C r' o→(grow (putRow enc (Sort.ahead w n) r 0 ys.toArray) os).cell? ⟨r',o,none⟩ = w.cell? ⟨r',o,none⟩:=by
  intro r' o h;obtain ⟨v,hv⟩:=hR.com r' o h;have h1:=qlfb hv;have h2:r'≠r:=fun e=>hnC o (e ▸ h)
  rw[qsb,qsb,hother r' h1 h2]
 have hown:∀ r',OwnRow ρ (hOf [rowB false ty dE xs]) r'↔r' = r:=by
  intro r'
  constructor
  · rintro ⟨b,s',hb,hrb⟩
    match b,hb with
    | 0,_=>rw[hr] at hrb;cases hrb;rfl
    | b+1,hb=>simp[hOf] at hb
  · rintro rfl;exact ⟨0,s,rfl,hr⟩
 have hown':∀ r',OwnRow ρ (hOf [rowB fz ty dE ys]) r'↔r' = r:=by
  intro r'
  constructor
  · rintro ⟨b,s',hb,hrb⟩
    match b,hb with
    | 0,_=>rw[hr] at hrb;cases hrb;rfl
    | b+1,hb=>simp[hOf] at hb
  · rintro rfl;exact ⟨0,s,rfl,hr⟩
 constructor
 · refine ⟨fun b blk hb=>?_,fun b b' r1 s1 s2 hne h1 h2=>?_,fun r' o h=>?_⟩
   · match b,hb with
     | 0,hb=>
      obtain rfl:rowB fz ty dE ys=blk:=by simpa [hOf] using hb
      unfold BlkOK;rw[hr];refine ⟨⟨_,lo,hi,hrow',by simp[putCells,m2],fun _=>m3 rfl,fun _=>m4 rfl,by simpa [rowB,hl] using m5,?_,?_⟩,?_,?_⟩
      · intro i h;simp[rowB]
      · intro i j h1 h2;simp only[rowB,List.length_map] at h1;have hj:j=0:=by simp[rowB] at h2;exact h2
        subst hj;refine ⟨enc ys[i],?_,hE.one _,?_⟩
        · have:(putCells enc 0 ys.toArray cs)[i]? = some (enc ys.toArray[i]!):=qjg (by simpa using h1) (by omega)
          simp only[rowB,Nat.mul_one,Nat.add_zero];rw[this];simp[h1]
        · simp only[rowB,List.getElem_map,List.getElem_cons_zero];exact .d _ _ (hE.rep _ _ _)
      · intro hf o ho;rcases ho with ho|⟨h,_⟩
        · exact hnC o ho
        · simp[rowB] at hf;rw[hf] at h;cases h
      · intro hf o ho;simp only[rowB] at hf ho;exact .inr ⟨hf,rfl,by simpa using ho⟩
     | b+1,hb=>simp[hOf] at hb
   · match b,b' with
     | 0,0=>exact absurd rfl hne
     | b+1,_=>simp[hOf] at h1
     | 0,b'+1=>simp[hOf] at h2
   · rcases h with h|⟨_,rfl,ho⟩
     · rw[hcell r' o h];exact hR.com r' o h
     · refine ⟨enc ys.toArray[o]!,?_⟩;rw[qsb,hrow'];exact qjg (by simpa using ho) (by omega)
 · refine ⟨fun r' o h=>.inl h,hcell,fun b blk hb=>?_,rfl,rfl,rfl,?_,fun r' h1 h2=>?_,fun r' h=>?_,fun r' o h=>?_⟩
   · match b,hb with
     | 0,hb=>
      obtain rfl:rowB false ty dE xs=blk:=by simpa [hOf] using hb
      exact ⟨rowB fz ty dE ys,rfl,rfl,by simp[rowB,hl],fun _=>rfl⟩
     | b+1,hb=>simp[hOf] at hb
   · simp
   · exact hother r' h1 (fun e=>h2 ((hown r').2 e))
   · exact .inl ((hown r').2 ((hown' r').1 h))
   · rcases h with h|⟨_,rfl,_⟩
     · exact .inl h
     · exact .inr (.inl ((hown r').2 rfl))
theorem qejb (hR:RelH w C ρ (hOf [rowB false ty dE xs])) {v:Value} (hv:RepA w C ρ (hOf [rowB false ty dE xs]) (.own 0 xs.length 0 xs.length) v) :
 (xs=[]∧v = .slice none 0 0)∨∃ r s cap,ρ 0=some (r,s)∧v = .slice (some ⟨r,0,none⟩) xs.length cap∧xs.length≤cap:=by
 cases hv with
 | own _ _ _ _ _ blk hb hn h1 h=>
  obtain rfl:rowB false ty dE xs=blk:=by simpa [hOf] using hb
  rcases h (by simp[rowB]) with ⟨r,s,cap,h2,rfl,h3,_⟩|⟨_,_,h4,rfl⟩
  · exact .inr ⟨r,s,cap,h2,by simp[rowB],h3⟩
  · exact .inl ⟨List.length_eq_zero_iff.1 h4,rfl⟩
theorem qyr (hE:EncOK enc dE) (hR:RelH w C ρ (hOf [rowB false ty dE xs])) {r s:Nat} (hr:ρ 0=some (r,s)):Holds enc w r 0 xs.toArray∧r<w.heap.size:=by
 have hbk:=hR.blk 0 _ (rfl:hOf [rowB false ty dE xs] 0=some (rowB false ty dE xs));unfold BlkOK at hbk;rw[hr] at hbk;obtain ⟨⟨cs,lo,hi,m1,m2,m3,m4,m5,m6,m7⟩,n1,n2⟩:=hbk;refine ⟨fun j hj=>?_,(Array.getElem?_eq_some_iff.1 m1).1⟩
 have hj':j<xs.length:=by simpa using hj
 obtain ⟨v,v1,v2,v3⟩:=m7 j 0 (by simpa [rowB] using hj') (by simp[rowB])
 simp only[rowB,List.getElem_map,List.getElem_cons_zero,Nat.mul_one,Nat.add_zero] at v1 v3
 have hv:v=enc xs[j]:=by
  cases v3 with
  | d _ _ h=>exact hE.inj _ _ _ _ h
 subst hv
 have hlt:j<s:=by
  have:xs.length≤s:=by simpa [rowB] using m5
  omega
 constructor
 · rw[qsb,Nat.zero_add,m1];simp only[v1];simp[hj']
 · rw[Nat.zero_add,qks w r j m1]
   simpa using m4 rfl j hlt
theorem qbv (hE:EncOK enc dE) {f:FuncId} (hb:Body P f) {g:List α→List α} (hg:∀ l,(g l).length=l.length)
 (h:∀ (blk cap:Nat) (l:List α) (w:World),Holds enc w blk 0 l.toArray→blk<w.heap.size→l.length<4611686018427387904→Calls P f #[.slice (some ⟨blk,0,none⟩) l.length cap] w fun e w'=>e = .returned (.tuple #[])∧∃ n os,w' = grow (putRow enc (Sort.ahead w n) blk 0 (g l).toArray) os)
 (h0:∀ p cap w,Calls P f #[.slice p 0 cap] w fun e w'=>e = .returned (.tuple #[])∧w' = w) (xs:List α) (hl:xs.length<4611686018427387904) :
 CC P G f [rowB false ty dE xs] [.own 0 xs.length 0 xs.length] [rowB false ty dE (g xs)] (.tup []):=by
 refine ⟨hb,fun w C ρ vs hR hG hv=>?_⟩
 obtain ⟨hlen,hv⟩:=hv
 obtain ⟨v,rfl⟩:∃ v,vs=[v]:=by
  match vs,hlen with
  | [v],_=>exact ⟨v,rfl⟩
 have hp:=hv 0 (by simp) (by simp)
 simp only[List.getElem_cons_zero] at hp;have htup:∀ w' C' ρ' H',RepA w' C' ρ' H' (.tup []) (.tuple #[]):=fun w' C' ρ' H'=>.tup [] [] rfl fun i h=>by simp at h
 rcases qejb hR hp with ⟨rfl,rfl⟩|⟨r,s,cap,hr,rfl,hc⟩
 · have hg0:g []=[]:=List.length_eq_zero_iff.1 (by rw[hg];rfl)
   rw[hg0];refine (h0 none 0 w).mono ?_;rintro e w' ⟨rfl,rfl⟩;exact ⟨_,C,ρ,rfl,hR,.refl _ _ _ _,htup _ _ _ _⟩
 · obtain ⟨hH,hs⟩:=qyr hE hR hr;refine (h r cap xs w hH hs hl).mono ?_;rintro e w' ⟨rfl,n,os,rfl⟩;obtain ⟨k1,k2⟩:=qol hE false (hg xs) hR hr n os
   have hC:(fun r' o=>C r' o∨(false=true∧r' = r∧o<(g xs).length))=C:=by
    funext r' o;simp
   rw[hC] at k1 k2;exact ⟨_,C,ρ,rfl,k1,k2,htup _ _ _ _⟩
theorem qux (hE:EncOK enc dE) {f:FuncId} (hb:Body P f) {g:List α→List α} {k:List α→Nat} (hg:∀ l,(g l).length=l.length) (hk:∀ l,k l≤l.length)
 (h:∀ (blk cap:Nat) (l:List α) (w:World),Holds enc w blk 0 l.toArray→l.length≤9223372036854775807→l.length≤cap→Calls P f #[.slice (some ⟨blk,0,none⟩) l.length cap] w fun e w'=>e = .returned (.slice (some ⟨blk,0,none⟩) (k l) cap)∧∃ n,w' = putRow enc (Sort.ahead w n) blk 0 (g l).toArray)
 (h0:∀ p cap w,Calls P f #[.slice p 0 cap] w fun e w'=>e = .returned (.slice p 0 cap)∧w' = w) (xs:List α) (hl:xs.length<4611686018427387904) :
 CC P G f [rowB false ty dE xs] [.own 0 xs.length 0 xs.length] [rowB true ty dE (g xs)] (.d (.sl (((g xs).take (k xs)).map fun x=>[dE x]))):=by
 refine ⟨hb,fun w C ρ vs hR hG hv=>?_⟩
 obtain ⟨hlen,hv⟩:=hv
 obtain ⟨v,rfl⟩:∃ v,vs=[v]:=by
  match vs,hlen with
  | [v],_=>exact ⟨v,rfl⟩
 have hp:=hv 0 (by simp) (by simp)
 simp only[List.getElem_cons_zero] at hp;rcases qejb hR hp with ⟨rfl,rfl⟩|⟨r,s,cap,hr,rfl,hc⟩
 · have hg0:g []=[]:=List.length_eq_zero_iff.1 (by rw[hg];rfl)
   rw[hg0];refine (h0 none 0 w).mono ?_;rintro e w' ⟨rfl,rfl⟩;have hb0:=hR.blk 0 _ (rfl:hOf [rowB false ty dE ([]:List α)] 0=some (rowB false ty dE []))
   have hrep:RepA w' C ρ (hOf [rowB true ty dE ([]:List α)]) (.d (.sl ((([]:List α).take (k [])).map fun x=>[dE x]))) (.slice none 0 0):=by
    simp only[List.take_nil,List.map_nil];exact .d _ _ .nil
   cases hr:ρ 0 with
   | none=>
    refine ⟨_,C,ρ,rfl,⟨fun b blk hb=>?_,fun b b' r1 s1 s2 hne h1 h2=>?_,hR.com⟩,⟨fun _ _ h=>h,fun _ _ _=>rfl,fun b blk hb=>?_,rfl,rfl,rfl,Nat.le_refl _,fun _ _ _=>rfl,fun r' h=>?_,fun _ _ h=>.inl h⟩,hrep⟩
    · match b,hb with
      | 0,hb=>
       obtain rfl:rowB true ty dE ([]:List α)=blk:=by simpa [hOf] using hb
       unfold BlkOK;rw[hr];exact ⟨rfl,rfl⟩
      | b+1,hb=>simp[hOf] at hb
    · match b,b' with
      | 0,0=>exact absurd rfl hne
      | b+1,_=>simp[hOf] at h1
      | 0,b'+1=>simp[hOf] at h2
    · match b,hb with
      | 0,hb=>
       obtain rfl:rowB false ty dE ([]:List α)=blk:=by simpa [hOf] using hb
       exact ⟨rowB true ty dE [],rfl,rfl,Nat.le_refl _,fun _=>rfl⟩
      | b+1,hb=>simp[hOf] at hb
    · obtain ⟨b,s',hb,hrb⟩:=h
      match b,hb with
      | 0,_=>rw[hr] at hrb;cases hrb
      | b+1,hb=>simp[hOf] at hb
   | some p=>
    obtain ⟨r,s⟩:=p;have hH:Holds enc w' r 0 ([]:List α).toArray:=fun j hj=>by simp at hj
    obtain ⟨k1,k2⟩:=qol hE true (xs:=([]:List α)) (ys:=[]) rfl hR hr 0 #[]
    have hw:grow (putRow enc (Sort.ahead w' 0) r 0 ([]:List α).toArray) #[]=w':=by
     rw[grow_empty,Sort.ahead_zero,putRow_self enc w' r 0 _ hH]
    rw[hw] at k1 k2;refine ⟨_,_,ρ,rfl,k1,k2,?_⟩;simp only[List.take_nil,List.map_nil];exact .d _ _ .nil
 · obtain ⟨hH,hs⟩:=qyr hE hR hr;refine (h r cap xs w hH (by omega) hc).mono ?_
   rintro e w' ⟨rfl,n,rfl⟩;obtain ⟨k1,k2⟩:=qol hE true (hg xs) hR hr n #[];rw[grow_empty] at k1 k2;have hb0:=hR.blk 0 _ (rfl:hOf [rowB false ty dE xs] 0=some (rowB false ty dE xs));unfold BlkOK at hb0;rw[hr] at hb0;obtain ⟨⟨cs,lo,hi,m1,m2,m3,m4,m5,m6,m7⟩,n1,n2⟩:=hb0;have hx:xs.length≤cs.size:=by simpa [rowB,m2] using m5
   refine ⟨_,_,ρ,rfl,k1,k2,.d _ _ ?_⟩;have hkl:=hk xs;have hgl:=hg xs;have hlen':(((g xs).take (k xs)).map fun x=>[dE x]).length=k xs:=by simp;omega
   have key:=RepD.sl (w:=putRow enc (Sort.ahead w n) r 0 (g xs).toArray) (C:=fun r' o=>C r' o∨(true=true∧r' = r∧o<(g xs).length)) (((g xs).take (k xs)).map fun x=>[dE x]) r 0 cap 1 (fun i _=>enc (g xs).toArray[i]!) (by rw[hlen'];omega)
    (fun i h=>by simp) (fun i j h1 h2=>.inr ⟨rfl,rfl,by rw[hlen'] at h1;omega⟩)
    (fun i j h1 h2=>by
     rw[hlen'] at h1;refine ⟨?_,hE.one _⟩;have hj:j=0:=by omega
     subst hj;have hrow':=qkm (enc:=enc) (n:=n) (os:=#[]) (g xs).toArray m1;rw[grow_empty] at hrow';rw[qsb,hrow'];simp only[Nat.mul_one,Nat.add_zero,Nat.zero_add];exact qjg (by simp;omega) (by omega))
    (fun i j h1 h2=>by
     rw[hlen'] at h1;have hj:j=0:=by simp at h2;exact h2
     subst hj;simp only[List.getElem_map,List.getElem_cons_zero,List.getElem_take];have:(g xs).toArray[i]! = (g xs)[i]'(by omega):=by simp[show i<(g xs).length by omega]
     rw[this];exact hE.rep _ _ _)
   rw[hlen'] at key;exact key
end
end Am

namespace Am
open Go Go.RowKit
variable {w w':World} {C:Com} {ρ:Rho} {H:Heap}
theorem ext_below (hR:RelH w C ρ H) (hb:Below w.heap.size w w'):Ext w C ρ H w' C ρ H where
 com _ _ h:=h
 cell r o hc:=qpb (hb.block r (hR.com_lt hc))
 blk _ blk h:=⟨blk,h,rfl,Nat.le_refl _,fun _=>rfl⟩
 os:=hb.os
 tape:=hb.tape
 output:=hb.output
 size:=hb.size
 same r hr _:=hb.block r hr
 rows _ h:=.inl h
 grow _ _ h:=.inl h
theorem qeo (hR:RelH w C ρ H) (hb:Below w.heap.size w w'):RelH w' C ρ H where
 blk b blk hx:=(hR.blk b blk hx).ext (ext_below hR hb) rfl (fun r s hr=>hb.block r (hR.row_lt ⟨b,s,by simp[hx],hr⟩)) (fun _ _ _ _ _ hc=>hc)
 dis:=hR.dis
 com r o hc:=by
  obtain ⟨v,hv⟩:=hR.com r o hc;exact ⟨v,by rw[(ext_below hR hb).cell r o hc];exact hv⟩
theorem ext_add (hR:RelH w C ρ H) (hb:Below w.heap.size w w') {b g:Nat} {blk:Blk} {cs:Array Value} (hid:H b=none) (hg:w.heap.size≤g) :
 Ext w C ρ H w' C (rhoSet ρ b (g,cs.size)) (updH H b blk) where
 com _ _ h:=h
 cell r o hc:=qpb (hb.block r (hR.com_lt hc))
 blk x blk0 hx:=by
  have hxb:x≠b:=fun e=>by subst e;rw[hid] at hx;cases hx
  exact ⟨blk0,by rw[qj _ _ hxb];exact hx,rfl,Nat.le_refl _,fun _=>qp _ _ hxb⟩
 os:=hb.os
 tape:=hb.tape
 output:=hb.output
 size:=hb.size
 same r hr _:=hb.block r hr
 rows r ho:=by
  obtain ⟨x,s,hx,hr⟩:=ho
  by_cases hxb:x=b
  · subst hxb;rw[qm] at hr;simp at hr;exact .inr (by omega)
  · rw[qj _ _ hxb] at hx;rw[qp _ _ hxb] at hr;exact .inl ⟨x,s,hx,hr⟩
 grow _ _ h:=.inl h
theorem qzy (hR:RelH w C ρ H) (hb:Below w.heap.size w w') {b g:Nat} {blk:Blk} {cs:Array Value} (hid:H b=none) (hg:w.heap.size≤g) (hcs:w'.heap[g]? = some (.cells cs blk.ty (0,0)))
 (hf:Fits w' C ρ H blk cs) (hfz:blk.fz=false):RelH w' C (rhoSet ρ b (g,cs.size)) (updH H b blk):=by
 have hR':=qeo hR hb;have e:=ext_add (cs:=cs) (blk:=blk) hR hb hid hg;have hlt:∀ x r s,(H x).isSome=true→ρ x=some (r,s)→r<w.heap.size:=fun x r s hx hr=>hR.row_lt ⟨x,s,hx,hr⟩
 have hup:∀ {x:AV} {v:Value},RepA w' C ρ H x v→RepA w' C (rhoSet ρ b (g,cs.size)) (updH H b blk) x v:=fun {x v} h=>by
  induction h with
  | d x v h=>exact .d x v h
  | nils=>exact .nils
  | agg cs vs hl h1 _ ih=>exact .agg cs vs hl h1 ih
  | tup cs vs hl _ ih=>exact .tup cs vs hl ih
  | ptr b1 n i j v blk1 hb1 hn h1 h=>
   have hne:b1≠b:=fun e=>by subst e;rw[hid] at hb1;cases hb1
   refine .ptr b1 n i j v blk1 (by rw[qj _ _ hne];exact hb1) hn h1 fun hh=>?_
   rw[qp _ _ hne];exact h hh
  | own b1 n off len v blk1 hb1 hn h1 h=>
   have hne:b1≠b:=fun e=>by subst e;rw[hid] at hb1;cases hb1
   refine .own b1 n off len v blk1 (by rw[qj _ _ hne];exact hb1) hn h1 fun hh=>?_
   rw[qp _ _ hne];exact h hh
  | eptr cs r o vs hC hcell hrec=>exact .eptr cs r o vs hC hcell hrec
  | clo f first caps fv cv hf hc _ _ ih1 ih2=>exact .clo f first caps fv cv hf hc ih1 ih2
  | junk v=>exact .junk v
 constructor
 · intro x blk0 hx
   by_cases hxb:x=b
   · subst hxb;rw[qt] at hx;obtain rfl:blk=blk0:=by simpa using hx
     unfold BlkOK;rw[qm];obtain ⟨f1,f2,f3⟩:=hf;refine ⟨⟨cs,0,0,hcs,rfl,fun _ _=>⟨rfl,rfl⟩,fun _ o _=>by omega,f1,f2,fun i j hi hj=>?_⟩,fun _ o hc=>?_,fun h=>by simp[hfz] at h⟩
     · obtain ⟨v,g1,g2,g3⟩:=f3 i j hi hj;exact ⟨v,g1,g2,hup g3⟩
     · have:=hR.com_lt hc;omega
   · rw[qj _ _ hxb] at hx;exact (hR.blk x blk0 hx).ext e (qp _ _ hxb) (fun r s hr=>hb.block r (hlt x r s (by simp[hx]) hr)) (fun _ _ _ _ _ hc=>hc)
 · intro x y r s s' hne hx hy hrx hry
   by_cases hxb:x=b
   · subst hxb;have hyb:y≠x:=fun e=>hne e.symm
     rw[qm] at hrx;rw[qj _ _ hyb] at hy;rw[qp _ _ hyb] at hry;have:=hlt y r s' hy hry;simp at hrx;omega
   · by_cases hyb:y=b
     · subst hyb;rw[qm] at hry;rw[qj _ _ hxb] at hx;rw[qp _ _ hxb] at hrx;have:=hlt x r s hx hrx;simp at hry;omega
     · rw[qj _ _ hxb] at hx;rw[qj _ _ hyb] at hy;rw[qp _ _ hxb] at hrx;rw[qp _ _ hyb] at hry;exact hR.dis x y r s s' hne hx hy hrx hry
 · exact hR'.com
theorem qbr (hR:RelH w C ρ H) (hb:Below w.heap.size w w') {b:Nat} {blk:Blk} (hid:H b=none) (h0:blk.rows=[]) (hap:blk.ap=true) :
 RelH w' C (fun x=>if x=b then none else ρ x) (updH H b blk)∧Ext w C ρ H w' C (fun x=>if x=b then none else ρ x) (updH H b blk):=by
 have hR':=qeo hR hb
 have e:Ext w C ρ H w' C (fun x=>if x=b then none else ρ x) (updH H b blk):=by
  refine ⟨fun _ _ h=>h,fun r o hc=>qpb (hb.block r (hR.com_lt hc)),fun x blk0 hx=>?_,hb.os,hb.tape,hb.output,hb.size,fun r hr _=>hb.block r hr,fun r ho=>?_,fun _ _ h=>.inl h⟩
  · have hxb:x≠b:=fun e=>by subst e;rw[hid] at hx;cases hx
    exact ⟨blk0,by rw[qj _ _ hxb];exact hx,rfl,Nat.le_refl _,fun _=>if_neg hxb⟩
  · obtain ⟨x,s,hx,hr⟩:=ho
    by_cases hxb:x=b
    · simp[hxb] at hr
    · rw[qj _ _ hxb] at hx;simp only[hxb,if_false] at hr;exact .inl ⟨x,s,hx,hr⟩
 refine ⟨⟨fun x blk0 hx=>?_,fun x y r s s' hne hx hy hrx hry=>?_,hR'.com⟩,e⟩
 · by_cases hxb:x=b
   · subst hxb;rw[qt] at hx;obtain rfl:blk=blk0:=by simpa using hx
     unfold BlkOK;simp only[if_true];exact ⟨h0,hap⟩
   · rw[qj _ _ hxb] at hx;exact (hR.blk x blk0 hx).ext e (if_neg hxb) (fun r s hr=>hb.block r (hR.row_lt ⟨x,s,by simp[hx],hr⟩)) (fun _ _ _ _ _ hc=>hc)
 · by_cases hxb:x=b
   · simp[hxb] at hrx
   · by_cases hyb:y=b
     · simp[hyb] at hry
     · rw[qj _ _ hxb] at hx;rw[qj _ _ hyb] at hy;simp only[hxb,if_false] at hrx;simp only[hyb,if_false] at hry;exact hR.dis x y r s s' hne hx hy hrx hry
end Am

namespace Am
open Go Go.RowKit
variable {P:Program} {G:Glob}
abbrev Wd:=(Nat→Prop)→World→Prop
structure InvY (G:Glob) (C0:Com) (J:Wd) (s:Sta) (C:Com) (ρ:Rho) (X:Nat→Prop) (a:Act) (W:World):Prop where
 inv:Inv G ⟨W,C,ρ,fullL s.H s.nx,fun _=>none,true⟩ s C ρ a W
 full:∀ b,b<s.nx→(s.H b).isSome=true
 j:J X W
 own:∀ r,OwnRow ρ s.H r→X r
 com:∀ r o,C r o→C0 r o∨X r
def InvYE (G:Glob) (C0:Com) (J:Wd) (s:Sta) (a:Act) (W:World):Prop:=∃ C ρ X,InvY G C0 J s C ρ X a W
def FullS (s:Sta):Prop:=∀ b,b<s.nx→(s.H b).isSome=true
theorem Le.cut {tm:Nat→AV} {H:Heap} {l':List AV} {h':List (Option Blk)} {nx nx' n:Nat} (hn:nx'≤nx) (ht:LeF nx' tm 0 l') (hl':h'.length=nx') (hh:HeapO 0 h' H)
 (hin:h'.all (fun b=>match b with|some b=>b.rows.all (·.all (AV.inK nx'))|none=>true)=true):Sta.Le 0 ⟨tm,H,nx,n⟩ ⟨tl l',hl h',nx',n⟩:=by
 have hg:∀ b (hb:b<nx'),H b=h'[b]'(by omega):=fun b hb=>by
  have:=hh.get b (by omega)
  rwa [Nat.zero_add] at this
 refine ⟨rfl,hn,Nat.zero_le _,fun t=>?_,?_,fun b blk hb hbb row hrow=>?_⟩
 · have:=ht.get t;rw[Nat.zero_add] at this;exact this
 · funext b
   show getO h' b=cutH nx' H b
   unfold cutH;rw[qcp]
   split
   · rename_i hb;rw[hg b hb,List.getElem?_eq_getElem (by omega)];rfl
   · rw[List.getElem?_eq_none (by omega)];rfl
 · have hbb':H b=some blk:=hbb;rw[hg b hb] at hbb';simp only[List.all_eq_true] at hin;have hb0:b<nx':=hb;have:=hin _ (List.getElem_mem (show b<h'.length by omega))
   rw[hbb'] at this;simp only[List.all_eq_true] at this ⊢;exact this row hrow
theorem FullS.hl {t:Nat→AV} {h:List (Option Blk)} {nx n:Nat} (h1:h.length=nx) (h2:h.all (·.isSome)=true):FullS ⟨t,hl h,nx,n⟩:=by
 intro b hb
 show (getO h b).isSome=true
 have hb':b<h.length:=by rw[h1];exact hb
 rw[qcp,List.getElem?_eq_getElem hb',Option.getD_some];exact List.all_eq_true.1 h2 _ (List.getElem_mem hb')
theorem Ent.box {k:Nat} {s:Sta} {t b:Nat} {blk:Blk} {row:List D} (ht:s.tm t = .ptr b 1 0 0) (hb:s.H b=some blk) (hr:blk.rows=[row.map .d]):Ent k s { s with tm:=putT s.tm t (.eptr row),H:=pinH [b] s.H }:=by
 refine (Ent.pin [b]).trans (Ent.wh ⟨rfl,rfl,fun x=>?_,fun x=>?_⟩)
 · show Wh (pinH [b] s.H) (s.tm x) (putT s.tm t (.eptr row) x)
   unfold putT
   split
   · rename_i h;subst h;rw[ht];exact Wh.ep (blk:=pinB blk) (by simp[pinH,hb]) rfl hr
   · exact .refl _
 · show (pinH [b] s.H x=none∧pinH [b] s.H x=none)∨∃ y y0,pinH [b] s.H x=some y∧pinH [b] s.H x=some y0∧WhB _ y y0
   cases h:pinH [b] s.H x with
   | none=>exact .inl ⟨rfl,rfl⟩
   | some y=>exact .inr ⟨y,y,rfl,rfl,WhB.refl _⟩
theorem Ent.frz {k:Nat} {s:Sta} {t b:Nat} {blk:Blk} {n:Nat} {xs:List (List D)} (ht:s.tm t = .own b n 0 n) (hb:s.H b=some blk) (hr:blk.rows=xs.map (·.map .d)) (hn:n=xs.length):Ent k s { s with tm:=putT s.tm t (.d (.sl xs)),H:=pinH [b] s.H }:=by
 subst hn;refine (Ent.pin [b]).trans (Ent.wh ⟨rfl,rfl,fun x=>?_,fun x=>?_⟩)
 · show Wh (pinH [b] s.H) (s.tm x) (putT s.tm t (.d (.sl xs)) x)
   unfold putT
   split
   · rename_i h;subst h;rw[ht];exact Wh.frz (blk:=pinB blk) (by simp[pinH,hb]) rfl hr
   · exact .refl _
 · show (pinH [b] s.H x=none∧pinH [b] s.H x=none)∨∃ y y0,pinH [b] s.H x=some y∧pinH [b] s.H x=some y0∧WhB _ y y0
   cases h:pinH [b] s.H x with
   | none=>exact .inl ⟨rfl,rfl⟩
   | some y=>exact .inr ⟨y,y,rfl,rfl,WhB.refl _⟩
theorem Ent.nil {k:Nat} {s:Sta} {t:Nat} (ht:s.tm t = .nils):Ent k s { s with tm:=putT s.tm t (.d (.sl [])) }:=by
 refine Ent.wh ⟨rfl,rfl,fun x=>?_,fun x=>?_⟩
 · show Wh s.H (s.tm x) (putT s.tm t (.d (.sl [])) x)
   unfold putT
   split
   · rename_i h;subst h;rw[ht];intro w C ρ v _ h;cases h;exact .d _ _ .nil
   · exact .refl _
 · show (s.H x=none∧s.H x=none)∨∃ y y0,s.H x=some y∧s.H x=some y0∧WhB _ y y0
   cases h:s.H x with
   | none=>exact .inl ⟨rfl,rfl⟩
   | some y=>exact .inr ⟨y,y,rfl,rfl,WhB.refl _⟩
abbrev yEnd (k:Nat) (K:Exit→Sta→Prop) (e:Exit) (s':Sta):Prop:=∃ s1,Ent k s' s1∧∃ s'',Sta.Le 0 s1 s''∧FullS s''∧K e s''
section
variable {C0:Com} {J:Wd} {s s' s'':Sta} {C C':Com} {ρ ρ':Rho} {X:Nat→Prop} {a a':Act} {W W':World}
theorem InvY.after (h:InvY G C0 J s C ρ X a W) (hg:∀ X W W',J X W→SameBut X W W'→J (newX X W W') W')
 (hi:Inv G ⟨W,C,ρ,fullL s.H s.nx,fun _=>none,true⟩ s' C' ρ' a' W') (hle:Sta.Le 0 s' s'') (hf:FullS s''):InvYE G C0 J s'' a' W':=by
 have e:Ext W C ρ s.H W' C' ρ' s'.H:=by
  have:=hi.ext;simp only at this
  rwa [qsh h.full h.inv.nx] at this
 have sb:SameBut X W W':=⟨fun r hr hx=>e.same r hr fun ho=>hx (h.own r ho),e.size,e.os,e.tape,e.output⟩
 have hnx:∀ b,s''.nx≤b→s''.H b=none:=fun b hb=>by rw[hle.H];unfold cutH;rw[if_neg (by omega)]
 refine ⟨C',ρ',newX X W W',⟨⟨⟨fun t=>?_,by rw[hle.n];exact hi.rel.size,by rw[hle.H];exact qgp hi.rel.h hle.inK,trivial,trivial⟩,hnx,?_,hi.glob,?_,fun _=>hi.nom rfl⟩,hf,hg _ _ _ h.j sb,fun r ho=>?_,fun r o hc=>?_⟩⟩
 · rcases hle.tm t with e|⟨e,hin⟩
   · rw[e];exact .junk _
   · rw[e,hle.H];exact qbp (hi.rel.tm t) hin
 · simp only;rw[qsh hf hnx];exact .refl _ _ _ _
 · rw[hi.nom rfl];exact Marks.nil _ _
 · have ho' : OwnRow ρ' s'.H r := by
    obtain ⟨b,z,hb,hr⟩:=ho;refine ⟨b,z,?_,hr⟩;rw[hle.H] at hb;unfold cutH at hb
    split at hb
    · exact hb
    · simp at hb
   rcases e.rows r ho' with h1|h1
   · exact .inl (h.own r h1)
   · exact .inr ⟨h1,hi.rel.h.row_lt ho'⟩
 · rcases e.grow r o hc with h1|h1|h1
   · rcases h.com r o h1 with h2|h2
     · exact .inl h2
     · exact .inr (.inl h2)
   · exact .inr (.inl (h.own r h1))
   · exact .inr (.inr ⟨h1,hi.rel.h.com_lt hc⟩)
theorem qbf {c:Code} {n:Nat} {K:Exit→Sta→Prop} {Q:Exit→Act→World→Prop} (hc:noRange c=true) (hg:∀ X W W',J X W→SameBut X W W'→J (newX X W W') W') (hi:InvYE G C0 J s a W)
 (h:awp P G s.nx c (yEnd s.nx K) s) (hK:∀ e s'' a' W',K e s''→InvYE G C0 J s'' a' W'→Q e a' W'):c.wpIn (Fe none) n P Q a W:=by
 obtain ⟨C,ρ,X,hi⟩:=hi;have hw:=qei (P:=P) (rd:=none) (n:=n) (B:=⟨W,C,ρ,fullL s.H s.nx,fun _=>none,true⟩) c (.inl hc) _ _ _ _ ⟨C,ρ,hi.inv⟩ (by simpa [fullL] using h)
 refine wpIn_mono hw ?_;rintro e a' W' ⟨s',⟨s1,h0,s'',h1,h2,h3⟩,hi'⟩;obtain ⟨C',ρ',hi'⟩:=h0 G ⟨W,C,ρ,fullL s.H s.nx,fun _=>none,true⟩ a' W' (by simp[fullL]) hi'
 exact hK _ _ _ _ h3 (hi.after hg hi' h1 h2)
theorem qlpb {rd:Option Nat} {n:Nat} {B:Beg} {ops:Array Oper} {K:Sta→Prop} {Q:Exit→Act→World→Prop} {post:List Oper} (hQ:∀ s a w,K s→InvE G B s a w→wpListIn (Fe rd) n P ops Q post a w) :
 ∀ (l:List Oper) (s:Sta) (a:Act) (w:World),InvE G B s a w→regA P G ops K l s→wpListIn (Fe rd) n P ops Q (l++post) a w:=by
 intro l
 induction l with
 | nil=>intro s a w hi h;exact hQ s a w h hi
 | cons o rest ih=>
  intro s a w hi h;obtain ⟨C,ρ,hi⟩:=hi;rw[List.cons_append];unfold wpListIn;exact qqn hi h fun s' a' w' hk hi'=>ih s' a' w' hi' hk
theorem yOps {ops:Array Oper} {n:Nat} {pre post:List Oper} {K:Sta→Prop} {Q:Exit→Act→World→Prop} (hg:∀ X W W',J X W→SameBut X W W'→J (newX X W W') W') (hi:InvYE G C0 J s a W)
 (h:regS P G (fun s'=>∃ s1,Ent s.nx s' s1∧∃ s'',Sta.Le 0 s1 s''∧FullS s''∧K s'') (pre.map (slim1 ops)) s) (hK:∀ s'' a' W',K s''→InvYE G C0 J s'' a' W'→wpListIn (Fe none) n P ops Q post a' W') :
 wpListIn (Fe none) n P ops Q (pre++post) a W:=by
 obtain ⟨C,ρ,X,hi⟩:=hi;refine qlpb (B:=⟨W,C,ρ,fullL s.H s.nx,fun _=>none,true⟩) (fun s' a' W' hk hi'=>?_) pre s a W ⟨C,ρ,hi.inv⟩ (qmr ops _ _ _ h)
 obtain ⟨s1,h0,s'',h1,h2,h3⟩:=hk;obtain ⟨C',ρ',hi'⟩:=h0 G ⟨W,C,ρ,fullL s.H s.nx,fun _=>none,true⟩ a' W' (by simp[fullL]) hi'
 exact hK _ _ _ h3 (hi.after hg hi' h1 h2)
theorem qtsb {ops:Array Oper} {id n:Nat} {K:Sta→Prop} {Q:Exit→Act→World→Prop} {sl:List SO} {post:List Oper} (m:Nat) (hsl:(ops.toList.take m).map (slim1 ops)=sl) (hpost:ops.toList.drop m=post)
 (hg:∀ X W W',J X W→SameBut X W W'→J (newX X W W') W') (hi:InvYE G C0 J s a W) (h:regS P G (fun s'=>∃ s1,Ent s.nx s' s1∧∃ s'',Sta.Le 0 s1 s''∧FullS s''∧K s'') sl s)
 (hK:∀ s'' a' W',K s''→InvYE G C0 J s'' a' W'→wpListIn (Fe none) n P ops Q post a' W'):(Code.region id ops false).wpIn (Fe none) n P Q a W:=by
 subst hsl hpost;have:=yOps (P:=P) (ops:=ops) (n:=n) (Q:=Q) hg hi h hK;rw[List.take_append_drop] at this;exact wpIn_region_list this
theorem qhyb {ops:Array Oper} {n:Nat} {K:Sta→Prop} {Q:Exit→Act→World→Prop} {sl:List SO} {rest:List Oper} (hsl:rest.map (slim1 ops)=sl)
 (hg:∀ X W W',J X W→SameBut X W W'→J (newX X W W') W') (hi:InvYE G C0 J s a W) (h:regS P G (fun s'=>∃ s1,Ent s.nx s' s1∧∃ s'',Sta.Le 0 s1 s''∧FullS s''∧K s'') sl s)
 (hK:∀ s'' a' W',K s''→InvYE G C0 J s'' a' W'→Q .normal a' W'):wpListIn (Fe none) n P ops Q rest a W:=by
 subst hsl;have:=yOps (P:=P) (ops:=ops) (n:=n) (post:=[]) (Q:=Q) hg hi h hK
 rwa [List.append_nil] at this
theorem qfeb {c:Operand} {x y:Code} {n:Nat} {Q:Exit→Act→World→Prop} {b:Bool} (hi:InvYE G C0 J s a W) (hc:evA G s.tm c = .d (.bool b)) (h1:b=true→x.wpIn (Fe none) n P Q a W) (h0:b=false→y.wpIn (Fe none) n P Q a W) :
 (Code.cond c x y).wpIn (Fe none) n P Q a W:=by
 obtain ⟨C,ρ,X,hi⟩:=hi;have hv:=hi.inv.rel.ev hi.inv.glob c;rw[hc] at hv;cases b with
 | true=>exact wpIn_cond_true (qcf hv) (h1 rfl)
 | false=>exact wpIn_cond_false (qcf hv) (h0 rfl)
theorem qsyb {w0:World} {J1 Jx:Wd} {ops:Array Oper} {m l:Nat} {o:Oper} {rest:List Oper} {c:Operand} {args:Array Operand} {ats:Array TypeId} {Q:Exit→Act→World→Prop} {vs:List Value}
 (ab:Abide w0 C0 J) (ab1:Abide w0 C0 J1) (abx:Abide w0 C0 Jx) (ho:o.op = .call { callee:=.value c,args,argTypes:=ats }) (hw:wantedS s.tm (slim1 ops o).g=some true) (hd:dstOK s.n o.dst)
 (hc:evA G s.tm c = .d (.raw (.func (.yield l) #[] #[]))) (ha:∀ (W:World) (C:Com) (ρ:Rho) (xs:List Value),RepAll W C ρ s.H (args.toList.map (evA G s.tm)) xs→xs=vs)
 (hy:∀ X W,J X W→YieldAt (Fe none) m P l ⟨vs⟩ W fun e W'=>((e = .returned (.bool true)∧J1 X W')∨(e = .returned (.bool false)∧Jx X W'))∧∀ r,X r→W'.heap[r]? = W.heap[r]?)
 (hi:InvYE G C0 J s a W)
 (h1:∀ a' W',InvYE G C0 J1 { s with tm:=putO s.tm o.dst (.d (.bool true)) } a' W'→wpListIn (Fe none) (m+1) P ops Q rest a' W')
 (h2:∀ a' W',InvYE G C0 Jx { s with tm:=putO s.tm o.dst (.d (.bool false)) } a' W'→wpListIn (Fe none) (m+1) P ops Q rest a' W') :
 wpListIn (Fe none) (m+1) P ops Q (o::rest) a W:=by
 obtain ⟨C,ρ,X,hi⟩:=hi;have hrel:=hi.inv.rel;unfold wpListIn;rw[if_pos (qld hrel (by rw[qff];exact hw))]
 have hv:a.eval c = .func (.yield l) #[] #[]:=by
  have:=hrel.ev hi.inv.glob c;rw[hc] at this;have:=qyc this;generalize a.eval c=v at this;cases this;rfl
 have hargs:args.toList.map a.eval=vs:=ha W C ρ _ ⟨by simp,fun i h h'=>by simp only[List.getElem_map];exact hrel.ev hi.inv.glob _⟩
 obtain ⟨fn,tmps,assign,body,hyr,hR⟩:=hy X W hi.j
 have hrun:(execOp a.eval o).run P W = .ok (.round l fn tmps assign body) W:=by
  have e1:(args.map a.eval)=⟨args.toList.map a.eval⟩:=qnf args a.eval;rw[← hargs] at hyr;simp only[execOp,ho,resolve,Deferred.ofValue,hv,Sem.run_bind,Sem.run_pure,Result.andThen_ok,invoke,e1];simp[hyr]
 unfold Oper.wpIn;refine ⟨fun _ _=>trivial,?_⟩
 rw[Oper.semAt_eq _ _ _ (fun c hc=>by rw[ho] at hc;cases hc),hrun,Oper.uponIn_round]
 refine ⟨fun h=>by simp[Fe,Fence.wide] at h,hR.mono ?_⟩
 have fin:∀ (J':Wd),Abide w0 C0 J'→∀ (b:Bool) (W':World),J' X W'→(∀ r,X r→W'.heap[r]? = W.heap[r]?)→InvYE G C0 J' { s with tm:=putO s.tm o.dst (.d (.bool b)) } (a.put o.dst (.bool b)) W':=by
  intro J' ab' b W' hj hx
  have hcl:∀ r o,C r o→W'.cell? ⟨r,o,none⟩ = W.cell? ⟨r,o,none⟩:=fun r o hc=>by
   rcases hi.com r o hc with h|h
   · rw[ab'.cell X W' hj r o h,ab.cell X W hi.j r o h]
   · exact qpb (hx r h)
  have e0:Ext0 W C ρ s.H W' C ρ s.H:=⟨fun _ _ h=>h,hcl,fun b blk h=>⟨blk,h,rfl,Nat.le_refl _,fun _=>rfl⟩⟩
  have hR':RelH W' C ρ s.H:=by
   refine ⟨fun b blk hb=>(hrel.h.blk b blk hb).ext0 e0 rfl (fun r z hr=>hx r (hi.own r ⟨b,z,by rw[hb];rfl,hr⟩)) fun _ _ _ _ _ h=>h,hrel.h.dis,fun r o hc=>?_⟩
   obtain ⟨v,hv⟩:=hrel.h.com r o hc;exact ⟨v,by rw[hcl r o hc];exact hv⟩
  refine ⟨C,ρ,X,⟨⟨⟨fun t=>?_,?_,hR',trivial,trivial⟩,hi.inv.nx,?_,hi.inv.glob.mono e0.com e0.cell,?_,fun _=>(Act.put_defers a o.dst _).trans (hi.inv.nom rfl)⟩,hi.full,hj,hi.own,hi.com⟩⟩
  · cases hdd:o.dst with
    | none=>exact (hrel.tm t).mono0 e0
    | some d=>
     rw[hdd] at hd;have hd':d<a.tmps.size:=by rw[hrel.size];exact hd
     rw[qvz hd'];simp only[putO,putT]
     split
     · exact .d _ _ (.bool _)
     · exact (hrel.tm t).mono0 e0
  · have:=hrel.size;cases o.dst with
    | none=>exact this
    | some d=>simpa [Act.put] using this
  · simp only;rw[qsh hi.full hi.inv.nx];exact .refl _ _ _ _
  · rw[(Act.put_defers a o.dst _).trans (hi.inv.nom rfl)];exact Marks.nil _ _
 rintro e W' ⟨⟨rfl,hj⟩|⟨rfl,hj⟩,hx⟩
 · exact h1 _ _ (fin J1 ab1 true W' hj hx)
 · exact h2 _ _ (fin Jx abx false W' hj hx)
end
theorem qao {ι:Type} {n:Nat} {b:Code} {Q:Exit→Act→World→Prop} (I:ι→Act→World→Prop) (μ:ι→Nat)
 (h:∀ i a w,I i a w→b.wpIn (Fe none) n P (fun e a w=>match e with | .normal=>∃ j,μ j<μ i∧I j a w|e=>Q e a w) a w):∀ i a w,I i a w→(Code.loop b).wpIn (Fe none) n P Q a w:=by
 have key:∀ (j:Nat) (i:ι) (a:Act) (w:World),I i a w→μ i=j→∀ (bb:Frame) (kk:List Item) (cs:List Frame),
  bb.roundOf=(Fe none).round→(Fe none).fn bb.fn→(Fe none).room (cs.length+1+n)→∃ e a' w',Q e a' w'∧ArrivesIn (Machine.fenced P (Fe none)) P (lone (bb.atR a (.code b :: .inLoop b::kk)) cs w) bb kk cs e a' w':=by
  intro j
  induction j using Nat.strongRecOn with
  | _ j ihn=>
   intro i a w hI hn bb kk cs hro hb hr;obtain ⟨e,a1,w1,hq,harr⟩:=h i a w hI bb (.inLoop b::kk) cs hro hb hr;cases e with
   | normal=>
    obtain ⟨i2,hlt,hI2⟩:=hq;obtain ⟨e2,a2,w2,hq2,harr2⟩:=ihn (μ i2) (by omega) i2 a1 w1 hI2 rfl bb kk cs hro hb hr
    exact ⟨e2,a2,w2,hq2,.of_steps (StepsIn.trans harr (.one (fenced_calm hb hr rfl) stepR_inLoop)) harr2⟩
   | exit id=>exact ⟨_,a1,w1,hq,.pass (x:=.inLoop b) rfl (fun _ _=>.inl (by simp)) harr⟩
   | goto l=>exact ⟨_,a1,w1,hq,.pass (x:=.inLoop b) rfl (fun _ _=>.inl (by simp)) harr⟩
   | ret=>exact ⟨_,a1,w1,hq,.pass (x:=.inLoop b) rfl (fun _ _=>.inl (by simp)) harr⟩
   | panic ch=>exact ⟨_,a1,w1,hq,.pass (x:=.inLoop b) rfl (fun _ _=>.inl (by simp)) harr⟩
   | outgrown=>exact ⟨_,a1,w1,hq,.pass (x:=.inLoop b) rfl (fun _ _=>.inl (by simp)) harr⟩
 intro i a w hI bb kk cs hro hb hr;obtain ⟨e,a',w',hq,harr⟩:=key _ i a w hI rfl bb kk cs hro hb hr;exact ⟨e,a',w',hq,.of_steps (.one (fenced_calm hb hr rfl) stepR_loop) harr⟩
theorem SeqAV.intro {gf:FuncId} {fn:Func} {c:Code} {caps:List (List D)} {H:Heap} {rows:List (List AV)} {ys:List (List Value)} {n0:Nat} {t0:List AV} (hf:P.funcs[gf]? = some fn) (hb:fn.body=some c) (hent:∀ args w,(callFunc gf args).run P w = .ok (.enter gf args) w)
 (hyl:ys.length=rows.length) (hyr:∀ (w:World) (C:Com) (ρ:Rho) k (h:k<rows.length) (h':k<ys.length),RepAll w C ρ H rows[k] ys[k]) (hn:fn.ntmps=n0) (hcl:caps.length<n0)
 (ht:caps.map .eptr=t0)
 (h:∀ (w:World) (C0:Com) (l:Nat) (J:Nat→Wd) (Jx:Wd),(∀ k,Abide w C0 (J k))→Abide w C0 Jx→
  (∀ k (hk:k<ys.length) X W,J k X W→YieldAt (Fe none) 3 P l ⟨ys[k]⟩ W fun e W'=>((e = .returned (.bool true)∧J (k+1) X W')∨(e = .returned (.bool false)∧Jx X W'))∧∀ r,X r→W'.heap[r]? = W.heap[r]?)→
  ∀ a W,InvYE (fun _=>none) C0 (J 0) ⟨tl (.d (.raw (.func (.yield l) #[] #[]))::t0),hl [],0,n0⟩ a W→c.wpIn (Fe none) 4 P (bodyPost P fn fun e W'=>(∃ v,e = .returned v)∧∃ X,J ys.length X W'∨Jx X W') a W):SeqAV P gf (caps.map .eptr) H rows:=by
 subst hn;refine ⟨hent,fun w C ρ lb hR hlb=>⟨ys.map fun y=>⟨y⟩,by simpa using hyl,fun k h1 h2=>?_,fun l J Jx W hab habx hy hJ0=>?_⟩⟩
 · simp only[List.getElem_map];exact hyr w C ρ k h1 (by simpa using h2)
 · obtain ⟨hl0,hl1⟩:=hlb;rw[List.length_map] at hl0;have hcell:=(hab 0).cell noX W hJ0;refine callsIn_of_wp hf hb trivial ?_ rfl
   have hh:=h w C l J Jx hab habx (fun k hk X W hj=>by
    have:=hy k (by simpa using hk) X W hj
    simpa using this) { tmps:=((#[Value.func (.yield l) #[] #[]]:Array Value)++(⟨lb⟩:Array Value))++Array.replicate (fn.ntmps-((#[Value.func (.yield l) #[] #[]]:Array Value)++(⟨lb⟩:Array Value)).size) undef,defers:=[] } W ?_
   · simpa using hh
   · refine ⟨C,fun _=>none,noX,⟨⟨⟨fun t=>?_,?_,⟨(fun b blk hb=>nomatch hb),(fun b b' r z z' _ hb=>nomatch hb),fun r o hc=>?_⟩,trivial,trivial⟩,fun b _=>rfl,?_,(fun g cells hg=>nomatch hg),Marks.nil _ _,fun _=>rfl⟩,(fun b hb=>nomatch hb),hJ0,fun r ho=>?_,fun r o hc=>.inl hc⟩⟩
     · have e1 : (((#[Value.func (.yield l) #[] #[]] : Array Value) ++ (⟨lb⟩ : Array Value)) ++ Array.replicate (fn.ntmps - ((#[Value.func (.yield l) #[] #[]] : Array Value) ++ (⟨lb⟩ : Array Value)).size) undef).getD t undef = ((Value.func (.yield l) #[] #[] :: lb) ++ List.replicate (fn.ntmps - (lb.length + 1)) undef).getD t undef := by
        rw[Array.getD_eq_getD_getElem?,List.getD_eq_getElem?_getD,← Array.getElem?_toList];simp[]
       show RepA W C (fun _=>none) (Am.hl []) (getP (.d (.raw (.func (.yield l) #[] #[]))::t0) t) _
       simp only;rw[e1,← ht,← qrt];rw[List.getD_eq_getElem?_getD,List.getD_eq_getElem?_getD];have hlt:(AV.d (.raw (.func (.yield l) #[] #[]))::caps.map .eptr).length=(Value.func (.yield l) #[] #[]::lb).length:=by simp[hl0]
       by_cases h1:t<(Value.func (.yield l) #[] #[]::lb).length
       · rw[List.getElem?_append_left h1,List.getElem?_eq_getElem (by omega),List.getElem?_eq_getElem h1,Option.getD_some,Option.getD_some]
         cases t with
         | zero=>exact .d _ _ (.raw _)
         | succ t=>
          simp only[List.getElem_cons_succ];have:=hl1 t (by simp at h1 ⊢;omega) (by simpa using h1)
          simp only[List.getElem_map] at this ⊢;exact this.eptr_mono (fun _ _ h=>h) hcell
       · rw[List.getElem?_eq_none (by omega)];exact .junk _
     · simp;omega
     · obtain ⟨v,hv⟩:=hR.com r o hc;exact ⟨v,by rw[hcell r o hc];exact hv⟩
     · simp only[fullL];have:hOf ([]:List Blk)=Am.hl []:=by funext b;rfl
       show Ext W C (fun _=>none) (hOf _) W C (fun _=>none) (Am.hl [])
       rw[List.range_zero,List.map_nil,this];exact .refl _ _ _ _
     · obtain ⟨b,z,hb,_⟩:=ho;cases hb
end Am

namespace Am
open Go
variable {P:Program} {G:Glob} {w:World} {C:Com} {ρ:Rho} {H:Heap}
def swpH (π:Nat→Nat) (H:Heap):Heap:=fun b=>(H (π b)).map (Blk.ren π)
theorem qghb {π:Nat→Nat} (hπ:∀ b,π (π b)=b) {x:AV} {v:Value} (h:RepA w C ρ H x v):RepA w C (fun b=>ρ (π b)) (swpH π H) (x.ren π) v:=
 qgy (fun b blk hb=>⟨by simp only[swpH,hπ,hb,Option.map_some],by simp only[hπ]⟩) h
theorem qwsb {π:Nat→Nat} (hπ:∀ b,π (π b)=b) {r:Nat}:OwnRow (fun b=>ρ (π b)) (swpH π H) r→OwnRow ρ H r:=by
 rintro ⟨b,s,hb,hr⟩;refine ⟨π b,s,?_,hr⟩
 simpa [swpH] using hb
theorem qypb {π:Nat→Nat} (hπ:∀ b,π (π b)=b) (h:RelH w C ρ H):RelH w C (fun b=>ρ (π b)) (swpH π H):=by
 refine ⟨fun b blk hb=>?_,fun b b' r s s' hne hb hb' hr hr'=>?_,h.com⟩
 · simp only[swpH,Option.map_eq_some_iff] at hb;obtain ⟨blk0,hb0,rfl⟩:=hb;have h0:=h.blk (π b) blk0 hb0;unfold BlkOK at h0 ⊢;simp only
   split at h0
   · rename_i hn;exact ⟨by simp[Blk.ren,h0.1],h0.2⟩
   · rename_i r s hs;obtain ⟨⟨cs,lo,hi,m1,m2,m3,m4,m5,m6,m7⟩,m8,m9⟩:=h0;refine ⟨⟨cs,lo,hi,m1,m2,m3,m4,by simpa [Blk.ren] using m5,fun i hi=>?_,fun i j hi hj=>?_⟩,m8,by simpa [Blk.ren] using m9⟩
     · simp only[Blk.ren,List.getElem_map,List.length_map];exact m6 i (by simpa [Blk.ren] using hi)
     · have hi':i<blk0.rows.length:=by simpa [Blk.ren] using hi
       have hj':j<(blk0.rows[i]).length:=by simpa [Blk.ren] using hj
       obtain ⟨v,k1,k2,k3⟩:=m7 i j hi' hj';refine ⟨v,k1,k2,?_⟩;have:=qghb hπ k3
       simpa [Blk.ren] using this
 · have hne':π b≠π b':=fun e=>hne (by rw[← hπ b,← hπ b',e])
   refine h.dis (π b) (π b') r s s' hne' ?_ ?_ hr hr'
   · simpa [swpH] using hb
   · simpa [swpH] using hb'
theorem Ent.swap {k:Nat} {s:Sta} (π:Nat→Nat) (hπ:∀ b,π (π b)=b) (hk:∀ b,b<k→π b=b) (hnx:∀ b,s.nx≤b→π b=b) :
 Ent k s { s with tm:=fun t=>(s.tm t).ren π,H:=swpH π s.H }:=by
 rintro G B a w hkk ⟨C,ρ,hi⟩;refine ⟨C,fun b=>ρ (π b),⟨fun t=>qghb hπ (hi.rel.tm t),hi.rel.size,qypb hπ hi.rel.h,trivial,hi.rel.defers⟩,fun b hb=>?_,?_,hi.glob,hi.marks,hi.nom⟩
 · simp only[swpH];rw[hnx b hb,hi.nx b hb];rfl
 · have e:=hi.ext;refine ⟨e.com,e.cell,fun b blk hb=>?_,e.os,e.tape,e.output,e.size,e.same,fun r hr=>e.rows r (qwsb hπ hr),e.grow⟩
   have hlt:b<k:=by
    rw[← hkk];unfold hOf at hb;exact (List.getElem?_eq_some_iff.1 hb).1
   obtain ⟨blk',h1,h2,h3,h4⟩:=e.blk b blk hb;refine ⟨blk'.ren π,?_,by simpa [Blk.ren] using h2,by simpa [Blk.ren] using h3,fun hh=>?_⟩
   · simp only[swpH];rw[hk b hlt,h1];rfl
   · show ρ (π b)=B.ρ b
     rw[hk b hlt];exact h4 (by simpa [Blk.ren] using hh)
end Am
