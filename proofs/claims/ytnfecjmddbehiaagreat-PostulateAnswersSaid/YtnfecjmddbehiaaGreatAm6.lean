/- What functions of the program compute: lemmas. -/
import Derived.Test.YtnfecjmddbehiaaGreatAm5
import Derived.Lib.TrailingZeros
set_option linter.unusedSimpArgs false
set_option linter.unusedVariables false
set_option linter.unusedSectionVars false
namespace Am
open Go
namespace F
mutual
theorem beq_true:∀ f g:F,beq f g=true→f=g
 | mk o s a,mk o' s' a',h=>by
  simp only[beq,Bool.and_eq_true,decide_eq_true_eq] at h;obtain ⟨rfl,rfl,h3,h4⟩:=h;rw[beqs_true a a' h3 h4]
theorem beqs_true:∀ l l':List F,l.length=l'.length→beqs l l' = true→l=l'
 | [],[],_,_=>rfl
 | [],_::_,h,_=>by simp at h
 | x::l,[],h,_=>by simp at h
 | x::l,y::l',h,h2=>by
  simp only[beqs,Bool.and_eq_true] at h2;rw[beq_true x y h2.1,beqs_true l l' (by simpa using h) h2.2]
end
end F
def hf (S:BitVec 64) (b i:Nat):BitVec 64:=bitsTo (fun u=>decide (2*u+b<i)&&S.getLsbD (2*u+b)) 64
end Am

namespace Am
open Go
abbrev has (X:BitVec 64) (w:Nat):Prop:=X.getLsbD w=true
theorem qex {X:BitVec 64} {w:Nat} (h:has X w):w<64:=by
 refine Decidable.byContradiction fun hn=>?_
 have:=BitVec.getLsbD_of_ge X w (by omega)
 rw[has,this] at h;cases h
theorem qp {X Y:BitVec 64} {w:Nat}:has (X&&&Y) w↔has X w∧has Y w:=by simp[has]
theorem qub {X Y:BitVec 64} {w:Nat}:has (X|||Y) w↔has X w∨has Y w:=by simp[has]
theorem qx {X Y:BitVec 64} {w:Nat}:has (X &&& ~~~Y) w↔has X w∧¬ has Y w:=by
 constructor
 · intro h;have hw:=qex h
   simpa [has,hw] using h
 · rintro ⟨h1,h2⟩;have hw:=qex h1
   simpa [has,hw,h1] using h2
theorem qyh {w:Nat}:has (BitVec.allOnes 64) w↔w<64:=by rw[has,BitVec.getLsbD_allOnes];simp
theorem qcd {X Y:BitVec 64} (h:∀ w,has X w↔has Y w):X=Y:=qbr fun w _=>by
 have:=h w;cases hx:X.getLsbD w<;>cases hy:Y.getLsbD w<;>simp[has,hx,hy] at this<;>rfl
theorem qgd {X:BitVec 64}:X=0#64↔∀ w,¬ has X w:=by
 constructor
 · rintro rfl w h;simp[has] at h
 · intro h;exact qcd fun w=>⟨fun hx=>absurd hx (h w),fun h0=>by simp[has] at h0⟩
theorem qteb {X Y:BitVec 64}:X &&& ~~~Y=0#64↔∀ w,has X w→has Y w:=by
 rw[qgd]
 constructor
 · intro h w hx;exact Classical.byContradiction fun hy=>h w (qx.2 ⟨hx,hy⟩)
 · intro h w hw;rw[qx] at hw;exact hw.2 (h w hw.1)
theorem qxg {X:BitVec 64} (h:X≠0#64):∃ w,has X w:=Classical.byContradiction fun hn=>h (qgd.2 fun w hw=>hn ⟨w,hw⟩)
theorem qhc {X:BitVec 64} {w:Nat} (h:has X w):X≠0#64:=fun h0=>(qgd.1 h0) w h
theorem qcib (r:Nat→Int) (P:Nat→Prop):∀ N:Nat,(∃ v,v<N∧P v)→∃ w,w<N∧P w∧∀ v,v<N→P v→r w≤r v
 | 0,⟨v,h,_⟩=>by omega
 | N+1,⟨v,hv,hp⟩=>by
  by_cases hN:∃ v,v<N∧P v
  · obtain ⟨w,h1,h2,h3⟩:=qcib r P N hN
    by_cases hc:P N∧r N<r w
    · refine ⟨N,by omega,hc.1,fun u hu hpu=>?_⟩
      by_cases huN:u=N
      · subst huN;omega
      · have:=h3 u (by omega) hpu;omega
    · refine ⟨w,by omega,h2,fun u hu hpu=>?_⟩
      by_cases huN:u=N
      · subst huN;have:¬ r u<r w:=fun h=>hc ⟨hpu,h⟩
        omega
      · exact h3 u (by omega) hpu
  · have:v=N:=Classical.byContradiction fun h=>hN ⟨v,by omega,hp⟩
    subst this;refine ⟨v,by omega,hp,fun u hu hpu=>?_⟩
    by_cases huN:u=v
    · subst huN;omega
    · exact absurd ⟨u,by omega,hpu⟩ hN
structure Lst (N:Nat) (r:Nat→Int) (L:BitVec 64→BitVec 64):Prop where
 le:N≤64
 get:∀ S w,has (L S) w↔w<N∧has S w∧∀ v,v<N→has S v→r w≤r v
theorem Lst.ex {N:Nat} {r:Nat→Int} {L:BitVec 64→BitVec 64} (h:Lst N r L) {S:BitVec 64} {v:Nat} (hv:v<N) (hs:has S v):∃ w,has (L S) w:=by
 obtain ⟨w,h1,h2,h3⟩:=qcib r (fun v=>has S v) N ⟨v,hv,hs⟩
 exact ⟨w,(h.get S w).2 ⟨h1,h2,h3⟩⟩
theorem qtc {names:List (List UInt8)} {ranks:List Int} (h:orderE names ranks=0):Lst ranks.length (fun w=>ranks.getD w (-1)) (leastS names ranks):=
 ⟨(quc h).1,fun S w=>qlbb h S w⟩
section
variable {N:Nat} {r:Nat→Int} {L:BitVec 64→BitVec 64} (hL:Lst N r L)
include hL
theorem Lst.top (w:Nat):has (L (BitVec.allOnes 64)) w↔w<N∧∀ v,v<N→r w≤r v:=by
 rw[hL.get]
 constructor
 · rintro ⟨h1,_,h3⟩;exact ⟨h1,fun v hv=>h3 v hv (qyh.2 (by have:=hL.le;omega))⟩
 · rintro ⟨h1,h2⟩;exact ⟨h1,qyh.2 (by have:=hL.le;omega),fun v hv _=>h2 v hv⟩
variable {A M K:BitVec 64} (hA:∀ w,has A w↔w<N) (hM:∀ w,has M w→w<N) (hK:∀ w,has K w→w<N)
include hA
theorem Lst.rest (w:Nat):has (L (A &&& ~~~M)) w↔w<N∧¬ has M w∧∀ v,v<N→¬ has M v→r w≤r v:=by
 rw[hL.get,qx]
 constructor
 · rintro ⟨h1,⟨_,h2⟩,h3⟩;exact ⟨h1,h2,fun v hv hm=>h3 v hv (qx.2 ⟨(hA v).2 hv,hm⟩)⟩
 · rintro ⟨h1,h2,h3⟩;exact ⟨h1,⟨(hA w).2 h1,h2⟩,fun v hv hm=>h3 v hv (qx.1 hm).2⟩
end
def Wth (N:Nat) (r:Nat→Int) (M W:BitVec 64):Prop:=∀ w,has W w↔w<N∧((∃ u,u<N∧¬ has M u)→∀ v,v<N→¬ has M v→r w≤r v)∧((∀ u,u<N→has M u)→∀ v,v<N→r w≤r v)
section
variable {N:Nat} {r:Nat→Int} {L:BitVec 64→BitVec 64} (hL:Lst N r L) {A M K W V:BitVec 64} (hA:∀ w,has A w↔w<N) (hM:∀ w,has M w→w<N) (hW:Wth N r M W) (hV:Wth N r K V)
include hL hW
end
end Am

namespace Am
open Go
theorem qli {S T:BitVec 64}:∀ {ls:List (BitVec 64)},(∀ l∈ls,l&&&S=l&&&T)→leastL S ls=leastL T ls
 | [],_=>rfl
 | l::ls,h=>by
  simp only[leastL];rw[h l (by simp),qli fun x hx=>h x (by simp[hx])]
def beliefsS (names:List (List UInt8)) (ranks:List Int):BitVec 64:=leastS names ranks (BitVec.allOnes 64)
theorem qwu (names:List (List UInt8)) (ranks:List Int):leastS names ranks (allS names)=beliefsS names ranks:=by
 unfold beliefsS leastS levelsO
 split
 · rename_i h;have hz:=qy h;have hlen:=quc h;refine qli fun l hl=>?_
   unfold levelsS at hl;obtain ⟨k,_,rfl⟩:=List.mem_map.1 hl;unfold allS;rw[if_pos hz.1];refine qbr fun w hw=>?_
   rw[BitVec.getLsbD_and,BitVec.getLsbD_and,qyl _ _ hlen.1,qfe _ _ _ (pow6 (qrd hz.1)),hz.2.1,BitVec.getLsbD_allOnes]
   by_cases h2:w<2^names.length<;>simp[h2,hw]
 · rfl
end Am

namespace Am
open Go
def sortI (l:List Int):List Int:=l.mergeSort fun x y=>decide (x≤y)
theorem qqk (l:List Int):(sortI l).length=l.length:=by simp[sortI]
theorem qsgb (l:List Int) (x:Int):x∈sortI l↔x∈l:=List.mem_mergeSort
theorem qki (l:List Int):(sortI l).Pairwise fun x y=>x≤y:=by
 have:=List.pairwise_mergeSort (le:=fun x y:Int=>decide (x≤y)) (fun a b c h1 h2=>by simp only[decide_eq_true_eq] at *;omega) (fun a b=>by simp only[Bool.or_eq_true,decide_eq_true_eq];omega) l
 exact this.imp fun h=>by simpa using h
theorem qew {zs:List Int} (hs:zs.Pairwise fun x y=>x≤y):∀ m,m≤zs.length→
 (∀ x,x∈Lib.compactUpTo zs.toArray m↔x∈zs.take m)∧(Lib.compactUpTo zs.toArray m).Pairwise (fun x y=>x<y)∧∀ x∈Lib.compactUpTo zs.toArray m,∀ (h:m-1<zs.length),x≤zs[m-1]:=by
 intro m
 induction m with
 | zero=>intro _;simp[Lib.compactUpTo]
 | succ m ih=>
  intro hm;obtain ⟨h1,h2,h3⟩:=ih (by omega)
  have hg:zs.toArray[m]! = zs[m]:=by simp[show m<zs.length by omega]
  have hle:∀ x∈zs.take m,x≤zs[m]:=by
   intro x hx;obtain ⟨i,hi,rfl⟩:=List.getElem_of_mem hx;simp only[List.length_take] at hi;rw[List.getElem_take];exact List.pairwise_iff_getElem.1 hs i m (by omega) (by omega) (by omega)
  rw[Lib.compactUpTo_succ]
  by_cases hk:Lib.keeps zs.toArray m=true
  · rw[if_pos hk,hg];refine ⟨fun x=>?_,?_,?_⟩
    · rw[List.mem_append,h1,← qxr (show m<zs.length by omega),List.mem_append]
    · rw[List.pairwise_append];refine ⟨h2,by simp,fun x hx y hy=>?_⟩
      simp only[List.mem_singleton] at hy;subst hy;have hx':=(h1 x).1 hx;rcases Nat.eq_zero_or_pos m with rfl|hm0
      · simp at hx'
      · have hx3:=h3 x hx (by omega)
        have hlt:zs[m-1]≤zs[m]:=List.pairwise_iff_getElem.1 hs (m-1) m (by omega) (by omega) (by omega)
        have hne:zs[m]≠zs[m-1]:=by
         unfold Lib.keeps at hk;simp only[decide_eq_true_eq] at hk;have hg':zs.toArray[m-1]! = zs[m-1]:=by simp[show m-1<zs.length by omega]
         rw[hg,hg'] at hk;rcases hk with h|h
         · omega
         · exact h
        have hxm:=Int.le_trans hx3 hlt;exact Decidable.byContradiction fun hn=>hne (Int.le_antisymm (Int.le_trans (Int.not_lt.1 hn) hx3) hlt)
    · intro x hx h;simp only[Nat.add_sub_cancel];rcases List.mem_append.1 hx with hx|hx
      · exact hle x ((h1 x).1 hx)
      · simp only[List.mem_singleton] at hx;subst hx;exact Int.le_refl _
  · rw[if_neg hk,List.append_nil]
    have hm0:0<m∧zs[m]=zs[m-1]:=by
     unfold Lib.keeps at hk;simp only[decide_eq_true_eq,not_or,Decidable.not_not] at hk;have hg':zs.toArray[m-1]! = zs[m-1]:=by simp[show m-1<zs.length by omega]
     rw[hg,hg'] at hk;exact ⟨by omega,hk.2⟩
    refine ⟨fun x=>?_,h2,?_⟩
    · rw[h1,← qxr (show m<zs.length by omega),List.mem_append]
      constructor
      · exact .inl
      · rintro (h|h)
        · exact h
        · simp only[List.mem_singleton] at h;rw[h,hm0.2];exact List.mem_take_iff_getElem.2 ⟨m-1,by omega,rfl⟩
    · intro x hx h;exact hle x ((h1 x).1 hx)
def canonI (l:List Int):List Int:=Lib.compact (sortI l)
theorem qwl (l:List Int) (x:Int):x∈canonI l↔x∈l:=by
 unfold canonI Lib.compact;rw[(qew (qki l) _ (Nat.le_refl _)).1,List.take_length,qsgb]
theorem qbi (l:List Int):(canonI l).Pairwise fun x y=>x<y:=by
 unfold canonI Lib.compact;exact (qew (qki l) _ (Nat.le_refl _)).2.1
theorem qty (l:List Int):(canonI l).length≤l.length:=qje ((qbi l).imp fun h e=>by subst e;exact Int.lt_irrefl _ h) fun x hx=>(qwl l x).1 hx
def lessN (t:Int) (l:List Int):Nat:=(l.filter fun x=>decide (x<t)).length
theorem qakb (t:Int) (l:List Int):lessN t l≤l.length:=List.length_filter_le _ _
theorem qom:∀ {l:List Int},l.Pairwise (fun x y=>x<y)→∀ (t:Int) (i:Nat) (hi:i<l.length),l[i]<t↔i<lessN t l
 | [],_,_,i,hi=>by simp at hi
 | a::l,h,t,i,hi=>by
  have h':=List.pairwise_cons.1 h;unfold lessN
  by_cases ha:a<t
  · rw[List.filter_cons_of_pos (by simpa using ha)]
    cases i with
    | zero=>simp[ha]
    | succ i=>
     have:=qom h'.2 t i (by simpa using hi)
     unfold lessN at this;simp only[List.getElem_cons_succ,List.length_cons];omega
  · rw[List.filter_cons_of_neg (by simpa using ha)]
    have hnone:l.filter (fun x=>decide (x<t))=[]:=List.filter_eq_nil_iff.2 fun x hx=>by
     have:=h'.1 x hx;simp;omega
    rw[hnone];cases i with
    | zero=>simp only[List.getElem_cons_zero,List.length_nil];omega
    | succ i=>
     have:=h'.1 _ (List.getElem_mem (show i<l.length by simpa using hi))
     simp only[List.getElem_cons_succ,List.length_nil];omega
theorem qzt (r:Int) (l:List Int):lessN r (canonI l)=(belowL r l).length:=by
 unfold lessN;have hn:((canonI l).filter fun x=>decide (x<r)).Nodup:=((qbi l).imp (S:=fun a b=>a≠b) fun h e=>by subst e;exact Int.lt_irrefl _ h).filter _
 refine qkn hn (qsb r l) fun x=>?_
 rw[List.mem_filter,qwl,qz];simp
end Am

namespace Am
open Go
def Pat (l m:List Int):Prop:=l.length=m.length∧∀ i j,i<l.length→j<l.length→(l.getD i 0<l.getD j 0↔m.getD i 0<m.getD j 0)
theorem Pat.symm {l m:List Int} (h:Pat l m):Pat m l:=⟨h.1.symm,fun i j hi hj=>(h.2 i j (h.1 ▸ hi) (h.1 ▸ hj)).symm⟩
theorem Pat.trans {l m k:List Int} (h:Pat l m) (h':Pat m k):Pat l k:=⟨h.1.trans h'.1,fun i j hi hj=>(h.2 i j hi hj).trans (h'.2 i j (h.1 ▸ hi) (h.1 ▸ hj))⟩
theorem Pat.eq {l m:List Int} (h:Pat l m) {i j:Nat} (hi:i<l.length) (hj:j<l.length):l.getD i 0=l.getD j 0↔m.getD i 0=m.getD j 0:=by
 have h1:=h.2 i j hi hj;have h2:=h.2 j i hj hi
 constructor<;>intro e<;>omega
theorem gd {l:List Int} {i:Nat} (h:i<l.length):l.getD i 0=l[i]:=by simp[h]
theorem qkq {l m:List Int} (h:Pat l m) {i:Nat} (hi:i<l.length):∀ k,k≤l.length→
 ∃ js:List Nat,(∀ j∈js,j<l.length)∧(l.take k).foldl (belowF (l.getD i 0)) []=js.map (fun j=>l.getD j 0)∧(m.take k).foldl (belowF (m.getD i 0)) []=js.map (fun j=>m.getD j 0)
 | 0,_=>⟨[],by simp,by simp,by simp⟩
 | k+1,hk=>by
  obtain ⟨js,h1,h2,h3⟩:=qkq h hi k (by omega)
  have hm:=h.1;have tl:l.take (k+1)=l.take k++[l.getD k 0]:=by rw[List.take_add_one,List.getElem?_eq_getElem (by omega),gd (by omega)];rfl
  have tm:m.take (k+1)=m.take k++[m.getD k 0]:=by rw[List.take_add_one,List.getElem?_eq_getElem (by omega),gd (by omega)];rfl
  rw[tl,tm,List.foldl_append,List.foldl_append,h2,h3];simp only[List.foldl_cons,List.foldl_nil];have e1:=h.2 k i (by omega) hi
  have e2:(l.getD k 0∈js.map fun j=>l.getD j 0)↔(m.getD k 0∈js.map fun j=>m.getD j 0):=by
   simp only[List.mem_map];exact ⟨fun ⟨j,hj,he⟩=>⟨j,hj,(h.eq (h1 j hj) (by omega)).1 he⟩,fun ⟨j,hj,he⟩=>⟨j,hj,(h.eq (h1 j hj) (by omega)).2 he⟩⟩
  by_cases c:l.getD k 0<l.getD i 0∧l.getD k 0 ∉ js.map fun j=>l.getD j 0
  · have c':m.getD k 0<m.getD i 0∧m.getD k 0 ∉ js.map fun j=>m.getD j 0:=⟨e1.1 c.1,fun hx=>c.2 (e2.2 hx)⟩
    refine ⟨js++[k],fun j hj=>?_,?_,?_⟩
    · rcases List.mem_append.1 hj with hj|hj
      · exact h1 j hj
      · simp only[List.mem_singleton] at hj;omega
    · unfold belowF;rw[if_pos c];simp
    · unfold belowF;rw[if_pos c'];simp
  · have c':¬ (m.getD k 0<m.getD i 0∧m.getD k 0 ∉ js.map fun j=>m.getD j 0):=fun ⟨a,b⟩=>c ⟨e1.2 a,fun hx=>b (e2.1 hx)⟩
    exact ⟨js,h1,by unfold belowF;rw[if_neg c],by unfold belowF;rw[if_neg c']⟩
theorem qhv {l m:List Int} (h:Pat l m):normS l=normS m:=by
 have hm:=h.1;unfold normS;refine List.ext_getElem (by simp[hm]) fun i h1 h2=>?_
 have hi:i<l.length:=by simpa using h1
 obtain ⟨js,_,e1,e2⟩:=qkq h hi l.length (Nat.le_refl _);rw[List.take_length] at e1;rw[hm,List.take_length] at e2;simp only[List.getElem_map,belowL,← gd hi,← gd (show i<m.length by omega),e1,e2,List.length_map]
theorem qmlb (l:List Int):Pat (normS l) l:=by
 refine ⟨by simp[normS],fun i j hi hj=>?_⟩
 have hi':i<l.length:=by simpa [normS] using hi
 have hj':j<l.length:=by simpa [normS] using hj
 rw[gd hi,gd hj,gd hi',gd hj'];simp only[normS,List.getElem_map]
 constructor
 · intro h;refine Int.not_le.1 fun hc=>?_
   have:=qybb l hc;omega
 · intro h;have:=qshb (List.getElem_mem hi') h;omega
def Rk (N:Nat) (l:List Int):Prop:=l.length=N∧∀ r∈l,0≤r∧r<N
end Am

namespace Am
open Go
structure Ord (names:List (List UInt8)) (N:Nat) (o:List Int):Prop where
 ok:orderE names o=0
 rk:Rk N o
theorem Ord.least {names:List (List UInt8)} {N:Nat} {o:List Int} (h:Ord names N o) (S:BitVec 64) (w:Nat):has (leastS names o S) w↔w<N∧has S w∧∀ v,v<N→has S v→¬ o.getD v 0<o.getD w 0:=by
 have hl:=(qtc h.ok).get S w;obtain ⟨rfl,_⟩:=h.rk;have g0:∀ {i:Nat},i<o.length→o.getD i (-1)=o.getD i 0:=fun h=>by simp[h]
 rw[hl]
 constructor
 · rintro ⟨h1,h2,h3⟩;refine ⟨h1,h2,fun v hv hs=>?_⟩
   have:=h3 v hv hs;rw[g0 h1,g0 hv] at this;omega
 · rintro ⟨h1,h2,h3⟩;refine ⟨h1,h2,fun v hv hs=>?_⟩
   have:=h3 v hv hs;rw[g0 h1,g0 hv];omega
theorem Ord.ex {names:List (List UInt8)} {N:Nat} {o:List Int} (h:Ord names N o) {S:BitVec 64} {v:Nat} (hv:v<N) (hs:has S v):∃ w,has (leastS names o S) w:=by
 have:=(qtc h.ok).ex (S:=S) (v:=v) (by rw[h.rk.1];exact hv) hs
 exact this
theorem Ord.le {names:List (List UInt8)} {N:Nat} {o:List Int} (h:Ord names N o):N≤64:=by
 have:=(quc h.ok).1;rw[h.rk.1] at this;exact this
section
variable {names:List (List UInt8)} {N:Nat} {o:List Int} (h:Ord names N o) {k:Int} (hk:k=1∨k=2∨k=3)
include h hk
end
theorem qol {o:List Int} (h:rkOk o=true):normS o=o:=by
 have hin:=qgf (qzf h)
 have hall:∀ k:Nat,k<(maxR o).toNat→(k:Int)∈o:=fun k hk=>by
  unfold rkOk at h;simp only[Bool.and_eq_true,List.all_eq_true,List.mem_range,decide_eq_true_eq] at h;exact h.2 k hk
 refine List.ext_getElem (by simp[normS]) fun i h1 h2=>?_
 rw[qbmb h2];have hr:=hin o[i] (List.getElem_mem h2);have hx:=qzi o 0 o[i] (List.getElem_mem h2);obtain ⟨n,hn⟩:=Int.eq_ofNat_of_zero_le hr.1;rw[hn] at hx ⊢
 have hnd:((List.range n).map fun k:Nat=>(k:Int)).Nodup:=by
  rw[List.nodup_iff_pairwise_ne,List.pairwise_map];exact List.nodup_range.imp fun h e=>h (by omega)
 have:=qkn (qsb (n:Int) o) hnd fun x=>by
  rw[qz,List.mem_map]
  constructor
  · rintro ⟨a,b⟩;have:=hin x a;exact ⟨x.toNat,List.mem_range.2 (by omega),by omega⟩
  · rintro ⟨k,hk,rfl⟩;have:=List.mem_range.1 hk;exact ⟨hall k (by unfold maxR;omega),by omega⟩
 rw[this];simp
end Am

namespace Am
open Go
end Am

namespace Am
open Go
end Am

namespace Am
open Go
end Am

namespace Am
open Go
abbrev PP:=BitVec 64 × BitVec 64
def lyAt (p:List PP) (out:List Int) (bad:BitVec 64) (i:Nat):Prop:=out.getD i 0<0∧(p.getD i (0#64,0#64)).1 &&& ~~~bad≠0#64
instance (p:List PP) (out:List Int) (bad:BitVec 64) (i:Nat):Decidable (lyAt p out bad i):=by unfold lyAt;infer_instance
end Am
namespace Am
open Go
end Am

namespace Am
open Go
def sp (X:BitVec 64) (b i:Nat):BitVec 64:=bitsTo (fun u=>X.getLsbD (2*u+b)) i
end Am

namespace Am
open Go
def ones (x:BitVec 64):Nat→Nat
 | 0=>0
 | n+1=>ones x n+(x.getLsbD n).toNat
def onesN (x:Nat):Nat→Nat
 | 0=>0
 | n+1=>x % 2+onesN (x / 2) n
theorem qcbb (x n:Nat):(x.testBit n).toNat=x / 2^n % 2:=by
 rw[Nat.testBit_eq_decide_div_mod_eq];rcases Nat.mod_two_eq_zero_or_one (x / 2^n) with h|h<;>simp[h]
theorem qvz (n:Nat):∀ x,onesN x (n+1)=onesN x n+x / 2^n % 2:=by
 induction n with
 | zero=>intro x;simp[onesN]
 | succ n ih=>
  intro x;have h:x / 2 / 2^n=x / 2^(n+1):=by rw[Nat.div_div_eq_div_mul,Nat.pow_succ,Nat.mul_comm]
  rw[onesN,ih (x / 2),h,onesN];omega
theorem qqob (x:BitVec 64):∀ n,ones x n=onesN x.toNat n
 | 0=>rfl
 | n+1=>by rw[ones,qqob x n,qvz,← qcbb];rfl
def mk (B m:Nat):Nat→Nat
 | 0=>0
 | k+1=>B*mk B m k+m
theorem qig (t B q r m M:Nat) (hB:B=2^t) (hr:r<B) (hm:m<B):(B*q+r)&&&(B*M+m)=B*(q&&&M)+(r&&&m):=by
 subst hB;have e:=Nat.div_add_mod ((2^t*q+r)&&&(2^t*M+m)) (2^t);have hp:0<2^t:=Nat.two_pow_pos t;rw[Nat.and_div_two_pow,Nat.and_mod_two_pow] at e;have d1:(2^t*q+r) / 2^t=q:=by rw[Nat.mul_add_div hp,Nat.div_eq_of_lt hr];omega
 have d2:(2^t*M+m) / 2^t=M:=by rw[Nat.mul_add_div hp,Nat.div_eq_of_lt hm];omega
 have d3:(2^t*q+r) % 2^t=r:=by rw[Nat.mul_add_mod,Nat.mod_eq_of_lt hr]
 have d4:(2^t*M+m) % 2^t=m:=by rw[Nat.mul_add_mod,Nat.mod_eq_of_lt hm]
 rw[d1,d2,d3,d4] at e;exact e.symm
def s1 (X k:Nat):Nat:=(X / 2&&&mk 256 85 k)+(X&&&mk 256 85 k)
def s2 (X k:Nat):Nat:=(X / 4&&&mk 256 51 k)+(X&&&mk 256 51 k)
def s3 (X k:Nat):Nat:=(X / 16+X)&&&mk 256 15 k
theorem qjq (s q b m M:Nat) (hs:s≤8) (hb:b<256) (hm:m<2^(8-s)):((256*q+b) / 2^s)&&&(256*M+m)=256*((q / 2^s)&&&M)+((b / 2^s)&&&m):=by
 have h1:(256*q+b) / 2^s=256*(q / 2^s)+(2^(8-s)*(q % 2^s)+b / 2^s):=by
  have h8:256=2^(8-s)*2^s:=by rw[← Nat.pow_add,show 8-s+s=8 by omega]
  have hp:0<2^s:=Nat.two_pow_pos s;have hq:=Nat.div_add_mod q (2^s)
  have:256*q+b=2^s*(2^(8-s)*q)+b:=by
   conv=>lhs;rw[h8]
   rw[Nat.mul_comm (2^(8-s)),Nat.mul_assoc]
  rw[this,Nat.mul_add_div hp]
  have:2^(8-s)*q=256*(q / 2^s)+2^(8-s)*(q % 2^s):=by
   conv=>lhs;rw[← hq]
   rw[Nat.mul_add,← Nat.mul_assoc,← h8]
  omega
 have hlow:b / 2^s<2^(8-s):=by
  rw[Nat.div_lt_iff_lt_mul (Nat.two_pow_pos s),← Nat.pow_add,show 8-s+s=8 by omega];exact hb
 have hqs:q % 2^s<2^s:=Nat.mod_lt _ (Nat.two_pow_pos s)
 have hle:2^(8-s)≤256:=by
  have:=Nat.pow_le_pow_right (show 0<2 by omega) (show 8-s≤8 by omega)
  exact this
 have hsum:2^(8-s)*(q % 2^s)+b / 2^s<256:=by
  have h2:2^(8-s)*(q % 2^s+1)≤2^(8-s)*2^s:=Nat.mul_le_mul_left _ hqs;rw[← Nat.pow_add,show 8-s+s=8 by omega,Nat.mul_add] at h2
  omega
 rw[h1,qig 8 256 (q / 2^s) _ m M rfl hsum (by omega)]
 congr 1
 have e:=qig (8-s) (2^(8-s)) (q % 2^s) (b / 2^s) m 0 rfl hlow hm
 simpa using e
theorem qdsb (q b k:Nat) (hb:b<256):s1 (256*q+b) (k+1)=256*s1 q k+s1 b 1:=by
 unfold s1;have h1:=qjq 1 q b 85 (mk 256 85 k) (by omega) hb (by decide)
 have h2:=qig 8 256 q b 85 (mk 256 85 k) rfl hb (by decide)
 simp only[Nat.pow_one] at h1;simp only[mk,Nat.mul_zero,Nat.zero_add];rw[h1,h2];omega
theorem qksb (q b k:Nat) (hb:b<256):s2 (256*q+b) (k+1)=256*s2 q k+s2 b 1:=by
 unfold s2;have h1:=qjq 2 q b 51 (mk 256 51 k) (by omega) hb (by decide)
 have h2:=qig 8 256 q b 51 (mk 256 51 k) rfl hb (by decide)
 simp only[show (2:Nat)^2=4 from rfl] at h1
 simp only[mk,Nat.mul_zero,Nat.zero_add];rw[h1,h2];omega
theorem qgm:∀ b,b<256→s1 b 1<256∧s2 (s1 b 1) 1<256∧s2 (s1 b 1) 1 % 16≤4∧s2 (s1 b 1) 1 / 16≤4∧(s2 (s1 b 1) 1 / 16+s2 (s1 b 1) 1) % 16=onesN b 8∧onesN b 8≤8:=by decide +kernel
theorem qjy (q b n:Nat) (hb:b<256):onesN (256*q+b) (n+8)=onesN b 8+onesN q n:=by
 have e:(256*q+b) / 2 / 2 / 2 / 2 / 2 / 2 / 2 / 2=q:=by omega
 have e2:b / 2 / 2 / 2 / 2 / 2 / 2 / 2 / 2=0:=by omega
 simp only[onesN];rw[e];omega
def dig (X:Nat):Nat→Nat
 | 0=>0
 | k+1=>256*dig (X / 256) k+onesN (X % 256) 8
theorem qeob:∀ (k X:Nat),s2 (s1 X k) k % 16≤4∧s3 (s2 (s1 X k) k) k=dig X k
 | 0,X=>by simp[s1,s2,s3,mk,dig]
 | k+1,X=>by
  obtain ⟨i1,i2⟩:=qeob k (X / 256);have hb:X % 256<256:=Nat.mod_lt _ (by omega)
  have hx:X=256*(X / 256)+X % 256:=(Nat.div_add_mod X 256).symm;obtain ⟨f1,f2,f3,f4,f5,f6⟩:=qgm (X % 256) hb
  have e1:s1 X (k+1)=256*s1 (X / 256) k+s1 (X % 256) 1:=by
   conv=>lhs;rw[hx]
   exact qdsb _ _ _ hb
  have e2:s2 (s1 X (k+1)) (k+1)=256*s2 (s1 (X / 256) k) k+s2 (s1 (X % 256) 1) 1:=by rw[e1];exact qksb _ _ _ f1
  rw[e2,dig];generalize s2 (s1 (X / 256) k) k=A at *;generalize s2 (s1 (X % 256) 1) 1=n at *;refine ⟨by omega,?_⟩
  unfold s3 at i2 ⊢;have hs:(256*A+n) / 16+(256*A+n)=256*(A / 16+A)+(16*(A % 16)+n / 16+n):=by omega
  have h3:=qig 8 256 (A / 16+A) (16*(A % 16)+n / 16+n) 15 (mk 256 15 k) rfl (by omega) (by decide)
  simp only[mk];rw[hs,h3,i2];have h4:(16*(A % 16)+n / 16+n)&&&15=(16*(A % 16)+n / 16+n) % 16:=Nat.and_two_pow_sub_one_eq_mod _ 4;rw[h4];omega
theorem qnrb (X:Nat):∃ p0 p1 p2 p3 p4 p5 p6 p7,p0≤8∧p1≤8∧p2≤8∧p3≤8∧p4≤8∧p5≤8∧p6≤8∧p7≤8∧onesN X 64=p0+p1+p2+p3+p4+p5+p6+p7∧dig X 8=256*(256*(256*(256*(256*(256*(256*(256*0+p7)+p6)+p5)+p4)+p3)+p2)+p1)+p0:=by
 have hb:∀ Y:Nat,onesN (Y % 256) 8≤8:=fun Y=>(qgm (Y % 256) (Nat.mod_lt _ (by omega))).2.2.2.2.2
 have st:∀ (Y n:Nat),onesN Y (n+8)=onesN (Y % 256) 8+onesN (Y / 256) n:=fun Y n=>by
  have:=qjy (Y / 256) (Y % 256) n (Nat.mod_lt _ (by omega))
  rwa [Nat.div_add_mod] at this
 refine ⟨_,_,_,_,_,_,_,_,hb X,hb (X / 256),hb (X / 256 / 256),hb (X / 256 / 256 / 256),hb (X / 256 / 256 / 256 / 256),hb (X / 256 / 256 / 256 / 256 / 256),hb (X / 256 / 256 / 256 / 256 / 256 / 256),hb (X / 256 / 256 / 256 / 256 / 256 / 256 / 256),?_,rfl⟩;rw[st X 56,st _ 48,st _ 40,st _ 32,st _ 24,st _ 16,st _ 8,st _ 0];simp only[onesN];omega
theorem qzkb (y p0 p1 p2 p3 p4 p5 p6 p7:Nat) (h0:p0≤8) (h1:p1≤8) (h2:p2≤8) (h3:p3≤8) (h4:p4≤8) (h5:p5≤8) (h6:p6≤8) (h7:p7≤8) (hy:y=256*(256*(256*(256*(256*(256*(256*(256*0+p7)+p6)+p5)+p4)+p3)+p2)+p1)+p0) :
 ∃ z u v,z=y+y / 256∧u=z+z / 65536∧v=u+u / 4294967296∧v<9223372036854775808∧v % 128=p0+p1+p2+p3+p4+p5+p6+p7:=by
 have e1:y / 256=256*(256*(256*(256*(256*(256*p7+p6)+p5)+p4)+p3)+p2)+p1:=by omega
 refine ⟨_,_,_,rfl,rfl,rfl,?_⟩;have e2:y+y / 256=256*(256*(256*(256*(256*(256*(256*p7+(p6+p7))+(p5+p6))+(p4+p5))+(p3+p4))+(p2+p3))+(p1+p2))+(p0+p1):=by omega
 generalize y+y / 256=z at *;have e3:z / 65536=256*(256*(256*(256*(256*p7+(p6+p7))+(p5+p6))+(p4+p5))+(p3+p4))+(p2+p3):=by omega
 have e4:z+z / 65536=256*(256*(256*(256*(256*(256*(256*p7+(p6+p7))+(p5+p6+p7))+(p4+p5+p6+p7))+(p3+p4+p5+p6))+(p2+p3+p4+p5))+(p1+p2+p3+p4))+(p0+p1+p2+p3):=by omega
 generalize z+z / 65536=u at *;have e5:u / 4294967296=256*(256*(256*p7+(p6+p7))+(p5+p6+p7))+(p4+p5+p6+p7):=by omega
 clear e1 e2 e3 hy;omega
theorem qzsb {a:Nat} (h:a<18446744073709551616):D.int .u64 (a:Int)=bvD (BitVec.ofNat 64 a):=by
 unfold bvD;rw[BitVec.toNat_ofNat,Nat.mod_eq_of_lt (by omega)]
theorem qggb (x:BitVec 64) {a:Nat} (h:x.toNat=a):bvD x=D.int .u64 (a:Int):=by unfold bvD;rw[h]
theorem qqz {a:Nat} (h:a<18446744073709551616) (n:Nat):PO.eval (.bin .shr false) [.int .u64 (a:Int),.int .u64 (n:Int)]=some [.int .u64 ((a / 2^n:Nat):Int)]:=by
 rw[qzsb h,qfw]
 congr 2
 exact qggb _ (by rw[BitVec.toNat_ushiftRight,Nat.shiftRight_eq_div_pow,BitVec.toNat_ofNat,Nat.mod_eq_of_lt (by omega)])
theorem qbgb {a b:Nat} (h:a<18446744073709551616) (h':b<18446744073709551616):PO.eval (.bin .and false) [.int .u64 (a:Int),.int .u64 (b:Int)]=some [.int .u64 ((a&&&b:Nat):Int)]:=by
 rw[qzsb h,qzsb h',qedb]
 congr 2
 exact qggb _ (by rw[BitVec.toNat_and,BitVec.toNat_ofNat,BitVec.toNat_ofNat,Nat.mod_eq_of_lt (by omega),Nat.mod_eq_of_lt (by omega)])
theorem qny {a b:Nat} (h:a+b<18446744073709551616):PO.eval (.bin .add false) [.int .u64 (a:Int),.int .u64 (b:Int)]=some [.int .u64 ((a+b:Nat):Int)]:=by
 show one1 (some (.int .u64 (IntKind.u64.wrap ((a:Int)+(b:Int)))))=_
 rw[qoxb (by omega) (by omega)];rfl
end Am

namespace Am
open Go
end Am

namespace Am
open Go
end Am

namespace Am
open Go
end Am

namespace Am
open Go
end Am

namespace Am
open Go
section
variable {N:Nat} {r:Nat→Int} {L:BitVec 64→BitVec 64} (hL:Lst N r L) {A B C T:BitVec 64}
include hL
end
structure Rat9 (y0 y1 y2 y3 y4 y5 y6 y7 y8:Bool):Prop where
 a0:y0=true
 a3:y3=(y1&&y2)
 a4:y1=true→y2=true→y4=true
 a5:y5=false→y2=true→y4=true
 a7:y2=true→y6=true→y7=true
 a8:y1=true→y8=true
end Am
