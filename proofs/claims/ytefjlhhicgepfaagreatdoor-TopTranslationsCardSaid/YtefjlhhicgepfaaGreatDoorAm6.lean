/- Lemmas. -/
import Derived.Test.YtefjlhhicgepfaaGreatDoorAm5
import Derived.Lib.TrailingZeros
set_option linter.unusedSimpArgs false
set_option linter.unusedVariables false
set_option linter.unusedSectionVars false
open List (all_eq_true ext_getElem getElem?_eq_getElem getElem_mem length_cons length_nil map_congr_left mem_append mem_map mem_range mem_singleton range replicate take_length)
open Bool (and_eq_true)
open Nat (le_refl pow_succ)
open BitVec (allOnes getLsbD_and)
namespace Am
open Go
theorem aqu(ys ws:List (List UInt8)):∀ f:F,good f=true→(∀ s∈F.atomL f,ys.contains s=ws.contains s)→F.val ys f=F.val ws f:=by
 refine qxh fun f ih hf h=>?_
 have ck:=((qsp f).1 hf).2.2;rw[F.val_eq ys f,F.val_eq ws f];rw[F.atomL_eq] at h
 by_cases ho:f.op=3
 · have ha:=qdw hf ho;rw[if_pos ⟨ho,by simp[ha]⟩] at h
   simp only[ho,mu,Int.reduceEq,if_false,if_true];exact h _ (by simp)
 · rw[if_neg (fun x=>ho x.1)] at h
   have hm:f.args.map (F.val ys)=f.args.map (F.val ws):=by
    apply map_congr_left
    intro x hx;refine ih x hx (ck x hx) fun s hs=>h s ?_
    have:∀ l:List F,x∈l→s∈F.atomLs l:=by
     intro l
     induction l with
     | nil=>intro h;simp at h
     | cons y l ih=>
      intro h;simp only[F.atomLs,mem_append];rcases List.mem_cons.1 h with rfl|h
      · exact .inl hs
      · exact .inr (ih h)
    exact this _ hx
   rw[hm];unfold mu;simp only[ho,if_false]
namespace F
mutual
theorem beq_true:∀ f g:F,beq f g=true→f=g
 | mk o s a,mk o' s' a',h=>by
  simp only[beq,and_eq_true,decide_eq_true_eq] at h;obtain ⟨rfl,rfl,h3,h4⟩:=h;rw[v8 a a' h3 h4]
theorem v8:∀ l l':List F,l.length=l'.length→aai l l' = true→l=l'
 | [],[],_,_=>rfl
 | [],_::_,h,_=>by simp at h
 | x::l,[],h,_=>by simp at h
 | x::l,y::l',h,h2=>by
  simp only[aai,and_eq_true] at h2;rw[beq_true x y h2.1,v8 l l' (by simpa using h) h2.2]
end
end F
def pr(o:Int)(f g:F):F:=F.mk o [] [f,g]
def atF(a:List UInt8):F:=F.mk 3 a []
def lk(a:List UInt8):F:=F.mk 4 [] [atF a]
def sn(a:List UInt8)(t f:F):F:=
 if F.beq t f=true then t else if t.op=1∧f.op=2 then atF a else if t.op=1 then pr 6 (atF a) f else if t.op=2∧f.op=1 then lk a else if t.op=2 then pr 5 (lk a) f else
 if f.op=1 then pr 6 (lk a) t else if f.op=2 then pr 5 (atF a) t else pr 6 (pr 5 (atF a) t) (pr 5 (lk a) f)
def hf(S:BitVec 64)(b i:Nat):BitVec 64:=bc (fun u=>decide (2*u+b<i)&&S.getLsbD (2*u+b)) 64
def thy:List (List UInt8)→BitVec 64→F
 | [],S=>if S&&&bc (fun _=>true) (2^0)=0#64 then F.mk 2 [] [] else F.mk 1 [] []
 | a::l,S=>if S&&&bc (fun _=>true) (2^(l.length+1))=0#64 then F.mk 2 [] [] else if S&&&bc (fun _=>true) (2^(l.length+1))=bc (fun _=>true) (2^(l.length+1)) then F.mk 1 [] [] else
  sn a (thy l (hf S 1 (2^(l.length+1)))) (thy l (hf S 0 (2^(l.length+1))))
theorem aj2{S:BitVec 64}{b N u:Nat}(h:2*u+b<N)(hu:u<64):(hf S b N).getLsbD u=S.getLsbD (2*u+b):=by
 unfold hf;rw[qk _ _ _ (le_refl _)];simp[h,hu]
theorem qxq(ys:List (List UInt8))(f g:F):F.val ys (pr 5 f g)=(F.val ys f&&F.val ys g):=by
 rw[F.val_eq];simp[pr,mu,F.op_mk,F.args_mk]
theorem qvy(ys:List (List UInt8))(f g:F):F.val ys (pr 6 f g)=(F.val ys f || F.val ys g):=by
 rw[F.val_eq];simp[pr,mu,F.op_mk,F.args_mk]
theorem quu(ys:List (List UInt8))(a:List UInt8):F.val ys (atF a)=ys.contains a:=by
 rw[F.val_eq];simp[atF,mu,F.op_mk,F.name_mk]
theorem qia(ys:List (List UInt8))(a:List UInt8):F.val ys (lk a) = !ys.contains a:=by
 rw[F.val_eq];simp[lk,mu,F.op_mk,F.args_mk,quu]
theorem qbk(ys:List (List UInt8)){f:F}(h:f.op=1):F.val ys f=true:=by rw[F.val_eq,mu];simp[h]
theorem qsj(ys:List (List UInt8)){f:F}(h:f.op=2):F.val ys f=false:=by rw[F.val_eq,mu];simp[h]
theorem a6o(ys:List (List UInt8))(a:List UInt8)(t f:F):F.val ys (sn a t f)=if ys.contains a=true then F.val ys t else F.val ys f:=by
 unfold sn
 by_cases h1:F.beq t f=true
 · rw[if_pos h1,F.beq_true t f h1];simp
 rw[if_neg h1]
 by_cases h2:t.op=1∧f.op=2
 · rw[if_pos h2,quu,qbk ys h2.1,qsj ys h2.2];cases ys.contains a<;>rfl
 rw[if_neg h2]
 by_cases h3:t.op=1
 · rw[if_pos h3,qvy,quu,qbk ys h3];cases ys.contains a<;>simp
 rw[if_neg h3]
 by_cases h4:t.op=2∧f.op=1
 · rw[if_pos h4,qia,qsj ys h4.1,qbk ys h4.2];cases ys.contains a<;>rfl
 rw[if_neg h4]
 by_cases h5:t.op=2
 · rw[if_pos h5,qxq,qia,qsj ys h5];cases ys.contains a<;>simp
 rw[if_neg h5]
 by_cases h6:f.op=1
 · rw[if_pos h6,qvy,qia,qbk ys h6];cases ys.contains a<;>simp
 rw[if_neg h6]
 by_cases h7:f.op=2
 · rw[if_pos h7,qxq,quu,qsj ys h7];cases ys.contains a<;>simp
 rw[if_neg h7,qvy,qxq,qxq,quu,qia];cases ys.contains a<;>simp
def Thy(bm:List (List UInt8))(f:F):Prop:=good f=true∧f.size+6≤7*2^bm.length∧f.depth≤2*bm.length+1∧∀ s∈F.atomL f,s∈bm
theorem qkj(bm:List (List UInt8)){o:Int}(h:o=1∨o=2):Thy bm (F.mk o [] []):=by
 have hp:0<2^bm.length:=Nat.pow_pos (by omega)
 refine ⟨by rcases h with rfl|rfl<;>rfl,by simp only[F.size,F.sizes];omega,by simp[F.depth,F.depths],?_⟩
 rcases h with rfl|rfl<;>simp[F.atomL,F.atomLs]
theorem qjr{o:Int}{s:List UInt8}{l:List F}(h1:be (F.mk o s l)=true)(h2:named (F.mk o s l)=true)(h3:∀ g∈l,good g=true):good (F.mk o s l)=true:=by
 unfold good;rw[F.allF_eq,F.allF_eq named,h1,h2,F.args_mk,Bool.true_and,Bool.true_and,and_eq_true,qof,qof,all_eq_true,all_eq_true];refine ⟨fun g hg=>?_,fun g hg=>?_⟩
 · have:=h3 g hg;simp only[good,and_eq_true] at this;exact this.1
 · have:=h3 g hg;simp only[good,and_eq_true] at this;exact this.2
theorem anc{a:List UInt8}(h:al a=true):good (atF a)=true:=qjr rfl (by simp[named,F.op_mk,F.name_mk,h]) (by simp)
theorem asu{a:List UInt8}(h:al a=true):good (lk a)=true:=qjr rfl rfl (by simp[anc h])
theorem qvh{o:Int}{f g:F}(ho:o=5∨o=6)(hf:good f=true)(hg:good g=true):good (pr o f g)=true:=by
 rcases ho with rfl|rfl
 · exact qjr rfl rfl (by simp[hf,hg])
 · exact qjr rfl rfl (by simp[hf,hg])
theorem ahp{o:Int}(ho:o≠3)(f g:F):F.atomL (pr o f g)=F.atomL f++F.atomL g:=by
 simp[pr,F.atomL,F.atomLs]
theorem qpj(a:List UInt8):F.atomL (atF a)=[a]:=by simp[atF,F.atomL]
theorem qql(a:List UInt8):F.atomL (lk a)=[a]:=by simp[lk,F.atomL,F.atomLs,qpj]
theorem a38{a:List UInt8}{l:List (List UInt8)}(ha:al a=true){t f:F}(ht:Thy l t)(hf:Thy l f):Thy (a::l) (sn a t f):=by
 obtain ⟨t1,t2,t3,t4⟩:=ht;obtain ⟨f1,f2,f3,f4⟩:=hf;have hp:2^(a::l).length=2*2^l.length:=by rw[length_cons,pow_succ];omega
 have hp0:0<2^l.length:=Nat.pow_pos (by omega)
 have s5:∀ (o:Int) (f g:F),(pr o f g).size=1+(f.size+g.size):=fun o f g=>by simp[pr,F.size,F.sizes]
 have d5:∀ (o:Int) (f g:F),(pr o f g).depth=max (1+f.depth) (1+g.depth):=fun o f g=>by simp[pr,F.depth,F.depths]
 have s1:(atF a).size=1:=by simp[atF,F.size,F.sizes]
 have s2:(lk a).size=2:=by simp[lk,F.size,F.sizes,s1]
 have e1:(atF a).depth=0:=by simp[atF,F.depth,F.depths]
 have e2:(lk a).depth=1:=by simp[lk,F.depth,F.depths,e1]
 have hl:(a::l).length=l.length+1:=rfl;have hc:∀ s∈F.atomL t,s∈a::l:=fun s hs=>List.mem_cons_of_mem _ (t4 s hs)
 have hd:∀ s∈F.atomL f,s∈a::l:=fun s hs=>List.mem_cons_of_mem _ (f4 s hs)
 have ga:=anc ha;have gn:=asu ha;have h6:∀ f g:F,F.atomL (pr 6 f g)=F.atomL f++F.atomL g:=ahp (by decide)
 have h5:∀ f g:F,F.atomL (pr 5 f g)=F.atomL f++F.atomL g:=ahp (by decide)
 unfold sn Thy;rw[hp,hl]
 (repeat' split)
 · exact ⟨t1,by omega,by omega,hc⟩
 · exact ⟨ga,by omega,by omega,by rw[qpj];simp⟩
 · exact ⟨qvh (.inr rfl) ga f1,by rw[s5];omega,by rw[d5];omega,by rw[h6,qpj];simpa using hd⟩
 · exact ⟨gn,by omega,by omega,by rw[qql];simp⟩
 · exact ⟨qvh (.inl rfl) gn f1,by rw[s5];omega,by rw[d5];omega,by rw[h5,qql];simpa using hd⟩
 · exact ⟨qvh (.inr rfl) gn t1,by rw[s5];omega,by rw[d5];omega,by rw[h6,qql];simpa using hc⟩
 · exact ⟨qvh (.inl rfl) ga t1,by rw[s5];omega,by rw[d5];omega,by rw[h5,qpj];simpa using hc⟩
 · refine ⟨qvh (.inr rfl) (qvh (.inl rfl) ga t1) (qvh (.inl rfl) gn f1),by rw[s5,s5,s5];omega,by rw[d5,d5,d5];omega,fun s hs=>?_⟩
   rw[h6,h5,h5,qpj,qql] at hs;simp only[mem_append,mem_singleton] at hs;rcases hs with (rfl|hs)|(rfl|hs)
   · simp
   · exact hc s hs
   · simp
   · exact hd s hs
theorem qbp:∀ {bm:List (List UInt8)},ec bm=true→∀ S:BitVec 64,Thy bm (thy bm S)
 | [],_,S=>by
  unfold thy
  split
  · exact qkj [] (.inr rfl)
  · exact qkj [] (.inl rfl)
 | a::l,h,S=>by
  unfold thy
  split
  · exact qkj _ (.inr rfl)
  · split
    · exact qkj _ (.inl rfl)
    · exact a38 (by simp only[ec,and_eq_true] at h;exact h.1) (qbp (qhf h) _) (qbp (qhf h) _)
theorem a32{a:List UInt8}{l:List (List UInt8)}(h:ec (a::l)=true){f:F}(hf:Thy l f)(ys:List (List UInt8)):F.val (a::ys) f=F.val ys f:=by
 refine aqu _ _ f hf.1 fun s hs=>?_
 have:=(List.pairwise_cons.1 (qyh h).1).1 s (hf.2.2.2 s hs);have dc:s≠a:=fun e=>by subst e;exact List.lt_irrefl _ this
 simp[dc]
theorem qek:∀ {bm:List (List UInt8)},ec bm=true→bm.length≤6→∀ (S:BitVec 64) (w:Nat),w<2^bm.length→F.val (fm bm w) (thy bm S)=S.getLsbD w
 | [],_,_,S,w,hw=>by
  have hw0:w=0:=by simpa using hw
  subst hw0
  have h0:S&&&bc (fun _=>true) (2^0)=0#64↔S.getLsbD 0=false:=by
   rw[qzv]
   constructor
   · intro h;have:=h 0 (by omega)
     rw[getLsbD_and,qk _ _ _ (by decide)] at this
     simpa using this
   · intro h v hv;rw[getLsbD_and,qk _ _ _ (by decide)]
     by_cases hv0:v=0
     · subst hv0;rw[h];rfl
     · simp[hv0]
  unfold thy
  by_cases h:S&&&bc (fun _=>true) (2^0)=0#64
  · rw[if_pos h,qsj _ rfl,h0.1 h]
  · rw[if_neg h,qbk _ rfl];cases hs:S.getLsbD 0 with
    | true=>rfl
    | false=>exact absurd (h0.2 hs) h
 | a::l,h,h6,S,w,hw=>by
  have hN:2^(l.length+1)≤64:=lq h6;have wv:w<2^(l.length+1):=hw
  have aei:∀ v,(S&&&bc (fun _=>true) (2^(l.length+1))).getLsbD v=(S.getLsbD v&&decide (v<2^(l.length+1))):=fun v=>by
   rw[getLsbD_and,qk _ _ _ hN];simp
  unfold thy
  by_cases h1:S&&&bc (fun _=>true) (2^(l.length+1))=0#64
  · rw[if_pos h1,qsj _ rfl];have:=aei w;rw[h1] at this
    simpa [wv] using this
  rw[if_neg h1]
  by_cases h2:S&&&bc (fun _=>true) (2^(l.length+1))=bc (fun _=>true) (2^(l.length+1))
  · rw[if_pos h2,qbk _ rfl];have:=aei w;rw[h2,qk _ _ _ hN] at this
    simpa [wv] using this
  rw[if_neg h2,a6o];have hl:=qhf h;have w0:l.length≤6:=by simp only[length_cons] at h6;omega
  have hpw:2^(l.length+1)=2*2^l.length:=by rw[pow_succ];omega
  have hu:w / 2<2^l.length:=by omega
  have hac:(fm (a::l) w).contains a=decide (w % 2=1):=by
   have:=ah6 (qyh h).1 (i:=0) (w:=w) (by simp)
   simp only[List.getElem_cons_zero,Nat.pow_zero,Nat.div_one] at this;cases hd:decide (w % 2=1) with
   | true=>rw[decide_eq_true_eq] at hd;simpa using this.2 hd
   | false=>rw[decide_eq_false_iff_not] at hd;simpa using fun h=>hd (this.1 h)
  rw[hac];rcases Nat.mod_two_eq_zero_or_one w with hb|hb
  · rw[if_neg (by simp[hb])]
    have hy:fm (a::l) w=fm l (w / 2):=by simp[fm,hb]
    rw[hy,qek hl w0 _ _ hu,aj2 (by omega) (by omega)]
    congr 1;omega
  · rw[if_pos (by simp[hb])]
    have hy:fm (a::l) w=a::fm l (w / 2):=by simp[fm,hb]
    rw[hy,a32 h (qbp hl _),qek hl w0 _ _ hu,aj2 (by omega) (by omega)]
    congr 1;omega
open Go
abbrev has(X:BitVec 64)(w:Nat):Prop:=X.getLsbD w=true
theorem qya{X:BitVec 64}{w:Nat}(h:has X w):w<64:=by
 refine Decidable.byContradiction fun hn=>?_
 have:=BitVec.getLsbD_of_ge X w (by omega)
 rw[has,this] at h;cases h
theorem qy{X Y:BitVec 64}{w:Nat}:has (X&&&Y) w↔has X w∧has Y w:=by simp[has]
theorem qic{X Y:BitVec 64}{w:Nat}:has (X|||Y) w↔has X w∨has Y w:=by simp[has]
theorem qfb{X Y:BitVec 64}{w:Nat}:has (X &&& ~~~Y) w↔has X w∧¬ has Y w:=by
 constructor
 · intro h;have hw:=qya h
   simpa [has,hw] using h
 · rintro ⟨h1,h2⟩;have hw:=qya h1
   simpa [has,hw,h1] using h2
theorem qfd{p:Nat→Bool}{n w:Nat}(hn:n≤64):has (bc p n) w↔w<n∧p w=true:=by rw[has,qk _ _ _ hn];simp
theorem qwj{w:Nat}:has (allOnes 64) w↔w<64:=by rw[has,BitVec.getLsbD_allOnes];simp
theorem qzb{X Y:BitVec 64}(h:∀ w,has X w↔has Y w):X=Y:=qxe fun w _=>by
 have:=h w;cases hx:X.getLsbD w<;>cases hy:Y.getLsbD w<;>simp[has,hx,hy] at this<;>rfl
theorem qxb{X:BitVec 64}:X=0#64↔∀ w,¬ has X w:=by
 constructor
 · rintro rfl w h;simp[has] at h
 · intro h;exact qzb fun w=>⟨fun hx=>absurd hx (h w),fun h0=>by simp[has] at h0⟩
theorem aon{X Y:BitVec 64}:X &&& ~~~Y=0#64↔∀ w,has X w→has Y w:=by
 rw[qxb]
 constructor
 · intro h w hx;exact Classical.byContradiction fun hy=>h w (qfb.2 ⟨hx,hy⟩)
 · intro h w hw;rw[qfb] at hw;exact hw.2 (h w hw.1)
theorem qph{X:BitVec 64}(h:X≠0#64):∃ w,has X w:=Classical.byContradiction fun hn=>h (qxb.2 fun w hw=>hn ⟨w,hw⟩)
theorem qgd{X:BitVec 64}{w:Nat}(h:has X w):X≠0#64:=fun h0=>(qxb.1 h0) w h
theorem afx(r:Nat→Int)(P:Nat→Prop):∀ N:Nat,(∃ v,v<N∧P v)→∃ w,w<N∧P w∧∀ v,v<N→P v→r w≤r v
 | 0,⟨v,h,_⟩=>by omega
 | N+1,⟨v,hv,hp⟩=>by
  by_cases hN:∃ v,v<N∧P v
  · obtain ⟨w,h1,h2,h3⟩:=afx r P N hN
    by_cases hc:P N∧r N<r w
    · refine ⟨N,by omega,hc.1,fun u hu hpu=>?_⟩
      by_cases huN:u=N
      · subst huN;omega
      · have:=h3 u (by omega) hpu;omega
    · refine ⟨w,by omega,h2,fun u hu hpu=>?_⟩
      by_cases huN:u=N
      · subst huN;have:¬ r u<r w:=fun h=>hc ⟨hpu,h⟩
        omega
      · exact h3 u (by omega) hpu
  · have:v=N:=Classical.byContradiction fun h=>hN ⟨v,by omega,hp⟩
    subst this;refine ⟨v,by omega,hp,fun u hu hpu=>?_⟩
    by_cases huN:u=v
    · subst huN;omega
    · exact absurd ⟨u,by omega,hpu⟩ hN
structure Lst(N:Nat)(r:Nat→Int)(L:BitVec 64→BitVec 64):Prop where
 le:N≤64
 get:∀ S w,has (L S) w↔w<N∧has S w∧∀ v,v<N→has S v→r w≤r v
theorem Lst.ex{N:Nat}{r:Nat→Int}{L:BitVec 64→BitVec 64}(h:Lst N r L){S:BitVec 64}{v:Nat}(hv:v<N)(hs:has S v):∃ w,has (L S) w:=by
 obtain ⟨w,h1,h2,h3⟩:=afx r (fun v=>has S v) N ⟨v,hv,hs⟩
 exact ⟨w,(h.get S w).2 ⟨h1,h2,h3⟩⟩
theorem qld{aa:List (List UInt8)}{ranks:List Int}(h:bi aa ranks=0):Lst ranks.length (fun w=>ranks.getD w (-1)) (bq aa ranks):=
 ⟨(qhb h).1,fun S w=>apu h S w⟩
section
variable {N:Nat}{r:Nat→Int}{L:BitVec 64→BitVec 64}(hL:Lst N r L)
include hL
theorem Lst.top(w:Nat):has (L (allOnes 64)) w↔w<N∧∀ v,v<N→r w≤r v:=by
 rw[hL.get]
 constructor
 · rintro ⟨h1,_,h3⟩;exact ⟨h1,fun v hv=>h3 v hv (qwj.2 (by have:=hL.le;omega))⟩
 · rintro ⟨h1,h2⟩;exact ⟨h1,qwj.2 (by have:=hL.le;omega),fun v hv _=>h2 v hv⟩
variable {A M K:BitVec 64}(hA:∀ w,has A w↔w<N)(hM:∀ w,has M w→w<N)(hK:∀ w,has K w→w<N)
include hA
theorem Lst.rest(w:Nat):has (L (A &&& ~~~M)) w↔w<N∧¬ has M w∧∀ v,v<N→¬ has M v→r w≤r v:=by
 rw[hL.get,qfb]
 constructor
 · rintro ⟨h1,⟨_,h2⟩,h3⟩;exact ⟨h1,h2,fun v hv hm=>h3 v hv (qfb.2 ⟨(hA v).2 hv,hm⟩)⟩
 · rintro ⟨h1,h2,h3⟩;exact ⟨h1,⟨(hA w).2 h1,h2⟩,fun v hv hm=>h3 v hv (qfb.1 hm).2⟩
end
def Wth(N:Nat)(r:Nat→Int)(M W:BitVec 64):Prop:=∀ w,has W w↔w<N∧((∃ u,u<N∧¬ has M u)→∀ v,v<N→¬ has M v→r w≤r v)∧((∀ u,u<N→has M u)→∀ v,v<N→r w≤r v)
section
variable {N:Nat}{r:Nat→Int}{L:BitVec 64→BitVec 64}(hL:Lst N r L){A M K W V:BitVec 64}(hA:∀ w,has A w↔w<N)(hM:∀ w,has M w→w<N)(hW:Wth N r M W)(hV:Wth N r K V)
include hL hW
end
end Am

namespace Am
open Go
def dh(aa:List (List UInt8))(ranks:List Int):BitVec 64:=bq aa ranks (allOnes 64)
theorem quv{bm:List (List UInt8)}{f:F}(hv:cu bm=true)(hg:good f=true)(hs:f.size≤600)(hd:f.depth≤20)(ha:∀ s∈F.atomL f,s∈bm):bv bm f=0∧cj bm f=it bm f (2^bm.length):=by
 have h1:ca f=0:=by
  have h1:¬ (f.size:Int)>600:=by omega
  have h2:¬ (f.depth:Int)>20:=by omega
  simp only[good,and_eq_true] at hg;simp[ca,h1,h2,hg.1,hg.2]
 have h2:p6 bm f=true:=by
  unfold p6;rw[all_eq_true];intro s hs;have:=ha s ((qfn _ s).1 hs)
  simpa using this
 have h3:bv bm f=0:=by simp[bv,hv,h1,h2]
 exact ⟨h3,by rw[cj,if_pos h3]⟩
theorem azc{bm:List (List UInt8)}{f:F}{w:Nat}(hv:bm.length≤6):has (it bm f (2^bm.length)) w↔w<2^bm.length∧F.val (fm bm w) f=true:=qfd (lq hv)
theorem azd{bm:List (List UInt8)}(hv:cu bm=true)(S:BitVec 64):bv bm (thy bm S)=0∧cj bm (thy bm S)=S&&&ny bm:=by
 obtain ⟨t1,t2,t3,t4⟩:=qbp (qvc hv) S;have h6:=qnb hv;have hp:=lq h6;obtain ⟨h1,h2⟩:=quv hv t1 (by omega) (by omega) t4
 refine ⟨h1,?_⟩;rw[h2];refine qzb fun w=>?_
 unfold ny;rw[if_pos hv,azc h6,qy,qfd hp]
 constructor
 · rintro ⟨a,b⟩;rw[qek (qvc hv) h6 S w a] at b;exact ⟨b,a,rfl⟩
 · rintro ⟨a,b,_⟩;exact ⟨b,by rw[qek (qvc hv) h6 S w b];exact a⟩
def ii(l:List Int):List Int:=l.mergeSort fun x y=>decide (x≤y)
theorem qqn(l:List Int):(ii l).length=l.length:=by simp[ii]
theorem aqk(l:List Int)(x:Int):x∈ii l↔x∈l:=List.mem_mergeSort
theorem qqk(l:List Int):(ii l).Pairwise fun x y=>x≤y:=by
 have:=List.pairwise_mergeSort (le:=fun x y:Int=>decide (x≤y)) (fun a b c h1 h2=>by simp only[decide_eq_true_eq] at *;omega) (fun a b=>by simp only[Bool.or_eq_true,decide_eq_true_eq];omega) l
 exact this.imp fun h=>by simpa using h
theorem alk{zs:List Int}(hs:zs.Pairwise fun x y=>x≤y):∀ m,m≤zs.length→
 (∀ x,x∈Lib.compactUpTo zs.toArray m↔x∈zs.take m)∧(Lib.compactUpTo zs.toArray m).Pairwise (fun x y=>x<y)∧∀ x∈Lib.compactUpTo zs.toArray m,∀ (h:m-1<zs.length),x≤zs[m-1]:=by
 intro m
 induction m with
 | zero=>intro _;simp[Lib.compactUpTo]
 | succ m ih=>
  intro hm;obtain ⟨h1,h2,h3⟩:=ih (by omega)
  have hg:zs.toArray[m]! = zs[m]:=by simp[show m<zs.length by omega]
  have j7:∀ x∈zs.take m,x≤zs[m]:=by
   intro x hx;obtain ⟨i,hi,rfl⟩:=List.getElem_of_mem hx;simp only[List.length_take] at hi;rw[List.getElem_take];exact List.pairwise_iff_getElem.1 hs i m (by omega) (by omega) (by omega)
  rw[Lib.compactUpTo_succ]
  by_cases hk:Lib.keeps zs.toArray m=true
  · rw[if_pos hk,hg];refine ⟨fun x=>?_,?_,?_⟩
    · rw[mem_append,h1,← qpi (show m<zs.length by omega),mem_append]
    · rw[List.pairwise_append];refine ⟨h2,by simp,fun x hx y hy=>?_⟩
      simp only[mem_singleton] at hy;subst hy;have na:=(h1 x).1 hx;rcases Nat.eq_zero_or_pos m with rfl|hm0
      · simp at na
      · have hx3:=h3 x hx (by omega)
        have cf:zs[m-1]≤zs[m]:=List.pairwise_iff_getElem.1 hs (m-1) m (by omega) (by omega) (by omega)
        have dc:zs[m]≠zs[m-1]:=by
         unfold Lib.keeps at hk;simp only[decide_eq_true_eq] at hk;have xz:zs.toArray[m-1]! = zs[m-1]:=by simp[show m-1<zs.length by omega]
         rw[hg,xz] at hk;rcases hk with h|h
         · omega
         · exact h
        have hxm:=Int.le_trans hx3 cf;exact Decidable.byContradiction fun hn=>dc (Int.le_antisymm (Int.le_trans (Int.not_lt.1 hn) hx3) cf)
    · intro x hx h;simp only[Nat.add_sub_cancel];rcases List.mem_append.1 hx with hx|hx
      · exact j7 x ((h1 x).1 hx)
      · simp only[mem_singleton] at hx;subst hx;exact Int.le_refl _
  · rw[if_neg hk,List.append_nil]
    have hm0:0<m∧zs[m]=zs[m-1]:=by
     unfold Lib.keeps at hk;simp only[decide_eq_true_eq,not_or,Decidable.not_not] at hk;have xz:zs.toArray[m-1]! = zs[m-1]:=by simp[show m-1<zs.length by omega]
     rw[hg,xz] at hk;exact ⟨by omega,hk.2⟩
    refine ⟨fun x=>?_,h2,?_⟩
    · rw[h1,← qpi (show m<zs.length by omega),mem_append]
      constructor
      · exact .inl
      · rintro (h|h)
        · exact h
        · simp only[mem_singleton] at h;rw[h,hm0.2];exact List.mem_take_iff_getElem.2 ⟨m-1,by omega,rfl⟩
    · intro x hx h;exact j7 x ((h1 x).1 hx)
def jq(l:List Int):List Int:=Lib.compact (ii l)
theorem qmo(l:List Int)(x:Int):x∈jq l↔x∈l:=by
 unfold jq Lib.compact;rw[(alk (qqk l) _ (le_refl _)).1,take_length,aqk]
theorem qzj(l:List Int):(jq l).Pairwise fun x y=>x<y:=by
 unfold jq Lib.compact;exact (alk (qqk l) _ (le_refl _)).2.1
theorem awq(l:List Int):(jq l).length≤l.length:=qff ((qzj l).imp fun h e=>by subst e;exact Int.lt_irrefl _ h) fun x hx=>(qmo l x).1 hx
def jw(t:Int)(l:List Int):Nat:=(l.filter fun x=>decide (x<t)).length
theorem azj(t:Int)(l:List Int):jw t l≤l.length:=List.length_filter_le _ _
theorem qdp:∀ {l:List Int},l.Pairwise (fun x y=>x<y)→∀ (t:Int) (i:Nat) (hi:i<l.length),l[i]<t↔i<jw t l
 | [],_,_,i,hi=>by simp at hi
 | a::l,h,t,i,hi=>by
  have h':=List.pairwise_cons.1 h;unfold jw
  by_cases ha:a<t
  · rw[List.filter_cons_of_pos (by simpa using ha)]
    cases i with
    | zero=>simp[ha]
    | succ i=>
     have:=qdp h'.2 t i (by simpa using hi)
     unfold jw at this;simp only[List.getElem_cons_succ,length_cons];omega
  · rw[List.filter_cons_of_neg (by simpa using ha)]
    have wi:l.filter (fun x=>decide (x<t))=[]:=List.filter_eq_nil_iff.2 fun x hx=>by
     have:=h'.1 x hx;simp;omega
    rw[wi];cases i with
    | zero=>simp only[List.getElem_cons_zero,length_nil];omega
    | succ i=>
     have:=h'.1 _ (getElem_mem (show i<l.length by simpa using hi))
     simp only[List.getElem_cons_succ,length_nil];omega
theorem qsx(r:Int)(l:List Int):jw r (jq l)=(ci r l).length:=by
 unfold jw;have hn:((jq l).filter fun x=>decide (x<r)).Nodup:=((qzj l).imp (S:=fun a b=>a≠b) fun h e=>by subst e;exact Int.lt_irrefl _ h).filter _
 refine qrq hn (qec r l) fun x=>?_
 rw[List.mem_filter,qmo,qmb];simp
abbrev alW(n:Nat):BitVec 64:=bc (fun _=>true) (2^n)
def Sub(n:Nat)(X:BitVec 64):Prop:=∀ w,has X w→w<2^n
theorem qyl{n:Nat}(hn:n≤6){X:BitVec 64}(h:Sub n X):X&&&alW n=X:=qzb fun w=>by
 rw[qy,qfd (lq hn)];exact ⟨fun h=>h.1,fun hw=>⟨hw,h w hw,rfl⟩⟩
theorem apn{n:Nat}(hn:n≤6)(X:BitVec 64):Sub n (X&&&alW n):=fun w hw=>by
 rw[qy,qfd (lq hn)] at hw;exact hw.2.1
theorem qkp{X:BitVec 64}{b n u:Nat}(hn:n≤5)(hb:b<2):has (hf X b (2^(n+1))) u↔2*u+b<2^(n+1)∧has X (2*u+b):=by
 have hp:=lq (show n+1≤6 by omega)
 unfold hf;rw[qfd (le_refl _)];simp only[and_eq_true,decide_eq_true_eq,has]
 constructor
 · exact fun h=>h.2
 · exact fun h=>⟨by omega,h⟩
theorem adr{X:BitVec 64}{b n:Nat}(hn:n≤5)(hb:b<2):Sub n (hf X b (2^(n+1))):=fun u hu=>by
 have:=((qkp hn hb).1 hu).1;rw[pow_succ] at this;omega
theorem ah5{a:List UInt8}{t f:F}{o:Int}(h:(sn a t f).op=o)(ho:o=1∨o=2):F.beq t f=true∧t.op=o:=by
 unfold sn at h
 by_cases h1:F.beq t f=true
 · rw[if_pos h1] at h;exact ⟨h1,h⟩
 rw[if_neg h1] at h
 exfalso
 repeat' split at h
 all_goals (simp only[atF,lk,pr,F.op_mk] at h;omega)
theorem qfz:∀ (bm:List (List UInt8)),bm.length≤6→∀ X:BitVec 64,Sub bm.length X→((thy bm X).op=1→X=alW bm.length)∧((thy bm X).op=2→X=0#64)
 | [],_,X,hX=>by
  have e:=qyl (n:=0) (by omega) hX
  unfold alW at e;unfold thy;rw[e]
  by_cases h0:X=0#64
  · rw[if_pos h0];simp[F.op_mk,h0]
  · rw[if_neg h0];refine ⟨fun _=>?_,fun h=>by simp[F.op_mk] at h⟩
    obtain ⟨w,hw⟩:=qph h0;have hw0:w=0:=by have:=hX w hw;simpa using this
    subst hw0;refine qzb fun v=>?_
    unfold alW;rw[qfd (by simp)]
    constructor
    · exact fun hv=>⟨hX v hv,rfl⟩
    · rintro ⟨hv,_⟩;have:v=0:=by simpa using hv
      rw[this];exact hw
 | a::l,h6,X,hX=>by
  have hl:l.length≤5:=by simp only[length_cons] at h6;omega
  have e:=qyl (n:=l.length+1) (by omega) hX
  unfold alW at e;unfold thy;rw[e]
  show (_→X=alW (l.length+1))∧_
  by_cases h0:X=0#64
  · rw[if_pos h0];simp[F.op_mk,h0]
  rw[if_neg h0]
  by_cases h1:X=bc (fun _=>true) (2^(l.length+1))
  · rw[if_pos h1];exact ⟨fun _=>h1,fun h=>by simp[F.op_mk] at h⟩
  rw[if_neg h1];have i1:=qfz l (by omega) (hf X 1 (2^(l.length+1))) (adr hl (by omega))
  have i0:=qfz l (by omega) (hf X 0 (2^(l.length+1))) (adr hl (by omega))
  have hp:2^(l.length+1)=2*2^l.length:=by rw[pow_succ];omega
  have back:∀ w,has X w→∃ u b,b<2∧w=2*u+b∧has (hf X b (2^(l.length+1))) u:=fun w hw=>
   ⟨w / 2,w % 2,by omega,by omega,(qkp hl (by omega)).2 ⟨by have:=hX w hw;simp only[length_cons] at this;omega,by rw[show 2*(w / 2)+w % 2=w by omega];exact hw⟩⟩
  constructor
  · intro ho;obtain ⟨hb,ht⟩:=ah5 ho (.inl rfl);have hbe:=F.beq_true _ _ hb;have e1:=i1.1 ht;have e0:=i0.1 (hbe ▸ ht);refine qzb fun w=>?_
    unfold alW;rw[qfd (lq (by omega))]
    constructor
    · exact fun hw=>⟨hX w hw,rfl⟩
    · rintro ⟨hw,_⟩
      have key:∀ b,b<2→w % 2=b→hf X b (2^(l.length+1))=alW l.length→has X w:=fun b hb ml he=>by
       have h2:has (hf X b (2^(l.length+1))) (w / 2):=by
        rw[he];unfold alW;rw[qfd (lq (by omega))];exact ⟨by omega,rfl⟩
       have:=((qkp hl hb).1 h2).2
       rwa [show 2*(w / 2)+b=w by omega] at this
      by_cases tq:w % 2=1
      · exact key 1 (by omega) tq e1
      · exact key 0 (by omega) (by omega) e0
  · intro ho;obtain ⟨hb,ht⟩:=ah5 ho (.inr rfl);have hbe:=F.beq_true _ _ hb;have e1:=i1.2 ht;have e0:=i0.2 (hbe ▸ ht);refine qxb.2 fun w hw=>?_
    obtain ⟨u,b,o9,_,hu⟩:=back w hw;obtain rfl|rfl:b=0∨b=1:=by omega
    · rw[e0] at hu;exact qxb.1 rfl u hu
    · rw[e1] at hu;exact qxb.1 rfl u hu
theorem aw3{bm:List (List UInt8)}:(thy bm 0#64).op=2:=by
 cases bm with
 | nil=>unfold thy;rw[if_pos (by simp)];rfl
 | cons a l=>unfold thy;rw[if_pos (by simp)];rfl
theorem ahw{n:Nat}(hn:n≤6):alW n≠0#64:=fun h=>(qxb.1 h) 0 (by unfold alW;rw[qfd (lq hn)];exact ⟨Nat.two_pow_pos n,rfl⟩)
theorem ara{bm:List (List UInt8)}(h6:bm.length≤6):(thy bm (alW bm.length)).op=1:=by
 cases bm with
 | nil=>
  have:=ahw (n:=0) (by omega)
  unfold alW at this ⊢;unfold thy;rw[if_neg (by simp only[length_nil,BitVec.and_self];exact this)];rfl
 | cons a l=>
  have:=ahw (n:=l.length+1) h6;unfold alW at this ⊢;unfold thy;simp only[length_cons,BitVec.and_self];rw[if_neg this,if_pos trivial];rfl
theorem qxy{bm:List (List UInt8)}(h6:bm.length≤6){X:BitVec 64}(hX:Sub bm.length X):(thy bm X).op=1↔X=alW bm.length:=
 ⟨(qfz bm h6 X hX).1,fun h=>by rw[h];exact ara h6⟩
theorem qnx{bm:List (List UInt8)}(h6:bm.length≤6){X:BitVec 64}(hX:Sub bm.length X):(thy bm X).op=2↔X=0#64:=
 ⟨(qfz bm h6 X hX).2,fun h=>by rw[h];exact aw3⟩
theorem a1w{bm:List (List UInt8)}(hv:ec bm=true)(h6:bm.length≤6){X Y:BitVec 64}(hX:Sub bm.length X)(hY:Sub bm.length Y)(h:thy bm X=thy bm Y):X=Y:=qzb fun w=>by
 by_cases hw:w<2^bm.length
 · have a:=qek hv h6 X w hw;have b:=qek hv h6 Y w hw;rw[h] at a;unfold has;rw[← a,← b]
 · exact ⟨fun h=>absurd (hX w h) hw,fun h=>absurd (hY w h) hw⟩
def sp(X:BitVec 64)(b i:Nat):BitVec 64:=bc (fun u=>X.getLsbD (2*u+b)) i
theorem aj8{X:BitVec 64}{b n:Nat}(hn:n≤5)(hb:b<2)(hX:Sub (n+1) X):sp X b 32=hf X b (2^(n+1)):=qzb fun u=>by
 rw[qkp hn hb];unfold sp;rw[qfd (by omega)]
 have hp:=lq (show n+1≤6 by omega)
 constructor
 · exact fun h=>⟨hX _ h.2,h.2⟩
 · exact fun h=>⟨by omega,h.2⟩
theorem aiv(X:BitVec 64)(b:Nat):sp X b 0=0#64:=rfl
theorem an6(X:BitVec 64)(b i:Nat)(hi:i<32):sp X b i|||((X >>> (2*i+b))&&&1#64) <<< i=sp X b (i+1):=by
 refine qxe fun w hw=>?_
 unfold sp;rw[BitVec.getLsbD_or,qk _ _ _ (by omega),qk _ _ _ (by omega),BitVec.getLsbD_shiftLeft,getLsbD_and,BitVec.getLsbD_ushiftRight]
 by_cases h:w<i
 · have h1:w<i+1:=by omega
   simp[h,h1,hw]
 · by_cases h2:w=i
   · subst h2;simp[hw]
   · have h3:¬ w<i+1:=by omega
     have h4:¬ w-i=0:=by omega
     have h5:(1#64).getLsbD (w-i)=false:=by
      rw[BitVec.getLsbD_one];simp;omega
     simp[h,h3,h5]
theorem ah4{X:BitVec 64}{b n:Nat}(hn:n≤5)(hb:b<2):hf (X&&&alW (n+1)) b (2^(n+1))=hf X b (2^(n+1)):=qzb fun u=>by
 rw[qkp hn hb,qkp hn hb,qy,qfd (lq (by omega))]
 exact ⟨fun h=>⟨h.1,h.2.1⟩,fun h=>⟨h.1,h.2,h.1,rfl⟩⟩
theorem awj{bm:List (List UInt8)}(h6:bm.length≤6)(X:BitVec 64):thy bm (X&&&alW bm.length)=thy bm X:=by
 cases bm with
 | nil=>
  unfold thy alW;rw[length_nil,BitVec.and_assoc,BitVec.and_self]
 | cons a l=>
  have h5:l.length≤5:=by simp only[length_cons] at h6;omega
  have e1:=ah4 (X:=X) (b:=1) h5 (by omega)
  have e0:=ah4 (X:=X) (b:=0) h5 (by omega)
  unfold alW at e1 e0;unfold thy alW;rw[length_cons,BitVec.and_assoc,BitVec.and_self,e1,e0]
def aci(bm:List (List UInt8))(S:BitVec 64):F × Int:=if cu bm=true then (thy bm S,0) else (F.mk 0 [] [],1)
theorem qyq{f:F}(h:ca f=0):f.size≤600∧f.depth≤20∧good f=true:=by
 unfold ca at h
 split at h
 · simp at h
 · rename_i h1;simp only[Bool.or_eq_true,decide_eq_true_eq,not_or] at h1
   split at h
   · simp at h
   · rename_i h2
     split at h
     · simp at h
     · rename_i h3;refine ⟨by omega,by omega,?_⟩
       simp only[Bool.not_eq_true,Bool.not_eq_false'] at h2 h3;simp[good,h2,h3]
theorem axd{f:F}(h:good f=true):F.allF aaz f=true:=qwu (fun g hg=>by simp only[agv,aaz,decide_eq_true_eq] at hg ⊢;omega) f (axn h)
theorem asr{n:Nat}(hn:n≤6){X:BitVec 64}(h:∀ w,has X w→w<2^n):X&&&ny (aq n)=X:=by
 have:ny (aq n)=alW n:=by unfold ny;rw[if_pos (qnd hn),qv]
 rw[this];exact qyl hn h
theorem qxn{n:Nat}(hn:n≤6)(X:BitVec 64):(thy (aq n) X).size<1000000000∧F.allF aaz (thy (aq n) X)=true:=by
 have:=qbp (qvc (qnd hn)) X;have h6:=lq hn;rw[Thy,qv] at this;exact ⟨by have:=this.2.1;omega,axd this.1⟩
def Pat(l m:List Int):Prop:=l.length=m.length∧∀ i j,i<l.length→j<l.length→(l.getD i 0<l.getD j 0↔m.getD i 0<m.getD j 0)
theorem Pat.symm{l m:List Int}(h:Pat l m):Pat m l:=⟨h.1.symm,fun i j hi hj=>(h.2 i j (h.1 ▸ hi) (h.1 ▸ hj)).symm⟩
theorem Pat.trans{l m k:List Int}(h:Pat l m)(h':Pat m k):Pat l k:=⟨h.1.trans h'.1,fun i j hi hj=>(h.2 i j hi hj).trans (h'.2 i j (h.1 ▸ hi) (h.1 ▸ hj))⟩
theorem Pat.eq{l m:List Int}(h:Pat l m){i j:Nat}(hi:i<l.length)(hj:j<l.length):l.getD i 0=l.getD j 0↔m.getD i 0=m.getD j 0:=by
 have h1:=h.2 i j hi hj;have h2:=h.2 j i hj hi
 constructor<;>intro e<;>omega
theorem gd{l:List Int}{i:Nat}(h:i<l.length):l.getD i 0=l[i]:=by simp[h]
theorem qev{l m:List Int}(h:Pat l m){i:Nat}(hi:i<l.length):∀ k,k≤l.length→
 ∃ js:List Nat,(∀ j∈js,j<l.length)∧(l.take k).foldl (cy (l.getD i 0)) []=js.map (fun j=>l.getD j 0)∧(m.take k).foldl (cy (m.getD i 0)) []=js.map (fun j=>m.getD j 0)
 | 0,_=>⟨[],by simp,by simp,by simp⟩
 | k+1,hk=>by
  obtain ⟨js,h1,h2,h3⟩:=qev h hi k (by omega)
  have hm:=h.1;have tl:l.take (k+1)=l.take k++[l.getD k 0]:=by rw[List.take_add_one,getElem?_eq_getElem (by omega),gd (by omega)];rfl
  have tm:m.take (k+1)=m.take k++[m.getD k 0]:=by rw[List.take_add_one,getElem?_eq_getElem (by omega),gd (by omega)];rfl
  rw[tl,tm,List.foldl_append,List.foldl_append,h2,h3];simp only[List.foldl_cons,List.foldl_nil];have e1:=h.2 k i (by omega) hi
  have e2:(l.getD k 0∈js.map fun j=>l.getD j 0)↔(m.getD k 0∈js.map fun j=>m.getD j 0):=by
   simp only[mem_map];exact ⟨fun ⟨j,hj,he⟩=>⟨j,hj,(h.eq (h1 j hj) (by omega)).1 he⟩,fun ⟨j,hj,he⟩=>⟨j,hj,(h.eq (h1 j hj) (by omega)).2 he⟩⟩
  by_cases c:l.getD k 0<l.getD i 0∧l.getD k 0 ∉ js.map fun j=>l.getD j 0
  · have c':m.getD k 0<m.getD i 0∧m.getD k 0 ∉ js.map fun j=>m.getD j 0:=⟨e1.1 c.1,fun hx=>c.2 (e2.2 hx)⟩
    refine ⟨js++[k],fun j hj=>?_,?_,?_⟩
    · rcases List.mem_append.1 hj with hj|hj
      · exact h1 j hj
      · simp only[mem_singleton] at hj;omega
    · unfold cy;rw[if_pos c];simp
    · unfold cy;rw[if_pos c'];simp
  · have c':¬ (m.getD k 0<m.getD i 0∧m.getD k 0 ∉ js.map fun j=>m.getD j 0):=fun ⟨a,b⟩=>c ⟨e1.2 a,fun hx=>b (e2.1 hx)⟩
    exact ⟨js,h1,by unfold cy;rw[if_neg c],by unfold cy;rw[if_neg c']⟩
theorem asj{l m:List Int}(h:Pat l m):bg l=bg m:=by
 have hm:=h.1;unfold bg;refine ext_getElem (by simp[hm]) fun i h1 h2=>?_
 have hi:i<l.length:=by simpa using h1
 obtain ⟨js,_,e1,e2⟩:=qev h hi l.length (le_refl _);rw[take_length] at e1;rw[hm,take_length] at e2;simp only[List.getElem_map,ci,← gd hi,← gd (show i<m.length by omega),e1,e2,List.length_map]
theorem aux(l:List Int):Pat (bg l) l:=by
 refine ⟨by simp[bg],fun i j hi hj=>?_⟩
 have bn:i<l.length:=by simpa [bg] using hi
 have gb:j<l.length:=by simpa [bg] using hj
 rw[gd hi,gd hj,gd bn,gd gb];simp only[bg,List.getElem_map]
 constructor
 · intro h;refine Int.not_le.1 fun hc=>?_
   have:=azq l hc;omega
 · intro h;have:=azv (getElem_mem bn) h;omega
def Rk(N:Nat)(l:List Int):Prop:=l.length=N∧∀ r∈l,0≤r∧r<N
theorem as7(l:List Int):Rk l.length (bg l):=by
 refine ⟨by simp[bg],fun r hr=>?_⟩
 unfold bg at hr;obtain ⟨x,hx,rfl⟩:=List.mem_map.1 hr;have:=qpk hx;omega
def acj(k:Int)(N:Nat)(m l:BitVec 64)(r:Int)(w:Nat):Int:=
 if k=2 then (if m.getLsbD w=true then 3*(r+1)-3*(N+1) else 3*(r+1))
 else if l.getLsbD w=true then 0 else if k=3∧¬ m.getLsbD w=true then 3*(r+1)+1 else 3*(r+1)
def ki(k:Int)(o:List Int)(m l:BitVec 64):List Int:=(range o.length).map fun w=>acj k o.length m l (o.getD w 0) w
theorem a02{k:Int}{o:List Int}{m l:BitVec 64}{w:Nat}(h:w<o.length):(ki k o m l).getD w 0=acj k o.length m l (o.getD w 0) w:=by
 rw[gd (by simpa [ki] using h)];simp[ki]
theorem agu{N:Nat}{o:List Int}(h:Rk N o){w:Nat}(hw:w<N):0≤o.getD w 0∧o.getD w 0<N:=by
 have:=h.2 (o.getD w 0) (by rw[gd (by rw[h.1];exact hw)];exact getElem_mem _)
 exact this
def aa9(aa:List (List UInt8))(k:Int)(o:List Int)(m:BitVec 64):List Int:=bg (ki k o m (bq aa o m))
structure Ord(aa:List (List UInt8))(N:Nat)(o:List Int):Prop where
 ok:bi aa o=0
 rk:Rk N o
theorem Ord.least{aa:List (List UInt8)}{N:Nat}{o:List Int}(h:Ord aa N o)(S:BitVec 64)(w:Nat):has (bq aa o S) w↔w<N∧has S w∧∀ v,v<N→has S v→¬ o.getD v 0<o.getD w 0:=by
 have hl:=(qld h.ok).get S w;obtain ⟨rfl,_⟩:=h.rk;have g0:∀ {i:Nat},i<o.length→o.getD i (-1)=o.getD i 0:=fun h=>by simp[h]
 rw[hl]
 constructor
 · rintro ⟨h1,h2,h3⟩;refine ⟨h1,h2,fun v hv hs=>?_⟩
   have:=h3 v hv hs;rw[g0 h1,g0 hv] at this;omega
 · rintro ⟨h1,h2,h3⟩;refine ⟨h1,h2,fun v hv hs=>?_⟩
   have:=h3 v hv hs;rw[g0 h1,g0 hv];omega
theorem Ord.ex{aa:List (List UInt8)}{N:Nat}{o:List Int}(h:Ord aa N o){S:BitVec 64}{v:Nat}(hv:v<N)(hs:has S v):∃ w,has (bq aa o S) w:=by
 have:=(qld h.ok).ex (S:=S) (v:=v) (by rw[h.rk.1];exact hv) hs
 exact this
theorem Ord.le{aa:List (List UInt8)}{N:Nat}{o:List Int}(h:Ord aa N o):N≤64:=by
 have:=(qhb h.ok).1;rw[h.rk.1] at this;exact this
section
variable {aa:List (List UInt8)}{N:Nat}{o:List Int}(h:Ord aa N o){k:Int}(hk:k=1∨k=2∨k=3)
include h hk
end
theorem qjp{o:List Int}(h:mo o=true):bg o=o:=by
 have jy:=quf (qjf h)
 have eu:∀ k:Nat,k<(di o).toNat→(k:Int)∈o:=fun k hk=>by
  unfold mo at h;simp only[and_eq_true,all_eq_true,mem_range,decide_eq_true_eq] at h;exact h.2 k hk
 refine ext_getElem (by simp[bg]) fun i h1 h2=>?_
 rw[avf h2];have hr:=jy o[i] (getElem_mem h2);have hx:=qdf o 0 o[i] (getElem_mem h2);obtain ⟨n,hn⟩:=Int.eq_ofNat_of_zero_le hr.1;rw[hn] at hx ⊢
 have xw:((range n).map fun k:Nat=>(k:Int)).Nodup:=by
  rw[List.nodup_iff_pairwise_ne,List.pairwise_map];exact List.nodup_range.imp fun h e=>h (by omega)
 have:=qrq (qec (n:Int) o) xw fun x=>by
  rw[qmb,mem_map]
  constructor
  · rintro ⟨a,b⟩;have:=jy x a;exact ⟨x.toNat,List.mem_range.2 (by omega),by omega⟩
  · rintro ⟨k,hk,rfl⟩;have:=List.mem_range.1 hk;exact ⟨eu k (by unfold di;omega),by omega⟩
 rw[this];simp
def itE(aa:List (List UInt8))(ranks:List Int)(f:F)(k:Int):Int:=
 if bi aa ranks≠0 then bi aa ranks else if ¬ (1≤k∧k≤3) then 4 else if bv aa f≠0 then bv aa f else if cj aa f=0#64 then 9 else 0
end Am

namespace Am
open Go
def jp(aa:List (List UInt8)):List F→Int
 | []=>0
 | f::l=>if bv aa f=0 then jp aa l else bv aa f
theorem qrt(aa:List (List UInt8))(f:F)(l:List F):jp aa (f::l)=if bv aa f=0 then jp aa l else bv aa f:=rfl
theorem az3(aa:List (List UInt8)):jp aa []=0:=rfl
def ey(f g:Nat→Int)(N i:Nat):List Int:=(range N).map fun v=>if v<i then f v else g v
theorem qnc(f g:Nat→Int)(N i:Nat):(ey f g N i).length=N:=by simp[ey]
theorem mixL_get?(f g:Nat→Int)(N i k:Nat)(h:k<N):(ey f g N i)[k]? = some (if k<i then f k else g k):=by
 simp[ey,List.getElem?_map,List.getElem?_range h]
theorem qqz(f g:Nat→Int)(N i k:Nat)(h:k<(ey f g N i).length):(ey f g N i)[k]=if k<i then f k else g k:=by
 have:=mixL_get? f g N i k (by simpa [qnc] using h)
 rw[getElem?_eq_getElem h] at this;exact Option.some.inj this
theorem qgj(f g:Nat→Int)(N:Nat):ey f g N 0=(range N).map g:=by
 unfold ey;refine map_congr_left fun v _=>by simp
theorem qtl(f g:Nat→Int)(N:Nat):ey f g N N=(range N).map f:=by
 unfold ey;refine map_congr_left fun v hv=>by rw[if_pos (List.mem_range.1 hv)]
theorem qwl(f g:Nat→Int)(N i:Nat)(h:i<N):(ey f g N i).set i (f i)=ey f g N (i+1):=by
 refine List.ext_getElem? fun k=>?_
 by_cases hk:k<N
 · rw[mixL_get? f g N (i+1) k hk,List.getElem?_set,qnc]
   by_cases e:i=k
   · subst e;rw[if_pos rfl,if_pos h,if_pos (by omega)]
   · rw[if_neg e,mixL_get? f g N i k hk]
     by_cases h3:k<i
     · rw[if_pos h3,if_pos (by omega)]
     · rw[if_neg h3,if_neg (by omega)]
 · rw[List.getElem?_eq_none (by rw[List.length_set,qnc];omega),List.getElem?_eq_none (by rw[qnc];omega)]
theorem qrm(f g:Nat→Int)(N i:Nat)(h:f i=g i):ey f g N i=ey f g N (i+1):=by
 unfold ey;refine map_congr_left fun v _=>?_
 by_cases e:v=i
 · subst e;rw[if_neg (by omega),if_pos (by omega),h]
 · by_cases h3:v<i
   · rw[if_pos h3,if_pos (by omega)]
   · rw[if_neg h3,if_neg (by omega)]
def rkB:List (BitVec 64)→Nat→Int
 | [],_=>0
 | m::l,w=>if m.getLsbD w=true then rkB l w else (l.length+1:Nat)
theorem qka(m:BitVec 64)(l:List (BitVec 64))(w:Nat):rkB (m::l) w=if m.getLsbD w=true then rkB l w else (l.length+1:Nat):=rfl
theorem at5(w:Nat):rkB [] w=0:=rfl
def rkL(ms:List (BitVec 64))(N:Nat):List Int:=(range N).map (rkB ms)
theorem qkw(ms:List (BitVec 64))(N:Nat):(rkL ms N).length=N:=by simp[rkL]
def msO(aa:List (List UInt8))(fs:List F):List (BitVec 64):=fs.map (cj aa)
def abx(aa:List (List UInt8))(fs:List F):Int:=if cu aa=false then 1 else if 64<fs.length then 2 else jp aa fs
theorem qjg{aa:List (List UInt8)}:∀ {fs:List F},jp aa fs=0↔∀ f∈fs,bv aa f=0
 | []=>by simp[jp]
 | f::l=>by
  rw[qrt]
  by_cases h:bv aa f=0
  · rw[if_pos h,qjg];simp[h]
  · rw[if_neg h];simp[h]
theorem axr{ms:List (BitVec 64)}{i:Nat}(h:i<ms.length)(w:Nat):rkB (ms.drop i) w=if ms[i].getLsbD w=true then rkB (ms.drop (i+1)) w else (ms.length-i:Int):=by
 rw[List.drop_eq_getElem_cons h,qka]
 split
 · rfl
 · rw[List.length_drop];omega
abbrev CF:=F × F
def vq(c:CF):List D:=[.int .i64 c.1.op,.str c.1.name,.sl (F.encs c.1.args),.int .i64 c.2.op,.str c.2.name,.sl (F.encs c.2.args)]
def ez(l:List CF):D:=.sl (l.map vq)
theorem a2s{l:List CF}{i:Nat}(h:i<l.length):PO.eval (.row 6) [ez l,.int .i64 i]=some (vq l[i]):=qpg (by omega) (by simp[h]) rfl
theorem ae3(l:List CF):PO.eval .lenL [ez l]=some [.int .i64 l.length]:=by simp[ez,qkd]
abbrev PP:=BitVec 64 × BitVec 64
def xb(p:PP):List D:=[bvD p.1,bvD p.2]
def vi(l:List PP):D:=.sl (l.map xb)
theorem agy{l:List PP}{i:Nat}(h:i<l.length):PO.eval (.row 2) [vi l,.int .i64 i]=some (xb l[i]):=qpg (by omega) (by simp[h]) rfl
theorem aee(l:List PP):PO.eval .lenL [vi l]=some [.int .i64 l.length]:=by simp[vi,qkd]
theorem ave{l:List PP}{c:PP}(h:l.length<1000000000000):PO.eval (.app 2 16) [vi l,.sl [xb c]]=some [vi (l++[c])]:=by
 have:=qxg (sz:=2) (bt:=16) (xs:=l.map xb) (ys:=[xb c]) (by simp;omega) (by simp;omega) rfl
 simpa [vi] using this
theorem qyv(a b:D):PO.eval (.mk 2 1) [a,b]=some [.sl [[a,b]]]:=rfl
def cE(aa:List (List UInt8)):List CF→Int
 | []=>0
 | c::l=>if jp aa [c.1,c.2]=0 then cE aa l else jp aa [c.1,c.2]
theorem ak5(aa:List (List UInt8))(c:CF)(l:List CF):cE aa (c::l)=if jp aa [c.1,c.2]=0 then cE aa l else jp aa [c.1,c.2]:=rfl
def prE(aa:List (List UInt8))(l:List CF):Int:=if cu aa=false then 1 else if 64<l.length then 2 else cE aa l
def prS(aa:List (List UInt8))(c:CF):PP:=(cj aa c.1&&&cj aa c.2,cj aa c.1 &&& ~~~cj aa c.2)
def o8(aa:List (List UInt8))(l:List CF):List PP:=l.map (prS aa)
def p4(p:List PP)(out:List Int):Nat→BitVec 64
 | 0=>0#64
 | i+1=>if out.getD i 0<0 then p4 p out i|||(p.getD i (0#64,0#64)).2 else p4 p out i
theorem qku(p:List PP)(out:List Int)(i:Nat):p4 p out (i+1)=if out.getD i 0<0 then p4 p out i|||(p.getD i (0#64,0#64)).2 else p4 p out i:=rfl
def n5(out:List Int):Nat→Bool
 | 0=>true
 | i+1=>if out.getD i 0<0 then false else n5 out i
theorem au9(out:List Int)(i:Nat):n5 out (i+1)=if out.getD i 0<0 then false else n5 out i:=rfl
def se(p:List PP)(out:List Int)(bad:BitVec 64)(i:Nat):Prop:=out.getD i 0<0∧(p.getD i (0#64,0#64)).1 &&& ~~~bad≠0#64
instance (p:List PP) (out:List Int) (bad:BitVec 64) (i:Nat):Decidable (se p out bad i):=by unfold se;infer_instance
def ui(p:List PP)(out:List Int)(bad:BitVec 64):Nat→Bool
 | 0=>false
 | i+1=>if se p out bad i then true else ui p out bad i
theorem qjm(p:List PP)(out:List Int)(bad:BitVec 64)(i:Nat):ui p out bad (i+1)=if se p out bad i then true else ui p out bad i:=rfl
def mkF(p:List PP)(out:List Int)(bad:BitVec 64)(k:Nat)(v:Nat):Int:=if se p out bad v then (k:Int) else out.getD v 0
def mkS(p:List PP)(out:List Int)(bad:BitVec 64)(k:Nat):List Int:=(range p.length).map (mkF p out bad k)
def zf(p:List PP):Nat→Nat→List Int→Option (List Int)
 | 0,_,_=>none
 | n+1,k,out=>if n5 out p.length=true then some out else if ui p out (p4 p out p.length) p.length=true then zf p n (k+1) (mkS p out (p4 p out p.length) k) else none
theorem qkm(p:List PP)(n k:Nat)(out:List Int):zf p (n+1) k out=if n5 out p.length=true then some out else if ui p out (p4 p out p.length) p.length=true then zf p n (k+1) (mkS p out (p4 p out p.length) k) else none:=rfl
def aaj(p:List PP):Option (List Int):=zf p (p.length+1) 0 (replicate p.length (-1))
def uq(out:List Int):Nat→Nat
 | 0=>0
 | i+1=>(if out.getD i 0<0 then 1 else 0)+uq out i
theorem aig(out:List Int):∀ n,uq out n≤n
 | 0=>le_refl _
 | n+1=>by have:=aig out n;simp only[uq];split<;>omega
theorem qqf(out:List Int):∀ n,n5 out n=true↔∀ i,i<n→¬ out.getD i 0<0
 | 0=>by simp[n5]
 | n+1=>by
  rw[au9]
  by_cases h:out.getD n 0<0
  · rw[if_pos h];simp only[Bool.false_eq_true,false_iff];exact fun g=>g n (by omega) h
  · rw[if_neg h,qqf out n]
    constructor
    · intro g i hi
      by_cases e:i=n
      · subst e;exact h
      · exact g i (by omega)
    · exact fun g i hi=>g i (by omega)
theorem a6e(p:List PP)(out:List Int)(bad:BitVec 64)(k:Nat):(mkS p out bad k).length=p.length:=by simp[mkS]
theorem ay0{p:List PP}{out:List Int}{bad:BitVec 64}{k v:Nat}(h:v<p.length):(mkS p out bad k).getD v 0=mkF p out bad k v:=by
 rw[List.getD_eq_getElem?_getD];simp[mkS,List.getElem?_map,List.getElem?_range h]
theorem ahk{p:List PP}{out:List Int}{bad:BitVec 64}{k:Nat}:∀ n,n≤p.length→uq (mkS p out bad k) n≤uq out n∧(ui p out bad n=true→uq (mkS p out bad k) n<uq out n)
 | 0,_=>by simp[uq,ui]
 | n+1,h=>by
  obtain ⟨h1,h2⟩:=ahk (p:=p) (out:=out) (bad:=bad) (k:=k) n (by omega)
  simp only[uq,qjm];rw[ay0 (by omega)]
  unfold mkF
  by_cases g:se p out bad n
  · rw[if_pos g,if_pos g,if_pos g.1,if_neg (by omega)]
    exact ⟨by omega,fun _=>by omega⟩
  · rw[if_neg g,if_neg g];exact ⟨by omega,fun hf=>by have:=h2 hf;omega⟩
def ww(p:List PP)(B:Int)(out:List Int):Prop:=out.length=p.length∧∀ x∈out,-1≤x∧x<B
theorem qyy{l:List Int}{i:Nat}(h:i<l.length):l.getD i 0∈l:=by
 rw[List.getD_eq_getElem?_getD,getElem?_eq_getElem h];exact getElem_mem _
theorem ahu{p:List PP}{B:Int}{out:List Int}{bad:BitVec 64}{k:Nat}(h:ww p B out)(hk:(k:Int)<B):ww p B (mkS p out bad k):=by
 refine ⟨a6e _ _ _ _,fun x hx=>?_⟩
 unfold mkS at hx;obtain ⟨v,hv,rfl⟩:=List.mem_map.1 hx;have hv:=List.mem_range.1 hv;unfold mkF
 split
 · omega
 · exact h.2 _ (qyy (by rw[h.1];exact hv))
theorem anp(p:List PP){B:Int}(h:-1<B):ww p B (replicate p.length (-1)):=⟨by simp,fun x hx=>by obtain ⟨_,rfl⟩:=List.mem_replicate.1 hx;omega⟩
theorem aoo{p:List PP}{B:Int}:∀ (n k:Nat) (out o:List Int),ww p B out→((k+n:Nat):Int)≤B→zf p n k out=some o→ww p B o∧∀ x∈o,0≤x
 | 0,k,out,o,_,_,h=>by simp[zf] at h
 | n+1,k,out,o,hl,hk,h=>by
  rw[qkm] at h
  split at h
  · rename_i hd;cases h;refine ⟨hl,fun x hx=>?_⟩
    obtain ⟨i,hi,rfl⟩:=List.getElem_of_mem hx;have:=(qqf _ _).1 hd i (by rw[← hl.1];exact hi)
    rw[List.getD_eq_getElem?_getD,getElem?_eq_getElem hi,Option.getD_some] at this;omega
  · split at h
    · exact aoo n (k+1) _ o (ahu hl (by omega)) (by omega) h
    · simp at h
theorem avc{p:List PP}{o:List Int}(hp:p.length≤64)(h:aaj p=some o):o.length=p.length∧∀ x∈o,0≤x∧x<100:=by
 obtain ⟨⟨h1,h2⟩,h3⟩:=aoo (B:=100) _ _ _ _ (anp p (by omega)) (by omega) h
 exact ⟨h1,fun x hx=>⟨h3 x hx,(h2 x hx).2⟩⟩
theorem ath(out:List Int):(range out.length).map (fun v=>out.getD v 0)=out:=by
 refine ext_getElem (by simp) fun i h1 h2=>by simp[h2]
def zF(p:List PP)(at_:List Int)(w:Nat):Nat→Int
 | 0=>0
 | i+1=>if (p.getD i (0#64,0#64)).2.getLsbD w=true then j5 (zF p at_ w i) (at_.getD i 0+1) else zF p at_ w i
theorem qix(p:List PP)(at_:List Int)(w i:Nat):zF p at_ w (i+1)=if (p.getD i (0#64,0#64)).2.getLsbD w=true then j5 (zF p at_ w i) (at_.getD i 0+1) else zF p at_ w i:=rfl
def zL(p:List PP)(at_:List Int)(N:Nat):List Int:=(range N).map fun w=>zF p at_ w p.length
theorem anr(p:List PP)(at_:List Int)(N:Nat):(zL p at_ N).length=N:=by simp[zL]
theorem gdP{p:List PP}{i:Nat}(h:i<p.length):p.getD i (0#64,0#64)=p[i]:=by simp[h]
theorem a1o{p:List PP}{out:List Int}{B:Int}(h:ww p B out):decide ((-1:Int)∈out) = !n5 out p.length:=by
 cases hd:n5 out p.length with
 | true=>
  rw[qqf] at hd;simp only[Bool.not_true,decide_eq_false_iff_not];intro hm;obtain ⟨i,hi,he⟩:=List.getElem_of_mem hm;refine hd i (by rw[← h.1];exact hi) ?_
  rw[List.getD_eq_getElem?_getD,getElem?_eq_getElem hi,Option.getD_some,he];decide
 | false=>
  simp only[Bool.not_false,decide_eq_true_eq];refine Classical.byContradiction fun i6=>?_
  have:n5 out p.length=true:=(qqf _ _).2 fun i hi cf=>by
   have hm:=qyy (l:=out) (i:=i) (by rw[h.1];exact hi)
   have:=h.2 _ hm;have e:out.getD i 0 = -1:=by omega
   rw[e] at hm;exact i6 hm
  rw[this] at hd;simp at hd
theorem aw5(p:List PP)(out:List Int)(bad:BitVec 64)(k:Nat):mkS p out bad k=ey (mkF p out bad k) (fun v=>out.getD v 0) p.length p.length:=(qtl _ _ _).symm
theorem aw1{p:List PP}{out:List Int}{B:Int}(h:ww p B out)(bad:BitVec 64)(k:Nat):out=ey (mkF p out bad k) (fun v=>out.getD v 0) p.length 0:=by
 rw[qgj,← h.1,ath]
theorem awd(n:Nat):replicate n (0:Int)=ey (fun _=>-1) (fun _=>0) n 0:=by
 rw[qgj];refine ext_getElem (by simp) fun i h1 h2=>by simp
theorem a45(n:Nat):ey (fun _=>-1) (fun _=>0) n n=replicate n (-1:Int):=by
 rw[qtl];refine ext_getElem (by simp) fun i h1 h2=>by simp
def aab(o:Option (List Int)):List D:=match o with
 | some l=>[ab l,.int .i64 0]
 | none=>[.sl [],.int .i64 9]
def mk(B m:Nat):Nat→Nat
 | 0=>0
 | k+1=>B*mk B m k+m
def s1(X k:Nat):Nat:=(X / 2&&&mk 256 85 k)+(X&&&mk 256 85 k)
def s2(X k:Nat):Nat:=(X / 4&&&mk 256 51 k)+(X&&&mk 256 51 k)
def s3(X k:Nat):Nat:=(X / 16+X)&&&mk 256 15 k
section
variable {N:Nat}{r:Nat→Int}{L:BitVec 64→BitVec 64}(hL:Lst N r L){A B C T:BitVec 64}
include hL
end
structure a62(y0 y1 y2 y3 y4 y5 y6 y7 y8:Bool):Prop where
 a0:y0=true
 a3:y3=(y1&&y2)
 a4:y1=true→y2=true→y4=true
 a5:y5=false→y2=true→y4=true
 a7:y2=true→y6=true→y7=true
 a8:y1=true→y8=true
end Am
