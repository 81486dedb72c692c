/- What functions of the program compute: lemmas. -/
import Derived.Test.YtoalfckdmoahoaaGreatDoorAm5
import Derived.Lib.TrailingZeros
set_option linter.unusedSimpArgs false
set_option linter.unusedVariables false
set_option linter.unusedSectionVars false
namespace Am
open Go
theorem qslb (ys ws:List (List UInt8)):∀ f:F,good f=true→(∀ s∈F.atomL f,ys.contains s=ws.contains s)→F.val ys f=F.val ws f:=by
 refine qej fun f ih hf h=>?_
 have hargs:=((qaz f).1 hf).2.2;rw[F.val_eq ys f,F.val_eq ws f];rw[F.atomL_eq] at h
 by_cases ho:f.op=3
 · have ha:=qmv hf ho;rw[if_pos ⟨ho,by simp[ha]⟩] at h
   simp only[ho,valO,Int.reduceEq,if_false,if_true];exact h _ (by simp)
 · rw[if_neg (fun x=>ho x.1)] at h
   have hm:f.args.map (F.val ys)=f.args.map (F.val ws):=by
    apply List.map_congr_left
    intro x hx;refine ih x hx (hargs x hx) fun s hs=>h s ?_
    have:∀ l:List F,x∈l→s∈F.atomLs l:=by
     intro l
     induction l with
     | nil=>intro h;simp at h
     | cons y l ih=>
      intro h;simp only[F.atomLs,List.mem_append];rcases List.mem_cons.1 h with rfl|h
      · exact .inl hs
      · exact .inr (ih h)
    exact this _ hx
   rw[hm];unfold valO;simp only[ho,if_false]
namespace F
mutual
theorem beq_true:∀ f g:F,beq f g=true→f=g
 | mk o s a,mk o' s' a',h=>by
  simp only[beq,Bool.and_eq_true,decide_eq_true_eq] at h;obtain ⟨rfl,rfl,h3,h4⟩:=h;rw[beqs_true a a' h3 h4]
theorem beqs_true:∀ l l':List F,l.length=l'.length→beqs l l' = true→l=l'
 | [],[],_,_=>rfl
 | [],_::_,h,_=>by simp at h
 | x::l,[],h,_=>by simp at h
 | x::l,y::l',h,h2=>by
  simp only[beqs,Bool.and_eq_true] at h2;rw[beq_true x y h2.1,beqs_true l l' (by simpa using h) h2.2]
end
end F
def pr (o:Int) (f g:F):F:=F.mk o [] [f,g]
def atF (a:List UInt8):F:=F.mk 3 a []
def noF1 (a:List UInt8):F:=F.mk 4 [] [atF a]
def joinF (a:List UInt8) (t f:F):F:=
 if F.beq t f=true then t else if t.op=1∧f.op=2 then atF a else if t.op=1 then pr 6 (atF a) f else if t.op=2∧f.op=1 then noF1 a else if t.op=2 then pr 5 (noF1 a) f else
 if f.op=1 then pr 6 (noF1 a) t else if f.op=2 then pr 5 (atF a) t else pr 6 (pr 5 (atF a) t) (pr 5 (noF1 a) f)
def hf (S:BitVec 64) (b i:Nat):BitVec 64:=bitsTo (fun u=>decide (2*u+b<i)&&S.getLsbD (2*u+b)) 64
def thy:List (List UInt8)→BitVec 64→F
 | [],S=>if S&&&bitsTo (fun _=>true) (2^0)=0#64 then F.mk 2 [] [] else F.mk 1 [] []
 | a::l,S=>if S&&&bitsTo (fun _=>true) (2^(l.length+1))=0#64 then F.mk 2 [] [] else if S&&&bitsTo (fun _=>true) (2^(l.length+1))=bitsTo (fun _=>true) (2^(l.length+1)) then F.mk 1 [] [] else
  joinF a (thy l (hf S 1 (2^(l.length+1)))) (thy l (hf S 0 (2^(l.length+1))))
theorem qnqb {S:BitVec 64} {b N u:Nat} (h:2*u+b<N) (hu:u<64):(hf S b N).getLsbD u=S.getLsbD (2*u+b):=by
 unfold hf;rw[qi _ _ _ (Nat.le_refl _)];simp[h,hu]
theorem qap (ys:List (List UInt8)) (f g:F):F.val ys (pr 5 f g)=(F.val ys f&&F.val ys g):=by
 rw[F.val_eq];simp[pr,valO,F.op_mk,F.args_mk]
theorem qbw (ys:List (List UInt8)) (f g:F):F.val ys (pr 6 f g)=(F.val ys f || F.val ys g):=by
 rw[F.val_eq];simp[pr,valO,F.op_mk,F.args_mk]
theorem qvt (ys:List (List UInt8)) (a:List UInt8):F.val ys (atF a)=ys.contains a:=by
 rw[F.val_eq];simp[atF,valO,F.op_mk,F.name_mk]
theorem qlx (ys:List (List UInt8)) (a:List UInt8):F.val ys (noF1 a) = !ys.contains a:=by
 rw[F.val_eq];simp[noF1,valO,F.op_mk,F.args_mk,qvt]
theorem qtj (ys:List (List UInt8)) {f:F} (h:f.op=1):F.val ys f=true:=by rw[F.val_eq,valO];simp[h]
theorem qnj (ys:List (List UInt8)) {f:F} (h:f.op=2):F.val ys f=false:=by rw[F.val_eq,valO];simp[h]
theorem qqob (ys:List (List UInt8)) (a:List UInt8) (t f:F):F.val ys (joinF a t f)=if ys.contains a=true then F.val ys t else F.val ys f:=by
 unfold joinF
 by_cases h1:F.beq t f=true
 · rw[if_pos h1,F.beq_true t f h1];simp
 rw[if_neg h1]
 by_cases h2:t.op=1∧f.op=2
 · rw[if_pos h2,qvt,qtj ys h2.1,qnj ys h2.2];cases ys.contains a<;>rfl
 rw[if_neg h2]
 by_cases h3:t.op=1
 · rw[if_pos h3,qbw,qvt,qtj ys h3];cases ys.contains a<;>simp
 rw[if_neg h3]
 by_cases h4:t.op=2∧f.op=1
 · rw[if_pos h4,qlx,qnj ys h4.1,qtj ys h4.2];cases ys.contains a<;>rfl
 rw[if_neg h4]
 by_cases h5:t.op=2
 · rw[if_pos h5,qap,qlx,qnj ys h5];cases ys.contains a<;>simp
 rw[if_neg h5]
 by_cases h6:f.op=1
 · rw[if_pos h6,qbw,qlx,qtj ys h6];cases ys.contains a<;>simp
 rw[if_neg h6]
 by_cases h7:f.op=2
 · rw[if_pos h7,qap,qvt,qnj ys h7];cases ys.contains a<;>simp
 rw[if_neg h7,qbw,qap,qap,qvt,qlx];cases ys.contains a<;>simp
def Thy (voc:List (List UInt8)) (f:F):Prop:=good f=true∧f.size+6≤7*2^voc.length∧f.depth≤2*voc.length+1∧∀ s∈F.atomL f,s∈voc
theorem qyh (voc:List (List UInt8)) {o:Int} (h:o=1∨o=2):Thy voc (F.mk o [] []):=by
 have hp:0<2^voc.length:=Nat.pow_pos (by omega)
 refine ⟨by rcases h with rfl|rfl<;>rfl,by simp only[F.size,F.sizes];omega,by simp[F.depth,F.depths],?_⟩
 rcases h with rfl|rfl<;>simp[F.atomL,F.atomLs]
theorem qoq {o:Int} {s:List UInt8} {l:List F} (h1:counted (F.mk o s l)=true) (h2:named (F.mk o s l)=true) (h3:∀ g∈l,good g=true):good (F.mk o s l)=true:=by
 unfold good;rw[F.allF_eq,F.allF_eq named,h1,h2,F.args_mk,Bool.true_and,Bool.true_and,Bool.and_eq_true,quf,quf,List.all_eq_true,List.all_eq_true];refine ⟨fun g hg=>?_,fun g hg=>?_⟩
 · have:=h3 g hg;simp only[good,Bool.and_eq_true] at this;exact this.1
 · have:=h3 g hg;simp only[good,Bool.and_eq_true] at this;exact this.2
theorem qnib {a:List UInt8} (h:validName a=true):good (atF a)=true:=qoq rfl (by simp[named,F.op_mk,F.name_mk,h]) (by simp)
theorem qavb {a:List UInt8} (h:validName a=true):good (noF1 a)=true:=qoq rfl rfl (by simp[qnib h])
theorem qgh {o:Int} {f g:F} (ho:o=5∨o=6) (hf:good f=true) (hg:good g=true):good (pr o f g)=true:=by
 rcases ho with rfl|rfl
 · exact qoq rfl rfl (by simp[hf,hg])
 · exact qoq rfl rfl (by simp[hf,hg])
theorem qpz {o:Int} (ho:o≠3) (f g:F):F.atomL (pr o f g)=F.atomL f++F.atomL g:=by
 simp[pr,F.atomL,F.atomLs]
theorem qui (a:List UInt8):F.atomL (atF a)=[a]:=by simp[atF,F.atomL]
theorem qnk (a:List UInt8):F.atomL (noF1 a)=[a]:=by simp[noF1,F.atomL,F.atomLs,qui]
theorem qvlb {a:List UInt8} {l:List (List UInt8)} (ha:validName a=true) {t f:F} (ht:Thy l t) (hf:Thy l f):Thy (a::l) (joinF a t f):=by
 obtain ⟨t1,t2,t3,t4⟩:=ht;obtain ⟨f1,f2,f3,f4⟩:=hf;have hp:2^(a::l).length=2*2^l.length:=by rw[List.length_cons,Nat.pow_succ];omega
 have hp0:0<2^l.length:=Nat.pow_pos (by omega)
 have s5:∀ (o:Int) (f g:F),(pr o f g).size=1+(f.size+g.size):=fun o f g=>by simp[pr,F.size,F.sizes]
 have d5:∀ (o:Int) (f g:F),(pr o f g).depth=max (1+f.depth) (1+g.depth):=fun o f g=>by simp[pr,F.depth,F.depths]
 have s1:(atF a).size=1:=by simp[atF,F.size,F.sizes]
 have s2:(noF1 a).size=2:=by simp[noF1,F.size,F.sizes,s1]
 have e1:(atF a).depth=0:=by simp[atF,F.depth,F.depths]
 have e2:(noF1 a).depth=1:=by simp[noF1,F.depth,F.depths,e1]
 have hl:(a::l).length=l.length+1:=rfl;have hc:∀ s∈F.atomL t,s∈a::l:=fun s hs=>List.mem_cons_of_mem _ (t4 s hs)
 have hd:∀ s∈F.atomL f,s∈a::l:=fun s hs=>List.mem_cons_of_mem _ (f4 s hs)
 have ga:=qnib ha;have gn:=qavb ha;have h6:∀ f g:F,F.atomL (pr 6 f g)=F.atomL f++F.atomL g:=qpz (by decide)
 have h5:∀ f g:F,F.atomL (pr 5 f g)=F.atomL f++F.atomL g:=qpz (by decide)
 unfold joinF Thy;rw[hp,hl]
 (repeat' split)
 · exact ⟨t1,by omega,by omega,hc⟩
 · exact ⟨ga,by omega,by omega,by rw[qui];simp⟩
 · exact ⟨qgh (.inr rfl) ga f1,by rw[s5];omega,by rw[d5];omega,by rw[h6,qui];simpa using hd⟩
 · exact ⟨gn,by omega,by omega,by rw[qnk];simp⟩
 · exact ⟨qgh (.inl rfl) gn f1,by rw[s5];omega,by rw[d5];omega,by rw[h5,qnk];simpa using hd⟩
 · exact ⟨qgh (.inr rfl) gn t1,by rw[s5];omega,by rw[d5];omega,by rw[h6,qnk];simpa using hc⟩
 · exact ⟨qgh (.inl rfl) ga t1,by rw[s5];omega,by rw[d5];omega,by rw[h5,qui];simpa using hc⟩
 · refine ⟨qgh (.inr rfl) (qgh (.inl rfl) ga t1) (qgh (.inl rfl) gn f1),by rw[s5,s5,s5];omega,by rw[d5,d5,d5];omega,fun s hs=>?_⟩
   rw[h6,h5,h5,qui,qnk] at hs;simp only[List.mem_append,List.mem_singleton] at hs;rcases hs with (rfl|hs)|(rfl|hs)
   · simp
   · exact hc s hs
   · simp
   · exact hd s hs
theorem qgs:∀ {voc:List (List UInt8)},okNames voc=true→∀ S:BitVec 64,Thy voc (thy voc S)
 | [],_,S=>by
  unfold thy
  split
  · exact qyh [] (.inr rfl)
  · exact qyh [] (.inl rfl)
 | a::l,h,S=>by
  unfold thy
  split
  · exact qyh _ (.inr rfl)
  · split
    · exact qyh _ (.inl rfl)
    · exact qvlb (by simp only[okNames,Bool.and_eq_true] at h;exact h.1) (qgs (qre h) _) (qgs (qre h) _)
theorem qmpb {a:List UInt8} {l:List (List UInt8)} (h:okNames (a::l)=true) {f:F} (hf:Thy l f) (ys:List (List UInt8)):F.val (a::ys) f=F.val ys f:=by
 refine qslb _ _ f hf.1 fun s hs=>?_
 have:=(List.pairwise_cons.1 (qnh h).1).1 s (hf.2.2.2 s hs);have hne:s≠a:=fun e=>by subst e;exact List.lt_irrefl _ this
 simp[hne]
theorem qmj:∀ {voc:List (List UInt8)},okNames voc=true→voc.length≤6→∀ (S:BitVec 64) (w:Nat),w<2^voc.length→F.val (yesN voc w) (thy voc S)=S.getLsbD w
 | [],_,_,S,w,hw=>by
  have hw0:w=0:=by simpa using hw
  subst hw0
  have h0:S&&&bitsTo (fun _=>true) (2^0)=0#64↔S.getLsbD 0=false:=by
   rw[qfm]
   constructor
   · intro h;have:=h 0 (by omega)
     rw[BitVec.getLsbD_and,qi _ _ _ (by decide)] at this
     simpa using this
   · intro h v hv;rw[BitVec.getLsbD_and,qi _ _ _ (by decide)]
     by_cases hv0:v=0
     · subst hv0;rw[h];rfl
     · simp[hv0]
  unfold thy
  by_cases h:S&&&bitsTo (fun _=>true) (2^0)=0#64
  · rw[if_pos h,qnj _ rfl,h0.1 h]
  · rw[if_neg h,qtj _ rfl];cases hs:S.getLsbD 0 with
    | true=>rfl
    | false=>exact absurd (h0.2 hs) h
 | a::l,h,h6,S,w,hw=>by
  have hN:2^(l.length+1)≤64:=pow6 h6;have hw':w<2^(l.length+1):=hw
  have hand:∀ v,(S&&&bitsTo (fun _=>true) (2^(l.length+1))).getLsbD v=(S.getLsbD v&&decide (v<2^(l.length+1))):=fun v=>by
   rw[BitVec.getLsbD_and,qi _ _ _ hN];simp
  unfold thy
  by_cases h1:S&&&bitsTo (fun _=>true) (2^(l.length+1))=0#64
  · rw[if_pos h1,qnj _ rfl];have:=hand w;rw[h1] at this
    simpa [hw'] using this
  rw[if_neg h1]
  by_cases h2:S&&&bitsTo (fun _=>true) (2^(l.length+1))=bitsTo (fun _=>true) (2^(l.length+1))
  · rw[if_pos h2,qtj _ rfl];have:=hand w;rw[h2,qi _ _ _ hN] at this
    simpa [hw'] using this
  rw[if_neg h2,qqob];have hl:=qre h;have h6':l.length≤6:=by simp only[List.length_cons] at h6;omega
  have hpw:2^(l.length+1)=2*2^l.length:=by rw[Nat.pow_succ];omega
  have hu:w / 2<2^l.length:=by omega
  have hac:(yesN (a::l) w).contains a=decide (w % 2=1):=by
   have:=qha (qnh h).1 (i:=0) (w:=w) (by simp)
   simp only[List.getElem_cons_zero,Nat.pow_zero,Nat.div_one] at this;cases hd:decide (w % 2=1) with
   | true=>rw[decide_eq_true_eq] at hd;simpa using this.2 hd
   | false=>rw[decide_eq_false_iff_not] at hd;simpa using fun h=>hd (this.1 h)
  rw[hac];rcases Nat.mod_two_eq_zero_or_one w with hb|hb
  · rw[if_neg (by simp[hb])]
    have hy:yesN (a::l) w=yesN l (w / 2):=by simp[yesN,hb]
    rw[hy,qmj hl h6' _ _ hu,qnqb (by omega) (by omega)]
    congr 1;omega
  · rw[if_pos (by simp[hb])]
    have hy:yesN (a::l) w=a::yesN l (w / 2):=by simp[yesN,hb]
    rw[hy,qmpb h (qgs hl _),qmj hl h6' _ _ hu,qnqb (by omega) (by omega)]
    congr 1;omega
end Am

namespace Am
open Go
abbrev has (X:BitVec 64) (w:Nat):Prop:=X.getLsbD w=true
theorem qst {X:BitVec 64} {w:Nat} (h:has X w):w<64:=by
 refine Decidable.byContradiction fun hn=>?_
 have:=BitVec.getLsbD_of_ge X w (by omega)
 rw[has,this] at h;cases h
theorem qo {X Y:BitVec 64} {w:Nat}:has (X&&&Y) w↔has X w∧has Y w:=by simp[has]
theorem qdb {X Y:BitVec 64} {w:Nat}:has (X|||Y) w↔has X w∨has Y w:=by simp[has]
theorem qsc {X Y:BitVec 64} {w:Nat}:has (X &&& ~~~Y) w↔has X w∧¬ has Y w:=by
 constructor
 · intro h;have hw:=qst h
   simpa [has,hw] using h
 · rintro ⟨h1,h2⟩;have hw:=qst h1
   simpa [has,hw,h1] using h2
theorem qab {p:Nat→Bool} {n w:Nat} (hn:n≤64):has (bitsTo p n) w↔w<n∧p w=true:=by rw[has,qi _ _ _ hn];simp
theorem qij {w:Nat}:has (BitVec.allOnes 64) w↔w<64:=by rw[has,BitVec.getLsbD_allOnes];simp
theorem qbb {X Y:BitVec 64} (h:∀ w,has X w↔has Y w):X=Y:=que fun w _=>by
 have:=h w;cases hx:X.getLsbD w<;>cases hy:Y.getLsbD w<;>simp[has,hx,hy] at this<;>rfl
theorem qvc {X:BitVec 64}:X=0#64↔∀ w,¬ has X w:=by
 constructor
 · rintro rfl w h;simp[has] at h
 · intro h;exact qbb fun w=>⟨fun hx=>absurd hx (h w),fun h0=>by simp[has] at h0⟩
theorem qzc {X Y:BitVec 64}:X &&& ~~~Y=0#64↔∀ w,has X w→has Y w:=by
 rw[qvc]
 constructor
 · intro h w hx;exact Classical.byContradiction fun hy=>h w (qsc.2 ⟨hx,hy⟩)
 · intro h w hw;rw[qsc] at hw;exact hw.2 (h w hw.1)
theorem qag {X:BitVec 64} (h:X≠0#64):∃ w,has X w:=Classical.byContradiction fun hn=>h (qvc.2 fun w hw=>hn ⟨w,hw⟩)
theorem quc {X:BitVec 64} {w:Nat} (h:has X w):X≠0#64:=fun h0=>(qvc.1 h0) w h
theorem qerb (r:Nat→Int) (P:Nat→Prop):∀ N:Nat,(∃ v,v<N∧P v)→∃ w,w<N∧P w∧∀ v,v<N→P v→r w≤r v
 | 0,⟨v,h,_⟩=>by omega
 | N+1,⟨v,hv,hp⟩=>by
  by_cases hN:∃ v,v<N∧P v
  · obtain ⟨w,h1,h2,h3⟩:=qerb r P N hN
    by_cases hc:P N∧r N<r w
    · refine ⟨N,by omega,hc.1,fun u hu hpu=>?_⟩
      by_cases huN:u=N
      · subst huN;omega
      · have:=h3 u (by omega) hpu;omega
    · refine ⟨w,by omega,h2,fun u hu hpu=>?_⟩
      by_cases huN:u=N
      · subst huN;have:¬ r u<r w:=fun h=>hc ⟨hpu,h⟩
        omega
      · exact h3 u (by omega) hpu
  · have:v=N:=Classical.byContradiction fun h=>hN ⟨v,by omega,hp⟩
    subst this;refine ⟨v,by omega,hp,fun u hu hpu=>?_⟩
    by_cases huN:u=v
    · subst huN;omega
    · exact absurd ⟨u,by omega,hpu⟩ hN
structure Lst (N:Nat) (r:Nat→Int) (L:BitVec 64→BitVec 64):Prop where
 le:N≤64
 get:∀ S w,has (L S) w↔w<N∧has S w∧∀ v,v<N→has S v→r w≤r v
theorem Lst.ex {N:Nat} {r:Nat→Int} {L:BitVec 64→BitVec 64} (h:Lst N r L) {S:BitVec 64} {v:Nat} (hv:v<N) (hs:has S v):∃ w,has (L S) w:=by
 obtain ⟨w,h1,h2,h3⟩:=qerb r (fun v=>has S v) N ⟨v,hv,hs⟩
 exact ⟨w,(h.get S w).2 ⟨h1,h2,h3⟩⟩
theorem qze {names:List (List UInt8)} {ranks:List Int} (h:orderE names ranks=0):Lst ranks.length (fun w=>ranks.getD w (-1)) (leastS names ranks):=
 ⟨(qyd h).1,fun S w=>qwib h S w⟩
section
variable {N:Nat} {r:Nat→Int} {L:BitVec 64→BitVec 64} (hL:Lst N r L)
include hL
theorem Lst.top (w:Nat):has (L (BitVec.allOnes 64)) w↔w<N∧∀ v,v<N→r w≤r v:=by
 rw[hL.get]
 constructor
 · rintro ⟨h1,_,h3⟩;exact ⟨h1,fun v hv=>h3 v hv (qij.2 (by have:=hL.le;omega))⟩
 · rintro ⟨h1,h2⟩;exact ⟨h1,qij.2 (by have:=hL.le;omega),fun v hv _=>h2 v hv⟩
variable {A M K:BitVec 64} (hA:∀ w,has A w↔w<N) (hM:∀ w,has M w→w<N) (hK:∀ w,has K w→w<N)
include hA
theorem Lst.rest (w:Nat):has (L (A &&& ~~~M)) w↔w<N∧¬ has M w∧∀ v,v<N→¬ has M v→r w≤r v:=by
 rw[hL.get,qsc]
 constructor
 · rintro ⟨h1,⟨_,h2⟩,h3⟩;exact ⟨h1,h2,fun v hv hm=>h3 v hv (qsc.2 ⟨(hA v).2 hv,hm⟩)⟩
 · rintro ⟨h1,h2,h3⟩;exact ⟨h1,⟨(hA w).2 h1,h2⟩,fun v hv hm=>h3 v hv (qsc.1 hm).2⟩
end
def Wth (N:Nat) (r:Nat→Int) (M W:BitVec 64):Prop:=∀ w,has W w↔w<N∧((∃ u,u<N∧¬ has M u)→∀ v,v<N→¬ has M v→r w≤r v)∧((∀ u,u<N→has M u)→∀ v,v<N→r w≤r v)
section
variable {N:Nat} {r:Nat→Int} {L:BitVec 64→BitVec 64} (hL:Lst N r L) {A M K W V:BitVec 64} (hA:∀ w,has A w↔w<N) (hM:∀ w,has M w→w<N) (hW:Wth N r M W) (hV:Wth N r K V)
include hL hW
end
end Am

namespace Am
open Go
def beliefsS (names:List (List UInt8)) (ranks:List Int):BitVec 64:=leastS names ranks (BitVec.allOnes 64)
theorem qsvb {names:List (List UInt8)} {ranks:List Int} (h:orderE names ranks=0) (w:Nat):has (allS names) w↔w<ranks.length:=by
 have hz:=qkc h;unfold allS;rw[if_pos hz.1,qab (pow6 (qy hz.1)),hz.2.1];simp
theorem qvu {voc:List (List UInt8)} {f:F} (hv:vocOk voc=true) (hg:good f=true) (hs:f.size≤600) (hd:f.depth≤20) (ha:∀ s∈F.atomL f,s∈voc):modelsE voc f=0∧modelsS voc f=modN voc f (2^voc.length):=by
 have h1:validate f=0:=by
  have h1:¬ (f.size:Int)>600:=by omega
  have h2:¬ (f.depth:Int)>20:=by omega
  simp only[good,Bool.and_eq_true] at hg;simp[validate,h1,h2,hg.1,hg.2]
 have h2:atomsIn voc f=true:=by
  unfold atomsIn;rw[List.all_eq_true];intro s hs;have:=ha s ((qwl _ s).1 hs)
  simpa using this
 have h3:modelsE voc f=0:=by simp[modelsE,hv,h1,h2]
 exact ⟨h3,by rw[modelsS,if_pos h3]⟩
theorem qyx {voc:List (List UInt8)} {f:F} {w:Nat} (hv:voc.length≤6):has (modN voc f (2^voc.length)) w↔w<2^voc.length∧F.val (yesN voc w) f=true:=qab (pow6 hv)
theorem qubb {voc:List (List UInt8)} (hv:vocOk voc=true) (S:BitVec 64):modelsE voc (thy voc S)=0∧modelsS voc (thy voc S)=S&&&allS voc:=by
 obtain ⟨t1,t2,t3,t4⟩:=qgs (qhd hv) S;have h6:=qy hv;have hp:=pow6 h6;obtain ⟨h1,h2⟩:=qvu hv t1 (by omega) (by omega) t4
 refine ⟨h1,?_⟩;rw[h2];refine qbb fun w=>?_
 unfold allS;rw[if_pos hv,qyx h6,qo,qab hp]
 constructor
 · rintro ⟨a,b⟩;rw[qmj (qhd hv) h6 S w a] at b;exact ⟨b,a,rfl⟩
 · rintro ⟨a,b,_⟩;exact ⟨b,by rw[qmj (qhd hv) h6 S w b];exact a⟩
end Am

namespace Am
open Go
def sortI (l:List Int):List Int:=l.mergeSort fun x y=>decide (x≤y)
theorem qwh (l:List Int):(sortI l).length=l.length:=by simp[sortI]
theorem qkjb (l:List Int) (x:Int):x∈sortI l↔x∈l:=List.mem_mergeSort
theorem qhg (l:List Int):(sortI l).Pairwise fun x y=>x≤y:=by
 have:=List.pairwise_mergeSort (le:=fun x y:Int=>decide (x≤y)) (fun a b c h1 h2=>by simp only[decide_eq_true_eq] at *;omega) (fun a b=>by simp only[Bool.or_eq_true,decide_eq_true_eq];omega) l
 exact this.imp fun h=>by simpa using h
theorem qda {zs:List Int} (hs:zs.Pairwise fun x y=>x≤y):∀ m,m≤zs.length→
 (∀ x,x∈Lib.compactUpTo zs.toArray m↔x∈zs.take m)∧(Lib.compactUpTo zs.toArray m).Pairwise (fun x y=>x<y)∧∀ x∈Lib.compactUpTo zs.toArray m,∀ (h:m-1<zs.length),x≤zs[m-1]:=by
 intro m
 induction m with
 | zero=>intro _;simp[Lib.compactUpTo]
 | succ m ih=>
  intro hm;obtain ⟨h1,h2,h3⟩:=ih (by omega)
  have hg:zs.toArray[m]! = zs[m]:=by simp[show m<zs.length by omega]
  have hle:∀ x∈zs.take m,x≤zs[m]:=by
   intro x hx;obtain ⟨i,hi,rfl⟩:=List.getElem_of_mem hx;simp only[List.length_take] at hi;rw[List.getElem_take];exact List.pairwise_iff_getElem.1 hs i m (by omega) (by omega) (by omega)
  rw[Lib.compactUpTo_succ]
  by_cases hk:Lib.keeps zs.toArray m=true
  · rw[if_pos hk,hg];refine ⟨fun x=>?_,?_,?_⟩
    · rw[List.mem_append,h1,← qvh (show m<zs.length by omega),List.mem_append]
    · rw[List.pairwise_append];refine ⟨h2,by simp,fun x hx y hy=>?_⟩
      simp only[List.mem_singleton] at hy;subst hy;have hx':=(h1 x).1 hx;rcases Nat.eq_zero_or_pos m with rfl|hm0
      · simp at hx'
      · have hx3:=h3 x hx (by omega)
        have hlt:zs[m-1]≤zs[m]:=List.pairwise_iff_getElem.1 hs (m-1) m (by omega) (by omega) (by omega)
        have hne:zs[m]≠zs[m-1]:=by
         unfold Lib.keeps at hk;simp only[decide_eq_true_eq] at hk;have hg':zs.toArray[m-1]! = zs[m-1]:=by simp[show m-1<zs.length by omega]
         rw[hg,hg'] at hk;rcases hk with h|h
         · omega
         · exact h
        have hxm:=Int.le_trans hx3 hlt;exact Decidable.byContradiction fun hn=>hne (Int.le_antisymm (Int.le_trans (Int.not_lt.1 hn) hx3) hlt)
    · intro x hx h;simp only[Nat.add_sub_cancel];rcases List.mem_append.1 hx with hx|hx
      · exact hle x ((h1 x).1 hx)
      · simp only[List.mem_singleton] at hx;subst hx;exact Int.le_refl _
  · rw[if_neg hk,List.append_nil]
    have hm0:0<m∧zs[m]=zs[m-1]:=by
     unfold Lib.keeps at hk;simp only[decide_eq_true_eq,not_or,Decidable.not_not] at hk;have hg':zs.toArray[m-1]! = zs[m-1]:=by simp[show m-1<zs.length by omega]
     rw[hg,hg'] at hk;exact ⟨by omega,hk.2⟩
    refine ⟨fun x=>?_,h2,?_⟩
    · rw[h1,← qvh (show m<zs.length by omega),List.mem_append]
      constructor
      · exact .inl
      · rintro (h|h)
        · exact h
        · simp only[List.mem_singleton] at h;rw[h,hm0.2];exact List.mem_take_iff_getElem.2 ⟨m-1,by omega,rfl⟩
    · intro x hx h;exact hle x ((h1 x).1 hx)
def canonI (l:List Int):List Int:=Lib.compact (sortI l)
theorem qdo (l:List Int) (x:Int):x∈canonI l↔x∈l:=by
 unfold canonI Lib.compact;rw[(qda (qhg l) _ (Nat.le_refl _)).1,List.take_length,qkjb]
theorem qjj (l:List Int):(canonI l).Pairwise fun x y=>x<y:=by
 unfold canonI Lib.compact;exact (qda (qhg l) _ (Nat.le_refl _)).2.1
theorem qfdb (l:List Int):(canonI l).length≤l.length:=qqe ((qjj l).imp fun h e=>by subst e;exact Int.lt_irrefl _ h) fun x hx=>(qdo l x).1 hx
def lessN (t:Int) (l:List Int):Nat:=(l.filter fun x=>decide (x<t)).length
theorem qapb (t:Int) (l:List Int):lessN t l≤l.length:=List.length_filter_le _ _
theorem qco:∀ {l:List Int},l.Pairwise (fun x y=>x<y)→∀ (t:Int) (i:Nat) (hi:i<l.length),l[i]<t↔i<lessN t l
 | [],_,_,i,hi=>by simp at hi
 | a::l,h,t,i,hi=>by
  have h':=List.pairwise_cons.1 h;unfold lessN
  by_cases ha:a<t
  · rw[List.filter_cons_of_pos (by simpa using ha)]
    cases i with
    | zero=>simp[ha]
    | succ i=>
     have:=qco h'.2 t i (by simpa using hi)
     unfold lessN at this;simp only[List.getElem_cons_succ,List.length_cons];omega
  · rw[List.filter_cons_of_neg (by simpa using ha)]
    have hnone:l.filter (fun x=>decide (x<t))=[]:=List.filter_eq_nil_iff.2 fun x hx=>by
     have:=h'.1 x hx;simp;omega
    rw[hnone];cases i with
    | zero=>simp only[List.getElem_cons_zero,List.length_nil];omega
    | succ i=>
     have:=h'.1 _ (List.getElem_mem (show i<l.length by simpa using hi))
     simp only[List.getElem_cons_succ,List.length_nil];omega
theorem qtw (r:Int) (l:List Int):lessN r (canonI l)=(belowL r l).length:=by
 unfold lessN;have hn:((canonI l).filter fun x=>decide (x<r)).Nodup:=((qjj l).imp (S:=fun a b=>a≠b) fun h e=>by subst e;exact Int.lt_irrefl _ h).filter _
 refine qxx hn (qnc r l) fun x=>?_
 rw[List.mem_filter,qdo,qlb];simp
end Am

namespace Am
open Go
def ones (x:BitVec 64):Nat→Nat
 | 0=>0
 | n+1=>ones x n+(x.getLsbD n).toNat
def onesN (x:Nat):Nat→Nat
 | 0=>0
 | n+1=>x % 2+onesN (x / 2) n
theorem qngb (x n:Nat):(x.testBit n).toNat=x / 2^n % 2:=by
 rw[Nat.testBit_eq_decide_div_mod_eq];rcases Nat.mod_two_eq_zero_or_one (x / 2^n) with h|h<;>simp[h]
theorem qfcb (n:Nat):∀ x,onesN x (n+1)=onesN x n+x / 2^n % 2:=by
 induction n with
 | zero=>intro x;simp[onesN]
 | succ n ih=>
  intro x;have h:x / 2 / 2^n=x / 2^(n+1):=by rw[Nat.div_div_eq_div_mul,Nat.pow_succ,Nat.mul_comm]
  rw[onesN,ih (x / 2),h,onesN];omega
theorem qrkb (x:BitVec 64):∀ n,ones x n=onesN x.toNat n
 | 0=>rfl
 | n+1=>by rw[ones,qrkb x n,qfcb,← qngb];rfl
def mk (B m:Nat):Nat→Nat
 | 0=>0
 | k+1=>B*mk B m k+m
theorem qwg (t B q r m M:Nat) (hB:B=2^t) (hr:r<B) (hm:m<B):(B*q+r)&&&(B*M+m)=B*(q&&&M)+(r&&&m):=by
 subst hB;have e:=Nat.div_add_mod ((2^t*q+r)&&&(2^t*M+m)) (2^t);have hp:0<2^t:=Nat.two_pow_pos t;rw[Nat.and_div_two_pow,Nat.and_mod_two_pow] at e;have d1:(2^t*q+r) / 2^t=q:=by rw[Nat.mul_add_div hp,Nat.div_eq_of_lt hr];omega
 have d2:(2^t*M+m) / 2^t=M:=by rw[Nat.mul_add_div hp,Nat.div_eq_of_lt hm];omega
 have d3:(2^t*q+r) % 2^t=r:=by rw[Nat.mul_add_mod,Nat.mod_eq_of_lt hr]
 have d4:(2^t*M+m) % 2^t=m:=by rw[Nat.mul_add_mod,Nat.mod_eq_of_lt hm]
 rw[d1,d2,d3,d4] at e;exact e.symm
def s1 (X k:Nat):Nat:=(X / 2&&&mk 256 85 k)+(X&&&mk 256 85 k)
def s2 (X k:Nat):Nat:=(X / 4&&&mk 256 51 k)+(X&&&mk 256 51 k)
def s3 (X k:Nat):Nat:=(X / 16+X)&&&mk 256 15 k
theorem qps (s q b m M:Nat) (hs:s≤8) (hb:b<256) (hm:m<2^(8-s)):((256*q+b) / 2^s)&&&(256*M+m)=256*((q / 2^s)&&&M)+((b / 2^s)&&&m):=by
 have h1:(256*q+b) / 2^s=256*(q / 2^s)+(2^(8-s)*(q % 2^s)+b / 2^s):=by
  have h8:256=2^(8-s)*2^s:=by rw[← Nat.pow_add,show 8-s+s=8 by omega]
  have hp:0<2^s:=Nat.two_pow_pos s;have hq:=Nat.div_add_mod q (2^s)
  have:256*q+b=2^s*(2^(8-s)*q)+b:=by
   conv=>lhs;rw[h8]
   rw[Nat.mul_comm (2^(8-s)),Nat.mul_assoc]
  rw[this,Nat.mul_add_div hp]
  have:2^(8-s)*q=256*(q / 2^s)+2^(8-s)*(q % 2^s):=by
   conv=>lhs;rw[← hq]
   rw[Nat.mul_add,← Nat.mul_assoc,← h8]
  omega
 have hlow:b / 2^s<2^(8-s):=by
  rw[Nat.div_lt_iff_lt_mul (Nat.two_pow_pos s),← Nat.pow_add,show 8-s+s=8 by omega];exact hb
 have hqs:q % 2^s<2^s:=Nat.mod_lt _ (Nat.two_pow_pos s)
 have hle:2^(8-s)≤256:=by
  have:=Nat.pow_le_pow_right (show 0<2 by omega) (show 8-s≤8 by omega)
  exact this
 have hsum:2^(8-s)*(q % 2^s)+b / 2^s<256:=by
  have h2:2^(8-s)*(q % 2^s+1)≤2^(8-s)*2^s:=Nat.mul_le_mul_left _ hqs;rw[← Nat.pow_add,show 8-s+s=8 by omega,Nat.mul_add] at h2
  omega
 rw[h1,qwg 8 256 (q / 2^s) _ m M rfl hsum (by omega)]
 congr 1
 have e:=qwg (8-s) (2^(8-s)) (q % 2^s) (b / 2^s) m 0 rfl hlow hm
 simpa using e
theorem qnvb (q b k:Nat) (hb:b<256):s1 (256*q+b) (k+1)=256*s1 q k+s1 b 1:=by
 unfold s1;have h1:=qps 1 q b 85 (mk 256 85 k) (by omega) hb (by decide)
 have h2:=qwg 8 256 q b 85 (mk 256 85 k) rfl hb (by decide)
 simp only[Nat.pow_one] at h1;simp only[mk,Nat.mul_zero,Nat.zero_add];rw[h1,h2];omega
theorem qvsb (q b k:Nat) (hb:b<256):s2 (256*q+b) (k+1)=256*s2 q k+s2 b 1:=by
 unfold s2;have h1:=qps 2 q b 51 (mk 256 51 k) (by omega) hb (by decide)
 have h2:=qwg 8 256 q b 51 (mk 256 51 k) rfl hb (by decide)
 simp only[show (2:Nat)^2=4 from rfl] at h1
 simp only[mk,Nat.mul_zero,Nat.zero_add];rw[h1,h2];omega
theorem qon:∀ b,b<256→s1 b 1<256∧s2 (s1 b 1) 1<256∧s2 (s1 b 1) 1 % 16≤4∧s2 (s1 b 1) 1 / 16≤4∧(s2 (s1 b 1) 1 / 16+s2 (s1 b 1) 1) % 16=onesN b 8∧onesN b 8≤8:=by decide +kernel
theorem qta (q b n:Nat) (hb:b<256):onesN (256*q+b) (n+8)=onesN b 8+onesN q n:=by
 have e:(256*q+b) / 2 / 2 / 2 / 2 / 2 / 2 / 2 / 2=q:=by omega
 have e2:b / 2 / 2 / 2 / 2 / 2 / 2 / 2 / 2=0:=by omega
 simp only[onesN];rw[e];omega
def dig (X:Nat):Nat→Nat
 | 0=>0
 | k+1=>256*dig (X / 256) k+onesN (X % 256) 8
theorem qhib:∀ (k X:Nat),s2 (s1 X k) k % 16≤4∧s3 (s2 (s1 X k) k) k=dig X k
 | 0,X=>by simp[s1,s2,s3,mk,dig]
 | k+1,X=>by
  obtain ⟨i1,i2⟩:=qhib k (X / 256);have hb:X % 256<256:=Nat.mod_lt _ (by omega)
  have hx:X=256*(X / 256)+X % 256:=(Nat.div_add_mod X 256).symm;obtain ⟨f1,f2,f3,f4,f5,f6⟩:=qon (X % 256) hb
  have e1:s1 X (k+1)=256*s1 (X / 256) k+s1 (X % 256) 1:=by
   conv=>lhs;rw[hx]
   exact qnvb _ _ _ hb
  have e2:s2 (s1 X (k+1)) (k+1)=256*s2 (s1 (X / 256) k) k+s2 (s1 (X % 256) 1) 1:=by rw[e1];exact qvsb _ _ _ f1
  rw[e2,dig];generalize s2 (s1 (X / 256) k) k=A at *;generalize s2 (s1 (X % 256) 1) 1=n at *;refine ⟨by omega,?_⟩
  unfold s3 at i2 ⊢;have hs:(256*A+n) / 16+(256*A+n)=256*(A / 16+A)+(16*(A % 16)+n / 16+n):=by omega
  have h3:=qwg 8 256 (A / 16+A) (16*(A % 16)+n / 16+n) 15 (mk 256 15 k) rfl (by omega) (by decide)
  simp only[mk];rw[hs,h3,i2];have h4:(16*(A % 16)+n / 16+n)&&&15=(16*(A % 16)+n / 16+n) % 16:=Nat.and_two_pow_sub_one_eq_mod _ 4;rw[h4];omega
theorem qxkb (X:Nat):∃ p0 p1 p2 p3 p4 p5 p6 p7,p0≤8∧p1≤8∧p2≤8∧p3≤8∧p4≤8∧p5≤8∧p6≤8∧p7≤8∧onesN X 64=p0+p1+p2+p3+p4+p5+p6+p7∧dig X 8=256*(256*(256*(256*(256*(256*(256*(256*0+p7)+p6)+p5)+p4)+p3)+p2)+p1)+p0:=by
 have hb:∀ Y:Nat,onesN (Y % 256) 8≤8:=fun Y=>(qon (Y % 256) (Nat.mod_lt _ (by omega))).2.2.2.2.2
 have st:∀ (Y n:Nat),onesN Y (n+8)=onesN (Y % 256) 8+onesN (Y / 256) n:=fun Y n=>by
  have:=qta (Y / 256) (Y % 256) n (Nat.mod_lt _ (by omega))
  rwa [Nat.div_add_mod] at this
 refine ⟨_,_,_,_,_,_,_,_,hb X,hb (X / 256),hb (X / 256 / 256),hb (X / 256 / 256 / 256),hb (X / 256 / 256 / 256 / 256),hb (X / 256 / 256 / 256 / 256 / 256),hb (X / 256 / 256 / 256 / 256 / 256 / 256),hb (X / 256 / 256 / 256 / 256 / 256 / 256 / 256),?_,rfl⟩;rw[st X 56,st _ 48,st _ 40,st _ 32,st _ 24,st _ 16,st _ 8,st _ 0];simp only[onesN];omega
theorem qsx (y p0 p1 p2 p3 p4 p5 p6 p7:Nat) (h0:p0≤8) (h1:p1≤8) (h2:p2≤8) (h3:p3≤8) (h4:p4≤8) (h5:p5≤8) (h6:p6≤8) (h7:p7≤8) (hy:y=256*(256*(256*(256*(256*(256*(256*(256*0+p7)+p6)+p5)+p4)+p3)+p2)+p1)+p0) :
 ∃ z u v,z=y+y / 256∧u=z+z / 65536∧v=u+u / 4294967296∧v<9223372036854775808∧v % 128=p0+p1+p2+p3+p4+p5+p6+p7:=by
 have e1:y / 256=256*(256*(256*(256*(256*(256*p7+p6)+p5)+p4)+p3)+p2)+p1:=by omega
 refine ⟨_,_,_,rfl,rfl,rfl,?_⟩;have e2:y+y / 256=256*(256*(256*(256*(256*(256*(256*p7+(p6+p7))+(p5+p6))+(p4+p5))+(p3+p4))+(p2+p3))+(p1+p2))+(p0+p1):=by omega
 generalize y+y / 256=z at *;have e3:z / 65536=256*(256*(256*(256*(256*p7+(p6+p7))+(p5+p6))+(p4+p5))+(p3+p4))+(p2+p3):=by omega
 have e4:z+z / 65536=256*(256*(256*(256*(256*(256*(256*p7+(p6+p7))+(p5+p6+p7))+(p4+p5+p6+p7))+(p3+p4+p5+p6))+(p2+p3+p4+p5))+(p1+p2+p3+p4))+(p0+p1+p2+p3):=by omega
 generalize z+z / 65536=u at *;have e5:u / 4294967296=256*(256*(256*p7+(p6+p7))+(p5+p6+p7))+(p4+p5+p6+p7):=by omega
 clear e1 e2 e3 hy;omega
theorem qlxb {a:Nat} (h:a<18446744073709551616):D.int .u64 (a:Int)=bvD (BitVec.ofNat 64 a):=by
 unfold bvD;rw[BitVec.toNat_ofNat,Nat.mod_eq_of_lt (by omega)]
theorem qfkb (x:BitVec 64) {a:Nat} (h:x.toNat=a):bvD x=D.int .u64 (a:Int):=by unfold bvD;rw[h]
theorem qmk {a:Nat} (h:a<18446744073709551616) (n:Nat):PO.eval (.bin .shr false) [.int .u64 (a:Int),.int .u64 (n:Int)]=some [.int .u64 ((a / 2^n:Nat):Int)]:=by
 rw[qlxb h,qaa]
 congr 2
 exact qfkb _ (by rw[BitVec.toNat_ushiftRight,Nat.shiftRight_eq_div_pow,BitVec.toNat_ofNat,Nat.mod_eq_of_lt (by omega)])
theorem qym {a b:Nat} (h:a<18446744073709551616) (h':b<18446744073709551616):PO.eval (.bin .and false) [.int .u64 (a:Int),.int .u64 (b:Int)]=some [.int .u64 ((a&&&b:Nat):Int)]:=by
 rw[qlxb h,qlxb h',qleb]
 congr 2
 exact qfkb _ (by rw[BitVec.toNat_and,BitVec.toNat_ofNat,BitVec.toNat_ofNat,Nat.mod_eq_of_lt (by omega),Nat.mod_eq_of_lt (by omega)])
theorem qkk {a b:Nat} (h:a+b<18446744073709551616):PO.eval (.bin .add false) [.int .u64 (a:Int),.int .u64 (b:Int)]=some [.int .u64 ((a+b:Nat):Int)]:=by
 show one1 (some (.int .u64 (IntKind.u64.wrap ((a:Int)+(b:Int)))))=_
 rw[qnac (by omega) (by omega)];rfl
end Am

namespace Am
open Go
def low (x:BitVec 64):Nat:=Lib.ctz 64 x.toNat
theorem qhvb (x:Nat) (h0:x≠0) (h:x<2^64):∃ m k,x=2^k*(2*m+1)∧k<64∧Lib.ctz 64 x=k∧x&&&(x-1)=2^(k+1)*m:=by
 obtain ⟨m,hm,hk⟩:=Lib.ctzFrom_spec 64 x (by omega) h
 refine ⟨m,_,hm,hk,by unfold Lib.ctz;rw[if_neg h0],?_⟩
 generalize Lib.ctzFrom 64 x=k at *;have hp:0<2^k:=Nat.two_pow_pos k;have hB:2^(k+1)=2*2^k:=by rw[Nat.pow_succ];omega
 have e1:x=2^(k+1)*m+2^k:=by rw[hm,Nat.mul_add,Nat.mul_one,hB,← Nat.mul_assoc,Nat.mul_comm (2^k) 2]
 have e2:x-1=2^(k+1)*m+(2^k-1):=by omega
 have h3:2^k&&&(2^k-1)=0:=by rw[Nat.and_two_pow_sub_one_eq_mod];simp
 rw[e2]
 conv=>lhs;rw[e1]
 rw[qwg (k+1) (2^(k+1)) m (2^k) (2^k-1) m rfl (by omega) (by omega),Nat.and_self,h3,Nat.add_zero]
theorem qaob (x:BitVec 64) (hx:x≠0#64):low x<64∧x.getLsbD (low x)=true∧(∀ w,w<low x→x.getLsbD w=false)∧∀ w,(x&&&(x-1#64)).getLsbD w=(x.getLsbD w && !decide (w=low x)):=by
 have hx0:x.toNat≠0:=fun h=>hx (BitVec.eq_of_toNat_eq (by simpa using h))
 obtain ⟨m,k,e,hk,hc,ha⟩:=qhvb x.toNat hx0 x.isLt;have hlow:low x=k:=hc;rw[hlow];have hB:2^(k+1)=2*2^k:=by rw[Nat.pow_succ];omega
 have e1:x.toNat=2^(k+1)*m+2^k:=by rw[e,Nat.mul_add,Nat.mul_one,hB,← Nat.mul_assoc,Nat.mul_comm (2^k) 2]
 have hp:0<2^k:=Nat.two_pow_pos k
 have hbit:∀ w,x.getLsbD w=if w<k+1 then decide (w=k) else m.testBit (w-(k+1)):=by
  intro w
  show x.toNat.testBit w=_
  rw[e1,Nat.testBit_two_pow_mul_add _ (by omega)]
  split
  · rw[Nat.testBit_two_pow];exact decide_eq_decide.2 ⟨fun h=>h.symm,fun h=>h.symm⟩
  · rfl
 refine ⟨hk,by rw[hbit];simp,fun w hw=>by rw[hbit,if_pos (by omega)];simp;omega,fun w=>?_⟩
 have hsub:(x-1#64).toNat=x.toNat-1:=by
  have h1:=x.isLt;rw[BitVec.toNat_sub];have h2:(1#64:BitVec 64).toNat=1:=rfl;rw[h2];omega
 have h2:(x&&&(x-1#64)).getLsbD w=(2^(k+1)*m).testBit w:=by
  show (x&&&(x-1#64)).toNat.testBit w=_
  rw[BitVec.toNat_and,hsub,ha]
 rw[h2,hbit w];have:=Nat.testBit_two_pow_mul_add (i:=k+1) m (b:=0) (by omega) w
 rw[Nat.add_zero] at this;rw[this]
 split
 · rename_i h
   by_cases hw:w=k<;>simp[hw]
 · have:w≠k:=by omega
   simp[this]
def worldsTo (X:BitVec 64) (n:Nat):List Nat:=(List.range n).filter X.getLsbD
theorem qhi (X:BitVec 64) (n:Nat):worldsTo X (n+1)=worldsTo X n++if X.getLsbD n=true then [n] else []:=by
 unfold worldsTo;rw[List.range_succ,List.filter_append]
 congr 1
 cases h:X.getLsbD n<;>simp[h]
theorem qtd (X:BitVec 64) (a:Nat):∀ d,(∀ w,a≤w→w<a+d→X.getLsbD w=false)→worldsTo X (a+d)=worldsTo X a
 | 0,_=>rfl
 | d+1,h=>by
  rw[← Nat.add_assoc,qhi,h (a+d) (by omega) (by omega),qtd X a d (fun w h1 h2=>h w h1 (by omega))]
  simp
theorem qoe (X:BitVec 64) (n:Nat):(worldsTo X n).length≤n:=by
 unfold worldsTo;exact Nat.le_trans (List.length_filter_le _ _) (by simp)
def from_ (X:BitVec 64) (a:Nat):BitVec 64:=bitsTo (fun w=>decide (a≤w)&&X.getLsbD w) 64
theorem qdf (X:BitVec 64) (a w:Nat) (hw:w<64):(from_ X a).getLsbD w=(decide (a≤w)&&X.getLsbD w):=by
 unfold from_;rw[qi _ _ _ (Nat.le_refl _)];simp[hw]
theorem qbgb (X:BitVec 64):from_ X 0=X:=que fun w hw=>by rw[qdf _ _ _ hw];simp
theorem qlib (X:BitVec 64) (a:Nat) (h:from_ X a≠0#64):a≤low (from_ X a)∧low (from_ X a)<64∧from_ X a&&&(from_ X a-1#64)=from_ X (low (from_ X a)+1)∧worldsTo X (low (from_ X a)+1)=worldsTo X a++[low (from_ X a)]:=by
 obtain ⟨h1,h2,h3,h4⟩:=qaob _ h;generalize hk:low (from_ X a)=k at *;rw[qdf _ _ _ h1] at h2;simp only[Bool.and_eq_true,decide_eq_true_eq] at h2;refine ⟨h2.1,h1,que fun w hw=>?_,?_⟩
 · rw[h4,qdf _ _ _ hw,qdf _ _ _ hw]
   by_cases hw1:w<k
   · have:=h3 w hw1;rw[qdf _ _ _ hw] at this;rw[this];have:¬ k+1≤w:=by omega
     simp[this]
   · by_cases hw2:w=k
     · subst hw2;have:¬ w+1≤w:=by omega
       simp[this]
     · have a1:k+1≤w:=by omega
       have a2:a≤w:=by omega
       simp[a1,a2,hw2]
 · rw[qhi,h2.2]
   have:=qtd X a (k-a) (fun w g1 g2=>by
    have:=h3 w (by omega)
    rw[qdf _ _ _ (by omega)] at this
    simpa [g1] using this)
   rw[show a+(k-a)=k by omega] at this
   rw[this];rfl
theorem qlhb (X:BitVec 64) (a:Nat) (ha:a≤64) (h:from_ X a=0#64):worldsTo X a=worldsTo X 64:=by
 have:=qtd X a (64-a) (fun w g1 g2=>by
  have h0:=(qfm _).1 h w (by omega)
  rw[qdf _ _ _ (by omega)] at h0
  simpa [g1] using h0)
 rw[show a+(64-a)=64 by omega] at this
 exact this.symm
end Am

namespace Am
open Go
def Pat (l m:List Int):Prop:=l.length=m.length∧∀ i j,i<l.length→j<l.length→(l.getD i 0<l.getD j 0↔m.getD i 0<m.getD j 0)
theorem Pat.symm {l m:List Int} (h:Pat l m):Pat m l:=⟨h.1.symm,fun i j hi hj=>(h.2 i j (h.1 ▸ hi) (h.1 ▸ hj)).symm⟩
theorem Pat.trans {l m k:List Int} (h:Pat l m) (h':Pat m k):Pat l k:=⟨h.1.trans h'.1,fun i j hi hj=>(h.2 i j hi hj).trans (h'.2 i j (h.1 ▸ hi) (h.1 ▸ hj))⟩
theorem Pat.eq {l m:List Int} (h:Pat l m) {i j:Nat} (hi:i<l.length) (hj:j<l.length):l.getD i 0=l.getD j 0↔m.getD i 0=m.getD j 0:=by
 have h1:=h.2 i j hi hj;have h2:=h.2 j i hj hi
 constructor<;>intro e<;>omega
theorem gd {l:List Int} {i:Nat} (h:i<l.length):l.getD i 0=l[i]:=by simp[h]
theorem qct {l m:List Int} (h:Pat l m) {i:Nat} (hi:i<l.length):∀ k,k≤l.length→
 ∃ js:List Nat,(∀ j∈js,j<l.length)∧(l.take k).foldl (belowF (l.getD i 0)) []=js.map (fun j=>l.getD j 0)∧(m.take k).foldl (belowF (m.getD i 0)) []=js.map (fun j=>m.getD j 0)
 | 0,_=>⟨[],by simp,by simp,by simp⟩
 | k+1,hk=>by
  obtain ⟨js,h1,h2,h3⟩:=qct h hi k (by omega)
  have hm:=h.1;have tl:l.take (k+1)=l.take k++[l.getD k 0]:=by rw[List.take_add_one,List.getElem?_eq_getElem (by omega),gd (by omega)];rfl
  have tm:m.take (k+1)=m.take k++[m.getD k 0]:=by rw[List.take_add_one,List.getElem?_eq_getElem (by omega),gd (by omega)];rfl
  rw[tl,tm,List.foldl_append,List.foldl_append,h2,h3];simp only[List.foldl_cons,List.foldl_nil];have e1:=h.2 k i (by omega) hi
  have e2:(l.getD k 0∈js.map fun j=>l.getD j 0)↔(m.getD k 0∈js.map fun j=>m.getD j 0):=by
   simp only[List.mem_map];exact ⟨fun ⟨j,hj,he⟩=>⟨j,hj,(h.eq (h1 j hj) (by omega)).1 he⟩,fun ⟨j,hj,he⟩=>⟨j,hj,(h.eq (h1 j hj) (by omega)).2 he⟩⟩
  by_cases c:l.getD k 0<l.getD i 0∧l.getD k 0 ∉ js.map fun j=>l.getD j 0
  · have c':m.getD k 0<m.getD i 0∧m.getD k 0 ∉ js.map fun j=>m.getD j 0:=⟨e1.1 c.1,fun hx=>c.2 (e2.2 hx)⟩
    refine ⟨js++[k],fun j hj=>?_,?_,?_⟩
    · rcases List.mem_append.1 hj with hj|hj
      · exact h1 j hj
      · simp only[List.mem_singleton] at hj;omega
    · unfold belowF;rw[if_pos c];simp
    · unfold belowF;rw[if_pos c'];simp
  · have c':¬ (m.getD k 0<m.getD i 0∧m.getD k 0 ∉ js.map fun j=>m.getD j 0):=fun ⟨a,b⟩=>c ⟨e1.2 a,fun hx=>b (e2.1 hx)⟩
    exact ⟨js,h1,by unfold belowF;rw[if_neg c],by unfold belowF;rw[if_neg c']⟩
theorem qgmb {l m:List Int} (h:Pat l m):normS l=normS m:=by
 have hm:=h.1;unfold normS;refine List.ext_getElem (by simp[hm]) fun i h1 h2=>?_
 have hi:i<l.length:=by simpa using h1
 obtain ⟨js,_,e1,e2⟩:=qct h hi l.length (Nat.le_refl _);rw[List.take_length] at e1;rw[hm,List.take_length] at e2;simp only[List.getElem_map,belowL,← gd hi,← gd (show i<m.length by omega),e1,e2,List.length_map]
theorem qhx (l:List Int):Pat (normS l) l:=by
 refine ⟨by simp[normS],fun i j hi hj=>?_⟩
 have hi':i<l.length:=by simpa [normS] using hi
 have hj':j<l.length:=by simpa [normS] using hj
 rw[gd hi,gd hj,gd hi',gd hj'];simp only[normS,List.getElem_map]
 constructor
 · intro h;refine Int.not_le.1 fun hc=>?_
   have:=qpjb l hc;omega
 · intro h;have:=qoeb (List.getElem_mem hi') h;omega
def Rk (N:Nat) (l:List Int):Prop:=l.length=N∧∀ r∈l,0≤r∧r<N
theorem qrvb (l:List Int):Rk l.length (normS l):=by
 refine ⟨by simp[normS],fun r hr=>?_⟩
 unfold normS at hr;obtain ⟨x,hx,rfl⟩:=List.mem_map.1 hr;have:=qgk hx;omega
end Am

namespace Am
open Go
def nxtP (k:Int) (N:Nat) (m l:BitVec 64) (r:Int) (w:Nat):Int:=
 if k=2 then (if m.getLsbD w=true then 3*(r+1)-3*(N+1) else 3*(r+1))
 else if l.getLsbD w=true then 0 else if k=3∧¬ m.getLsbD w=true then 3*(r+1)+1 else 3*(r+1)
def nxtPL (k:Int) (o:List Int) (m l:BitVec 64):List Int:=(List.range o.length).map fun w=>nxtP k o.length m l (o.getD w 0) w
theorem qhpb {k:Int} {o:List Int} {m l:BitVec 64} {w:Nat} (h:w<o.length):(nxtPL k o m l).getD w 0=nxtP k o.length m l (o.getD w 0) w:=by
 rw[gd (by simpa [nxtPL] using h)];simp[nxtPL]
def nextS (names:List (List UInt8)) (k:Int) (o:List Int) (m:BitVec 64):List Int:=normS (nxtPL k o m (leastS names o m))
structure Ord (names:List (List UInt8)) (N:Nat) (o:List Int):Prop where
 ok:orderE names o=0
 rk:Rk N o
theorem Ord.least {names:List (List UInt8)} {N:Nat} {o:List Int} (h:Ord names N o) (S:BitVec 64) (w:Nat):has (leastS names o S) w↔w<N∧has S w∧∀ v,v<N→has S v→¬ o.getD v 0<o.getD w 0:=by
 have hl:=(qze h.ok).get S w;obtain ⟨rfl,_⟩:=h.rk;have g0:∀ {i:Nat},i<o.length→o.getD i (-1)=o.getD i 0:=fun h=>by simp[h]
 rw[hl]
 constructor
 · rintro ⟨h1,h2,h3⟩;refine ⟨h1,h2,fun v hv hs=>?_⟩
   have:=h3 v hv hs;rw[g0 h1,g0 hv] at this;omega
 · rintro ⟨h1,h2,h3⟩;refine ⟨h1,h2,fun v hv hs=>?_⟩
   have:=h3 v hv hs;rw[g0 h1,g0 hv];omega
theorem Ord.ex {names:List (List UInt8)} {N:Nat} {o:List Int} (h:Ord names N o) {S:BitVec 64} {v:Nat} (hv:v<N) (hs:has S v):∃ w,has (leastS names o S) w:=by
 have:=(qze h.ok).ex (S:=S) (v:=v) (by rw[h.rk.1];exact hv) hs
 exact this
theorem Ord.le {names:List (List UInt8)} {N:Nat} {o:List Int} (h:Ord names N o):N≤64:=by
 have:=(qyd h.ok).1;rw[h.rk.1] at this;exact this
section
variable {names:List (List UInt8)} {N:Nat} {o:List Int} (h:Ord names N o) {k:Int} (hk:k=1∨k=2∨k=3)
include h hk
end
def itE (names:List (List UInt8)) (ranks:List Int) (f:F) (k:Int):Int:=
 if orderE names ranks≠0 then orderE names ranks else if ¬ (1≤k∧k≤3) then 4 else if modelsE names f≠0 then modelsE names f else if modelsS names f=0#64 then 9 else 0
end Am

namespace Am
open Go
def fstE (names:List (List UInt8)):List F→Int
 | []=>0
 | f::l=>if modelsE names f=0 then fstE names l else modelsE names f
end Am

namespace Am
open Go
def mixL (f g:Nat→Int) (N i:Nat):List Int:=(List.range N).map fun v=>if v<i then f v else g v
end Am

namespace Am
open Go
abbrev CF:=F × F
abbrev PP:=BitVec 64 × BitVec 64
def cE (names:List (List UInt8)):List CF→Int
 | []=>0
 | c::l=>if fstE names [c.1,c.2]=0 then cE names l else fstE names [c.1,c.2]
def prE (names:List (List UInt8)) (l:List CF):Int:=if vocOk names=false then 1 else if 64<l.length then 2 else cE names l
def lyAt (p:List PP) (out:List Int) (bad:BitVec 64) (i:Nat):Prop:=out.getD i 0<0∧(p.getD i (0#64,0#64)).1 &&& ~~~bad≠0#64
instance (p:List PP) (out:List Int) (bad:BitVec 64) (i:Nat):Decidable (lyAt p out bad i):=by unfold lyAt;infer_instance
end Am
namespace Am
open Go
end Am

namespace Am
open Go
abbrev alW (n:Nat):BitVec 64:=bitsTo (fun _=>true) (2^n)
def Sub (n:Nat) (X:BitVec 64):Prop:=∀ w,has X w→w<2^n
theorem qpl {n:Nat} (hn:n≤6) {X:BitVec 64} (h:Sub n X):X&&&alW n=X:=qbb fun w=>by
 rw[qo,qab (pow6 hn)];exact ⟨fun h=>h.1,fun hw=>⟨hw,h w hw,rfl⟩⟩
theorem qsa {n:Nat} (hn:n≤6) (X:BitVec 64):Sub n (X&&&alW n):=fun w hw=>by
 rw[qo,qab (pow6 hn)] at hw;exact hw.2.1
theorem qfo {X:BitVec 64} {b n u:Nat} (hn:n≤5) (hb:b<2):has (hf X b (2^(n+1))) u↔2*u+b<2^(n+1)∧has X (2*u+b):=by
 have hp:=pow6 (show n+1≤6 by omega)
 unfold hf;rw[qab (Nat.le_refl _)];simp only[Bool.and_eq_true,decide_eq_true_eq,has]
 constructor
 · exact fun h=>h.2
 · exact fun h=>⟨by omega,h⟩
theorem qxy {X:BitVec 64} {b n:Nat} (hn:n≤5) (hb:b<2):Sub n (hf X b (2^(n+1))):=fun u hu=>by
 have:=((qfo hn hb).1 hu).1;rw[Nat.pow_succ] at this;omega
theorem qyib {a:List UInt8} {t f:F} {o:Int} (h:(joinF a t f).op=o) (ho:o=1∨o=2):F.beq t f=true∧t.op=o:=by
 unfold joinF at h
 by_cases h1:F.beq t f=true
 · rw[if_pos h1] at h;exact ⟨h1,h⟩
 rw[if_neg h1] at h
 exfalso
 repeat' split at h
 all_goals (simp only[atF,noF1,pr,F.op_mk] at h;omega)
theorem qkz:∀ (voc:List (List UInt8)),voc.length≤6→∀ X:BitVec 64,Sub voc.length X→((thy voc X).op=1→X=alW voc.length)∧((thy voc X).op=2→X=0#64)
 | [],_,X,hX=>by
  have e:=qpl (n:=0) (by omega) hX
  unfold alW at e;unfold thy;rw[e]
  by_cases h0:X=0#64
  · rw[if_pos h0];simp[F.op_mk,h0]
  · rw[if_neg h0];refine ⟨fun _=>?_,fun h=>by simp[F.op_mk] at h⟩
    obtain ⟨w,hw⟩:=qag h0;have hw0:w=0:=by have:=hX w hw;simpa using this
    subst hw0;refine qbb fun v=>?_
    unfold alW;rw[qab (by simp)]
    constructor
    · exact fun hv=>⟨hX v hv,rfl⟩
    · rintro ⟨hv,_⟩;have:v=0:=by simpa using hv
      rw[this];exact hw
 | a::l,h6,X,hX=>by
  have hl:l.length≤5:=by simp only[List.length_cons] at h6;omega
  have e:=qpl (n:=l.length+1) (by omega) hX
  unfold alW at e;unfold thy;rw[e]
  show (_→X=alW (l.length+1))∧_
  by_cases h0:X=0#64
  · rw[if_pos h0];simp[F.op_mk,h0]
  rw[if_neg h0]
  by_cases h1:X=bitsTo (fun _=>true) (2^(l.length+1))
  · rw[if_pos h1];exact ⟨fun _=>h1,fun h=>by simp[F.op_mk] at h⟩
  rw[if_neg h1];have i1:=qkz l (by omega) (hf X 1 (2^(l.length+1))) (qxy hl (by omega))
  have i0:=qkz l (by omega) (hf X 0 (2^(l.length+1))) (qxy hl (by omega))
  have hp:2^(l.length+1)=2*2^l.length:=by rw[Nat.pow_succ];omega
  have back:∀ w,has X w→∃ u b,b<2∧w=2*u+b∧has (hf X b (2^(l.length+1))) u:=fun w hw=>
   ⟨w / 2,w % 2,by omega,by omega,(qfo hl (by omega)).2 ⟨by have:=hX w hw;simp only[List.length_cons] at this;omega,by rw[show 2*(w / 2)+w % 2=w by omega];exact hw⟩⟩
  constructor
  · intro ho;obtain ⟨hb,ht⟩:=qyib ho (.inl rfl);have hbe:=F.beq_true _ _ hb;have e1:=i1.1 ht;have e0:=i0.1 (hbe ▸ ht);refine qbb fun w=>?_
    unfold alW;rw[qab (pow6 (by omega))]
    constructor
    · exact fun hw=>⟨hX w hw,rfl⟩
    · rintro ⟨hw,_⟩
      have key:∀ b,b<2→w % 2=b→hf X b (2^(l.length+1))=alW l.length→has X w:=fun b hb hwb he=>by
       have h2:has (hf X b (2^(l.length+1))) (w / 2):=by
        rw[he];unfold alW;rw[qab (pow6 (by omega))];exact ⟨by omega,rfl⟩
       have:=((qfo hl hb).1 h2).2
       rwa [show 2*(w / 2)+b=w by omega] at this
      by_cases hw2:w % 2=1
      · exact key 1 (by omega) hw2 e1
      · exact key 0 (by omega) (by omega) e0
  · intro ho;obtain ⟨hb,ht⟩:=qyib ho (.inr rfl);have hbe:=F.beq_true _ _ hb;have e1:=i1.2 ht;have e0:=i0.2 (hbe ▸ ht);refine qvc.2 fun w hw=>?_
    obtain ⟨u,b,hb2,_,hu⟩:=back w hw;obtain rfl|rfl:b=0∨b=1:=by omega
    · rw[e0] at hu;exact qvc.1 rfl u hu
    · rw[e1] at hu;exact qvc.1 rfl u hu
theorem qyxb {voc:List (List UInt8)}:(thy voc 0#64).op=2:=by
 cases voc with
 | nil=>unfold thy;rw[if_pos (by simp)];rfl
 | cons a l=>unfold thy;rw[if_pos (by simp)];rfl
theorem qyrb {n:Nat} (hn:n≤6):alW n≠0#64:=fun h=>(qvc.1 h) 0 (by unfold alW;rw[qab (pow6 hn)];exact ⟨Nat.two_pow_pos n,rfl⟩)
theorem qdxb {voc:List (List UInt8)} (h6:voc.length≤6):(thy voc (alW voc.length)).op=1:=by
 cases voc with
 | nil=>
  have:=qyrb (n:=0) (by omega)
  unfold alW at this ⊢;unfold thy;rw[if_neg (by simp only[List.length_nil,BitVec.and_self];exact this)];rfl
 | cons a l=>
  have:=qyrb (n:=l.length+1) h6;unfold alW at this ⊢;unfold thy;simp only[List.length_cons,BitVec.and_self];rw[if_neg this,if_pos trivial];rfl
theorem qiv {voc:List (List UInt8)} (h6:voc.length≤6) {X:BitVec 64} (hX:Sub voc.length X):(thy voc X).op=1↔X=alW voc.length:=
 ⟨(qkz voc h6 X hX).1,fun h=>by rw[h];exact qdxb h6⟩
theorem qax {voc:List (List UInt8)} (h6:voc.length≤6) {X:BitVec 64} (hX:Sub voc.length X):(thy voc X).op=2↔X=0#64:=
 ⟨(qkz voc h6 X hX).2,fun h=>by rw[h];exact qyxb⟩
theorem qcub {voc:List (List UInt8)} (hv:okNames voc=true) (h6:voc.length≤6) {X Y:BitVec 64} (hX:Sub voc.length X) (hY:Sub voc.length Y) (h:thy voc X=thy voc Y):X=Y:=qbb fun w=>by
 by_cases hw:w<2^voc.length
 · have a:=qmj hv h6 X w hw;have b:=qmj hv h6 Y w hw;rw[h] at a;unfold has;rw[← a,← b]
 · exact ⟨fun h=>absurd (hX w h) hw,fun h=>absurd (hY w h) hw⟩
def sp (X:BitVec 64) (b i:Nat):BitVec 64:=bitsTo (fun u=>X.getLsbD (2*u+b)) i
theorem qzyb {X:BitVec 64} {b n:Nat} (hn:n≤5) (hb:b<2) (hX:Sub (n+1) X):sp X b 32=hf X b (2^(n+1)):=qbb fun u=>by
 rw[qfo hn hb];unfold sp;rw[qab (by omega)]
 have hp:=pow6 (show n+1≤6 by omega)
 constructor
 · exact fun h=>⟨hX _ h.2,h.2⟩
 · exact fun h=>⟨by omega,h.2⟩
theorem qvjb (X:BitVec 64) (b:Nat):sp X b 0=0#64:=rfl
theorem qbfb (X:BitVec 64) (b i:Nat) (hi:i<32):sp X b i|||((X >>> (2*i+b))&&&1#64) <<< i=sp X b (i+1):=by
 refine que fun w hw=>?_
 unfold sp;rw[BitVec.getLsbD_or,qi _ _ _ (by omega),qi _ _ _ (by omega),BitVec.getLsbD_shiftLeft,BitVec.getLsbD_and,BitVec.getLsbD_ushiftRight]
 by_cases h:w<i
 · have h1:w<i+1:=by omega
   simp[h,h1,hw]
 · by_cases h2:w=i
   · subst h2;simp[hw]
   · have h3:¬ w<i+1:=by omega
     have h4:¬ w-i=0:=by omega
     have h5:(1#64).getLsbD (w-i)=false:=by
      rw[BitVec.getLsbD_one];simp;omega
     simp[h,h3,h5]
theorem qklb {X:BitVec 64} {b n:Nat} (hn:n≤5) (hb:b<2):hf (X&&&alW (n+1)) b (2^(n+1))=hf X b (2^(n+1)):=qbb fun u=>by
 rw[qfo hn hb,qfo hn hb,qo,qab (pow6 (by omega))]
 exact ⟨fun h=>⟨h.1,h.2.1⟩,fun h=>⟨h.1,h.2,h.1,rfl⟩⟩
theorem qpob {voc:List (List UInt8)} (h6:voc.length≤6) (X:BitVec 64):thy voc (X&&&alW voc.length)=thy voc X:=by
 cases voc with
 | nil=>
  unfold thy alW;rw[List.length_nil,BitVec.and_assoc,BitVec.and_self]
 | cons a l=>
  have h5:l.length≤5:=by simp only[List.length_cons] at h6;omega
  have e1:=qklb (X:=X) (b:=1) h5 (by omega)
  have e0:=qklb (X:=X) (b:=0) h5 (by omega)
  unfold alW at e1 e0;unfold thy alW;rw[List.length_cons,BitVec.and_assoc,BitVec.and_self,e1,e0]
def thyE (voc:List (List UInt8)) (S:BitVec 64):F × Int:=if vocOk voc=true then (thy voc S,0) else (F.mk 0 [] [],1)
end Am

namespace Am
open Go
theorem qwx {n:Nat} (hn:n≤6) (X:BitVec 64) (w:Nat):(X&&&alW n).getLsbD w=(X.getLsbD w&&decide (w<2^n)):=by
 unfold alW;rw[BitVec.getLsbD_and,qi _ _ _ (pow6 hn)];simp
theorem qqj {n:Nat} (hn:n≤6) (X:BitVec 64):worldsTo (X&&&alW n) 64=worldsTo X (2^n):=by
 have h64:=pow6 hn
 have h1:=qtd (X&&&alW n) (2^n) (64-2^n) (fun w h1 h2=>by
  rw[qwx hn];have:¬ w<2^n:=by omega
  simp[this])
 rw[show 2^n+(64-2^n)=64 by omega] at h1
 rw[h1];unfold worldsTo;refine List.filter_congr fun w hw=>?_
 rw[List.mem_range] at hw;rw[qwx hn];simp[hw]
end Am

namespace Am
open Go
end Am

namespace Am
open Go
end Am

namespace Am
open Go
section
variable {N:Nat} {r:Nat→Int} {L:BitVec 64→BitVec 64} (hL:Lst N r L) {A B C T:BitVec 64}
include hL
end
structure Rat9 (y0 y1 y2 y3 y4 y5 y6 y7 y8:Bool):Prop where
 a0:y0=true
 a3:y3=(y1&&y2)
 a4:y1=true→y2=true→y4=true
 a5:y5=false→y2=true→y4=true
 a7:y2=true→y6=true→y7=true
 a8:y1=true→y8=true
end Am

namespace Am
open Go
theorem qjp {f:F} (h:validate f=0):f.size≤600∧f.depth≤20∧good f=true:=by
 unfold validate at h
 split at h
 · simp at h
 · rename_i h1;simp only[Bool.or_eq_true,decide_eq_true_eq,not_or] at h1
   split at h
   · simp at h
   · rename_i h2
     split at h
     · simp at h
     · rename_i h3;refine ⟨by omega,by omega,?_⟩
       simp only[Bool.not_eq_true,Bool.not_eq_false'] at h2 h3;simp[good,h2,h3]
theorem qswb {n:Nat} (hn:n≤6) {X:BitVec 64} (h:∀ w,has X w→w<2^n):X&&&allS (vocN n)=X:=by
 have:allS (vocN n)=alW n:=by unfold allS;rw[if_pos (qzf hn),qw]
 rw[this];exact qpl hn h
end Am
