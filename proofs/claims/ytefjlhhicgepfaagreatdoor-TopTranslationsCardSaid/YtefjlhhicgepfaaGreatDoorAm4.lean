/- Lemmas. -/
import Derived.Test.YtefjlhhicgepfaaGreatDoorAmEv
import Derived.Lib.SlicesCompact
set_option linter.unusedSimpArgs false
set_option linter.unusedVariables false
set_option linter.unusedSectionVars false
open List (all_cons append_nil getElem_cons_succ le_trans map mem_append take_length take_succ_cons)
open Bool (and_eq_true)
namespace Am
open Go
def ai8(d:D)(x y:Option (List D)):Option (List D):=match d with | .bool true=>x | .bool false=>y|_=>none
def opD(o:Option (List D))(k:List D→Option (List D)):Option (List D):=match o with|some outs=>k outs|none=>none
def aek(o:Option (List D))(n:Nat)(sc:Bool)(sl:List Nat)(k:List D→Option (List D)):Option (List D):=match o with
 | some outs=>if outs.length=n∧(sc=true→outs.all D.scal=true)∧sl.all (fun j=>(outs.getD j dfl).isSl)=true then k outs else none
 | none=>none
def aes(f:Option PF)(a:List D):Option (List D):=match f with|some f=>f a|none=>none
theorem qre(t:Bool)(x y:Option (List D)):ai8 (.bool t) x y=if t=true then x else y:=by cases t<;>rfl
theorem qpb(o:List D)(k:List D→Option (List D)):opD (some o) k=k o:=rfl
theorem qad(f:PF)(a:List D):aes (some f) a=f a:=rfl
theorem qrj(a:D)(k:List D→Option (List D)):aek (some [a]) 1 false [] k=k [a]:=rfl
variable {R:Nat→PF}{e:Env}{J:List PF}
theorem qyd(p:PO)(args:List SA)(k:IR):den R (.op p args k) e J=opD (p.eval (args.map (·.val e))) (fun o=>den R k (e++o) J):=by
 simp only[den];rfl
theorem qyc(c:SA)(a b:IR):den R (.ite c a b) e J=ai8 (c.val e) (den R a e J) (den R b e J):=by
 simp only[den];rfl
theorem qch(i n:Nat)(sc:Bool)(sl:List Nat)(args:List SA)(k:IR):den R (.call i n sc sl args k) e J=aek (R i (args.map (·.val e))) n sc sl (fun o=>den R k (e++o) J):=by
 simp only[den];rfl
theorem qzg(n:Nat)(body rest:IR):den R (.letj n body rest) e J=den R body e (J++[fun vs=>den R rest (e++vs) J]):=by
 simp only[den]
theorem qvl(n:Nat)(init:List SA)(body:IR):den R (.loop n init body) e J=r5 (fun L vs=>den R body (e++vs) (J++[L])) (init.map (·.val e)):=by
 simp only[den]
theorem qvd(j:Nat)(args:List SA):den R (.jump j args) e J=aes J[j]? (args.map (·.val e)):=by
 simp only[den];rfl
theorem qqc(args:List SA):den R (.ret args) e J=some (args.map (·.val e)):=by
 simp only[den]
theorem qih{run:Nat→PF}{body:IR}{e:Env}{J:List PF}{ι:Type}(μ:ι→Nat)(Pre:ι→Prop)(a r:ι→List D)
 (step:∀ (x:ι) (L:PF),Pre x→(∀ y,Pre y→μ y<μ x→L (a y)=some (r y))→den run body (e++a x) (J++[L])=some (r x)) :
 ∀ x,Pre x→r5 (fun L vs=>den run body (e++vs) (J++[L])) (a x)=some (r x):=by
 have key:∀ n x,μ x<n→Pre x→r5 (fun L vs=>den run body (e++vs) (J++[L])) (a x)=some (r x):=by
  intro n
  induction n with
  | zero=>intro x h;omega
  | succ n ih=>intro x hx hp;exact afi (step x _ hp (fun y hy cf=>ih y (by omega) hy))
 exact fun x hp=>key _ x (Nat.lt_succ_self _) hp
theorem ayk{run:Nat→PF}{body:IR}{e:Env}{J:List PF}{ι:Type}(μ:ι→Nat)(Pre:ι→Prop)(a:ι→List D)(Post:List D→Prop)
 (step:∀ (x:ι) (L:PF),Pre x→(∀ y,Pre y→μ y<μ x→∃ r,L (a y)=some r∧Post r)→∃ r,den run body (e++a x) (J++[L])=some r∧Post r) :
 ∀ x,Pre x→∃ r,r5 (fun L vs=>den run body (e++vs) (J++[L])) (a x)=some r∧Post r:=by
 have key:∀ n x,μ x<n→Pre x→∃ r,r5 (fun L vs=>den run body (e++vs) (J++[L])) (a x)=some r∧Post r:=by
  intro n
  induction n with
  | zero=>intro x h;omega
  | succ n ih=>
   intro x hx hp;obtain ⟨r,h1,h2⟩:=step x _ hp (fun y hy cf=>ih y (by omega) hy)
   exact ⟨r,afi h1,h2⟩
 exact fun x hp=>key _ x (Nat.lt_succ_self _) hp
theorem qzc(op:BinOp)(tb:Bool)(k k':IntKind)(a b:Int):PO.eval (.bin op tb) [.int k a,.int k' b]=one1 (ac op (.int k a) (.int k' b)):=rfl
theorem qpr(op:BinOp)(tb:Bool)(a b:List UInt8):PO.eval (.bin op tb) [.str a,.str b]=one1 (ac op (.str a) (.str b)):=rfl
theorem ao5(op:BinOp)(a b:Bool):PO.eval (.bin op true) [.bool a,.bool b]=one1 (ac op (.bool a) (.bool b)):=rfl
theorem abo(op:UnOp)(a:D):PO.eval (.un op) [a]=one1 (aUn op a):=rfl
theorem aml(k k':IntKind)(n:Int):PO.eval (.conv k) [.int k' n]=some [.int k (k.wrap n)]:=rfl
theorem qra(l:List UInt8):PO.eval .convS [.str l]=some [.str l]:=rfl
theorem qjn(l:List UInt8):PO.eval .lenS [.str l]=some [.int .i64 l.length]:=rfl
theorem qkd(xs:List (List D)):PO.eval .lenL [.sl xs]=some [.int .i64 xs.length]:=rfl
theorem al5{l:List UInt8}{k:IntKind}{n:Int}{c:UInt8}(h0:0≤n)(h:l[n.toNat]? = some c):PO.eval .idxS [.str l,.int k n]=some [.int .u8 c.toNat]:=by
 simp only[PO.eval,if_pos h0,h]
theorem qpg{sz:Nat}{xs:List (List D)}{k:IntKind}{n:Int}{r:List D}(h0:0≤n)(h:xs[n.toNat]? = some r)(hr:r.length=sz):PO.eval (.row sz) [.sl xs,.int k n]=some r:=by
 simp only[PO.eval,if_pos h0,h,if_pos hr]
theorem al4{l:List UInt8}{k k':IntKind}{a b:Int}(h0:0≤a)(h1:a≤b)(h2:b≤l.length):PO.eval .subS [.str l,.int k a,.int k' b]=some [.str ((l.take b.toNat).drop a.toNat)]:=by
 simp only[PO.eval,if_pos (And.intro h0 (And.intro h1 h2))]
theorem ali{sz:Nat}{xs:List (List D)}{k k':IntKind}{a b:Int}(h0:0≤a)(h1:a≤b)(h2:b≤xs.length)(h3:xs.all (fun r=>r.length == sz)=true):PO.eval (.subL sz) [.sl xs,.int k a,.int k' b]=some [.sl ((xs.take b.toNat).drop a.toNat)]:=by
 simp only[PO.eval,if_pos (And.intro h0 (And.intro h1 (And.intro h2 h3)))]
theorem qxg{sz bt:Nat}{xs ys:List (List D)}(h1:(xs.length+ys.length)*bt≤140737488355328)(h2:xs.length+ys.length≤9223372036854775807)(h3:ys.all (fun r=>r.length == sz)=true):PO.eval (.app sz bt) [.sl xs,.sl ys]=some [.sl (xs++ys)]:=by
 simp only[PO.eval,if_pos (And.intro h1 (And.intro h2 h3))]
theorem aht(xs ys:List (List D)):PO.eval .cat [.sl xs,.sl ys]=some [.sl (xs++ys)]:=rfl
theorem qet{xs:List (List D)}{k:IntKind}{n:Int}(h0:0≤n)(h1:n<xs.length):PO.eval .chk [.sl xs,.int k n]=some []:=by
 simp only[PO.eval,if_pos (And.intro h0 h1)]
theorem ai7(k k':IntKind)(a b:Int):PO.eval .min [.int k a,.int k' b]=some [.int k (if b<a then b else a)]:=rfl
theorem ak4(k k':IntKind)(a b:Int):PO.eval .max [.int k a,.int k' b]=some [.int k (if b>a then b else a)]:=rfl
theorem aj9(t:Bool)(a b:D):PO.eval .pick [.bool t,a,b]=some [if t then a else b]:=rfl
theorem amq(a:D):PO.eval (.mk 1 1) [a]=some [.sl [[a]]]:=rfl
theorem aoi(a b c:D):PO.eval (.mk 3 1) [a,b,c]=some [.sl [[a,b,c]]]:=rfl
theorem ah8(a b c a' b' c':D):PO.eval (.mk 3 2) [a,b,c,a',b',c']=some [.sl [[a,b,c],[a',b',c']]]:=rfl
theorem qae(d:D):one1 (some d)=some [d]:=rfl
theorem qnf(e:Env)(d:D):SA.val e (.c d)=d:=rfl
theorem qdg(e:Env)(x:Nat):SA.val e (.v x)=e.getD x dfl:=rfl
theorem qcg(a:D)(l:List D)(d:D):(a::l).getD 0 d=a:=rfl
theorem qtg(a:D)(l:List D)(n:Nat)(d:D):(a::l).getD (n+1) d=l.getD n d:=rfl
end Am

namespace Am
open Go
noncomputable def opQ(R:Nat→PF)(k:IR)(e:Env)(J:List PF):Option (List D)→Option (List D)
 | some outs=>den R k (e++outs) J
 | none=>none
noncomputable def af0(R:Nat→PF)(a b:IR)(e:Env)(J:List PF):D→Option (List D)
 | .bool true=>den R a e J
 | .bool false=>den R b e J
 | _=>none
noncomputable def fj(R:Nat→PF)(n:Nat)(sc:Bool)(sl:List Nat)(k:IR)(e:Env)(J:List PF):Option (List D)→Option (List D)
 | some outs=>if outs.length=n∧(sc=true→outs.all D.scal=true)∧sl.all (fun j=>(outs.getD j dfl).isSl)=true then den R k (e++outs) J else none
 | none=>none
noncomputable def aej(R:Nat→PF)(rest:IR)(e:Env)(J:List PF):PF:=fun vs=>den R rest (e++vs) J
noncomputable def eo(R:Nat→PF)(body:IR)(e:Env)(J:List PF):PF:=r5 (fun L vs=>den R body (e++vs) (J++[L]))
def aey(a:List D):Option PF→Option (List D)
 | some f=>f a
 | none=>none
variable {R:Nat→PF}{e:Env}{J:List PF}
theorem amz(p:PO)(args:List SA)(k:IR):den R (.op p args k) e J=opQ R k e J (p.eval (args.map (·.val e))):=by
 simp only[den];rfl
theorem ak8(c:SA)(a b:IR):den R (.ite c a b) e J=af0 R a b e J (c.val e):=by
 simp only[den];rfl
theorem ajm(i n:Nat)(sc:Bool)(sl:List Nat)(args:List SA)(k:IR):den R (.call i n sc sl args k) e J=fj R n sc sl k e J (R i (args.map (·.val e))):=by
 simp only[den];rfl
theorem amp(n:Nat)(body rest:IR):den R (.letj n body rest) e J=den R body e (J++[aej R rest e J]):=by
 simp only[den];rfl
theorem an7(n:Nat)(init:List SA)(body:IR):den R (.loop n init body) e J=eo R body e J (init.map (·.val e)):=by
 simp only[den];rfl
theorem aip(j:Nat)(args:List SA):den R (.jump j args) e J=aey (args.map (·.val e)) J[j]?:=by
 simp only[den];rfl
theorem aou(args:List SA):den R (.ret args) e J=some (args.map (·.val e)):=by
 simp only[den]
theorem aj1(k:IR)(o:List D):opQ R k e J (some o)=den R k (e++o) J:=rfl
theorem ah2(a b:IR):af0 R a b e J (.bool true)=den R a e J:=rfl
theorem amu(a b:IR):af0 R a b e J (.bool false)=den R b e J:=rfl
theorem amb(f:PF)(a:List D):aey a (some f)=f a:=rfl
theorem aic(rest:IR)(a:List D):aej R rest e J a=den R rest (e++a) J:=rfl
theorem akb(k:IR):fj R 0 false [] k e J (some [])=den R k (e++[]) J:=rfl
theorem ank(k:IR)(a:D):fj R 1 false [] k e J (some [a])=den R k (e++[a]) J:=rfl
theorem aiq(k:IR)(a b:D):fj R 2 false [] k e J (some [a,b])=den R k (e++[a,b]) J:=rfl
theorem am3(k:IR)(a b c:D):fj R 3 false [] k e J (some [a,b,c])=den R k (e++[a,b,c]) J:=rfl
theorem ais(k:IR)(a b c d:D):fj R 4 false [] k e J (some [a,b,c,d])=den R k (e++[a,b,c,d]) J:=rfl
theorem aoq(k:IR)(a b c d f:D):fj R 5 false [] k e J (some [a,b,c,d,f])=den R k (e++[a,b,c,d,f]) J:=rfl
theorem ame(k:IR)(a b c d f g:D):fj R 6 false [] k e J (some [a,b,c,d,f,g])=den R k (e++[a,b,c,d,f,g]) J:=rfl
theorem anx(k:IR)(a b c d f g h:D):fj R 7 false [] k e J (some [a,b,c,d,f,g,h])=den R k (e++[a,b,c,d,f,g,h]) J:=rfl
theorem ao4(k:IR)(a b c d f g h i:D):fj R 8 false [] k e J (some [a,b,c,d,f,g,h,i])=den R k (e++[a,b,c,d,f,g,h,i]) J:=rfl
theorem aiz(k:IR)(a b c d f g h i j:D):fj R 9 false [] k e J (some [a,b,c,d,f,g,h,i,j])=den R k (e++[a,b,c,d,f,g,h,i,j]) J:=rfl
theorem qu{run:Nat→PF}{body:IR}{e:Env}{J:List PF}{σ:Type}(n:Nat)(Pre:Nat→σ→Prop)(a r:Nat→σ→List D)
 (step:∀ (i:Nat) (s:σ) (L:PF),i<n→Pre i s→(∀ s',Pre (i+1) s'→L (a (i+1) s')=some (r (i+1) s'))→den run body (e++a i s) (J++[L])=some (r i s))
 (fin:∀ (s:σ) (L:PF),Pre n s→den run body (e++a n s) (J++[L])=some (r n s)) :
 ∀ i s,i≤n→Pre i s→eo run body e J (a i s)=some (r i s):=by
 intro i s hi hp;refine qih (ι:=Nat × σ) (fun x=>n-x.1) (fun x=>x.1≤n∧Pre x.1 x.2) (fun x=>a x.1 x.2) (fun x=>r x.1 x.2) ?_ (i,s) ⟨hi,hp⟩
 rintro ⟨i,s⟩ L ⟨h1,h2⟩ hL
 by_cases h:i<n
 · exact step i s L h h2 fun s' hs=>hL (i+1,s') ⟨h,hs⟩ (by show n-(i+1)<n-i;omega)
 · obtain rfl:i=n:=by simp only at h1;omega
   exact fin s L h2
theorem axu{run:Nat→PF}{body:IR}{e:Env}{J:List PF}{σ:Type}(n:Nat)(Pre:Nat→σ→Prop)(a:Nat→σ→List D)(Post:List D→Prop)
 (step:∀ (i:Nat) (s:σ) (L:PF),i<n→Pre i s→(∀ s',Pre (i+1) s'→∃ r,L (a (i+1) s')=some r∧Post r)→∃ r,den run body (e++a i s) (J++[L])=some r∧Post r)
 (fin:∀ (s:σ) (L:PF),Pre n s→∃ r,den run body (e++a n s) (J++[L])=some r∧Post r) :
 ∀ i s,i≤n→Pre i s→∃ r,eo run body e J (a i s)=some r∧Post r:=by
 intro i s hi hp;refine ayk (ι:=Nat × σ) (fun x=>n-x.1) (fun x=>x.1≤n∧Pre x.1 x.2) (fun x=>a x.1 x.2) Post ?_ (i,s) ⟨hi,hp⟩
 rintro ⟨i,s⟩ L ⟨h1,h2⟩ hL
 by_cases h:i<n
 · exact step i s L h h2 fun s' hs=>hL (i+1,s') ⟨h,hs⟩ (by show n-(i+1)<n-i;omega)
 · obtain rfl:i=n:=by simp only at h1;omega
   exact fin s L h2
theorem quj{run:Nat→PF}{body:IR}{e:Env}{J:List PF}{ι:Type}(μ:ι→Nat)(Pre:ι→Prop)(a r:ι→List D)
 (step:∀ (x:ι) (L:PF),Pre x→(∀ y,Pre y→μ y<μ x→L (a y)=some (r y))→den run body (e++a x) (J++[L])=some (r x)) :
 ∀ x,Pre x→eo run body e J (a x)=some (r x):=fun x hp=>qih μ Pre a r step x hp
end Am

namespace Am
open Go
theorem wr{n:Int}(h0:-9223372036854775808≤n)(h1:n<9223372036854775808):IntKind.i64.wrap n=n:=by
 simp[IntKind.wrap,IntKind.bits,IntKind.signed];omega
inductive F where
 | mk (op:Int) (name:List UInt8) (args:List F)
namespace F
def op:F→Int|mk o _ _=>o
def name:F→List UInt8|mk _ n _=>n
def args:F→List F|mk _ _ a=>a
mutual
def enc:F→List D|mk o n a=>[.int .i64 o,.str n,.sl (encs a)]
def encs:List F→List (List D)|[]=>[]|f::l=>f.enc::encs l
end
theorem encs_map(l:List F):encs l=l.map enc:=by
 induction l with
 | nil=>rfl
 | cons f l ih=>simp[encs,ih]
theorem enc_eq(f:F):f.enc=[.int .i64 f.op,.str f.name,.sl (encs f.args)]:=by cases f;rfl
theorem encs_get(l:List F)(i:Nat)(h:i<l.length):(encs l)[i]? = some (l[i]).enc:=by rw[encs_map];simp[h]
theorem encs_len(l:List F):(encs l).length=l.length:=by rw[encs_map];simp
mutual
def size:F→Nat|mk _ _ a=>1+sizes a
def sizes:List F→Nat|[]=>0|f::l=>f.size+sizes l
end
theorem size_eq(f:F):f.size=1+sizes f.args:=by cases f;rfl
theorem size_pos(f:F):0<f.size:=by rw[size_eq];omega
theorem sizes_take(l:List F)(i:Nat)(h:i<l.length):sizes (l.take (i+1))=sizes (l.take i)+(l[i]).size:=by
 induction l generalizing i with
 | nil=>simp at h
 | cons f l ih=>cases i with
  | zero=>simp[sizes]
  | succ i=>simp only[take_succ_cons,sizes,getElem_cons_succ];rw[ih i (by simpa using h)];omega
theorem sizes_len(l:List F):l.length≤sizes l:=by
 induction l with
 | nil=>simp[sizes]
 | cons f l ih=>have:=size_pos f;simp[sizes];omega
theorem sizes_take_le(l:List F)(i:Nat):sizes (l.take i)≤sizes l:=by
 induction l generalizing i with
 | nil=>simp
 | cons f l ih=>cases i with
  | zero=>simp[sizes]
  | succ i=>simp only[take_succ_cons,sizes];have:=ih i;omega
theorem size_arg(f:F)(i:Nat)(h:i<f.args.length):(f.args[i]).size<f.size:=by
 have h1:=sizes_take f.args i h;have h2:=sizes_take_le f.args (i+1);rw[size_eq f];omega
end F
namespace F
mutual
def depth:F→Nat|mk _ _ a=>depths a
def depths:List F→Nat|[]=>0|f::l=>max (1+f.depth) (depths l)
end
theorem depth_eq(f:F):f.depth=depths f.args:=by cases f;rfl
theorem depths_take(l:List F)(i:Nat)(h:i<l.length):depths (l.take (i+1))=max (depths (l.take i)) (1+(l[i]).depth):=by
 induction l generalizing i with
 | nil=>simp at h
 | cons f l ih=>cases i with
  | zero=>simp[depths]
  | succ i=>simp only[take_succ_cons,depths,getElem_cons_succ];rw[ih i (by simpa using h)];omega
mutual
theorem depth_size:∀ f:F,f.depth<f.size
 | mk _ _ a=>by have:=qhi a;simp only[depth,size];omega
theorem qhi:∀ l:List F,depths l≤sizes l
 | []=>by simp[depths,sizes]
 | f::l=>by have:=depth_size f;have:=qhi l;simp only[depths,sizes];omega
end
theorem depths_take_size(l:List F)(i:Nat):depths (l.take i)≤sizes l:=Nat.le_trans (qhi _) (sizes_take_le _ _)
end F
def ew(f:F):Int:=if f.op == 8 then 1 else if f.op == 7 then 2 else if f.op == 6 then 3 else if f.op == 5 then 4 else 5
def pa(f:F)(i:Int):Int:=if f.op == 4 || f.op == 5 then 5 else if f.op == 6 then 4 else if f.op == 7 then 3-i else 2
def be(f:F):Bool:=if f.op == 1 || f.op == 2 || f.op == 3 then (f.args.length:Int) == 0 else if f.op == 4 then (f.args.length:Int) == 1 else
 if f.op == 5 || f.op == 6 then decide ((f.args.length:Int)≥2)&&decide ((f.args.length:Int)≤6) else if f.op == 7 || f.op == 8 then (f.args.length:Int) == 2 else false
def ce(i:Nat)(c:UInt8):Bool:=(decide ((c.toNat:Int)≥97)&&decide ((c.toNat:Int)≤122)) || (decide ((i:Int)>0)&&((decide ((c.toNat:Int)≥48)&&decide ((c.toNat:Int)≤57)) || ((c.toNat:Int) == 95)))
def d7:Nat→List UInt8→Bool
 | _,[]=>true
 | i,c::l=>ce i c&&d7 (i+1) l
def al(s:List UInt8):Bool:=!((s.length:Int) == 0 || decide ((s.length:Int)>12))&&d7 0 s
theorem qw(s:List UInt8)(j:Nat)(h:j<s.length):d7 j (s.drop j)=(ce j s[j]&&d7 (j+1) (s.drop (j+1))):=by
 rw[List.drop_eq_getElem_cons h];rfl
def named(f:F):Bool:=if f.op == 3 then al f.name else f.name == []
namespace F
mutual
def allF(p:F→Bool):F→Bool|mk o n a=>p (mk o n a)&&allFs p a
def allFs(p:F→Bool):List F→Bool|[]=>true|f::l=>allF p f&&allFs p l
end
theorem allF_eq(p:F→Bool)(f:F):allF p f=(p f&&allFs p f.args):=by cases f;simp only[allF,args]
theorem allFs_take(p:F→Bool)(l:List F)(i:Nat)(h:i<l.length):allFs p (l.take (i+1))=(allFs p (l.take i)&&allF p l[i]):=by
 induction l generalizing i with
 | nil=>simp at h
 | cons f l ih=>cases i with
  | zero=>simp[allFs]
  | succ i=>simp only[take_succ_cons,allFs,getElem_cons_succ];rw[ih i (by simpa using h),Bool.and_assoc]
theorem allFs_bad(p:F→Bool)(l:List F)(i:Nat)(h:i<l.length)(hb:allF p l[i]=false):allFs p l=false:=by
 induction l generalizing i with
 | nil=>simp at h
 | cons f l ih=>cases i with
  | zero=>simp only[List.getElem_cons_zero] at hb;simp[allFs,hb]
  | succ i=>simp only[getElem_cons_succ] at hb;simp[allFs,ih i (by simpa using h) hb]
end F
theorem qgz{Q:F→Prop}(h:∀ n:Nat,(∀ g:F,g.size<n→Q g)→∀ f:F,f.size≤n→n<4611686018427387904→Q f)(f:F)(hs:f.size<4611686018427387904):Q f:=by
 have key:∀ n:Nat,n<4611686018427387904→∀ g:F,g.size≤n→Q g:=by
  intro n
  induction n with
  | zero=>intro _ g hg;have:=F.size_pos g;omega
  | succ n ih=>
   intro hn g hg;exact h (n+1) (fun g' xz=>ih (by omega) g' (by omega)) g hg hn
 exact key f.size hs f (Nat.le_refl _)
def ca(f:F):Int:=if decide ((f.size:Int)>600) || decide ((f.depth:Int)>20) then 2 else if !F.allF be f then 4 else if !F.allF named f then 3 else 0
def iw(o:Int):List UInt8:=if o == 5 then [32,38,32] else if o == 6 then [32,124,32] else if o == 7 then [32,45,62,32] else [32,60,45,62,32]
def cm(o:Int)(n:List UInt8):List UInt8:=if o == 1 then [49] else if o == 2 then [48] else if o == 3 then n else if o == 4 then [126] else []
def ib(o i:Int):Int:=if o == 4 || o == 5 then 5 else if o == 6 then 4 else if o == 7 then 3-i else 2
theorem qvt(f:F)(i:Int):pa f i=ib f.op i:=rfl
namespace F
mutual
def text:F→List UInt8|mk o n a=>cm o n++texts o 0 a
def texts(o:Int):Nat→List F→List UInt8
 | _,[]=>[]
 | i,g::l=>(if decide ((i:Int)>0) then iw o else [])++(if decide (ew g<ib o i) then [40]++text g++[41] else text g)++texts o (i+1) l
end
def piece(o:Int)(i:Nat)(g:F):List UInt8:=(if decide ((i:Int)>0) then iw o else [])++(if decide (ew g<ib o i) then [40]++text g++[41] else text g)
theorem text_eq(f:F):text f=cm f.op f.name++texts f.op 0 f.args:=by cases f;simp only[text,op,name,args]
theorem texts_cons(o:Int)(i:Nat)(g:F)(l:List F):texts o i (g::l)=piece o i g++texts o (i+1) l:=by simp only[texts,piece]
theorem texts_take(o:Int)(l:List F)(i j:Nat)(h:j<l.length):texts o i (l.take (j+1))=texts o i (l.take j)++piece o (i+j) l[j]:=by
 induction l generalizing i j with
 | nil=>simp at h
 | cons f l ih=>cases j with
  | zero=>simp[texts_cons,texts]
  | succ j=>
   simp only[take_succ_cons,texts_cons,getElem_cons_succ];rw[ih (i+1) j (by simpa using h),List.append_assoc]
   congr 3;omega
end F
def txt(f:F)(j:Nat):List UInt8:=cm f.op f.name++F.texts f.op 0 (f.args.take j)
theorem aea(f:F):txt f 0=cm f.op f.name:=by simp[txt,F.texts]
theorem ae5(f:F)(j:Nat)(h:j<f.args.length):txt f (j+1)=txt f j++F.piece f.op j f.args[j]:=by
 simp only[txt,F.texts_take _ _ _ _ h,List.append_assoc,Nat.zero_add]
theorem ain(f:F):txt f f.args.length=F.text f:=by rw[F.text_eq,txt,take_length]
theorem aq5(f:F)(j d:Nat)(h:j+d≤f.args.length):(txt f j).length≤(txt f (j+d)).length:=by
 induction d with
 | zero=>exact Nat.le_refl _
 | succ d ih=>
  have:=ih (by omega)
  rw[← Nat.add_assoc,ae5 f (j+d) (by omega),List.length_append];omega
theorem qis(f:F)(j:Nat)(h:j≤f.args.length):(txt f j).length≤(F.text f).length:=by
 have:=aq5 f j (f.args.length-j) (by omega)
 rwa [show j+(f.args.length-j)=f.args.length from by omega,ain] at this
def good(f:F):Bool:=F.allF be f&&F.allF named f
theorem qjh{f:F}(h:good f=true):named f=true∧be f=true:=by
 simp only[good,and_eq_true,F.allF_eq] at h;exact ⟨h.2.1,h.1.1⟩
theorem qrp{f:F}(h:good f=true)(j:Nat)(hj:j<f.args.length):good f.args[j]=true:=by
 simp only[good,and_eq_true] at h ⊢;refine ⟨?_,?_⟩
 · cases hh:F.allF be f.args[j] with
   | true=>rfl
   | false=>have:=h.1;rw[F.allF_eq,F.allFs_bad _ _ j hj hh] at this;simp at this
 · cases hh:F.allF named f.args[j] with
   | true=>rfl
   | false=>have:=h.2;rw[F.allF_eq,F.allFs_bad _ _ j hj hh] at this;simp at this
theorem ajk{f:F}(h:good f=true)(ho:(f.op == 3)=true):f.name≠[]:=by
 have:=(qjh h).1;simp only[named,ho,if_true] at this;intro hn;rw[hn] at this;simp[al] at this
theorem aye{f:F}(h:good f=true)(j:Nat)(hj:j<f.args.length)(h0:0<j):f.op=5∨f.op=6∨f.op=7∨f.op=8:=by
 have:=(qjh h).2;simp only[be] at this
 (repeat' split at this)<;>simp at this<;>first|omega|(rename_i hq;simp at hq;omega)|(simp_all<;>omega)
theorem asb(o:Int):iw o≠[]:=by unfold iw;(repeat' split)<;>simp
def ie(x:Int):List D:=[.int .i64 x]
def ab(l:List Int):D:=.sl (l.map ie)
def ij(s:List UInt8):List D:=[.str s]
def af(l:List (List UInt8)):D:=.sl (l.map ij)
theorem am2:D.sl []=ab []:=rfl
theorem qma:D.sl []=af []:=rfl
theorem bz(n:Nat):(n:Int)+1=((n+1:Nat):Int):=rfl
theorem akl(n:Nat):((n+1:Nat):Int)-1=n:=by omega
theorem abc(a b:Int):(a == b)=decide (a=b):=by by_cases h:a=b<;>simp[h]
theorem rt:((0:Nat):Int)=0:=rfl
theorem am8(a b:Nat):((a:Int)<(b:Int))=(a<b):=by simp
theorem ams(a b:Nat):((a:Int)≤(b:Int))=(a≤b):=by simp
theorem aid(a b:Nat):((a:Int)>(b:Int))=(b<a):=by simp
theorem aoy(a b:Nat):((a:Int)≥(b:Int))=(b≤a):=by simp
theorem amv(a b:Nat):((a:Int)=(b:Int))=(a=b):=propext ⟨fun h=>by omega,fun h=>by omega⟩
theorem wu{n:Int}(h0:0≤n)(h1:n<18446744073709551616):IntKind.u64.wrap n=n:=by
 simp[IntKind.wrap,IntKind.bits,IntKind.signed];omega
theorem w8{n:Int}(h0:0≤n)(h1:n<256):IntKind.u8.wrap n=n:=by
 simp[IntKind.wrap,IntKind.bits,IntKind.signed];omega
theorem qfl{l:List F}{i:Nat}(h:i<l.length):PO.eval (.row 3) [.sl (F.encs l),.int .i64 i]=some [.int .i64 l[i].op,.str l[i].name,.sl (F.encs l[i].args)]:=
 qpg (by omega) (by simpa [F.enc_eq] using F.encs_get l i h) rfl
theorem aez{l:List F}(h:0<l.length):PO.eval (.row 3) [.sl (F.encs l),.int .i64 0]=some [.int .i64 l[0].op,.str l[0].name,.sl (F.encs l[0].args)]:=qfl h
theorem ag5{l:List F}(h:1<l.length):PO.eval (.row 3) [.sl (F.encs l),.int .i64 1]=some [.int .i64 l[1].op,.str l[1].name,.sl (F.encs l[1].args)]:=qfl h
theorem qjd{l:List Int}{i:Nat}(h:i<l.length):PO.eval (.row 1) [ab l,.int .i64 i]=some [.int .i64 l[i]]:=
 qpg (by omega) (by simp[h,ie]) rfl
theorem qob(l:List Int):PO.eval .lenL [ab l]=some [.int .i64 l.length]:=by simp[ab,qkd]
theorem qmj{l:List (List UInt8)}{i:Nat}(h:i<l.length):PO.eval (.row 1) [af l,.int .i64 i]=some [.str l[i]]:=
 qpg (by omega) (by simp[h,ij]) rfl
theorem qac(l:List (List UInt8)):PO.eval .lenL [af l]=some [.int .i64 l.length]:=by simp[af,qkd]
theorem abl{l:List UInt8}{i:Nat}(h:i<l.length):PO.eval .idxS [.str l,.int .i64 i]=some [.int .u8 l[i].toNat]:=al5 (by omega) (by simp[h])
theorem ava(a:List F)(g:F):F.encs (a++[g])=F.encs a++[g.enc]:=by simp[F.encs_map]
theorem amf{l:List F}{g:F}(h:l.length<1000000000000):PO.eval (.app 3 48) [.sl (F.encs l),.sl [[.int .i64 g.op,.str g.name,.sl (F.encs g.args)]]]=some [.sl (F.encs (l++[g]))]:=by
 rw[ava,F.enc_eq];exact qxg (by rw[F.encs_len];simp;omega) (by rw[F.encs_len];simp;omega) rfl
theorem ahe{l:List (List UInt8)}{s:List UInt8}(h:l.length<1000000000000):PO.eval (.app 1 16) [af l,.sl [[.str s]]]=some [af (l++[s])]:=by
 have:=qxg (sz:=1) (bt:=16) (xs:=l.map ij) (ys:=[[.str s]]) (by simp;omega) (by simp;omega) rfl
 simpa [af,ij] using this
theorem ajr{l:List Int}{s:Int}(h:l.length<1000000000000):PO.eval (.app 1 8) [ab l,.sl [[.int .i64 s]]]=some [ab (l++[s])]:=by
 have:=qxg (sz:=1) (bt:=8) (xs:=l.map ie) (ys:=[[.int .i64 s]]) (by simp;omega) (by simp;omega) rfl
 simpa [ab,ie] using this
theorem a1x{c:Int}(h0:0≤c)(h1:c<256):PO.eval .toS [.sl [[.int .u8 c]]]=some [.str [c.toNat.toUInt8]]:=by
 simp[PO.eval,l7,h0,h1]
theorem qbg{α:Type}{l:List α}{i:Nat}(h:i<l.length):l.drop i=l[i]::l.drop (i+1):=List.drop_eq_getElem_cons h
theorem a0d{α:Type}(l:List α):l.drop l.length=[]:=List.drop_length
theorem qof{p:F→Bool}:∀ {l:List F},F.allFs p l=l.all (F.allF p)
 | []=>rfl
 | x::l=>by simp only[F.allFs,all_cons,qof (l:=l)]
theorem qar{f g:F}(h:g∈f.args):g.size<f.size:=by
 obtain ⟨i,hi,rfl⟩:=List.getElem_of_mem h;exact F.size_arg f i hi
def p9(s:List UInt8):Nat→List (List UInt8)→Int
 | _,[]=>-1
 | i,x::l=>if s=x then i else p9 s (i+1) l
theorem qez(s:List UInt8):∀ (l:List (List UInt8)) (i:Nat),decide (p9 s i l≥0)=l.contains s
 | [],i=>rfl
 | x::l,i=>by
  simp only[p9,List.contains_cons]
  by_cases h:s=x
  · simp[h]
  · simp[h,qez s l (i+1)]
def mu(ys:List (List UInt8))(o:Int)(s:List UInt8)(vs:List Bool):Bool:=
 if o=1 then true else if o=3 then ys.contains s else if o=4 then !(vs.getD 0 false) else if o=6 then vs.any id else if o=5 then vs.all id else
 if o=7∨o=8 then (if vs.getD 0 false=vs.getD 1 false then true else if o=7 then vs.getD 1 false else false) else false
namespace F
mutual
def val(ys:List (List UInt8)):F→Bool|mk o s a=>mu ys o s (vals ys a)
def vals(ys:List (List UInt8)):List F→List Bool|[]=>[]|f::l=>val ys f::vals ys l
end
theorem a3f(ys:List (List UInt8))(l:List F):vals ys l=l.map (val ys):=by
 induction l with
 | nil=>rfl
 | cons f l ih=>simp[vals,ih]
theorem val_eq(ys:List (List UInt8))(f:F):val ys f=mu ys f.op f.name (f.args.map (val ys)):=by cases f;simp only[val,op,name,args,a3f]
end F
def afq(n:Nat)(s:List UInt8):Bool:=match s with
 | [c]=>decide (97≤c.toNat)&&decide (c.toNat<97+n)
 | _=>false
def ack(n:Nat)(f:F):Bool:=f.op != 3 || afq n f.name
def Made(n d:Nat)(f:F):Prop:=good f=true∧f.depth≤d∧f.size≤4^(d+1)∧F.allF (ack n) f=true
open Go
abbrev aj(f:F):List D:=[.int .i64 f.op,.str f.name,.sl (F.encs f.args)]
theorem F.op_mk(o:Int)(s:List UInt8)(a:List F):(F.mk o s a).op=o:=rfl
theorem F.name_mk(o:Int)(s:List UInt8)(a:List F):(F.mk o s a).name=s:=rfl
theorem F.args_mk(o:Int)(s:List UInt8)(a:List F):(F.mk o s a).args=a:=rfl
theorem ak2:(true == true)=true:=rfl
theorem aib:(true == false)=false:=rfl
theorem akw:(false == true)=false:=rfl
theorem aks:(false == false)=true:=rfl
theorem aor:(true != true)=false:=rfl
theorem ak3:(true != false)=true:=rfl
theorem amy:(false != true)=true:=rfl
theorem amj:(false != false)=false:=rfl
theorem qvz:(false=true)=False:=by simp
theorem qpz:(true=false)=False:=by simp
namespace F
mutual
def subst(p:List UInt8)(g:F):F→F|mk o s a=>if o=3∧a.length=0∧s=p then g else mk o s (aco p g a)
def aco(p:List UInt8)(g:F):List F→List F|[]=>[]|f::l=>subst p g f::aco p g l
end
end F
theorem qxh{Q:F→Prop}(h:∀ f:F,(∀ g∈f.args,Q g)→Q f)(f:F):Q f:=by
 have key:∀ n:Nat,∀ g:F,g.size≤n→Q g:=by
  intro n
  induction n with
  | zero=>intro g hg;have:=F.size_pos g;omega
  | succ n ih=>
   intro g hg;exact h g fun g' xz=>ih g' (by have:=qar xz;omega)
 exact key f.size f (Nat.le_refl _)
theorem qsp(f:F):good f=true↔be f=true∧named f=true∧∀ g∈f.args,good g=true:=by
 simp only[good,and_eq_true];rw[F.allF_eq,F.allF_eq,qof,qof];simp only[and_eq_true,List.all_eq_true]
 constructor
 · rintro ⟨⟨h1,h2⟩,h3,h4⟩;exact ⟨h1,h3,fun g hg=>⟨h2 g hg,h4 g hg⟩⟩
 · rintro ⟨h1,h2,h3⟩;exact ⟨⟨h1,fun g hg=>(h3 g hg).1⟩,h2,fun g hg=>(h3 g hg).2⟩
theorem qdw{f:F}(h:good f=true)(ho:f.op=3):f.args=[]:=by
 have:=((qsp f).1 h).1;simp[be,ho] at this;exact this
theorem qpi{α:Type}{l:List α}{i:Nat}(h:i<l.length):l.take i++[l[i]]=l.take (i+1):=by simp
theorem a6v{α:Type}(l:List α):l.take l.length=l:=take_length
open Go
theorem ajj(b:Bool):aUn .not (.bool b)=some (.bool (!b)):=rfl
theorem ahq(k:IntKind)(n:Int):aUn .neg (.int k n)=some (.int k (k.wrap (0-n))):=rfl
theorem qe:type_of% @amz∧type_of% @ajm∧type_of% @ak8∧type_of% @amp∧type_of% @aip∧type_of% @aou∧type_of% @an7∧type_of% @aj1∧type_of% @ah2∧type_of% @amu∧type_of% @amb∧type_of% @aic∧type_of% @qnf∧type_of% @qdg∧type_of% @qcg∧type_of% @qtg∧type_of% @qzc∧type_of% @qpr∧type_of% @qae∧type_of% @akb∧type_of% @ank∧type_of% @aiq∧type_of% @am3∧type_of% @ais∧type_of% @aoq∧type_of% @ame∧type_of% @anx∧type_of% @ao4∧type_of% @aiz∧type_of% @abo∧type_of% @qjn∧type_of% @qkd∧type_of% @F.encs_len∧type_of% @Int.natCast_eq_zero∧type_of% @am8∧type_of% @ams∧type_of% @aid∧type_of% @aoy∧type_of% @amv∧type_of% @aht∧type_of% @ai7∧type_of% @ak4∧type_of% @aj9∧type_of% @amq∧type_of% @aoi∧type_of% @aml∧type_of% @qra∧type_of% @decide_true∧type_of% @decide_false∧type_of% @Int.cast_ofNat_Int∧type_of% @rt∧type_of% @akl∧type_of% @abc∧type_of% @Bool.not_true∧type_of% @Bool.not_false∧type_of% @Bool.true_and∧type_of% @Bool.false_and∧type_of% @Bool.and_true∧type_of% @Bool.and_false∧type_of% @Bool.true_or∧type_of% @Bool.false_or∧type_of% @Bool.or_true∧type_of% @Bool.or_false∧type_of% @ak2∧type_of% @aib∧type_of% @akw∧type_of% @aks∧type_of% @aor∧type_of% @ak3∧type_of% @amy∧type_of% @amj∧type_of% @qvz∧type_of% @qpz:=⟨@amz,@ajm,@ak8,@amp,@aip,@aou,@an7,@aj1,@ah2,@amu,@amb,@aic,@qnf,@qdg,@qcg,@qtg,@qzc,@qpr,@qae,@akb,@ank,@aiq,@am3,@ais,@aoq,@ame,@anx,@ao4,@aiz,@abo,@qjn,@qkd,@F.encs_len,@Int.natCast_eq_zero,@am8,@ams,@aid,@aoy,@amv,@aht,@ai7,@ak4,@aj9,@amq,@aoi,@aml,@qra,@decide_true,@decide_false,@Int.cast_ofNat_Int,@rt,@akl,@abc,@Bool.not_true,@Bool.not_false,@Bool.true_and,@Bool.false_and,@Bool.and_true,@Bool.and_false,@Bool.true_or,@Bool.false_or,@Bool.or_true,@Bool.or_false,@ak2,@aib,@akw,@aks,@aor,@ak3,@amy,@amj,@qvz,@qpz⟩
theorem qf:(∀ (f:SA→D) (a:SA) (l:List SA),map f (a::l)=f a::map f l)∧(∀ f:SA→D,map f []=[])∧(∀ (a:D) (l m:List D),(a::l)++m=a::(l++m))∧(∀ l:List D,[]++l=l)∧(∀ l:List D,l++[]=l)∧
 (∀ (a:PF) (l m:List PF),(a::l)++m=a::(l++m))∧(∀ l:List PF,[]++l=l)∧(∀ l:List PF,l++[]=l)∧(∀ (a:PF) (l:List PF),(a::l)[0]? = some a)∧(∀ (a:PF) (l:List PF) (n:Nat),(a::l)[n+1]? = l[n]?)∧type_of% @ajj∧type_of% @ahq:=
 ⟨fun _ _ _=>rfl,fun _=>rfl,fun _ _ _=>rfl,fun _=>rfl,fun l=>append_nil l,fun _ _ _=>rfl,fun _=>rfl,fun l=>append_nil l,fun _ _=>rfl,fun _ _ _=>rfl,@ajj,@ahq⟩
namespace F
def zp(f:List D→Option F):List (List D)→Option (List F)
 | []=>some []
 | r::l=>match f r with
  | some x=>(match zp f l with|some xs=>some (x::xs)|none=>none)
  | none=>none
def decN:Nat→List D→Option F
 | 0,_=>none
 | n+1,[.int .i64 o,.str s,.sl rows]=>match zp (decN n) rows with|some xs=>some (.mk o s xs)|none=>none
 | _+1,_=>none
theorem akn{f:List D→Option F}(h:∀ d x,f d=some x→x.enc=d):∀ {l:List (List D)} {xs:List F},zp f l=some xs→encs xs=l
 | [],xs,hx=>by simp only[zp,Option.some.injEq] at hx;subst hx;rfl
 | r::l,xs,hx=>by
  simp only[zp] at hx
  split at hx
  · rename_i x hr
    split at hx
    · rename_i ys hl;simp only[Option.some.injEq] at hx;subst hx;simp only[encs,h _ _ hr,akn h hl]
    · simp at hx
  · simp at hx
theorem decN_ok:∀ n d x,decN n d=some x→x.enc=d:=by
 intro n
 induction n with
 | zero=>intro d x h;simp[decN] at h
 | succ n ih=>
  intro d x h;unfold decN at h
  split at h
  · rename_i heq;cases heq
  · rename_i heq;cases heq
    split at h
    · rename_i xs hl;simp only[Option.some.injEq] at h;subst h;simp only[enc,akn ih hl]
    · simp at h
  · simp at h
mutual
theorem decN_enc:∀ (f:F) (n:Nat),f.depth<n→decN n f.enc=some f
 | .mk o s a,0,h=>by omega
 | .mk o s a,n+1,h=>by
  simp only[enc,decN,qkz a n (by simp only[depth] at h;omega)]
theorem qkz:∀ (l:List F) (n:Nat),depths l<n+1→zp (decN n) (encs l)=some l
 | [],n,_=>rfl
 | f::l,n,h=>by
  simp only[depths] at h;simp only[encs,zp,decN_enc f n (by omega),qkz l n (by omega)]
end
end F
namespace F
mutual
def atomL:F→List (List UInt8)|mk o s a=>if o=3∧a.length=0 then [s] else atomLs a
def atomLs:List F→List (List UInt8)|[]=>[]|f::l=>atomL f++atomLs l
end
theorem atomL_eq(f:F):atomL f=if f.op=3∧f.args.length=0 then [f.name] else atomLs f.args:=by
 cases f;simp only[atomL];rfl
mutual
theorem atomL_len:∀ f:F,(atomL f).length≤f.size
 | mk o s a=>by
  have:=atomLs_len a;simp only[atomL,size]
  split<;>simp<;>omega
theorem atomLs_len:∀ l:List F,(atomLs l).length≤sizes l
 | []=>by simp[atomLs]
 | f::l=>by have:=atomL_len f;have:=atomLs_len l;simp only[atomLs,sizes,List.length_append];omega
end
theorem atomLs_take_s(l:List F)(i:Nat)(h:i<l.length):atomLs (l.take (i+1))=atomLs (l.take i)++atomL l[i]:=by
 induction l generalizing i with
 | nil=>simp at h
 | cons f l ih=>cases i with
  | zero=>simp[atomLs]
  | succ i=>simp only[take_succ_cons,atomLs,getElem_cons_succ];rw[ih i (by simpa using h),List.append_assoc]
end F
theorem a3m(a b c:List UInt8)(h:decide (a≤b)=true)(h':decide (b≤c)=true):decide (a≤c)=true:=by
 simp only[decide_eq_true_eq] at *;exact le_trans h h'
theorem a4t(a b:List UInt8):(decide (a≤b) || decide (b≤a))=true:=by
 simp only[Bool.or_eq_true,decide_eq_true_eq];exact List.le_total a b
def sm(l:List (List UInt8)):List (List UInt8):=l.mergeSort fun x y=>decide (x≤y)
theorem qau(l:List (List UInt8)):(sm l).length=l.length:=List.length_mergeSort l
theorem at8(l:List (List UInt8))(x:List UInt8):x∈sm l↔x∈l:=List.mem_mergeSort
theorem qbl(l:List (List UInt8)):(sm l).Pairwise fun x y=>x≤y:=by
 have:=List.pairwise_mergeSort (le:=fun x y:List UInt8=>decide (x≤y)) a3m a4t l
 unfold sm;simpa using this
theorem am0{zs:List (List UInt8)}(hs:zs.Pairwise fun x y=>x≤y):∀ m,m≤zs.length→
 (∀ x,x∈Lib.compactUpTo zs.toArray m↔x∈zs.take m)∧(Lib.compactUpTo zs.toArray m).Pairwise (fun x y=>x<y)∧∀ x∈Lib.compactUpTo zs.toArray m,∀ (h:m-1<zs.length),x≤zs[m-1]:=by
 intro m
 induction m with
 | zero=>intro _;simp[Lib.compactUpTo]
 | succ m ih=>
  intro hm;obtain ⟨h1,h2,h3⟩:=ih (by omega)
  have hg:zs.toArray[m]! = zs[m]:=by simp[show m<zs.length by omega]
  have j7:∀ x∈zs.take m,x≤zs[m]:=by
   intro x hx;obtain ⟨i,hi,rfl⟩:=List.getElem_of_mem hx;simp only[List.length_take] at hi;rw[List.getElem_take];exact List.pairwise_iff_getElem.1 hs i m (by omega) (by omega) (by omega)
  rw[Lib.compactUpTo_succ]
  by_cases hk:Lib.keeps zs.toArray m=true
  · rw[if_pos hk,hg];refine ⟨fun x=>?_,?_,?_⟩
    · rw[mem_append,h1,← qpi (show m<zs.length by omega),mem_append]
    · rw[List.pairwise_append];refine ⟨h2,by simp,fun x hx y hy=>?_⟩
      simp only[List.mem_singleton] at hy;subst hy;have na:=(h1 x).1 hx;rcases Nat.eq_zero_or_pos m with rfl|hm0
      · simp at na
      · have hx3:=h3 x hx (by omega)
        have cf:zs[m-1]≤zs[m]:=List.pairwise_iff_getElem.1 hs (m-1) m (by omega) (by omega) (by omega)
        have dc:zs[m]≠zs[m-1]:=by
         unfold Lib.keeps at hk;simp only[decide_eq_true_eq] at hk;have xz:zs.toArray[m-1]! = zs[m-1]:=by simp[show m-1<zs.length by omega]
         rw[hg,xz] at hk;rcases hk with h|h
         · omega
         · exact h
        have hxm:=le_trans hx3 cf;exact Decidable.byContradiction fun hn=>dc (List.le_antisymm (le_trans (List.not_lt.1 hn) hx3) cf)
    · intro x hx h;simp only[Nat.add_sub_cancel];rcases List.mem_append.1 hx with hx|hx
      · exact j7 x ((h1 x).1 hx)
      · simp only[List.mem_singleton] at hx;subst hx;exact List.le_refl _
  · rw[if_neg hk,append_nil]
    have hm0:0<m∧zs[m]=zs[m-1]:=by
     unfold Lib.keeps at hk;simp only[decide_eq_true_eq,not_or,Decidable.not_not] at hk;have xz:zs.toArray[m-1]! = zs[m-1]:=by simp[show m-1<zs.length by omega]
     rw[hg,xz] at hk;exact ⟨by omega,hk.2⟩
    refine ⟨fun x=>?_,h2,?_⟩
    · rw[h1,← qpi (show m<zs.length by omega),mem_append]
      constructor
      · exact .inl
      · rintro (h|h)
        · exact h
        · simp only[List.mem_singleton] at h;rw[h,hm0.2];exact List.mem_take_iff_getElem.2 ⟨m-1,by omega,rfl⟩
    · intro x hx h;exact j7 x ((h1 x).1 hx)
def canon(l:List (List UInt8)):List (List UInt8):=Lib.compact (sm l)
theorem qfn(l:List (List UInt8))(x:List UInt8):x∈canon l↔x∈l:=by
 unfold canon Lib.compact;rw[(am0 (qbl l) _ (Nat.le_refl _)).1,take_length,at8]
theorem a5r(l:List (List UInt8)):(canon l).Pairwise fun x y=>x<y:=by
 unfold canon Lib.compact;exact (am0 (qbl l) _ (Nat.le_refl _)).2.1
open Go
theorem F.wf_enc:∀ f:F,∀ d∈f.enc,D.WF d:=by
 refine qxh fun f ih=>?_
 intro d hd;rw[F.enc_eq] at hd;simp only[List.mem_cons,List.not_mem_nil,or_false] at hd;rcases hd with rfl|rfl|rfl
 · exact .int _ _
 · exact .str _
 · refine .sl _ fun r hr c hc=>?_
   rw[F.encs_map,List.mem_map] at hr;obtain ⟨g,hg,rfl⟩:=hr;exact ih g hg c hc
theorem F.wf_rows(f:F):D.WF (.sl (F.encs f.args)):=F.wf_enc f _ (by rw[F.enc_eq];simp)
theorem bw(a b:Int):(a != b) = !decide (a=b):=by by_cases h:a=b<;>simp[h]
theorem ago{l:List UInt8}(h:0<l.length):PO.eval .idxS [.str l,.int .i64 0]=some [.int .u8 l[0].toNat]:=abl h
def okc(c:UInt8):Bool:=(decide (97≤(c.toNat:Int))&&decide ((c.toNat:Int)≤122)) || ((decide (48≤(c.toNat:Int))&&decide ((c.toNat:Int)≤57)) || decide ((c.toNat:Int)=95))
theorem qcl:∀ (l:List UInt8) (i:Nat),0<i→d7 i l=l.all okc
 | [],_,_=>rfl
 | c::l,i,h=>by
  have hi:((i:Int)>0):=by omega
  simp only[d7,all_cons,qcl l (i+1) (by omega),ce,okc,ge_iff_le,hi,decide_true,Bool.true_and,abc]
theorem qdo(c:UInt8)(l:List UInt8):al (c::l)=(decide ((c::l).length≤12)&&(decide (97≤(c.toNat:Int))&&(decide ((c.toNat:Int)≤122)&&(c::l).all okc))):=by
 have h0:¬ ((0:Nat):Int)>0:=by omega
 simp only[al,d7,qcl l (0+1) (by omega),ce,all_cons,okc,ge_iff_le,h0,decide_false,Bool.false_and,Bool.or_false,abc,List.length_cons]
 by_cases h:l.length+1≤12
 · have h1:¬ ((l.length+1:Nat):Int)>12:=by omega
   have h2:¬ ((l.length+1:Nat):Int)=0:=by omega
   by_cases a:(97≤(c.toNat:Int))<;>by_cases b:((c.toNat:Int)≤122)<;>simp[h,a,b]
   omega
 · have h1:((l.length+1:Nat):Int)>12:=by omega
   simp[h];omega
namespace F
mutual
def beq:F→F→Bool
 | mk o s a,mk o' s' a'=>decide (o=o')&&(decide (s=s')&&(decide (a.length=a'.length)&&aai a a'))
def aai:List F→List F→Bool
 | [],_=>true
 | _::_,[]=>true
 | x::l,y::l'=>beq x y&&aai l l'
end
theorem beq_eq(f g:F):beq f g=(decide (f.op=g.op)&&(decide (f.name=g.name)&&(decide (f.args.length=g.args.length)&&aai f.args g.args))):=by
 cases f;cases g;simp only[beq];rfl
mutual
theorem beq_refl:∀ f:F,beq f f=true
 | mk o s a=>by simp[beq,qbs a]
theorem qbs:∀ l:List F,aai l l=true
 | []=>rfl
 | x::l=>by simp[aai,beq_refl x,qbs l]
end
end F
theorem qid(a b:List UInt8):Op.bytesLess a b=true↔a<b:=by
 induction a generalizing b with
 | nil=>cases b with
  | nil=>simp[Op.bytesLess]
  | cons y b=>simp[Op.bytesLess]
 | cons x a ih=>cases b with
  | nil=>simp[Op.bytesLess]
  | cons y b=>
   simp only[Op.bytesLess,List.cons_lt_cons_iff]
   by_cases h:x<y
   · simp[h]
   · by_cases h2:x=y
     · subst h2;simp[ih]
     · simp[h,h2]
open Go
theorem aq7{l:List (List UInt8)}{a b:Nat}(h1:a≤b)(h2:b≤l.length):PO.eval (.subL 1) [af l,.int .i64 a,.int .i64 b]=some [af ((l.take b).drop a)]:=by
 have:=ali (sz:=1) (xs:=l.map ij) (k:=.i64) (k':=.i64) (a:=a) (b:=b) (by omega) (by omega) (by simp;omega) (by simp[ij])
 simpa [af,List.map_take,List.map_drop] using this
theorem a07{l:List (List UInt8)}{a:Nat}(h1:a≤l.length):PO.eval (.subL 1) [af l,.int .i64 a,.int .i64 l.length]=some [af (l.drop a)]:=by
 have:=aq7 (l:=l) (a:=a) (b:=l.length) h1 (Nat.le_refl _)
 simpa using this
theorem au7{l l':List (List UInt8)}(h:l.length+l'.length<1000000000000):PO.eval (.app 1 16) [af l,af l']=some [af (l++l')]:=by
 have:=qxg (sz:=1) (bt:=16) (xs:=l.map ij) (ys:=l'.map ij) (by simp;omega) (by simp;omega) (by simp[ij])
 simpa [af,ij] using this
theorem asl{l':List (List UInt8)}(h:l'.length<1000000000000):PO.eval (.app 1 16) [.sl [],af l']=some [af l']:=by
 have:=au7 (l:=[]) (l':=l') (by simpa using h)
 rw[← qma,List.nil_append] at this;exact this
def agv(M:Nat)(g:F):Bool:=decide (g.name.length≤M)
def aaz(g:F):Bool:=decide (g.name.length<1000000000)
theorem qwu{p q:F→Bool}(h:∀ f,p f=true→q f=true):∀ f:F,F.allF p f=true→F.allF q f=true:=by
 refine qxh fun f ih hf=>?_
 rw[F.allF_eq,and_eq_true,qof,List.all_eq_true] at hf ⊢;exact ⟨h f hf.1,fun g hg=>ih g hg (hf.2 g hg)⟩
theorem qwq{s:List UInt8}(h:al s=true):s.length≤12:=by
 simp only[al,and_eq_true,Bool.not_eq_true',Bool.or_eq_false_iff,decide_eq_false_iff_not] at h;omega
theorem axn{f:F}(h:good f=true):F.allF (agv 12) f=true:=by
 simp only[good,and_eq_true] at h;refine qwu (fun g hg=>?_) f h.2
 unfold named at hg;unfold agv
 split at hg
 · have:=qwq hg;simpa using this
 · have:g.name=[]:=by simpa using hg
   simp[this]
end Am
