/- The abstract machine and its reader: lemmas. -/
import Derived.Test.YtoalfckdmoahoaaGreatDoorAmEv
import Derived.Lib.SlicesCompact
set_option linter.unusedSimpArgs false
set_option linter.unusedVariables false
set_option linter.unusedSectionVars false
namespace Am
open Go
def iteD (d:D) (x y:Option (List D)):Option (List D):=match d with | .bool true=>x | .bool false=>y|_=>none
def opD (o:Option (List D)) (k:List D→Option (List D)):Option (List D):=match o with|some outs=>k outs|none=>none
def callD (o:Option (List D)) (n:Nat) (sc:Bool) (sl:List Nat) (k:List D→Option (List D)):Option (List D):=match o with
 | some outs=>if outs.length=n∧(sc=true→outs.all D.scal=true)∧sl.all (fun j=>(outs.getD j dfl).isSl)=true then k outs else none
 | none=>none
def jumpD (f:Option PF) (a:List D):Option (List D):=match f with|some f=>f a|none=>none
theorem qje (t:Bool) (x y:Option (List D)):iteD (.bool t) x y=if t=true then x else y:=by cases t<;>rfl
theorem qhb (o:List D) (k:List D→Option (List D)):opD (some o) k=k o:=rfl
theorem qmc (f:PF) (a:List D):jumpD (some f) a=f a:=rfl
theorem qrj (a:D) (k:List D→Option (List D)):callD (some [a]) 1 false [] k=k [a]:=rfl
variable {R:Nat→PF} {e:Env} {J:List PF}
theorem qod (p:PO) (args:List SA) (k:IR):den R (.op p args k) e J=opD (p.eval (args.map (·.val e))) (fun o=>den R k (e++o) J):=by
 simp only[den];rfl
theorem qjc (c:SA) (a b:IR):den R (.ite c a b) e J=iteD (c.val e) (den R a e J) (den R b e J):=by
 simp only[den];rfl
theorem qug (i n:Nat) (sc:Bool) (sl:List Nat) (args:List SA) (k:IR):den R (.call i n sc sl args k) e J=callD (R i (args.map (·.val e))) n sc sl (fun o=>den R k (e++o) J):=by
 simp only[den];rfl
theorem qog (n:Nat) (body rest:IR):den R (.letj n body rest) e J=den R body e (J++[fun vs=>den R rest (e++vs) J]):=by
 simp only[den]
theorem qqk (n:Nat) (init:List SA) (body:IR):den R (.loop n init body) e J=fixO (fun L vs=>den R body (e++vs) (J++[L])) (init.map (·.val e)):=by
 simp only[den]
theorem qkd (j:Nat) (args:List SA):den R (.jump j args) e J=jumpD J[j]? (args.map (·.val e)):=by
 simp only[den];rfl
theorem qec (args:List SA):den R (.ret args) e J=some (args.map (·.val e)):=by
 simp only[den]
theorem qzg {run:Nat→PF} {body:IR} {e:Env} {J:List PF} {ι:Type} (μ:ι→Nat) (Pre:ι→Prop) (a r:ι→List D)
 (step:∀ (x:ι) (L:PF),Pre x→(∀ y,Pre y→μ y<μ x→L (a y)=some (r y))→den run body (e++a x) (J++[L])=some (r x)) :
 ∀ x,Pre x→fixO (fun L vs=>den run body (e++vs) (J++[L])) (a x)=some (r x):=by
 have key:∀ n x,μ x<n→Pre x→fixO (fun L vs=>den run body (e++vs) (J++[L])) (a x)=some (r x):=by
  intro n
  induction n with
  | zero=>intro x h;omega
  | succ n ih=>intro x hx hp;exact qxac (step x _ hp (fun y hy hlt=>ih y (by omega) hy))
 exact fun x hp=>key _ x (Nat.lt_succ_self _) hp
theorem qlc (op:BinOp) (tb:Bool) (k k':IntKind) (a b:Int):PO.eval (.bin op tb) [.int k a,.int k' b]=one1 (aBin op (.int k a) (.int k' b)):=rfl
theorem qfp (op:BinOp) (tb:Bool) (a b:List UInt8):PO.eval (.bin op tb) [.str a,.str b]=one1 (aBin op (.str a) (.str b)):=rfl
theorem qvfb (op:BinOp) (a b:Bool):PO.eval (.bin op true) [.bool a,.bool b]=one1 (aBin op (.bool a) (.bool b)):=rfl
theorem qva (op:UnOp) (a:D):PO.eval (.un op) [a]=one1 (aUn op a):=rfl
theorem qudb (k k':IntKind) (n:Int):PO.eval (.conv k) [.int k' n]=some [.int k (k.wrap n)]:=rfl
theorem qqx (l:List UInt8):PO.eval .convS [.str l]=some [.str l]:=rfl
theorem qdl (l:List UInt8):PO.eval .lenS [.str l]=some [.int .i64 l.length]:=rfl
theorem qte (xs:List (List D)):PO.eval .lenL [.sl xs]=some [.int .i64 xs.length]:=rfl
theorem qjxb {l:List UInt8} {k:IntKind} {n:Int} {c:UInt8} (h0:0≤n) (h:l[n.toNat]? = some c):PO.eval .idxS [.str l,.int k n]=some [.int .u8 c.toNat]:=by
 simp only[PO.eval,if_pos h0,h]
theorem qhk {sz:Nat} {xs:List (List D)} {k:IntKind} {n:Int} {r:List D} (h0:0≤n) (h:xs[n.toNat]? = some r) (hr:r.length=sz):PO.eval (.row sz) [.sl xs,.int k n]=some r:=by
 simp only[PO.eval,if_pos h0,h,if_pos hr]
theorem qhfb {sz:Nat} {xs:List (List D)} {k k':IntKind} {a b:Int} (h0:0≤a) (h1:a≤b) (h2:b≤xs.length) (h3:xs.all (fun r=>r.length == sz)=true):PO.eval (.subL sz) [.sl xs,.int k a,.int k' b]=some [.sl ((xs.take b.toNat).drop a.toNat)]:=by
 simp only[PO.eval,if_pos (And.intro h0 (And.intro h1 (And.intro h2 h3)))]
theorem qtz {sz bt:Nat} {xs ys:List (List D)} (h1:(xs.length+ys.length)*bt≤140737488355328) (h2:xs.length+ys.length≤9223372036854775807) (h3:ys.all (fun r=>r.length == sz)=true):PO.eval (.app sz bt) [.sl xs,.sl ys]=some [.sl (xs++ys)]:=by
 simp only[PO.eval,if_pos (And.intro h1 (And.intro h2 h3))]
theorem qorb (xs ys:List (List D)):PO.eval .cat [.sl xs,.sl ys]=some [.sl (xs++ys)]:=rfl
theorem qdkb {xs:List (List D)} {k:IntKind} {n:Int} (h0:0≤n) (h1:n<xs.length):PO.eval .chk [.sl xs,.int k n]=some []:=by
 simp only[PO.eval,if_pos (And.intro h0 h1)]
theorem qhrb (k k':IntKind) (a b:Int):PO.eval .min [.int k a,.int k' b]=some [.int k (if b<a then b else a)]:=rfl
theorem qlrb (k k':IntKind) (a b:Int):PO.eval .max [.int k a,.int k' b]=some [.int k (if b>a then b else a)]:=rfl
theorem qlgb (t:Bool) (a b:D):PO.eval .pick [.bool t,a,b]=some [if t then a else b]:=rfl
theorem qzqb (a:D):PO.eval (.mk 1 1) [a]=some [.sl [[a]]]:=rfl
theorem qbsb (a b c:D):PO.eval (.mk 3 1) [a,b,c]=some [.sl [[a,b,c]]]:=rfl
theorem qptb (a b c a' b' c':D):PO.eval (.mk 3 2) [a,b,c,a',b',c']=some [.sl [[a,b,c],[a',b',c']]]:=rfl
theorem qmd (d:D):one1 (some d)=some [d]:=rfl
theorem qve (e:Env) (d:D):SA.val e (.c d)=d:=rfl
theorem qqf (e:Env) (x:Nat):SA.val e (.v x)=e.getD x dfl:=rfl
theorem qof (a:D) (l:List D) (d:D):(a::l).getD 0 d=a:=rfl
theorem qkg (a:D) (l:List D) (n:Nat) (d:D):(a::l).getD (n+1) d=l.getD n d:=rfl
end Am

namespace Am
open Go
noncomputable def opQ (R:Nat→PF) (k:IR) (e:Env) (J:List PF):Option (List D)→Option (List D)
 | some outs=>den R k (e++outs) J
 | none=>none
noncomputable def iteQ (R:Nat→PF) (a b:IR) (e:Env) (J:List PF):D→Option (List D)
 | .bool true=>den R a e J
 | .bool false=>den R b e J
 | _=>none
noncomputable def callQ (R:Nat→PF) (n:Nat) (sc:Bool) (sl:List Nat) (k:IR) (e:Env) (J:List PF):Option (List D)→Option (List D)
 | some outs=>if outs.length=n∧(sc=true→outs.all D.scal=true)∧sl.all (fun j=>(outs.getD j dfl).isSl)=true then den R k (e++outs) J else none
 | none=>none
noncomputable def contQ (R:Nat→PF) (rest:IR) (e:Env) (J:List PF):PF:=fun vs=>den R rest (e++vs) J
noncomputable def loopQ (R:Nat→PF) (body:IR) (e:Env) (J:List PF):PF:=fixO (fun L vs=>den R body (e++vs) (J++[L]))
def jumpQ (a:List D):Option PF→Option (List D)
 | some f=>f a
 | none=>none
variable {R:Nat→PF} {e:Env} {J:List PF}
theorem k_op (p:PO) (args:List SA) (k:IR):den R (.op p args k) e J=opQ R k e J (p.eval (args.map (·.val e))):=by
 simp only[den];rfl
theorem qzac (c:SA) (a b:IR):den R (.ite c a b) e J=iteQ R a b e J (c.val e):=by
 simp only[den];rfl
theorem qcsb (i n:Nat) (sc:Bool) (sl:List Nat) (args:List SA) (k:IR):den R (.call i n sc sl args k) e J=callQ R n sc sl k e J (R i (args.map (·.val e))):=by
 simp only[den];rfl
theorem qwrb (n:Nat) (body rest:IR):den R (.letj n body rest) e J=den R body e (J++[contQ R rest e J]):=by
 simp only[den];rfl
theorem qrqb (n:Nat) (init:List SA) (body:IR):den R (.loop n init body) e J=loopQ R body e J (init.map (·.val e)):=by
 simp only[den];rfl
theorem qxrb (j:Nat) (args:List SA):den R (.jump j args) e J=jumpQ (args.map (·.val e)) J[j]?:=by
 simp only[den];rfl
theorem quac (args:List SA):den R (.ret args) e J=some (args.map (·.val e)):=by
 simp only[den]
theorem qsbb (c:SA) (f:FuncId) (a b:IR):den R (.isf c f a b) e J=if isFn f (c.val e) then den R a e J else den R b e J:=by
 simp only[den]
theorem qeyb (k:IR) (o:List D):opQ R k e J (some o)=den R k (e++o) J:=rfl
theorem qpqb (a b:IR):iteQ R a b e J (.bool true)=den R a e J:=rfl
theorem qurb (a b:IR):iteQ R a b e J (.bool false)=den R b e J:=rfl
theorem qyfb (f:PF) (a:List D):jumpQ a (some f)=f a:=rfl
theorem qffb (rest:IR) (a:List D):contQ R rest e J a=den R rest (e++a) J:=rfl
theorem qikb (k:IR):callQ R 0 false [] k e J (some [])=den R k (e++[]) J:=rfl
theorem qljb (k:IR) (a:D):callQ R 1 false [] k e J (some [a])=den R k (e++[a]) J:=rfl
theorem qoib (k:IR) (a b:D):callQ R 2 false [] k e J (some [a,b])=den R k (e++[a,b]) J:=rfl
theorem qehb (k:IR) (a b c:D):callQ R 3 false [] k e J (some [a,b,c])=den R k (e++[a,b,c]) J:=rfl
theorem qwkb (k:IR) (a b c d:D):callQ R 4 false [] k e J (some [a,b,c,d])=den R k (e++[a,b,c,d]) J:=rfl
theorem qqkb (k:IR) (a b c d f:D):callQ R 5 false [] k e J (some [a,b,c,d,f])=den R k (e++[a,b,c,d,f]) J:=rfl
theorem quib (k:IR) (a b c d f g:D):callQ R 6 false [] k e J (some [a,b,c,d,f,g])=den R k (e++[a,b,c,d,f,g]) J:=rfl
theorem qhkb (k:IR) (a b c d f g h:D):callQ R 7 false [] k e J (some [a,b,c,d,f,g,h])=den R k (e++[a,b,c,d,f,g,h]) J:=rfl
theorem qskb (k:IR) (a b c d f g h i:D):callQ R 8 false [] k e J (some [a,b,c,d,f,g,h,i])=den R k (e++[a,b,c,d,f,g,h,i]) J:=rfl
theorem qldb (k:IR) (a b c d f g h i j:D):callQ R 9 false [] k e J (some [a,b,c,d,f,g,h,i,j])=den R k (e++[a,b,c,d,f,g,h,i,j]) J:=rfl
theorem qcb {run:Nat→PF} {body:IR} {e:Env} {J:List PF} {σ:Type} (n:Nat) (Pre:Nat→σ→Prop) (a r:Nat→σ→List D)
 (step:∀ (i:Nat) (s:σ) (L:PF),i<n→Pre i s→(∀ s',Pre (i+1) s'→L (a (i+1) s')=some (r (i+1) s'))→den run body (e++a i s) (J++[L])=some (r i s))
 (fin:∀ (s:σ) (L:PF),Pre n s→den run body (e++a n s) (J++[L])=some (r n s)) :
 ∀ i s,i≤n→Pre i s→loopQ run body e J (a i s)=some (r i s):=by
 intro i s hi hp;refine qzg (ι:=Nat × σ) (fun x=>n-x.1) (fun x=>x.1≤n∧Pre x.1 x.2) (fun x=>a x.1 x.2) (fun x=>r x.1 x.2) ?_ (i,s) ⟨hi,hp⟩
 rintro ⟨i,s⟩ L ⟨h1,h2⟩ hL
 by_cases h:i<n
 · exact step i s L h h2 fun s' hs=>hL (i+1,s') ⟨h,hs⟩ (by show n-(i+1)<n-i;omega)
 · obtain rfl:i=n:=by simp only at h1;omega
   exact fin s L h2
theorem qwfb {run:Nat→PF} {body:IR} {e:Env} {J:List PF} {ι:Type} (μ:ι→Nat) (Pre:ι→Prop) (a r:ι→List D)
 (step:∀ (x:ι) (L:PF),Pre x→(∀ y,Pre y→μ y<μ x→L (a y)=some (r y))→den run body (e++a x) (J++[L])=some (r x)) :
 ∀ x,Pre x→loopQ run body e J (a x)=some (r x):=fun x hp=>qzg μ Pre a r step x hp
end Am

namespace Am
open Go
theorem wr {n:Int} (h0:-9223372036854775808≤n) (h1:n<9223372036854775808):IntKind.i64.wrap n=n:=by
 simp[IntKind.wrap,IntKind.bits,IntKind.signed];omega
inductive F where
 | mk (op:Int) (name:List UInt8) (args:List F)
namespace F
def op:F→Int|mk o _ _=>o
def name:F→List UInt8|mk _ n _=>n
def args:F→List F|mk _ _ a=>a
mutual
def enc:F→List D|mk o n a=>[.int .i64 o,.str n,.sl (encs a)]
def encs:List F→List (List D)|[]=>[]|f::l=>f.enc::encs l
end
theorem encs_map (l:List F):encs l=l.map enc:=by
 induction l with
 | nil=>rfl
 | cons f l ih=>simp[encs,ih]
theorem enc_eq (f:F):f.enc=[.int .i64 f.op,.str f.name,.sl (encs f.args)]:=by cases f;rfl
theorem encs_get (l:List F) (i:Nat) (h:i<l.length):(encs l)[i]? = some (l[i]).enc:=by rw[encs_map];simp[h]
theorem encs_len (l:List F):(encs l).length=l.length:=by rw[encs_map];simp
mutual
def size:F→Nat|mk _ _ a=>1+sizes a
def sizes:List F→Nat|[]=>0|f::l=>f.size+sizes l
end
theorem size_eq (f:F):f.size=1+sizes f.args:=by cases f;rfl
theorem size_pos (f:F):0<f.size:=by rw[size_eq];omega
theorem sizes_take (l:List F) (i:Nat) (h:i<l.length):sizes (l.take (i+1))=sizes (l.take i)+(l[i]).size:=by
 induction l generalizing i with
 | nil=>simp at h
 | cons f l ih=>cases i with
  | zero=>simp[sizes]
  | succ i=>simp only[List.take_succ_cons,sizes,List.getElem_cons_succ];rw[ih i (by simpa using h)];omega
theorem sizes_len (l:List F):l.length≤sizes l:=by
 induction l with
 | nil=>simp[sizes]
 | cons f l ih=>have:=size_pos f;simp[sizes];omega
theorem sizes_take_le (l:List F) (i:Nat):sizes (l.take i)≤sizes l:=by
 induction l generalizing i with
 | nil=>simp
 | cons f l ih=>cases i with
  | zero=>simp[sizes]
  | succ i=>simp only[List.take_succ_cons,sizes];have:=ih i;omega
theorem size_arg (f:F) (i:Nat) (h:i<f.args.length):(f.args[i]).size<f.size:=by
 have h1:=sizes_take f.args i h;have h2:=sizes_take_le f.args (i+1);rw[size_eq f];omega
end F
namespace F
mutual
def depth:F→Nat|mk _ _ a=>depths a
def depths:List F→Nat|[]=>0|f::l=>max (1+f.depth) (depths l)
end
theorem depth_eq (f:F):f.depth=depths f.args:=by cases f;rfl
theorem depths_take (l:List F) (i:Nat) (h:i<l.length):depths (l.take (i+1))=max (depths (l.take i)) (1+(l[i]).depth):=by
 induction l generalizing i with
 | nil=>simp at h
 | cons f l ih=>cases i with
  | zero=>simp[depths]
  | succ i=>simp only[List.take_succ_cons,depths,List.getElem_cons_succ];rw[ih i (by simpa using h)];omega
mutual
theorem depth_size:∀ f:F,f.depth<f.size
 | mk _ _ a=>by have:=qtl a;simp only[depth,size];omega
theorem qtl:∀ l:List F,depths l≤sizes l
 | []=>by simp[depths,sizes]
 | f::l=>by have:=depth_size f;have:=qtl l;simp only[depths,sizes];omega
end
end F
def strength (f:F):Int:=if f.op == 8 then 1 else if f.op == 7 then 2 else if f.op == 6 then 3 else if f.op == 5 then 4 else 5
def counted (f:F):Bool:=if f.op == 1 || f.op == 2 || f.op == 3 then (f.args.length:Int) == 0 else if f.op == 4 then (f.args.length:Int) == 1 else
 if f.op == 5 || f.op == 6 then decide ((f.args.length:Int)≥2)&&decide ((f.args.length:Int)≤6) else if f.op == 7 || f.op == 8 then (f.args.length:Int) == 2 else false
def nameOk (i:Nat) (c:UInt8):Bool:=(decide ((c.toNat:Int)≥97)&&decide ((c.toNat:Int)≤122)) || (decide ((i:Int)>0)&&((decide ((c.toNat:Int)≥48)&&decide ((c.toNat:Int)≤57)) || ((c.toNat:Int) == 95)))
def nameFrom:Nat→List UInt8→Bool
 | _,[]=>true
 | i,c::l=>nameOk i c&&nameFrom (i+1) l
def validName (s:List UInt8):Bool:=!((s.length:Int) == 0 || decide ((s.length:Int)>12))&&nameFrom 0 s
theorem qsp (s:List UInt8) (j:Nat) (h:j<s.length):nameFrom j (s.drop j)=(nameOk j s[j]&&nameFrom (j+1) (s.drop (j+1))):=by
 rw[List.drop_eq_getElem_cons h];rfl
def named (f:F):Bool:=if f.op == 3 then validName f.name else f.name == []
namespace F
mutual
def allF (p:F→Bool):F→Bool|mk o n a=>p (mk o n a)&&allFs p a
def allFs (p:F→Bool):List F→Bool|[]=>true|f::l=>allF p f&&allFs p l
end
theorem allF_eq (p:F→Bool) (f:F):allF p f=(p f&&allFs p f.args):=by cases f;simp only[allF,args]
theorem allFs_bad (p:F→Bool) (l:List F) (i:Nat) (h:i<l.length) (hb:allF p l[i]=false):allFs p l=false:=by
 induction l generalizing i with
 | nil=>simp at h
 | cons f l ih=>cases i with
  | zero=>simp only[List.getElem_cons_zero] at hb;simp[allFs,hb]
  | succ i=>simp only[List.getElem_cons_succ] at hb;simp[allFs,ih i (by simpa using h) hb]
end F
def validate (f:F):Int:=if decide ((f.size:Int)>600) || decide ((f.depth:Int)>20) then 2 else if !F.allF counted f then 4 else if !F.allF named f then 3 else 0
def wordO (o:Int):List UInt8:=if o == 5 then [32,38,32] else if o == 6 then [32,124,32] else if o == 7 then [32,45,62,32] else [32,60,45,62,32]
def headO (o:Int) (n:List UInt8):List UInt8:=if o == 1 then [49] else if o == 2 then [48] else if o == 3 then n else if o == 4 then [126] else []
def neededO (o i:Int):Int:=if o == 4 || o == 5 then 5 else if o == 6 then 4 else if o == 7 then 3-i else 2
namespace F
mutual
def text:F→List UInt8|mk o n a=>headO o n++texts o 0 a
def texts (o:Int):Nat→List F→List UInt8
 | _,[]=>[]
 | i,g::l=>(if decide ((i:Int)>0) then wordO o else [])++(if decide (strength g<neededO o i) then [40]++text g++[41] else text g)++texts o (i+1) l
end
end F
def txt (f:F) (j:Nat):List UInt8:=headO f.op f.name++F.texts f.op 0 (f.args.take j)
def good (f:F):Bool:=F.allF counted f&&F.allF named f
theorem qpa {f:F} (h:good f=true):named f=true∧counted f=true:=by
 simp only[good,Bool.and_eq_true,F.allF_eq] at h;exact ⟨h.2.1,h.1.1⟩
theorem qtob {f:F} (h:good f=true) (j:Nat) (hj:j<f.args.length):good f.args[j]=true:=by
 simp only[good,Bool.and_eq_true] at h ⊢;refine ⟨?_,?_⟩
 · cases hh:F.allF counted f.args[j] with
   | true=>rfl
   | false=>have:=h.1;rw[F.allF_eq,F.allFs_bad _ _ j hj hh] at this;simp at this
 · cases hh:F.allF named f.args[j] with
   | true=>rfl
   | false=>have:=h.2;rw[F.allF_eq,F.allFs_bad _ _ j hj hh] at this;simp at this
def numR (x:Int):List D:=[.int .i64 x]
def numsD (l:List Int):D:=.sl (l.map numR)
def strR (s:List UInt8):List D:=[.str s]
def strsD (l:List (List UInt8)):D:=.sl (l.map strR)
theorem qnob:D.sl []=numsD []:=rfl
theorem qcqb:D.sl []=strsD []:=rfl
theorem natS (n:Nat):(n:Int)+1=((n+1:Nat):Int):=rfl
theorem natP (n:Nat):((n+1:Nat):Int)-1=n:=by omega
theorem ibeq (a b:Int):(a == b)=decide (a=b):=by by_cases h:a=b<;>simp[h]
theorem nat0:((0:Nat):Int)=0:=rfl
theorem qwqb (a b:Nat):((a:Int)<(b:Int))=(a<b):=by simp
theorem qmqb (a b:Nat):((a:Int)≤(b:Int))=(a≤b):=by simp
theorem qbrb (a b:Nat):((a:Int)>(b:Int))=(b<a):=by simp
theorem qesb (a b:Nat):((a:Int)≥(b:Int))=(b≤a):=by simp
theorem qisb (a b:Nat):((a:Int)=(b:Int))=(a=b):=propext ⟨fun h=>by omega,fun h=>by omega⟩
theorem wu {n:Int} (h0:0≤n) (h1:n<18446744073709551616):IntKind.u64.wrap n=n:=by
 simp[IntKind.wrap,IntKind.bits,IntKind.signed];omega
theorem w8 {n:Int} (h0:0≤n) (h1:n<256):IntKind.u8.wrap n=n:=by
 simp[IntKind.wrap,IntKind.bits,IntKind.signed];omega
theorem qdu {l:List F} {i:Nat} (h:i<l.length):PO.eval (.row 3) [.sl (F.encs l),.int .i64 i]=some [.int .i64 l[i].op,.str l[i].name,.sl (F.encs l[i].args)]:=
 qhk (by omega) (by simpa [F.enc_eq] using F.encs_get l i h) rfl
theorem qnkb {l:List F} (h:0<l.length):PO.eval (.row 3) [.sl (F.encs l),.int .i64 0]=some [.int .i64 l[0].op,.str l[0].name,.sl (F.encs l[0].args)]:=qdu h
theorem qnrb {l:List F} (h:1<l.length):PO.eval (.row 3) [.sl (F.encs l),.int .i64 1]=some [.int .i64 l[1].op,.str l[1].name,.sl (F.encs l[1].args)]:=qdu h
theorem qpf {l:List Int} {i:Nat} (h:i<l.length):PO.eval (.row 1) [numsD l,.int .i64 i]=some [.int .i64 l[i]]:=
 qhk (by omega) (by simp[h,numR]) rfl
theorem qge (l:List Int):PO.eval .lenL [numsD l]=some [.int .i64 l.length]:=by simp[numsD,qte]
theorem qxt {l:List (List UInt8)} {i:Nat} (h:i<l.length):PO.eval (.row 1) [strsD l,.int .i64 i]=some [.str l[i]]:=
 qhk (by omega) (by simp[h,strR]) rfl
theorem qne (l:List (List UInt8)):PO.eval .lenL [strsD l]=some [.int .i64 l.length]:=by simp[strsD,qte]
theorem qwyb {l:List (List UInt8)} {s:List UInt8} (h:l.length<1000000000000):PO.eval (.app 1 16) [strsD l,.sl [[.str s]]]=some [strsD (l++[s])]:=by
 have:=qtz (sz:=1) (bt:=16) (xs:=l.map strR) (ys:=[[.str s]]) (by simp;omega) (by simp;omega) rfl
 simpa [strsD,strR] using this
theorem qrcc {l:List Int} {s:Int} (h:l.length<1000000000000):PO.eval (.app 1 8) [numsD l,.sl [[.int .i64 s]]]=some [numsD (l++[s])]:=by
 have:=qtz (sz:=1) (bt:=8) (xs:=l.map numR) (ys:=[[.int .i64 s]]) (by simp;omega) (by simp;omega) rfl
 simpa [numsD,numR] using this
theorem qyub {c:Int} (h0:0≤c) (h1:c<256):PO.eval .toS [.sl [[.int .u8 c]]]=some [.str [c.toNat.toUInt8]]:=by
 simp[PO.eval,bytesD,h0,h1]
theorem qrm {α:Type} {l:List α} {i:Nat} (h:i<l.length):l.drop i=l[i]::l.drop (i+1):=List.drop_eq_getElem_cons h
theorem qhzb {α:Type} (l:List α):l.drop l.length=[]:=List.drop_length
theorem quf {p:F→Bool}:∀ {l:List F},F.allFs p l=l.all (F.allF p)
 | []=>rfl
 | x::l=>by simp only[F.allFs,List.all_cons,quf (l:=l)]
theorem qhq {f g:F} (h:g∈f.args):g.size<f.size:=by
 obtain ⟨i,hi,rfl⟩:=List.getElem_of_mem h;exact F.size_arg f i hi
def idxOf (s:List UInt8):Nat→List (List UInt8)→Int
 | _,[]=>-1
 | i,x::l=>if s=x then i else idxOf s (i+1) l
theorem qba (s:List UInt8):∀ (l:List (List UInt8)) (i:Nat),decide (idxOf s i l≥0)=l.contains s
 | [],i=>rfl
 | x::l,i=>by
  simp only[idxOf,List.contains_cons]
  by_cases h:s=x
  · simp[h]
  · simp[h,qba s l (i+1)]
def valO (ys:List (List UInt8)) (o:Int) (s:List UInt8) (vs:List Bool):Bool:=
 if o=1 then true else if o=3 then ys.contains s else if o=4 then !(vs.getD 0 false) else if o=6 then vs.any id else if o=5 then vs.all id else
 if o=7∨o=8 then (if vs.getD 0 false=vs.getD 1 false then true else if o=7 then vs.getD 1 false else false) else false
namespace F
mutual
def val (ys:List (List UInt8)):F→Bool|mk o s a=>valO ys o s (vals ys a)
def vals (ys:List (List UInt8)):List F→List Bool|[]=>[]|f::l=>val ys f::vals ys l
end
theorem qlmb (ys:List (List UInt8)) (l:List F):vals ys l=l.map (val ys):=by
 induction l with
 | nil=>rfl
 | cons f l ih=>simp[vals,ih]
theorem val_eq (ys:List (List UInt8)) (f:F):val ys f=valO ys f.op f.name (f.args.map (val ys)):=by cases f;simp only[val,op,name,args,qlmb]
end F
end Am
namespace Am
open Go
abbrev rowF (f:F):List D:=[.int .i64 f.op,.str f.name,.sl (F.encs f.args)]
end Am
namespace Am
open Go
theorem F.op_mk (o:Int) (s:List UInt8) (a:List F):(F.mk o s a).op=o:=rfl
theorem F.name_mk (o:Int) (s:List UInt8) (a:List F):(F.mk o s a).name=s:=rfl
theorem F.args_mk (o:Int) (s:List UInt8) (a:List F):(F.mk o s a).args=a:=rfl
end Am
namespace Am
theorem quqb:(true == true)=true:=rfl
theorem qgsb:(true == false)=false:=rfl
theorem qjsb:(false == true)=false:=rfl
theorem qirb:(false == false)=true:=rfl
theorem qoqb:(true != true)=false:=rfl
theorem qjrb:(true != false)=true:=rfl
theorem qrrb:(false != true)=true:=rfl
theorem qyqb:(false != false)=false:=rfl
theorem qry:(false=true)=False:=by simp
theorem qcz:(true=false)=False:=by simp
end Am
namespace Am
namespace F
mutual
def subst (p:List UInt8) (g:F):F→F|mk o s a=>if o=3∧a.length=0∧s=p then g else mk o s (substs p g a)
def substs (p:List UInt8) (g:F):List F→List F|[]=>[]|f::l=>subst p g f::substs p g l
end
end F
theorem qej {Q:F→Prop} (h:∀ f:F,(∀ g∈f.args,Q g)→Q f) (f:F):Q f:=by
 have key:∀ n:Nat,∀ g:F,g.size≤n→Q g:=by
  intro n
  induction n with
  | zero=>intro g hg;have:=F.size_pos g;omega
  | succ n ih=>
   intro g hg;exact h g fun g' hg'=>ih g' (by have:=qhq hg';omega)
 exact key f.size f (Nat.le_refl _)
theorem qaz (f:F):good f=true↔counted f=true∧named f=true∧∀ g∈f.args,good g=true:=by
 simp only[good,Bool.and_eq_true];rw[F.allF_eq,F.allF_eq,quf,quf];simp only[Bool.and_eq_true,List.all_eq_true]
 constructor
 · rintro ⟨⟨h1,h2⟩,h3,h4⟩;exact ⟨h1,h3,fun g hg=>⟨h2 g hg,h4 g hg⟩⟩
 · rintro ⟨h1,h2,h3⟩;exact ⟨⟨h1,fun g hg=>(h3 g hg).1⟩,h2,fun g hg=>(h3 g hg).2⟩
theorem qmv {f:F} (h:good f=true) (ho:f.op=3):f.args=[]:=by
 have:=((qaz f).1 h).1;simp[counted,ho] at this;exact this
theorem qvh {α:Type} {l:List α} {i:Nat} (h:i<l.length):l.take i++[l[i]]=l.take (i+1):=by simp
theorem qlnb {α:Type} (l:List α):l.take l.length=l:=List.take_length
end Am
namespace Am
open Go
theorem qxhb (b:Bool):aUn .not (.bool b)=some (.bool (!b)):=rfl
theorem qjgb (k:IntKind) (n:Int):aUn .neg (.int k n)=some (.int k (k.wrap (0-n))):=rfl
theorem qc:type_of% @k_op∧type_of% @qcsb∧type_of% @qzac∧type_of% @qwrb∧type_of% @qxrb∧type_of% @quac∧type_of% @qrqb∧type_of% @qeyb∧type_of% @qpqb∧type_of% @qurb∧type_of% @qyfb∧type_of% @qffb∧type_of% @qve∧type_of% @qqf∧type_of% @qof∧type_of% @qkg∧type_of% @qlc∧type_of% @qfp∧type_of% @qmd∧type_of% @qikb∧type_of% @qljb∧type_of% @qoib∧type_of% @qehb∧type_of% @qwkb∧type_of% @qqkb∧type_of% @quib∧type_of% @qhkb∧type_of% @qskb∧type_of% @qldb∧type_of% @qva∧type_of% @qdl∧type_of% @qte∧type_of% @F.encs_len∧type_of% @Int.natCast_eq_zero∧type_of% @qwqb∧type_of% @qmqb∧type_of% @qbrb∧type_of% @qesb∧type_of% @qisb∧type_of% @qorb∧type_of% @qhrb∧type_of% @qlrb∧type_of% @qlgb∧type_of% @qzqb∧type_of% @qbsb∧type_of% @qudb∧type_of% @qqx∧type_of% @decide_true∧type_of% @decide_false∧type_of% @Int.cast_ofNat_Int∧type_of% @nat0∧type_of% @natP∧type_of% @ibeq∧type_of% @Bool.not_true∧type_of% @Bool.not_false∧type_of% @Bool.true_and∧type_of% @Bool.false_and∧type_of% @Bool.and_true∧type_of% @Bool.and_false∧type_of% @Bool.true_or∧type_of% @Bool.false_or∧type_of% @Bool.or_true∧type_of% @Bool.or_false∧type_of% @quqb∧type_of% @qgsb∧type_of% @qjsb∧type_of% @qirb∧type_of% @qoqb∧type_of% @qjrb∧type_of% @qrrb∧type_of% @qyqb∧type_of% @qry∧type_of% @qcz:=⟨@k_op,@qcsb,@qzac,@qwrb,@qxrb,@quac,@qrqb,@qeyb,@qpqb,@qurb,@qyfb,@qffb,@qve,@qqf,@qof,@qkg,@qlc,@qfp,@qmd,@qikb,@qljb,@qoib,@qehb,@qwkb,@qqkb,@quib,@qhkb,@qskb,@qldb,@qva,@qdl,@qte,@F.encs_len,@Int.natCast_eq_zero,@qwqb,@qmqb,@qbrb,@qesb,@qisb,@qorb,@qhrb,@qlrb,@qlgb,@qzqb,@qbsb,@qudb,@qqx,@decide_true,@decide_false,@Int.cast_ofNat_Int,@nat0,@natP,@ibeq,@Bool.not_true,@Bool.not_false,@Bool.true_and,@Bool.false_and,@Bool.and_true,@Bool.and_false,@Bool.true_or,@Bool.false_or,@Bool.or_true,@Bool.or_false,@quqb,@qgsb,@qjsb,@qirb,@qoqb,@qjrb,@qrrb,@qyqb,@qry,@qcz⟩
theorem qb:(∀ (f:SA→D) (a:SA) (l:List SA),List.map f (a::l)=f a::List.map f l)∧(∀ f:SA→D,List.map f []=[])∧(∀ (a:D) (l m:List D),(a::l)++m=a::(l++m))∧(∀ l:List D,[]++l=l)∧(∀ l:List D,l++[]=l)∧
 (∀ (a:PF) (l m:List PF),(a::l)++m=a::(l++m))∧(∀ l:List PF,[]++l=l)∧(∀ l:List PF,l++[]=l)∧(∀ (a:PF) (l:List PF),(a::l)[0]? = some a)∧(∀ (a:PF) (l:List PF) (n:Nat),(a::l)[n+1]? = l[n]?)∧type_of% @qxhb∧type_of% @qjgb:=
 ⟨fun _ _ _=>rfl,fun _=>rfl,fun _ _ _=>rfl,fun _=>rfl,fun l=>List.append_nil l,fun _ _ _=>rfl,fun _=>rfl,fun l=>List.append_nil l,fun _ _=>rfl,fun _ _ _=>rfl,@qxhb,@qjgb⟩
end Am

namespace Am
open Go
namespace F
def decL (f:List D→Option F):List (List D)→Option (List F)
 | []=>some []
 | r::l=>match f r with
  | some x=>(match decL f l with|some xs=>some (x::xs)|none=>none)
  | none=>none
def decN:Nat→List D→Option F
 | 0,_=>none
 | n+1,[.int .i64 o,.str s,.sl rows]=>match decL (decN n) rows with|some xs=>some (.mk o s xs)|none=>none
 | _+1,_=>none
theorem qqm {f:List D→Option F} (h:∀ d x,f d=some x→x.enc=d):∀ {l:List (List D)} {xs:List F},decL f l=some xs→encs xs=l
 | [],xs,hx=>by simp only[decL,Option.some.injEq] at hx;subst hx;rfl
 | r::l,xs,hx=>by
  simp only[decL] at hx
  split at hx
  · rename_i x hr
    split at hx
    · rename_i ys hl;simp only[Option.some.injEq] at hx;subst hx;simp only[encs,h _ _ hr,qqm h hl]
    · simp at hx
  · simp at hx
theorem decN_ok:∀ n d x,decN n d=some x→x.enc=d:=by
 intro n
 induction n with
 | zero=>intro d x h;simp[decN] at h
 | succ n ih=>
  intro d x h;unfold decN at h
  split at h
  · rename_i heq;cases heq
  · rename_i heq;cases heq
    split at h
    · rename_i xs hl;simp only[Option.some.injEq] at h;subst h;simp only[enc,qqm ih hl]
    · simp at h
  · simp at h
mutual
theorem decN_enc:∀ (f:F) (n:Nat),f.depth<n→decN n f.enc=some f
 | .mk o s a,0,h=>by omega
 | .mk o s a,n+1,h=>by
  simp only[enc,decN,qpx a n (by simp only[depth] at h;omega)]
theorem qpx:∀ (l:List F) (n:Nat),depths l<n+1→decL (decN n) (encs l)=some l
 | [],n,_=>rfl
 | f::l,n,h=>by
  simp only[depths] at h;simp only[encs,decL,decN_enc f n (by omega),qpx l n (by omega)]
end
end F
namespace F
mutual
def atomL:F→List (List UInt8)|mk o s a=>if o=3∧a.length=0 then [s] else atomLs a
def atomLs:List F→List (List UInt8)|[]=>[]|f::l=>atomL f++atomLs l
end
theorem atomL_eq (f:F):atomL f=if f.op=3∧f.args.length=0 then [f.name] else atomLs f.args:=by
 cases f;simp only[atomL];rfl
mutual
theorem atomL_len:∀ f:F,(atomL f).length≤f.size
 | mk o s a=>by
  have:=atomLs_len a;simp only[atomL,size]
  split<;>simp<;>omega
theorem atomLs_len:∀ l:List F,(atomLs l).length≤sizes l
 | []=>by simp[atomLs]
 | f::l=>by have:=atomL_len f;have:=atomLs_len l;simp only[atomLs,sizes,List.length_append];omega
end
theorem atomLs_take_s (l:List F) (i:Nat) (h:i<l.length):atomLs (l.take (i+1))=atomLs (l.take i)++atomL l[i]:=by
 induction l generalizing i with
 | nil=>simp at h
 | cons f l ih=>cases i with
  | zero=>simp[atomLs]
  | succ i=>simp only[List.take_succ_cons,atomLs,List.getElem_cons_succ];rw[ih i (by simpa using h),List.append_assoc]
end F
theorem qynb (a b c:List UInt8) (h:decide (a≤b)=true) (h':decide (b≤c)=true):decide (a≤c)=true:=by
 simp only[decide_eq_true_eq] at *;exact List.le_trans h h'
theorem qqlb (a b:List UInt8):(decide (a≤b) || decide (b≤a))=true:=by
 simp only[Bool.or_eq_true,decide_eq_true_eq];exact List.le_total a b
def sortL (l:List (List UInt8)):List (List UInt8):=l.mergeSort fun x y=>decide (x≤y)
theorem qvs (l:List (List UInt8)):(sortL l).length=l.length:=List.length_mergeSort l
theorem qxdb (l:List (List UInt8)) (x:List UInt8):x∈sortL l↔x∈l:=List.mem_mergeSort
theorem qzj (l:List (List UInt8)):(sortL l).Pairwise fun x y=>x≤y:=by
 have:=List.pairwise_mergeSort (le:=fun x y:List UInt8=>decide (x≤y)) qynb qqlb l
 unfold sortL;simpa using this
theorem qhgb {zs:List (List UInt8)} (hs:zs.Pairwise fun x y=>x≤y):∀ m,m≤zs.length→
 (∀ x,x∈Lib.compactUpTo zs.toArray m↔x∈zs.take m)∧(Lib.compactUpTo zs.toArray m).Pairwise (fun x y=>x<y)∧∀ x∈Lib.compactUpTo zs.toArray m,∀ (h:m-1<zs.length),x≤zs[m-1]:=by
 intro m
 induction m with
 | zero=>intro _;simp[Lib.compactUpTo]
 | succ m ih=>
  intro hm;obtain ⟨h1,h2,h3⟩:=ih (by omega)
  have hg:zs.toArray[m]! = zs[m]:=by simp[show m<zs.length by omega]
  have hle:∀ x∈zs.take m,x≤zs[m]:=by
   intro x hx;obtain ⟨i,hi,rfl⟩:=List.getElem_of_mem hx;simp only[List.length_take] at hi;rw[List.getElem_take];exact List.pairwise_iff_getElem.1 hs i m (by omega) (by omega) (by omega)
  rw[Lib.compactUpTo_succ]
  by_cases hk:Lib.keeps zs.toArray m=true
  · rw[if_pos hk,hg];refine ⟨fun x=>?_,?_,?_⟩
    · rw[List.mem_append,h1,← qvh (show m<zs.length by omega),List.mem_append]
    · rw[List.pairwise_append];refine ⟨h2,by simp,fun x hx y hy=>?_⟩
      simp only[List.mem_singleton] at hy;subst hy;have hx':=(h1 x).1 hx;rcases Nat.eq_zero_or_pos m with rfl|hm0
      · simp at hx'
      · have hx3:=h3 x hx (by omega)
        have hlt:zs[m-1]≤zs[m]:=List.pairwise_iff_getElem.1 hs (m-1) m (by omega) (by omega) (by omega)
        have hne:zs[m]≠zs[m-1]:=by
         unfold Lib.keeps at hk;simp only[decide_eq_true_eq] at hk;have hg':zs.toArray[m-1]! = zs[m-1]:=by simp[show m-1<zs.length by omega]
         rw[hg,hg'] at hk;rcases hk with h|h
         · omega
         · exact h
        have hxm:=List.le_trans hx3 hlt;exact Decidable.byContradiction fun hn=>hne (List.le_antisymm (List.le_trans (List.not_lt.1 hn) hx3) hlt)
    · intro x hx h;simp only[Nat.add_sub_cancel];rcases List.mem_append.1 hx with hx|hx
      · exact hle x ((h1 x).1 hx)
      · simp only[List.mem_singleton] at hx;subst hx;exact List.le_refl _
  · rw[if_neg hk,List.append_nil]
    have hm0:0<m∧zs[m]=zs[m-1]:=by
     unfold Lib.keeps at hk;simp only[decide_eq_true_eq,not_or,Decidable.not_not] at hk;have hg':zs.toArray[m-1]! = zs[m-1]:=by simp[show m-1<zs.length by omega]
     rw[hg,hg'] at hk;exact ⟨by omega,hk.2⟩
    refine ⟨fun x=>?_,h2,?_⟩
    · rw[h1,← qvh (show m<zs.length by omega),List.mem_append]
      constructor
      · exact .inl
      · rintro (h|h)
        · exact h
        · simp only[List.mem_singleton] at h;rw[h,hm0.2];exact List.mem_take_iff_getElem.2 ⟨m-1,by omega,rfl⟩
    · intro x hx h;exact hle x ((h1 x).1 hx)
def canon (l:List (List UInt8)):List (List UInt8):=Lib.compact (sortL l)
theorem qwl (l:List (List UInt8)) (x:List UInt8):x∈canon l↔x∈l:=by
 unfold canon Lib.compact;rw[(qhgb (qzj l) _ (Nat.le_refl _)).1,List.take_length,qxdb]
theorem qojb (l:List (List UInt8)):(canon l).Pairwise fun x y=>x<y:=by
 unfold canon Lib.compact;exact (qhgb (qzj l) _ (Nat.le_refl _)).2.1
end Am
namespace Am
open Go
theorem F.wf_enc:∀ f:F,∀ d∈f.enc,D.WF d:=by
 refine qej fun f ih=>?_
 intro d hd;rw[F.enc_eq] at hd;simp only[List.mem_cons,List.not_mem_nil,or_false] at hd;rcases hd with rfl|rfl|rfl
 · exact .int _ _
 · exact .str _
 · refine .sl _ fun r hr c hc=>?_
   rw[F.encs_map,List.mem_map] at hr;obtain ⟨g,hg,rfl⟩:=hr;exact ih g hg c hc
theorem F.wf_rows (f:F):D.WF (.sl (F.encs f.args)):=F.wf_enc f _ (by rw[F.enc_eq];simp)
end Am
namespace Am
open Go
theorem ibne (a b:Int):(a != b) = !decide (a=b):=by by_cases h:a=b<;>simp[h]
end Am
namespace Am
open Go
namespace F
mutual
def beq:F→F→Bool
 | mk o s a,mk o' s' a'=>decide (o=o')&&(decide (s=s')&&(decide (a.length=a'.length)&&beqs a a'))
def beqs:List F→List F→Bool
 | [],_=>true
 | _::_,[]=>true
 | x::l,y::l'=>beq x y&&beqs l l'
end
theorem beq_eq (f g:F):beq f g=(decide (f.op=g.op)&&(decide (f.name=g.name)&&(decide (f.args.length=g.args.length)&&beqs f.args g.args))):=by
 cases f;cases g;simp only[beq];rfl
mutual
theorem beq_refl:∀ f:F,beq f f=true
 | mk o s a=>by simp[beq,qdt a]
theorem qdt:∀ l:List F,beqs l l=true
 | []=>rfl
 | x::l=>by simp[beqs,beq_refl x,qdt l]
end
end F
theorem qrp (a b:List UInt8):Op.bytesLess a b=true↔a<b:=by
 induction a generalizing b with
 | nil=>cases b with
  | nil=>simp[Op.bytesLess]
  | cons y b=>simp[Op.bytesLess]
 | cons x a ih=>cases b with
  | nil=>simp[Op.bytesLess]
  | cons y b=>
   simp only[Op.bytesLess,List.cons_lt_cons_iff]
   by_cases h:x<y
   · simp[h]
   · by_cases h2:x=y
     · subst h2;simp[ih]
     · simp[h,h2]
end Am
namespace Am
open Go
theorem qqcc {l:List (List UInt8)} {a b:Nat} (h1:a≤b) (h2:b≤l.length):PO.eval (.subL 1) [strsD l,.int .i64 a,.int .i64 b]=some [strsD ((l.take b).drop a)]:=by
 have:=qhfb (sz:=1) (xs:=l.map strR) (k:=.i64) (k':=.i64) (a:=a) (b:=b) (by omega) (by omega) (by simp;omega) (by simp[strR])
 simpa [strsD,List.map_take,List.map_drop] using this
theorem qmac {l:List (List UInt8)} {a:Nat} (h1:a≤l.length):PO.eval (.subL 1) [strsD l,.int .i64 a,.int .i64 l.length]=some [strsD (l.drop a)]:=by
 have:=qqcc (l:=l) (a:=a) (b:=l.length) h1 (Nat.le_refl _)
 simpa using this
end Am
namespace Am
open Go
def nameB (g:F):Bool:=decide (g.name.length<1000000000)
end Am
