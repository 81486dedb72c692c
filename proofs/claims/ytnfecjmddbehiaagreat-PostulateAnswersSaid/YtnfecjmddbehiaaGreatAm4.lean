/- The abstract machine and its reader: lemmas. -/
import Derived.Test.YtnfecjmddbehiaaGreatAmEv
import Derived.Lib.SlicesCompact
set_option linter.unusedSimpArgs false
set_option linter.unusedVariables false
set_option linter.unusedSectionVars false
namespace Am
open Go
def iteD (d:D) (x y:Option (List D)):Option (List D):=match d with | .bool true=>x | .bool false=>y|_=>none
def opD (o:Option (List D)) (k:List D→Option (List D)):Option (List D):=match o with|some outs=>k outs|none=>none
def jumpD (f:Option PF) (a:List D):Option (List D):=match f with|some f=>f a|none=>none
theorem qrp (t:Bool) (x y:Option (List D)):iteD (.bool t) x y=if t=true then x else y:=by cases t<;>rfl
theorem qch (o:List D) (k:List D→Option (List D)):opD (some o) k=k o:=rfl
theorem qjf (f:PF) (a:List D):jumpD (some f) a=f a:=rfl
variable {R:Nat→PF} {e:Env} {J:List PF}
theorem qhp (p:PO) (args:List SA) (k:IR):den R (.op p args k) e J=opD (p.eval (args.map (·.val e))) (fun o=>den R k (e++o) J):=by
 simp only[den];rfl
theorem qsj (c:SA) (a b:IR):den R (.ite c a b) e J=iteD (c.val e) (den R a e J) (den R b e J):=by
 simp only[den];rfl
theorem qbh (n:Nat) (body rest:IR):den R (.letj n body rest) e J=den R body e (J++[fun vs=>den R rest (e++vs) J]):=by
 simp only[den]
theorem qyjb (n:Nat) (init:List SA) (body:IR):den R (.loop n init body) e J=fixO (fun L vs=>den R body (e++vs) (J++[L])) (init.map (·.val e)):=by
 simp only[den]
theorem qjg (j:Nat) (args:List SA):den R (.jump j args) e J=jumpD J[j]? (args.map (·.val e)):=by
 simp only[den];rfl
theorem qel (args:List SA):den R (.ret args) e J=some (args.map (·.val e)):=by
 simp only[den]
theorem qgo {run:Nat→PF} {body:IR} {e:Env} {J:List PF} {ι:Type} (μ:ι→Nat) (Pre:ι→Prop) (a r:ι→List D)
 (step:∀ (x:ι) (L:PF),Pre x→(∀ y,Pre y→μ y<μ x→L (a y)=some (r y))→den run body (e++a x) (J++[L])=some (r x)) :
 ∀ x,Pre x→fixO (fun L vs=>den run body (e++vs) (J++[L])) (a x)=some (r x):=by
 have key:∀ n x,μ x<n→Pre x→fixO (fun L vs=>den run body (e++vs) (J++[L])) (a x)=some (r x):=by
  intro n
  induction n with
  | zero=>intro x h;omega
  | succ n ih=>intro x hx hp;exact qipb (step x _ hp (fun y hy hlt=>ih y (by omega) hy))
 exact fun x hp=>key _ x (Nat.lt_succ_self _) hp
theorem qmqb {run:Nat→PF} {body:IR} {e:Env} {J:List PF} {ι:Type} (μ:ι→Nat) (Pre:ι→Prop) (a:ι→List D) (Post:List D→Prop)
 (step:∀ (x:ι) (L:PF),Pre x→(∀ y,Pre y→μ y<μ x→∃ r,L (a y)=some r∧Post r)→∃ r,den run body (e++a x) (J++[L])=some r∧Post r) :
 ∀ x,Pre x→∃ r,fixO (fun L vs=>den run body (e++vs) (J++[L])) (a x)=some r∧Post r:=by
 have key:∀ n x,μ x<n→Pre x→∃ r,fixO (fun L vs=>den run body (e++vs) (J++[L])) (a x)=some r∧Post r:=by
  intro n
  induction n with
  | zero=>intro x h;omega
  | succ n ih=>
   intro x hx hp;obtain ⟨r,h1,h2⟩:=step x _ hp (fun y hy hlt=>ih y (by omega) hy)
   exact ⟨r,qipb h1,h2⟩
 exact fun x hp=>key _ x (Nat.lt_succ_self _) hp
theorem qyf (op:BinOp) (tb:Bool) (k k':IntKind) (a b:Int):PO.eval (.bin op tb) [.int k a,.int k' b]=one1 (aBin op (.int k a) (.int k' b)):=rfl
theorem qfdb (op:BinOp) (tb:Bool) (a b:List UInt8):PO.eval (.bin op tb) [.str a,.str b]=one1 (aBin op (.str a) (.str b)):=rfl
theorem qncb (op:BinOp) (a b:Bool):PO.eval (.bin op true) [.bool a,.bool b]=one1 (aBin op (.bool a) (.bool b)):=rfl
theorem qwwb (op:UnOp) (a:D):PO.eval (.un op) [a]=one1 (aUn op a):=rfl
theorem qpgb (k k':IntKind) (n:Int):PO.eval (.conv k) [.int k' n]=some [.int k (k.wrap n)]:=rfl
theorem qix (l:List UInt8):PO.eval .convS [.str l]=some [.str l]:=rfl
theorem qij (l:List UInt8):PO.eval .lenS [.str l]=some [.int .i64 l.length]:=rfl
theorem qbd (xs:List (List D)):PO.eval .lenL [.sl xs]=some [.int .i64 xs.length]:=rfl
theorem qfbb {l:List UInt8} {k:IntKind} {n:Int} {c:UInt8} (h0:0≤n) (h:l[n.toNat]? = some c):PO.eval .idxS [.str l,.int k n]=some [.int .u8 c.toNat]:=by
 simp only[PO.eval,if_pos h0,h]
theorem qxl {sz:Nat} {xs:List (List D)} {k:IntKind} {n:Int} {r:List D} (h0:0≤n) (h:xs[n.toNat]? = some r) (hr:r.length=sz):PO.eval (.row sz) [.sl xs,.int k n]=some r:=by
 simp only[PO.eval,if_pos h0,h,if_pos hr]
theorem qhqb {sz:Nat} {xs:List (List D)} {k k':IntKind} {a b:Int} (h0:0≤a) (h1:a≤b) (h2:b≤xs.length) (h3:xs.all (fun r=>r.length == sz)=true):PO.eval (.subL sz) [.sl xs,.int k a,.int k' b]=some [.sl ((xs.take b.toNat).drop a.toNat)]:=by
 simp only[PO.eval,if_pos (And.intro h0 (And.intro h1 (And.intro h2 h3)))]
theorem qmq {sz bt:Nat} {xs ys:List (List D)} (h1:(xs.length+ys.length)*bt≤140737488355328) (h2:xs.length+ys.length≤9223372036854775807) (h3:ys.all (fun r=>r.length == sz)=true):PO.eval (.app sz bt) [.sl xs,.sl ys]=some [.sl (xs++ys)]:=by
 simp only[PO.eval,if_pos (And.intro h1 (And.intro h2 h3))]
theorem qaob (xs ys:List (List D)):PO.eval .cat [.sl xs,.sl ys]=some [.sl (xs++ys)]:=rfl
theorem qqo {xs:List (List D)} {k:IntKind} {n:Int} (h0:0≤n) (h1:n<xs.length):PO.eval .chk [.sl xs,.int k n]=some []:=by
 simp only[PO.eval,if_pos (And.intro h0 h1)]
theorem qbpb (k k':IntKind) (a b:Int):PO.eval .min [.int k a,.int k' b]=some [.int k (if b<a then b else a)]:=rfl
theorem qypb (k k':IntKind) (a b:Int):PO.eval .max [.int k a,.int k' b]=some [.int k (if b>a then b else a)]:=rfl
theorem qkcb (t:Bool) (a b:D):PO.eval .pick [.bool t,a,b]=some [if t then a else b]:=rfl
theorem qppb (a:D):PO.eval (.mk 1 1) [a]=some [.sl [[a]]]:=rfl
theorem qrpb (a b c:D):PO.eval (.mk 3 1) [a,b,c]=some [.sl [[a,b,c]]]:=rfl
theorem qzk (d:D):one1 (some d)=some [d]:=rfl
theorem qru (e:Env) (d:D):SA.val e (.c d)=d:=rfl
theorem qht (e:Env) (x:Nat):SA.val e (.v x)=e.getD x dfl:=rfl
theorem qtv (a:D) (l:List D) (d:D):(a::l).getD 0 d=a:=rfl
theorem qdv (a:D) (l:List D) (n:Nat) (d:D):(a::l).getD (n+1) d=l.getD n d:=rfl
end Am

namespace Am
open Go
noncomputable def opQ (R:Nat→PF) (k:IR) (e:Env) (J:List PF):Option (List D)→Option (List D)
 | some outs=>den R k (e++outs) J
 | none=>none
noncomputable def iteQ (R:Nat→PF) (a b:IR) (e:Env) (J:List PF):D→Option (List D)
 | .bool true=>den R a e J
 | .bool false=>den R b e J
 | _=>none
noncomputable def callQ (R:Nat→PF) (n:Nat) (sc:Bool) (sl:List Nat) (k:IR) (e:Env) (J:List PF):Option (List D)→Option (List D)
 | some outs=>if outs.length=n∧(sc=true→outs.all D.scal=true)∧sl.all (fun j=>(outs.getD j dfl).isSl)=true then den R k (e++outs) J else none
 | none=>none
noncomputable def contQ (R:Nat→PF) (rest:IR) (e:Env) (J:List PF):PF:=fun vs=>den R rest (e++vs) J
noncomputable def loopQ (R:Nat→PF) (body:IR) (e:Env) (J:List PF):PF:=fixO (fun L vs=>den R body (e++vs) (J++[L]))
def jumpQ (a:List D):Option PF→Option (List D)
 | some f=>f a
 | none=>none
variable {R:Nat→PF} {e:Env} {J:List PF}
theorem k_op (p:PO) (args:List SA) (k:IR):den R (.op p args k) e J=opQ R k e J (p.eval (args.map (·.val e))):=by
 simp only[den];rfl
theorem qxwb (c:SA) (a b:IR):den R (.ite c a b) e J=iteQ R a b e J (c.val e):=by
 simp only[den];rfl
theorem qepb (i n:Nat) (sc:Bool) (sl:List Nat) (args:List SA) (k:IR):den R (.call i n sc sl args k) e J=callQ R n sc sl k e J (R i (args.map (·.val e))):=by
 simp only[den];rfl
theorem qdob (n:Nat) (body rest:IR):den R (.letj n body rest) e J=den R body e (J++[contQ R rest e J]):=by
 simp only[den];rfl
theorem qzob (n:Nat) (init:List SA) (body:IR):den R (.loop n init body) e J=loopQ R body e J (init.map (·.val e)):=by
 simp only[den];rfl
theorem qwnb (j:Nat) (args:List SA):den R (.jump j args) e J=jumpQ (args.map (·.val e)) J[j]?:=by
 simp only[den];rfl
theorem qqxb (args:List SA):den R (.ret args) e J=some (args.map (·.val e)):=by
 simp only[den]
theorem qbxb (k:IR) (o:List D):opQ R k e J (some o)=den R k (e++o) J:=rfl
theorem qvob (a b:IR):iteQ R a b e J (.bool true)=den R a e J:=rfl
theorem qpob (a b:IR):iteQ R a b e J (.bool false)=den R b e J:=rfl
theorem qyhb (f:PF) (a:List D):jumpQ a (some f)=f a:=rfl
theorem qbib (rest:IR) (a:List D):contQ R rest e J a=den R rest (e++a) J:=rfl
theorem qihb (k:IR):callQ R 0 false [] k e J (some [])=den R k (e++[]) J:=rfl
theorem qtgb (k:IR) (a:D):callQ R 1 false [] k e J (some [a])=den R k (e++[a]) J:=rfl
theorem qjfb (k:IR) (a b:D):callQ R 2 false [] k e J (some [a,b])=den R k (e++[a,b]) J:=rfl
theorem qvcb (k:IR) (a b c:D):callQ R 3 false [] k e J (some [a,b,c])=den R k (e++[a,b,c]) J:=rfl
theorem qucb (k:IR) (a b c d:D):callQ R 4 false [] k e J (some [a,b,c,d])=den R k (e++[a,b,c,d]) J:=rfl
theorem qgdb (k:IR) (a b c d f:D):callQ R 5 false [] k e J (some [a,b,c,d,f])=den R k (e++[a,b,c,d,f]) J:=rfl
theorem qibb (k:IR) (a b c d f g:D):callQ R 6 false [] k e J (some [a,b,c,d,f,g])=den R k (e++[a,b,c,d,f,g]) J:=rfl
theorem qxdb (k:IR) (a b c d f g h:D):callQ R 7 false [] k e J (some [a,b,c,d,f,g,h])=den R k (e++[a,b,c,d,f,g,h]) J:=rfl
theorem qweb (k:IR) (a b c d f g h i:D):callQ R 8 false [] k e J (some [a,b,c,d,f,g,h,i])=den R k (e++[a,b,c,d,f,g,h,i]) J:=rfl
theorem qkfb (k:IR) (a b c d f g h i j:D):callQ R 9 false [] k e J (some [a,b,c,d,f,g,h,i,j])=den R k (e++[a,b,c,d,f,g,h,i,j]) J:=rfl
theorem qk {run:Nat→PF} {body:IR} {e:Env} {J:List PF} {σ:Type} (n:Nat) (Pre:Nat→σ→Prop) (a r:Nat→σ→List D)
 (step:∀ (i:Nat) (s:σ) (L:PF),i<n→Pre i s→(∀ s',Pre (i+1) s'→L (a (i+1) s')=some (r (i+1) s'))→den run body (e++a i s) (J++[L])=some (r i s))
 (fin:∀ (s:σ) (L:PF),Pre n s→den run body (e++a n s) (J++[L])=some (r n s)) :
 ∀ i s,i≤n→Pre i s→loopQ run body e J (a i s)=some (r i s):=by
 intro i s hi hp;refine qgo (ι:=Nat × σ) (fun x=>n-x.1) (fun x=>x.1≤n∧Pre x.1 x.2) (fun x=>a x.1 x.2) (fun x=>r x.1 x.2) ?_ (i,s) ⟨hi,hp⟩
 rintro ⟨i,s⟩ L ⟨h1,h2⟩ hL
 by_cases h:i<n
 · exact step i s L h h2 fun s' hs=>hL (i+1,s') ⟨h,hs⟩ (by show n-(i+1)<n-i;omega)
 · obtain rfl:i=n:=by simp only at h1;omega
   exact fin s L h2
theorem qxn {run:Nat→PF} {body:IR} {e:Env} {J:List PF} {σ:Type} (n:Nat) (Pre:Nat→σ→Prop) (a:Nat→σ→List D) (Post:List D→Prop)
 (step:∀ (i:Nat) (s:σ) (L:PF),i<n→Pre i s→(∀ s',Pre (i+1) s'→∃ r,L (a (i+1) s')=some r∧Post r)→∃ r,den run body (e++a i s) (J++[L])=some r∧Post r)
 (fin:∀ (s:σ) (L:PF),Pre n s→∃ r,den run body (e++a n s) (J++[L])=some r∧Post r) :
 ∀ i s,i≤n→Pre i s→∃ r,loopQ run body e J (a i s)=some r∧Post r:=by
 intro i s hi hp;refine qmqb (ι:=Nat × σ) (fun x=>n-x.1) (fun x=>x.1≤n∧Pre x.1 x.2) (fun x=>a x.1 x.2) Post ?_ (i,s) ⟨hi,hp⟩
 rintro ⟨i,s⟩ L ⟨h1,h2⟩ hL
 by_cases h:i<n
 · exact step i s L h h2 fun s' hs=>hL (i+1,s') ⟨h,hs⟩ (by show n-(i+1)<n-i;omega)
 · obtain rfl:i=n:=by simp only at h1;omega
   exact fin s L h2
theorem qkhb {run:Nat→PF} {body:IR} {e:Env} {J:List PF} {ι:Type} (μ:ι→Nat) (Pre:ι→Prop) (a r:ι→List D)
 (step:∀ (x:ι) (L:PF),Pre x→(∀ y,Pre y→μ y<μ x→L (a y)=some (r y))→den run body (e++a x) (J++[L])=some (r x)) :
 ∀ x,Pre x→loopQ run body e J (a x)=some (r x):=fun x hp=>qgo μ Pre a r step x hp
end Am

namespace Am
open Go
theorem wr {n:Int} (h0:-9223372036854775808≤n) (h1:n<9223372036854775808):IntKind.i64.wrap n=n:=by
 simp[IntKind.wrap,IntKind.bits,IntKind.signed];omega
inductive F where
 | mk (op:Int) (name:List UInt8) (args:List F)
namespace F
def op:F→Int|mk o _ _=>o
def name:F→List UInt8|mk _ n _=>n
def args:F→List F|mk _ _ a=>a
mutual
def enc:F→List D|mk o n a=>[.int .i64 o,.str n,.sl (encs a)]
def encs:List F→List (List D)|[]=>[]|f::l=>f.enc::encs l
end
theorem qbjb (l:List F):encs l=l.map enc:=by
 induction l with
 | nil=>rfl
 | cons f l ih=>simp[encs,ih]
theorem encs_len (l:List F):(encs l).length=l.length:=by rw[qbjb];simp
mutual
def size:F→Nat|mk _ _ a=>1+sizes a
def sizes:List F→Nat|[]=>0|f::l=>f.size+sizes l
end
end F
namespace F
mutual
def depth:F→Nat|mk _ _ a=>depths a
def depths:List F→Nat|[]=>0|f::l=>max (1+f.depth) (depths l)
end
end F
def strength (f:F):Int:=if f.op == 8 then 1 else if f.op == 7 then 2 else if f.op == 6 then 3 else if f.op == 5 then 4 else 5
def nameOk (i:Nat) (c:UInt8):Bool:=(decide ((c.toNat:Int)≥97)&&decide ((c.toNat:Int)≤122)) || (decide ((i:Int)>0)&&((decide ((c.toNat:Int)≥48)&&decide ((c.toNat:Int)≤57)) || ((c.toNat:Int) == 95)))
def nameFrom:Nat→List UInt8→Bool
 | _,[]=>true
 | i,c::l=>nameOk i c&&nameFrom (i+1) l
def validName (s:List UInt8):Bool:=!((s.length:Int) == 0 || decide ((s.length:Int)>12))&&nameFrom 0 s
theorem qnn (s:List UInt8) (j:Nat) (h:j<s.length):nameFrom j (s.drop j)=(nameOk j s[j]&&nameFrom (j+1) (s.drop (j+1))):=by
 rw[List.drop_eq_getElem_cons h];rfl
def named (f:F):Bool:=if f.op == 3 then validName f.name else f.name == []
namespace F
end F
def wordO (o:Int):List UInt8:=if o == 5 then [32,38,32] else if o == 6 then [32,124,32] else if o == 7 then [32,45,62,32] else [32,60,45,62,32]
def headO (o:Int) (n:List UInt8):List UInt8:=if o == 1 then [49] else if o == 2 then [48] else if o == 3 then n else if o == 4 then [126] else []
def neededO (o i:Int):Int:=if o == 4 || o == 5 then 5 else if o == 6 then 4 else if o == 7 then 3-i else 2
namespace F
mutual
def text:F→List UInt8|mk o n a=>headO o n++texts o 0 a
def texts (o:Int):Nat→List F→List UInt8
 | _,[]=>[]
 | i,g::l=>(if decide ((i:Int)>0) then wordO o else [])++(if decide (strength g<neededO o i) then [40]++text g++[41] else text g)++texts o (i+1) l
end
end F
def txt (f:F) (j:Nat):List UInt8:=headO f.op f.name++F.texts f.op 0 (f.args.take j)
def numR (x:Int):List D:=[.int .i64 x]
def numsD (l:List Int):D:=.sl (l.map numR)
def strR (s:List UInt8):List D:=[.str s]
def strsD (l:List (List UInt8)):D:=.sl (l.map strR)
theorem qqw:D.sl []=numsD []:=rfl
theorem qgw:D.sl []=strsD []:=rfl
theorem natS (n:Nat):(n:Int)+1=((n+1:Nat):Int):=rfl
theorem natP (n:Nat):((n+1:Nat):Int)-1=n:=by omega
theorem ibeq (a b:Int):(a == b)=decide (a=b):=by by_cases h:a=b<;>simp[h]
theorem nat0:((0:Nat):Int)=0:=rfl
theorem qtpb (a b:Nat):((a:Int)<(b:Int))=(a<b):=by simp
theorem qnpb (a b:Nat):((a:Int)≤(b:Int))=(a≤b):=by simp
theorem qinb (a b:Nat):((a:Int)>(b:Int))=(b<a):=by simp
theorem quob (a b:Nat):((a:Int)≥(b:Int))=(b≤a):=by simp
theorem qspb (a b:Nat):((a:Int)=(b:Int))=(a=b):=propext ⟨fun h=>by omega,fun h=>by omega⟩
theorem wu {n:Int} (h0:0≤n) (h1:n<18446744073709551616):IntKind.u64.wrap n=n:=by
 simp[IntKind.wrap,IntKind.bits,IntKind.signed];omega
theorem w8 {n:Int} (h0:0≤n) (h1:n<256):IntKind.u8.wrap n=n:=by
 simp[IntKind.wrap,IntKind.bits,IntKind.signed];omega
theorem qtb {l:List Int} {i:Nat} (h:i<l.length):PO.eval (.row 1) [numsD l,.int .i64 i]=some [.int .i64 l[i]]:=
 qxl (by omega) (by simp[h,numR]) rfl
theorem qu (l:List Int):PO.eval .lenL [numsD l]=some [.int .i64 l.length]:=by simp[numsD,qbd]
theorem qsh {l:List (List UInt8)} {i:Nat} (h:i<l.length):PO.eval (.row 1) [strsD l,.int .i64 i]=some [.str l[i]]:=
 qxl (by omega) (by simp[h,strR]) rfl
theorem qpb (l:List (List UInt8)):PO.eval .lenL [strsD l]=some [.int .i64 l.length]:=by simp[strsD,qbd]
theorem qmvb {l:List UInt8} {i:Nat} (h:i<l.length):PO.eval .idxS [.str l,.int .i64 i]=some [.int .u8 l[i].toNat]:=qfbb (by omega) (by simp[h])
theorem qxzb {l:List (List UInt8)} {s:List UInt8} (h:l.length<1000000000000):PO.eval (.app 1 16) [strsD l,.sl [[.str s]]]=some [strsD (l++[s])]:=by
 have:=qmq (sz:=1) (bt:=16) (xs:=l.map strR) (ys:=[[.str s]]) (by simp;omega) (by simp;omega) rfl
 simpa [strsD,strR] using this
theorem qgxb {l:List Int} {s:Int} (h:l.length<1000000000000):PO.eval (.app 1 8) [numsD l,.sl [[.int .i64 s]]]=some [numsD (l++[s])]:=by
 have:=qmq (sz:=1) (bt:=8) (xs:=l.map numR) (ys:=[[.int .i64 s]]) (by simp;omega) (by simp;omega) rfl
 simpa [numsD,numR] using this
theorem qztb {c:Int} (h0:0≤c) (h1:c<256):PO.eval .toS [.sl [[.int .u8 c]]]=some [.str [c.toNat.toUInt8]]:=by
 simp[PO.eval,bytesD,h0,h1]
theorem qem {α:Type} {l:List α} {i:Nat} (h:i<l.length):l.drop i=l[i]::l.drop (i+1):=List.drop_eq_getElem_cons h
theorem qexb {α:Type} (l:List α):l.drop l.length=[]:=List.drop_length
def valO (ys:List (List UInt8)) (o:Int) (s:List UInt8) (vs:List Bool):Bool:=
 if o=1 then true else if o=3 then ys.contains s else if o=4 then !(vs.getD 0 false) else if o=6 then vs.any id else if o=5 then vs.all id else
 if o=7∨o=8 then (if vs.getD 0 false=vs.getD 1 false then true else if o=7 then vs.getD 1 false else false) else false
namespace F
mutual
def val (ys:List (List UInt8)):F→Bool|mk o s a=>valO ys o s (vals ys a)
def vals (ys:List (List UInt8)):List F→List Bool|[]=>[]|f::l=>val ys f::vals ys l
end
end F
end Am
namespace Am
open Go
end Am
namespace Am
open Go
end Am
namespace Am
theorem qrob:(true == true)=true:=rfl
theorem qtnb:(true == false)=false:=rfl
theorem qupb:(false == true)=false:=rfl
theorem qwob:(false == false)=true:=rfl
theorem qfnb:(true != true)=false:=rfl
theorem qxnb:(true != false)=true:=rfl
theorem qcpb:(false != true)=true:=rfl
theorem qgnb:(false != false)=false:=rfl
theorem qzv:(false=true)=False:=by simp
theorem qiw:(true=false)=False:=by simp
end Am
namespace Am
namespace F
mutual
def subst (p:List UInt8) (g:F):F→F|mk o s a=>if o=3∧a.length=0∧s=p then g else mk o s (substs p g a)
def substs (p:List UInt8) (g:F):List F→List F|[]=>[]|f::l=>subst p g f::substs p g l
end
end F
theorem qxr {α:Type} {l:List α} {i:Nat} (h:i<l.length):l.take i++[l[i]]=l.take (i+1):=by simp
end Am
namespace Am
open Go
theorem qubb (b:Bool):aUn .not (.bool b)=some (.bool (!b)):=rfl
theorem qngb (k:IntKind) (n:Int):aUn .neg (.int k n)=some (.int k (k.wrap (0-n))):=rfl
theorem qa:type_of% @k_op∧type_of% @qepb∧type_of% @qxwb∧type_of% @qdob∧type_of% @qwnb∧type_of% @qqxb∧type_of% @qzob∧type_of% @qbxb∧type_of% @qvob∧type_of% @qpob∧type_of% @qyhb∧type_of% @qbib∧type_of% @qru∧type_of% @qht∧type_of% @qtv∧type_of% @qdv∧type_of% @qyf∧type_of% @qfdb∧type_of% @qzk∧type_of% @qihb∧type_of% @qtgb∧type_of% @qjfb∧type_of% @qvcb∧type_of% @qucb∧type_of% @qgdb∧type_of% @qibb∧type_of% @qxdb∧type_of% @qweb∧type_of% @qkfb∧type_of% @qwwb∧type_of% @qij∧type_of% @qbd∧type_of% @F.encs_len∧type_of% @Int.natCast_eq_zero∧type_of% @qtpb∧type_of% @qnpb∧type_of% @qinb∧type_of% @quob∧type_of% @qspb∧type_of% @qaob∧type_of% @qbpb∧type_of% @qypb∧type_of% @qkcb∧type_of% @qppb∧type_of% @qrpb∧type_of% @qpgb∧type_of% @qix∧type_of% @decide_true∧type_of% @decide_false∧type_of% @Int.cast_ofNat_Int∧type_of% @nat0∧type_of% @natP∧type_of% @ibeq∧type_of% @Bool.not_true∧type_of% @Bool.not_false∧type_of% @Bool.true_and∧type_of% @Bool.false_and∧type_of% @Bool.and_true∧type_of% @Bool.and_false∧type_of% @Bool.true_or∧type_of% @Bool.false_or∧type_of% @Bool.or_true∧type_of% @Bool.or_false∧type_of% @qrob∧type_of% @qtnb∧type_of% @qupb∧type_of% @qwob∧type_of% @qfnb∧type_of% @qxnb∧type_of% @qcpb∧type_of% @qgnb∧type_of% @qzv∧type_of% @qiw:=⟨@k_op,@qepb,@qxwb,@qdob,@qwnb,@qqxb,@qzob,@qbxb,@qvob,@qpob,@qyhb,@qbib,@qru,@qht,@qtv,@qdv,@qyf,@qfdb,@qzk,@qihb,@qtgb,@qjfb,@qvcb,@qucb,@qgdb,@qibb,@qxdb,@qweb,@qkfb,@qwwb,@qij,@qbd,@F.encs_len,@Int.natCast_eq_zero,@qtpb,@qnpb,@qinb,@quob,@qspb,@qaob,@qbpb,@qypb,@qkcb,@qppb,@qrpb,@qpgb,@qix,@decide_true,@decide_false,@Int.cast_ofNat_Int,@nat0,@natP,@ibeq,@Bool.not_true,@Bool.not_false,@Bool.true_and,@Bool.false_and,@Bool.and_true,@Bool.and_false,@Bool.true_or,@Bool.false_or,@Bool.or_true,@Bool.or_false,@qrob,@qtnb,@qupb,@qwob,@qfnb,@qxnb,@qcpb,@qgnb,@qzv,@qiw⟩
theorem qb:(∀ (f:SA→D) (a:SA) (l:List SA),List.map f (a::l)=f a::List.map f l)∧(∀ f:SA→D,List.map f []=[])∧(∀ (a:D) (l m:List D),(a::l)++m=a::(l++m))∧(∀ l:List D,[]++l=l)∧(∀ l:List D,l++[]=l)∧
 (∀ (a:PF) (l m:List PF),(a::l)++m=a::(l++m))∧(∀ l:List PF,[]++l=l)∧(∀ l:List PF,l++[]=l)∧(∀ (a:PF) (l:List PF),(a::l)[0]? = some a)∧(∀ (a:PF) (l:List PF) (n:Nat),(a::l)[n+1]? = l[n]?)∧type_of% @qubb∧type_of% @qngb:=
 ⟨fun _ _ _=>rfl,fun _=>rfl,fun _ _ _=>rfl,fun _=>rfl,fun l=>List.append_nil l,fun _ _ _=>rfl,fun _=>rfl,fun l=>List.append_nil l,fun _ _=>rfl,fun _ _ _=>rfl,@qubb,@qngb⟩
end Am

namespace Am
open Go
namespace F
def decL (f:List D→Option F):List (List D)→Option (List F)
 | []=>some []
 | r::l=>match f r with
  | some x=>(match decL f l with|some xs=>some (x::xs)|none=>none)
  | none=>none
theorem qlk {f:List D→Option F} (h:∀ d x,f d=some x→x.enc=d):∀ {l:List (List D)} {xs:List F},decL f l=some xs→encs xs=l
 | [],xs,hx=>by simp only[decL,Option.some.injEq] at hx;subst hx;rfl
 | r::l,xs,hx=>by
  simp only[decL] at hx
  split at hx
  · rename_i x hr
    split at hx
    · rename_i ys hl;simp only[Option.some.injEq] at hx;subst hx;simp only[encs,h _ _ hr,qlk h hl]
    · simp at hx
  · simp at hx
end F
namespace F
end F
end Am
namespace Am
open Go
end Am
namespace Am
open Go
theorem ibne (a b:Int):(a != b) = !decide (a=b):=by by_cases h:a=b<;>simp[h]
theorem qeeb {l:List UInt8} (h:0<l.length):PO.eval .idxS [.str l,.int .i64 0]=some [.int .u8 l[0].toNat]:=qmvb h
def okc (c:UInt8):Bool:=(decide (97≤(c.toNat:Int))&&decide ((c.toNat:Int)≤122)) || ((decide (48≤(c.toNat:Int))&&decide ((c.toNat:Int)≤57)) || decide ((c.toNat:Int)=95))
theorem qgi:∀ (l:List UInt8) (i:Nat),0<i→nameFrom i l=l.all okc
 | [],_,_=>rfl
 | c::l,i,h=>by
  have hi:((i:Int)>0):=by omega
  simp only[nameFrom,List.all_cons,qgi l (i+1) (by omega),nameOk,okc,ge_iff_le,hi,decide_true,Bool.true_and,ibeq]
theorem qjl (c:UInt8) (l:List UInt8):validName (c::l)=(decide ((c::l).length≤12)&&(decide (97≤(c.toNat:Int))&&(decide ((c.toNat:Int)≤122)&&(c::l).all okc))):=by
 have h0:¬ ((0:Nat):Int)>0:=by omega
 simp only[validName,nameFrom,qgi l (0+1) (by omega),nameOk,List.all_cons,okc,ge_iff_le,h0,decide_false,Bool.false_and,Bool.or_false,ibeq,List.length_cons]
 by_cases h:l.length+1≤12
 · have h1:¬ ((l.length+1:Nat):Int)>12:=by omega
   have h2:¬ ((l.length+1:Nat):Int)=0:=by omega
   by_cases a:(97≤(c.toNat:Int))<;>by_cases b:((c.toNat:Int)≤122)<;>simp[h,a,b]
   omega
 · have h1:((l.length+1:Nat):Int)>12:=by omega
   simp[h];omega
end Am
namespace Am
open Go
namespace F
mutual
def beq:F→F→Bool
 | mk o s a,mk o' s' a'=>decide (o=o')&&(decide (s=s')&&(decide (a.length=a'.length)&&beqs a a'))
def beqs:List F→List F→Bool
 | [],_=>true
 | _::_,[]=>true
 | x::l,y::l'=>beq x y&&beqs l l'
end
theorem beq_eq (f g:F):beq f g=(decide (f.op=g.op)&&(decide (f.name=g.name)&&(decide (f.args.length=g.args.length)&&beqs f.args g.args))):=by
 cases f;cases g;simp only[beq];rfl
end F
theorem qkd (a b:List UInt8):Op.bytesLess a b=true↔a<b:=by
 induction a generalizing b with
 | nil=>cases b with
  | nil=>simp[Op.bytesLess]
  | cons y b=>simp[Op.bytesLess]
 | cons x a ih=>cases b with
  | nil=>simp[Op.bytesLess]
  | cons y b=>
   simp only[Op.bytesLess,List.cons_lt_cons_iff]
   by_cases h:x<y
   · simp[h]
   · by_cases h2:x=y
     · subst h2;simp[ih]
     · simp[h,h2]
end Am
namespace Am
open Go
theorem qcvb {l l':List (List UInt8)} (h:l.length+l'.length<1000000000000):PO.eval (.app 1 16) [strsD l,strsD l']=some [strsD (l++l')]:=by
 have:=qmq (sz:=1) (bt:=16) (xs:=l.map strR) (ys:=l'.map strR) (by simp;omega) (by simp;omega) (by simp[strR])
 simpa [strsD,strR] using this
theorem qevb {l':List (List UInt8)} (h:l'.length<1000000000000):PO.eval (.app 1 16) [.sl [],strsD l']=some [strsD l']:=by
 have:=qcvb (l:=[]) (l':=l') (by simpa using h)
 rw[← qgw,List.nil_append] at this;exact this
end Am
namespace Am
open Go
end Am
