/- Lemmas. -/
import Derived.Test.YtefjlhhicgepfaaGreatDoorAm4
set_option linter.unusedSimpArgs false
set_option linter.unusedVariables false
set_option linter.unusedSectionVars false
open List (append_assoc cons_append drop_drop length_cons nil_append)
open Bool (and_eq_true beq_eq_decide_eq)
namespace Am
open Go
set_option maxRecDepth 100000
def ig(c:UInt8):Bool:=(decide (97≤(c.toNat:Int))&&decide ((c.toNat:Int)≤122)) || ((decide (65≤(c.toNat:Int))&&decide ((c.toNat:Int)≤90)) || ((decide (48≤(c.toNat:Int))&&decide ((c.toNat:Int)≤57)) || decide ((c.toNat:Int)=95)))
def dz:List UInt8→Nat
 | []=>0
 | c::l=>if (c.toNat:Int)=32 then dz l+1 else 0
def dm:List UInt8→Nat
 | []=>0
 | c::l=>if ig c=true then dm l+1 else 0
theorem qjt:∀ l:List UInt8,dz l≤l.length
 | []=>by simp[dz]
 | c::l=>by have:=qjt l;simp only[dz,length_cons];split<;>omega
theorem qjx:∀ l:List UInt8,dm l≤l.length
 | []=>by simp[dm]
 | c::l=>by have:=qjx l;simp only[dm,length_cons];split<;>omega
theorem qew(s:List UInt8)(a:Nat)(h:a<s.length):dz (s.drop a)=if (s[a].toNat:Int)=32 then dz (s.drop (a+1))+1 else 0:=by
 rw[qbg h,dz]
theorem qrs(s:List UInt8)(a:Nat)(h:a<s.length):dm (s.drop a)=if ig s[a]=true then dm (s.drop (a+1))+1 else 0:=by
 rw[qbg h,dm]
def skp(s:List UInt8)(p:Nat):Nat:=p+dz (s.drop p)
theorem qib{s:List UInt8}{p:Nat}(h:p≤s.length):p≤skp s p∧skp s p≤s.length:=by
 have:=qjt (s.drop p);simp only[List.length_drop] at this;unfold skp;omega
def syms:List (List UInt8):=[[60,45,62],[45,62],[126],[38],[124],[40],[41]]
def gz(r y:List UInt8):Bool:=decide (y.length≤r.length)&&(r.take y.length == y)
def da:List UInt8:=[110,97,109,101]
def ge(r:List UInt8):List UInt8 × List UInt8:=
 if r=[] then ([],[]) else
 if r.take (dm r)=[48]∨r.take (dm r)=[49] then (r.take (dm r),r.take (dm r)) else
 if al (r.take (dm r))=true then (da,r.take (dm r)) else
 if 0<dm r then ([63],r.take (dm r)) else
 match syms.find? (gz r) with|some t=>(t,t)|none=>([63],[])
def tk(s:List UInt8)(p:Nat):List UInt8 × List UInt8:=ge (s.drop (skp s p))
theorem a0w(r:List UInt8):(ge r).2.length≤r.length:=by
 unfold ge
 split
 · simp
 split
 · simp;omega
 split
 · simp;omega
 split
 · simp;omega
 split
 · rename_i t ht;have:=List.find?_some ht;simp only[gz,and_eq_true,decide_eq_true_eq] at this;exact this.1
 · simp
theorem ajq{s:List UInt8}{p:Nat}(h:p≤s.length):skp s p+(tk s p).2.length≤s.length:=by
 have h1:=qib h;have h2:=a0w (s.drop (skp s p));simp only[List.length_drop] at h2;unfold tk;omega
def nxt(s:List UInt8)(p:Nat):Nat:=skp s p+(tk s p).2.length
theorem qgg{t:List UInt8}(h:al t=true):t≠[]:=by
 rintro rfl;simp[al] at h
theorem qzr(r:List UInt8):(ge r=([],[])∧r=[])∨((ge r).1=da∧al (ge r).2=true)∨((ge r).1=[63])∨((ge r).1=(ge r).2∧(ge r).1∈[[48],[49],[60,45,62],[45,62],[126],[38],[124],[40],[41]]):=by
 unfold ge
 split
 · rename_i h;exact .inl ⟨rfl,h⟩
 split
 · rename_i h;refine .inr (.inr (.inr ⟨rfl,?_⟩));rcases h with h|h<;>simp[h]
 split
 · rename_i h;exact .inr (.inl ⟨rfl,h⟩)
 split
 · exact .inr (.inr (.inl rfl))
 split
 · rename_i t ht;have:=List.mem_of_find?_eq_some ht;refine .inr (.inr (.inr ⟨rfl,?_⟩));simp only[syms,List.mem_cons,List.not_mem_nil,or_false] at this ⊢;rcases this with h|h|h|h|h|h|h<;>simp[h]
 · exact .inr (.inr (.inl rfl))
theorem avj{s:List UInt8}{p:Nat}{K:List UInt8}(h:(tk s p).1=K)(hn:K≠da)(h1:K≠[63]):(tk s p).2=K:=by
 rcases qzr (s.drop (skp s p)) with ⟨a,_⟩|⟨a,_⟩|a|⟨a,_⟩
 · unfold tk at h ⊢;rw[a] at h ⊢;exact h
 · exact absurd (h.symm.trans a) hn
 · exact absurd (h.symm.trans a) h1
 · unfold tk at h ⊢;rw[← a];exact h
theorem aox{s:List UInt8}{p:Nat}(h:(tk s p).1=da):al (tk s p).2=true:=by
 rcases qzr (s.drop (skp s p)) with ⟨a,_⟩|⟨_,a⟩|a|⟨_,a⟩
 · unfold tk at h;rw[a] at h;simp[da] at h
 · exact a
 · unfold tk at h;rw[a] at h;simp[da] at h
 · unfold tk at h;rw[h] at a;simp[da] at a
theorem qkb{s:List UInt8}{p:Nat}(h:p≤s.length):nxt s p≤s.length:=ajq h
theorem qag{s:List UInt8}{p:Nat}(h:p≤s.length){K:List UInt8}(hk:(tk s p).1=K)(h0:K≠[])(h1:K≠[63]):p<nxt s p:=by
 have h2:=qib h
 have h3:(tk s p).2≠[]:=by
  by_cases hn:K=da
  · exact qgg (aox (hk.trans hn))
  · rw[avj hk hn h1];exact h0
 have:=List.length_pos_iff.2 h3;unfold nxt;omega
def lz:Nat→List UInt8
 | 0=>[38]
 | _=>[124]
def opL:Nat→Int
 | 0=>5
 | _=>6
def mg:List UInt8:=[45,62]
def l6:List UInt8:=[60,45,62]
inductive Job where
 | lev (L p:Nat)
 | loop (L p:Nat) (acc:List F) (b:Bool)
inductive yh where
 | ok (f:F) (p:Nat) (b:Bool)
 | er (e:Nat)
inductive Ps(s:List UInt8):Job→yh→Prop where
 | name {p} (h:(tk s p).1=da):Ps s (.lev 0 p) (.ok (F.mk 3 (tk s p).2 []) (nxt s p) false)
 | zero {p} (h:(tk s p).1=[48]):Ps s (.lev 0 p) (.ok (F.mk 2 [] []) (nxt s p) false)
 | one {p} (h:(tk s p).1=[49]):Ps s (.lev 0 p) (.ok (F.mk 1 [] []) (nxt s p) false)
 | not {p f q b} (h:(tk s p).1=[126]) (a:Ps s (.lev 0 (nxt s p)) (.ok f q b)):Ps s (.lev 0 p) (.ok (F.mk 4 [] [f]) q b)
 | notE {p e} (h:(tk s p).1=[126]) (a:Ps s (.lev 0 (nxt s p)) (.er e)):Ps s (.lev 0 p) (.er e)
 | par {p f q b} (h:(tk s p).1=[40]) (a:Ps s (.lev 4 (nxt s p)) (.ok f q b)) (h2:(tk s q).1=[41]):Ps s (.lev 0 p) (.ok f (nxt s q) b)
 | parN {p f q b} (h:(tk s p).1=[40]) (a:Ps s (.lev 4 (nxt s p)) (.ok f q b)) (h2:(tk s q).1≠[41]):Ps s (.lev 0 p) (.er (skp s q))
 | parE {p e} (h:(tk s p).1=[40]) (a:Ps s (.lev 4 (nxt s p)) (.er e)):Ps s (.lev 0 p) (.er e)
 | none {p} (h1:(tk s p).1≠da) (h2:(tk s p).1≠[48]) (h3:(tk s p).1≠[49]) (h4:(tk s p).1≠[126]) (h5:(tk s p).1≠[40]):Ps s (.lev 0 p) (.er (skp s p))
 | one1 {L p f q b} (hL:L<2) (a:Ps s (.lev L p) (.ok f q b)) (h:(tk s q).1≠lz L):Ps s (.lev (L+1) p) (.ok f q b)
 | manyE {L p e} (hL:L<2) (a:Ps s (.lev L p) (.er e)):Ps s (.lev (L+1) p) (.er e)
 | many {L p f q b r} (hL:L<2) (a:Ps s (.lev L p) (.ok f q b)) (h:(tk s q).1=lz L) (c:Ps s (.loop L (nxt s q) [f] b) r):Ps s (.lev (L+1) p) r
 | loopE {L p acc b e} (hL:L<2) (a:Ps s (.lev L p) (.er e)):Ps s (.loop L p acc b) (.er e)
 | loop1 {L p acc b f q b'} (hL:L<2) (a:Ps s (.lev L p) (.ok f q b')) (h:(tk s q).1≠lz L):Ps s (.loop L p acc b) (.ok (F.mk (opL L) [] (acc++[f])) q ((b || b') || decide (acc.length+1>6)))
 | loop2 {L p acc b f q b' r} (hL:L<2) (a:Ps s (.lev L p) (.ok f q b')) (h:(tk s q).1=lz L) (c:Ps s (.loop L (nxt s q) (acc++[f]) (b || b')) r):Ps s (.loop L p acc b) r
 | imp1 {p f q b} (a:Ps s (.lev 2 p) (.ok f q b)) (h:(tk s q).1≠mg):Ps s (.lev 3 p) (.ok f q b)
 | impE {p e} (a:Ps s (.lev 2 p) (.er e)):Ps s (.lev 3 p) (.er e)
 | imp2 {p f q b g u b'} (a:Ps s (.lev 2 p) (.ok f q b)) (h:(tk s q).1=mg) (c:Ps s (.lev 3 (nxt s q)) (.ok g u b')):Ps s (.lev 3 p) (.ok (F.mk 7 [] [f,g]) u (b || b'))
 | imp2E {p f q b e} (a:Ps s (.lev 2 p) (.ok f q b)) (h:(tk s q).1=mg) (c:Ps s (.lev 3 (nxt s q)) (.er e)):Ps s (.lev 3 p) (.er e)
 | iff1 {p f q b} (a:Ps s (.lev 3 p) (.ok f q b)) (h:(tk s q).1≠l6):Ps s (.lev 4 p) (.ok f q b)
 | iffE {p e} (a:Ps s (.lev 3 p) (.er e)):Ps s (.lev 4 p) (.er e)
 | iff2 {p f q b g u b'} (a:Ps s (.lev 3 p) (.ok f q b)) (h:(tk s q).1=l6) (c:Ps s (.lev 3 (nxt s q)) (.ok g u b')):Ps s (.lev 4 p) (.ok (F.mk 8 [] [f,g]) u (b || b'))
 | iff2E {p f q b e} (a:Ps s (.lev 3 p) (.ok f q b)) (h:(tk s q).1=l6) (c:Ps s (.lev 3 (nxt s q)) (.er e)):Ps s (.lev 4 p) (.er e)
def Job.pos:Job→Nat
 | .lev _ p=>p
 | .loop _ p _ _=>p
def Job.acc:Job→List F
 | .lev _ _=>[]
 | .loop _ _ acc _=>acc
def Job.fine:Job→Prop
 | .lev _ _=>True
 | .loop _ _ acc b=>acc≠[]∧F.allFs named acc=true∧F.allFs be acc = !b
def Job.cost:Job→Nat
 | .lev _ _=>0
 | .loop _ _ acc _=>1+F.sizes acc
def yh.good(s:List UInt8)(j:Job):yh→Prop
 | .ok f q b=>j.pos<q∧q≤s.length∧F.allF named f=true∧F.allF be f = !b∧f.size≤j.cost+(q-j.pos)
 | .er e=>e≤s.length
theorem qrg(L:Nat):lz L≠[]∧lz L≠[63]:=by cases L<;>simp[lz]
theorem qke(p:F→Bool)(a b:List F):F.allFs p (a++b)=(F.allFs p a&&F.allFs p b):=by
 induction a with
 | nil=>simp[F.allFs]
 | cons x l ih=>simp only[cons_append,F.allFs,ih,Bool.and_assoc]
theorem qqi(a b:List F):F.sizes (a++b)=F.sizes a+F.sizes b:=by
 induction a with
 | nil=>simp[F.sizes]
 | cons x l ih=>simp only[cons_append,F.sizes,ih];omega
theorem qgk{s:List UInt8}{j:Job}{r:yh}(h:Ps s j r):j.pos≤s.length→j.fine→r.good s j:=by
 induction h with
 | @name p h=>
  intro hp _
  change p≤s.length at hp
  have h1:=qag hp h (by simp[da]) (by simp[da])
  have h2:=qkb hp;exact ⟨h1,h2,by simp[F.allF,F.allFs,named,F.op,F.name,aox h],by simp[F.allF,F.allFs,be,F.op,F.args],by simp only[F.size,F.sizes,Job.cost,Job.pos];omega⟩
 | @zero p h=>
  intro hp _
  change p≤s.length at hp
  have h1:=qag hp h (by simp) (by simp)
  have h2:=qkb hp;exact ⟨h1,h2,by simp[F.allF,F.allFs,named,F.op,F.name],by simp[F.allF,F.allFs,be,F.op,F.args],by simp only[F.size,F.sizes,Job.cost,Job.pos];omega⟩
 | @one p h=>
  intro hp _
  change p≤s.length at hp
  have h1:=qag hp h (by simp) (by simp)
  have h2:=qkb hp;exact ⟨h1,h2,by simp[F.allF,F.allFs,named,F.op,F.name],by simp[F.allF,F.allFs,be,F.op,F.args],by simp only[F.size,F.sizes,Job.cost,Job.pos];omega⟩
 | @not p f q b h a ih=>
  intro hp _
  change p≤s.length at hp
  have h1:=qag hp h (by simp) (by simp)
  obtain ⟨i1,i2,i3,i4,i5⟩:=ih (qkb hp) trivial;simp only[Job.pos,Job.cost] at i1 i5;exact ⟨by simp only[Job.pos];omega,i2,by simp[F.allF,F.allFs,named,F.op,F.name,i3],by simp[F.allF,F.allFs,be,F.op,F.args,i4],by simp only[F.size,F.sizes,Job.cost,Job.pos];omega⟩
 | @notE p e h a ih=>intro hp _;exact ih (qkb hp) trivial
 | @par p f q b h a h2 ih=>
  intro hp _
  change p≤s.length at hp
  have h1:=qag hp h (by simp) (by simp)
  obtain ⟨i1,i2,i3,i4,i5⟩:=ih (qkb hp) trivial;have h3:=qag i2 h2 (by simp) (by simp)
  have h4:=qkb i2;simp only[Job.pos,Job.cost] at i1 i5;exact ⟨by simp only[Job.pos];omega,h4,i3,i4,by simp only[Job.cost,Job.pos];omega⟩
 | @parN p f q b h a h2 ih=>
  intro hp _
  change p≤s.length at hp
  obtain ⟨i1,i2,i3,i4,i5⟩:=ih (qkb hp) trivial;exact (qib i2).2
 | @parE p e h a ih=>intro hp _;exact ih (qkb hp) trivial
 | @none p h1 h2 h3 h4 h5=>intro hp _;exact (qib hp).2
 | one1 hL a h ih=>intro hp hf;exact ih hp trivial
 | manyE hL a ih=>intro hp hf;exact ih hp trivial
 | @many L p f q b r hL a h c iha ihc=>
  intro hp hf
  change p≤s.length at hp
  obtain ⟨i1,i2,i3,i4,i5⟩:=iha hp trivial;have h3:=qag i2 h (qrg L).1 (qrg L).2;have h4:=qkb i2;have hc:=ihc h4 ⟨by simp,by simp[F.allFs,i3],by simp[F.allFs,i4]⟩
  simp only[Job.pos,Job.cost] at i1 i5;cases r with
  | ok g u b'=>
   obtain ⟨k1,k2,k3,k4,k5⟩:=hc;simp only[Job.pos,Job.cost,F.sizes] at k1 k5;exact ⟨by simp only[Job.pos];omega,k2,k3,k4,by simp only[Job.cost,Job.pos];omega⟩
  | er e=>exact hc
 | loopE hL a ih=>intro hp hf;exact ih hp trivial
 | @loop1 L p acc b f q b' hL a h ih=>
  intro hp hf
  change p≤s.length at hp
  obtain ⟨f1,f2,f3⟩:=hf;obtain ⟨i1,i2,i3,i4,i5⟩:=ih hp trivial;simp only[Job.pos,Job.cost] at i1 i5
  have z8:opL L=5∨opL L=6:=by
   match L,hL with
   | 0,_=>exact .inl rfl
   | 1,_=>exact .inr rfl
  have mp:=List.length_pos_iff.2 f1;refine ⟨i1,i2,?_,?_,?_⟩
  · rcases z8 with e|e<;>simp[F.allF,qke,F.allFs,named,F.op,F.name,e,i3,f2]
  · have hb:decide (((acc++[f]).length:Int)≥2)=true:=by simp;omega
    have hc:decide (((acc++[f]).length:Int)≤6) = !decide (acc.length+1>6):=by
     simp only[List.length_append,length_cons,List.length_nil]
     by_cases hx:acc.length+1>6
     · simp only[hx,decide_true,Bool.not_true,decide_eq_false_iff_not];omega
     · simp only[hx,decide_false,Bool.not_false,decide_eq_true_eq];omega
    have hcn:be (F.mk (opL L) [] (acc++[f])) = !decide (acc.length+1>6):=by
     have k5:∀ l:List F,be (F.mk 5 [] l)=(decide ((l.length:Int)≥2)&&decide ((l.length:Int)≤6)):=fun l=>rfl
     have k6:∀ l:List F,be (F.mk 6 [] l)=(decide ((l.length:Int)≥2)&&decide ((l.length:Int)≤6)):=fun l=>rfl
     rcases z8 with e|e
     · rw[e,k5,hb,hc,Bool.true_and]
     · rw[e,k6,hb,hc,Bool.true_and]
    simp only[F.allF,hcn,qke,F.allFs,f3,i4,Bool.and_true,Bool.not_or];cases b<;>cases b'<;>simp
  · simp only[F.size,qqi,F.sizes,Job.cost,Job.pos];omega
 | @loop2 L p acc b f q b' r hL a h c iha ihc=>
  intro hp hf
  change p≤s.length at hp
  obtain ⟨f1,f2,f3⟩:=hf;obtain ⟨i1,i2,i3,i4,i5⟩:=iha hp trivial;have h3:=qag i2 h (qrg L).1 (qrg L).2;have h4:=qkb i2;have hc:=ihc h4 ⟨by simp,by simp[qke,F.allFs,i3,f2],by simp only[qke,F.allFs,i4,f3,Bool.and_true,Bool.not_or]⟩
  simp only[Job.pos,Job.cost] at i1 i5;cases r with
  | ok g u b'=>
   obtain ⟨k1,k2,k3,k4,k5⟩:=hc;simp only[Job.pos,Job.cost,qqi,F.sizes] at k1 k5;exact ⟨by simp only[Job.pos];omega,k2,k3,k4,by simp only[Job.cost,Job.pos];omega⟩
  | er e=>exact hc
 | imp1 a h ih=>intro hp hf;exact ih hp trivial
 | impE a ih=>intro hp hf;exact ih hp trivial
 | @imp2 p f q b g u b' a h c iha ihc=>
  intro hp hf
  change p≤s.length at hp
  obtain ⟨i1,i2,i3,i4,i5⟩:=iha hp trivial;have h3:=qag i2 h (by simp[mg]) (by simp[mg])
  obtain ⟨k1,k2,k3,k4,k5⟩:=ihc (qkb i2) trivial;simp only[Job.pos,Job.cost] at i1 i5 k1 k5;refine ⟨by simp only[Job.pos];omega,k2,by simp[F.allF,F.allFs,named,F.op,F.name,i3,k3],?_,by simp only[F.size,F.sizes,Job.cost,Job.pos];omega⟩
  simp only[F.allF,F.allFs,be,F.op,F.args,i4,k4];cases b<;>cases b'<;>simp
 | @imp2E p f q b e a h c iha ihc=>
  intro hp hf
  change p≤s.length at hp
  obtain ⟨i1,i2,i3,i4,i5⟩:=iha hp trivial;exact ihc (qkb i2) trivial
 | iff1 a h ih=>intro hp hf;exact ih hp trivial
 | iffE a ih=>intro hp hf;exact ih hp trivial
 | @iff2 p f q b g u b' a h c iha ihc=>
  intro hp hf
  change p≤s.length at hp
  obtain ⟨i1,i2,i3,i4,i5⟩:=iha hp trivial;have h3:=qag i2 h (by simp[l6]) (by simp[l6])
  obtain ⟨k1,k2,k3,k4,k5⟩:=ihc (qkb i2) trivial;simp only[Job.pos,Job.cost] at i1 i5 k1 k5;refine ⟨by simp only[Job.pos];omega,k2,by simp[F.allF,F.allFs,named,F.op,F.name,i3,k3],?_,by simp only[F.size,F.sizes,Job.cost,Job.pos];omega⟩
  simp only[F.allF,F.allFs,be,F.op,F.args,i4,k4];cases b<;>cases b'<;>simp
 | @iff2E p f q b e a h c iha ihc=>
  intro hp hf
  change p≤s.length at hp
  obtain ⟨i1,i2,i3,i4,i5⟩:=iha hp trivial;exact ihc (qkb i2) trivial
def tkr(r:List UInt8):List UInt8 × List UInt8:=ge (r.drop (dz r))
theorem abe(s:List UInt8)(p:Nat):tk s p=tkr (s.drop p):=by
 unfold tk tkr skp;rw[drop_drop]
theorem aim{s:List UInt8}{p:Nat}{c:UInt8}{l:List UInt8}(h:s.drop p=c::l)(hc:(c.toNat:Int)≠32):skp s p=p:=by
 unfold skp;rw[h,dz,if_neg hc];rfl
theorem qts(r:List UInt8):tkr (32::r)=tkr r:=by
 have h:dz (32::r)=dz r+1:=by rw[dz,if_pos (by decide)]
 unfold tkr;rw[h,List.drop_succ_cons]
theorem qru{s:List UInt8}{p:Nat}{l:List UInt8}(h:s.drop p=32::l):skp s p=skp s (p+1):=by
 unfold skp;have h1:s.drop (p+1)=l:=by rw[← drop_drop,h];rfl
 rw[h1,h,dz,if_pos (by decide)];omega
theorem sp0{c:UInt8}(r:List UInt8)(h:(c.toNat:Int)≠32):tkr (c::r)=ge (c::r):=by
 unfold tkr;have:dz (c::r)=0:=by rw[dz,if_neg h]
 rw[this];rfl
theorem wl0{c:UInt8}(r:List UInt8)(h:ig c=false):dm (c::r)=0:=by rw[dm,if_neg (by simp[h])]
theorem qdq:al []=false:=by decide
theorem qwh{c:UInt8}(r:List UInt8)(h:ig c=false):ge (c::r)=(match syms.find? (gz (c::r)) with|some t=>(t,t)|none=>([63],[])):=by
 unfold ge;rw[wl0 r h];simp[qdq]<;>rfl
theorem a5c(r:List UInt8):tkr (126::r)=([126],[126]):=by
 rw[sp0 r (by decide),qwh r (by decide)]
 simp[syms,gz,beq_eq_decide_eq]
theorem akr(r:List UInt8):tkr (38::r)=([38],[38]):=by
 rw[sp0 r (by decide),qwh r (by decide)]
 simp[syms,gz,beq_eq_decide_eq]
theorem aj0(r:List UInt8):tkr (124::r)=([124],[124]):=by
 rw[sp0 r (by decide),qwh r (by decide)]
 simp[syms,gz,beq_eq_decide_eq]
theorem aqe(r:List UInt8):tkr (40::r)=([40],[40]):=by
 rw[sp0 r (by decide),qwh r (by decide)]
 simp[syms,gz,beq_eq_decide_eq]
theorem alu(r:List UInt8):tkr (41::r)=([41],[41]):=by
 rw[sp0 r (by decide),qwh r (by decide)]
 simp[syms,gz,beq_eq_decide_eq]
theorem aki(r:List UInt8):tkr (45::62::r)=(mg,mg):=by
 rw[sp0 _ (by decide),qwh _ (by decide)]
 simp[syms,gz,mg,beq_eq_decide_eq]
theorem ag0(r:List UInt8):tkr (60::45::62::r)=(l6,l6):=by
 rw[sp0 _ (by decide),qwh _ (by decide)]
 simp[syms,gz,l6]
theorem qea:∀ (t r:List UInt8),(∀ c∈t,ig c=true)→dm r=0→dm (t++r)=t.length
 | [],r,_,h=>by simpa using h
 | c::t,r,h,h0=>by
  rw[cons_append,dm,if_pos (h c (by simp)),qea t r (fun c hc=>h c (by simp[hc])) h0];rfl
theorem qiw{i:Nat}{c:UInt8}(h:ce i c=true):ig c=true:=by
 unfold ce at h;unfold ig;simp only[Bool.or_eq_true,and_eq_true,decide_eq_true_eq,beq_iff_eq] at h ⊢;omega
theorem qvf:∀ (i:Nat) (l:List UInt8),d7 i l=true→∀ c∈l,ig c=true
 | _,[],_,c,hc=>by cases hc
 | i,a::l,h,c,hc=>by
  simp only[d7,and_eq_true] at h;rcases List.mem_cons.1 hc with rfl|hc
  · exact qiw h.1
  · exact qvf (i+1) l h.2 c hc
theorem qcr{t r:List UInt8}(hw:∀ c∈t,ig c=true)(h0:t≠[])(hr:dm r=0):tkr (t++r)=ge (t++r)∧(t++r).take (dm (t++r))=t:=by
 obtain ⟨c,l,rfl⟩:=List.exists_cons_of_ne_nil h0;refine ⟨sp0 _ ?_,?_⟩
 · have:=hw c (by simp)
   intro h;unfold ig at this;rw[h] at this;exact absurd this (by decide)
 · rw[qea _ _ hw hr];simp
theorem aze{t r:List UInt8}(h:al t=true)(hr:dm r=0):tkr (t++r)=(da,t):=by
 have hw:∀ c∈t,ig c=true:=by
  simp only[al,and_eq_true] at h;exact qvf 0 t h.2
 have dc:=qgg h;obtain ⟨h1,h2⟩:=qcr hw dc hr;rw[h1];unfold ge;rw[h2,if_neg (by simp[dc]),if_neg ?_,if_pos h]
 rintro (rfl|rfl)
 · exact absurd h (by decide)
 · exact absurd h (by decide)
theorem a1c{r:List UInt8}(hr:dm r=0):tkr (48::r)=([48],[48]):=by
 have hw:∀ c∈[(48:UInt8)],ig c=true:=by simp;decide
 obtain ⟨h1,h2⟩:=qcr hw (by simp) hr
 simp only[cons_append,nil_append] at h1 h2;rw[h1];unfold ge;rw[h2];simp
theorem auf{r:List UInt8}(hr:dm r=0):tkr (49::r)=([49],[49]):=by
 have hw:∀ c∈[(49:UInt8)],ig c=true:=by simp;decide
 obtain ⟨h1,h2⟩:=qcr hw (by simp) hr
 simp only[cons_append,nil_append] at h1 h2;rw[h1];unfold ge;rw[h2];simp
def Job.to(q:Nat):Job→Job
 | .lev L _=>.lev L q
 | .loop L _ acc b=>.loop L q acc b
theorem qaz{s:List UInt8}{j:Job}{r:yh}(h:Ps s j r){q:Nat}(hq:skp s q=skp s j.pos):Ps s (j.to q) r:=by
 have ht:∀ {p},skp s q=skp s p→tk s q=tk s p:=fun e=>by unfold tk;rw[e]
 have hn:∀ {p},skp s q=skp s p→nxt s q=nxt s p:=fun e=>by unfold nxt;rw[e,ht e]
 induction h with
 | @name p h=>have:=Ps.name (s:=s) (p:=q) (by rw[ht hq];exact h);rwa [ht hq,hn hq] at this
 | @zero p h=>have:=Ps.zero (s:=s) (p:=q) (by rw[ht hq];exact h);rwa [hn hq] at this
 | @one p h=>have:=Ps.one (s:=s) (p:=q) (by rw[ht hq];exact h);rwa [hn hq] at this
 | @not p f u b h a _=>exact Ps.not (p:=q) (by rw[ht hq];exact h) (by rw[hn hq];exact a)
 | @notE p e h a _=>exact Ps.notE (p:=q) (by rw[ht hq];exact h) (by rw[hn hq];exact a)
 | @par p f u b h a h2 _=>exact Ps.par (p:=q) (by rw[ht hq];exact h) (by rw[hn hq];exact a) h2
 | @parN p f u b h a h2 _=>exact Ps.parN (p:=q) (by rw[ht hq];exact h) (by rw[hn hq];exact a) h2
 | @parE p e h a _=>exact Ps.parE (p:=q) (by rw[ht hq];exact h) (by rw[hn hq];exact a)
 | @none p h1 h2 h3 h4 h5=>have:=Ps.none (s:=s) (p:=q) (by rw[ht hq];exact h1) (by rw[ht hq];exact h2) (by rw[ht hq];exact h3) (by rw[ht hq];exact h4) (by rw[ht hq];exact h5);rwa [hq] at this
 | one1 hL a h ih=>exact .one1 hL (ih hq) h
 | manyE hL a ih=>exact .manyE hL (ih hq)
 | many hL a h c iha ihc=>exact .many hL (iha hq) h c
 | loopE hL a ih=>exact .loopE hL (ih hq)
 | loop1 hL a h ih=>exact .loop1 hL (ih hq) h
 | loop2 hL a h c iha ihc=>exact .loop2 hL (iha hq) h c
 | imp1 a h ih=>exact .imp1 (ih hq) h
 | impE a ih=>exact .impE (ih hq)
 | imp2 a h c iha ihc=>exact .imp2 (iha hq) h c
 | imp2E a h c iha ihc=>exact .imp2E (iha hq) h c
 | iff1 a h ih=>exact .iff1 (ih hq) h
 | iffE a ih=>exact .iffE (ih hq)
 | iff2 a h c iha ihc=>exact .iff2 (iha hq) h c
 | iff2E a h c iha ihc=>exact .iff2E (iha hq) h c
def nv(L:Nat)(K:List UInt8):Prop:=(0<L→K≠[38])∧(1<L→K≠[124])∧(2<L→K≠mg)∧(3<L→K≠l6)
theorem nv.le{L L':Nat}{K:List UInt8}(h:nv L' K)(hl:L≤L'):nv L K:=⟨fun a=>h.1 (by omega),fun a=>h.2.1 (by omega),fun a=>h.2.2.1 (by omega),fun a=>h.2.2.2 (by omega)⟩
theorem atw{s:List UInt8}{p q:Nat}{f:F}{b:Bool}{L:Nat}(h:Ps s (.lev L p) (.ok f q b)):∀ d:Nat,L+d≤4→nv (L+d) (tk s q).1→Ps s (.lev (L+d) p) (.ok f q b):=by
 intro d
 induction d with
 | zero=>intro _ _;exact h
 | succ d ih=>
  intro hl hs;have h1:=ih (by omega) (hs.le (by omega))
  obtain ⟨s1,s2,s3,s4⟩:=hs;have e:L+(d+1)=(L+d)+1:=by omega
  rw[e];generalize hk:L+d=k at *
  match k,hl,h1 with
  | 0,_,h1=>exact .one1 (by omega) h1 (s1 (by omega))
  | 1,_,h1=>exact .one1 (by omega) h1 (s2 (by omega))
  | 2,_,h1=>exact .imp1 h1 (s3 (by omega))
  | 3,_,h1=>exact .iff1 h1 (s4 (by omega))
  | k+4,hl,_=>omega
theorem qmi{s:List UInt8}{p q:Nat}{f:F}{b:Bool}{L L':Nat}(h:Ps s (.lev L p) (.ok f q b))(hl:L≤L')(h4:L'≤4)(hs:nv L' (tk s q).1):Ps s (.lev L' p) (.ok f q b):=by
 obtain ⟨d,rfl⟩:∃ d,L' = L+d:=⟨L'-L,by omega⟩
 exact atw h d h4 hs
def lvl(f:F):Nat:=if f.op == 8 then 4 else if f.op == 7 then 3 else if f.op == 6 then 2 else if f.op == 5 then 1 else 0
theorem qfs(f:F):ew f=5-(lvl f:Int):=by
 unfold ew lvl
 by_cases h8:f.op == 8
 · simp only[h8,if_true];rfl
 by_cases h7:f.op == 7
 · simp only[h8,h7,if_true];rfl
 by_cases h6:f.op == 6
 · simp only[h8,h7,h6,if_true];rfl
 by_cases h5:f.op == 5
 · simp only[h8,h7,h6,h5,if_true];rfl
 simp only[h8,h7,h6,h5];rfl
theorem ai4(f:F):lvl f≤4:=by
 unfold lvl
 split
 · omega
 split
 · omega
 split
 · omega
 split<;>omega
def cp(least:Int)(g:F):List UInt8:=if ew g<least then [40]++F.text g++[41] else F.text g
theorem qbj(o:Int)(i:Nat)(g:F):F.piece o i g=(if i=0 then [] else iw o)++cp (ib o i) g:=by
 unfold F.piece cp;rcases Nat.eq_zero_or_pos i with rfl|h
 · simp
 · have h1:((i:Int)>0):=by omega
   have h2:i≠0:=by omega
   simp[h2]
def ac3(f:F):Prop:=∀ (s:List UInt8) (p:Nat) (r:List UInt8),s.drop p=F.text f++r→dm r=0→nv (lvl f) (tkr r).1→Ps s (.lev (lvl f) p) (.ok f (p+(F.text f).length) false)
theorem qgf{s:List UInt8}{p:Nat}{t r:List UInt8}(h:s.drop p=t++r):s.drop (p+t.length)=r:=by
 rw[← drop_drop,h];simp
theorem qoo{s:List UInt8}{p:Nat}{c:UInt8}{l K t:List UInt8}(h:s.drop p=c::l)(hc:(c.toNat:Int)≠32)(ht:tkr (c::l)=(K,t)):(tk s p).1=K∧(tk s p).2=t∧nxt s p=p+t.length:=by
 have:tk s p=(K,t):=by rw[abe,h,ht]
 refine ⟨by rw[this],by rw[this],?_⟩
 unfold nxt;rw[aim h hc,this]
theorem qxa{s:List UInt8}{p:Nat}{c:UInt8}{l K t:List UInt8}(h:s.drop p=32::c::l)(hc:(c.toNat:Int)≠32)(ht:tkr (c::l)=(K,t)):(tk s p).1=K∧(tk s p).2=t∧nxt s p=p+1+t.length:=by
 have h1:s.drop (p+1)=c::l:=by rw[← drop_drop,h];rfl
 have:tk s p=(K,t):=by rw[abe,h,qts,ht]
 refine ⟨by rw[this],by rw[this],?_⟩
 unfold nxt;rw[qru h,aim h1 hc,this]
theorem qdl{g:F}(hb:ac3 g){s:List UInt8}{p:Nat}{r:List UInt8}{L:Nat}(hL:L≤4)(h:s.drop p=cp (5-(L:Int)) g++r)(hr:dm r=0)(hs:nv L (tkr r).1) :
 Ps s (.lev L p) (.ok g (p+(cp (5-(L:Int)) g).length) false):=by
 have om:=qfs g;unfold cp at h ⊢
 split at h
 · rename_i cf;rw[if_pos cf];simp only[cons_append,nil_append,append_assoc] at h;obtain ⟨k1,k2,k3⟩:=qoo h (by decide) (aqe _)
   have h1:s.drop (p+1)=F.text g++(41::r):=by rw[← drop_drop,h];rfl
   have k4:=hb s (p+1) (41::r) h1 (wl0 _ (by decide)) (by rw[alu];exact ⟨fun _=>by simp,fun _=>by simp,fun _=>by simp[mg],fun _=>by simp[l6]⟩)
   have h2:=qgf h1;obtain ⟨j1,j2,j3⟩:=qoo h2 (by decide) (alu _)
   have k5:=qmi k4 (ai4 g) (Nat.le_refl _) (by rw[j1];exact ⟨fun _=>by simp,fun _=>by simp,fun _=>by simp[mg],fun _=>by simp[l6]⟩)
   have k6:Ps s (.lev 0 p) _:=.par k1 (by rw[k3];exact k5) j1
   rw[j3] at k6;have e:p+1+(F.text g).length+[(41:UInt8)].length=p+([40]++F.text g++[41]).length:=by simp;omega
   rw[e] at k6;refine qmi k6 (Nat.zero_le _) hL ?_;have h3:s.drop (p+([40]++F.text g++[41]).length)=r:=qgf (by rw[h];simp)
   rw[abe,h3];exact hs
 · rename_i ue;rw[if_neg ue];have hl:lvl g≤L:=by omega
   have k:=hb s p r h hr (hs.le hl);refine qmi k hl hL ?_;rw[abe,qgf h];exact hs
theorem aq9(L:Nat)(hL:L<2):∀ (gs:List F) (s:List UInt8) (p:Nat) (acc:List F) (g:F) (r:List UInt8) (i:Nat),(∀ x∈g::gs,ac3 x)→s.drop p=cp (5-(L:Int)) g++(F.texts (opL L) (i+1) gs++r)→dm r=0→nv (L+1) (tkr r).1→acc.length+1+gs.length≤6→
 Ps s (.loop L p acc false) (.ok (F.mk (opL L) [] (acc++(g::gs))) (p+(cp (5-(L:Int)) g++F.texts (opL L) (i+1) gs).length) false):=by
 intro gs
 induction gs with
 | nil=>
  intro s p acc g r i hb h hr hs an;simp only[F.texts,nil_append,List.append_nil] at h ⊢;have k:=qdl (hb g (by simp)) (by omega) h hr (hs.le (by omega))
  have hd:=qgf h
  have hn:(tk s (p+(cp (5-(L:Int)) g).length)).1≠lz L:=by
   rw[abe,hd]
   match L,hL with
   | 0,_=>exact hs.1 (by omega)
   | 1,_=>exact hs.2.1 (by omega)
  have:=Ps.loop1 (acc:=acc) (b:=false) hL k hn;have e:((false || false) || decide (acc.length+1>6))=false:=by simp at an ⊢;omega
  rw[e] at this;exact this
 | cons g2 gs ih=>
  intro s p acc g r i hb h hr hs an
  have hn:ib (opL L) ((i+1:Nat):Int)=5-(L:Int):=by
   match L,hL with
   | 0,_=>rfl
   | 1,_=>rfl
  rw[F.texts_cons,qbj,if_neg (by omega),hn] at h ⊢
  have hd:=qgf h;simp only[append_assoc] at hd h
  obtain ⟨c,hw⟩:∃ c:UInt8,iw (opL L)=[32,c,32]∧lz L=[c]∧(c.toNat:Int)≠32∧∀ r,tkr (c::r)=([c],[c]):=by
   match L,hL with
   | 0,_=>exact ⟨38,rfl,rfl,by decide,akr⟩
   | 1,_=>exact ⟨124,rfl,rfl,by decide,aj0⟩
  obtain ⟨w1,w2,w3,w4⟩:=hw;rw[w1] at hd h ⊢;simp only[cons_append,nil_append] at hd h;obtain ⟨k1,k2,k3⟩:=qxa hd w3 (w4 _);have ze:tkr (32::c::32::(cp (5-(L:Int)) g2++(F.texts (opL L) (i+1+1) gs++r)))=([c],[c]):=by rw[qts,w4]
  have k:=qdl (hb g (by simp)) (by omega) h (wl0 _ (by decide)) (by
   rw[ze]
   match L,hL,w2 with
   | 0,_,_=>exact ⟨fun a=>by omega,fun a=>by omega,fun a=>by omega,fun a=>by omega⟩
   | 1,_,w2=>
    obtain rfl:(124:UInt8)=c:=by simpa [lz] using w2
    exact ⟨fun _=>by simp,fun a=>by omega,fun a=>by omega,fun a=>by omega⟩)
  have h2:s.drop (p+(cp (5-(L:Int)) g).length+1+1)=32::(cp (5-(L:Int)) g2++(F.texts (opL L) (i+1+1) gs++r)):=by
   rw[Nat.add_assoc,← drop_drop,hd];rfl
  have h3:s.drop (p+(cp (5-(L:Int)) g).length+1+1+1)=cp (5-(L:Int)) g2++(F.texts (opL L) (i+1+1) gs++r):=by
   rw[← drop_drop,h2];rfl
  have kk:=ih s _ (acc++[g]) g2 r (i+1) (fun x hx=>hb x (by simp at hx ⊢;exact .inr hx)) h3 hr hs (by simp at an ⊢;omega)
  have hq:skp s (p+(cp (5-(L:Int)) g).length+1+1)=skp s (p+(cp (5-(L:Int)) g).length+1+1+1):=qru h2;have k7:=qaz kk (q:=p+(cp (5-(L:Int)) g).length+1+1) hq;have k8:=Ps.loop2 (acc:=acc) (b:=false) hL k (by rw[k1,w2]) (by rw[k3];exact k7)
  have e1:acc++[g]++g2::gs=acc++g::g2::gs:=by simp
  have e2:p+(cp (5-(L:Int)) g).length+1+1+1+(cp (5-(L:Int)) g2++F.texts (opL L) (i+1+1) gs).length=p+(cp (5-(L:Int)) g++([32,c,32]++cp (5-(L:Int)) g2++F.texts (opL L) (i+1+1) gs)).length:=by simp;omega
  rw[e1,e2] at k8;exact k8
theorem qgq(o:Int)(g:F)(gs:List F):F.texts o 0 (g::gs)=cp (ib o 0) g++F.texts o 1 gs:=by
 rw[F.texts_cons,qbj,if_pos rfl];rfl
theorem ant(L:Nat)(hL:L<2)(g g2:F)(gs:List F)(hb:∀ x∈g::g2::gs,ac3 x)(an:2+gs.length≤6){s:List UInt8}{p:Nat}{r:List UInt8}(h:s.drop p=F.texts (opL L) 0 (g::g2::gs)++r)(hr:dm r=0)(hs:nv (L+1) (tkr r).1) :
 Ps s (.lev (L+1) p) (.ok (F.mk (opL L) [] (g::g2::gs)) (p+(F.texts (opL L) 0 (g::g2::gs)).length) false):=by
 have hn:∀ i:Nat,ib (opL L) (i:Int)=5-(L:Int):=by
  intro i
  match L,hL with
  | 0,_=>rfl
  | 1,_=>rfl
 obtain ⟨c,w1,w2,w3,w4⟩:∃ c:UInt8,iw (opL L)=[32,c,32]∧lz L=[c]∧(c.toNat:Int)≠32∧∀ r,tkr (c::r)=([c],[c]):=by
  match L,hL with
  | 0,_=>exact ⟨38,rfl,rfl,by decide,akr⟩
  | 1,_=>exact ⟨124,rfl,rfl,by decide,aj0⟩
 have hn0:=hn 0;have hn1:=hn 1;rw[qgq,F.texts_cons,qbj,if_neg (by omega),w1] at h ⊢
 simp only[Int.natCast_zero,Int.natCast_one] at hn0 hn1;simp only[Int.natCast_one] at h ⊢;rw[hn0,hn1] at h ⊢;have hd:=qgf (t:=cp (5-(L:Int)) g) (by rw[h,append_assoc])
 simp only[cons_append,nil_append,append_assoc] at hd h;obtain ⟨k1,k2,k3⟩:=qxa hd w3 (w4 _);have ze:tkr (32::c::32::(cp (5-(L:Int)) g2++(F.texts (opL L) (1+1) gs++r)))=([c],[c]):=by rw[qts,w4]
 have k:=qdl (hb g (by simp)) (by omega) h (wl0 _ (by decide)) (by
  rw[ze]
  match L,hL,w2 with
  | 0,_,_=>exact ⟨fun a=>by omega,fun a=>by omega,fun a=>by omega,fun a=>by omega⟩
  | 1,_,w2=>
   obtain rfl:(124:UInt8)=c:=by simpa [lz] using w2
   exact ⟨fun _=>by simp,fun a=>by omega,fun a=>by omega,fun a=>by omega⟩)
 have h2:s.drop (p+(cp (5-(L:Int)) g).length+1+1)=32::(cp (5-(L:Int)) g2++(F.texts (opL L) (1+1) gs++r)):=by
  rw[Nat.add_assoc,← drop_drop,hd];rfl
 have h3:s.drop (p+(cp (5-(L:Int)) g).length+1+1+1)=cp (5-(L:Int)) g2++(F.texts (opL L) (1+1) gs++r):=by
  rw[← drop_drop,h2];rfl
 have kk:=aq9 L hL gs s _ [g] g2 r 1 (fun x hx=>hb x (by simp at hx ⊢;exact .inr hx)) h3 hr hs (by simp;omega)
 have k7:=qaz kk (q:=p+(cp (5-(L:Int)) g).length+1+1) (qru h2);have k8:=Ps.many hL k (by rw[k1,w2]) (by rw[k3];exact k7)
 have e2:p+(cp (5-(L:Int)) g).length+1+1+1+(cp (5-(L:Int)) g2++F.texts (opL L) (1+1) gs).length=p+(cp (5-(L:Int)) g++([32,c,32]++cp (5-(L:Int)) g2++F.texts (opL L) (1+1) gs)).length:=by simp;omega
 rw[e2] at k8;exact k8
theorem ayw{o:Int}{n:List UInt8}{a:List F}(h:good (F.mk o n a)=true):be (F.mk o n a)=true∧named (F.mk o n a)=true∧∀ g∈a,good g=true:=(qsp _).1 h
theorem aio(r:List UInt8):dm (32::r)=0:=wl0 r (by decide)
theorem ap3(K:List UInt8):nv 0 K:=⟨fun h=>by omega,fun h=>by omega,fun h=>by omega,fun h=>by omega⟩
theorem a0j:∀ n:Nat,∀ f:F,f.size≤n→good f=true→ac3 f:=by
 intro n
 induction n with
 | zero=>intro f h;have:=F.size_pos f;omega
 | succ n ih=>
  intro f hs hg;obtain ⟨o,nm,a⟩:=f;obtain ⟨hc,hn,ha⟩:=ayw hg
  have hb:∀ g∈a,ac3 g:=fun g hm=>by
   obtain ⟨i,hi,rfl⟩:=List.getElem_of_mem hm;have:=F.size_arg (F.mk o nm a) i hi;exact ih _ (by simp only[F.args] at this;omega) (ha _ hm)
  have z8:o=1∨o=2∨o=3∨o=4∨o=5∨o=6∨o=7∨o=8:=by
   simp only[be,F.op] at hc
   by_cases h1:o=1;· exact .inl h1
   by_cases h2:o=2;· exact .inr (.inl h2)
   by_cases h3:o=3;· exact .inr (.inr (.inl h3))
   by_cases h4:o=4;· simp[h4]
   by_cases h5:o=5;· simp[h5]
   by_cases h6:o=6;· simp[h6]
   by_cases h7:o=7;· simp[h7]
   by_cases h8:o=8;· simp[h8]
   simp[h1,h2,h3,h4,h5,h6,h7,h8] at hc
  intro s p r h hr om;rcases z8 with rfl|rfl|rfl|rfl|rfl|rfl|rfl|rfl
  · have h0:a=[]:=by simpa [be,F.op,F.args] using hc
    have h1:nm=[]:=by simpa [named,F.op,F.name] using hn
    subst h0 h1;have ht:F.text (F.mk 1 [] [])=[49]:=rfl;rw[ht] at h ⊢;obtain ⟨k1,k2,k3⟩:=qoo h (by decide) (auf hr)
    have:=Ps.one k1;rw[k3] at this;exact this
  · have h0:a=[]:=by simpa [be,F.op,F.args] using hc
    have h1:nm=[]:=by simpa [named,F.op,F.name] using hn
    subst h0 h1;have ht:F.text (F.mk 2 [] [])=[48]:=rfl;rw[ht] at h ⊢;obtain ⟨k1,k2,k3⟩:=qoo h (by decide) (a1c hr)
    have:=Ps.zero k1;rw[k3] at this;exact this
  · have h0:a=[]:=by simpa [be,F.op,F.args] using hc
    have h1:al nm=true:=by simpa [named,F.op,F.name] using hn
    subst h0;have ht:F.text (F.mk 3 nm [])=nm:=by simp[F.text,F.texts,cm]
    rw[ht] at h ⊢;have hw:=aze h1 hr;obtain ⟨c,l,rfl⟩:=List.exists_cons_of_ne_nil (qgg h1)
    have kr:(c.toNat:Int)≠32:=by
     simp only[al,and_eq_true] at h1;have h2:=qvf 0 _ h1.2 c (by simp)
     intro e;unfold ig at h2;rw[e] at h2;exact absurd h2 (by decide)
    obtain ⟨k1,k2,k3⟩:=qoo h kr hw;have:=Ps.name k1;rw[k3,k2] at this;exact this
  · have h1:nm=[]:=by simpa [named,F.op,F.name] using hn
    subst h1
    obtain ⟨g,rfl⟩:∃ g,a=[g]:=by
     have:a.length=1:=by simp[be,F.op,F.args] at hc;omega
     exact List.length_eq_one_iff.1 this
    have ht:F.text (F.mk 4 [] [g])=126::cp 5 g:=by
     rw[F.text_eq]
     show cm 4 []++F.texts 4 0 [g]=_
     rw[qgq];simp[cm,F.texts,ib]
    rw[ht] at h ⊢;rw[cons_append] at h;obtain ⟨k1,k2,k3⟩:=qoo h (by decide) (a5c _)
    have h2:s.drop (p+1)=cp (5-((0:Nat):Int)) g++r:=by rw[← drop_drop,h];rfl
    have k:=qdl (L:=0) (hb g (by simp)) (by omega) h2 hr (ap3 _)
    have k4:=Ps.not k1 (by rw[k3];exact k)
    have e:p+1+(cp (5-((0:Nat):Int)) g).length=p+(126::cp 5 g).length:=by simp;omega
    rw[e] at k4;exact k4
  · have h1:nm=[]:=by simpa [named,F.op,F.name] using hn
    subst h1
    have hl:2≤a.length∧a.length≤6:=by
     have hc':(decide ((a.length:Int)≥2)&&decide ((a.length:Int)≤6))=true:=hc;simp only[and_eq_true,decide_eq_true_eq] at hc';omega
    obtain ⟨g,g2,gs,rfl⟩:∃ g g2 gs,a=g::g2::gs:=by
     match a,hl with
     | g::g2::gs,_=>exact ⟨g,g2,gs,rfl⟩
    have ht:F.text (F.mk 5 [] (g::g2::gs))=F.texts (opL 0) 0 (g::g2::gs):=by rw[F.text_eq];rfl
    rw[ht] at h ⊢;exact ant 0 (by omega) g g2 gs hb (by simp at hl;omega) h hr om
  · have h1:nm=[]:=by simpa [named,F.op,F.name] using hn
    subst h1
    have hl:2≤a.length∧a.length≤6:=by
     have hc':(decide ((a.length:Int)≥2)&&decide ((a.length:Int)≤6))=true:=hc;simp only[and_eq_true,decide_eq_true_eq] at hc';omega
    obtain ⟨g,g2,gs,rfl⟩:∃ g g2 gs,a=g::g2::gs:=by
     match a,hl with
     | g::g2::gs,_=>exact ⟨g,g2,gs,rfl⟩
    have ht:F.text (F.mk 6 [] (g::g2::gs))=F.texts (opL 1) 0 (g::g2::gs):=by rw[F.text_eq];rfl
    rw[ht] at h ⊢;exact ant 1 (by omega) g g2 gs hb (by simp at hl;omega) h hr om
  · have h1:nm=[]:=by simpa [named,F.op,F.name] using hn
    subst h1;have hl:a.length=2:=by simp[be,F.op,F.args] at hc;omega
    obtain ⟨g,g2,rfl⟩:∃ g g2,a=[g,g2]:=by
     match a,hl with
     | [g,g2],_=>exact ⟨g,g2,rfl⟩
    have ht:F.text (F.mk 7 [] [g,g2])=cp 3 g++(32::45::62::32::cp 2 g2):=by
     rw[F.text_eq]
     show cm 7 []++F.texts 7 0 [g,g2]=_
     rw[qgq,F.texts_cons,qbj];simp[cm,F.texts,ib,iw]
    rw[ht] at h ⊢;rw[append_assoc] at h;have hd:=qgf h;simp only[cons_append] at hd h;obtain ⟨k1,k2,k3⟩:=qxa hd (by decide) (aki _)
    have k:=qdl (L:=2) (hb g (by simp)) (by omega) h (aio _) (by
     rw[qts,aki];exact ⟨fun _=>by simp[mg],fun _=>by simp[mg],fun a=>by omega,fun a=>by omega⟩)
    have h2:s.drop (p+(cp 3 g).length+1+2)=32::(cp 2 g2++r):=by
     rw[Nat.add_assoc,← drop_drop,hd];rfl
    have h3:s.drop (p+(cp 3 g).length+1+2+1)=cp (5-((3:Nat):Int)) g2++r:=by
     rw[← drop_drop,h2];rfl
    have kk:=qdl (L:=3) (hb g2 (by simp)) (by omega) h3 hr (om.le (by simp[lvl,F.op]))
    have k7:=qaz kk (q:=p+(cp 3 g).length+1+2) (qru h2);have k8:=Ps.imp2 (f:=g) (q:=p+(cp 3 g).length) k k1 (by rw[k3];exact k7)
    have e2:p+(cp 3 g).length+1+2+1+(cp (5-((3:Nat):Int)) g2).length=p+(cp 3 g++(32::45::62::32::cp 2 g2)).length:=by simp;omega
    rw[e2] at k8;exact k8
  · have h1:nm=[]:=by simpa [named,F.op,F.name] using hn
    subst h1;have hl:a.length=2:=by simp[be,F.op,F.args] at hc;omega
    obtain ⟨g,g2,rfl⟩:∃ g g2,a=[g,g2]:=by
     match a,hl with
     | [g,g2],_=>exact ⟨g,g2,rfl⟩
    have ht:F.text (F.mk 8 [] [g,g2])=cp 2 g++(32::60::45::62::32::cp 2 g2):=by
     rw[F.text_eq]
     show cm 8 []++F.texts 8 0 [g,g2]=_
     rw[qgq,F.texts_cons,qbj];simp[cm,F.texts,ib,iw]
    rw[ht] at h ⊢;rw[append_assoc] at h;have hd:=qgf h;simp only[cons_append] at hd h;obtain ⟨k1,k2,k3⟩:=qxa hd (by decide) (ag0 _)
    have k:=qdl (L:=3) (hb g (by simp)) (by omega) h (aio _) (by
     rw[qts,ag0];exact ⟨fun _=>by simp[l6],fun _=>by simp[l6],fun a=>by simp[l6,mg],fun a=>by omega⟩)
    have h2:s.drop (p+(cp 2 g).length+1+3)=32::(cp 2 g2++r):=by
     rw[Nat.add_assoc,← drop_drop,hd];rfl
    have h3:s.drop (p+(cp 2 g).length+1+3+1)=cp (5-((3:Nat):Int)) g2++r:=by
     rw[← drop_drop,h2];rfl
    have kk:=qdl (L:=3) (hb g2 (by simp)) (by omega) h3 hr (om.le (by simp[lvl,F.op]))
    have k7:=qaz kk (q:=p+(cp 2 g).length+1+3) (qru h2);have k8:=Ps.iff2 (f:=g) (q:=p+(cp 2 g).length) k k1 (by rw[k3];exact k7)
    have e2:p+(cp 2 g).length+1+3+1+(cp (5-((3:Nat):Int)) g2).length=p+(cp 2 g++(32::60::45::62::32::cp 2 g2)).length:=by simp;omega
    rw[e2] at k8;exact k8
theorem qna(L:Nat):nv L (tkr []).1:=by
 have:tkr []=([],[]):=rfl;rw[this];exact ⟨fun _=>by simp,fun _=>by simp,fun _=>by simp[mg],fun _=>by simp[l6]⟩
theorem akh(s:List UInt8):tk s s.length=([],[]):=by
 rw[abe,List.drop_length];rfl
theorem a6g{f:F}(hg:good f=true):Ps (F.text f) (.lev 4 0) (.ok f (F.text f).length false):=by
 have k:=a0j f.size f (Nat.le_refl _) hg (F.text f) 0 [] (by simp) rfl (qna _)
 rw[Nat.zero_add] at k;refine qmi k (ai4 f) (Nat.le_refl _) ?_;rw[akh];exact qna 4
end Am
