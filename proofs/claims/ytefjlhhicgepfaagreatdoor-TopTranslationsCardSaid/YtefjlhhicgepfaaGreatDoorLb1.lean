/- Lemmas. -/
import Derived.Test.YtefjlhhicgepfaaGreatDoorSb3
set_option linter.unusedSimpArgs false
set_option linter.unusedVariables false
set_option linter.unusedSectionVars false
open List (append_assoc cons_append drop_zero getElem?_cons_zero map map_cons map_nil nil_append)
namespace Go.Proofs.YtefjlhhicgepfaaGreatDoor
open Go Am
set_option maxRecDepth 100000
theorem a26(l:List Int)(at_:Nat)(hl:l.length≤2000)(ha:at_≤l.length):∃ (x:Int) (b:Nat),b≤l.length∧run tb 49 [ab l,.int .i64 at_]=some [.int .i64 x,ab l,.int .i64 b]:=by
 have e3:IntKind.i64.wrap (at_:Int)=(at_:Int):=wr (by omega) (by omega)
 by_cases h:at_<l.length
 · refine ⟨l[at_],at_+1,by omega,qh (x:=ir49) rfl ?_⟩
   have e1:IntKind.i64.wrap ((at_:Int)+1)=(at_:Int)+1:=wr (by omega) (by omega)
   have hd:decide (l.length≤at_)=false:=by simp;omega
   simp[ir49,den,PO.eval,SA.val,one1,ac,ab,ie,go_sem,e1,e3,hd,h]
 · refine ⟨0,at_,ha,qh (x:=ir49) rfl ?_⟩;have hd:decide (l.length≤at_)=true:=by simp;omega
   simp[ir49,den,PO.eval,SA.val,one1,ac,ab,go_sem,hd]
theorem ash(x n:Int)(h0:1≤n)(h1:n<4611686018427387904):∃ r:Int,0≤r∧r<n∧run tb 50 [.int .i64 x,.int .i64 n]=some [.int .i64 r]:=by
 have a1:-n<Int.tmod x n:=Int.lt_tmod_of_pos x (by omega)
 have a2:Int.tmod x n<n:=Int.tmod_lt_of_pos x (by omega)
 have hn:n≠0:=by omega
 have hn1:¬ n<1:=by omega
 have hw:IntKind.i64.wrap (Int.tmod x n)=Int.tmod x n:=wr (by omega) (by omega)
 by_cases h:Int.tmod x n<0
 · refine ⟨Int.tmod x n+n,by omega,by omega,qh (x:=ir50) rfl ?_⟩
   have tq:IntKind.i64.wrap (Int.tmod x n+n)=Int.tmod x n+n:=wr (by omega) (by omega)
   simp[ir50,ir50p0,den,PO.eval,SA.val,one1,ac,hn,hn1,h,tq,go_sem]
 · refine ⟨Int.tmod x n,by omega,by omega,qh (x:=ir50) rfl ?_⟩
   simp[ir50,ir50p0,den,PO.eval,SA.val,one1,ac,hn,hn1,h,go_sem]
theorem aly(n:Int)(l:List Int)(at_:Nat)(hl:l.length≤2000)(ha:at_≤l.length)(h0:1≤n)(h1:n<4611686018427387904) :
 ∃ (r:Int) (b:Nat),0≤r∧r<n∧b≤l.length∧run tb 17 [.int .i64 n,ab l,.int .i64 at_]=some [.int .i64 r,ab l,.int .i64 b]:=by
 obtain ⟨x,b,hb,hr⟩:=a26 l at_ hl ha;obtain ⟨r,r0,r1,hm⟩:=ash x n h0 h1;refine ⟨r,b,r0,r1,hb,qh (x:=ir17) rfl ?_⟩;simp[ir17,den,SA.val,hr,hm]
theorem a3p(l:List Int):∃ l':List Int,l'.length≤2000∧run tb 1 [ab l]=some [ab l',.int .i64 0]:=by
 refine ⟨l.take (min l.length 2000),by simp;omega,qh (x:=ir1) rfl ?_⟩
 by_cases h:(2000:Int)<l.length
 · have h2:(2000:Int)≤l.length:=by omega
   have h3:min l.length 2000=2000:=by omega
   simp[ir1,den,PO.eval,SA.val,ab,ie,h,h3,h2]
 · have h3:min l.length 2000=l.length:=by omega
   have h4:List.take l.length (map ie l)=map ie l:=List.take_of_length_le (by simp)
   have h5:∀ x,x∈l→(ie x).length=1:=fun x _=>rfl
   simp only[ir1,den,PO.eval,SA.val,ab];simp[h,h3,h4];rw[if_pos h5];rfl
theorem qly(f:F):run tb 100 f.enc=some [.bool (be f)]:=by
 refine qh (x:=ir100) rfl ?_;obtain ⟨o,s,a⟩:=f;have hl:(F.encs a).length=a.length:=F.encs_len a;simp only[F.enc,be,F.op,F.args];simp[ir100,ir100p0,ir100p1,ir100p2,qyd,qyc,qzg,qvd,qqc,qpb,qre,qad,PO.eval,SA.val,one1,ac,go_sem,hl]
 by_cases h1:o=1
 · simp[h1]
 by_cases h2:o=2
 · simp[h2]
 by_cases h3:o=3
 · simp[h3]
 by_cases h4:o=4
 · simp[h4]
 by_cases h5:o=5
 · by_cases h:2≤(a.length:Int)<;>simp[h5,h]
   exact decide_eq_decide.mpr Iff.rfl
 by_cases h6:o=6
 · by_cases h:2≤(a.length:Int)<;>simp[h6,h]
   exact decide_eq_decide.mpr Iff.rfl
 by_cases h7:o=7
 · simp[h7]
 by_cases h8:o=8<;>simp[h1,h2,h3,h4,h5,h6,h7,h8]
theorem qsf(s:List UInt8):run tb 59 [.str s]=some [.bool (al s)]:=by
 refine qh (x:=ir59) rfl ?_
 by_cases h0:s.length=0
 · have:s=[]:=List.length_eq_zero_iff.1 h0;subst this;simp[ir59,ir59p4,qyd,qyc,qzg,qvd,qqc,qpb,qre,qad,qjn,qzc,qnf,qdg,ac,qae,al]
 by_cases h1:(s.length:Int)>12
 · have h0':¬ (s.length:Int)=0:=by omega
   simp[ir59,ir59p4,qyd,qyc,qzg,qvd,qqc,qpb,qre,qad,qjn,qzc,qnf,qdg,ac,qae,al,h1]
 have h0':¬ (s.length:Int)=0:=by omega
 have h1':decide ((s.length:Int)>12)=false:=by simpa using h1
 have h0b:((s.length:Int) == 0)=false:=by simpa using h0'
 have key:=qih (run:=run tb) (body:=ir59p3) (e:=[.str s,.bool false,.int .i64 s.length]) (J:=[])
  (fun i:Nat=>s.length-i) (fun i=>i≤s.length) (fun i=>[.int .i64 i]) (fun i=>[.bool (d7 i (s.drop i))]) (by
  intro i L hp hL
  by_cases hi:i<s.length
  · have cf:(i:Int)<s.length:=by omega
    have abv:PO.eval .idxS [.str s,.int .i64 i]=some [.int .u8 s[i].toNat]:=al5 (by omega) (by simp[hi])
    have hw:IntKind.i64.wrap ((i:Int)+1)=((i+1:Nat):Int):=by rw[wr (by omega) (by omega)];omega
    have ah:=hL (i+1) (by omega) (by omega)
    rw[qw s i hi];simp only[ir59p3,ir59p2,ir59p1,ir59p0,qyd,qyc,qzg,qvd,qqc,qpb,qre,qad,qnf,qdg,map_cons,map_nil,qcg,qtg,cons_append,nil_append,append_assoc,qzc,ac,qae,cf,decide_true,if_true,abv,getElem?_cons_zero,List.getElem?_cons_succ,hw,ce,ah]
    by_cases c1:(s[i].toNat:Int)≥97<;>by_cases c2:(s[i].toNat:Int)≤122<;>by_cases c3:0<i<;>by_cases c4:(s[i].toNat:Int)≥48<;>by_cases c5:(s[i].toNat:Int)≤57<;>by_cases c6:(s[i].toNat:Int)=95<;>simp[c1,c2,c3,c4,c5,c6]
  · have hd:s.drop i=[]:=List.drop_eq_nil_of_le (by omega)
    have cf:¬ (i:Int)<s.length:=by omega
    simp[ir59p3,qyd,qyc,qzg,qvd,qqc,qpb,qre,qnf,qdg,qzc,ac,qae,cf,hd,d7])
 have hk:=key 0 (by omega)
 simp only[ir59,ir59p4,qyd,qyc,qzg,qvd,qqc,qvl,qpb,qre,qad,qjn,qzc,qnf,qdg,ac,qae,al,map_cons,map_nil,qcg,qtg,cons_append,nil_append,getElem?_cons_zero,h0b,h1',if_true,Bool.false_eq_true,if_false,Bool.or_self,Bool.not_false,Bool.true_and];exact hk
theorem a0y(n:Nat)(hn:n<4611686018427387904):∀ f:F,f.size≤n→run tb 84 f.enc=some [.bool (F.allF be f)]:=by
 induction n with
 | zero=>intro f hf;have:=F.size_pos f;omega
 | succ n ih=>
  intro f hf;have hc:=qly f;rw[F.enc_eq] at hc ⊢;refine qh (x:=ir84) rfl ?_;have hl:(F.encs f.args).length=f.args.length:=F.encs_len f.args
  have an:f.args.length<4611686018427387904:=by
   have h1:=F.sizes_len f.args;have h2:=F.size_eq f;omega
  simp only[ir84,qyd,qyc,qqc,qvl,qch,qpb,qre,qnf,qdg,map_cons,map_nil,qcg,qtg,cons_append,nil_append,append_assoc,hc,qrj,abo,aUn,qae,qkd,hl];cases hcf:be f with
  | false=>simp[F.allF_eq,hcf]
  | true=>
   simp only[Bool.not_true,Bool.false_eq_true,if_false]
   have key:=qih (run:=run tb) (body:=ir84p0) (e:=[.int .i64 f.op,.str f.name,.sl (F.encs f.args),.bool true,.bool false,.int .i64 f.args.length]) (J:=[])
    (fun i:Nat=>f.args.length-i) (fun i=>i≤f.args.length) (fun i=>[.int .i64 i]) (fun i=>[.bool (F.allFs be (f.args.drop i))]) (by
    intro i L hp hL
    by_cases bn:i<f.args.length
    · have cf:(i:Int)<f.args.length:=by omega
      have hg:=ih (by omega) (f.args[i]) (by have:=F.size_arg f i bn;omega)
      rw[F.enc_eq] at hg;have ak:PO.eval (.row 3) [.sl (F.encs f.args),.int .i64 i]=some [.int .i64 f.args[i].op,.str f.args[i].name,.sl (F.encs f.args[i].args)]:=qpg (by omega) (by simpa [F.enc_eq] using F.encs_get f.args i bn) rfl
      have hd:f.args.drop i=f.args[i]::f.args.drop (i+1):=List.drop_eq_getElem_cons bn;have hw:IntKind.i64.wrap ((i:Int)+1)=((i+1:Nat):Int):=by rw[wr (by omega) (by omega)];omega
      have ah:=hL (i+1) (by omega) (by omega)
      rw[hd];simp only[F.allFs];simp only[ir84p0,qyd,qyc,qvd,qqc,qch,qpb,qre,qnf,qdg,map_cons,map_nil,qcg,qtg,cons_append,nil_append,append_assoc,qzc,ac,qae,cf,decide_true,if_true,ak,hg,qrj,abo,aUn];cases ha:F.allF be f.args[i] with
      | false=>simp
      | true=>
       simp only[Bool.not_true,Bool.false_eq_true,if_false,getElem?_cons_zero,qad,hw,Bool.true_and];exact ah
    · have hd:f.args.drop i=[]:=List.drop_eq_nil_of_le (by omega)
      have cf:¬ (i:Int)<f.args.length:=by omega
      simp[ir84p0,qyd,qyc,qqc,qpb,qre,qnf,qdg,qzc,ac,qae,cf,hd,F.allFs])
   have:=key 0 (by omega)
   simp only[drop_zero] at this;rw[F.allF_eq,hcf,Bool.true_and];exact this
theorem av3(f:F):run tb 101 f.enc=some [.bool (named f)]:=by
 refine qh (x:=ir101) rfl ?_;obtain ⟨o,s,a⟩:=f;simp only[F.enc,named,F.op,F.name];have hv:=qsf s;simp only[ir101,qyd,qyc,qqc,qch,qpb,qre,qnf,qdg,map_cons,map_nil,qcg,qtg,cons_append,nil_append,qzc,qpr,ac,qae,if_true,hv,qrj]
 by_cases h3:o=3
 · simp[h3]
 · simp[h3]
theorem a3t(n:Nat)(hn:n<4611686018427387904):∀ f:F,f.size≤n→run tb 85 f.enc=some [.bool (F.allF named f)]:=by
 induction n with
 | zero=>intro f hf;have:=F.size_pos f;omega
 | succ n ih=>
  intro f hf;have hc:=av3 f;rw[F.enc_eq] at hc ⊢;refine qh (x:=ir85) rfl ?_;have hl:(F.encs f.args).length=f.args.length:=F.encs_len f.args
  have an:f.args.length<4611686018427387904:=by
   have h1:=F.sizes_len f.args;have h2:=F.size_eq f;omega
  simp only[ir85,qyd,qyc,qqc,qvl,qch,qpb,qre,qnf,qdg,map_cons,map_nil,qcg,qtg,cons_append,nil_append,append_assoc,hc,qrj,abo,aUn,qae,qkd,hl];cases hcf:named f with
  | false=>simp[F.allF_eq,hcf]
  | true=>
   simp only[Bool.not_true,Bool.false_eq_true,if_false]
   have key:=qih (run:=run tb) (body:=ir85p0) (e:=[.int .i64 f.op,.str f.name,.sl (F.encs f.args),.bool true,.bool false,.int .i64 f.args.length]) (J:=[])
    (fun i:Nat=>f.args.length-i) (fun i=>i≤f.args.length) (fun i=>[.int .i64 i]) (fun i=>[.bool (F.allFs named (f.args.drop i))]) (by
    intro i L hp hL
    by_cases bn:i<f.args.length
    · have cf:(i:Int)<f.args.length:=by omega
      have hg:=ih (by omega) (f.args[i]) (by have:=F.size_arg f i bn;omega)
      rw[F.enc_eq] at hg;have ak:PO.eval (.row 3) [.sl (F.encs f.args),.int .i64 i]=some [.int .i64 f.args[i].op,.str f.args[i].name,.sl (F.encs f.args[i].args)]:=qpg (by omega) (by simpa [F.enc_eq] using F.encs_get f.args i bn) rfl
      have hd:f.args.drop i=f.args[i]::f.args.drop (i+1):=List.drop_eq_getElem_cons bn;have hw:IntKind.i64.wrap ((i:Int)+1)=((i+1:Nat):Int):=by rw[wr (by omega) (by omega)];omega
      have ah:=hL (i+1) (by omega) (by omega)
      rw[hd];simp only[F.allFs];simp only[ir85p0,qyd,qyc,qvd,qqc,qch,qpb,qre,qnf,qdg,map_cons,map_nil,qcg,qtg,cons_append,nil_append,append_assoc,qzc,ac,qae,cf,decide_true,if_true,ak,hg,qrj,abo,aUn];cases ha:F.allF named f.args[i] with
      | false=>simp
      | true=>
       simp only[Bool.not_true,Bool.false_eq_true,if_false,getElem?_cons_zero,qad,hw,Bool.true_and];exact ah
    · have hd:f.args.drop i=[]:=List.drop_eq_nil_of_le (by omega)
      have cf:¬ (i:Int)<f.args.length:=by omega
      simp[ir85p0,qyd,qyc,qqc,qpb,qre,qnf,qdg,qzc,ac,qae,cf,hd,F.allFs])
   have:=key 0 (by omega)
   simp only[drop_zero] at this;rw[F.allF_eq,hcf,Bool.true_and];exact this
theorem qqu(ys:List (List UInt8))(s:List UInt8)(hl:ys.length<4611686018427387904):run tb 86 [af ys,.str s]=some [.int .i64 (p9 s 0 ys)]:=by
 refine qh (x:=ir86) rfl ?_
 have key:=qih (run:=run tb) (body:=ir86p0) (e:=[af ys,.str s,.int .i64 ys.length]) (J:=[])
  (fun i:Nat=>ys.length-i) (fun i=>i≤ys.length) (fun i=>[.int .i64 i]) (fun i=>[.int .i64 (p9 s i (ys.drop i))]) (by
  intro i L hp hL
  by_cases hi:i<ys.length
  · have cf:(i:Int)<ys.length:=by omega
    have ak:PO.eval (.row 1) [af ys,.int .i64 i]=some [.str ys[i]]:=qmj hi;have hw:IntKind.i64.wrap ((i:Int)+1)=((i+1:Nat):Int):=by rw[wr (by omega) (by omega)];omega
    have ah:=hL (i+1) (by omega) (by omega)
    have hd:ys.drop i=ys[i]::ys.drop (i+1):=List.drop_eq_getElem_cons hi;rw[hd];simp only[p9];simp only[ir86p0,qyd,qyc,qvd,qqc,qpb,qre,qad,qnf,qdg,map_cons,map_nil,qcg,qtg,cons_append,nil_append,append_assoc,qzc,qpr,ac,qae,cf,decide_true,if_true,ak,getElem?_cons_zero,hw,ah]
    by_cases h:s=ys[i]<;>simp[h]
  · have hd:ys.drop i=[]:=List.drop_eq_nil_of_le (by omega)
    have cf:¬ (i:Int)<ys.length:=by omega
    simp[ir86p0,qyd,qyc,qvd,qqc,qpb,qre,qnf,qdg,qzc,ac,qae,cf,hd,p9])
 have hk:=key 0 (by omega)
 have an:PO.eval .lenL [af ys]=some [.int .i64 ys.length]:=qac ys;simp only[ir86,qyd,qvl,qpb,qnf,qdg,map_cons,map_nil,qcg,cons_append,nil_append,an];exact hk
theorem qas(ys:List (List UInt8))(s:List UInt8)(hl:ys.length<4611686018427387904):run tb 62 [af ys,.str s]=some [.bool (ys.contains s)]:=by
 refine qh (x:=ir62) rfl ?_;have h:=qqu ys s hl;simp only[ir62,qyd,qch,qqc,qpb,qnf,qdg,map_cons,map_nil,qcg,qtg,cons_append,nil_append,h,qrj,qzc,ac,qae,if_true];rw[← qez s ys 0]
abbrev opsD:D:=.sl [[.int .i64 4],[.int .i64 4],[.int .i64 5],[.int .i64 5],[.int .i64 6],[.int .i64 6],[.int .i64 7],[.int .i64 8]]
variable {R:Nat→PF}{e:Env}{J:List PF}
theorem qmp:∀ (f:F),f.size<1000000000→run tb 26 (aj f)=some [.int .i64 f.size]:=by
 refine qxh fun f ih hs=>?_
 refine qh (x:=ir26) rfl ?_;have hla:=F.sizes_len f.args;have hse:=F.size_eq f
 have key:=qu (run:=run tb) (body:=ir26p0) (e:=aj f++[.int .i64 f.args.length]) (J:=[]) (σ:=Nat) f.args.length
  (fun i n=>n=1+F.sizes (f.args.take i)) (fun i n=>[.int .i64 n,.int .i64 i]) (fun _ _=>[.int .i64 f.size])
  (by
   rintro i n L hi hn hL;have hm:f.args[i]∈f.args:=List.getElem_mem hi;have h1:=qar hm;have h2:=F.sizes_take f.args i hi;have h3:=F.sizes_take_le f.args (i+1);have hr:=ih _ hm (by omega)
   have hadd:IntKind.i64.wrap ((n:Int)+(f.args[i].size:Int))=((n+f.args[i].size:Nat):Int):=by rw[wr (n:=(n:Int)+(f.args[i].size:Int)) (by omega) (by omega)];omega
   have ah:=hL (n+f.args[i].size) (by omega)
   simp only[aj] at hr;simp (disch:=omega) only[ir26p0,aj,qe,qf,eq_self,ac,reduceIte,hi,qfl,hr,hadd,wr,bz,ah])
  (by
   rintro n L hn;have hr:f.size=n:=by rw[List.take_length] at hn;omega
   rw[hr];simp (disch:=omega) only[ir26p0,aj,qe,qf,eq_self,ac,reduceIte,Nat.lt_irrefl])
 have hk:=key 0 1 (by omega) (by simp[F.sizes])
 simp only[aj,Int.cast_ofNat_Int,cons_append,nil_append] at hk;simp only[ir26,aj,qe,qf,eq_self,hk]
theorem qem:∀ (f:F),f.size<1000000000→run tb 27 (aj f)=some [.int .i64 f.depth]:=by
 refine qxh fun f ih hs=>?_
 refine qh (x:=ir27) rfl ?_;have hla:=F.sizes_len f.args;have hse:=F.size_eq f
 have key:=qu (run:=run tb) (body:=ir27p0) (e:=aj f++[.int .i64 f.args.length]) (J:=[]) (σ:=Nat) f.args.length
  (fun i n=>n=F.depths (f.args.take i)) (fun i n=>[.int .i64 n,.int .i64 i]) (fun _ _=>[.int .i64 f.depth])
  (by
   rintro i n L hi hn hL;have hm:f.args[i]∈f.args:=List.getElem_mem hi;have h1:=qar hm;have h2:=F.depths_take f.args i hi;have h3:=F.depth_size f.args[i];have hr:=ih _ hm (by omega)
   have hadd:IntKind.i64.wrap (1+(f.args[i].depth:Int))=((1+f.args[i].depth:Nat):Int):=by rw[wr (n:=1+(f.args[i].depth:Int)) (by omega) (by omega)];omega
   have agc:(if n<1+f.args[i].depth then ((1+f.args[i].depth:Nat):Int) else (n:Int))=((max n (1+f.args[i].depth):Nat):Int):=by split<;>omega
   have ah:=hL (max n (1+f.args[i].depth)) (by omega)
   simp only[aj] at hr;simp (disch:=omega) only[ir27p0,aj,qe,qf,eq_self,ac,reduceIte,hi,qfl,hr,hadd,agc,wr,bz,ah])
  (by
   rintro n L hn;have hr:f.depth=n:=by rw[List.take_length] at hn;rw[F.depth_eq];omega
   rw[hr];simp (disch:=omega) only[ir27p0,aj,qe,qf,eq_self,ac,reduceIte,Nat.lt_irrefl])
 have hk:=key 0 0 (by omega) (by simp[F.depths])
 simp only[aj,rt,cons_append,nil_append] at hk;simp only[ir27,aj,qe,qf,eq_self,hk]
theorem qom(s:List UInt8)(hs:s.length<9223372036854775808):run tb 77 [.str s]=some [.bool (al s)]:=by
 refine qh (x:=ir77) rfl ?_;cases s with
 | nil=>
  simp only[ir77,ir77p2,qe,qf,eq_self,ac,reduceIte,Int.reduceLT,List.length_nil,show al []=false from rfl]
 | cons c l=>
  rw[qdo];have h1:¬ (((c::l).length:Nat):Int)<1:=by simp;omega
  have mp:0<(c::l).length:=by simp
  by_cases hl:(c::l).length≤12
  · have h2:¬ (((c::l).length:Nat):Int)>12:=by omega
    have key:=qu (run:=run tb) (body:=ir77p1) (e:=[.str (c::l),.bool false]) (J:=[]) (σ:=Unit) (c::l).length
     (fun _ _=>True) (fun i _=>[.int .i64 i]) (fun i _=>[.bool (((c::l).drop i).all okc)])
     (by
      rintro i _ L hi _ hL;have ah:=hL () trivial;rw[qbg hi,List.all_cons];generalize hd:((c::l).drop (i+1)).all okc=b at ah;generalize (c::l)=s at *;unfold okc;generalize hx:(s[i].toNat:Int)=x
      by_cases a1:x<97<;>by_cases a2:x>122<;>by_cases a3:x<48<;>by_cases a4:x>57<;>by_cases a5:x=95<;>first|omega|skip
      all_goals
       simp (disch:=omega) only[ir77p1,ir77p0,qe,qf,eq_self,ac,reduceIte,Int.reduceLT,Int.reduceLE,Int.reduceGT,hi,abl,hx,bw,a1,a2,a3,a4,a5,wr,bz,ah,show (97≤x) = ¬ (x<97) by simp,show (x≤122) = ¬ (x>122) by simp,show (48≤x) = ¬ (x<48) by simp,show (x≤57) = ¬ (x>57) by simp,not_true_eq_false,not_false_eq_true,Bool.or_self])
     (by
      rintro _ L _;rw[List.drop_length];simp (disch:=omega) only[ir77p1,qe,qf,eq_self,ac,reduceIte,Nat.lt_irrefl,List.all_nil])
    have hk:=key 0 () (by omega) trivial
    simp only[rt,drop_zero] at hk;have hc:(c::l)[0]=c:=rfl
    by_cases a1:(c.toNat:Int)<97
    · simp (disch:=omega) only[ir77,ir77p2,qe,qf,eq_self,ac,reduceIte,h1,h2,ago,hc,a1,hl,show (97≤(c.toNat:Int))=False by simp;omega]
    · by_cases a2:(c.toNat:Int)>122
      · simp (disch:=omega) only[ir77,ir77p2,qe,qf,eq_self,ac,reduceIte,h1,h2,ago,hc,a1,a2,hl,show ((c.toNat:Int)≤122)=False by simp;omega]
      · simp (disch:=omega) only[ir77,ir77p2,qe,qf,eq_self,ac,reduceIte,h1,h2,ago,hc,a1,a2,hl,hk,show (97≤(c.toNat:Int))=True by simp;omega,show ((c.toNat:Int)≤122)=True by simp;omega]
  · have h2:(((c::l).length:Nat):Int)>12:=by omega
    simp only[ir77,ir77p2,qe,qf,eq_self,ac,reduceIte,h1,h2,hl]
theorem aw4(f:F):be f=if f.op=1∨f.op=2∨f.op=3 then decide (f.args.length=0) else if f.op=4 then decide (f.args.length=1) else if f.op=5∨f.op=6 then (decide (2≤f.args.length)&&decide (f.args.length≤6)) else if f.op=7∨f.op=8 then decide (f.args.length=2) else false:=by
 unfold be;simp only[abc,Bool.or_eq_true,decide_eq_true_eq,or_assoc,ge_iff_le];have e0:((f.args.length:Int)=0)=(f.args.length=0):=propext ⟨fun h=>by omega,fun h=>by omega⟩
 have e1:((f.args.length:Int)=1)=(f.args.length=1):=propext ⟨fun h=>by omega,fun h=>by omega⟩
 have e2:((f.args.length:Int)=2)=(f.args.length=2):=propext ⟨fun h=>by omega,fun h=>by omega⟩
 have e3:(2≤(f.args.length:Int))=(2≤f.args.length):=propext ⟨fun h=>by omega,fun h=>by omega⟩
 have e4:((f.args.length:Int)≤6)=(f.args.length≤6):=propext ⟨fun h=>by omega,fun h=>by omega⟩
 simp only[e0,e1,e2,e3,e4]
theorem aws(f:F)(hs:f.size<1000000000):run tb 84 (aj f)=some [.bool (F.allF be f)]:=by
 have:=a0y f.size (by omega) f (Nat.le_refl _)
 rwa [F.enc_eq] at this
theorem a37(f:F)(hs:f.size<1000000000):run tb 85 (aj f)=some [.bool (F.allF named f)]:=by
 have:=a3t f.size (by omega) f (Nat.le_refl _)
 rwa [F.enc_eq] at this
theorem qeo(f:F)(hs:f.size<1000000000):run tb 60 (aj f)=some [.int .i64 (ca f)]:=by
 refine qh (x:=ir60) rfl ?_;have h1:=qmp f hs;have h2:=qem f hs;have h3:=aws f hs;have h4:=a37 f hs;simp only[aj] at h1 h2 h3 h4;unfold ca
 by_cases a:(f.size:Int)>600
 · simp only[ir60,ir60p0,aj,qe,qf,eq_self,ac,reduceIte,h1,a]
 by_cases b:(f.depth:Int)>20
 · simp only[ir60,ir60p0,aj,qe,qf,eq_self,ac,reduceIte,h1,h2,a,b]
 cases c:F.allF be f<;>cases d:F.allF named f <;>
 · rw[c] at h3;rw[d] at h4;simp only[ir60,ir60p0,aj,qe,qf,eq_self,ac,reduceIte,h1,h2,h3,h4,a,b]
end Go.Proofs.YtefjlhhicgepfaaGreatDoor
