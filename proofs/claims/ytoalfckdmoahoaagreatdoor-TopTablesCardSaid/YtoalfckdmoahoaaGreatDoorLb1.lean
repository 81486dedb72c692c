/- What functions of the program compute: lemmas. -/
import Derived.Test.YtoalfckdmoahoaaGreatDoorSb3
import Derived.Test.YtoalfckdmoahoaaGreatDoorAm4
set_option linter.unusedSimpArgs false
set_option linter.unusedVariables false
set_option linter.unusedSectionVars false
namespace Go.Proofs.YtoalfckdmoahoaaGreatDoor
open Go Am
set_option maxRecDepth 100000
theorem qkvb (l:List Int) (at_:Nat) (hl:l.length≤2000) (ha:at_≤l.length):∃ (x:Int) (b:Nat),b≤l.length∧run tb 15 [numsD l,.int .i64 at_]=some [.int .i64 x,numsD l,.int .i64 b]:=by
 have e3:IntKind.i64.wrap (at_:Int)=(at_:Int):=wr (by omega) (by omega)
 by_cases h:at_<l.length
 · refine ⟨l[at_],at_+1,by omega,qg (x:=ir15) rfl ?_⟩
   have e1:IntKind.i64.wrap ((at_:Int)+1)=(at_:Int)+1:=wr (by omega) (by omega)
   have hd:decide (l.length≤at_)=false:=by simp;omega
   simp[ir15,den,PO.eval,SA.val,one1,aBin,numsD,numR,go_sem,e1,e3,hd,h]
 · refine ⟨0,at_,ha,qg (x:=ir15) rfl ?_⟩;have hd:decide (l.length≤at_)=true:=by simp;omega
   simp[ir15,den,PO.eval,SA.val,one1,aBin,numsD,go_sem,hd]
theorem qbtb (x n:Int) (h0:1≤n) (h1:n<4611686018427387904):∃ r:Int,0≤r∧r<n∧run tb 16 [.int .i64 x,.int .i64 n]=some [.int .i64 r]:=by
 have a1:-n<Int.tmod x n:=Int.lt_tmod_of_pos x (by omega)
 have a2:Int.tmod x n<n:=Int.tmod_lt_of_pos x (by omega)
 have hn:n≠0:=by omega
 have hn1:¬ n<1:=by omega
 have hw:IntKind.i64.wrap (Int.tmod x n)=Int.tmod x n:=wr (by omega) (by omega)
 by_cases h:Int.tmod x n<0
 · refine ⟨Int.tmod x n+n,by omega,by omega,qg (x:=ir16) rfl ?_⟩
   have hw2:IntKind.i64.wrap (Int.tmod x n+n)=Int.tmod x n+n:=wr (by omega) (by omega)
   simp[ir16,ir16p0,den,PO.eval,SA.val,one1,aBin,hn,hn1,h,hw2,go_sem]
 · refine ⟨Int.tmod x n,by omega,by omega,qg (x:=ir16) rfl ?_⟩
   simp[ir16,ir16p0,den,PO.eval,SA.val,one1,aBin,hn,hn1,h,go_sem]
theorem qiwb (n:Int) (l:List Int) (at_:Nat) (hl:l.length≤2000) (ha:at_≤l.length) (h0:1≤n) (h1:n<4611686018427387904) :
 ∃ (r:Int) (b:Nat),0≤r∧r<n∧b≤l.length∧run tb 4 [.int .i64 n,numsD l,.int .i64 at_]=some [.int .i64 r,numsD l,.int .i64 b]:=by
 obtain ⟨x,b,hb,hr⟩:=qkvb l at_ hl ha;obtain ⟨r,r0,r1,hm⟩:=qbtb x n h0 h1;refine ⟨r,b,r0,r1,hb,qg (x:=ir4) rfl ?_⟩;simp[ir4,den,SA.val,hr,hm]
theorem qgvb (l:List Int):∃ l':List Int,l'.length≤2000∧run tb 1 [numsD l]=some [numsD l',.int .i64 0]:=by
 refine ⟨l.take (min l.length 2000),by simp;omega,qg (x:=ir1) rfl ?_⟩
 by_cases h:(2000:Int)<l.length
 · have h2:(2000:Int)≤l.length:=by omega
   have h3:min l.length 2000=2000:=by omega
   simp[ir1,den,PO.eval,SA.val,numsD,numR,h,h3,h2]
 · have h3:min l.length 2000=l.length:=by omega
   have h4:List.take l.length (List.map numR l)=List.map numR l:=List.take_of_length_le (by simp)
   have h5:∀ x,x∈l→(numR x).length=1:=fun x _=>rfl
   simp only[ir1,den,PO.eval,SA.val,numsD];simp[h,h3,h4];rw[if_pos h5];rfl
theorem qmu (f:F):run tb 80 f.enc=some [.bool (counted f)]:=by
 refine qg (x:=ir80) rfl ?_;obtain ⟨o,s,a⟩:=f;have hl:(F.encs a).length=a.length:=F.encs_len a;simp only[F.enc,counted,F.op,F.args];simp[ir80,ir80p0,ir80p1,ir80p2,qod,qjc,qog,qkd,qec,qhb,qje,qmc,PO.eval,SA.val,one1,aBin,go_sem,hl]
 by_cases h1:o=1
 · simp[h1]
 by_cases h2:o=2
 · simp[h2]
 by_cases h3:o=3
 · simp[h3]
 by_cases h4:o=4
 · simp[h4]
 by_cases h5:o=5
 · by_cases h:2≤(a.length:Int)<;>simp[h5,h]
   exact decide_eq_decide.mpr Iff.rfl
 by_cases h6:o=6
 · by_cases h:2≤(a.length:Int)<;>simp[h6,h]
   exact decide_eq_decide.mpr Iff.rfl
 by_cases h7:o=7
 · simp[h7]
 by_cases h8:o=8<;>simp[h1,h2,h3,h4,h5,h6,h7,h8]
theorem qgi (s:List UInt8):run tb 34 [.str s]=some [.bool (validName s)]:=by
 refine qg (x:=ir34) rfl ?_
 by_cases h0:s.length=0
 · have:s=[]:=List.length_eq_zero_iff.1 h0;subst this;simp[ir34,ir34p4,qod,qjc,qog,qkd,qec,qhb,qje,qmc,qdl,qlc,qve,qqf,aBin,qmd,validName]
 by_cases h1:(s.length:Int)>12
 · have h0':¬ (s.length:Int)=0:=by omega
   simp[ir34,ir34p4,qod,qjc,qog,qkd,qec,qhb,qje,qmc,qdl,qlc,qve,qqf,aBin,qmd,validName,h1]
 have h0':¬ (s.length:Int)=0:=by omega
 have h1':decide ((s.length:Int)>12)=false:=by simpa using h1
 have h0b:((s.length:Int) == 0)=false:=by simpa using h0'
 have key:=qzg (run:=run tb) (body:=ir34p3) (e:=[.str s,.bool false,.int .i64 s.length]) (J:=[])
  (fun i:Nat=>s.length-i) (fun i=>i≤s.length) (fun i=>[.int .i64 i]) (fun i=>[.bool (nameFrom i (s.drop i))]) (by
  intro i L hp hL
  by_cases hi:i<s.length
  · have hlt:(i:Int)<s.length:=by omega
    have hidx:PO.eval .idxS [.str s,.int .i64 i]=some [.int .u8 s[i].toNat]:=qjxb (by omega) (by simp[hi])
    have hw:IntKind.i64.wrap ((i:Int)+1)=((i+1:Nat):Int):=by rw[wr (by omega) (by omega)];omega
    have hnext:=hL (i+1) (by omega) (by omega)
    rw[qsp s i hi];simp only[ir34p3,ir34p2,ir34p1,ir34p0,qod,qjc,qog,qkd,qec,qhb,qje,qmc,qve,qqf,List.map_cons,List.map_nil,qof,qkg,List.cons_append,List.nil_append,List.append_assoc,qlc,aBin,qmd,hlt,decide_true,if_true,hidx,List.getElem?_cons_zero,List.getElem?_cons_succ,hw,nameOk,hnext]
    by_cases c1:(s[i].toNat:Int)≥97<;>by_cases c2:(s[i].toNat:Int)≤122<;>by_cases c3:0<i<;>by_cases c4:(s[i].toNat:Int)≥48<;>by_cases c5:(s[i].toNat:Int)≤57<;>by_cases c6:(s[i].toNat:Int)=95<;>simp[c1,c2,c3,c4,c5,c6]
  · have hd:s.drop i=[]:=List.drop_eq_nil_of_le (by omega)
    have hlt:¬ (i:Int)<s.length:=by omega
    simp[ir34p3,qod,qjc,qog,qkd,qec,qhb,qje,qve,qqf,qlc,aBin,qmd,hlt,hd,nameFrom])
 have hk:=key 0 (by omega)
 simp only[ir34,ir34p4,qod,qjc,qog,qkd,qec,qqk,qhb,qje,qmc,qdl,qlc,qve,qqf,aBin,qmd,validName,List.map_cons,List.map_nil,qof,qkg,List.cons_append,List.nil_append,List.getElem?_cons_zero,h0b,h1',if_true,Bool.false_eq_true,if_false,Bool.or_self,Bool.not_false,Bool.true_and];exact hk
theorem qcfb (n:Nat) (hn:n<4611686018427387904):∀ f:F,f.size≤n→run tb 69 f.enc=some [.bool (F.allF counted f)]:=by
 induction n with
 | zero=>intro f hf;have:=F.size_pos f;omega
 | succ n ih=>
  intro f hf;have hc:=qmu f;rw[F.enc_eq] at hc ⊢;refine qg (x:=ir69) rfl ?_;have hl:(F.encs f.args).length=f.args.length:=F.encs_len f.args
  have hlen:f.args.length<4611686018427387904:=by
   have h1:=F.sizes_len f.args;have h2:=F.size_eq f;omega
  simp only[ir69,qod,qjc,qec,qqk,qug,qhb,qje,qve,qqf,List.map_cons,List.map_nil,qof,qkg,List.cons_append,List.nil_append,List.append_assoc,hc,qrj,qva,aUn,qmd,qte,hl];cases hcf:counted f with
  | false=>simp[F.allF_eq,hcf]
  | true=>
   simp only[Bool.not_true,Bool.false_eq_true,if_false]
   have key:=qzg (run:=run tb) (body:=ir69p0) (e:=[.int .i64 f.op,.str f.name,.sl (F.encs f.args),.bool true,.bool false,.int .i64 f.args.length]) (J:=[])
    (fun i:Nat=>f.args.length-i) (fun i=>i≤f.args.length) (fun i=>[.int .i64 i]) (fun i=>[.bool (F.allFs counted (f.args.drop i))]) (by
    intro i L hp hL
    by_cases hi':i<f.args.length
    · have hlt:(i:Int)<f.args.length:=by omega
      have hg:=ih (by omega) (f.args[i]) (by have:=F.size_arg f i hi';omega)
      rw[F.enc_eq] at hg;have hrow:PO.eval (.row 3) [.sl (F.encs f.args),.int .i64 i]=some [.int .i64 f.args[i].op,.str f.args[i].name,.sl (F.encs f.args[i].args)]:=qhk (by omega) (by simpa [F.enc_eq] using F.encs_get f.args i hi') rfl
      have hd:f.args.drop i=f.args[i]::f.args.drop (i+1):=List.drop_eq_getElem_cons hi';have hw:IntKind.i64.wrap ((i:Int)+1)=((i+1:Nat):Int):=by rw[wr (by omega) (by omega)];omega
      have hnext:=hL (i+1) (by omega) (by omega)
      rw[hd];simp only[F.allFs];simp only[ir69p0,qod,qjc,qkd,qec,qug,qhb,qje,qve,qqf,List.map_cons,List.map_nil,qof,qkg,List.cons_append,List.nil_append,List.append_assoc,qlc,aBin,qmd,hlt,decide_true,if_true,hrow,hg,qrj,qva,aUn];cases ha:F.allF counted f.args[i] with
      | false=>simp
      | true=>
       simp only[Bool.not_true,Bool.false_eq_true,if_false,List.getElem?_cons_zero,qmc,hw,Bool.true_and];exact hnext
    · have hd:f.args.drop i=[]:=List.drop_eq_nil_of_le (by omega)
      have hlt:¬ (i:Int)<f.args.length:=by omega
      simp[ir69p0,qod,qjc,qec,qhb,qje,qve,qqf,qlc,aBin,qmd,hlt,hd,F.allFs])
   have:=key 0 (by omega)
   simp only[List.drop_zero] at this;rw[F.allF_eq,hcf,Bool.true_and];exact this
theorem qkkb (f:F):run tb 81 f.enc=some [.bool (named f)]:=by
 refine qg (x:=ir81) rfl ?_;obtain ⟨o,s,a⟩:=f;simp only[F.enc,named,F.op,F.name];have hv:=qgi s;simp only[ir81,qod,qjc,qec,qug,qhb,qje,qve,qqf,List.map_cons,List.map_nil,qof,qkg,List.cons_append,List.nil_append,qlc,qfp,aBin,qmd,if_true,hv,qrj]
 by_cases h3:o=3
 · simp[h3]
 · simp[h3]
theorem qygb (n:Nat) (hn:n<4611686018427387904):∀ f:F,f.size≤n→run tb 70 f.enc=some [.bool (F.allF named f)]:=by
 induction n with
 | zero=>intro f hf;have:=F.size_pos f;omega
 | succ n ih=>
  intro f hf;have hc:=qkkb f;rw[F.enc_eq] at hc ⊢;refine qg (x:=ir70) rfl ?_;have hl:(F.encs f.args).length=f.args.length:=F.encs_len f.args
  have hlen:f.args.length<4611686018427387904:=by
   have h1:=F.sizes_len f.args;have h2:=F.size_eq f;omega
  simp only[ir70,qod,qjc,qec,qqk,qug,qhb,qje,qve,qqf,List.map_cons,List.map_nil,qof,qkg,List.cons_append,List.nil_append,List.append_assoc,hc,qrj,qva,aUn,qmd,qte,hl];cases hcf:named f with
  | false=>simp[F.allF_eq,hcf]
  | true=>
   simp only[Bool.not_true,Bool.false_eq_true,if_false]
   have key:=qzg (run:=run tb) (body:=ir70p0) (e:=[.int .i64 f.op,.str f.name,.sl (F.encs f.args),.bool true,.bool false,.int .i64 f.args.length]) (J:=[])
    (fun i:Nat=>f.args.length-i) (fun i=>i≤f.args.length) (fun i=>[.int .i64 i]) (fun i=>[.bool (F.allFs named (f.args.drop i))]) (by
    intro i L hp hL
    by_cases hi':i<f.args.length
    · have hlt:(i:Int)<f.args.length:=by omega
      have hg:=ih (by omega) (f.args[i]) (by have:=F.size_arg f i hi';omega)
      rw[F.enc_eq] at hg;have hrow:PO.eval (.row 3) [.sl (F.encs f.args),.int .i64 i]=some [.int .i64 f.args[i].op,.str f.args[i].name,.sl (F.encs f.args[i].args)]:=qhk (by omega) (by simpa [F.enc_eq] using F.encs_get f.args i hi') rfl
      have hd:f.args.drop i=f.args[i]::f.args.drop (i+1):=List.drop_eq_getElem_cons hi';have hw:IntKind.i64.wrap ((i:Int)+1)=((i+1:Nat):Int):=by rw[wr (by omega) (by omega)];omega
      have hnext:=hL (i+1) (by omega) (by omega)
      rw[hd];simp only[F.allFs];simp only[ir70p0,qod,qjc,qkd,qec,qug,qhb,qje,qve,qqf,List.map_cons,List.map_nil,qof,qkg,List.cons_append,List.nil_append,List.append_assoc,qlc,aBin,qmd,hlt,decide_true,if_true,hrow,hg,qrj,qva,aUn];cases ha:F.allF named f.args[i] with
      | false=>simp
      | true=>
       simp only[Bool.not_true,Bool.false_eq_true,if_false,List.getElem?_cons_zero,qmc,hw,Bool.true_and];exact hnext
    · have hd:f.args.drop i=[]:=List.drop_eq_nil_of_le (by omega)
      have hlt:¬ (i:Int)<f.args.length:=by omega
      simp[ir70p0,qod,qjc,qec,qhb,qje,qve,qqf,qlc,aBin,qmd,hlt,hd,F.allFs])
   have:=key 0 (by omega)
   simp only[List.drop_zero] at this;rw[F.allF_eq,hcf,Bool.true_and];exact this
theorem qds (ys:List (List UInt8)) (s:List UInt8) (hl:ys.length<4611686018427387904):run tb 71 [strsD ys,.str s]=some [.int .i64 (idxOf s 0 ys)]:=by
 refine qg (x:=ir71) rfl ?_
 have key:=qzg (run:=run tb) (body:=ir71p0) (e:=[strsD ys,.str s,.int .i64 ys.length]) (J:=[])
  (fun i:Nat=>ys.length-i) (fun i=>i≤ys.length) (fun i=>[.int .i64 i]) (fun i=>[.int .i64 (idxOf s i (ys.drop i))]) (by
  intro i L hp hL
  by_cases hi:i<ys.length
  · have hlt:(i:Int)<ys.length:=by omega
    have hrow:PO.eval (.row 1) [strsD ys,.int .i64 i]=some [.str ys[i]]:=qxt hi;have hw:IntKind.i64.wrap ((i:Int)+1)=((i+1:Nat):Int):=by rw[wr (by omega) (by omega)];omega
    have hnext:=hL (i+1) (by omega) (by omega)
    have hd:ys.drop i=ys[i]::ys.drop (i+1):=List.drop_eq_getElem_cons hi;rw[hd];simp only[idxOf];simp only[ir71p0,qod,qjc,qkd,qec,qhb,qje,qmc,qve,qqf,List.map_cons,List.map_nil,qof,qkg,List.cons_append,List.nil_append,List.append_assoc,qlc,qfp,aBin,qmd,hlt,decide_true,if_true,hrow,List.getElem?_cons_zero,hw,hnext]
    by_cases h:s=ys[i]<;>simp[h]
  · have hd:ys.drop i=[]:=List.drop_eq_nil_of_le (by omega)
    have hlt:¬ (i:Int)<ys.length:=by omega
    simp[ir71p0,qod,qjc,qkd,qec,qhb,qje,qve,qqf,qlc,aBin,qmd,hlt,hd,idxOf])
 have hk:=key 0 (by omega)
 have hlen:PO.eval .lenL [strsD ys]=some [.int .i64 ys.length]:=qne ys;simp only[ir71,qod,qqk,qhb,qve,qqf,List.map_cons,List.map_nil,qof,List.cons_append,List.nil_append,hlen];exact hk
theorem qjs (ys:List (List UInt8)) (s:List UInt8) (hl:ys.length<4611686018427387904):run tb 49 [strsD ys,.str s]=some [.bool (ys.contains s)]:=by
 refine qg (x:=ir49) rfl ?_;have h:=qds ys s hl;simp only[ir49,qod,qug,qec,qhb,qve,qqf,List.map_cons,List.map_nil,qof,qkg,List.cons_append,List.nil_append,h,qrj,qlc,aBin,qmd,if_true];rw[← qba s ys 0]
abbrev opsD:D:=.sl [[.int .i64 4],[.int .i64 4],[.int .i64 5],[.int .i64 5],[.int .i64 6],[.int .i64 6],[.int .i64 7],[.int .i64 8]]
variable {R:Nat→PF} {e:Env} {J:List PF}
theorem qebb:∀ (f:F),f.size<1000000000→run tb 67 (rowF f)=some [.int .i64 f.size]:=by
 refine qej fun f ih hs=>?_
 refine qg (x:=ir67) rfl ?_;have hla:=F.sizes_len f.args;have hse:=F.size_eq f
 have key:=qcb (run:=run tb) (body:=ir67p0) (e:=rowF f++[.int .i64 f.args.length]) (J:=[]) (σ:=Nat) f.args.length
  (fun i n=>n=1+F.sizes (f.args.take i)) (fun i n=>[.int .i64 n,.int .i64 i]) (fun _ _=>[.int .i64 f.size])
  (by
   rintro i n L hi hn hL;have hm:f.args[i]∈f.args:=List.getElem_mem hi;have h1:=qhq hm;have h2:=F.sizes_take f.args i hi;have h3:=F.sizes_take_le f.args (i+1);have hr:=ih _ hm (by omega)
   have hadd:IntKind.i64.wrap ((n:Int)+(f.args[i].size:Int))=((n+f.args[i].size:Nat):Int):=by rw[wr (n:=(n:Int)+(f.args[i].size:Int)) (by omega) (by omega)];omega
   have hnext:=hL (n+f.args[i].size) (by omega)
   simp only[rowF] at hr;simp (disch:=omega) only[ir67p0,rowF,qc,qb,eq_self,aBin,reduceIte,hi,qdu,hr,hadd,wr,natS,hnext])
  (by
   rintro n L hn;have hr:f.size=n:=by rw[List.take_length] at hn;omega
   rw[hr];simp (disch:=omega) only[ir67p0,rowF,qc,qb,eq_self,aBin,reduceIte,Nat.lt_irrefl])
 have hk:=key 0 1 (by omega) (by simp[F.sizes])
 simp only[rowF,Int.cast_ofNat_Int,List.cons_append,List.nil_append] at hk;simp only[ir67,rowF,qc,qb,eq_self,hk]
theorem qtv:∀ (f:F),f.size<1000000000→run tb 68 (rowF f)=some [.int .i64 f.depth]:=by
 refine qej fun f ih hs=>?_
 refine qg (x:=ir68) rfl ?_;have hla:=F.sizes_len f.args;have hse:=F.size_eq f
 have key:=qcb (run:=run tb) (body:=ir68p0) (e:=rowF f++[.int .i64 f.args.length]) (J:=[]) (σ:=Nat) f.args.length
  (fun i n=>n=F.depths (f.args.take i)) (fun i n=>[.int .i64 n,.int .i64 i]) (fun _ _=>[.int .i64 f.depth])
  (by
   rintro i n L hi hn hL;have hm:f.args[i]∈f.args:=List.getElem_mem hi;have h1:=qhq hm;have h2:=F.depths_take f.args i hi;have h3:=F.depth_size f.args[i];have hr:=ih _ hm (by omega)
   have hadd:IntKind.i64.wrap (1+(f.args[i].depth:Int))=((1+f.args[i].depth:Nat):Int):=by rw[wr (n:=1+(f.args[i].depth:Int)) (by omega) (by omega)];omega
   have hmax:(if n<1+f.args[i].depth then ((1+f.args[i].depth:Nat):Int) else (n:Int))=((max n (1+f.args[i].depth):Nat):Int):=by split<;>omega
   have hnext:=hL (max n (1+f.args[i].depth)) (by omega)
   simp only[rowF] at hr;simp (disch:=omega) only[ir68p0,rowF,qc,qb,eq_self,aBin,reduceIte,hi,qdu,hr,hadd,hmax,wr,natS,hnext])
  (by
   rintro n L hn;have hr:f.depth=n:=by rw[List.take_length] at hn;rw[F.depth_eq];omega
   rw[hr];simp (disch:=omega) only[ir68p0,rowF,qc,qb,eq_self,aBin,reduceIte,Nat.lt_irrefl])
 have hk:=key 0 0 (by omega) (by simp[F.depths])
 simp only[rowF,nat0,List.cons_append,List.nil_append] at hk;simp only[ir68,rowF,qc,qb,eq_self,hk]
theorem qhdb (f:F):counted f=if f.op=1∨f.op=2∨f.op=3 then decide (f.args.length=0) else if f.op=4 then decide (f.args.length=1) else if f.op=5∨f.op=6 then (decide (2≤f.args.length)&&decide (f.args.length≤6)) else if f.op=7∨f.op=8 then decide (f.args.length=2) else false:=by
 unfold counted;simp only[ibeq,Bool.or_eq_true,decide_eq_true_eq,or_assoc,ge_iff_le];have e0:((f.args.length:Int)=0)=(f.args.length=0):=propext ⟨fun h=>by omega,fun h=>by omega⟩
 have e1:((f.args.length:Int)=1)=(f.args.length=1):=propext ⟨fun h=>by omega,fun h=>by omega⟩
 have e2:((f.args.length:Int)=2)=(f.args.length=2):=propext ⟨fun h=>by omega,fun h=>by omega⟩
 have e3:(2≤(f.args.length:Int))=(2≤f.args.length):=propext ⟨fun h=>by omega,fun h=>by omega⟩
 have e4:((f.args.length:Int)≤6)=(f.args.length≤6):=propext ⟨fun h=>by omega,fun h=>by omega⟩
 simp only[e0,e1,e2,e3,e4]
theorem qzbc (f:F) (hs:f.size<1000000000):run tb 69 (rowF f)=some [.bool (F.allF counted f)]:=by
 have:=qcfb f.size (by omega) f (Nat.le_refl _)
 rwa [F.enc_eq] at this
theorem qkdc (f:F) (hs:f.size<1000000000):run tb 70 (rowF f)=some [.bool (F.allF named f)]:=by
 have:=qygb f.size (by omega) f (Nat.le_refl _)
 rwa [F.enc_eq] at this
theorem qcn (f:F) (hs:f.size<1000000000):run tb 47 (rowF f)=some [.int .i64 (validate f)]:=by
 refine qg (x:=ir47) rfl ?_;have h1:=qebb f hs;have h2:=qtv f hs;have h3:=qzbc f hs;have h4:=qkdc f hs;simp only[rowF] at h1 h2 h3 h4;unfold validate
 by_cases a:(f.size:Int)>600
 · simp only[ir47,ir47p0,rowF,qc,qb,eq_self,aBin,reduceIte,h1,a]
 by_cases b:(f.depth:Int)>20
 · simp only[ir47,ir47p0,rowF,qc,qb,eq_self,aBin,reduceIte,h1,h2,a,b]
 cases c:F.allF counted f<;>cases d:F.allF named f <;>
 · rw[c] at h3;rw[d] at h4;simp only[ir47,ir47p0,rowF,qc,qb,eq_self,aBin,reduceIte,h1,h2,h3,h4,a,b]
end Go.Proofs.YtoalfckdmoahoaaGreatDoor
