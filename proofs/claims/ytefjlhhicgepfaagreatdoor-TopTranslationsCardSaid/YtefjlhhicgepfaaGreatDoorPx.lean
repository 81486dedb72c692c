/- Lemmas. -/
import Derived.Test.YtefjlhhicgepfaaGreatDoorLb1
import Derived.Test.YtefjlhhicgepfaaGreatDoorPs
set_option linter.unusedSimpArgs false
set_option linter.unusedVariables false
set_option linter.unusedSectionVars false
open List (cons_append drop_length length_cons length_nil nil_append)
namespace Go.Proofs.YtefjlhhicgepfaaGreatDoor
open Go Am
set_option maxRecDepth 100000
theorem ahc{s:List UInt8}{a:Nat}(h:a≤s.length):PO.eval .subS [.str s,.int .i64 a,.int .i64 s.length]=some [.str (s.drop a)]:=by
 rw[al4 (by omega) (by omega) (by omega)]
 simp
theorem qzf{s:List UInt8}{b:Nat}(h:b≤s.length):PO.eval .subS [.str s,.int .i64 0,.int .i64 b]=some [.str (s.take b)]:=by
 rw[al4 (by omega) (by omega) (by omega)]
 simp
theorem asx{l:List (List UInt8)}{i:Nat}(h:i<l.length):PO.eval (.get 0 1) [af l,.int .i64 i]=some [.str l[i]]:=by
 simp[PO.eval,af,ij,h]
theorem a1m{l:List (List UInt8)}{i:Nat}(h:i<l.length):PO.eval .chk [af l,.int .i64 i]=some []:=qet (by omega) (by simp;omega)
theorem ao0(c:UInt8):run tb 83 [.int .u8 c.toNat]=some [.bool (ig c)]:=by
 refine qh (x:=ir83) rfl ?_;unfold ig;generalize (c.toNat:Int)=x
 by_cases a1:x≥97<;>by_cases a2:x≤122<;>by_cases a3:x≥65<;>by_cases a4:x≤90<;>by_cases a5:x≥48<;>by_cases a6:x≤57<;>first|omega|skip
 all_goals simp only[ir83,qe,qf,eq_self,ac,reduceIte,a1,a2,a3,a4,a5,a6]
theorem awf(s:List UInt8)(hs:s.length<1000000)(p:Nat)(hp:p≤s.length)(bad:Int)(bf:Bool) :
 run tb 58 [.str s,.int .i64 p,.int .i64 bad,.bool bf]=some [.str (ge (s.drop (skp s p))).1,.str (ge (s.drop (skp s p))).2,.int .i64 (skp s p),.str s,.int .i64 (skp s p),.int .i64 bad,.bool bf]:=by
 refine qh (x:=ir58) rfl ?_;have hsk:=qib hp;generalize hq:skp s p=q at hsk
 have key:=quj (run:=run tb) (body:=ir58p6) (e:=[.str s,.int .i64 p,.int .i64 bad,.bool bf]) (J:=[]) (ι:=Nat) (fun a=>s.length-a)
  (fun a=>a≤s.length∧skp s a=q) (fun a=>[.str s,.int .i64 a,.int .i64 bad,.bool bf]) (fun _=>[.str (ge (s.drop q)).1,.str (ge (s.drop q)).2,.int .i64 q,.str s,.int .i64 q,.int .i64 bad,.bool bf])
  (by
   rintro a L ⟨h1,h2⟩ hL
   have rest:∀ x8:D,a=q→den (run tb) ir58p5 [.str s,.int .i64 p,.int .i64 bad,.bool bf,.str s,.int .i64 a,.int .i64 bad,.bool bf,.bool false] [L]=some [.str (ge (s.drop q)).1,.str (ge (s.drop q)).2,.int .i64 q,.str s,.int .i64 q,.int .i64 bad,.bool bf]:=by
    intro _ haq;subst haq
    by_cases hz:s.drop a=[]
    · have hb:(s.drop a == [])=true:=by simpa using hz
      have wy:a=s.length:=by
       have:=congrArg List.length hz;simp at this;omega
      have ht:ge (s.drop a)=([],[]):=by simp[ge,hz]
      rw[ht];have e00:(([]:List UInt8) == [])=true:=rfl;rw[hz] at hb;have hz':s.drop s.length=[]:=drop_length;simp (disch:=omega) only[ir58p5,qe,qf,eq_self,ac,ahc,wy,hz',e00]
    · have hb:(s.drop a == [])=false:=by simpa using hz
      have vp:(s.drop a).length≤s.length:=by simp
      generalize hr:s.drop a=r at hb hz vp
      have keyC:∀ (x12 x13 x15 x16 x17:D) (M:PF) (t:List UInt8),eo (run tb) ir58p1 [.str s,.int .i64 p,.int .i64 bad,.bool bf,.str s,.int .i64 a,.int .i64 bad,.bool bf,.bool false,.int .i64 s.length,.str r,.bool false,x12,x13,.str t,x15,x16,x17,af syms,.int .i64 7] [L,M] [.int .i64 0] =
       some [.str (match syms.find? (gz r) with|some t=>(t,t)|none=>([63],[])).1,.str (match syms.find? (gz r) with|some t=>(t,t)|none=>([63],[])).2,.int .i64 a,.str s,.int .i64 a,.int .i64 bad,.bool bf]:=by
       intro x12 x13 x15 x16 x17 M t
       have k:=qu (run:=run tb) (body:=ir58p1) (e:=[.str s,.int .i64 p,.int .i64 bad,.bool bf,.str s,.int .i64 a,.int .i64 bad,.bool bf,.bool false,.int .i64 s.length,.str r,.bool false,x12,x13,.str t,x15,x16,x17,af syms,.int .i64 7]) (J:=[L,M]) (σ:=Unit) syms.length
        (fun _ _=>True) (fun i _=>[.int .i64 i]) (fun i _=>[.str (match (syms.drop i).find? (gz r) with|some t=>(t,t)|none=>([63],[])).1,.str (match (syms.drop i).find? (gz r) with|some t=>(t,t)|none=>([63],[])).2,.int .i64 a,.str s,.int .i64 a,.int .i64 bad,.bool bf])
        (by
         rintro i _ N hi _ hN;have ah:=hN () trivial;have hi7:(i:Int)<7:=by have:syms.length=7:=rfl;omega
         have mz:=asx hi;have ac7:=a1m hi
         have m9:syms[i].length≤3:=by
          have hm:=List.getElem_mem hi;generalize syms[i]=y at hm;simp only[syms,List.mem_cons,List.not_mem_nil,or_false] at hm;rcases hm with rfl|rfl|rfl|rfl|rfl|rfl|rfl<;>simp
         rw[qbg hi,List.find?_cons];generalize syms[i]=y at mz m9
         by_cases hl:y.length≤r.length
         · cases o9:(r.take y.length == y) with
           | true=>
            have hok:gz r y=true:=by simp only[gz,hl,o9,decide_true,Bool.and_self]
            simp (disch:=omega) only[ir58p1,ir58p0,qe,qf,eq_self,ac,reduceIte,hi7,ac7,mz,hl,qzf,o9,hok]
           | false=>
            have hok:gz r y=false:=by simp only[gz,o9,Bool.and_false]
            simp (disch:=omega) only[ir58p1,ir58p0,qe,qf,eq_self,ac,reduceIte,hi7,ac7,mz,hl,qzf,o9,hok,wr,bz,ah]
         · have hok:gz r y=false:=by simp only[gz,hl,decide_false,Bool.false_and]
           simp (disch:=omega) only[ir58p1,ir58p0,qe,qf,eq_self,ac,reduceIte,hi7,ac7,mz,hl,hok,wr,bz,ah])
        (by
         rintro _ N _;rw[drop_length];have h7:((syms.length:Nat):Int)=7:=rfl;rw[h7];simp (disch:=omega) only[ir58p1,qe,qf,eq_self,ac,reduceIte,Int.reduceLT,List.find?_nil])
       have h:=k 0 () (by omega) trivial
       simpa only[rt,List.drop_zero,cons_append,nil_append] using h
      have keyB:=qu (run:=run tb) (body:=ir58p4) (e:=[.str s,.int .i64 p,.int .i64 bad,.bool bf,.str s,.int .i64 a,.int .i64 bad,.bool bf,.bool false,.int .i64 s.length,.str r,.bool false]) (J:=[L]) (σ:=Unit) (dm r)
       (fun n _=>n+dm (r.drop n)=dm r) (fun n _=>[.int .i64 n]) (fun _ _=>[.str (ge r).1,.str (ge r).2,.int .i64 a,.str s,.int .i64 a,.int .i64 bad,.bool bf])
       (by
        rintro n _ M hn hw hM;have r4:=qjx r;have hnr:n<r.length:=by omega
        rw[qrs r n hnr] at hw
        by_cases hc:ig r[n]=true
        · rw[if_pos hc] at hw;have ah:=hM () (by omega)
          have ox:=ao0 r[n];rw[hc] at ox;simp (disch:=omega) only[ir58p4,ir58p3,qe,qf,eq_self,ac,reduceIte,hnr,abl,ox,wr,bz,ah]
        · rw[if_neg hc] at hw;omega)
       (by
        rintro _ M hw;have r4:=qjx r;have jg:PO.eval (.mk 1 7) [.str [60,45,62],.str [45,62],.str [126],.str [38],.str [124],.str [40],.str [41]]=some [af syms]:=rfl;have an:PO.eval .lenL [af syms]=some [.int .i64 7]:=rfl
        have word:∀ x13:D,den (run tb) ir58p3 [.str s,.int .i64 p,.int .i64 bad,.bool bf,.str s,.int .i64 a,.int .i64 bad,.bool bf,.bool false,.int .i64 s.length,.str r,.bool false,.int .i64 (dm r),.bool false] [L,M]=some [.str (ge r).1,.str (ge r).2,.int .i64 a,.str s,.int .i64 a,.int .i64 bad,.bool bf]:=by
         intro _;have fo:(r.take (dm r)).length≤1000000:=by simp;omega
         have hv:=qsf (r.take (dm r));unfold ge;rw[if_neg hz]
         by_cases h48:r.take (dm r)=[48]
         · have zb:(([48]:List UInt8) == [48])=true:=rfl;simp (disch:=omega) only[ir58p3,ir58p2,qe,qf,eq_self,ac,qzf,zb,h48,true_or,if_true]
         have zb:(r.take (dm r) == [48])=false:=by simpa using h48
         by_cases h49:r.take (dm r)=[49]
         · have o9:(([49]:List UInt8) == [49])=true:=rfl;have hb3:(([49]:List UInt8) == [48])=false:=rfl;simp (disch:=omega) only[ir58p3,ir58p2,qe,qf,eq_self,ac,qzf,o9,hb3,h49,or_true,if_true]
         have o9:(r.take (dm r) == [49])=false:=by simpa using h49
         rw[if_neg (fun h=>h.elim h48 h49)]
         by_cases ya:al (r.take (dm r))=true
         · rw[ya] at hv;rw[if_pos ya];simp (disch:=omega) only[ir58p3,ir58p2,qe,qf,eq_self,ac,qzf,zb,o9,hv,da]
         have asm:al (r.take (dm r))=false:=by simpa using ya
         rw[asm] at hv;rw[if_neg ya]
         by_cases hw0:0<dm r
         · have yr:((dm r:Nat):Int)>0:=by omega
           rw[if_pos hw0];simp (disch:=omega) only[ir58p3,ir58p2,qe,qf,eq_self,ac,reduceIte,qzf,zb,o9,hv,yr]
         · have yr:¬ ((dm r:Nat):Int)>0:=by omega
           rw[if_neg hw0];simp (disch:=omega) only[ir58p3,ir58p2,qe,qf,eq_self,ac,reduceIte,qzf,zb,o9,hv,yr,jg,an,keyC]<;>rfl
        by_cases hnr:dm r<r.length
        · rw[qrs r _ hnr] at hw
          have hc:ig r[dm r]=false:=by
           cases hc:ig r[dm r] with
           | false=>rfl
           | true=>rw[if_pos hc] at hw;omega
          have ox:=ao0 r[dm r];rw[hc] at ox;simp (disch:=omega) only[ir58p4,qe,qf,eq_self,ac,reduceIte,hnr,abl,ox,word dfl]
        · simp (disch:=omega) only[ir58p4,qe,qf,eq_self,ac,reduceIte,hnr,word dfl])
      have hk:=keyB 0 () (by omega) (by simp)
      simp only[rt] at hk;simp (disch:=omega) only[ir58p5,qe,qf,eq_self,ac,ahc,hr,hb,hk]
   by_cases ha:a<s.length
   · unfold skp at h2;rw[qew s a ha] at h2
     by_cases hc:(s[a].toNat:Int)=32
     · rw[if_pos hc] at h2;have ah:=hL (a+1) ⟨by omega,by unfold skp;omega⟩ (by omega)
       simp (disch:=omega) only[ir58p6,ir58p5,qe,qf,eq_self,ac,reduceIte,ha,abl,hc,wr,bz,ah]
     · rw[if_neg hc] at h2;have hr:=rest dfl (by omega)
       simp (disch:=omega) only[ir58p6,qe,qf,eq_self,ac,reduceIte,ha,abl,hc,hr]
   · have wy:a=s.length:=by omega
     have h3:a=q:=by
      unfold skp at h2;rw[wy,drop_length] at h2;simp[dz] at h2;omega
     have hr:=rest dfl h3;simp (disch:=omega) only[ir58p6,qe,qf,eq_self,ac,reduceIte,ha,hr])
 have hk:=key p ⟨hp,hq⟩;simp only[ir58,qe,qf,eq_self,hk]
abbrev stP(s:List UInt8)(p:Nat)(bad:Int)(bf:Bool):List D:=[.str s,.int .i64 p,.int .i64 bad,.bool bf]
theorem quc(s:List UInt8)(hs:s.length<1000000)(p:Nat)(hp:p≤s.length)(bad:Int)(bf:Bool) :
 run tb 58 (stP s p bad bf)=some [.str (tk s p).1,.str (tk s p).2,.int .i64 (skp s p),.str s,.int .i64 (skp s p),.int .i64 bad,.bool bf]:=awf s hs p hp bad bf
theorem qyf(s:List UInt8)(hs:s.length<1000000)(p:Nat)(hp:p≤s.length)(bad:Int)(bf:Bool)(K:List UInt8)(hb:bad<0)(hk:(tk s p).1=K) :
 run tb 24 (.str K::stP s p bad bf)=some (.bool true::stP s (skp s p+(tk s p).2.length) bad bf):=by
 refine qh (x:=ir24) rfl ?_;have h:=quc s hs p hp bad bf;have h1:¬ bad≥0:=by omega
 have h2:=ajq hp;have hb:((tk s p).1 == K)=true:=by simpa using hk
 have hadd:IntKind.i64.wrap ((skp s p:Int)+((tk s p).2.length:Int))=((skp s p+(tk s p).2.length:Nat):Int):=by rw[wr (n:=(skp s p:Int)+((tk s p).2.length:Int)) (by omega) (by omega)];omega
 simp only[stP] at h;simp only[ir24,ir24p0,stP,qe,qf,eq_self,ac,reduceIte,h,h1,hb,hadd]
theorem qai(s:List UInt8)(hs:s.length<1000000)(p:Nat)(hp:p≤s.length)(bad:Int)(bf:Bool)(K:List UInt8)(hn:0≤bad∨(tk s p).1≠K) :
 run tb 24 (.str K::stP s p bad bf)=some (.bool false::stP s (skp s p) bad bf):=by
 refine qh (x:=ir24) rfl ?_;have h:=quc s hs p hp bad bf;simp only[stP] at h
 by_cases h1:bad≥0
 · simp only[ir24,ir24p0,stP,qe,qf,eq_self,ac,reduceIte,h,h1]
 · have hb : ((tk s p).1 == K) = false := by
    have:(tk s p).1≠K:=hn.elim (fun h=>absurd h h1) id
    simpa using this
   simp only[ir24,ir24p0,stP,qe,qf,eq_self,ac,reduceIte,h,h1,hb]
def noF:F:=F.mk 0 [] []
theorem ahj(s:List UInt8)(hs:s.length<1000000)(p:Nat)(hp:p≤s.length)(bad:Int)(bf:Bool)(hb:bad<0) :
 run tb 25 (stP s p bad bf)=some (aj noF++stP s (skp s p) (skp s p) bf):=by
 refine qh (x:=ir25) rfl ?_;have h:=quc s hs p hp bad bf;simp only[stP] at h;simp only[ir25,ir25p0,stP,qe,qf,eq_self,ac,reduceIte,h,hb,noF,aj,F.op_mk,F.name_mk,F.args_mk,F.encs]
theorem a1b(s:List UInt8)(p:Nat)(bad:Int)(bf:Bool)(hb:¬ bad<0) :
 run tb 25 (stP s p bad bf)=some (aj noF++stP s p bad bf):=by
 refine qh (x:=ir25) rfl ?_;simp only[ir25,ir25p0,stP,qe,qf,eq_self,ac,reduceIte,hb,noF,aj,F.op_mk,F.name_mk,F.args_mk,F.encs]
theorem ado{run:Nat→PF}{body:IR}{e:Env}{J:List PF}{a r:List D}(h:den run body (e++a) (J++[eo run body e J])=some r):eo run body e J a=some r:=afi h
theorem qtc(s:List UInt8)(p:Nat):skp s (skp s p)=skp s p:=by
 have h:∀ l:List UInt8,dz (l.drop (dz l))=0:=by
  intro l
  induction l with
  | nil=>rfl
  | cons c l ih=>
   by_cases hc:(c.toNat:Int)=32
   · rw[dz,if_pos hc];exact ih
   · have h0:dz (c::l)=0:=by rw[dz,if_neg hc]
     rw[h0,List.drop_zero,h0]
 have:=h (s.drop p);rw[List.drop_drop] at this;unfold skp;rw[this];rfl
theorem qrz(s:List UInt8)(p:Nat):tk s (skp s p)=tk s p:=by unfold tk;rw[qtc]
theorem qoh{s:List UInt8}{p q:Nat}(h:skp s p=skp s q):tk s p=tk s q:=by unfold tk;rw[h]
theorem qtk{s:List UInt8}{p q:Nat}(h:skp s p=skp s q):nxt s p=nxt s q:=by unfold nxt;rw[h,qoh h]
theorem agh(s:List UInt8)(hs:s.length<1000000)(q:Nat)(hq:q≤s.length)(bad:Int)(bf:Bool)(acc:List F)(hn:0≤bad∨(tk s q).1≠[38])(x2 x3 x4 x5 x6 x7 x8 x9 x10 x11 x12 x13 x14 x15 x16 x17 x18 x19 x20 x21:D) :
 eo (run tb) ir107p1 [.int .i64 5,.str [38],x2,x3,x4,x5,x6,x7,x8,x9,x10,x11,x12,x13,x14,x15,x16,x17,x18,x19,x20,x21] [] (stP s q bad bf++[.sl (F.encs acc)])=some (aj (F.mk 5 [] acc)++stP s (skp s q) bad (bf || decide (acc.length>6))):=by
 refine ado ?_;have h:=qai s hs q hq bad bf [38] hn;have hl:((F.encs acc).length:Int)=acc.length:=by rw[F.encs_len]
 have hgt:(decide ((acc.length:Int)>6))=decide (acc.length>6):=by
  by_cases h6:acc.length>6
  · simp[h6];omega
  · simp[h6];omega
 simp only[stP] at h;cases bf with
 | true=>simp only[ir107p1,ir107p0,stP,aj,qe,qf,eq_self,h,F.op_mk,F.name_mk,F.args_mk]
 | false=>
  by_cases h6:acc.length>6
  · have h7:((acc.length:Int)>6):=by omega
    simp only[ir107p1,ir107p0,stP,aj,qe,qf,eq_self,ac,reduceIte,h,F.op_mk,F.name_mk,F.args_mk,h6,h7]
  · have h7:¬ ((acc.length:Int)>6):=by omega
    simp only[ir107p1,ir107p0,stP,aj,qe,qf,eq_self,ac,reduceIte,h,F.op_mk,F.name_mk,F.args_mk,h6,h7]
theorem af8(s:List UInt8)(hs:s.length<1000000)(q:Nat)(hq:q≤s.length)(bad:Int)(hb:bad<0)(bf:Bool)(acc:List F)(hk:(tk s q).1=[38])(aeh:acc.length<1000000)(f:F)(q2:Nat)(dt:Int)(cz:Bool)(o:List D)(x2 x3 x4 x5 x6 x7 x8 x9 x10 x11 x12 x13 x14 x15 x16 x17 x18 x19 x20 x21:D)
 (h1:run tb 109 (stP s (nxt s q) bad bf)=some (aj f++stP s q2 dt cz))
 (h2:eo (run tb) ir107p1 [.int .i64 5,.str [38],x2,x3,x4,x5,x6,x7,x8,x9,x10,x11,x12,x13,x14,x15,x16,x17,x18,x19,x20,x21] [] (stP s q2 dt cz++[.sl (F.encs (acc++[f]))])=some o) :
 eo (run tb) ir107p1 [.int .i64 5,.str [38],x2,x3,x4,x5,x6,x7,x8,x9,x10,x11,x12,x13,x14,x15,x16,x17,x18,x19,x20,x21] [] (stP s q bad bf++[.sl (F.encs acc)])=some o:=by
 refine ado ?_;have h:=qyf s hs q hq bad bf [38] hb hk
 have jg:PO.eval (.mk 3 1) [.int .i64 f.op,.str f.name,.sl (F.encs f.args)]=some [.sl (F.encs [f])]:=by
  rw[show F.encs [f]=[F.enc f] from rfl,F.enc_eq];rfl
 have s6:PO.eval (.app 3 48) [.sl (F.encs acc),.sl (F.encs [f])]=some [.sl (F.encs (acc++[f]))]:=by
  have e1:F.encs (acc++[f])=F.encs acc++F.encs [f]:=by simp only[F.encs_map,List.map_append]
  rw[e1];refine qxg ?_ ?_ ?_
  · rw[F.encs_len,F.encs_len];simp;omega
  · rw[F.encs_len,F.encs_len];simp;omega
  · rw[show F.encs [f]=[F.enc f] from rfl,F.enc_eq];rfl
 simp only[stP,aj,cons_append,nil_append] at h h1 h2;unfold nxt at h1;generalize eo (run tb) ir107p1 [.int .i64 5,.str [38],x2,x3,x4,x5,x6,x7,x8,x9,x10,x11,x12,x13,x14,x15,x16,x17,x18,x19,x20,x21] []=M at h2 ⊢;simp only[ir107p1,stP,qe,qf,eq_self,h,h1,jg,s6,h2]
theorem ag3(s:List UInt8)(hs:s.length<1000000)(p:Nat)(bad:Int)(bf:Bool)(f:F)(q:Nat)(hq:q≤s.length)(dt:Int)(cz:Bool)(hk:(tk s q).1≠[38])
 (h1:run tb 109 (stP s p bad bf)=some (aj f++stP s q dt cz)):run tb 105 (stP s p bad bf)=some (aj f++stP s (skp s q) dt cz):=by
 have h2:run tb 107 (.int .i64 5 :: .str [38]::stP s p bad bf)=some (aj f++stP s (skp s q) dt cz):=by
  refine qh (x:=ir107) rfl ?_;have hp:=quc s hs q hq dt cz;have hb:((tk s q).1 == [38])=false:=by simpa using hk
  simp only[stP,aj,cons_append,nil_append] at h1 hp;simp only[ir107,stP,aj,qe,qf,eq_self,ac,h1,hp,hb]
 refine qh (x:=ir105) rfl ?_;simp only[stP,aj,cons_append,nil_append] at h2;simp only[ir105,stP,aj,qe,qf,eq_self,h2]
theorem ajy(s:List UInt8)(hs:s.length<1000000)(p:Nat)(bad:Int)(bf:Bool)(f:F)(q:Nat)(hq:q≤s.length)(dt:Int)(cz:Bool)(hk:(tk s q).1=[38])
 (h1:run tb 109 (stP s p bad bf)=some (aj f++stP s q dt cz)) (g:F) (u:Nat) (bad3:Int) (big3:Bool)
 (h3:eo (run tb) ir107p1 [.int .i64 5,.str [38],.str s,.int .i64 p,.int .i64 bad,.bool bf,.int .i64 f.op,.str f.name,.sl (F.encs f.args),.str s,.int .i64 q,.int .i64 dt,.bool cz,.str (tk s q).1,.str (tk s q).2,.int .i64 (skp s q),.str s,.int .i64 (skp s q),.int .i64 dt,.bool cz,.bool false,.sl (F.encs [f])] [] (stP s (skp s q) dt cz++[.sl (F.encs [f])])=some (aj g++stP s u bad3 big3)):run tb 105 (stP s p bad bf)=some (aj g++stP s u bad3 big3):=by
 have h2:run tb 107 (.int .i64 5 :: .str [38]::stP s p bad bf)=some (aj g++stP s u bad3 big3):=by
  refine qh (x:=ir107) rfl ?_;have hp:=quc s hs q hq dt cz;have hb:((tk s q).1 == [38])=true:=by simpa using hk
  have jg:PO.eval (.mk 3 1) [.int .i64 f.op,.str f.name,.sl (F.encs f.args)]=some [.sl (F.encs [f])]:=by
   rw[show F.encs [f]=[F.enc f] from rfl,F.enc_eq];rfl
  simp only[stP,aj,cons_append,nil_append] at h1 hp h3;simp only[ir107,stP,aj,qe,qf,eq_self,ac,h1,hp,hb,jg,h3]
 refine qh (x:=ir105) rfl ?_;simp only[stP,aj,cons_append,nil_append] at h2;simp only[ir105,stP,aj,qe,qf,eq_self,h2]
theorem agb(s:List UInt8)(hs:s.length<1000000)(q:Nat)(hq:q≤s.length)(bad:Int)(bf:Bool)(acc:List F)(hn:0≤bad∨(tk s q).1≠[124])(x2 x3 x4 x5 x6 x7 x8 x9 x10 x11 x12 x13 x14 x15 x16 x17 x18 x19 x20 x21:D) :
 eo (run tb) ir99p1 [.int .i64 6,.str [124],x2,x3,x4,x5,x6,x7,x8,x9,x10,x11,x12,x13,x14,x15,x16,x17,x18,x19,x20,x21] [] (stP s q bad bf++[.sl (F.encs acc)])=some (aj (F.mk 6 [] acc)++stP s (skp s q) bad (bf || decide (acc.length>6))):=by
 refine ado ?_;have h:=qai s hs q hq bad bf [124] hn;have hl:((F.encs acc).length:Int)=acc.length:=by rw[F.encs_len]
 have hgt:(decide ((acc.length:Int)>6))=decide (acc.length>6):=by
  by_cases h6:acc.length>6
  · simp[h6];omega
  · simp[h6];omega
 simp only[stP] at h;cases bf with
 | true=>simp only[ir99p1,ir99p0,stP,aj,qe,qf,eq_self,h,F.op_mk,F.name_mk,F.args_mk]
 | false=>
  by_cases h6:acc.length>6
  · have h7:((acc.length:Int)>6):=by omega
    simp only[ir99p1,ir99p0,stP,aj,qe,qf,eq_self,ac,reduceIte,h,F.op_mk,F.name_mk,F.args_mk,h6,h7]
  · have h7:¬ ((acc.length:Int)>6):=by omega
    simp only[ir99p1,ir99p0,stP,aj,qe,qf,eq_self,ac,reduceIte,h,F.op_mk,F.name_mk,F.args_mk,h6,h7]
theorem aff(s:List UInt8)(hs:s.length<1000000)(q:Nat)(hq:q≤s.length)(bad:Int)(hb:bad<0)(bf:Bool)(acc:List F)(hk:(tk s q).1=[124])(aeh:acc.length<1000000)(f:F)(q2:Nat)(dt:Int)(cz:Bool)(o:List D)(x2 x3 x4 x5 x6 x7 x8 x9 x10 x11 x12 x13 x14 x15 x16 x17 x18 x19 x20 x21:D)
 (h1:run tb 105 (stP s (nxt s q) bad bf)=some (aj f++stP s q2 dt cz))
 (h2:eo (run tb) ir99p1 [.int .i64 6,.str [124],x2,x3,x4,x5,x6,x7,x8,x9,x10,x11,x12,x13,x14,x15,x16,x17,x18,x19,x20,x21] [] (stP s q2 dt cz++[.sl (F.encs (acc++[f]))])=some o) :
 eo (run tb) ir99p1 [.int .i64 6,.str [124],x2,x3,x4,x5,x6,x7,x8,x9,x10,x11,x12,x13,x14,x15,x16,x17,x18,x19,x20,x21] [] (stP s q bad bf++[.sl (F.encs acc)])=some o:=by
 refine ado ?_;have h:=qyf s hs q hq bad bf [124] hb hk
 have jg:PO.eval (.mk 3 1) [.int .i64 f.op,.str f.name,.sl (F.encs f.args)]=some [.sl (F.encs [f])]:=by
  rw[show F.encs [f]=[F.enc f] from rfl,F.enc_eq];rfl
 have s6:PO.eval (.app 3 48) [.sl (F.encs acc),.sl (F.encs [f])]=some [.sl (F.encs (acc++[f]))]:=by
  have e1:F.encs (acc++[f])=F.encs acc++F.encs [f]:=by simp only[F.encs_map,List.map_append]
  rw[e1];refine qxg ?_ ?_ ?_
  · rw[F.encs_len,F.encs_len];simp;omega
  · rw[F.encs_len,F.encs_len];simp;omega
  · rw[show F.encs [f]=[F.enc f] from rfl,F.enc_eq];rfl
 simp only[stP,aj,cons_append,nil_append] at h h1 h2;unfold nxt at h1;generalize eo (run tb) ir99p1 [.int .i64 6,.str [124],x2,x3,x4,x5,x6,x7,x8,x9,x10,x11,x12,x13,x14,x15,x16,x17,x18,x19,x20,x21] []=M at h2 ⊢;simp only[ir99p1,stP,qe,qf,eq_self,h,h1,jg,s6,h2]
theorem ak9(s:List UInt8)(hs:s.length<1000000)(p:Nat)(bad:Int)(bf:Bool)(f:F)(q:Nat)(hq:q≤s.length)(dt:Int)(cz:Bool)(hk:(tk s q).1≠[124])
 (h1:run tb 105 (stP s p bad bf)=some (aj f++stP s q dt cz)):run tb 82 (stP s p bad bf)=some (aj f++stP s (skp s q) dt cz):=by
 have h2:run tb 99 (.int .i64 6 :: .str [124]::stP s p bad bf)=some (aj f++stP s (skp s q) dt cz):=by
  refine qh (x:=ir99) rfl ?_;have hp:=quc s hs q hq dt cz;have hb:((tk s q).1 == [124])=false:=by simpa using hk
  simp only[stP,aj,cons_append,nil_append] at h1 hp;simp only[ir99,stP,aj,qe,qf,eq_self,ac,h1,hp,hb]
 refine qh (x:=ir82) rfl ?_;simp only[stP,aj,cons_append,nil_append] at h2;simp only[ir82,stP,aj,qe,qf,eq_self,h2]
theorem amd(s:List UInt8)(hs:s.length<1000000)(p:Nat)(bad:Int)(bf:Bool)(f:F)(q:Nat)(hq:q≤s.length)(dt:Int)(cz:Bool)(hk:(tk s q).1=[124])
 (h1:run tb 105 (stP s p bad bf)=some (aj f++stP s q dt cz)) (g:F) (u:Nat) (bad3:Int) (big3:Bool)
 (h3:eo (run tb) ir99p1 [.int .i64 6,.str [124],.str s,.int .i64 p,.int .i64 bad,.bool bf,.int .i64 f.op,.str f.name,.sl (F.encs f.args),.str s,.int .i64 q,.int .i64 dt,.bool cz,.str (tk s q).1,.str (tk s q).2,.int .i64 (skp s q),.str s,.int .i64 (skp s q),.int .i64 dt,.bool cz,.bool false,.sl (F.encs [f])] [] (stP s (skp s q) dt cz++[.sl (F.encs [f])])=some (aj g++stP s u bad3 big3)):run tb 82 (stP s p bad bf)=some (aj g++stP s u bad3 big3):=by
 have h2:run tb 99 (.int .i64 6 :: .str [124]::stP s p bad bf)=some (aj g++stP s u bad3 big3):=by
  refine qh (x:=ir99) rfl ?_;have hp:=quc s hs q hq dt cz;have hb:((tk s q).1 == [124])=true:=by simpa using hk
  have jg:PO.eval (.mk 3 1) [.int .i64 f.op,.str f.name,.sl (F.encs f.args)]=some [.sl (F.encs [f])]:=by
   rw[show F.encs [f]=[F.enc f] from rfl,F.enc_eq];rfl
  simp only[stP,aj,cons_append,nil_append] at h1 hp h3;simp only[ir99,stP,aj,qe,qf,eq_self,ac,h1,hp,hb,jg,h3]
 refine qh (x:=ir82) rfl ?_;simp only[stP,aj,cons_append,nil_append] at h2;simp only[ir82,stP,aj,qe,qf,eq_self,h2]
theorem qeb(s:List UInt8)(hs:s.length<1000000)(p:Nat)(hp:p≤s.length)(bad:Int)(bf:Bool)(K:List UInt8)(hn:0≤bad∨(tk s p).1≠K) :
 run tb 24 (.str K::stP s (skp s p) bad bf)=some (.bool false::stP s (skp s p) bad bf):=by
 have:=qai s hs (skp s p) (qib hp).2 bad bf K (by rwa [qrz])
 rwa [qtc] at this
theorem qqe(s:List UInt8)(hs:s.length<1000000)(p:Nat)(hp:p≤s.length)(bad:Int)(bf:Bool)(K:List UInt8)(hb:bad<0)(hk:(tk s p).1=K) :
 run tb 24 (.str K::stP s (skp s p) bad bf)=some (.bool true::stP s (nxt s p) bad bf):=by
 have:=qyf s hs (skp s p) (qib hp).2 bad bf K hb (by rwa [qrz])
 rwa [qtc,qrz] at this
section
variable (s:List UInt8)(hs:s.length<1000000)(p:Nat)(hp:p≤s.length)(bad:Int)(hb:bad<0)(bf:Bool)
include hs hp hb
theorem arw(h:(tk s p).1=da):run tb 109 (stP s p bad bf)=some (aj (F.mk 3 (tk s p).2 [])++stP s (nxt s p) bad bf):=by
 refine qh (x:=ir109) rfl ?_;have h0:=quc s hs p hp bad bf;have h1:¬ bad≥0:=by omega
 have h2:=qqe s hs p hp bad bf _ hb h;simp only[stP,da] at h0 h2;simp only[ir109,stP,aj,F.op_mk,F.name_mk,F.args_mk,F.encs,qe,qf,eq_self,ac,reduceIte,h0,h1,h2]
theorem a57(h:(tk s p).1=[48]):run tb 109 (stP s p bad bf)=some (aj (F.mk 2 [] [])++stP s (nxt s p) bad bf):=by
 refine qh (x:=ir109) rfl ?_;have h0:=quc s hs p hp bad bf;have h1:¬ bad≥0:=by omega
 have h2:=qeb s hs p hp bad bf da (.inr (by rw[h];simp[da]))
 have h3:=qqe s hs p hp bad bf _ hb h;simp only[stP,da] at h0 h2 h3;simp only[ir109,stP,aj,F.op_mk,F.name_mk,F.args_mk,F.encs,qe,qf,eq_self,ac,reduceIte,h0,h1,h2,h3]
theorem a4f(h:(tk s p).1=[49]):run tb 109 (stP s p bad bf)=some (aj (F.mk 1 [] [])++stP s (nxt s p) bad bf):=by
 refine qh (x:=ir109) rfl ?_;have h0:=quc s hs p hp bad bf;have h1:¬ bad≥0:=by omega
 have h2:=qeb s hs p hp bad bf da (.inr (by rw[h];simp[da]))
 have h3:=qeb s hs p hp bad bf [48] (.inr (by rw[h];simp))
 have h4:=qqe s hs p hp bad bf _ hb h;simp only[stP,da] at h0 h2 h3 h4;simp only[ir109,stP,aj,F.op_mk,F.name_mk,F.args_mk,F.encs,qe,qf,eq_self,ac,reduceIte,h0,h1,h2,h3,h4]
theorem anb(h:(tk s p).1=[126])(f:F)(q:Nat)(dt:Int)(cz:Bool)(hr:run tb 109 (stP s (nxt s p) bad bf)=some (aj f++stP s q dt cz)) :
 run tb 109 (stP s p bad bf)=some (aj (F.mk 4 [] [f])++stP s q dt cz):=by
 refine qh (x:=ir109) rfl ?_;have h0:=quc s hs p hp bad bf;have h1:¬ bad≥0:=by omega
 have h2:=qeb s hs p hp bad bf da (.inr (by rw[h];simp[da]))
 have h3:=qeb s hs p hp bad bf [48] (.inr (by rw[h];simp))
 have h4:=qeb s hs p hp bad bf [49] (.inr (by rw[h];simp))
 have h5:=qqe s hs p hp bad bf _ hb h
 have jg:PO.eval (.mk 3 1) [.int .i64 f.op,.str f.name,.sl (F.encs f.args)]=some [.sl (F.encs [f])]:=by
  rw[show F.encs [f]=[F.enc f] from rfl,F.enc_eq];rfl
 simp only[stP,da,aj,cons_append,nil_append] at h0 h2 h3 h4 h5 hr;simp only[ir109,stP,aj,F.op_mk,F.name_mk,F.args_mk,qe,qf,eq_self,ac,reduceIte,h0,h1,h2,h3,h4,h5,hr,jg]
theorem aq2(h:(tk s p).1=[40])(f:F)(q:Nat)(hq:q≤s.length)(cz:Bool)(hr:run tb 23 (stP s (nxt s p) bad bf)=some (aj f++stP s q bad cz))(h2:(tk s q).1=[41]) :
 run tb 109 (stP s p bad bf)=some (aj f++stP s (nxt s q) bad cz):=by
 refine qh (x:=ir109) rfl ?_;have h0:=quc s hs p hp bad bf;have h1:¬ bad≥0:=by omega
 have g2:=qeb s hs p hp bad bf da (.inr (by rw[h];simp[da]))
 have h3:=qeb s hs p hp bad bf [48] (.inr (by rw[h];simp))
 have h4:=qeb s hs p hp bad bf [49] (.inr (by rw[h];simp))
 have h5:=qeb s hs p hp bad bf [126] (.inr (by rw[h];simp))
 have h6:=qqe s hs p hp bad bf _ hb h;have h7:=qyf s hs q hq bad cz _ hb h2;simp only[stP,da,aj,cons_append,nil_append] at h0 g2 h3 h4 h5 h6 h7 hr;unfold nxt at h6 hr ⊢;simp only[ir109,stP,aj,qe,qf,eq_self,ac,reduceIte,h0,h1,g2,h3,h4,h5,h6,h7,hr]
theorem a2d(h:(tk s p).1=[40])(f:F)(q:Nat)(hq:q≤s.length)(cz:Bool)(hr:run tb 23 (stP s (nxt s p) bad bf)=some (aj f++stP s q bad cz))(h2:(tk s q).1≠[41]) :
 run tb 109 (stP s p bad bf)=some (aj noF++stP s (skp s q) (skp s q) cz):=by
 refine qh (x:=ir109) rfl ?_;have h0:=quc s hs p hp bad bf;have h1:¬ bad≥0:=by omega
 have g2:=qeb s hs p hp bad bf da (.inr (by rw[h];simp[da]))
 have h3:=qeb s hs p hp bad bf [48] (.inr (by rw[h];simp))
 have h4:=qeb s hs p hp bad bf [49] (.inr (by rw[h];simp))
 have h5:=qeb s hs p hp bad bf [126] (.inr (by rw[h];simp))
 have h6:=qqe s hs p hp bad bf _ hb h;have h7:=qai s hs q hq bad cz _ (.inr h2);have h8:=ahj s hs (skp s q) (qib hq).2 bad cz hb;rw[qtc] at h8;simp only[stP,da,noF,aj,F.op_mk,F.name_mk,F.args_mk,F.encs,cons_append,nil_append] at h0 g2 h3 h4 h5 h6 h7 h8 hr;simp only[ir109,stP,noF,aj,F.op_mk,F.name_mk,F.args_mk,F.encs,qe,qf,eq_self,ac,reduceIte,h0,h1,g2,h3,h4,h5,h6,h7,h8,hr]
theorem azt(h:(tk s p).1=[40])(f:F)(q:Nat)(hq:q≤s.length)(e:Nat)(cz:Bool)(hr:run tb 23 (stP s (nxt s p) bad bf)=some (aj f++stP s q e cz)) :
 run tb 109 (stP s p bad bf)=some (aj noF++stP s (skp s q) e cz):=by
 refine qh (x:=ir109) rfl ?_;have h0:=quc s hs p hp bad bf;have h1:¬ bad≥0:=by omega
 have g2:=qeb s hs p hp bad bf da (.inr (by rw[h];simp[da]))
 have h3:=qeb s hs p hp bad bf [48] (.inr (by rw[h];simp))
 have h4:=qeb s hs p hp bad bf [49] (.inr (by rw[h];simp))
 have h5:=qeb s hs p hp bad bf [126] (.inr (by rw[h];simp))
 have h6:=qqe s hs p hp bad bf _ hb h;have h7:=qai s hs q hq e cz [41] (.inl (by omega))
 have h8:=a1b s (skp s q) e cz (by omega)
 simp only[stP,da,noF,aj,F.op_mk,F.name_mk,F.args_mk,F.encs,cons_append,nil_append] at h0 g2 h3 h4 h5 h6 h7 h8 hr;simp only[ir109,stP,noF,aj,F.op_mk,F.name_mk,F.args_mk,F.encs,qe,qf,eq_self,ac,reduceIte,h0,h1,g2,h3,h4,h5,h6,h7,h8,hr]
theorem azu(a1:(tk s p).1≠da)(a2:(tk s p).1≠[48])(a3:(tk s p).1≠[49])(a4:(tk s p).1≠[126])(a5:(tk s p).1≠[40]) :
 run tb 109 (stP s p bad bf)=some (aj noF++stP s (skp s p) (skp s p) bf):=by
 refine qh (x:=ir109) rfl ?_;have h0:=quc s hs p hp bad bf;have h1:¬ bad≥0:=by omega
 have g2:=qeb s hs p hp bad bf da (.inr a1);have h3:=qeb s hs p hp bad bf [48] (.inr a2);have h4:=qeb s hs p hp bad bf [49] (.inr a3);have h5:=qeb s hs p hp bad bf [126] (.inr a4);have h6:=qeb s hs p hp bad bf [40] (.inr a5);have h8:=ahj s hs (skp s p) (qib hp).2 bad bf hb;rw[qtc] at h8;simp only[stP,da,noF,aj,F.op_mk,F.name_mk,F.args_mk,F.encs,cons_append,nil_append] at h0 g2 h3 h4 h5 h6 h8;simp only[ir109,stP,noF,aj,F.op_mk,F.name_mk,F.args_mk,F.encs,qe,qf,eq_self,ac,reduceIte,h0,h1,g2,h3,h4,h5,h6,h8]
end
section
variable (s:List UInt8)(hs:s.length<1000000)(p:Nat)(bad dt bad3:Int)(bf cz big3:Bool)(f g:F)(q u:Nat)(hq:q≤s.length)
include hs hq
theorem ami(h1:run tb 82 (stP s p bad bf)=some (aj f++stP s q dt cz))(hn:0≤dt∨(tk s q).1≠mg) :
 run tb 57 (stP s p bad bf)=some (aj f++stP s (skp s q) dt cz):=by
 refine qh (x:=ir57) rfl ?_;have h2:=qai s hs q hq dt cz _ hn;simp only[stP,aj,mg,cons_append,nil_append] at h1 h2;simp only[ir57,stP,aj,qe,qf,eq_self,h1,h2]
theorem al0(h1:run tb 82 (stP s p bad bf)=some (aj f++stP s q dt cz))(o9:dt<0)(hk:(tk s q).1=mg)
 (h3:run tb 57 (stP s (nxt s q) dt cz)=some (aj g++stP s u bad3 big3)) :
 run tb 57 (stP s p bad bf)=some (aj (F.mk 7 [] [f,g])++stP s u bad3 big3):=by
 refine qh (x:=ir57) rfl ?_;have h2:=qyf s hs q hq dt cz _ o9 hk
 have jg:PO.eval (.mk 3 2) [.int .i64 f.op,.str f.name,.sl (F.encs f.args),.int .i64 g.op,.str g.name,.sl (F.encs g.args)]=some [.sl (F.encs [f,g])]:=by
  rw[show F.encs [f,g]=[F.enc f,F.enc g] from rfl,F.enc_eq,F.enc_eq];rfl
 simp only[stP,aj,mg,cons_append,nil_append] at h1 h2 h3;unfold nxt at h3;simp only[ir57,stP,aj,F.op_mk,F.name_mk,F.args_mk,qe,qf,eq_self,h1,h2,h3,jg]
theorem amo(h1:run tb 57 (stP s p bad bf)=some (aj f++stP s q dt cz))(hn:0≤dt∨(tk s q).1≠l6) :
 run tb 23 (stP s p bad bf)=some (aj f++stP s (skp s q) dt cz):=by
 refine qh (x:=ir23) rfl ?_;have h2:=qai s hs q hq dt cz _ hn;simp only[stP,aj,l6,cons_append,nil_append] at h1 h2;simp only[ir23,stP,aj,qe,qf,eq_self,h1,h2]
theorem aln(h1:run tb 57 (stP s p bad bf)=some (aj f++stP s q dt cz))(o9:dt<0)(hk:(tk s q).1=l6)
 (h3:run tb 57 (stP s (nxt s q) dt cz)=some (aj g++stP s u bad3 big3)) :
 run tb 23 (stP s p bad bf)=some (aj (F.mk 8 [] [f,g])++stP s u bad3 big3):=by
 refine qh (x:=ir23) rfl ?_;have h2:=qyf s hs q hq dt cz _ o9 hk
 have jg:PO.eval (.mk 3 2) [.int .i64 f.op,.str f.name,.sl (F.encs f.args),.int .i64 g.op,.str g.name,.sl (F.encs g.args)]=some [.sl (F.encs [f,g])]:=by
  rw[show F.encs [f,g]=[F.enc f,F.enc g] from rfl,F.enc_eq,F.enc_eq];rfl
 simp only[stP,aj,l6,cons_append,nil_append] at h1 h2 h3;unfold nxt at h3;simp only[ir23,stP,aj,F.op_mk,F.name_mk,F.args_mk,qe,qf,eq_self,h1,h2,h3,jg]
end
def fnP:Nat→Nat
 | 0=>109
 | 1=>105
 | 2=>82
 | 3=>57
 | _=>23
def aa5:Nat→IR
 | 0=>ir107p1
 | _=>ir99p1
def ahs(s:List UInt8)(bad:Int)(bf:Bool)(r:yh)(x:Option (List D)):Prop:=match r with
 | .ok f q b=>∃ q',q'≤s.length∧skp s q' = skp s q∧x=some (aj f++stP s q' bad (bf || b))
 | .er e=>∃ f q' big',q'≤s.length∧x=some (aj f++stP s q' e big')
def arz(s:List UInt8)(bad:Int)(j:Job)(r:yh):Prop:=match j with
 | .lev L p=>∀ bf,ahs s bad bf r (run tb (fnP L) (stP s p bad bf))
 | .loop L p acc b=>∀ bf (q:Nat),q≤s.length→nxt s q=p→(tk s q).1=lz L→acc.length≤p→∀ x2 x3 x4 x5 x6 x7 x8 x9 x10 x11 x12 x13 x14 x15 x16 x17 x18 x19 x20 x21:D,ahs s bad bf r (eo (run tb) (aa5 L) [.int .i64 (opL L),.str (lz L),x2,x3,x4,x5,x6,x7,x8,x9,x10,x11,x12,x13,x14,x15,x16,x17,x18,x19,x20,x21] [] (stP s q bad (bf || b)++[.sl (F.encs acc)]))
theorem a3n(s:List UInt8)(hs:s.length<1000000)(bad:Int)(hb:bad<0){j:Job}{r:yh}(h:Ps s j r):j.pos≤s.length→arz s bad j r:=by
 have lt2:∀ {L},L<2→L=0∨L=1:=fun h=>by omega
 induction h with
 | @name p h=>intro hp bf;exact ⟨_,qkb hp,rfl,by rw[Bool.or_false];exact arw s hs p hp bad hb bf h⟩
 | @zero p h=>intro hp bf;exact ⟨_,qkb hp,rfl,by rw[Bool.or_false];exact a57 s hs p hp bad hb bf h⟩
 | @one p h=>intro hp bf;exact ⟨_,qkb hp,rfl,by rw[Bool.or_false];exact a4f s hs p hp bad hb bf h⟩
 | @not p f q b h a ih=>
  intro hp bf;obtain ⟨q',h1,h2,h3⟩:=ih (qkb hp) bf;exact ⟨q',h1,h2,anb s hs p hp bad hb bf h _ _ _ _ h3⟩
 | @notE p e h a ih=>
  intro hp bf;obtain ⟨f,q',big',h1,h3⟩:=ih (qkb hp) bf;exact ⟨_,q',big',h1,anb s hs p hp bad hb bf h _ _ _ _ h3⟩
 | @par p f q b h a hk ih=>
  intro hp bf;obtain ⟨q',h1,h2,h3⟩:=ih (qkb hp) bf;exact ⟨_,qkb h1,by rw[qtk h2],aq2 s hs p hp bad hb bf h _ _ h1 _ h3 (by rw[qoh h2];exact hk)⟩
 | @parN p f q b h a hk ih=>
  intro hp bf;obtain ⟨q',h1,h2,h3⟩:=ih (qkb hp) bf;have:=a2d s hs p hp bad hb bf h _ _ h1 _ h3 (by rw[qoh h2];exact hk)
  rw[h2] at this;have h4:=(qib h1).2;rw[h2] at h4;exact ⟨_,_,_,h4,this⟩
 | @parE p e h a ih=>
  intro hp bf;obtain ⟨f,q',big',h1,h3⟩:=ih (qkb hp) bf;exact ⟨_,_,_,(qib h1).2,azt s hs p hp bad hb bf h _ _ h1 _ _ h3⟩
 | @none p h1 h2 h3 h4 h5=>intro hp bf;exact ⟨_,_,_,(qib hp).2,azu s hs p hp bad hb bf h1 h2 h3 h4 h5⟩
 | @one1 L p f q b hL a h ih=>
  intro hp bf;obtain ⟨q',h1,h2,h3⟩:=ih hp bf;rcases lt2 hL with rfl|rfl
  · exact ⟨_,(qib h1).2,by rw[qtc];exact h2,ag3 s hs p bad bf _ _ h1 _ _ (by rw[qoh h2];exact h) h3⟩
  · exact ⟨_,(qib h1).2,by rw[qtc];exact h2,ak9 s hs p bad bf _ _ h1 _ _ (by rw[qoh h2];exact h) h3⟩
 | @manyE L p e hL a ih=>
  intro hp bf;obtain ⟨f,q',big',h1,h3⟩:=ih hp bf;rcases lt2 hL with rfl|rfl
  · by_cases hk:(tk s q').1=[38]
    · refine ⟨_,_,_,(qib (qib h1).2).2,ajy s hs p bad bf _ _ h1 _ _ hk h3 _ _ _ _ (agh s hs _ (qib h1).2 _ _ _ (.inl (by omega)) _ _ _ _ _ _ _ _ _ _ _ _ _ _ _ _ _ _ _ _)⟩
    · exact ⟨_,_,_,(qib h1).2,ag3 s hs p bad bf _ _ h1 _ _ hk h3⟩
  · by_cases hk:(tk s q').1=[124]
    · refine ⟨_,_,_,(qib (qib h1).2).2,amd s hs p bad bf _ _ h1 _ _ hk h3 _ _ _ _ (agb s hs _ (qib h1).2 _ _ _ (.inl (by omega)) _ _ _ _ _ _ _ _ _ _ _ _ _ _ _ _ _ _ _ _)⟩
    · exact ⟨_,_,_,(qib h1).2,ak9 s hs p bad bf _ _ h1 _ _ hk h3⟩
 | @many L p f q b r hL a h c iha ihc=>
  intro hp bf;obtain ⟨q',h1,h2,h3⟩:=iha hp bf;obtain ⟨g1,g2,_⟩:=qgk a hp trivial;have h4:(skp s q')≤s.length:=(qib h1).2;have h5:=qag g2 h (qrg L).1 (qrg L).2;have h6:=ihc (qkb g2) bf (skp s q') h4 (by rw[qtk (qtc s q'),qtk h2]) (by rw[qrz,qoh h2];exact h) (by simp only[length_cons,length_nil];omega)
  have hk:(tk s q').1=lz L:=by rw[qoh h2];exact h
  have hf:∀ {g u' bad3 big3},eo (run tb) (aa5 L) [.int .i64 (opL L),.str (lz L),.str s,.int .i64 p,.int .i64 bad,.bool bf,.int .i64 f.op,.str f.name,.sl (F.encs f.args),.str s,.int .i64 q',.int .i64 bad,.bool (bf || b),.str (tk s q').1,.str (tk s q').2,.int .i64 (skp s q'),.str s,.int .i64 (skp s q'),.int .i64 bad,.bool (bf || b),.bool false,.sl (F.encs [f])] [] (stP s (skp s q') bad (bf || b)++[.sl (F.encs [f])])=some (aj g++stP s u' bad3 big3)→run tb (fnP (L+1)) (stP s p bad bf)=some (aj g++stP s u' bad3 big3):=by
   intro g u' bad3 big3 h3';rcases lt2 hL with rfl|rfl
   · exact ajy s hs p bad bf _ _ h1 _ _ hk h3 _ _ _ _ h3'
   · exact amd s hs p bad bf _ _ h1 _ _ hk h3 _ _ _ _ h3'
  have h7:=h6 (.str s) (.int .i64 p) (.int .i64 bad) (.bool bf) (.int .i64 f.op) (.str f.name) (.sl (F.encs f.args)) (.str s) (.int .i64 q') (.int .i64 bad) (.bool (bf || b)) (.str (tk s q').1) (.str (tk s q').2) (.int .i64 (skp s q')) (.str s) (.int .i64 (skp s q')) (.int .i64 bad) (.bool (bf || b)) (.bool false) (.sl (F.encs [f]))
  cases r with
  | ok g u b'=>
   obtain ⟨u',k1,k2,k3⟩:=h7;exact ⟨u',k1,k2,hf k3⟩
  | er e=>
   obtain ⟨g,u',big',k1,k3⟩:=h7;exact ⟨g,u',big',k1,hf k3⟩
 | @loopE L p acc b e hL a ih=>
  intro hp bf q hq hn hk aeh x2 x3 x4 x5 x6 x7 x8 x9 x10 x11 x12 x13 x14 x15 x16 x17 x18 x19 x20 x21;subst hn;have xy:nxt s q≤s.length:=hp;obtain ⟨f,q',big',h1,h3⟩:=ih hp (bf || b);rcases lt2 hL with rfl|rfl
  · exact ⟨_,_,_,(qib h1).2,af8 s hs q hq bad hb _ acc hk (by omega) f q' e big' _ _ _ _ _ _ _ _ _ _ _ _ _ _ _ _ _ _ _ _ _ h3 (agh s hs q' h1 _ _ _ (.inl (by omega)) _ _ _ _ _ _ _ _ _ _ _ _ _ _ _ _ _ _ _ _)⟩
  · exact ⟨_,_,_,(qib h1).2,aff s hs q hq bad hb _ acc hk (by omega) f q' e big' _ _ _ _ _ _ _ _ _ _ _ _ _ _ _ _ _ _ _ _ _ h3 (agb s hs q' h1 _ _ _ (.inl (by omega)) _ _ _ _ _ _ _ _ _ _ _ _ _ _ _ _ _ _ _ _)⟩
 | @loop1 L p acc b f q0 b' hL a h ih=>
  intro hp bf q hq hn hk aeh x2 x3 x4 x5 x6 x7 x8 x9 x10 x11 x12 x13 x14 x15 x16 x17 x18 x19 x20 x21;subst hn;have xy:nxt s q≤s.length:=hp;obtain ⟨q',h1,h2,h3⟩:=ih hp (bf || b);have lu:(tk s q').1≠lz L:=by rw[qoh h2];exact h
  have e1:(((bf || b) || b') || decide ((acc++[f]).length>6))=(bf || ((b || b') || decide (acc.length+1>6))):=by
   simp only[List.length_append,length_cons,length_nil,Nat.zero_add,Bool.or_assoc]
  rcases lt2 hL with rfl|rfl
  · refine ⟨_,(qib h1).2,by rw[qtc];exact h2,?_⟩
    rw[← e1];exact af8 s hs q hq bad hb _ acc hk (by omega) f q' bad _ _ _ _ _ _ _ _ _ _ _ _ _ _ _ _ _ _ _ _ _ _ h3 (agh s hs q' h1 _ _ _ (.inr lu) _ _ _ _ _ _ _ _ _ _ _ _ _ _ _ _ _ _ _ _)
  · refine ⟨_,(qib h1).2,by rw[qtc];exact h2,?_⟩
    rw[← e1];exact aff s hs q hq bad hb _ acc hk (by omega) f q' bad _ _ _ _ _ _ _ _ _ _ _ _ _ _ _ _ _ _ _ _ _ _ h3 (agb s hs q' h1 _ _ _ (.inr lu) _ _ _ _ _ _ _ _ _ _ _ _ _ _ _ _ _ _ _ _)
 | @loop2 L p acc b f q0 b' r hL a h c iha ihc=>
  intro hp bf q hq hn hk aeh x2 x3 x4 x5 x6 x7 x8 x9 x10 x11 x12 x13 x14 x15 x16 x17 x18 x19 x20 x21;subst hn;have xy:nxt s q≤s.length:=hp;obtain ⟨q',h1,h2,h3⟩:=iha hp (bf || b);obtain ⟨g1,g2,_⟩:=qgk a hp trivial;have h5:=qag g2 h (qrg L).1 (qrg L).2;simp only[Job.pos] at g1;have h7:=ihc (qkb g2) bf q' h1 (qtk h2) (by rw[qoh h2];exact h) (by simp only[List.length_append,length_cons,length_nil];omega) x2 x3 x4 x5 x6 x7 x8 x9 x10 x11 x12 x13 x14 x15 x16 x17 x18 x19 x20 x21
  rw[← Bool.or_assoc] at h7
  have hf:∀ {o},eo (run tb) (aa5 L) [.int .i64 (opL L),.str (lz L),x2,x3,x4,x5,x6,x7,x8,x9,x10,x11,x12,x13,x14,x15,x16,x17,x18,x19,x20,x21] [] (stP s q' bad ((bf || b) || b')++[.sl (F.encs (acc++[f]))])=some o→eo (run tb) (aa5 L) [.int .i64 (opL L),.str (lz L),x2,x3,x4,x5,x6,x7,x8,x9,x10,x11,x12,x13,x14,x15,x16,x17,x18,x19,x20,x21] [] (stP s q bad (bf || b)++[.sl (F.encs acc)])=some o:=by
   intro o h3';rcases lt2 hL with rfl|rfl
   · exact af8 s hs q hq bad hb _ acc hk (by omega) f q' bad _ _ _ _ _ _ _ _ _ _ _ _ _ _ _ _ _ _ _ _ _ _ h3 h3'
   · exact aff s hs q hq bad hb _ acc hk (by omega) f q' bad _ _ _ _ _ _ _ _ _ _ _ _ _ _ _ _ _ _ _ _ _ _ h3 h3'
  cases r with
  | ok g u b'=>
   obtain ⟨u',k1,k2,k3⟩:=h7;exact ⟨u',k1,k2,hf k3⟩
  | er e=>
   obtain ⟨g,u',big',k1,k3⟩:=h7;exact ⟨g,u',big',k1,hf k3⟩
 | @imp1 p f q b a h ih=>
  intro hp bf;obtain ⟨q',h1,h2,h3⟩:=ih hp bf;exact ⟨_,(qib h1).2,by rw[qtc];exact h2,ami s hs p bad bad bf _ _ _ h1 h3 (.inr (by rw[qoh h2];exact h))⟩
 | @impE p e a ih=>
  intro hp bf;obtain ⟨f,q',big',h1,h3⟩:=ih hp bf;exact ⟨_,_,_,(qib h1).2,ami s hs p bad _ bf _ _ _ h1 h3 (.inl (by omega))⟩
 | @imp2 p f q b g u b' a h c iha ihc=>
  intro hp bf;obtain ⟨q',h1,h2,h3⟩:=iha hp bf;obtain ⟨g1,g2,_⟩:=qgk a hp trivial;obtain ⟨u',k1,k2,k3⟩:=ihc (qkb g2) (bf || b);exact ⟨u',k1,k2,by rw[← Bool.or_assoc];exact al0 s hs p bad bad _ bf _ _ _ _ _ _ h1 h3 hb (by rw[qoh h2];exact h) (by rw[qtk h2];exact k3)⟩
 | @imp2E p f q b e a h c iha ihc=>
  intro hp bf;obtain ⟨q',h1,h2,h3⟩:=iha hp bf;obtain ⟨g1,g2,_⟩:=qgk a hp trivial;obtain ⟨g,u',big',k1,k3⟩:=ihc (qkb g2) (bf || b);exact ⟨_,u',big',k1,al0 s hs p bad bad _ bf _ _ _ _ _ _ h1 h3 hb (by rw[qoh h2];exact h) (by rw[qtk h2];exact k3)⟩
 | @iff1 p f q b a h ih=>
  intro hp bf;obtain ⟨q',h1,h2,h3⟩:=ih hp bf;exact ⟨_,(qib h1).2,by rw[qtc];exact h2,amo s hs p bad bad bf _ _ _ h1 h3 (.inr (by rw[qoh h2];exact h))⟩
 | @iffE p e a ih=>
  intro hp bf;obtain ⟨f,q',big',h1,h3⟩:=ih hp bf;exact ⟨_,_,_,(qib h1).2,amo s hs p bad _ bf _ _ _ h1 h3 (.inl (by omega))⟩
 | @iff2 p f q b g u b' a h c iha ihc=>
  intro hp bf;obtain ⟨q',h1,h2,h3⟩:=iha hp bf;obtain ⟨g1,g2,_⟩:=qgk a hp trivial;obtain ⟨u',k1,k2,k3⟩:=ihc (qkb g2) (bf || b);exact ⟨u',k1,k2,by rw[← Bool.or_assoc];exact aln s hs p bad bad _ bf _ _ _ _ _ _ h1 h3 hb (by rw[qoh h2];exact h) (by rw[qtk h2];exact k3)⟩
 | @iff2E p f q b e a h c iha ihc=>
  intro hp bf;obtain ⟨q',h1,h2,h3⟩:=iha hp bf;obtain ⟨g1,g2,_⟩:=qgk a hp trivial;obtain ⟨g,u',big',k1,k3⟩:=ihc (qkb g2) (bf || b);exact ⟨_,u',big',k1,aln s hs p bad bad _ bf _ _ _ _ _ _ h1 h3 hb (by rw[qoh h2];exact h) (by rw[qtk h2];exact k3)⟩
end Go.Proofs.YtefjlhhicgepfaaGreatDoor

namespace Go.Proofs.YtefjlhhicgepfaaGreatDoor
open Go Am
set_option maxRecDepth 100000
theorem ayb(s:List UInt8)(hs:s.length≤4096)(f:F)(c1:f.size≤600)(c2:f.depth≤20)(h:Ps s (.lev 4 0) (.ok f s.length false)):run tb 8 [.str s]=some (aj f++[.int .i64 0,.int .i64 0]):=by
 refine qh (x:=ir8) rfl ?_;have h0:¬ ((s.length:Int)>4096):=by omega
 obtain ⟨q',h1,hq,h2⟩:=a3n s (by omega) (-1) (by omega) h (Nat.zero_le _) false
 have jt:=qmp f (by omega)
 have amr:=qem f (by omega)
 have h3:=qyf s (by omega) q' h1 (-1) false [] (by omega) (by rw[qoh hq,akh])
 have h5:¬ ((-1:Int)≥0):=by omega
 have c1':¬ ((f.size:Int)>600):=by omega
 have c2':¬ ((f.depth:Int)>20):=by omega
 simp only[Bool.false_or,fnP,stP,aj,rt,cons_append,nil_append] at h2 h3 jt amr;simp only[ir8,ir8p1,ir8p0,aj,qe,qf,eq_self,ac,reduceIte,Int.reduceGE,h0,h2,h3,jt,amr,c1',c2']
theorem qwn{n:Nat}(hn:n≤3)(X:BitVec 64):run tb 7 (aj (thy (aq n) X))=some [.str (F.text (thy (aq n) X)),.int .i64 0]∧run tb 8 [.str (F.text (thy (aq n) X))]=some (aj (thy (aq n) X)++[.int .i64 0,.int .i64 0]):=by
 obtain ⟨t1,t2,t3,_⟩:=qbp (qvc (qnd (show n≤6 by omega))) X
 rw[qv] at t2 t3;have hp:2^n≤2^3:=Nat.pow_le_pow_right (by omega) hn
 generalize thy (aq n) X=f at *;have hg:=t1;simp only[good,Bool.and_eq_true] at hg
 have hv:ca f=0:=by
  have h1:¬ ((f.size:Int)>600):=by omega
  have h2:¬ ((f.depth:Int)>20):=by omega
  unfold ca;rw[hg.1,hg.2];simp[h1,h2]
 have hl:=qqv f hg.2;have h4:¬ (((F.text f).length:Int)>4096):=by omega
 refine ⟨?_,ayb _ (by omega) f (by omega) (by omega) (a6g t1)⟩
 have he:F.decN 1000 (aj f)=some f:=by rw[show aj f=f.enc from (F.enc_eq f).symm];exact F.decN_enc f 1000 (by omega)
 refine qif (E:=zn) rfl ?_;unfold zn;rw[he];simp only;rw[if_pos (by omega)]
 simp[mj,l5,hv,h4]
end Go.Proofs.YtefjlhhicgepfaaGreatDoor
