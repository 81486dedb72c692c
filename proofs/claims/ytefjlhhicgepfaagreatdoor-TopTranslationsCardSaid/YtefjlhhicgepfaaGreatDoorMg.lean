/- Lemmas. -/
import Derived.Test.YtefjlhhicgepfaaGreatDoorWd
set_option linter.unusedSimpArgs false
set_option linter.unusedVariables false
set_option linter.unusedSectionVars false
namespace Go.Proofs.YtefjlhhicgepfaaGreatDoor
open Go Am
set_option maxRecDepth 100000
theorem qpo(a b:List (List UInt8))(ha:a.length<1000000000):run tb 36 [af a,af b]=some [.bool (decide (a=b))]:=by
 refine qh (x:=ir36) rfl ?_
 by_cases hl:a.length=b.length
 · simp (disch:=omega) only[ir36,qe,qf,eq_self,ac,reduceIte,qac,bw,hl];have h0:decide (a=b)=decide (a.drop 0=b.drop 0):=by simp
   rw[h0];refine qu (σ:=Unit) b.length (fun _ _=>True) (fun i _=>[.int .i64 i]) (fun i _=>[.bool (decide (a.drop i=b.drop i))]) ?_ ?_ 0 () (Nat.zero_le _) trivial
   · rintro i _ L hi _ hL;have ah:=hL () trivial;have hia:i<a.length:=by omega
     have e1:a.drop i=a[i]::a.drop (i+1):=List.drop_eq_getElem_cons hia;have e2:b.drop i=b[i]::b.drop (i+1):=List.drop_eq_getElem_cons hi;rw[e1,e2]
     by_cases h:a[i]=b[i]
     · have:decide (a[i]::a.drop (i+1)=b[i]::b.drop (i+1))=decide (a.drop (i+1)=b.drop (i+1)):=by rw[h];exact decide_eq_decide.2 ⟨fun e=>(List.cons.inj e).2,fun e=>by rw[e]⟩
       rw[this];have b1:(a[i] == b[i])=true:=beq_iff_eq.2 h;have b2:(a[i] != b[i])=false:=by rw[bne,b1];rfl
       simp (disch:=omega) only[ir36p0,qe,qf,eq_self,ac,reduceIte,hi,qmj,b1,wr,bz,ah]
     · have:decide (a[i]::a.drop (i+1)=b[i]::b.drop (i+1))=false:=decide_eq_false fun e=>h (List.cons.inj e).1
       rw[this];have b1:(a[i] == b[i])=false:=beq_eq_false_iff_ne.2 h;have b2:(a[i] != b[i])=true:=by rw[bne,b1];rfl
       simp (disch:=omega) only[ir36p0,qe,qf,eq_self,ac,reduceIte,hi,qmj,b1]
   · rintro _ L _;have:decide (a.drop b.length=b.drop b.length)=true:=by simp[← hl]
     rw[this];simp (disch:=omega) only[ir36p0,qe,qf,eq_self,ac,reduceIte,Nat.lt_irrefl]
 · have:decide (a=b)=false:=by simp;rintro rfl;exact hl rfl
   rw[this];simp (disch:=omega) only[ir36,qe,qf,eq_self,ac,reduceIte,qac,bw,hl]
theorem ayu(a b:List Int)(ha:a.length<1000000000):run tb 37 [ab a,ab b]=some [.bool (decide (a=b))]:=by
 refine qh (x:=ir37) rfl ?_
 by_cases hl:a.length=b.length
 · simp (disch:=omega) only[ir37,qe,qf,eq_self,ac,reduceIte,qob,bw,hl];have h0:decide (a=b)=decide (a.drop 0=b.drop 0):=by simp
   rw[h0];refine qu (σ:=Unit) b.length (fun _ _=>True) (fun i _=>[.int .i64 i]) (fun i _=>[.bool (decide (a.drop i=b.drop i))]) ?_ ?_ 0 () (Nat.zero_le _) trivial
   · rintro i _ L hi _ hL;have ah:=hL () trivial;have hia:i<a.length:=by omega
     have e1:a.drop i=a[i]::a.drop (i+1):=List.drop_eq_getElem_cons hia;have e2:b.drop i=b[i]::b.drop (i+1):=List.drop_eq_getElem_cons hi;rw[e1,e2]
     by_cases h:a[i]=b[i]
     · have:decide (a[i]::a.drop (i+1)=b[i]::b.drop (i+1))=decide (a.drop (i+1)=b.drop (i+1)):=by rw[h];exact decide_eq_decide.2 ⟨fun e=>(List.cons.inj e).2,fun e=>by rw[e]⟩
       rw[this];have b1:True:=trivial;have b2:True:=trivial;simp (disch:=omega) only[ir37p0,qe,qf,eq_self,ac,reduceIte,hi,qjd,bw,h,wr,bz,ah]
     · have:decide (a[i]::a.drop (i+1)=b[i]::b.drop (i+1))=false:=decide_eq_false fun e=>h (List.cons.inj e).1
       rw[this];have b1:True:=trivial;have b2:True:=trivial;simp (disch:=omega) only[ir37p0,qe,qf,eq_self,ac,reduceIte,hi,qjd,bw,h]
   · rintro _ L _;have:decide (a.drop b.length=b.drop b.length)=true:=by simp[← hl]
     rw[this];simp (disch:=omega) only[ir37p0,qe,qf,eq_self,ac,reduceIte,Nat.lt_irrefl]
 · have:decide (a=b)=false:=by simp;rintro rfl;exact hl rfl
   rw[this];simp (disch:=omega) only[ir37,qe,qf,eq_self,ac,reduceIte,qob,bw,hl]
theorem qes(a b:List (List UInt8))(x y:List Int)(ha:a.length<1000000000)(hx:x.length<1000000000):run tb 11 [af a,ab x,af b,ab y]=some [.bool (decide (a=b)&&decide (x=y))]:=by
 refine qh (x:=ir11) rfl ?_;have h1:=qpo a b ha;have h2:=ayu x y hx;cases hd:decide (a=b) with
 | true=>rw[hd] at h1;simp (disch:=omega) only[ir11,qe,qf,eq_self,h1,h2]
 | false=>rw[hd] at h1;simp (disch:=omega) only[ir11,qe,qf,eq_self,h1]
theorem qoa(x:BitVec 64)(w:Nat)(h:w<9223372036854775808):run tb 103 [bvD x,.int .i64 w]=some [.bool (x.getLsbD w)]:=by
 refine qh (x:=ir103) rfl ?_;simp (disch:=omega) only[ir103,qe,qf,eq_self,bvQ,wu]
theorem avn(aa:D)(o:List Int)(m l:BitVec 64)(k:Int)(hk:k=1∨k=2∨k=3)(w:Nat)(hw:w<o.length)(hr:0≤o[w]∧o[w]<o.length)(vr:o.length≤64) :
 run tb 94 [aa,ab o,.int .i64 w,bvD m,bvD l,.int .i64 k]=some [.int .i64 (acj k o.length m l o[w] w)]:=by
 refine qh (x:=ir94) rfl ?_;have h1:=qoa m w (by omega)
 have h2:=qoa l w (by omega)
 have ak:=qjd hw;unfold acj;generalize o[w]=r at *
 cases hm:m.getLsbD w<;>rw[hm] at h1<;>cases hl:l.getLsbD w<;>rw[hl] at h2<;>rcases hk with rfl|rfl|rfl <;>
  simp (disch:=omega) only[ir94,ir94p1,ir94p0,qe,qf,eq_self,ac,Int.reduceEq,ak,qob,h1,h2,wr,if_true,if_false,true_and,and_true,false_and,not_true_eq_false,not_false_eq_true]
theorem ata(aa:List (List UInt8))(o:List Int)(m:BitVec 64)(k:Int)(hk:k=1∨k=2∨k=3)(ho:bi aa o=0) :
 run tb 72 [af aa,ab o,bvD m,.int .i64 k]=some [af aa,ab (aa9 aa k o m),.int .i64 0]:=by
 refine qh (x:=ir72) rfl ?_;obtain ⟨hv,la,ra⟩:=qz ho;have vr:=qhb ho;have ry:aa.length<1000000000:=by have:=qnb hv;omega
 have j7:=qnh aa o ry (by omega) m
 unfold aa9;generalize bq aa o m=l at *;have acp:=mkN (n:=o.length) (by omega)
 have hlx:(ki k o m l).length=o.length:=by simp[ki]
 rw[← hlx,qpt,hlx] at acp;have rh:∀ i,(fc (ki k o m l) i).length=o.length:=fun i=>by simp[fc,hlx]
 have hl3:PO.eval .lenL [ab (fc (ki k o m l) 0)]=some [.int .i64 o.length]:=by rw[qob,rh]
 have o5:PO.eval .lenL [ab o]=some [.int .i64 o.length]:=qob o;simp (disch:=omega) only[ir72,qe,qf,j7,o5,acp,hl3];refine qu (σ:=Unit) o.length (fun _ _=>True) (fun i _=>[.int .i64 i,ab (fc (ki k o m l) i)]) (fun _ _=>[af aa,ab (bg (ki k o m l)),.int .i64 0]) ?_ ?_ 0 () (Nat.zero_le _) trivial
 · rintro i _ M hi _ hM;have ah:=hM () trivial;rw[← qzt (by omega),a02 hi,gd hi] at ah
   have hr:=quf (qjf ra) o[i] (List.getElem_mem _);have xx:=avn (af aa) o m l k hk i hi hr vr.1;have hc:=qgl (l:=fc (ki k o m l) i) (i:=i) (by rw[rh];exact hi)
   have hs:=qio (l:=fc (ki k o m l) i) (i:=i) (by rw[rh];exact hi) (acj k o.length m l o[i] i)
   simp (disch:=omega) only[ir72p0,qe,qf,eq_self,ac,reduceIte,hi,xx,hc,hs,wr,bz,ah]
 · rintro _ M _;have i6:=qme aa (ki k o m l) ry (by omega)
   rw[if_pos (by simp[ej,hv,hlx,la])] at i6
   have he:fc (ki k o m l) o.length=ki k o m l:=by rw[← hlx];exact qsz _
   simp (disch:=omega) only[ir72p0,qe,qf,eq_self,ac,reduceIte,Nat.lt_irrefl,he,i6]
theorem a4z(k:Int):run tb 93 [.int .i64 k]=some [.bool (decide (1≤k∧k≤3))]:=by
 refine qh (x:=ir93) rfl ?_
 by_cases h1:k≥1
 · by_cases h2:k≤3
   · rw[decide_eq_true ⟨h1,h2⟩];simp (disch:=omega) only[ir93,qe,qf,eq_self,ac,reduceIte,h1,h2]
   · rw[decide_eq_false (fun h=>h2 h.2)];simp (disch:=omega) only[ir93,qe,qf,eq_self,ac,reduceIte,h1,h2]
 · rw[decide_eq_false (fun h=>h1 h.1)];simp (disch:=omega) only[ir93,qe,qf,eq_self,ac,reduceIte,h1]
def ckE(aa:List (List UInt8))(ranks:List Int)(k:Int):Int:=if bi aa ranks≠0 then bi aa ranks else if ¬ (1≤k∧k≤3) then 4 else 0
theorem awv(aa:List (List UInt8))(ranks:List Int)(k:Int)(hn:aa.length<1000000000)(hl:ranks.length<1000000000):run tb 71 [af aa,ab ranks,.int .i64 k]=some [.int .i64 (ckE aa ranks k)]:=by
 refine qh (x:=ir71) rfl ?_;have h1:=qlc aa ranks hn hl;have h2:=a4z k;unfold ckE
 by_cases c1:bi aa ranks=0
 · rw[c1] at h1 ⊢;rw[if_neg (by simp)]
   by_cases c2:1≤k∧k≤3
   · rw[decide_eq_true c2] at h2;rw[if_neg (by simp[c2])]
     simp (disch:=omega) only[ir71,qe,qf,eq_self,ac,reduceIte,h1,bw,h2]
   · rw[decide_eq_false c2] at h2;rw[if_pos c2];simp (disch:=omega) only[ir71,qe,qf,eq_self,ac,reduceIte,h1,bw,h2]
 · rw[if_pos c1];simp (disch:=omega) only[ir71,qe,qf,eq_self,ac,reduceIte,h1,bw,c1]
theorem ad8{aa:List (List UInt8)}{ranks:List Int}{f:F}{k:Int}:itE aa ranks f k=if ckE aa ranks k≠0 then ckE aa ranks k else if bv aa f≠0 then bv aa f else if cj aa f=0#64 then 9 else 0:=by
 unfold itE ckE
 by_cases c1:bi aa ranks=0
 · by_cases c2:1≤k∧k≤3<;>simp[c1,c2]
 · simp[c1]
theorem ase{aa:List (List UInt8)}{ranks:List Int}{k:Int}(h:ckE aa ranks k=0):bi aa ranks=0∧(k=1∨k=2∨k=3):=by
 unfold ckE at h
 by_cases c1:bi aa ranks=0
 · refine ⟨c1,?_⟩;rw[if_neg (by simp[c1])] at h
   by_cases c2:1≤k∧k≤3
   · omega
   · rw[if_pos c2] at h;omega
 · rw[if_pos c1] at h;exact absurd h c1
theorem a40(aa:List (List UInt8))(ranks:List Int)(f:F)(k:Int)(hn:aa.length<1000000000)(hl:ranks.length<1000000000)(hf:f.size<1000000000) :
 run tb 39 [af aa,ab ranks,.int .i64 f.op,.str f.name,.sl (F.encs f.args),.int .i64 k]=some (if itE aa ranks f k=0 then [af aa,ab (aa9 aa k ranks (cj aa f)),.int .i64 0] else [.sl [],.sl [],.int .i64 (itE aa ranks f k)]):=by
 refine qh (x:=ir39) rfl ?_;have h1:=awv aa ranks k hn hl;have h2:=qqd aa f hn hf;simp only[aj] at h2
 by_cases c1:ckE aa ranks k=0
 · rw[c1] at h1;obtain ⟨z1,z2⟩:=ase c1
   by_cases c2:bv aa f=0
   · rw[c2] at h2
     by_cases c3:cj aa f=0#64
     · have e:itE aa ranks f k=9:=by rw[ad8];simp[c1,c2,c3]
       rw[c3] at h2;rw[e,if_neg (by decide)]
       simp (disch:=omega) only[ir39,qe,qf,eq_self,ac,reduceIte,bvQ,h1,bw,h2]
     · have e:itE aa ranks f k=0:=by rw[ad8];simp[c1,c2,c3]
       rw[e,if_pos rfl];have h3:=ata aa ranks (cj aa f) k z2 z1;simp (disch:=omega) only[ir39,qe,qf,eq_self,ac,reduceIte,bvQ,h1,bw,h2,c3,h3]
   · have e:itE aa ranks f k=bv aa f:=by rw[ad8];simp[c1,c2]
     rw[e,if_neg c2];simp (disch:=omega) only[ir39,qe,qf,eq_self,ac,reduceIte,bvQ,h1,bw,h2,c2]
 · have e:itE aa ranks f k=ckE aa ranks k:=by rw[ad8];simp[c1]
   rw[e,if_neg c1];simp (disch:=omega) only[ir39,qe,qf,eq_self,ac,reduceIte,bvQ,h1,bw,c1]
def abd:F:=F.mk 4 [] [F.mk 3 [98] []]
theorem qdy:run tb 12 []=some [.bool true]:=by
 refine qh (x:=ir12) rfl ?_;have oy:=qax 2 (by omega)
 have jg:PO.eval (.mk 1 4) [.int .i64 2,.int .i64 1,.int .i64 2,.int .i64 0]=some [ab [2,1,2,0]]:=rfl;have i6:=qme (aq 2) [2,1,2,0] (by rw[qv];omega) (by simp)
 rw[if_pos (by decide +kernel),show bg [2,1,2,0]=[2,1,2,0] by decide +kernel] at i6
 have ak:PO.eval (.row 1) [af (aq 2),.int .i64 1]=some [.str [98]]:=rfl;have a2y:PO.eval (.mk 3 1) [.int .i64 3,.str [98],.sl []]=some [.sl (F.encs [F.mk 3 [98] []])]:=rfl;have hrv:=awh (aq 2) [2,1,2,0] abd (by rw[qv];omega) (by simp) (by decide +kernel)
 have oq:=a40 (aq 2) [2,1,2,0] abd 2 (by rw[qv];omega) (by simp) (by decide +kernel)
 rw[show chE (aq 2) [2,1,2,0] abd=0 by decide +kernel,if_pos rfl,show bq (aq 2) [2,1,2,0] (cj (aq 2) abd)=2#64 by decide +kernel] at hrv
 rw[show itE (aq 2) [2,1,2,0] abd 2=0 by decide +kernel,if_pos rfl,show aa9 (aq 2) 2 [2,1,2,0] (cj (aq 2) abd)=[1,0,3,2] by decide +kernel] at oq
 have hrv:run tb 38 [af (aq 2),ab [2,1,2,0],.int .i64 4,.str [],.sl (F.encs [F.mk 3 [98] []])]=some [bvD 2#64,.int .i64 0]:=hrv;have oq:run tb 39 [af (aq 2),ab [2,1,2,0],.int .i64 4,.str [],.sl (F.encs [F.mk 3 [98] []]),.int .i64 2]=some [af (aq 2),ab [1,0,3,2],.int .i64 0]:=oq;have acd:PO.eval (.mk 1 4) [.int .i64 1,.int .i64 0,.int .i64 3,.int .i64 2]=some [ab [1,0,3,2]]:=rfl;have aho:=avd [1,0,3,2] [1,0,3,2] (by decide)
 rw[decide_eq_true rfl] at aho;have e2:PO.eval (.bin .eql false) [bvD 2#64,.int .u64 2]=some [.bool true]:=rfl;have oy:run tb 3 [.int .i64 2]=some [af (aq 2)]:=oy;simp (disch:=omega) only[ir12,qe,qf,eq_self,ac,reduceIte,oy,jg,i6,ak,a2y,hrv,oq,acd,aho,e2,axl,qzi]
end Go.Proofs.YtefjlhhicgepfaaGreatDoor
