/- What functions of the program compute: lemmas. -/
import Derived.Test.YtoalfckdmoahoaaGreatDoorTt1
set_option linter.unusedSimpArgs false
set_option linter.unusedVariables false
set_option linter.unusedSectionVars false
namespace Go.Proofs.YtoalfckdmoahoaaGreatDoor
open Go Am Go.Proofs Go.RowKit
set_option maxRecDepth 100000
set_option maxHeartbeats 4000000
variable {G:Glob}
theorem qolb (hG:GHyp G) (l0:List Int):CC Tryz.prog G 3 [] [.d (numsD l0)] [] (.d (.bool true)):=by
 obtain ⟨l,hl,hnew⟩:=qgvb l0;obtain ⟨n,p,n1,n2,hp,hrn⟩:=qss 1 2 l 0 hl (by omega) (by omega) (by omega) (by omega)
 obtain ⟨n,rfl⟩:=Int.eq_ofNat_of_zero_le (show 0≤n by omega)
 have hrn:run tb 2 [.int .i64 1,.int .i64 2,numsD l,.int .i64 0]=some [.int .i64 (n:Int),numsD l,.int .i64 p]:=hrn;have hn12:n=1∨n=2:=by have h1:(1:Int)≤n:=n1;have h2:(n:Int)≤2:=n2;omega
 obtain ⟨N,hN⟩:∃ N,N=2^n:=⟨_,rfl⟩;obtain ⟨m,hm⟩:∃ m,m=2^N:=⟨_,rfl⟩;have hN4:N=2∨N=4:=by rcases hn12 with rfl|rfl<;>simp[hN]
 have hm16:m=4∨m=16:=by rcases hN4 with rfl|rfl<;>simp[hm]
 have cvN:IntKind.u64.wrap (n:Int)=(n:Int):=wru n (by omega)
 have shU:IntKind.u64.wrap (1*2^(min n 64))=(N:Int):=by rcases hn12 with rfl|rfl<;>(subst hN;rfl)
 have shN:IntKind.i64.wrap (1*2^(min n 64))=(N:Int):=by rcases hn12 with rfl|rfl<;>(subst hN;rfl)
 have shM:IntKind.i64.wrap (1*2^(min N 64))=(m:Int):=by rcases hN4 with rfl|rfl<;>(subst hm;rfl)
 have zN1:(0:Int)≤(N:Int):=by omega
 have zN2:((8:Nat):Int)*(N:Int)≤281474976710656:=by omega
 have zN3:(N:Int)≤9223372036854775807:=by omega
 have zM1:(0:Int)≤(m:Int):=by omega
 have zM2:((8:Nat):Int)*(m:Int)≤281474976710656:=by omega
 have zM3:(m:Int)≤9223372036854775807:=by omega
 have hz:=And.intro cvN (And.intro shU (And.intro shN (And.intro shM (And.intro zN1 (And.intro zN2 (And.intro zN3 (And.intro zM1 (And.intro zM2 zM3))))))));refine CC.go Tryz.func3 rfl rfl Tryz.ntmps3 (k0:=0) rfl (Nat.le_of_ble_eq_true rfl) (by rfl) (by rfl) ?_
 refine qh ?_;refine qa (by simp only[go_sem];rfl) ?_
 refine qe 1 (by simp only[go_sem];rfl) ?_
 refine qf ?_;refine qd ?_;refine qh ?_;refine qa (by simp only[go_sem];rfl) ?_
 refine qe 1 (by simp only[go_sem];rfl) ?_
 refine qu rfl (by simp only[go_sem]) rfl (by simp only[go_sem];rfl) (by simp only[go_sem];rfl) ?_
 refine qfg [] (r1:=.ptr 0 1 0 0) (hs:=[(0,srB l 0)]) (qtcc hG hnew) rfl rfl rfl (Nat.le_of_ble_eq_true rfl) (Nat.le_of_ble_eq_true rfl) (by simp) rfl rfl (by rfl) rfl rfl ?_
 refine qe 1 (by simp only[go_sem];rfl) ?_
 refine qf ?_;refine qd ?_;refine qh ?_;refine qa (by simp only[go_sem];rfl) ?_
 refine qe 1 (by simp only[go_sem];rfl) ?_
 refine qu rfl (by simp only[go_sem]) rfl (by simp only[go_sem];rfl) (by simp only[go_sem];rfl) ?_
 refine qfg [0] (r1:=iA (n:Int)) (hs:=[(0,srB l p)]) (qlkb hG hrn) rfl rfl rfl (Nat.le_of_ble_eq_true rfl) (Nat.le_of_ble_eq_true rfl) (by simp) rfl rfl (by rfl) rfl rfl ?_
 refine qe 1 (by simp only[go_sem];rfl) ?_
 refine qf ?_;refine qd ?_;refine qh ?_;refine qa (by simp only[go_sem];rfl) ?_
 refine qe 1 (by simp only[go_sem];rfl) ?_
 refine qu rfl (by simp only[go_sem]) rfl (by simp only[go_sem];rfl) (by simp only[go_sem];rfl) ?_
 refine qfc (qocc hG (n:=n) (by omega)) rfl rfl rfl ?_
 refine qe 1 (by simp only[go_sem];rfl) ?_
 refine qf ?_;refine qd ?_;refine qh ?_;refine qa (by simp only[go_sem];rfl) ?_
 refine qe 5 (by simp only[go_sem,hz];rfl) ?_
 refine qf ?_;refine qd ?_;refine qh ?_;refine qa (by simp only[go_sem];rfl) ?_
 refine qe 1 (by simp only[go_sem];rfl) ?_
 refine qf ?_;refine qwc (Ent.ghost (t:=7) 32 2 rfl) ?_;refine qh ?_;refine qh ?_;refine qa (by simp only[go_sem];rfl) ?_
 refine qe 1 (by simp only[go_sem];rfl) ?_
 refine qf ?_;refine qd ?_;refine qfb ?_;refine qsf (ι:=Nat × List OO) (fun (x:Nat × List OO)=>(match x with|(q,os)=>⟨Am.tl [.junk,.junk,.junk,.ptr 0 1 0 0,iA n,.d (strsD (vocN n)),iA m,.own 1 os.length 0 os.length,iA os.length],Am.hl [some (srB l q),some (ordB os)],2,239⟩)) (fun x=>match x with|(q,os)=>q≤l.length∧os.length≤m∧∀ i (h:i<os.length),FitO n (BitVec.ofNat 64 i) os[i]) (fun x=>match x with|(q,os)=>m-os.length) (p,[]) ?_ ?_ ?_
 · refine Ent.cut (Nat.le_of_ble_eq_true rfl) (Nat.le_of_ble_eq_true rfl) (.junk (.junk (.junk (.keep rfl rfl (.keep rfl rfl (.keep rfl rfl (.keep rfl rfl (.keep rfl rfl (.keep rfl rfl (.nil _)))))))))) rfl (.cons (rfl) (.cons (rfl) (.nil _ _))) (by simp only[List.all_cons,List.all_nil,srB,ordB,qv,Bool.and_true,AV.inK])
 · exact ⟨hp,Nat.zero_le _,fun i h=>by cases h⟩
 · rintro ⟨q,os⟩ ⟨hq,hom,hfit⟩
   try dsimp only at ⟨hq,hom,hfit⟩
   dsimp only
   refine qh ?_;refine qh ?_;refine qa (by simp only[go_sem];rfl) ?_
   refine qe 3 (by simp only[go_sem];rfl) ?_
   refine qf ?_;refine qd ?_;refine qtc (by simp only[go_sem];rfl) (fun c0=>?_) (fun c0=>?_)
   · skip
     have hk:os.length<m:=by simpa using c0
     have z1:(os.length+1)*48≤140737488355328:=by omega
     have z2:os.length≤9223372036854775806:=by omega
     have hw2:IntKind.i64.wrap ((os.length:Int)+1)=((os.length+1:Nat):Int):=by rw[wr (by omega) (by omega)];rfl
     refine qqc ?_;refine qd ?_;refine qh ?_;refine qfb ?_;refine qh ?_;refine qa (by simp only[go_sem];rfl) ?_
     refine qe 5 (by simp only[go_sem,hz,c0];rfl) ?_
     refine qf ?_;refine qd ?_;refine qh ?_;refine qh ?_;refine qa (by simp only[go_sem];rfl) ?_
     refine qe 3 (by simp only[go_sem];rfl) ?_
     refine qf ?_;refine qd ?_;refine qfb ?_;refine qsf (ι:=Nat × List Int × Nat) (fun (x:Nat × List Int × Nat)=>(match x with|(v,rs,q)=>⟨Am.tl [.junk,.junk,.junk,.ptr 0 1 0 0,iA n,.d (strsD (vocN n)),iA m,.own 1 os.length 0 os.length,iA os.length,.own 2 N 0 N,.junk,.junk,.junk,.junk,.junk,.junk,.junk,.junk,.junk,.junk,.junk,.junk,.junk,.junk,.junk,.junk,.junk,.junk,.junk,.junk,.junk,.junk,.junk,.junk,.junk,.junk,.junk,.junk,.junk,.junk,.junk,.junk,.junk,.junk,.junk,.junk,.junk,.junk,.junk,.junk,iA N,iA v],Am.hl [some (srB l q),some (ordB os),some (rwB rs)],3,239⟩)) (fun x=>match x with|(v,rs,q)=>q≤l.length∧rs.length=N∧v≤N∧RkP N (BitVec.ofNat 64 os.length) v rs) (fun x=>match x with|(v,rs,q)=>N-v) (0,List.replicate N 0,q) ?_ ?_ ?_
     · refine Ent.cut (Nat.le_of_ble_eq_true rfl) (Nat.le_of_ble_eq_true rfl) (.junk (.junk (.junk (.keep rfl rfl (.keep rfl rfl (.keep rfl rfl (.keep rfl rfl (.keep rfl rfl (.keep rfl rfl (.keep rfl rfl (.junk (.junk (.junk (.junk (.junk (.junk (.junk (.junk (.junk (.junk (.junk (.junk (.junk (.junk (.junk (.junk (.junk (.junk (.junk (.junk (.junk (.junk (.junk (.junk (.junk (.junk (.junk (.junk (.junk (.junk (.junk (.junk (.junk (.junk (.junk (.junk (.junk (.junk (.junk (.junk (.keep rfl rfl (.keep rfl rfl (.nil _))))))))))))))))))))))))))))))))))))))))))))))))))))) rfl (.cons (rfl) (.cons (rfl) (.cons (by rw[rwB,← qqqb];rfl) (.nil _ _)))) (by simp only[List.all_cons,List.all_nil,srB,ordB,rwB,qv,qif,Bool.and_true,AV.inK])
     · exact ⟨hq,by simp,Nat.zero_le _,qymb⟩
     · rintro ⟨v,rs,q⟩ ⟨hq,hrl,hv,hrs⟩
       try dsimp only at ⟨hq,hrl,hv,hrs⟩
       dsimp only
       refine qh ?_;refine qa (by simp only[go_sem];rfl) ?_
       refine qe 1 (by simp only[go_sem];rfl) ?_
       refine qf ?_;refine qd ?_;refine qh ?_;refine qtc (by simp only[go_sem];rfl) (fun c1=>?_) (fun c1=>?_)
       · skip
         have hv1:v<N:=by simpa using c1
         have hvi:(v:Int)<(N:Int):=by omega
         have hcv:IntKind.u64.wrap (v:Int)=(v:Int):=wru v (by omega)
         have hbit:=qxcc os.length (by omega) v (by omega)
         have hw1:IntKind.i64.wrap ((v:Int)+1)=((v+1:Nat):Int):=by rw[wr (by omega) (by omega)];rfl
         refine qqc ?_;refine qd ?_;refine qh ?_;refine qfb ?_;refine qh ?_;refine qa (by simp only[go_sem];rfl) ?_
         refine qe 2 (by simp only[go_sem,hvi];rfl) ?_
         refine qf ?_;refine qd ?_;refine qh ?_;refine qa (by simp only[go_sem];rfl) ?_
         refine qe 6 (by simp only[go_sem,hcv];rfl) ?_
         refine qf ?_;refine qd ?_;refine qtc (by simp only[go_sem];rfl) (fun c2=>?_) (fun c2=>?_)
         · skip
           obtain ⟨x,q1,x0,x1,hq1,hx⟩:=qiwb 4 l q hl hq (by omega) (by omega)
           have hx1:IntKind.i64.wrap (1+x)=1+x:=wr (by omega) (by omega)
           have hb0:(BitVec.ofNat 64 os.length).getLsbD v=false:=by have hz:=hbit.symm.trans c2;simpa using hz
           have hrow:=qjfb (r:=rs) (k:=v) (by omega)
           obtain ⟨rs1,hrs1⟩:∃ rs1,rs1=rs.set v (1+x):=⟨_,rfl⟩;have hrl1:rs1.length=N:=by rw[hrs1,List.length_set];exact hrl
           have hRk:RkP N (BitVec.ofNat 64 os.length) (v+1) rs1:=by rw[hrs1];exact qytb hrs hb0 hrl hv1 x0
           refine qa (by simp only[go_sem];rfl) ?_
           refine qe 3 (by simp only[go_sem,c2];rfl) ?_
           refine qu rfl (by simp only[go_sem]) rfl (by simp only[go_sem];rfl) (by simp only[go_sem];rfl) ?_
           refine qfg [0] (r1:=iA x) (hs:=[(0,srB l q1)]) (nn_c hG hx) rfl rfl rfl (Nat.le_of_ble_eq_true rfl) (Nat.le_of_ble_eq_true rfl) (by simp) rfl rfl (by rfl) rfl rfl ?_
           refine qe 3 (by simp only[go_sem,hvi,hrl,hx1,hrow];rfl) ?_
           refine qf ?_;refine qq ?_;refine qd ?_;refine qa (by simp only[go_sem];rfl) ?_
           refine qe 2 (by simp only[go_sem,hw1];rfl) ?_
           refine qf ?_;refine qzb (v+1,rs1,q1) ?_ ?_ ?_
           · refine Ent.cut (Nat.le_of_ble_eq_true rfl) (Nat.le_of_ble_eq_true rfl) (.junk (.junk (.junk (.keep rfl rfl (.keep rfl rfl (.keep rfl rfl (.keep rfl rfl (.keep rfl rfl (.keep rfl rfl (.keep rfl rfl (.junk (.junk (.junk (.junk (.junk (.junk (.junk (.junk (.junk (.junk (.junk (.junk (.junk (.junk (.junk (.junk (.junk (.junk (.junk (.junk (.junk (.junk (.junk (.junk (.junk (.junk (.junk (.junk (.junk (.junk (.junk (.junk (.junk (.junk (.junk (.junk (.junk (.junk (.junk (.junk (.keep rfl rfl (.keep rfl rfl (.nil _))))))))))))))))))))))))))))))))))))))))))))))))))))) rfl (.cons (rfl) (.cons (rfl) (.cons (by first|rfl|(rw[hrs1,rwB,← qvy];rfl)) (.nil _ _)))) (by simp only[List.all_cons,List.all_nil,srB,ordB,rwB,qv,qif,Bool.and_true,AV.inK])
           · exact ⟨hq1,hrl1,hv1,hRk⟩
           · omega
         · skip
           have hb1:(BitVec.ofNat 64 os.length).getLsbD v=true:=by have hz:=hbit.symm.trans c2;simpa using hz
           have hRk:=qtmb hrs hb1;have hrl1:=hrl;have hq1:=hq;generalize q=q1 at *;generalize rs=rs1 at *;refine qqc ?_;refine qq ?_;refine qd ?_;refine qa (by simp only[go_sem];rfl) ?_
           refine qe 2 (by simp only[go_sem,hw1,c2];rfl) ?_
           refine qf ?_;refine qzb (v+1,rs1,q1) ?_ ?_ ?_
           · refine Ent.cut (Nat.le_of_ble_eq_true rfl) (Nat.le_of_ble_eq_true rfl) (.junk (.junk (.junk (.keep rfl rfl (.keep rfl rfl (.keep rfl rfl (.keep rfl rfl (.keep rfl rfl (.keep rfl rfl (.keep rfl rfl (.junk (.junk (.junk (.junk (.junk (.junk (.junk (.junk (.junk (.junk (.junk (.junk (.junk (.junk (.junk (.junk (.junk (.junk (.junk (.junk (.junk (.junk (.junk (.junk (.junk (.junk (.junk (.junk (.junk (.junk (.junk (.junk (.junk (.junk (.junk (.junk (.junk (.junk (.junk (.junk (.keep rfl rfl (.keep rfl rfl (.nil _))))))))))))))))))))))))))))))))))))))))))))))))))))) rfl (.cons (rfl) (.cons (rfl) (.cons (by first|rfl|(rw[hrs1,rwB,← qvy];rfl)) (.nil _ _)))) (by simp only[List.all_cons,List.all_nil,srB,ordB,rwB,qv,qif,Bool.and_true,AV.inK])
           · exact ⟨hq1,hrl1,hv1,hRk⟩
           · omega
       · skip
         refine qci ?_;refine qmg (qwe (qme ?_));have hvN:N=v:=by simp at c1;omega
         subst hvN;refine qwc (s':=⟨Am.tl [.junk,.junk,.junk,.ptr 0 1 0 0,iA n,.d (strsD (vocN n)),iA m,.own 1 os.length 0 os.length,iA os.length,.d (numsD rs)],Am.hl [some (srB l q),some (ordB os)],2,239⟩) ((Ent.frz (t:=9) (b:=2) (xs:=rs.map numR) rfl rfl rfl (by simp[hrl])).trans (Ent.cut (Nat.le_of_ble_eq_true rfl) (Nat.le_of_ble_eq_true rfl) (.junk (.junk (.junk (.keep rfl rfl (.keep rfl rfl (.keep rfl rfl (.keep rfl rfl (.keep rfl rfl (.keep rfl rfl (.keep rfl rfl (.nil _))))))))))) rfl (.cons (rfl) (.cons (rfl) (.nil _ _))) (by simp only[List.all_cons,List.all_nil,srB,ordB,qv,Bool.and_true,AV.inK]))) ?_
         refine qh ?_;refine qa (by simp only[go_sem];rfl) ?_
         refine qe 2 (by simp only[go_sem];rfl) ?_
         refine qu rfl (by simp only[go_sem]) rfl (by simp only[go_sem];rfl) (by simp only[go_sem];rfl) ?_
         have hfo:FitO n (BitVec.ofNat 64 os.length) (vocN n,normS rs):=qdyb hn12 hN hm hk hrl hrs;refine qfc (qabc hG (o:=(vocN n,normS rs)) (qjqb hn12 hN hrl)) rfl rfl rfl ?_;refine qe 6 (by simp only[go_sem];rfl) ?_
         refine qf ?_;refine qd ?_;refine qh ?_;refine qh ?_;refine qa (by simp only[go_sem];rfl) ?_
         refine qe 2 (by simp only[go_sem];rfl) ?_
         refine qf ?_;refine qd ?_;refine qbd (by simp only[go_sem]) ?_
         refine qqc ?_;refine qd ?_;refine qa (by simp only[go_sem];rfl) ?_
         refine qe 5 (by simp only[go_sem,z1,z2];rfl) ?_
         refine qf ?_;refine qq ?_;refine qd ?_;refine qa (by simp only[go_sem];rfl) ?_
         refine qe 3 (by simp only[go_sem,hw2];rfl) ?_
         refine qf ?_;refine qzb (q,os++[(vocN n,normS rs)]) ?_ ?_ ?_
         · refine Ent.cut (Nat.le_of_ble_eq_true rfl) (Nat.le_of_ble_eq_true rfl) (.junk (.junk (.junk (.keep rfl rfl (.keep rfl rfl (.keep rfl rfl (.keep rfl rfl (.keepE (by simp only[go_sem];rfl) (by rw[List.length_append];rfl) rfl (.keepE (by simp only[go_sem];rfl) (by rw[List.length_append];rfl) rfl (.nil _)))))))))) rfl (.cons (rfl) (.cons (by first|rfl|(rw[ordB,qnn];rfl)) (.nil _ _))) (by simp only[List.all_cons,List.all_nil,srB,ordB,qv,Bool.and_true,AV.inK])
         · refine ⟨hq,by rw[List.length_append];exact hk,fun i hi=>?_⟩
           by_cases hi2:i<os.length
           · rw[List.getElem_append_left hi2];exact hfit i hi2
           · have:i=os.length:=by simp at hi;omega
             subst this;rw[List.getElem_append_right (Nat.le_refl _)];simp only[Nat.sub_self,List.getElem_cons_zero];exact hfo
         · (simp only[List.length_append,List.length_cons,List.length_nil])<;>omega
   · skip
     have hmo:os.length=m:=by simp at c0;omega
     have hTS:TS n N m os:=⟨hn12,hN,hm,hmo,hfit⟩;obtain ⟨wh,q2,w0,w1,hq2,hwh⟩:=qiwb 4 l q hl hq (by omega) (by omega)
     obtain ⟨wh,rfl⟩:=Int.eq_ofNat_of_zero_le w0;have hwh:run tb 4 [.int .i64 4,numsD l,.int .i64 q]=some [.int .i64 (wh:Int),numsD l,.int .i64 q2]:=hwh;obtain ⟨d,q3,d1,d3,hq3,hd⟩:=qss 1 3 l q2 hl hq2 (by omega) (by omega) (by omega)
     have hw4:wh<4:=by omega
     have hwl:(wh:Int)<((4:Nat):Int):=by omega
     have hw00:(0:Int)≤(wh:Int):=by omega
     have hkd:=qgtb hw4;obtain ⟨V,hVd⟩:∃ V,V=rowW n m wh os d:=⟨_,rfl⟩;obtain ⟨W,hWd⟩:∃ W,W=tabW n m wh os d:=⟨_,rfl⟩;have hVl:∀ k,(V k).length=m:=fun k=>by rw[hVd];simp[rowW]
     have hVg:∀ k i,i<m→(V k).getD i 0=((entW n wh os d k i).toNat:Int):=fun k i hi=>by rw[hVd];simp[rowW,hi]
     have hW0:W 0=[]:=by rw[hWd];rfl
     have hWs:∀ k,W (k+1)=W k++[V k]:=fun k=>by rw[hWd,hVd];simp[tabW,List.range_succ]
     have hWl:∀ k,(W k).length=k:=fun k=>by rw[hWd];simp[tabW]
     have cvM:IntKind.u64.wrap (m:Int)=(m:Int):=wru m (by omega)
     refine qci ?_;refine qmg (qwe (qme ?_));refine qd ?_;refine qh ?_;refine qa (by simp only[go_sem];rfl) ?_
     refine qe 1 (by simp only[go_sem,c0];rfl) ?_
     refine qu rfl (by simp only[go_sem]) rfl (by simp only[go_sem];rfl) (by simp only[go_sem];rfl) ?_
     refine qfg [0] (r1:=iA (wh:Int)) (hs:=[(0,srB l q2)]) (nn_c hG hwh) rfl rfl rfl (Nat.le_of_ble_eq_true rfl) (Nat.le_of_ble_eq_true rfl) (by simp) rfl rfl (by rfl) rfl rfl ?_
     refine qe 1 (by simp only[go_sem];rfl) ?_
     refine qu rfl (by simp only[go_sem]) rfl (by simp only[go_sem];rfl) (by simp only[go_sem];rfl) ?_
     refine qfg [0] (r1:=iA d) (hs:=[(0,srB l q3)]) (qlkb hG hd) rfl rfl rfl (Nat.le_of_ble_eq_true rfl) (Nat.le_of_ble_eq_true rfl) (by simp) rfl rfl (by rfl) rfl rfl ?_
     refine qe 2 (by simp only[go_sem];rfl) ?_
     refine qf ?_;refine qd ?_;refine qh ?_;refine qa (by simp only[go_sem];rfl) ?_
     refine qe 5 (by simp only[go_sem,hwl,hw00,hkd];rfl) ?_
     refine qf ?_;refine qwc (s':=⟨Am.tl [.junk,.junk,.junk,.ptr 0 1 0 0,iA n,.d (strsD (vocN n)),iA m,.own 1 os.length 0 os.length,.junk,.junk,.junk,.junk,.junk,iA (wh:Int),iA d,iA (kdT wh)],Am.hl [some (srB l q3),some (ordB os)],2,239⟩) (Ent.cut (Nat.le_of_ble_eq_true rfl) (Nat.le_of_ble_eq_true rfl) (.junk (.junk (.junk (.keep rfl rfl (.keep rfl rfl (.keep rfl rfl (.keep rfl rfl (.keep rfl rfl (.junk (.junk (.junk (.junk (.junk (.keep rfl rfl (.keep rfl rfl (.keep rfl rfl (.nil _))))))))))))))))) rfl (.cons (rfl) (.cons (rfl) (.nil _ _))) (by simp only[List.all_cons,List.all_nil,srB,ordB,qv,Bool.and_true,AV.inK])) ?_
     refine qh ?_;refine qa (by simp only[go_sem];rfl) ?_
     refine qe 4 (by simp only[go_sem];rfl) ?_
     refine qf ?_;refine qwc ((Ent.ghostH 2 0 1 22 1 rfl (Nat.le_of_ble_eq_true rfl) (Nat.le_of_ble_eq_true rfl) rfl).trans (Ent.up (nx':=5) (Nat.le_of_ble_eq_true rfl))) ?_;refine qh ?_;refine qh ?_;refine qa (by simp only[go_sem];rfl) ?_
     refine qe 1 (by simp only[go_sem];rfl) ?_
     refine qf ?_;refine qd ?_;refine qfb ?_;refine qsf (ι:=Nat) (fun (x:Nat)=>(match x with|k=>⟨Am.tl [.junk,.junk,.junk,.junk,iA n,.d (strsD (vocN n)),iA m,.own 1 os.length 0 os.length,.junk,.junk,.junk,.junk,.junk,iA (wh:Int),iA d,iA (kdT wh),.ptr 2 1 0 0,iA (k:Int)],Am.hl [some (srB l q3),some (ordB os),some (tabB n k),some (rwsB (W k)),rw0 (W k)],5,239⟩)) (fun x=>match x with|k=>k≤m) (fun x=>match x with|k=>m-k) 0 ?_ ?_ ?_
     · refine Ent.cut (Nat.le_of_ble_eq_true rfl) (Nat.le_of_ble_eq_true rfl) (.junk (.junk (.junk (.junk (.keep rfl rfl (.keep rfl rfl (.keep rfl rfl (.keep rfl rfl (.junk (.junk (.junk (.junk (.junk (.keep rfl rfl (.keep rfl rfl (.keep rfl rfl (.keep rfl rfl (.keep rfl rfl (.nil _))))))))))))))))))) rfl (.cons (rfl) (.cons (rfl) (.cons (rfl) (.cons (by rw[hW0];rfl) (.cons (by rw[hW0];rfl) (.nil _ _)))))) (by rcases W 0 with _|⟨r9,R9⟩<;>simp only[List.all_cons,List.all_nil,srB,ordB,rwB,tabB,rwsB,rw0,qv,qif,qbc (show 4<5 by decide),Bool.and_true,AV.inK]<;>rfl)
     · exact Nat.zero_le _
     · rintro k hkm
       try dsimp only at hkm
       dsimp only
       refine qh ?_;refine qh ?_;refine qa (by simp only[go_sem];rfl) ?_
       refine qe 3 (by simp only[go_sem];rfl) ?_
       refine qf ?_;refine qd ?_;refine qtc (by simp only[go_sem];rfl) (fun c4=>?_) (fun c4=>?_)
       · skip
         have hk:k<m:=by simpa using c4
         have hbk:=qnp (x:=k) (by omega)
         obtain ⟨g,hg⟩:∃ g,g=thy (vocN n) (BitVec.ofNat 64 k):=⟨_,rfl⟩;have hov:=qasb (G:=G) hG (n:=n) (by omega) (BitVec.ofNat 64 k)
         rw[← hg] at hov;have hkw:IntKind.i64.wrap ((k:Int)+1)=((k+1:Nat):Int):=by rw[wr (by omega) (by omega)];rfl
         have hko:(k:Int)<(os.length:Int):=by omega
         have hro:=qtx (os:=os) (k:=k) (by omega)
         refine qqc ?_;refine qd ?_;refine qh ?_;refine qfb ?_;refine qh ?_;refine qa (by simp only[go_sem];rfl) ?_
         refine qe 3 (by simp only[go_sem,c4,hbk];rfl) ?_
         refine qu rfl (by simp only[go_sem]) rfl (by simp only[go_sem];rfl) (by simp only[go_sem];rfl) ?_
         refine qfc (hov) rfl rfl rfl ?_;refine qe 6 (by simp only[go_sem];rfl) ?_
         refine qf ?_;refine qwc (Ent.box (t:=18) (b:=5) (row:=[.int .i64 g.op,.str g.name,.sl (F.encs g.args)]) rfl rfl rfl) ?_;refine qh ?_;refine qa (by simp only[go_sem];rfl) ?_
         refine qe 3 (by simp only[go_sem,hz];rfl) ?_
         refine qf ?_;refine qd ?_;refine qh ?_;refine qh ?_;refine qa (by simp only[go_sem];rfl) ?_
         refine qe 1 (by simp only[go_sem];rfl) ?_
         refine qf ?_;refine qd ?_;refine qfb ?_;refine qsf (ι:=Nat) (fun (x:Nat)=>(match x with|i=>⟨Am.tl [.junk,.junk,.junk,.junk,iA n,.d (strsD (vocN n)),iA m,.own 1 os.length 0 os.length,.junk,.junk,.junk,.junk,.junk,iA (wh:Int),iA d,iA (kdT wh),.ptr 2 1 0 0,iA (k:Int),.eptr [.int .i64 g.op,.str g.name,.sl (F.encs g.args)],.d (.bool true),.own 6 m 0 m,iA (i:Int)],Am.hl [some (srB l q3),some (ordB os),some (tabB n k),some (rwsB (W k)),rw0 (W k),some (boxF g),some (rwB (fil (V k) i))],7,239⟩)) (fun x=>match x with|i=>i≤m) (fun x=>match x with|i=>m-i) 0 ?_ ?_ ?_
         · refine Ent.cut (Nat.le_of_ble_eq_true rfl) (Nat.le_of_ble_eq_true rfl) (.junk (.junk (.junk (.junk (.keep rfl rfl (.keep rfl rfl (.keep rfl rfl (.keep rfl rfl (.junk (.junk (.junk (.junk (.junk (.keep rfl rfl (.keep rfl rfl (.keep rfl rfl (.keep rfl rfl (.keep rfl rfl (.keep rfl rfl (.keep rfl rfl (.keep rfl rfl (.keep rfl rfl (.nil _))))))))))))))))))))))) rfl (.cons (rfl) (.cons (rfl) (.cons (rfl) (.cons (rfl) (.cons (rfl) (.cons (rfl) (.cons (by rw[rwB,← qwob,hVl,← qqqb];rfl) (.nil _ _)))))))) (by rcases W k with _|⟨r9,R9⟩<;>simp only[List.all_cons,List.all_nil,srB,ordB,rwB,tabB,boxF,rwsB,rw0,qv,qif,qbc (show 4<7 by decide),Bool.and_true,AV.inK]<;>rfl)
         · exact Nat.zero_le _
         · rintro i him
           try dsimp only at him
           dsimp only
           refine qh ?_;refine qh ?_;refine qa (by simp only[go_sem];rfl) ?_
           refine qe 4 (by simp only[go_sem];rfl) ?_
           refine qiob 106 (by simp only[go_sem];rfl) (fun g5=>?_) (fun g5=>?_)
           · skip
             have hi:i<m:=by simpa using g5
             have hbi:=qnp (x:=i) (by omega)
             obtain ⟨f,hf⟩:∃ f,f=thy (vocN n) (BitVec.ofNat 64 i):=⟨_,rfl⟩;have hof:=qasb (G:=G) hG (n:=n) (by omega) (BitVec.ofNat 64 i)
             rw[← hf] at hof;obtain ⟨ex,hx⟩:∃ ex,ex=entW n wh os d k i:=⟨_,rfl⟩;have hxl:ex.toNat<m:=by rw[hx];exact hTS.entLt hk hi
             have hge:((ex.toNat:Int)≥(m:Int))=False:=eq_false (by omega)
             have hxw:IntKind.i64.wrap (ex.toNat:Int)=(ex.toNat:Int):=wr (by omega) (by omega)
             have hiw:IntKind.i64.wrap ((i:Int)+1)=((i+1:Nat):Int):=by rw[wr (by omega) (by omega)];rfl
             have hil:(i:Int)<(m:Int):=by omega
             have hfl:(fil (V k) i).length=m:=by rw[qkxb,hVl]
             have hrw:=qjfb (r:=fil (V k) i) (k:=i) (by rw[hfl];exact hi)
             have hVx:=hVg k i hi;rw[← hx] at hVx;refine qe 2 (by simp only[go_sem,hil];rfl) ?_
             refine qf ?_;refine qd ?_;refine qye (by simp only[go_sem]) ?_
             refine qqc ?_;refine qd ?_;refine qh ?_;refine qfb ?_;refine qh ?_;refine qa (by simp only[go_sem];rfl) ?_
             refine qe 3 (by simp only[go_sem,hbi];rfl) ?_
             refine qu rfl (by simp only[go_sem]) rfl (by simp only[go_sem];rfl) (by simp only[go_sem];rfl) ?_
             refine qfc (hof) rfl rfl rfl ?_;refine qe 6 (by simp only[go_sem];rfl) ?_
             refine qf ?_;refine qwc (s':=⟨Am.tl [.junk,.junk,.junk,.junk,iA n,.d (strsD (vocN n)),iA m,.own 1 os.length 0 os.length,.junk,.junk,.junk,.junk,.junk,iA (wh:Int),iA d,iA (kdT wh),.ptr 2 1 0 0,iA (k:Int),.eptr [.int .i64 g.op,.str g.name,.sl (F.encs g.args)],.d (.bool true),.own 6 m 0 m,iA (i:Int),.eptr [.int .i64 f.op,.str f.name,.sl (F.encs f.args)],.d (.bool true)],Am.hl [some (srB l q3),some (ordB os),some (tabB n k),some (rwsB (W k)),rw0 (W k),some (boxF g),some (rwB (fil (V k) i))],7,239⟩) ((Ent.box (t:=22) (b:=7) (row:=[.int .i64 f.op,.str f.name,.sl (F.encs f.args)]) rfl rfl rfl).trans (Ent.cut (Nat.le_of_ble_eq_true rfl) (Nat.le_of_ble_eq_true rfl) (.junk (.junk (.junk (.junk (.keep rfl rfl (.keep rfl rfl (.keep rfl rfl (.keep rfl rfl (.junk (.junk (.junk (.junk (.junk (.keep rfl rfl (.keep rfl rfl (.keep rfl rfl (.keep rfl rfl (.keep rfl rfl (.keep rfl rfl (.keep rfl rfl (.keep rfl rfl (.keep rfl rfl (.keep rfl rfl (.keep rfl rfl (.nil _))))))))))))))))))))))))) rfl (.cons (rfl) (.cons (rfl) (.cons (rfl) (.cons (rfl) (.cons (rfl) (.cons (rfl) (.cons (rfl) (.nil _ _)))))))) (by rcases W k with _|⟨r9,R9⟩<;>simp only[List.all_cons,List.all_nil,srB,ordB,rwB,tabB,boxF,rwsB,rw0,qv,qif,qbc (show 4<7 by decide),Bool.and_true,AV.inK]<;>rfl))) ?_
             refine qh ?_;refine qa (by simp only[go_sem];rfl) ?_
             refine qe 2 (by simp only[go_sem];rfl) ?_
             refine qf ?_;refine qd ?_;refine qey (ι:=Unit) (fun (x:Unit)=>(match x with|_=>⟨Am.tl [.junk,.junk,.junk,.junk,iA n,.d (strsD (vocN n)),iA m,.own 1 os.length 0 os.length,.junk,.junk,.junk,.junk,.junk,iA (wh:Int),iA d,iA (kdT wh),.ptr 2 1 0 0,iA (k:Int),.eptr [.int .i64 g.op,.str g.name,.sl (F.encs g.args)],.d (.bool true),.own 6 m 0 m,iA (i:Int),.eptr [.int .i64 f.op,.str f.name,.sl (F.encs f.args)],.d (.bool true),bA ex,iA 0],Am.hl [some (srB l q3),some (ordB os),some (tabB n k),some (rwsB (W k)),rw0 (W k),some (boxF g),some (rwB (fil (V k) i))],7,239⟩)) (fun x=>match x with|_=>True) ?_ ?_
             · rintro ⟨⟩ hJ
               try dsimp only at hJ
               dsimp only
               refine qh ?_;refine qh ?_;refine qa (by simp only[go_sem];rfl) ?_
               refine qe 12 (by simp only[go_sem,hge,cvM];rfl) ?_
               refine qf ?_;refine qd ?_;refine qbd (by simp only[go_sem]) ?_
               refine qqc ?_;refine qd ?_;refine qa (by simp only[go_sem];rfl) ?_
               refine qe 6 (by simp only[go_sem,hxw,hil,hfl,hrw];rfl) ?_
               refine qf ?_;refine qq ?_;refine qd ?_;refine qa (by simp only[go_sem];rfl) ?_
               refine qe 3 (by simp only[go_sem,hiw];rfl) ?_
               refine qf ?_;refine qzb (i+1) ?_ ?_ ?_
               · refine Ent.cut (Nat.le_of_ble_eq_true rfl) (Nat.le_of_ble_eq_true rfl) (.junk (.junk (.junk (.junk (.keep rfl rfl (.keep rfl rfl (.keep rfl rfl (.keep rfl rfl (.junk (.junk (.junk (.junk (.junk (.keep rfl rfl (.keep rfl rfl (.keep rfl rfl (.keep rfl rfl (.keep rfl rfl (.keep rfl rfl (.keep rfl rfl (.keep rfl rfl (.keep rfl rfl (.nil _))))))))))))))))))))))) rfl (.cons (rfl) (.cons (rfl) (.cons (rfl) (.cons (rfl) (.cons (rfl) (.cons (rfl) (.cons (by first|rfl|(rw[rwB,← qeob (by rw[hVl];exact hi),hVx,← qvy];rfl)) (.nil _ _)))))))) (by rcases W k with _|⟨r9,R9⟩<;>simp only[List.all_cons,List.all_nil,srB,ordB,rwB,tabB,boxF,rwsB,rw0,qv,qif,qbc (show 4<7 by decide),Bool.and_true,AV.inK]<;>rfl)
               · exact hi
               · omega
             · skip
               refine qfb ?_;refine qh ?_;refine qa (by simp only[go_sem];rfl) ?_
               refine qe 3 (by simp only[go_sem];rfl) ?_
               refine qf ?_;refine qd ?_;refine qtc (by simp only[go_sem];rfl) (fun c8=>?_) (fun c8=>?_)
               · skip
                 have hcc:(wh:Int)=0:=by simpa using c8
                 have w0:wh=0:=by omega
                 have hrv:=qryb (d:=d) hTS hk hi w0;rw[← hf,← hx] at hrv;refine qke (by kernel_rfl) (by simp only[go_sem];rfl) ?_
                 refine qse 5 (by simp only[go_sem,hko,hro,c8];rfl) ?_
                 refine qbg rfl (by simp only[go_sem]) rfl (by simp only[go_sem];rfl) (by simp only[go_sem];rfl) ?_
                 refine qfc (qgcc hG (o:=os.getD k ([],[])) hrv) rfl rfl rfl ?_;refine qse 5 (by simp only[go_sem];rfl) ?_
                 refine qqi 18 (by kernel_rfl) ?_
                 refine qq ?_;refine qxb () ?_ ?_
                 · refine Ent.cut (Nat.le_of_ble_eq_true rfl) (Nat.le_of_ble_eq_true rfl) (.junk (.junk (.junk (.junk (.keep rfl rfl (.keep rfl rfl (.keep rfl rfl (.keep rfl rfl (.junk (.junk (.junk (.junk (.junk (.keep rfl rfl (.keep rfl rfl (.keep rfl rfl (.keep rfl rfl (.keep rfl rfl (.keep rfl rfl (.keep rfl rfl (.keep rfl rfl (.keep rfl rfl (.keep rfl rfl (.keep rfl rfl (.keep rfl rfl (.keep rfl rfl (.nil _))))))))))))))))))))))))))) rfl (.cons (rfl) (.cons (rfl) (.cons (rfl) (.cons (rfl) (.cons (rfl) (.cons (rfl) (.cons (rfl) (.nil _ _)))))))) (by rcases W k with _|⟨r9,R9⟩<;>simp only[List.all_cons,List.all_nil,srB,ordB,rwB,tabB,boxF,rwsB,rw0,qv,qif,qbc (show 4<7 by decide),Bool.and_true,AV.inK]<;>rfl)
                 · trivial
               · skip
                 have n0:wh≠0:=fun e=>by subst e;simp at c8
                 refine qh ?_;refine qa (by simp only[go_sem];rfl) ?_
                 refine qe 3 (by simp only[go_sem,c8];rfl) ?_
                 refine qf ?_;refine qd ?_;refine qtc (by simp only[go_sem];rfl) (fun c9=>?_) (fun c9=>?_)
                 · skip
                   have hcc:(wh:Int)=1:=by simpa using c9
                   have w1:wh=1:=by omega
                   have hrv:=qxyb (d:=d) hTS hk hi w1;rw[← hf,← hx] at hrv;refine qke (by kernel_rfl) (by simp only[go_sem];rfl) ?_
                   refine qse 5 (by simp only[go_sem,hko,hro,c9];rfl) ?_
                   refine qbg rfl (by simp only[go_sem]) rfl (by simp only[go_sem];rfl) (by simp only[go_sem];rfl) ?_
                   refine qfc (qncc hG (o:=os.getD k ([],[])) hrv) rfl rfl rfl ?_;refine qse 5 (by simp only[go_sem];rfl) ?_
                   refine qqi 18 (by kernel_rfl) ?_
                   refine qq ?_;refine qxb () ?_ ?_
                   · refine Ent.cut (Nat.le_of_ble_eq_true rfl) (Nat.le_of_ble_eq_true rfl) (.junk (.junk (.junk (.junk (.keep rfl rfl (.keep rfl rfl (.keep rfl rfl (.keep rfl rfl (.junk (.junk (.junk (.junk (.junk (.keep rfl rfl (.keep rfl rfl (.keep rfl rfl (.keep rfl rfl (.keep rfl rfl (.keep rfl rfl (.keep rfl rfl (.keep rfl rfl (.keep rfl rfl (.keep rfl rfl (.keep rfl rfl (.keep rfl rfl (.keep rfl rfl (.nil _))))))))))))))))))))))))))) rfl (.cons (rfl) (.cons (rfl) (.cons (rfl) (.cons (rfl) (.cons (rfl) (.cons (rfl) (.cons (rfl) (.nil _ _)))))))) (by rcases W k with _|⟨r9,R9⟩<;>simp only[List.all_cons,List.all_nil,srB,ordB,rwB,tabB,boxF,rwsB,rw0,qv,qif,qbc (show 4<7 by decide),Bool.and_true,AV.inK]<;>rfl)
                   · trivial
                 · skip
                   have n1:wh≠1:=fun e=>by subst e;simp at c9
                   refine qh ?_;refine qa (by simp only[go_sem];rfl) ?_
                   refine qe 3 (by simp only[go_sem,c9];rfl) ?_
                   refine qf ?_;refine qd ?_;refine qtc (by simp only[go_sem];rfl) (fun c10=>?_) (fun c10=>?_)
                   · skip
                     have hcc:(wh:Int)=2:=by simpa using c10
                     have w2:wh=2:=by omega
                     have hrv:=qeac (os:=os) (k:=k) hTS d1 d3 hi w2;rw[← hf,← hx] at hrv;refine qa (by simp only[go_sem];rfl) ?_
                     refine qe 5 (by simp only[go_sem,hbk,c10];rfl) ?_
                     refine qu rfl (by simp only[go_sem]) rfl (by simp only[go_sem];rfl) (by simp only[go_sem];rfl) ?_
                     refine qfc (qvdc hG hrv) rfl rfl rfl ?_;refine qe 5 (by simp only[go_sem];rfl) ?_
                     refine qf ?_;refine qq ?_;refine qxb () ?_ ?_
                     · refine Ent.cut (Nat.le_of_ble_eq_true rfl) (Nat.le_of_ble_eq_true rfl) (.junk (.junk (.junk (.junk (.keep rfl rfl (.keep rfl rfl (.keep rfl rfl (.keep rfl rfl (.junk (.junk (.junk (.junk (.junk (.keep rfl rfl (.keep rfl rfl (.keep rfl rfl (.keep rfl rfl (.keep rfl rfl (.keep rfl rfl (.keep rfl rfl (.keep rfl rfl (.keep rfl rfl (.keep rfl rfl (.keep rfl rfl (.keep rfl rfl (.keep rfl rfl (.nil _))))))))))))))))))))))))))) rfl (.cons (rfl) (.cons (rfl) (.cons (rfl) (.cons (rfl) (.cons (rfl) (.cons (rfl) (.cons (rfl) (.nil _ _)))))))) (by rcases W k with _|⟨r9,R9⟩<;>simp only[List.all_cons,List.all_nil,srB,ordB,rwB,tabB,boxF,rwsB,rw0,qv,qif,qbc (show 4<7 by decide),Bool.and_true,AV.inK]<;>rfl)
                     · trivial
                   · skip
                     have n2:wh≠2:=fun e=>by subst e;simp at c10
                     refine qh ?_;refine qa (by simp only[go_sem];rfl) ?_
                     refine qe 3 (by simp only[go_sem,c10];rfl) ?_
                     refine qf ?_;refine qd ?_;refine qtc (by simp only[go_sem];rfl) (fun c11=>?_) (fun c11=>?_)
                     · skip
                       have hcc:(k:Int)=0:=by simpa using c11
                       have k0:k=0:=by omega
                       have hE:ex=BitVec.ofNat 64 i:=by rw[hx];unfold entW;rw[if_neg n0,if_neg n1,if_neg n2,if_pos k0]
                       refine qa (by simp only[go_sem];rfl) ?_
                       refine qe 3 (by simp only[go_sem,hbi,c11];rfl) ?_
                       refine qf ?_;refine qq ?_;refine qxb () ?_ ?_
                       · refine Ent.cut (Nat.le_of_ble_eq_true rfl) (Nat.le_of_ble_eq_true rfl) (.junk (.junk (.junk (.junk (.keep rfl rfl (.keep rfl rfl (.keep rfl rfl (.keep rfl rfl (.junk (.junk (.junk (.junk (.junk (.keep rfl rfl (.keep rfl rfl (.keep rfl rfl (.keep rfl rfl (.keep rfl rfl (.keep rfl rfl (.keep rfl rfl (.keep rfl rfl (.keep rfl rfl (.keep rfl rfl (.keep rfl rfl (.keepE (by simp only[go_sem];rfl) (by rw[hE];rfl) rfl (.keep rfl rfl (.nil _))))))))))))))))))))))))))) rfl (.cons (rfl) (.cons (rfl) (.cons (rfl) (.cons (rfl) (.cons (rfl) (.cons (rfl) (.cons (rfl) (.nil _ _)))))))) (by rcases W k with _|⟨r9,R9⟩<;>simp only[List.all_cons,List.all_nil,srB,ordB,rwB,tabB,boxF,rwsB,rw0,qv,qif,qbc (show 4<7 by decide),Bool.and_true,AV.inK]<;>rfl)
                       · trivial
                     · skip
                       have k0:k≠0:=fun e=>by subst e;simp at c11
                       have w3:wh=3:=by omega
                       have hrv:=qfyb (d:=d) (os:=os) hTS hk hi w3 k0;rw[← hf,← hg,← hx] at hrv;refine qa (by simp only[go_sem];rfl) ?_
                       refine qe 4 (by simp only[go_sem,c11];rfl) ?_
                       refine qu rfl (by simp only[go_sem]) rfl (by simp only[go_sem];rfl) (by simp only[go_sem];rfl) ?_
                       have hcm:=qidc hG hrv;rw[qucc g] at hcm;refine qpvb hcm rfl rfl rfl rfl rfl rfl rfl ?_;refine qe 5 (by simp only[go_sem];rfl) ?_
                       refine qf ?_;refine qq ?_;refine qxb () ?_ ?_
                       · refine Ent.cut (Nat.le_of_ble_eq_true rfl) (Nat.le_of_ble_eq_true rfl) (.junk (.junk (.junk (.junk (.keep rfl rfl (.keep rfl rfl (.keep rfl rfl (.keep rfl rfl (.junk (.junk (.junk (.junk (.junk (.keep rfl rfl (.keep rfl rfl (.keep rfl rfl (.keep rfl rfl (.keep rfl rfl (.keep rfl rfl (.keep rfl rfl (.keep rfl rfl (.keep rfl rfl (.keep rfl rfl (.keep rfl rfl (.keep rfl rfl (.keep rfl rfl (.nil _))))))))))))))))))))))))))) rfl (.cons (rfl) (.cons (rfl) (.cons (rfl) (.cons (rfl) (.cons (rfl) (.cons (rfl) (.cons (rfl) (.nil _ _)))))))) (by rcases W k with _|⟨r9,R9⟩<;>simp only[List.all_cons,List.all_nil,srB,ordB,rwB,tabB,boxF,rwsB,rw0,qv,qif,qbc (show 4<7 by decide),Bool.and_true,AV.inK]<;>rfl)
                       · trivial
           · skip
             have hie:i=m:=by simp at g5;omega
             have hfe:fil (V k) i=V k:=by rw[hie,← hVl k];exact qcwb _
             have zk1:(k+1)*24≤140737488355328:=by omega
             have zk2:k≤9223372036854775806:=by omega
             have hWk:=hWl k;refine qe 2 (by simp only[go_sem,g5];rfl) ?_
             refine qf ?_;refine qd ?_;refine qbd (by simp only[go_sem]) ?_
             refine qci ?_;refine qmg (qwe (qme ?_));rcases Nat.eq_zero_or_pos k with k0|k0
             · skip
               refine qwc (s':=⟨Am.tl [.junk,.junk,.junk,.junk,iA n,.d (strsD (vocN n)),iA m,.own 1 os.length 0 os.length,.junk,.junk,.junk,.junk,.junk,iA (wh:Int),iA d,iA (kdT wh),.ptr 2 1 0 0,iA (k:Int),.junk,.junk,.own 6 m 0 m],Am.hl [some (srB l q3),some (ordB os),some (tabB n 0),some (rwsB []),none,some (boxF g),some (rwB (V 0))],7,239⟩) (Ent.cut (Nat.le_of_ble_eq_true rfl) (Nat.le_of_ble_eq_true rfl) (.junk (.junk (.junk (.junk (.keep rfl rfl (.keep rfl rfl (.keep rfl rfl (.keep rfl rfl (.junk (.junk (.junk (.junk (.junk (.keep rfl rfl (.keep rfl rfl (.keep rfl rfl (.keep rfl rfl (.keep rfl rfl (.junk (.junk (.keep rfl rfl (.nil _)))))))))))))))))))))) rfl (.cons (rfl) (.cons (rfl) (.cons (by rw[k0];rfl) (.cons (by rw[k0,hW0];rfl) (.cons (by rw[k0,hW0];rfl) (.cons (rfl) (.cons (by rw[hfe,k0];rfl) (.nil _ _)))))))) (by simp only[List.all_cons,List.all_nil,srB,ordB,rwB,tabB,boxF,rwsB,qv,qif,qbc (show 4<7 by decide),Bool.and_true,AV.inK]<;>rfl)) ?_
               refine qa (by simp only[go_sem];rfl) ?_
               refine qe 7 (by simp only[go_sem,qzpb];rfl) ?_
               refine qf ?_;refine qq ?_;refine qwc (s':=⟨Am.tl [.junk,.junk,.junk,.junk,iA n,.d (strsD (vocN n)),iA m,.own 1 os.length 0 os.length,.junk,.junk,.junk,.junk,.junk,iA (wh:Int),iA d,iA (kdT wh),.ptr 2 1 0 0,iA (k:Int)],Am.hl [some (srB l q3),some (ordB os),some (tabB n 1),some (rwsB [V 0]),some (rwB (V 0))],5,239⟩) ((Ent.swap p46 qwtb (fun b hb=>absurd hb (Nat.not_lt_zero b)) (fun b hb=>qtac (Nat.le_trans (Nat.le_of_ble_eq_true rfl) hb))).trans (Ent.cut (Nat.le_of_ble_eq_true rfl) (Nat.le_of_ble_eq_true rfl) (.junk (.junk (.junk (.junk (.keep rfl rfl (.keep rfl rfl (.keep rfl rfl (.keep rfl rfl (.junk (.junk (.junk (.junk (.junk (.keep rfl rfl (.keep rfl rfl (.keep rfl rfl (.keep rfl rfl (.keep rfl rfl (.nil _))))))))))))))))))) rfl (.cons (rfl) (.cons (by show some ((ordB os).ren p46)=_;rw[qnwb]) (.cons (rfl) (.cons (by rw[rwsB,rwsV,hVl];rfl) (.cons (by show some ((rwB (V 0)).ren p46)=_;rw[qfzb]) (.nil _ _)))))) (by simp only[List.all_cons,List.all_nil,srB,ordB,rwB,tabB,rwsB,qv,qif,qbc (show 4<5 by decide),Bool.and_true,AV.inK]<;>rfl))) ?_
               refine qa (by simp only[go_sem];rfl) ?_
               refine qe 3 (by simp only[go_sem,hkw];rfl) ?_
               refine qf ?_;refine qzb (k+1) ?_ ?_ ?_
               · refine Ent.cut (Nat.le_of_ble_eq_true rfl) (Nat.le_of_ble_eq_true rfl) (.junk (.junk (.junk (.junk (.keep rfl rfl (.keep rfl rfl (.keep rfl rfl (.keep rfl rfl (.junk (.junk (.junk (.junk (.junk (.keep rfl rfl (.keep rfl rfl (.keep rfl rfl (.keep rfl rfl (.keep rfl rfl (.nil _))))))))))))))))))) rfl (.cons (rfl) (.cons (rfl) (.cons (by rw[k0];rfl) (.cons (by rw[hWs,k0,hW0];rfl) (.cons (by rw[hWs,k0,hW0];rfl) (.nil _ _)))))) (by rcases W (k+1) with _|⟨r9,R9⟩<;>simp only[List.all_cons,List.all_nil,srB,ordB,rwB,tabB,rwsB,rw0,qv,qif,qbc (show 4<5 by decide),Bool.and_true,AV.inK]<;>rfl)
               · exact hk
               · omega
             · skip
               refine qwc (s':=⟨Am.tl [.junk,.junk,.junk,.junk,iA n,.d (strsD (vocN n)),iA m,.own 1 os.length 0 os.length,.junk,.junk,.junk,.junk,.junk,iA (wh:Int),iA d,iA (kdT wh),.ptr 2 1 0 0,iA (k:Int),.junk,.junk,.d (numsD (V k))],Am.hl [some (srB l q3),some (ordB os),some (tabB n k),some (rwsB (W k)),rw0 (W k)],5,239⟩) ((Ent.frz (t:=20) (b:=6) (blk:=rwB (V k)) (xs:=(V k).map numR) rfl (by rw[hfe];rfl) rfl (by rw[List.length_map,hVl])).trans (Ent.cut (Nat.le_of_ble_eq_true rfl) (Nat.le_of_ble_eq_true rfl) (.junk (.junk (.junk (.junk (.keep rfl rfl (.keep rfl rfl (.keep rfl rfl (.keep rfl rfl (.junk (.junk (.junk (.junk (.junk (.keep rfl rfl (.keep rfl rfl (.keep rfl rfl (.keep rfl rfl (.keep rfl rfl (.junk (.junk (.keep rfl rfl (.nil _)))))))))))))))))))))) rfl (.cons (rfl) (.cons (rfl) (.cons (rfl) (.cons (rfl) (.cons (rfl) (.nil _ _)))))) (by rcases W k with _|⟨r9,R9⟩<;>simp only[List.all_cons,List.all_nil,srB,ordB,rwB,tabB,rwsB,rw0,qv,qif,qbc (show 4<5 by decide),Bool.and_true,AV.inK]<;>rfl))) ?_
               refine qa (by simp only[go_sem];rfl) ?_
               refine qe 7 (by simp only[go_sem,zk1,zk2,hWk];rfl) ?_
               refine qf ?_;refine qq ?_;refine qd ?_;refine qa (by simp only[go_sem];rfl) ?_
               refine qe 3 (by simp only[go_sem,hkw];rfl) ?_
               refine qf ?_;refine qzb (k+1) ?_ ?_ ?_
               · refine Ent.cut (Nat.le_of_ble_eq_true rfl) (Nat.le_of_ble_eq_true rfl) (.junk (.junk (.junk (.junk (.keep rfl rfl (.keep rfl rfl (.keep rfl rfl (.keep rfl rfl (.junk (.junk (.junk (.junk (.junk (.keep rfl rfl (.keep rfl rfl (.keep rfl rfl (.keep rfl rfl (.keep rfl rfl (.nil _))))))))))))))))))) rfl (.cons (rfl) (.cons (rfl) (.cons (rfl) (.cons (by rw[hWs,rwsB,qijb (by rw[hWl];exact k0)];rfl) (.cons (by rw[hWs,qzmb (by rw[hWl];exact k0)];rfl) (.nil _ _)))))) (by rcases W (k+1) with _|⟨r9,R9⟩<;>simp only[List.all_cons,List.all_nil,srB,ordB,rwB,tabB,rwsB,rw0,qv,qif,qbc (show 4<5 by decide),Bool.and_true,AV.inK]<;>rfl)
               · exact hk
               · omega
       · skip
         have hke:k=m:=by simp at c4;omega
         obtain ⟨R,hsZ,hsW,hRm⟩:=qrfb (n:=n) (m:=m) (wh:=wh) (os:=os) (d:=d) (by omega)
         obtain ⟨U,hU⟩:∃ U,U=(List.range m).map fun i=>((entF n m wh os d 0 i).toNat:Int):=⟨_,rfl⟩
         rw[← hU] at hsZ;have hWm:W m=V 0::R:=by rw[hWd,hVd];exact hsW
         have hUl:U.length=m:=by rw[hU];simp
         have hUV:wh≠1→U=V 0:=fun e=>by rw[hU,hVd];exact qbbc e
         have hUg:wh=1→∀ i,i<m→U.getD i 0=((leastS (os.getD 0 ([],[])).1 (os.getD 0 ([],[])).2 (BitVec.ofNat 64 (m-1-i))).toNat:Int):=fun e i hi=>by rw[hU];exact qxzb e hi
         obtain ⟨hvld,hbq⟩:=hTS.tab hw4 d1 d3;rw[hsZ] at hvld hbq;refine qci ?_;refine qmg (qwe (qme ?_));refine qd ?_;refine qey (ι:=Unit) (fun (x:Unit)=>(match x with|_=>⟨Am.tl [.junk,.junk,.junk,.junk,.junk,.junk,.junk,.junk,.junk,.junk,.junk,.junk,.junk,.junk,.junk,iA (kdT wh),.eptr [.int .i64 (n:Int),tabD (U::R)]],Am.hl [],0,239⟩)) (fun x=>match x with|_=>True) ?_ ?_
         · rintro ⟨⟩ hJ
           try dsimp only at hJ
           dsimp only
           refine qh ?_;refine qa (by simp only[go_sem];rfl) ?_
           refine qe 2 (by simp only[go_sem];rfl) ?_
           refine qu rfl (by simp only[go_sem]) rfl (by simp only[go_sem];rfl) (by simp only[go_sem];rfl) ?_
           have hcv:CC Tryz.prog G 15 [] [.agg [iA (n:Int),.d (tabD (U::R))],iA (kdT wh)] [] (.tup [.agg [iA 0,iA 0,iA 0,iA 0],.d (.bool false),iA 0]):=by
            have h1:=qajb (G:=G) (n:Int) (U::R) (kdT wh) (qzi hvld).1 (qzi hvld).2;have hk3:kdT wh=1∨kdT wh=2∨kdT wh=3:=by unfold kdT;split<;>(try split)<;>simp
            unfold chkA at h1;rw[if_pos (qohb.2 ⟨hvld,hk3⟩),hbq] at h1;exact h1
           refine qfc (hcv) rfl rfl rfl ?_;refine qe 8 (by simp only[go_sem];rfl) ?_
           refine qf ?_;refine qd ?_;refine qh ?_;refine qa (by simp only[go_sem];rfl) ?_
           refine qe 13 (by simp only[go_sem];rfl) ?_
           refine qu rfl (by simp only[go_sem]) rfl (by simp only[go_sem];rfl) (by simp only[go_sem];rfl) ?_
           have hvv:=qve (G:=G) hG (n:Int) (U::R) (qzi hvld).1 (qzi hvld).2;rw[if_pos (qrg.2 hvld)] at hvv;refine qfc (hvv) rfl rfl rfl ?_;refine qe 3 (by simp only[go_sem];rfl) ?_
           refine qu rfl (by simp only[go_sem]) rfl (by simp only[go_sem];rfl) (by simp only[go_sem];rfl) ?_
           refine qfc (qgdc hG) rfl rfl rfl ?_;refine qe 2 (by simp only[go_sem];rfl) ?_
           refine qf ?_;refine qd ?_;refine qfj ?_;refine qqbb (.inr rfl) (rs:=[.tmp 2]) rfl (by simp only[go_sem];rfl) ?_
           exact ⟨rfl,rfl⟩
         · skip
           refine qh ?_;refine qa (by simp only[go_sem];rfl) ?_
           refine qe 2 (by simp only[go_sem,c4];rfl) ?_
           refine qf ?_;refine qd ?_;refine qtc (by simp only[go_sem];rfl) (fun c12=>?_) (fun c12=>?_)
           · skip
             have hcc:(wh:Int)=1:=by simpa using c12
             have w1:wh=1:=by omega
             refine qh ?_;refine qa (by simp only[go_sem];rfl) ?_
             refine qe 1 (by simp only[go_sem,c12];rfl) ?_
             refine qf ?_;refine qd ?_;refine qfb ?_;refine qsf (ι:=Nat) (fun (x:Nat)=>(match x with|i=>⟨Am.tl [.junk,.junk,.junk,.junk,.junk,.junk,iA m,.own 1 os.length 0 os.length,.junk,.junk,.junk,.junk,.junk,.junk,.junk,iA (kdT wh),.ptr 2 1 0 0,.junk,.junk,.junk,.junk,.junk,.junk,.junk,.junk,.junk,iA (i:Int)],Am.hl [some (srB l q3),some (ordB os),some (tabB n m),some (rwsB (V 0::R)),some (rwB (mixL U (V 0) i))],5,239⟩)) (fun x=>match x with|i=>i≤m) (fun x=>match x with|i=>m-i) 0 ?_ ?_ ?_
             · refine Ent.cut (Nat.le_of_ble_eq_true rfl) (Nat.le_of_ble_eq_true rfl) (.junk (.junk (.junk (.junk (.junk (.junk (.keep rfl rfl (.keep rfl rfl (.junk (.junk (.junk (.junk (.junk (.junk (.junk (.keep rfl rfl (.keep rfl rfl (.junk (.junk (.junk (.junk (.junk (.junk (.junk (.junk (.junk (.keep rfl rfl (.nil _)))))))))))))))))))))))))))) rfl (.cons (rfl) (.cons (rfl) (.cons (by rw[hke];rfl) (.cons (by rw[hke,hWm];rfl) (.cons (by have e9:rw0 (W k)=some (rwB (V 0)):=(by rw[hke,hWm];rfl);exact e9) (.nil _ _)))))) (by simp only[List.all_cons,List.all_nil,srB,ordB,rwB,tabB,rwsB,qv,qif,qbc (show 4<5 by decide),Bool.and_true,AV.inK]<;>rfl)
             · exact Nat.zero_le _
             · rintro i him
               try dsimp only at him
               dsimp only
               refine qh ?_;refine qh ?_;refine qa (by simp only[go_sem];rfl) ?_
               refine qe 3 (by simp only[go_sem];rfl) ?_
               refine qf ?_;refine qd ?_;refine qtc (by simp only[go_sem];rfl) (fun c13=>?_) (fun c13=>?_)
               · skip
                 have hi:i<m:=by simpa using c13
                 have hiw:IntKind.i64.wrap ((i:Int)+1)=((i+1:Nat):Int):=by rw[wr (by omega) (by omega)];rfl
                 have hm1:IntKind.i64.wrap ((m:Int)-1)=((m-1:Nat):Int):=by rw[wr (by omega) (by omega)];omega
                 have hm2:IntKind.i64.wrap (((m-1:Nat):Int)-(i:Int))=((m-1-i:Nat):Int):=by rw[wr (by omega) (by omega)];omega
                 have hm3:=qnp (x:=m-1-i) (by omega)
                 have hil:(i:Int)<(m:Int):=by omega
                 have hml:(mixL U (V 0) i).length=m:=by rw[qpub (by rw[hUl,hVl]) (by rw[hVl];omega),hVl]
                 have hro:=qtx (os:=os) (k:=0) (by omega)
                 have h0m:(0:Int)<(m:Int):=by omega
                 have h0o:(0:Int)<(os.length:Int):=by omega
                 have hr30:(rwsV (V 0::R))[0]? = some [.own 4 m 0 m]:=by rw[rwsV,hVl];rfl
                 have hRl:R.length+1=m:=hRm.symm;have hrw:=qjfb (r:=mixL U (V 0) i) (k:=i) (by rw[hml];exact hi)
                 obtain ⟨y,hy⟩:∃ y,y=leastS (os.getD 0 ([],[])).1 (os.getD 0 ([],[])).2 (BitVec.ofNat 64 (m-1-i)):=⟨_,rfl⟩;have hlc:=qrdc (G:=G) hG (o:=os.getD 0 ([],[])) (hTS.vl (by omega)).1 (hTS.vl (by omega)).2 (BitVec.ofNat 64 (m-1-i))
                 rw[← hy] at hlc
                 have hyw:IntKind.i64.wrap (y.toNat:Int)=(y.toNat:Int):=by
                  have:y.toNat<m:=by rw[hy];exact hTS.lt (hTS.least (by omega) _)
                  exact wr (by omega) (by omega)
                 refine qqc ?_;refine qd ?_;refine qh ?_;refine qfb ?_;refine qke (by kernel_rfl) (by simp only[go_sem];rfl) ?_
                 refine qse 13 (by simp only[go_sem,hm1,hm2,hm3,hil,hro,h0m,h0o,hr30,hRl];rfl) ?_
                 refine qbg rfl (by simp only[go_sem]) rfl (by simp only[go_sem];rfl) (by simp only[go_sem];rfl) ?_
                 refine qfc (hlc) rfl rfl rfl ?_;refine qse 3 (by simp only[go_sem,hil,hml,hrw,hyw];rfl) ?_
                 refine qqi 22 (by kernel_rfl) ?_
                 refine qq ?_;refine qd ?_;refine qa (by simp only[go_sem];rfl) ?_
                 refine qe 3 (by simp only[go_sem,hiw];rfl) ?_
                 refine qf ?_;refine qzb (i+1) ?_ ?_ ?_
                 · refine Ent.cut (Nat.le_of_ble_eq_true rfl) (Nat.le_of_ble_eq_true rfl) (.junk (.junk (.junk (.junk (.junk (.junk (.keep rfl rfl (.keep rfl rfl (.junk (.junk (.junk (.junk (.junk (.junk (.junk (.keep rfl rfl (.keep rfl rfl (.junk (.junk (.junk (.junk (.junk (.junk (.junk (.junk (.junk (.keep rfl rfl (.nil _)))))))))))))))))))))))))))) rfl (.cons (rfl) (.cons (rfl) (.cons (rfl) (.cons (rfl) (.cons (by rw[rwB,← qwvb (by rw[hUl,hVl]) (by rw[hVl];exact hi),hUg w1 i hi,← hy,← qvy];rfl) (.nil _ _)))))) (by simp only[List.all_cons,List.all_nil,srB,ordB,rwB,tabB,rwsB,qv,qif,qbc (show 4<5 by decide),Bool.and_true,AV.inK]<;>rfl)
                 · exact hi
                 · omega
               · skip
                 have hie:i=m:=by simp at c13;omega
                 have hmixe:mixL U (V 0) i=U:=by unfold mixL;rw[hie,List.take_of_length_le (by omega),List.drop_of_length_le (by rw[hVl];omega),List.append_nil]
                 refine qci ?_;refine qmg (qwe (qme ?_));refine qxb () ?_ ?_
                 · exact Ent.tabC (t:=16) (U:=U) (R:=R) rfl (by rfl) (by have e9:rwsB (V 0::R)=rwsB (U::R):=(by simp only[rwsB,rwsV,hUl,hVl]);exact congrArg some e9) (by have e9:rwB (mixL U (V 0) i)=rwB U:=(by rw[hmixe]);exact congrArg some e9) hRm (.junk (.junk (.junk (.junk (.junk (.junk (.junk (.junk (.junk (.junk (.junk (.junk (.junk (.junk (.junk (.keep rfl rfl (.keep rfl rfl (.nil _))))))))))))))))))
                 · trivial
           · skip
             have nw:wh≠1:=fun e=>by subst e;simp at c12
             refine qqc ?_;refine qxb () ?_ ?_
             · exact Ent.tabC (t:=16) (U:=U) (R:=R) rfl (by rw[hke];rfl) (by rw[hUV nw,← hWm,hke];rfl) (by rw[hUV nw];have e9:rw0 (W k)=some (rwB (V 0)):=(by rw[hke,hWm];rfl);exact e9) hRm (.junk (.junk (.junk (.junk (.junk (.junk (.junk (.junk (.junk (.junk (.junk (.junk (.junk (.junk (.junk (.keep rfl rfl (.keep rfl rfl (.nil _))))))))))))))))))
             · trivial
end Go.Proofs.YtoalfckdmoahoaaGreatDoor
