/- What functions of the program compute: lemmas. -/
import Derived.Test.YtoalfckdmoahoaaGreatDoorKh
import Derived.Test.YtoalfckdmoahoaaGreatDoorBq
set_option linter.unusedSimpArgs false
set_option linter.unusedVariables false
set_option linter.unusedSectionVars false
namespace Go.Proofs.YtoalfckdmoahoaaGreatDoor
open Go Am Go.Proofs Go.RowKit
set_option maxRecDepth 100000
set_option maxHeartbeats 2000000
def pstL (kind:Int):List (Bool × FuncId):=if kind=1 then [(true,98),(true,100),(true,101),(false,102),(false,103)] else if kind=2 then [(true,104),(true,105),(true,106),(true,107),(false,108),(false,109)] else if kind=3 then [(true,110),(true,111),(true,112),(false,113),(false,114),(false,115),(false,117)] else []
theorem qrjb:run Ktb 21 []=some [pstD (pstL 1)]:=qg (x:=Kir21) rfl rfl
theorem qdeb:run Ktb 22 []=some [pstD (pstL 2)]:=qg (x:=Kir22) rfl rfl
theorem qrdb:run Ktb 23 []=some [pstD (pstL 3)]:=qg (x:=Kir23) rfl rfl
theorem qkr (kind:Int):run Ktb 1 [.int .i64 kind]=some [pstD (pstL kind)]:=by
 refine qg (x:=Kir1) rfl ?_;have h1:=qrjb;have h2:=qdeb;have h3:=qrdb
 by_cases c1:kind=1
 · subst c1;simp only[Kir1,qc,qb,eq_self,aBin,reduceIte,h1]
 · by_cases c2:kind=2
   · subst c2;simp only[Kir1,qc,qb,eq_self,aBin,reduceIte,c1,h2]
   · by_cases c3:kind=3
     · subst c3;simp only[Kir1,qc,qb,eq_self,aBin,reduceIte,c1,c2,h3]
     · have e:pstL kind=[]:=by unfold pstL;rw[if_neg c1,if_neg c2,if_neg c3]
       rw[e];simp only[Kir1,qc,qb,eq_self,aBin,reduceIte,c1,c2,c3];rfl
theorem qpq (kind:Int):(pstL kind).length=(postN kind).1:=by
 unfold pstL postN
 split
 · rfl
 · split
   · rfl
   · split<;>rfl
theorem qia (a:Int) (rows:List (List Int)) (kind:Int) (hl:rows.length<9223372036854775808) (hr:∀ r∈rows,r.length<9223372036854775808):run Ktb 0 [.int .i64 a,tabD rows,.int .i64 kind]=some [.int .i64 (chkE a rows kind)]:=by
 refine qg (x:=Kir0) rfl ?_;have h1:=qip a rows hl hr;have h2:=qkr kind;have h3:PO.eval .lenL [pstD (pstL kind)]=some [.int .i64 ((postN kind).1:Int)]:=by rw[← qpq];simp[pstD,qte]
 unfold chkE
 by_cases hv:vldB a rows=true
 · rw[if_pos hv] at h1 ⊢
   by_cases hk:(postN kind).1=0
   · rw[if_pos hk];have hk':((postN kind).1:Int)=0:=by omega
     simp only[Kir0,qc,qb,eq_self,aBin,reduceIte,ibne,h1,h2,h3,hk']
   · rw[if_neg hk];have hk':¬ ((postN kind).1:Int)=0:=by omega
     simp only[Kir0,qc,qb,eq_self,aBin,reduceIte,ibne,h1,h2,h3,hk']
 · rw[if_neg hv] at h1 ⊢;simp only[Kir0,qc,qb,eq_self,aBin,reduceIte,Int.reduceEq,ibne,h1,Int.reduceEq]
theorem qeg (l:List Int):D.WF (numsD l):=.sl _ fun r hr c hc=>by
 obtain ⟨x,_,rfl⟩:=List.mem_map.1 hr;simp only[numR,List.mem_singleton] at hc;subst hc;exact .int _ _
theorem qlw (rows:List (List Int)):D.WF (tabD rows):=.sl _ fun r hr c hc=>by
 obtain ⟨x,_,rfl⟩:=List.mem_map.1 hr;simp only[List.mem_singleton] at hc;subst hc;exact qeg x
variable {G:Glob}
theorem kcc {i:Nat} {f:FuncId} (hsg:Ksigs[i]? = some ⟨f,5,[],[(.agg [(.atm (.v 0)),(.atm (.v 1))]),(.atm (.v 2)),(.atm (.v 3)),(.atm (.v 4))],1,[],(.atm (.v 0)),false,[]⟩) {x0 x2 x3 x4:Int} {rows:List (List Int)} {y:Bool}
 (hr:run Ktb i [.int .i64 x0,tabD rows,.int .i64 x2,.int .i64 x3,.int .i64 x4]=some [.bool y]):CC Tryz.prog G f [] [.agg [.d (.int .i64 x0),.d (tabD rows)],.d (.int .i64 x2),.d (.int .i64 x3),.d (.int .i64 x4)] [] (.d (.bool y)):=by
 have:=qnd (G:=G) Ktok Kgok (by kernel_rfl) qhjb hsg (ins:=[.int .i64 x0,tabD rows,.int .i64 x2,.int .i64 x3,.int .i64 x4]) (fun d hd=>?_) rfl (fun k hk=>by cases hk) hr rfl
 · simpa [hIn,SV.instL,SV.inst,SA.val] using this
 · simp only[List.mem_cons,List.not_mem_nil,or_false] at hd;rcases hd with rfl|rfl|rfl|rfl|rfl
   · exact .int _ _
   · exact qlw rows
   · exact .int _ _
   · exact .int _ _
   · exact .int _ _
theorem qvmb {kind a:Int} {rows:List (List Int)} (hv:Vld a rows) (i:Nat) (hi:i<(pstL kind).length) (k f g:Nat) (hk:k<szT a) (hf:f<szT a) (hg:g<szT a) :
 CC Tryz.prog G ((pstL kind)[i]).2 [] [.agg [iA ((szT a-1:Nat):Int),.d (tabD rows)],iA k,iA f,iA g] [] (.d (.bool (hB kind a rows (i+1) k f g))):=by
 have h16:=qn a;have hT:∀ n:Nat,n<szT a→(BitVec.ofNat 64 n).toNat=n:=fun n hn=>by rw[BitVec.toNat_ofNat];omega
 have hA:(BitVec.ofNat 64 (szT a-1)).toNat=szT a-1:=hT _ (by omega)
 have hk':(BitVec.ofNat 64 k).toNat<szT a:=by rw[hT k hk];exact hk
 have hf':(BitVec.ofNat 64 f).toNat<szT a:=by rw[hT f hf];exact hf
 have hg':(BitVec.ofNat 64 g).toNat<szT a:=by rw[hT g hg];exact hg
 have hA':(BitVec.ofNat 64 (szT a-1)).toNat<szT a:=by rw[hA];omega
 have eA:ivD (BitVec.ofNat 64 (szT a-1)) = .int .i64 ((szT a-1:Nat):Int):=by unfold ivD;rw[hA]
 have ek:ivD (BitVec.ofNat 64 k) = .int .i64 (k:Int):=by unfold ivD;rw[hT k hk]
 have ef:ivD (BitVec.ofNat 64 f) = .int .i64 (f:Int):=by unfold ivD;rw[hT f hf]
 have eg:ivD (BitVec.ofNat 64 g) = .int .i64 (g:Int):=by unfold ivD;rw[hT g hg]
 have key:∀ {j:Nat} {F:FuncId} {y:Bool},Ksigs[j]? = some ⟨F,5,[],[(.agg [(.atm (.v 0)),(.atm (.v 1))]),(.atm (.v 2)),(.atm (.v 3)),(.atm (.v 4))],1,[],(.atm (.v 0)),false,[]⟩→
  run Ktb j [ivD (BitVec.ofNat 64 (szT a-1)),tabD rows,ivD (BitVec.ofNat 64 k),ivD (BitVec.ofNat 64 f),ivD (BitVec.ofNat 64 g)]=some [.bool y]→CC Tryz.prog G F [] [.agg [iA ((szT a-1:Nat):Int),.d (tabD rows)],iA k,iA f,iA g] [] (.d (.bool y)):=fun hs hr=>by
  rw[eA,ek,ef,eg] at hr;exact kcc hs hr
 unfold hB
 by_cases c1:kind=1
 · subst c1
   match i,hi with
   | 0,_=>exact key (j:=2) rfl (quxb hv hk' hf' hg' hA')
   | 1,_=>exact key (j:=3) rfl (qnxb hv hk' hf' hg' hA')
   | 2,_=>exact key (j:=4) rfl (qqtb hv hk' hf' hg' hA')
   | 3,_=>exact key (j:=5) rfl (qotb hv hk' hf' hg' hA')
   | 4,_=>exact key (j:=6) rfl (qoxb hv hk' hf' hg' hA')
 · by_cases c2:kind=2
   · subst c2
     match i,hi with
     | 0,_=>exact key (j:=7) rfl (qjtb hv hk' hf' hg' hA')
     | 1,_=>exact key (j:=8) rfl (qysb hv hk' hf' hg' hA')
     | 2,_=>exact key (j:=9) rfl (qssb hv hk' hf' hg' hA')
     | 3,_=>exact key (j:=10) rfl (qyvb hv hk' hf' hg' hA')
     | 4,_=>exact key (j:=11) rfl (qvxb hv hk' hf' hg' hA')
     | 5,_=>exact key (j:=12) rfl (qmub hv hk' hf' hg' hA')
   · by_cases c3:kind=3
     · subst c3
       match i,hi with
       | 0,_=>exact key (j:=13) rfl (qxvb hv hk' hf' hg' hA')
       | 1,_=>exact key (j:=14) rfl (qzsb hv hk' hf' hg' hA')
       | 2,_=>exact key (j:=15) rfl (qxtb hv hk' hf' hg' hA')
       | 3,_=>exact key (j:=16) rfl (qxxb hv hk' hf' hg' hA')
       | 4,_=>exact key (j:=17) rfl (qowb hv hk' hf' hg' hA')
       | 5,_=>exact key (j:=18) rfl (qbvb hv hk' hf' hg' hA')
       | 6,_=>exact key (j:=19) rfl (qdwb hv hk' hf' hg' hA')
     · have e:pstL kind=[]:=by unfold pstL;rw[if_neg c1,if_neg c2,if_neg c3]
       rw[e] at hi;simp at hi
theorem qdrb {kind a:Int} {rows:List (List Int)} (hv:Vld a rows) (H:Heap):SeqAV Tryz.prog 60 [.eptr [pstD (pstL kind)],.eptr [.int .i64 a,tabD rows],.eptr [.int .i64 ((szT a-1:Nat):Int),tabD rows]] H ((bQ kind a rows).map brA):=by
 have hN:=hv.len;have h16:=qn a;have h0:0<szT a:=by rcases hv.at_ with rfl|rfl<;>decide
 have hm : (pstL kind).length ≤ 7 := by rw [qpq]; unfold postN; split; · decide
                                        split;· decide
                                        split<;>decide
 have:=qetb H (pstL kind) a ((szT a-1:Nat):Int) rows (fun i=>hB kind a rows (i+1)) (by omega) (by omega) (by omega) (fun i hi k f g hk hf hg=>qvmb hv i hi k f g (by omega) (by omega) (by omega))
 have e:bQ kind a rows=upI (fun i n=>hB kind a rows (i+1) (n / (if ((pstL kind).getD i (true,0)).1 then 1 else rows.length) / rows.length) (n / (if ((pstL kind).getD i (true,0)).1 then 1 else rows.length) % rows.length) (n % (if ((pstL kind).getD i (true,0)).1 then 1 else rows.length))) rows.length (fun i=>if ((pstL kind).getD i (true,0)).1 then 1 else rows.length) (pstL kind).length:=by
  unfold bQ;rw[← qvtb h0,hN,qpq]
  have hfl:∀ i,i<(postN kind).1→((pstL kind).getD i (true,0)).1=decide (i<(postN kind).2):=by
   unfold pstL postN;intro i
   by_cases c1:kind=1
   · simp only[c1,if_true];intro hi
     match i,hi with
     | 0,_|1,_|2,_|3,_|4,_=>rfl
   · by_cases c2:kind=2
     · simp only[c2,if_true];intro hi
       match i,hi with
       | 0,_|1,_|2,_|3,_|4,_|5,_=>rfl
     · by_cases c3:kind=3
       · simp only[c3,if_true];intro hi
         match i,hi with
         | 0,_|1,_|2,_|3,_|4,_|5,_|6,_=>rfl
       · simp only[c1,c2,c3,if_false];intro hi;omega
  have hs:∀ i,i<(postN kind).1→(if i<(postN kind).2 then 1 else szT a)=if ((pstL kind).getD i (true,0)).1 then 1 else szT a:=fun i hi=>by
   rw[hfl i hi];simp
  refine qlbc hs fun i hi n=>?_
  rw[hs i hi]
 rw[e];exact this
end Go.Proofs.YtoalfckdmoahoaaGreatDoor

namespace Go.Proofs.YtoalfckdmoahoaaGreatDoor
open Go Am Go.Proofs Go.RowKit
set_option maxRecDepth 100000
set_option maxHeartbeats 2000000
variable {G:Glob}
theorem qua (a:Int) (rows:List (List Int)) (l:List (Bool × FuncId)) (h0:0<rows.length) (h1:rows.length≤16):CC Tryz.prog G 35 [] [.agg [iA a,.d (tabD rows)],.d (pstD l)] [] (.clo (.func 60) [] [.eptr [pstD l],.eptr [.int .i64 a,tabD rows],.eptr [.int .i64 ((rows.length-1:Nat):Int),tabD rows]]):=by
 have w1:IntKind.i64.wrap ((rows.length:Int)-1)=((rows.length-1:Nat):Int):=by
  have:(rows.length:Int)-1=((rows.length-1:Nat):Int):=by omega
  rw[this];exact wrN (by omega)
 refine CC.go Tryz.func35 rfl rfl Tryz.ntmps35 (k0:=0) rfl (Nat.le_of_ble_eq_true rfl) (by rfl) (by rfl) ?_
 refine qh ?_;refine qa (by simp only[slimL,slim1,List.map_cons,List.map_nil];rfl) ?_
 refine qe 3 (by simp only[go_sem,pstD,tabD];rfl) ?_
 refine qf (qd ?_);refine qh ?_;refine qa (by simp only[slimL,slim1,List.map_cons,List.map_nil];rfl) ?_
 refine qe 9 (by simp only[go_sem,List.length_map,w1];rfl) ?_
 refine qf (qwc (((Ent.box (t:=2) (b:=0) (row:=[.int .i64 a,tabD rows]) rfl rfl rfl).trans (Ent.box (t:=3) (b:=1) (row:=[pstD l]) rfl rfl rfl)).trans (Ent.box (t:=5) (b:=2) (row:=[.int .i64 ((rows.length-1:Nat):Int),tabD rows]) rfl rfl rfl)) ?_);refine qh ?_;refine qa (by simp only[slimL,slim1,List.map_cons,List.map_nil];rfl) ?_
 refine qe 2 (by simp only[go_sem,pstD,tabD];rfl) ?_
 refine qf (qd ?_);refine qfj ?_;refine qqbb (.inr rfl) (rs:=[.tmp 4]) rfl (by simp only[go_sem];rfl) ?_
 exact ⟨rfl,rfl⟩
theorem qpmb (a:Int) (rows:List (List Int)) (kind:Int) (hl:rows.length<9223372036854775808) (hr:∀ r∈rows,r.length<9223372036854775808):CC Tryz.prog G 34 [] [.agg [iA a,.d (tabD rows)],iA kind] [] (iA (chkE a rows kind)):=by
 have:=qnd (G:=G) Ktok Kgok (by kernel_rfl) qhjb (i:=0) rfl (ins:=[.int .i64 a,tabD rows,.int .i64 kind]) (fun d hd=>?_) rfl (fun k hk=>by cases hk) (qia a rows kind hl hr) rfl
 · simpa [Ksg0,hIn,SV.instL,SV.inst,SA.val] using this
 · simp only[List.mem_cons,List.not_mem_nil,or_false] at hd;rcases hd with rfl|rfl|rfl
   · exact .int _ _
   · exact qlw rows
   · exact .int _ _
theorem qbyb (kind:Int):CC Tryz.prog G 36 [] [iA kind] [] (.d (pstD (pstL kind))):=by
 have:=qnd (G:=G) Ktok Kgok (by kernel_rfl) qhjb (i:=1) rfl (ins:=[.int .i64 kind]) (fun d hd=>?_) rfl (fun k hk=>by cases hk) (qkr kind) rfl
 · simpa [Ksg1,hIn,SV.instL,SV.inst,SA.val] using this
 · simp only[List.mem_cons,List.not_mem_nil,or_false] at hd;subst hd;exact .int _ _
def bxT (a:Int) (rows:List (List Int)):Blk:={ fz:=false,ap:=false,ty:=38,sz:=2,rows:=[[iA a,.d (tabD rows)]] }
def bxE (n:Int):Blk:={ fz:=false,ap:=false,ty:=33,sz:=1,rows:=[[iA n]] }
def bxB (b:Bool):Blk:={ fz:=false,ap:=false,ty:=4,sz:=1,rows:=[[.d (.bool b)]] }
def chkA (kind a : Int) (rows : List (List Int)) : AV := if chkE a rows kind = 0 then (match (bQ kind a rows).head? with
    | some b=>.tup [.agg [iA b.1,iA b.2.1,iA b.2.2.1,iA b.2.2.2],.d (.bool true),iA 0]
    | none=>.tup [.agg [iA 0,iA 0,iA 0,iA 0],.d (.bool false),iA 0])
 else .tup [.agg [iA 0,iA 0,iA 0,iA 0],.d (.bool false),iA (chkE a rows kind)]
theorem qajb (a:Int) (rows:List (List Int)) (kind:Int) (hl:rows.length<9223372036854775808) (hr:∀ r∈rows,r.length<9223372036854775808):CC Tryz.prog G 15 [] [.agg [iA a,.d (tabD rows)],iA kind] [] (chkA kind a rows):=by
 have hc:=qpmb (G:=G) a rows kind hl hr;have hls:=qbyb (G:=G) kind;unfold chkA;obtain ⟨er,her⟩:∃ er,er=chkE a rows kind:=⟨_,rfl⟩;rw[← her] at hc ⊢;refine CC.go Tryz.func15 rfl rfl Tryz.ntmps15 (k0:=0) rfl (Nat.le_of_ble_eq_true rfl) (by rfl) (by rfl) ?_
 refine qh ?_;refine qa (by simp only[slimL,slim1,List.map_cons,List.map_nil];rfl) ?_
 refine qe 4 (by simp only[go_sem,tabD];rfl) ?_
 refine qf (qd ?_);refine qh ?_;refine qh ?_;refine qa (by simp only[slimL,slim1,List.map_cons,List.map_nil];rfl) ?_
 refine qe 2 (by simp only[go_sem];rfl) ?_
 refine qu rfl (by simp only[go_sem]) rfl (by simp only[go_sem];rfl) (by simp only[go_sem];rfl) ?_
 refine qfc hc rfl rfl rfl ?_;refine qe 1 (by simp only[go_sem];rfl) ?_
 refine qf (qd ?_);refine qh ?_;refine qa (by simp only[slimL,slim1,List.map_cons,List.map_nil];rfl) ?_
 refine qe 2 (by simp only[go_sem];rfl) ?_
 refine qf (qd ?_)
 by_cases h0:er=0
 · rw[if_pos h0];obtain ⟨hv,hk⟩:=qohb.1 (her.symm.trans h0);have hb:(er != 0)=false:=by simp[h0]
   refine qbd (by simp only[go_sem,hb]) ?_
   refine qqc ?_;refine qd ?_;refine qh ?_;refine qh ?_;refine qke (by kernel_rfl) (by simp only[slimL,slim1,List.map_cons,List.map_nil];rfl) ?_
   refine qse 2 (by simp only[go_sem];rfl) ?_
   refine qbg rfl (by simp only[go_sem]) rfl (by simp only[go_sem];rfl) (by simp only[go_sem];rfl) ?_
   refine qfc hls rfl rfl rfl ?_;refine qse 0 (by simp only[go_sem];rfl) ?_
   refine qbg rfl (by simp only[go_sem]) rfl (by simp only[go_sem];rfl) (by simp only[go_sem];rfl) ?_
   refine qfc (qua a rows (pstL kind) (by rw[hv.len];rcases hv.at_ with rfl|rfl<;>decide) (by rw[hv.len];exact qn a)) rfl rfl rfl ?_
   refine qse 0 (by simp only[go_sem];rfl) ?_
   refine qqi 4 (by kernel_rfl) ?_
   refine qwc (Ent.cut (k:=0) (l':=[.junk,.junk,.junk,.junk,.ptr 1 1 0 0,.ptr 2 1 0 0,.ptr 3 1 0 0,.junk,.junk,.junk,.junk,.junk,.junk,.junk,.junk,.junk,.junk,.junk,.junk,.clo (.func 60) [] [.eptr [pstD (pstL kind)],.eptr [.int .i64 a,tabD rows],.eptr [.int .i64 ((rows.length-1:Nat):Int),tabD rows]]]) (h':=[some (bxT a rows),some (blkB (0,0,0,0)),some (bxB false),some (bxE 0)]) (nx':=4) (Nat.le_of_ble_eq_true rfl) (Nat.le_of_ble_eq_true rfl) (.junk (.junk (.junk (.junk (.keep rfl rfl (.keep rfl rfl (.keep rfl rfl (.junk (.junk (.junk (.junk (.junk (.junk (.junk (.junk (.junk (.junk (.junk (.junk (.keep rfl rfl (.nil _))))))))))))))))))))) rfl (.cons rfl (.cons rfl (.cons rfl (.cons rfl (.nil _ _))))) rfl) ?_;refine qfb ?_;have hN:((rows.length-1:Nat):Int)=((szT a-1:Nat):Int):=by rw[hv.len]
   cases hq:bQ kind a rows with
   | nil=>
    have hsq:=qdrb (kind:=kind) hv (Am.hl [some (bxT a rows),some (blkB (0,0,0,0)),some (bxB false),some (bxE 0)]);rw[hq,← hN] at hsq;refine qgm (gf:=60) rfl hsq (fun r hr=>by cases hr) (fun p hp=>by simp at hp;subst hp;exact Nat.le_of_ble_eq_true rfl) (FullS.hl rfl rfl) rfl rfl (fun j h=>h=Am.hl [some (bxT a rows),some (blkB (0,0,0,0)),some (bxB false),some (bxE 0)]) rfl (fun j h hj=>by simp at hj) ?_
    rintro h rfl;refine qq ?_;refine qd ?_;refine qh ?_;refine qa (by simp only[slimL,slim1,List.map_cons,List.map_nil];rfl) ?_
    refine qe 4 (by simp only[go_sem,pstD,tabD,bxT,blkB,bxB,bxE];rfl) ?_
    refine qf (qd ?_);refine qfj ?_;refine qqbb (.inr rfl) (rs:=[.cell 4 51,.cell 5 4,.cell 6 33]) rfl (by simp only[go_sem];rfl) ?_
    exact ⟨rfl,rfl⟩
   | cons b bs=>
    have hsq:=qdrb (kind:=kind) hv (Am.hl [some (bxT a rows),some (blkB (0,0,0,0)),some (bxB false),some (bxE 0)]);rw[hq,← hN] at hsq;refine qgm (gf:=60) rfl hsq (fun r hr=>?_) (fun p hp=>by simp at hp;subst hp;exact Nat.le_of_ble_eq_true rfl) (FullS.hl rfl rfl) rfl rfl (fun j h=>j=0∧h=Am.hl [some (bxT a rows),some (blkB (0,0,0,0)),some (bxB false),some (bxE 0)]) ⟨rfl,rfl⟩ ?_ ?_
    · obtain ⟨x,_,rfl⟩:=List.mem_map.1 hr;rfl
    · rintro j h hj ⟨rfl,rfl⟩;simp only[List.map_cons,List.getElem_cons_zero,putTs,brA];refine qa (by simp only[slimL,slim1,List.map_cons,List.map_nil];rfl) ?_
      refine qe 2 (by simp only[go_sem,pstD,tabD,bxT,blkB,bxB,bxE];rfl) ?_
      refine qf (⟨rfl,_,.refl _ _,?_⟩);refine qfb ?_;refine qh ?_;refine qa (by simp only[slimL,slim1,List.map_cons,List.map_nil];rfl) ?_
      refine qe 4 (by simp only[go_sem];rfl) ?_
      refine qf (qd ?_);refine qfj ?_;refine qjo ?_;refine ⟨_,.refl _ _,?_⟩;refine qjo (qqz ?_);refine qqbb (.inr rfl) (rs:=[.cell 4 51,.cell 5 4,.cell 6 33]) rfl (by simp only[go_sem];rfl) ?_
      exact ⟨rfl,rfl⟩
    · rintro h ⟨h1,_⟩;simp at h1
 · rw[if_neg h0];have hb:(er != 0)=true:=by simp[h0]
   refine qye (by simp only[go_sem,hb]) ?_
   refine qh ?_;refine qa (by simp only[slimL,slim1,List.map_cons,List.map_nil];rfl) ?_
   refine qe 5 (by simp only[go_sem];rfl) ?_
   refine qf (qd ?_);refine qfj ?_;refine qqz ?_;refine qqbb (.inr rfl) (rs:=[.cell 4 51,.cell 5 4,.cell 6 33]) rfl (by simp only[go_sem];rfl) ?_
   exact ⟨rfl,rfl⟩
end Go.Proofs.YtoalfckdmoahoaaGreatDoor

namespace Go.Proofs.YtoalfckdmoahoaaGreatDoor
open Go Am
set_option maxRecDepth 100000
variable {G:Glob}
def decL:List (List D)→Option (List Int)
 | []=>some []
 | [.int .i64 x]::l=>match decL l with|some r=>some (x::r)|none=>none
 | _=>none
def decR:List (List D)→Option (List (List Int))
 | []=>some []
 | [.sl rs]::l=>match decL rs,decR l with|some x,some r=>some (x::r)|_,_=>none
 | _=>none
theorem qqm:∀ {d:List (List D)} {l:List Int},decL d=some l→d=l.map numR
 | [],l,h=>by simp only[decL,Option.some.injEq] at h;subst h;rfl
 | r::d,l,h=>by
  unfold decL at h
  split at h
  · rename_i e;cases e
  · rename_i x l' e;cases e
    split at h
    · rename_i r' hr;cases h;rw[qqm hr];rfl
    · cases h
  · cases h
theorem qilb:∀ {d:List (List D)} {l:List (List Int)},decR d=some l→d=l.map fun r=>[numsD r]
 | [],l,h=>by simp only[decR,Option.some.injEq] at h;subst h;rfl
 | r::d,l,h=>by
  unfold decR at h
  split at h
  · rename_i e;cases e
  · rename_i x l' e;cases e
    split at h
    · rename_i x' r' hx hr;cases h;rw[qqm hx,qilb hr];rfl
    · cases h
  · cases h
def small9 (rows:List (List Int)):Bool:=decide (rows.length<9223372036854775808)&&rows.all fun r=>decide (r.length<9223372036854775808)
def tab1 (k:Int→List (List Int)→Int→Option (List D)):PF:=fun a=>match a with
 | [.int .i64 x,.sl d,.int .i64 kind]=>match decR d with
  | some rows=>if small9 rows=true then k x rows kind else none
  | none=>none
 | _=>none
theorem qet {k:Int→List (List Int)→Int→Option (List D)} {a o:List D} (h:tab1 k a=some o):∃ (x:Int) (rows:List (List Int)) (kind:Int),a=[.int .i64 x,tabD rows,.int .i64 kind]∧rows.length<9223372036854775808∧(∀ r∈rows,r.length<9223372036854775808)∧k x rows kind=some o:=by
 unfold tab1 at h
 split at h
 · rename_i x d kind
   split at h
   · rename_i rows hd
     split at h
     · rename_i hs;simp only[small9,Bool.and_eq_true,decide_eq_true_eq,List.all_eq_true] at hs;refine ⟨x,rows,kind,?_,hs.1,hs.2,h⟩;rw[qilb hd];rfl
     · cases h
   · cases h
 · cases h
def checkE:PF:=tab1 fun a rows kind=>some (chkV kind a rows)
theorem qzwb (kind a:Int) (rows:List (List Int)):EWF (chkV kind a rows):=by
 unfold chkV
 split
 · split
   · intro d hd;simp only[brD,List.cons_append,List.nil_append,List.mem_cons,List.not_mem_nil,or_false] at hd;rcases hd with rfl|rfl|rfl|rfl|rfl|rfl<;>first|exact .int _ _|exact .bool _
   · intro d hd;simp only[List.mem_cons,List.not_mem_nil,or_false] at hd;rcases hd with rfl|rfl|rfl|rfl|rfl|rfl<;>first|exact .int _ _|exact .bool _
 · intro d hd;simp only[List.mem_cons,List.not_mem_nil,or_false] at hd;rcases hd with rfl|rfl|rfl|rfl|rfl|rfl<;>first|exact .int _ _|exact .bool _
theorem qbt {a o:List D} (h:checkE a=some o):EWF o:=by
 obtain ⟨x,rows,kind,_,_,_,h⟩:=qet h;cases h;exact qzwb kind x rows
def chsg:Sig:=⟨15,3,[],[(.agg [(.atm (.v 0)),(.atm (.v 1))]),(.atm (.v 2))],6,[],(.tup [(.agg [(.atm (.v 0)),(.atm (.v 1)),(.atm (.v 2)),(.atm (.v 3))]),(.atm (.v 4)),(.atm (.v 5))]),false,[]⟩
theorem qicb:SigOK Tryz.prog G checkE chsg:=by
 intro ins outs hwf hl hsl hr hno;have hw:=qbt hr;obtain ⟨x,rows,kind,rfl,h1,h2,h3⟩:=qet hr;cases h3;refine ⟨hw,?_,fun i hi=>by simp[chsg,inL] at hi⟩
 have:=qajb (G:=G) x rows kind h1 h2
 have e:chsg.res.inst (chkV kind x rows) (lnL (chkV kind x rows) chsg.Hout)=chkA kind x rows:=by
  unfold chkV chkA
  by_cases h:chkE x rows kind=0
  · rw[if_pos h,if_pos h];cases (bQ kind x rows).head? with
    | none=>rfl
    | some b=>rfl
  · rw[if_neg h,if_neg h];rfl
 rw[e]
 simpa [chsg,hIn,SV.instL,SV.inst,SA.val] using this
end Go.Proofs.YtoalfckdmoahoaaGreatDoor
