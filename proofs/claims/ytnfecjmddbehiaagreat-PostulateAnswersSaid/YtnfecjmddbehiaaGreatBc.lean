/- What functions of the program compute: lemmas. -/
import Derived.Test.YtnfecjmddbehiaaGreatKh
import Derived.Test.YtnfecjmddbehiaaGreatBq
set_option linter.unusedSimpArgs false
set_option linter.unusedVariables false
set_option linter.unusedSectionVars false
namespace Go.Proofs.YtnfecjmddbehiaaGreat
open Go Am Go.Proofs Go.RowKit
set_option maxRecDepth 100000
set_option maxHeartbeats 2000000
def pstL (kind:Int):List (Bool × FuncId):=if kind=1 then [(true,81),(true,83),(true,84),(false,85),(false,86)] else if kind=2 then [(true,87),(true,88),(true,89),(true,90),(false,91),(false,92)] else if kind=3 then [(true,93),(true,94),(true,95),(false,96),(false,97),(false,98),(false,100)] else []
theorem qkdb:run Ktb 21 []=some [pstD (pstL 1)]:=qc (x:=Kir21) rfl rfl
theorem qdhb:run Ktb 22 []=some [pstD (pstL 2)]:=qc (x:=Kir22) rfl rfl
theorem qmcb:run Ktb 23 []=some [pstD (pstL 3)]:=qc (x:=Kir23) rfl rfl
theorem qpp (kind:Int):run Ktb 1 [.int .i64 kind]=some [pstD (pstL kind)]:=by
 refine qc (x:=Kir1) rfl ?_;have h1:=qkdb;have h2:=qdhb;have h3:=qmcb
 by_cases c1:kind=1
 · subst c1;simp only[Kir1,qa,qb,eq_self,aBin,reduceIte,h1]
 · by_cases c2:kind=2
   · subst c2;simp only[Kir1,qa,qb,eq_self,aBin,reduceIte,c1,h2]
   · by_cases c3:kind=3
     · subst c3;simp only[Kir1,qa,qb,eq_self,aBin,reduceIte,c1,c2,h3]
     · have e:pstL kind=[]:=by unfold pstL;rw[if_neg c1,if_neg c2,if_neg c3]
       rw[e];simp only[Kir1,qa,qb,eq_self,aBin,reduceIte,c1,c2,c3];rfl
theorem qaj (kind:Int):(pstL kind).length=(postN kind).1:=by
 unfold pstL postN
 split
 · rfl
 · split
   · rfl
   · split<;>rfl
theorem quz (a:Int) (rows:List (List Int)) (kind:Int) (hl:rows.length<9223372036854775808) (hr:∀ r∈rows,r.length<9223372036854775808):run Ktb 0 [.int .i64 a,tabD rows,.int .i64 kind]=some [.int .i64 (chkE a rows kind)]:=by
 refine qc (x:=Kir0) rfl ?_;have h1:=qho a rows hl hr;have h2:=qpp kind;have h3:PO.eval .lenL [pstD (pstL kind)]=some [.int .i64 ((postN kind).1:Int)]:=by rw[← qaj];simp[pstD,qbd]
 unfold chkE
 by_cases hv:vldB a rows=true
 · rw[if_pos hv] at h1 ⊢
   by_cases hk:(postN kind).1=0
   · rw[if_pos hk];have hk':((postN kind).1:Int)=0:=by omega
     simp only[Kir0,qa,qb,eq_self,aBin,reduceIte,ibne,h1,h2,h3,hk']
   · rw[if_neg hk];have hk':¬ ((postN kind).1:Int)=0:=by omega
     simp only[Kir0,qa,qb,eq_self,aBin,reduceIte,ibne,h1,h2,h3,hk']
 · rw[if_neg hv] at h1 ⊢;simp only[Kir0,qa,qb,eq_self,aBin,reduceIte,Int.reduceEq,ibne,h1,Int.reduceEq]
theorem qcl (l:List Int):D.WF (numsD l):=.sl _ fun r hr c hc=>by
 obtain ⟨x,_,rfl⟩:=List.mem_map.1 hr;simp only[numR,List.mem_singleton] at hc;subst hc;exact .int _ _
theorem qhs (rows:List (List Int)):D.WF (tabD rows):=.sl _ fun r hr c hc=>by
 obtain ⟨x,_,rfl⟩:=List.mem_map.1 hr;simp only[List.mem_singleton] at hc;subst hc;exact qcl x
variable {G:Glob}
theorem kcc {i:Nat} {f:FuncId} (hsg:Ksigs[i]? = some ⟨f,5,[],[(.agg [(.atm (.v 0)),(.atm (.v 1))]),(.atm (.v 2)),(.atm (.v 3)),(.atm (.v 4))],1,[],(.atm (.v 0)),false,[]⟩) {x0 x2 x3 x4:Int} {rows:List (List Int)} {y:Bool}
 (hr:run Ktb i [.int .i64 x0,tabD rows,.int .i64 x2,.int .i64 x3,.int .i64 x4]=some [.bool y]):CC Tryz.prog G f [] [.agg [.d (.int .i64 x0),.d (tabD rows)],.d (.int .i64 x2),.d (.int .i64 x3),.d (.int .i64 x4)] [] (.d (.bool y)):=by
 have:=qbw (G:=G) Ktok Kgok (by kernel_rfl) qzib hsg (ins:=[.int .i64 x0,tabD rows,.int .i64 x2,.int .i64 x3,.int .i64 x4]) (fun d hd=>?_) rfl (fun k hk=>by cases hk) hr rfl
 · simpa [hIn,SV.instL,SV.inst,SA.val] using this
 · simp only[List.mem_cons,List.not_mem_nil,or_false] at hd;rcases hd with rfl|rfl|rfl|rfl|rfl
   · exact .int _ _
   · exact qhs rows
   · exact .int _ _
   · exact .int _ _
   · exact .int _ _
theorem qajb {kind a:Int} {rows:List (List Int)} (hv:Vld a rows) (i:Nat) (hi:i<(pstL kind).length) (k f g:Nat) (hk:k<szT a) (hf:f<szT a) (hg:g<szT a) :
 CC Tryz.prog G ((pstL kind)[i]).2 [] [.agg [iA ((szT a-1:Nat):Int),.d (tabD rows)],iA k,iA f,iA g] [] (.d (.bool (hB kind a rows (i+1) k f g))):=by
 have h16:=qg a;have hT:∀ n:Nat,n<szT a→(BitVec.ofNat 64 n).toNat=n:=fun n hn=>by rw[BitVec.toNat_ofNat];omega
 have hA:(BitVec.ofNat 64 (szT a-1)).toNat=szT a-1:=hT _ (by omega)
 have hk':(BitVec.ofNat 64 k).toNat<szT a:=by rw[hT k hk];exact hk
 have hf':(BitVec.ofNat 64 f).toNat<szT a:=by rw[hT f hf];exact hf
 have hg':(BitVec.ofNat 64 g).toNat<szT a:=by rw[hT g hg];exact hg
 have hA':(BitVec.ofNat 64 (szT a-1)).toNat<szT a:=by rw[hA];omega
 have eA:ivD (BitVec.ofNat 64 (szT a-1)) = .int .i64 ((szT a-1:Nat):Int):=by unfold ivD;rw[hA]
 have ek:ivD (BitVec.ofNat 64 k) = .int .i64 (k:Int):=by unfold ivD;rw[hT k hk]
 have ef:ivD (BitVec.ofNat 64 f) = .int .i64 (f:Int):=by unfold ivD;rw[hT f hf]
 have eg:ivD (BitVec.ofNat 64 g) = .int .i64 (g:Int):=by unfold ivD;rw[hT g hg]
 have key:∀ {j:Nat} {F:FuncId} {y:Bool},Ksigs[j]? = some ⟨F,5,[],[(.agg [(.atm (.v 0)),(.atm (.v 1))]),(.atm (.v 2)),(.atm (.v 3)),(.atm (.v 4))],1,[],(.atm (.v 0)),false,[]⟩→
  run Ktb j [ivD (BitVec.ofNat 64 (szT a-1)),tabD rows,ivD (BitVec.ofNat 64 k),ivD (BitVec.ofNat 64 f),ivD (BitVec.ofNat 64 g)]=some [.bool y]→CC Tryz.prog G F [] [.agg [iA ((szT a-1:Nat):Int),.d (tabD rows)],iA k,iA f,iA g] [] (.d (.bool y)):=fun hs hr=>by
  rw[eA,ek,ef,eg] at hr;exact kcc hs hr
 unfold hB
 by_cases c1:kind=1
 · subst c1
   match i,hi with
   | 0,_=>exact key (j:=2) rfl (qntb hv hk' hf' hg' hA')
   | 1,_=>exact key (j:=3) rfl (qvsb hv hk' hf' hg' hA')
   | 2,_=>exact key (j:=4) rfl (qesb hv hk' hf' hg' hA')
   | 3,_=>exact key (j:=5) rfl (qvrb hv hk' hf' hg' hA')
   | 4,_=>exact key (j:=6) rfl (qrrb hv hk' hf' hg' hA')
 · by_cases c2:kind=2
   · subst c2
     match i,hi with
     | 0,_=>exact key (j:=7) rfl (qotb hv hk' hf' hg' hA')
     | 1,_=>exact key (j:=8) rfl (qarb hv hk' hf' hg' hA')
     | 2,_=>exact key (j:=9) rfl (qjub hv hk' hf' hg' hA')
     | 3,_=>exact key (j:=10) rfl (qbtb hv hk' hf' hg' hA')
     | 4,_=>exact key (j:=11) rfl (qsqb hv hk' hf' hg' hA')
     | 5,_=>exact key (j:=12) rfl (quub hv hk' hf' hg' hA')
   · by_cases c3:kind=3
     · subst c3
       match i,hi with
       | 0,_=>exact key (j:=13) rfl (qerb hv hk' hf' hg' hA')
       | 1,_=>exact key (j:=14) rfl (qhrb hv hk' hf' hg' hA')
       | 2,_=>exact key (j:=15) rfl (qprb hv hk' hf' hg' hA')
       | 3,_=>exact key (j:=16) rfl (qnub hv hk' hf' hg' hA')
       | 4,_=>exact key (j:=17) rfl (qwqb hv hk' hf' hg' hA')
       | 5,_=>exact key (j:=18) rfl (qqqb hv hk' hf' hg' hA')
       | 6,_=>exact key (j:=19) rfl (qvtb hv hk' hf' hg' hA')
     · have e:pstL kind=[]:=by unfold pstL;rw[if_neg c1,if_neg c2,if_neg c3]
       rw[e] at hi;simp at hi
theorem qtdb {kind a:Int} {rows:List (List Int)} (hv:Vld a rows) (H:Heap):SeqAV Tryz.prog 61 [.eptr [pstD (pstL kind)],.eptr [.int .i64 a,tabD rows],.eptr [.int .i64 ((szT a-1:Nat):Int),tabD rows]] H ((bQ kind a rows).map brA):=by
 have hN:=hv.len;have h16:=qg a;have h0:0<szT a:=by rcases hv.at_ with rfl|rfl<;>decide
 have hm : (pstL kind).length ≤ 7 := by rw [qaj]; unfold postN; split; · decide
                                        split;· decide
                                        split<;>decide
 have:=qbub H (pstL kind) a ((szT a-1:Nat):Int) rows (fun i=>hB kind a rows (i+1)) (by omega) (by omega) (by omega) (fun i hi k f g hk hf hg=>qajb hv i hi k f g (by omega) (by omega) (by omega))
 have e:bQ kind a rows=upI (fun i n=>hB kind a rows (i+1) (n / (if ((pstL kind).getD i (true,0)).1 then 1 else rows.length) / rows.length) (n / (if ((pstL kind).getD i (true,0)).1 then 1 else rows.length) % rows.length) (n % (if ((pstL kind).getD i (true,0)).1 then 1 else rows.length))) rows.length (fun i=>if ((pstL kind).getD i (true,0)).1 then 1 else rows.length) (pstL kind).length:=by
  unfold bQ;rw[← qxqb h0,hN,qaj]
  have hfl:∀ i,i<(postN kind).1→((pstL kind).getD i (true,0)).1=decide (i<(postN kind).2):=by
   unfold pstL postN;intro i
   by_cases c1:kind=1
   · simp only[c1,if_true];intro hi
     match i,hi with
     | 0,_|1,_|2,_|3,_|4,_=>rfl
   · by_cases c2:kind=2
     · simp only[c2,if_true];intro hi
       match i,hi with
       | 0,_|1,_|2,_|3,_|4,_|5,_=>rfl
     · by_cases c3:kind=3
       · simp only[c3,if_true];intro hi
         match i,hi with
         | 0,_|1,_|2,_|3,_|4,_|5,_|6,_=>rfl
       · simp only[c1,c2,c3,if_false];intro hi;omega
  have hs:∀ i,i<(postN kind).1→(if i<(postN kind).2 then 1 else szT a)=if ((pstL kind).getD i (true,0)).1 then 1 else szT a:=fun i hi=>by
   rw[hfl i hi];simp
  refine qkvb hs fun i hi n=>?_
  rw[hs i hi]
 rw[e];exact this
end Go.Proofs.YtnfecjmddbehiaaGreat

namespace Go.Proofs.YtnfecjmddbehiaaGreat
open Go Am Go.Proofs Go.RowKit
set_option maxRecDepth 100000
set_option maxHeartbeats 2000000
variable {G:Glob}
theorem qtm (a:Int) (rows:List (List Int)) (l:List (Bool × FuncId)) (h0:0<rows.length) (h1:rows.length≤16):CC Tryz.prog G 31 [] [.agg [iA a,.d (tabD rows)],.d (pstD l)] [] (.clo (.func 61) [] [.eptr [pstD l],.eptr [.int .i64 a,tabD rows],.eptr [.int .i64 ((rows.length-1:Nat):Int),tabD rows]]):=by
 have w1:IntKind.i64.wrap ((rows.length:Int)-1)=((rows.length-1:Nat):Int):=by
  have:(rows.length:Int)-1=((rows.length-1:Nat):Int):=by omega
  rw[this];exact wrN (by omega)
 refine CC.go Tryz.func31 rfl rfl Tryz.ntmps31 (k0:=0) rfl (Nat.le_of_ble_eq_true rfl) (by rfl) (by rfl) ?_
 refine qi ?_;refine qd (by simp only[slimL,slim1,List.map_cons,List.map_nil];rfl) ?_
 refine qh 3 (by simp only[go_sem,pstD,tabD];rfl) ?_
 refine qf (qe ?_);refine qi ?_;refine qd (by simp only[slimL,slim1,List.map_cons,List.map_nil];rfl) ?_
 refine qh 9 (by simp only[go_sem,List.length_map,w1];rfl) ?_
 refine qf (qic (((Ent.box (t:=2) (b:=0) (row:=[.int .i64 a,tabD rows]) rfl rfl rfl).trans (Ent.box (t:=3) (b:=1) (row:=[pstD l]) rfl rfl rfl)).trans (Ent.box (t:=5) (b:=2) (row:=[.int .i64 ((rows.length-1:Nat):Int),tabD rows]) rfl rfl rfl)) ?_);refine qi ?_;refine qd (by simp only[slimL,slim1,List.map_cons,List.map_nil];rfl) ?_
 refine qh 2 (by simp only[go_sem,pstD,tabD];rfl) ?_
 refine qf (qe ?_);refine qqc ?_;refine qgn (.inr rfl) (rs:=[.tmp 4]) rfl (by simp only[go_sem];rfl) ?_
 exact ⟨rfl,rfl⟩
theorem qsv (a:Int) (rows:List (List Int)) (kind:Int) (hl:rows.length<9223372036854775808) (hr:∀ r∈rows,r.length<9223372036854775808):CC Tryz.prog G 30 [] [.agg [iA a,.d (tabD rows)],iA kind] [] (iA (chkE a rows kind)):=by
 have:=qbw (G:=G) Ktok Kgok (by kernel_rfl) qzib (i:=0) rfl (ins:=[.int .i64 a,tabD rows,.int .i64 kind]) (fun d hd=>?_) rfl (fun k hk=>by cases hk) (quz a rows kind hl hr) rfl
 · simpa [Ksg0,hIn,SV.instL,SV.inst,SA.val] using this
 · simp only[List.mem_cons,List.not_mem_nil,or_false] at hd;rcases hd with rfl|rfl|rfl
   · exact .int _ _
   · exact qhs rows
   · exact .int _ _
theorem qleb (kind:Int):CC Tryz.prog G 32 [] [iA kind] [] (.d (pstD (pstL kind))):=by
 have:=qbw (G:=G) Ktok Kgok (by kernel_rfl) qzib (i:=1) rfl (ins:=[.int .i64 kind]) (fun d hd=>?_) rfl (fun k hk=>by cases hk) (qpp kind) rfl
 · simpa [Ksg1,hIn,SV.instL,SV.inst,SA.val] using this
 · simp only[List.mem_cons,List.not_mem_nil,or_false] at hd;subst hd;exact .int _ _
def bxT (a:Int) (rows:List (List Int)):Blk:={ fz:=false,ap:=false,ty:=30,sz:=2,rows:=[[iA a,.d (tabD rows)]] }
def bxE (n:Int):Blk:={ fz:=false,ap:=false,ty:=31,sz:=1,rows:=[[iA n]] }
def bxB (b:Bool):Blk:={ fz:=false,ap:=false,ty:=4,sz:=1,rows:=[[.d (.bool b)]] }
def chkA (kind a : Int) (rows : List (List Int)) : AV := if chkE a rows kind = 0 then (match (bQ kind a rows).head? with
    | some b=>.tup [.agg [iA b.1,iA b.2.1,iA b.2.2.1,iA b.2.2.2],.d (.bool true),iA 0]
    | none=>.tup [.agg [iA 0,iA 0,iA 0,iA 0],.d (.bool false),iA 0])
 else .tup [.agg [iA 0,iA 0,iA 0,iA 0],.d (.bool false),iA (chkE a rows kind)]
theorem qisb (a:Int) (rows:List (List Int)) (kind:Int) (hl:rows.length<9223372036854775808) (hr:∀ r∈rows,r.length<9223372036854775808):CC Tryz.prog G 9 [] [.agg [iA a,.d (tabD rows)],iA kind] [] (chkA kind a rows):=by
 have hc:=qsv (G:=G) a rows kind hl hr;have hls:=qleb (G:=G) kind;unfold chkA;obtain ⟨er,her⟩:∃ er,er=chkE a rows kind:=⟨_,rfl⟩;rw[← her] at hc ⊢;refine CC.go Tryz.func9 rfl rfl Tryz.ntmps9 (k0:=0) rfl (Nat.le_of_ble_eq_true rfl) (by rfl) (by rfl) ?_
 refine qi ?_;refine qd (by simp only[slimL,slim1,List.map_cons,List.map_nil];rfl) ?_
 refine qh 4 (by simp only[go_sem,tabD];rfl) ?_
 refine qf (qe ?_);refine qi ?_;refine qi ?_;refine qd (by simp only[slimL,slim1,List.map_cons,List.map_nil];rfl) ?_
 refine qh 2 (by simp only[go_sem];rfl) ?_
 refine qxc rfl (by simp only[go_sem]) rfl (by simp only[go_sem];rfl) (by simp only[go_sem];rfl) ?_
 refine qge hc rfl rfl rfl ?_;refine qh 1 (by simp only[go_sem];rfl) ?_
 refine qf (qe ?_);refine qi ?_;refine qd (by simp only[slimL,slim1,List.map_cons,List.map_nil];rfl) ?_
 refine qh 2 (by simp only[go_sem];rfl) ?_
 refine qf (qe ?_)
 by_cases h0:er=0
 · rw[if_pos h0];obtain ⟨hv,hk⟩:=qym.1 (her.symm.trans h0);have hb:(er != 0)=false:=by simp[h0]
   refine qpd (by simp only[go_sem,hb]) ?_
   refine qzd ?_;refine qe ?_;refine qi ?_;refine qi ?_;refine qbc (by kernel_rfl) (by simp only[slimL,slim1,List.map_cons,List.map_nil];rfl) ?_
   refine qlc 2 (by simp only[go_sem];rfl) ?_
   refine qdf rfl (by simp only[go_sem]) rfl (by simp only[go_sem];rfl) (by simp only[go_sem];rfl) ?_
   refine qge hls rfl rfl rfl ?_;refine qlc 0 (by simp only[go_sem];rfl) ?_
   refine qdf rfl (by simp only[go_sem]) rfl (by simp only[go_sem];rfl) (by simp only[go_sem];rfl) ?_
   refine qge (qtm a rows (pstL kind) (by rw[hv.len];rcases hv.at_ with rfl|rfl<;>decide) (by rw[hv.len];exact qg a)) rfl rfl rfl ?_
   refine qlc 0 (by simp only[go_sem];rfl) ?_
   refine qle 4 (by kernel_rfl) ?_
   refine qic (Ent.cut (k:=0) (l':=[.junk,.junk,.junk,.junk,.ptr 1 1 0 0,.ptr 2 1 0 0,.ptr 3 1 0 0,.junk,.junk,.junk,.junk,.junk,.junk,.junk,.junk,.junk,.junk,.junk,.junk,.clo (.func 61) [] [.eptr [pstD (pstL kind)],.eptr [.int .i64 a,tabD rows],.eptr [.int .i64 ((rows.length-1:Nat):Int),tabD rows]]]) (h':=[some (bxT a rows),some (blkB (0,0,0,0)),some (bxB false),some (bxE 0)]) (nx':=4) (Nat.le_of_ble_eq_true rfl) (Nat.le_of_ble_eq_true rfl) (.junk (.junk (.junk (.junk (.keep rfl rfl (.keep rfl rfl (.keep rfl rfl (.junk (.junk (.junk (.junk (.junk (.junk (.junk (.junk (.junk (.junk (.junk (.junk (.keep rfl rfl (.nil _))))))))))))))))))))) rfl (.cons rfl (.cons rfl (.cons rfl (.cons rfl (.nil _ _))))) rfl) ?_;refine qdc ?_;have hN:((rows.length-1:Nat):Int)=((szT a-1:Nat):Int):=by rw[hv.len]
   cases hq:bQ kind a rows with
   | nil=>
    have hsq:=qtdb (kind:=kind) hv (Am.hl [some (bxT a rows),some (blkB (0,0,0,0)),some (bxB false),some (bxE 0)]);rw[hq,← hN] at hsq;refine qrg (gf:=61) rfl hsq (fun r hr=>by cases hr) (fun p hp=>by simp at hp;subst hp;exact Nat.le_of_ble_eq_true rfl) (FullS.hl rfl rfl) rfl rfl (fun j h=>h=Am.hl [some (bxT a rows),some (blkB (0,0,0,0)),some (bxB false),some (bxE 0)]) rfl (fun j h hj=>by simp at hj) ?_
    rintro h rfl;refine qec ?_;refine qe ?_;refine qi ?_;refine qd (by simp only[slimL,slim1,List.map_cons,List.map_nil];rfl) ?_
    refine qh 4 (by simp only[go_sem,pstD,tabD,bxT,blkB,bxB,bxE];rfl) ?_
    refine qf (qe ?_);refine qqc ?_;refine qgn (.inr rfl) (rs:=[.cell 4 35,.cell 5 4,.cell 6 31]) rfl (by simp only[go_sem];rfl) ?_
    exact ⟨rfl,rfl⟩
   | cons b bs=>
    have hsq:=qtdb (kind:=kind) hv (Am.hl [some (bxT a rows),some (blkB (0,0,0,0)),some (bxB false),some (bxE 0)]);rw[hq,← hN] at hsq;refine qrg (gf:=61) rfl hsq (fun r hr=>?_) (fun p hp=>by simp at hp;subst hp;exact Nat.le_of_ble_eq_true rfl) (FullS.hl rfl rfl) rfl rfl (fun j h=>j=0∧h=Am.hl [some (bxT a rows),some (blkB (0,0,0,0)),some (bxB false),some (bxE 0)]) ⟨rfl,rfl⟩ ?_ ?_
    · obtain ⟨x,_,rfl⟩:=List.mem_map.1 hr;rfl
    · rintro j h hj ⟨rfl,rfl⟩;simp only[List.map_cons,List.getElem_cons_zero,putTs,brA];refine qd (by simp only[slimL,slim1,List.map_cons,List.map_nil];rfl) ?_
      refine qh 2 (by simp only[go_sem,pstD,tabD,bxT,blkB,bxB,bxE];rfl) ?_
      refine qf (⟨rfl,_,.refl _ _,?_⟩);refine qdc ?_;refine qi ?_;refine qd (by simp only[slimL,slim1,List.map_cons,List.map_nil];rfl) ?_
      refine qh 4 (by simp only[go_sem];rfl) ?_
      refine qf (qe ?_);refine qqc ?_;refine qzl ?_;refine ⟨_,.refl _ _,?_⟩;refine qzl (qog ?_);refine qgn (.inr rfl) (rs:=[.cell 4 35,.cell 5 4,.cell 6 31]) rfl (by simp only[go_sem];rfl) ?_
      exact ⟨rfl,rfl⟩
    · rintro h ⟨h1,_⟩;simp at h1
 · rw[if_neg h0];have hb:(er != 0)=true:=by simp[h0]
   refine qkc (by simp only[go_sem,hb]) ?_
   refine qi ?_;refine qd (by simp only[slimL,slim1,List.map_cons,List.map_nil];rfl) ?_
   refine qh 5 (by simp only[go_sem];rfl) ?_
   refine qf (qe ?_);refine qqc ?_;refine qog ?_;refine qgn (.inr rfl) (rs:=[.cell 4 35,.cell 5 4,.cell 6 31]) rfl (by simp only[go_sem];rfl) ?_
   exact ⟨rfl,rfl⟩
def slB (l:List Int):Blk:={ fz:=false,ap:=true,ty:=3,sz:=1,rows:=l.map fun x=>[iA x] }
def boxO (m:Nat):Blk:={ fz:=false,ap:=false,ty:=22,sz:=1,rows:=[[.own 1 m 0 m]] }
theorem qqtb {l:List Int} {p:Nat} {x:Int} (h:l[p]? = some x):(slB l).rows[p]? = some [iA x]:=by simp[slB,h]
theorem qvub (l:List Int) (p:Nat) (x:Int):(slB l).rows.set p [iA x]=(slB (l.set p x)).rows:=by simp[slB,List.map_set]
def cntR (kind a:Int) (rows:List (List Int)):List Int:=if chkE a rows kind=0 then cntV (postN kind).1 (bQ kind a rows) else []
theorem qnqb (a:Int) (rows:List (List Int)) (kind:Int) (hl:rows.length<9223372036854775808) (hr:∀ r∈rows,r.length<9223372036854775808):CC Tryz.prog G 19 [] [.agg [iA a,.d (tabD rows)],iA kind] [] (.tup [.d (numsD (cntR kind a rows)),iA (chkE a rows kind)]):=by
 have hc:=qsv (G:=G) a rows kind hl hr;have hls:=qleb (G:=G) kind;unfold cntR;obtain ⟨er,her⟩:∃ er,er=chkE a rows kind:=⟨_,rfl⟩;rw[← her] at hc ⊢;refine CC.go Tryz.func19 rfl rfl Tryz.ntmps19 (k0:=0) rfl (Nat.le_of_ble_eq_true rfl) (by rfl) (by rfl) ?_
 refine qi ?_;refine qd (by simp only[slimL,slim1,List.map_cons,List.map_nil];rfl) ?_
 refine qh 3 (by simp only[go_sem,tabD];rfl) ?_
 refine qf (qe ?_);refine qi ?_;refine qi ?_;refine qd (by simp only[slimL,slim1,List.map_cons,List.map_nil];rfl) ?_
 refine qh 2 (by simp only[go_sem];rfl) ?_
 refine qxc rfl (by simp only[go_sem]) rfl (by simp only[go_sem];rfl) (by simp only[go_sem];rfl) ?_
 refine qge hc rfl rfl rfl ?_;refine qh 1 (by simp only[go_sem];rfl) ?_
 refine qf (qe ?_);refine qi ?_;refine qd (by simp only[slimL,slim1,List.map_cons,List.map_nil];rfl) ?_
 refine qh 2 (by simp only[go_sem];rfl) ?_
 refine qf (qe ?_)
 by_cases h0:er=0
 · rw[if_pos h0];obtain ⟨hv,hk⟩:=qym.1 (her.symm.trans h0);have hb:(er != 0)=false:=by simp[h0]
   have hN:((rows.length-1:Nat):Int)=((szT a-1:Nat):Int):=by rw[hv.len]
   have hm:(postN kind).1≤7:=by rcases hk with rfl|rfl|rfl<;>decide
   have hpl:=qaj kind;obtain ⟨m,hmm⟩:∃ m,m=(postN kind).1:=⟨_,rfl⟩;rw[← hmm] at hm hpl ⊢;have f1:((8:Nat):Int)*(m:Int)≤281474976710656:=by omega
   have f2:(m:Int)≤9223372036854775807:=by omega
   refine qpd (by simp only[go_sem,hb]) ?_
   refine qzd ?_;refine qe ?_;refine qi ?_;refine qd (by simp only[slimL,slim1,List.map_cons,List.map_nil];rfl) ?_
   refine qh 1 (by simp only[go_sem];rfl) ?_
   refine qxc rfl (by simp only[go_sem]) rfl (by simp only[go_sem];rfl) (by simp only[go_sem];rfl) ?_
   refine qge hls rfl rfl rfl ?_;refine qh 1 (by simp only[go_sem];rfl) ?_
   refine qf (qe ?_);refine qi ?_;refine qd (by simp only[slimL,slim1,List.map_cons,List.map_nil];rfl) ?_
   refine qh 5 (by simp only[go_sem,pstD,List.length_map,hpl,f1,f2];rfl) ?_
   refine qf (qic (Ent.cut (k:=0) (l':=[.junk,.junk,.ptr 0 1 0 0,.junk,.junk,.junk,.junk,.d (pstD (pstL kind)),.ptr 2 1 0 0]) (h':=[some (bxT a rows),some (slB (cntV m [])),some (boxO m)]) (nx':=3) (Nat.le_of_ble_eq_true rfl) (Nat.le_of_ble_eq_true rfl) (.junk (.junk (.keep rfl rfl (.junk (.junk (.junk (.junk (.keep rfl rfl (.keep rfl rfl (.nil _)))))))))) rfl (.cons (rfl) (.cons (by simp only[go_sem,slB,qjv,List.map_replicate]) (.cons (rfl) (.nil _ _)))) (by simp[slB,bxT,boxO,AV.inK])) ?_)
   refine qi ?_;refine qi ?_;refine qd (by simp only[slimL,slim1,List.map_cons,List.map_nil];rfl) ?_
   refine qh 2 (by simp only[go_sem,bxT];rfl) ?_
   refine qxc rfl (by simp only[go_sem]) rfl (by simp only[go_sem];rfl) (by simp only[go_sem];rfl) ?_
   refine qge (qtm a rows (pstL kind) (by rw[hv.len];rcases hv.at_ with rfl|rfl<;>decide) (by rw[hv.len];exact qg a)) rfl rfl rfl ?_
   refine qh 0 (by simp only[go_sem];rfl) ?_
   refine qf (qic (Ent.cut (k:=0) (l':=[.junk,.junk,.junk,.junk,.junk,.junk,.junk,.junk,.ptr 2 1 0 0,.junk,.junk,.junk,.junk,.junk,.junk,.junk,.junk,.junk,.junk,.junk,.junk,.junk,.junk,.clo (.func 61) [] [.eptr [pstD (pstL kind)],.eptr [.int .i64 a,tabD rows],.eptr [.int .i64 ((rows.length-1:Nat):Int),tabD rows]]]) (h':=[some (bxT a rows),some (slB (cntV m [])),some (boxO m)]) (nx':=3) (Nat.le_of_ble_eq_true rfl) (Nat.le_of_ble_eq_true rfl) (.junk (.junk (.junk (.junk (.junk (.junk (.junk (.junk (.keep rfl rfl (.junk (.junk (.junk (.junk (.junk (.junk (.junk (.junk (.junk (.junk (.junk (.junk (.junk (.junk (.keep rfl rfl (.nil _))))))))))))))))))))))))) rfl (.cons (rfl) (.cons (rfl) (.cons (rfl) (.nil _ _)))) (by simp[slB,bxT,boxO,AV.inK])) ?_)
   refine qdc ?_;have hsq:=qtdb (kind:=kind) hv (Am.hl [some (bxT a rows),some (slB (cntV m [])),some (boxO m)]);rw[← hN] at hsq;refine qrg (gf:=61) rfl hsq (fun r hr=>?_) (fun p hp=>by simp at hp;subst hp;exact Nat.le_of_ble_eq_true rfl) (FullS.hl rfl rfl) rfl rfl (fun j h=>h=Am.hl [some (bxT a rows),some (slB (cntV m ((bQ kind a rows).take j))),some (boxO m)]) rfl ?_ ?_
   · obtain ⟨x,_,rfl⟩:=List.mem_map.1 hr;rfl
   · rintro j h hj rfl;have hj':j<(bQ kind a rows).length:=by simpa using hj
     have hmem:=qznb (List.getElem_mem hj');rw[← hmm] at hmem;have htk:(bQ kind a rows).take (j+1)=(bQ kind a rows).take j++[(bQ kind a rows)[j]]:=by rw[List.take_add_one,List.getElem?_eq_getElem hj'];rfl
     have hlen:=qjwb (kind:=kind) hv;simp only[List.getElem_map];generalize hb9:(bQ kind a rows)[j]=b at hmem htk;generalize hl9:(bQ kind a rows).take j=l at htk;have hll:l.length≤28672:=by rw[← hl9,List.length_take];omega
     obtain ⟨p,hp⟩:∃ p,b.1=p+1:=⟨b.1-1,by omega⟩
     have hpm:p<m:=by omega
     have g1:=qqtb (qsx l hpm);have g2:=qvq (m:=m) l b hp;have hcp:l.countP (fun b=>decide (b.1=p+1))≤l.length:=List.countP_le_length
     generalize hc9:l.countP (fun b=>decide (b.1=p+1))=c at g1 g2 hcp
     have w1:IntKind.i64.wrap ((b.1:Int)-1)=(p:Int):=by rw[hp];rw[wr (by omega) (by omega)];omega
     have w2:IntKind.i64.wrap ((c:Int)+1)=(c:Int)+1:=wr (by omega) (by omega)
     have hpi:(p:Int)<(m:Int):=by omega
     have hsl:(slB (cntV m l)).rows.length=m:=by simp[slB,qwi]
     have s1:(slB (cntV m l)).sz=1:=rfl;have s2:(slB (cntV m l)).fz=false:=rfl;simp only[putTs,brA];refine qd (by simp only[slimL,slim1,List.map_cons,List.map_nil];rfl) ?_
     refine qh 2 (by simp only[go_sem,pstD,tabD,bxT,boxO];rfl) ?_
     refine qf (⟨rfl,_,.refl _ _,?_⟩);refine qdc ?_;refine qd (by simp only[slimL,slim1,List.map_cons,List.map_nil];rfl) ?_
     refine qh 9 (by simp only[go_sem,w1,w2,hpi,hsl,g1,s1,s2];rfl) ?_
     refine qf (qec ?_);refine ⟨_,Ent.cut (k:=3) (l':=[.junk,.junk,.junk,.junk,.junk,.junk,.junk,.junk,.ptr 2 1 0 0]) (h':=[some (bxT a rows),some (slB (cntV m (l++[b]))),some (boxO m)]) (nx':=3) (Nat.le_of_ble_eq_true rfl) (Nat.le_of_ble_eq_true rfl) (.junk (.junk (.junk (.junk (.junk (.junk (.junk (.junk (.keep rfl rfl (.nil _)))))))))) rfl (.cons (rfl) (.cons (by simp only[go_sem];rw[qvub,g2];rfl) (.cons (rfl) (.nil _ _)))) (by simp[slB,bxT,boxO,AV.inK]),rfl,?_⟩
     dsimp only
     rw[htk]
   · rintro h rfl;rw[List.length_map,List.take_length];refine qec ?_;refine qe ?_;refine qi ?_;refine qd (by simp only[slimL,slim1,List.map_cons,List.map_nil];rfl) ?_
     refine qh 3 (by simp only[go_sem,pstD,tabD,bxT,boxO];rfl) ?_
     refine qf (qic (Ent.frz (t:=4) (b:=1) (blk:=slB (cntV m (bQ kind a rows))) (xs:=(cntV m (bQ kind a rows)).map numR) rfl rfl (by simp[slB,numR]) (by simp[qwi])) ?_)
     refine qqc ?_;refine qgn (.inr rfl) (rs:=[.tmp 4,.tmp 5]) rfl (by simp only[go_sem];rfl) ?_
     exact ⟨by rw[h0];rfl,rfl⟩
 · rw[if_neg h0];have hb:(er != 0)=true:=by simp[h0]
   refine qkc (by simp only[go_sem,hb]) ?_
   refine qi ?_;refine qd (by simp only[slimL,slim1,List.map_cons,List.map_nil];rfl) ?_
   refine qh 3 (by simp only[go_sem];rfl) ?_
   refine qf (qic (Ent.nil (t:=4) rfl) ?_);refine qqc ?_;refine qog ?_;refine qgn (.inr rfl) (rs:=[.tmp 4,.tmp 5]) rfl (by simp only[go_sem];rfl) ?_
   exact ⟨rfl,rfl⟩
end Go.Proofs.YtnfecjmddbehiaaGreat

namespace Go.Proofs.YtnfecjmddbehiaaGreat
open Go Am
set_option maxRecDepth 100000
variable {G:Glob}
def decL:List (List D)→Option (List Int)
 | []=>some []
 | [.int .i64 x]::l=>match decL l with|some r=>some (x::r)|none=>none
 | _=>none
def decR:List (List D)→Option (List (List Int))
 | []=>some []
 | [.sl rs]::l=>match decL rs,decR l with|some x,some r=>some (x::r)|_,_=>none
 | _=>none
theorem qlk:∀ {d:List (List D)} {l:List Int},decL d=some l→d=l.map numR
 | [],l,h=>by simp only[decL,Option.some.injEq] at h;subst h;rfl
 | r::d,l,h=>by
  unfold decL at h
  split at h
  · rename_i e;cases e
  · rename_i x l' e;cases e
    split at h
    · rename_i r' hr;cases h;rw[qlk hr];rfl
    · cases h
  · cases h
theorem qoo:∀ l:List Int,decL (l.map numR)=some l
 | []=>rfl
 | x::l=>by simp only[List.map_cons,numR,decL,qoo l]
theorem qjt:∀ {d:List (List D)} {l:List (List Int)},decR d=some l→d=l.map fun r=>[numsD r]
 | [],l,h=>by simp only[decR,Option.some.injEq] at h;subst h;rfl
 | r::d,l,h=>by
  unfold decR at h
  split at h
  · rename_i e;cases e
  · rename_i x l' e;cases e
    split at h
    · rename_i x' r' hx hr;cases h;rw[qlk hx,qjt hr];rfl
    · cases h
  · cases h
theorem qmo:∀ l:List (List Int),decR (l.map fun r=>[numsD r])=some l
 | []=>rfl
 | x::l=>by simp only[List.map_cons,numsD,decR,qoo];have:=qmo l;simp only[numsD] at this;rw[this]
def small9 (rows:List (List Int)):Bool:=decide (rows.length<9223372036854775808)&&rows.all fun r=>decide (r.length<9223372036854775808)
def tab1 (k:Int→List (List Int)→Int→Option (List D)):PF:=fun a=>match a with
 | [.int .i64 x,.sl d,.int .i64 kind]=>match decR d with
  | some rows=>if small9 rows=true then k x rows kind else none
  | none=>none
 | _=>none
theorem qdh {k:Int→List (List Int)→Int→Option (List D)} {a o:List D} (h:tab1 k a=some o):∃ (x:Int) (rows:List (List Int)) (kind:Int),a=[.int .i64 x,tabD rows,.int .i64 kind]∧rows.length<9223372036854775808∧(∀ r∈rows,r.length<9223372036854775808)∧k x rows kind=some o:=by
 unfold tab1 at h
 split at h
 · rename_i x d kind
   split at h
   · rename_i rows hd
     split at h
     · rename_i hs;simp only[small9,Bool.and_eq_true,decide_eq_true_eq,List.all_eq_true] at hs;refine ⟨x,rows,kind,?_,hs.1,hs.2,h⟩;rw[qjt hd];rfl
     · cases h
   · cases h
 · cases h
theorem qsi {k:Int→List (List Int)→Int→Option (List D)} (x:Int) (rows:List (List Int)) (kind:Int) (hl:rows.length<9223372036854775808) (hr:∀ r∈rows,r.length<9223372036854775808):tab1 k [.int .i64 x,tabD rows,.int .i64 kind]=k x rows kind:=by
 show (match decR (rows.map fun r=>[numsD r]) with
  | some rows=>if small9 rows=true then k x rows kind else none
  | none=>none)=_
 rw[qmo];simp only;rw[if_pos];simp only[small9,Bool.and_eq_true,decide_eq_true_eq,List.all_eq_true];exact ⟨hl,hr⟩
def checkE:PF:=tab1 fun a rows kind=>some (chkV kind a rows)
def countE:PF:=tab1 fun a rows kind=>some [numsD (cntR kind a rows),.int .i64 (chkE a rows kind)]
theorem qcqb (kind a:Int) (rows:List (List Int)):EWF (chkV kind a rows):=by
 unfold chkV
 split
 · split
   · intro d hd;simp only[brD,List.cons_append,List.nil_append,List.mem_cons,List.not_mem_nil,or_false] at hd;rcases hd with rfl|rfl|rfl|rfl|rfl|rfl<;>first|exact .int _ _|exact .bool _
   · intro d hd;simp only[List.mem_cons,List.not_mem_nil,or_false] at hd;rcases hd with rfl|rfl|rfl|rfl|rfl|rfl<;>first|exact .int _ _|exact .bool _
 · intro d hd;simp only[List.mem_cons,List.not_mem_nil,or_false] at hd;rcases hd with rfl|rfl|rfl|rfl|rfl|rfl<;>first|exact .int _ _|exact .bool _
theorem qrr {a o:List D} (h:checkE a=some o):EWF o:=by
 obtain ⟨x,rows,kind,_,_,_,h⟩:=qdh h;cases h;exact qcqb kind x rows
theorem qep {a o:List D} (h:countE a=some o):EWF o:=by
 obtain ⟨x,rows,kind,_,_,_,h⟩:=qdh h;cases h;intro d hd;simp only[List.mem_cons,List.not_mem_nil,or_false] at hd;rcases hd with rfl|rfl
 · exact qcl _
 · exact .int _ _
def chsg:Sig:=⟨9,3,[],[(.agg [(.atm (.v 0)),(.atm (.v 1))]),(.atm (.v 2))],6,[],(.tup [(.agg [(.atm (.v 0)),(.atm (.v 1)),(.atm (.v 2)),(.atm (.v 3))]),(.atm (.v 4)),(.atm (.v 5))]),false,[]⟩
def cnsg:Sig:=⟨19,3,[],[(.agg [(.atm (.v 0)),(.atm (.v 1))]),(.atm (.v 2))],2,[],(.tup [(.atm (.v 0)),(.atm (.v 1))]),true,[]⟩
theorem qua:SigOK Tryz.prog G checkE chsg:=by
 intro ins outs hwf hl hsl hr hno;have hw:=qrr hr;obtain ⟨x,rows,kind,rfl,h1,h2,h3⟩:=qdh hr;cases h3;refine ⟨hw,?_,fun i hi=>by simp[chsg,inL] at hi⟩
 have:=qisb (G:=G) x rows kind h1 h2
 have e:chsg.res.inst (chkV kind x rows) (lnL (chkV kind x rows) chsg.Hout)=chkA kind x rows:=by
  unfold chkV chkA
  by_cases h:chkE x rows kind=0
  · rw[if_pos h,if_pos h];cases (bQ kind x rows).head? with
    | none=>rfl
    | some b=>rfl
  · rw[if_neg h,if_neg h];rfl
 rw[e]
 simpa [chsg,hIn,SV.instL,SV.inst,SA.val] using this
theorem qpz:SigOK Tryz.prog G countE cnsg:=by
 intro ins outs hwf hl hsl hr hno;have hw:=qep hr;obtain ⟨x,rows,kind,rfl,h1,h2,h3⟩:=qdh hr;cases h3;refine ⟨hw,?_,fun i hi=>by simp[cnsg,inL] at hi⟩
 have:=qnqb (G:=G) x rows kind h1 h2
 simpa [cnsg,hIn,SV.instL,SV.inst,SA.val] using this
end Go.Proofs.YtnfecjmddbehiaaGreat
