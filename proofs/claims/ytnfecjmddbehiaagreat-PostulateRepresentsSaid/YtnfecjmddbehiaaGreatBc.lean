/- What functions of the program compute: lemmas. -/
import Derived.Test.YtnfecjmddbehiaaGreatKh
import Derived.Test.YtnfecjmddbehiaaGreatBq
set_option linter.unusedSimpArgs false
set_option linter.unusedVariables false
set_option linter.unusedSectionVars false
namespace Go.Proofs.YtnfecjmddbehiaaGreat
open Go Am Go.Proofs Go.RowKit
set_option maxRecDepth 100000
set_option maxHeartbeats 2000000
def pstL (kind : Int) : List (Bool × FuncId):=if kind=1 then [(true,81),(true,83),(true,84),(false,85),(false,86)] else if kind=2 then [(true,87),(true,88),(true,89),(true,90),(false,91),(false,92)] else if kind=3 then [(true,93),(true,94),(true,95),(false,96),(false,97),(false,98),(false,100)] else []
theorem revsK_run : run Ktb 21 []=some [pstD (pstL 1)]:=run_ir (x:=Kir21) rfl rfl
theorem consK_run : run Ktb 22 []=some [pstD (pstL 2)]:=run_ir (x:=Kir22) rfl rfl
theorem updsK_run : run Ktb 23 []=some [pstD (pstL 3)]:=run_ir (x:=Kir23) rfl rfl
theorem listK_run (kind : Int) : run Ktb 1 [.int .i64 kind]=some [pstD (pstL kind)]:=by
 refine run_ir (x:=Kir1) rfl ?_
 have h1:=revsK_run
 have h2:=consK_run
 have h3:=updsK_run
 by_cases c1 : kind=1
 · subst c1
   simp only [Kir1,stepQ,stepL,eq_self,aBin,reduceIte,h1]
 · by_cases c2 : kind=2
   · subst c2
     simp only [Kir1,stepQ,stepL,eq_self,aBin,reduceIte,c1,h2]
   · by_cases c3 : kind=3
     · subst c3
       simp only [Kir1,stepQ,stepL,eq_self,aBin,reduceIte,c1,c2,h3]
     · have e : pstL kind=[]:=by unfold pstL; rw [if_neg c1,if_neg c2,if_neg c3]
       rw [e]
       simp only [Kir1,stepQ,stepL,eq_self,aBin,reduceIte,c1,c2,c3]
       rfl
theorem pstL_len (kind : Int) : (pstL kind).length=(postN kind).1:=by
 unfold pstL postN
 split
 · rfl
 · split
   · rfl
   · split <;> rfl
theorem checkK_run (a : Int) (rows : List (List Int)) (kind : Int) (hl : rows.length<1000000000) (hr : ∀ r ∈ rows,r.length<1000000000) : run Ktb 0 [.int .i64 a,tabD rows,.int .i64 kind]=some [.int .i64 (chkE a rows kind)]:=by
 refine run_ir (x:=Kir0) rfl ?_
 have h1:=validateK_run a rows hl hr
 have h2:=listK_run kind
 have h3 : PO.eval .lenL [pstD (pstL kind)]=some [.int .i64 ((postN kind).1 : Int)]:=by rw [← pstL_len]; simp [pstD,ev_lenL]
 unfold chkE
 by_cases hv : vldB a rows=true
 · rw [if_pos hv] at h1 ⊢
   by_cases hk : (postN kind).1=0
   · rw [if_pos hk]
     have hk' : ((postN kind).1 : Int)=0:=by omega
     simp only [Kir0,stepQ,stepL,eq_self,aBin,reduceIte,ibne,h1,h2,h3,hk']
   · rw [if_neg hk]
     have hk' : ¬ ((postN kind).1 : Int)=0:=by omega
     simp only [Kir0,stepQ,stepL,eq_self,aBin,reduceIte,ibne,h1,h2,h3,hk']
 · rw [if_neg hv] at h1 ⊢
   simp only [Kir0,stepQ,stepL,eq_self,aBin,reduceIte,Int.reduceEq,ibne,h1,Int.reduceEq]
theorem numsD_wf' (l : List Int) : D.WF (numsD l):=.sl _ fun r hr c hc=>by
 obtain ⟨x,_,rfl⟩:=List.mem_map.1 hr
 simp only [numR,List.mem_singleton] at hc
 subst hc; exact .int _ _
theorem tabD_wf (rows : List (List Int)) : D.WF (tabD rows):=.sl _ fun r hr c hc=>by
 obtain ⟨x,_,rfl⟩:=List.mem_map.1 hr
 simp only [List.mem_singleton] at hc
 subst hc; exact numsD_wf' x
variable {G : Glob}
theorem kcc {i : Nat} {f : FuncId} (hsg : Ksigs[i]? = some ⟨f,5,[],[(.agg [(.atm (.v 0)),(.atm (.v 1))]),(.atm (.v 2)),(.atm (.v 3)),(.atm (.v 4))],1,[],(.atm (.v 0)),false,[]⟩) {x0 x2 x3 x4 : Int} {rows : List (List Int)} {y : Bool}
 (hr : run Ktb i [.int .i64 x0,tabD rows,.int .i64 x2,.int .i64 x3,.int .i64 x4]=some [.bool y]) : CC Tryz.prog G f [] [.agg [.d (.int .i64 x0),.d (tabD rows)],.d (.int .i64 x2),.d (.int .i64 x3),.d (.int .i64 x4)] [] (.d (.bool y)):=by
 have:=run_cc (G:=G) Ktok Kgok (by kernel_rfl) Ktb_ok hsg (ins:=[.int .i64 x0,tabD rows,.int .i64 x2,.int .i64 x3,.int .i64 x4]) (fun d hd=>?_) rfl (fun k hk=>by cases hk) hr rfl
 · simpa [hIn,SV.instL,SV.inst,SA.val] using this
 · simp only [List.mem_cons,List.not_mem_nil,or_false] at hd
   rcases hd with rfl | rfl | rfl | rfl | rfl
   · exact .int _ _
   · exact tabD_wf rows
   · exact .int _ _
   · exact .int _ _
   · exact .int _ _
theorem holds_cc {kind a : Int} {rows : List (List Int)} (hv : Vld a rows) (i : Nat) (hi : i<(pstL kind).length) (k f g : Nat) (hk : k<szT a) (hf : f<szT a) (hg : g<szT a) :
 CC Tryz.prog G ((pstL kind)[i]).2 [] [.agg [iA ((szT a - 1 : Nat) : Int),.d (tabD rows)],iA k,iA f,iA g] [] (.d (.bool (hB kind a rows (i + 1) k f g))):=by
 have h16:=szT_le a
 have hT : ∀ n : Nat,n<szT a→(BitVec.ofNat 64 n).toNat=n:=fun n hn=>by rw [BitVec.toNat_ofNat]; omega
 have hA : (BitVec.ofNat 64 (szT a - 1)).toNat=szT a - 1:=hT _ (by omega)
 have hk' : (BitVec.ofNat 64 k).toNat<szT a:=by rw [hT k hk]; exact hk
 have hf' : (BitVec.ofNat 64 f).toNat<szT a:=by rw [hT f hf]; exact hf
 have hg' : (BitVec.ofNat 64 g).toNat<szT a:=by rw [hT g hg]; exact hg
 have hA' : (BitVec.ofNat 64 (szT a - 1)).toNat<szT a:=by rw [hA]; omega
 have eA : ivD (BitVec.ofNat 64 (szT a - 1)) = .int .i64 ((szT a - 1 : Nat) : Int):=by unfold ivD; rw [hA]
 have ek : ivD (BitVec.ofNat 64 k) = .int .i64 (k : Int):=by unfold ivD; rw [hT k hk]
 have ef : ivD (BitVec.ofNat 64 f) = .int .i64 (f : Int):=by unfold ivD; rw [hT f hf]
 have eg : ivD (BitVec.ofNat 64 g) = .int .i64 (g : Int):=by unfold ivD; rw [hT g hg]
 have key : ∀ {j : Nat} {F : FuncId} {y : Bool},Ksigs[j]? = some ⟨F,5,[],[(.agg [(.atm (.v 0)),(.atm (.v 1))]),(.atm (.v 2)),(.atm (.v 3)),(.atm (.v 4))],1,[],(.atm (.v 0)),false,[]⟩→
  run Ktb j [ivD (BitVec.ofNat 64 (szT a - 1)),tabD rows,ivD (BitVec.ofNat 64 k),ivD (BitVec.ofNat 64 f),ivD (BitVec.ofNat 64 g)]=some [.bool y]→CC Tryz.prog G F [] [.agg [iA ((szT a - 1 : Nat) : Int),.d (tabD rows)],iA k,iA f,iA g] [] (.d (.bool y)):=fun hs hr=>by
  rw [eA,ek,ef,eg] at hr
  exact kcc hs hr
 unfold hB
 by_cases c1 : kind=1
 · subst c1
   match i,hi with
   | 0,_=>exact key (j:=2) rfl (hR1_run hv hk' hf' hg' hA')
   | 1,_=>exact key (j:=3) rfl (hR2_run hv hk' hf' hg' hA')
   | 2,_=>exact key (j:=4) rfl (hR3_run hv hk' hf' hg' hA')
   | 3,_=>exact key (j:=5) rfl (hR4_run hv hk' hf' hg' hA')
   | 4,_=>exact key (j:=6) rfl (hR5_run hv hk' hf' hg' hA')
 · by_cases c2 : kind=2
   · subst c2
     match i,hi with
     | 0,_=>exact key (j:=7) rfl (hC1_run hv hk' hf' hg' hA')
     | 1,_=>exact key (j:=8) rfl (hC2_run hv hk' hf' hg' hA')
     | 2,_=>exact key (j:=9) rfl (hC3_run hv hk' hf' hg' hA')
     | 3,_=>exact key (j:=10) rfl (hC4_run hv hk' hf' hg' hA')
     | 4,_=>exact key (j:=11) rfl (hC5_run hv hk' hf' hg' hA')
     | 5,_=>exact key (j:=12) rfl (hC6_run hv hk' hf' hg' hA')
   · by_cases c3 : kind=3
     · subst c3
       match i,hi with
       | 0,_=>exact key (j:=13) rfl (hU1_run hv hk' hf' hg' hA')
       | 1,_=>exact key (j:=14) rfl (hU2_run hv hk' hf' hg' hA')
       | 2,_=>exact key (j:=15) rfl (hU3_run hv hk' hf' hg' hA')
       | 3,_=>exact key (j:=16) rfl (hU4_run hv hk' hf' hg' hA')
       | 4,_=>exact key (j:=17) rfl (hU5_run hv hk' hf' hg' hA')
       | 5,_=>exact key (j:=18) rfl (hU6_run hv hk' hf' hg' hA')
       | 6,_=>exact key (j:=19) rfl (hU7_run hv hk' hf' hg' hA')
     · have e : pstL kind=[]:=by unfold pstL; rw [if_neg c1,if_neg c2,if_neg c3]
       rw [e] at hi; simp at hi
theorem bQ_seq {kind a : Int} {rows : List (List Int)} (hv : Vld a rows) (H : Heap) : SeqAV Tryz.prog 61 [.eptr [pstD (pstL kind)],.eptr [.int .i64 a,tabD rows],.eptr [.int .i64 ((szT a - 1 : Nat) : Int),tabD rows]] H ((bQ kind a rows).map brA):=by
 have hN:=hv.len
 have h16:=szT_le a
 have h0 : 0<szT a:=by rcases hv.at_ with rfl | rfl <;> decide
 have hm : (pstL kind).length ≤ 7 := by rw [pstL_len]; unfold postN; split; · decide
                                        split; · decide
                                        split <;> decide
 have:=brk_seq H (pstL kind) a ((szT a - 1 : Nat) : Int) rows (fun i=>hB kind a rows (i + 1)) (by omega) (by omega) (by omega) (fun i hi k f g hk hf hg=>holds_cc hv i hi k f g (by omega) (by omega) (by omega))
 have e : bQ kind a rows=upI (fun i n=>hB kind a rows (i + 1) (n / (if ((pstL kind).getD i (true,0)).1 then 1 else rows.length) / rows.length) (n / (if ((pstL kind).getD i (true,0)).1 then 1 else rows.length) % rows.length) (n % (if ((pstL kind).getD i (true,0)).1 then 1 else rows.length))) rows.length (fun i=>if ((pstL kind).getD i (true,0)).1 then 1 else rows.length) (pstL kind).length:=by
  unfold bQ
  rw [← upI_brL h0,hN,pstL_len]
  have hfl : ∀ i,i<(postN kind).1→((pstL kind).getD i (true,0)).1=decide (i<(postN kind).2):=by
   unfold pstL postN
   intro i
   by_cases c1 : kind=1
   · simp only [c1,if_true]
     intro hi
     match i,hi with
     | 0,_ | 1,_ | 2,_ | 3,_ | 4,_=>rfl
   · by_cases c2 : kind=2
     · simp only [c2,if_true]
       intro hi
       match i,hi with
       | 0,_ | 1,_ | 2,_ | 3,_ | 4,_ | 5,_=>rfl
     · by_cases c3 : kind=3
       · simp only [c3,if_true]
         intro hi
         match i,hi with
         | 0,_ | 1,_ | 2,_ | 3,_ | 4,_ | 5,_ | 6,_=>rfl
       · simp only [c1,c2,c3,if_false]; intro hi; omega
  have hs : ∀ i,i<(postN kind).1→(if i<(postN kind).2 then 1 else szT a)=if ((pstL kind).getD i (true,0)).1 then 1 else szT a:=fun i hi=>by
   rw [hfl i hi]; simp
  refine upI_cg hs fun i hi n=>?_
  rw [hs i hi]
 rw [e]
 exact this
end Go.Proofs.YtnfecjmddbehiaaGreat

namespace Go.Proofs.YtnfecjmddbehiaaGreat
open Go Am Go.Proofs Go.RowKit
set_option maxRecDepth 100000
set_option maxHeartbeats 2000000
variable {G : Glob}
theorem breaches_c (a : Int) (rows : List (List Int)) (l : List (Bool × FuncId)) (h0 : 0<rows.length) (h1 : rows.length≤16) : CC Tryz.prog G 31 [] [.agg [iA a,.d (tabD rows)],.d (pstD l)] [] (.clo (.func 61) [] [.eptr [pstD l],.eptr [.int .i64 a,tabD rows],.eptr [.int .i64 ((rows.length - 1 : Nat) : Int),tabD rows]]):=by
 have w1 : IntKind.i64.wrap ((rows.length : Int) - 1)=((rows.length - 1 : Nat) : Int):=by
  have : (rows.length : Int) - 1=((rows.length - 1 : Nat) : Int):=by omega
  rw [this]; exact wrN (by omega)
 refine CC.go Tryz.func31 rfl rfl Tryz.ntmps31 (k0:=0) rfl (Nat.le_of_ble_eq_true rfl) (by rfl) (by rfl) ?_
 refine awp_seq ?_
 refine awp_region (by simp only [slimL,slim1,List.map_cons,List.map_nil]; rfl) ?_
 refine regS_go 3 (by simp only [go_sem,pstD,tabD]; rfl) ?_
 refine regS_nil (seqK_normal ?_)
 refine awp_seq ?_
 refine awp_region (by simp only [slimL,slim1,List.map_cons,List.map_nil]; rfl) ?_
 refine regS_go 9 (by simp only [go_sem,List.length_map,w1]; rfl) ?_
 refine regS_nil (seqK_ent (((Ent.box (t:=2) (b:=0) (row:=[.int .i64 a,tabD rows]) rfl rfl rfl).trans (Ent.box (t:=3) (b:=1) (row:=[pstD l]) rfl rfl rfl)).trans (Ent.box (t:=5) (b:=2) (row:=[.int .i64 ((rows.length - 1 : Nat) : Int),tabD rows]) rfl rfl rfl)) ?_)
 refine awp_seq ?_
 refine awp_region (by simp only [slimL,slim1,List.map_cons,List.map_nil]; rfl) ?_
 refine regS_go 2 (by simp only [go_sem,pstD,tabD]; rfl) ?_
 refine regS_nil (seqK_normal ?_)
 refine awp_ret ?_
 refine end_d (.inr rfl) (rs:=[.tmp 4]) rfl (by simp only [go_sem]; rfl) ?_
 exact ⟨rfl,rfl⟩
theorem check_cc (a : Int) (rows : List (List Int)) (kind : Int) (hl : rows.length<1000000000) (hr : ∀ r ∈ rows,r.length<1000000000) : CC Tryz.prog G 30 [] [.agg [iA a,.d (tabD rows)],iA kind] [] (iA (chkE a rows kind)):=by
 have:=run_cc (G:=G) Ktok Kgok (by kernel_rfl) Ktb_ok (i:=0) rfl (ins:=[.int .i64 a,tabD rows,.int .i64 kind]) (fun d hd=>?_) rfl (fun k hk=>by cases hk) (checkK_run a rows kind hl hr) rfl
 · simpa [Ksg0,hIn,SV.instL,SV.inst,SA.val] using this
 · simp only [List.mem_cons,List.not_mem_nil,or_false] at hd
   rcases hd with rfl | rfl | rfl
   · exact .int _ _
   · exact tabD_wf rows
   · exact .int _ _
theorem list_cc (kind : Int) : CC Tryz.prog G 32 [] [iA kind] [] (.d (pstD (pstL kind))):=by
 have:=run_cc (G:=G) Ktok Kgok (by kernel_rfl) Ktb_ok (i:=1) rfl (ins:=[.int .i64 kind]) (fun d hd=>?_) rfl (fun k hk=>by cases hk) (listK_run kind) rfl
 · simpa [Ksg1,hIn,SV.instL,SV.inst,SA.val] using this
 · simp only [List.mem_cons,List.not_mem_nil,or_false] at hd
   subst hd; exact .int _ _
def bxT (a : Int) (rows : List (List Int)) : Blk:={ fz:=false,ap:=false,ty:=30,sz:=2,rows:=[[iA a,.d (tabD rows)]] }
def bxE (n : Int) : Blk:={ fz:=false,ap:=false,ty:=31,sz:=1,rows:=[[iA n]] }
def bxB (b : Bool) : Blk:={ fz:=false,ap:=false,ty:=4,sz:=1,rows:=[[.d (.bool b)]] }
def chkA (kind a : Int) (rows : List (List Int)) : AV := if chkE a rows kind = 0 then (match (bQ kind a rows).head? with
    | some b=>.tup [.agg [iA b.1,iA b.2.1,iA b.2.2.1,iA b.2.2.2],.d (.bool true),iA 0]
    | none=>.tup [.agg [iA 0,iA 0,iA 0,iA 0],.d (.bool false),iA 0])
 else .tup [.agg [iA 0,iA 0,iA 0,iA 0],.d (.bool false),iA (chkE a rows kind)]
theorem check_c (a : Int) (rows : List (List Int)) (kind : Int) (hl : rows.length<1000000000) (hr : ∀ r ∈ rows,r.length<1000000000) : CC Tryz.prog G 9 [] [.agg [iA a,.d (tabD rows)],iA kind] [] (chkA kind a rows):=by
 have hc:=check_cc (G:=G) a rows kind hl hr
 have hls:=list_cc (G:=G) kind
 unfold chkA
 obtain ⟨er,her⟩ : ∃ er,er=chkE a rows kind:=⟨_,rfl⟩
 rw [← her] at hc ⊢
 refine CC.go Tryz.func9 rfl rfl Tryz.ntmps9 (k0:=0) rfl (Nat.le_of_ble_eq_true rfl) (by rfl) (by rfl) ?_
 refine awp_seq ?_
 refine awp_region (by simp only [slimL,slim1,List.map_cons,List.map_nil]; rfl) ?_
 refine regS_go 4 (by simp only [go_sem,tabD]; rfl) ?_
 refine regS_nil (seqK_normal ?_)
 refine awp_seq ?_
 refine awp_seq ?_
 refine awp_region (by simp only [slimL,slim1,List.map_cons,List.map_nil]; rfl) ?_
 refine regS_go 2 (by simp only [go_sem]; rfl) ?_
 refine regS_call rfl (by simp only [go_sem]) rfl (by simp only [go_sem]; rfl) (by simp only [go_sem]; rfl) ?_
 refine callK_d hc rfl rfl rfl ?_
 refine regS_go 1 (by simp only [go_sem]; rfl) ?_
 refine regS_nil (seqK_normal ?_)
 refine awp_seq ?_
 refine awp_region (by simp only [slimL,slim1,List.map_cons,List.map_nil]; rfl) ?_
 refine regS_go 2 (by simp only [go_sem]; rfl) ?_
 refine regS_nil (seqK_normal ?_)
 by_cases h0 : er=0
 · rw [if_pos h0]
   obtain ⟨hv,hk⟩:=chkE_ok.1 (her.symm.trans h0)
   have hb : (er != 0)=false:=by simp [h0]
   refine awp_cond_f (by simp only [go_sem,hb]) ?_
   refine awp_skip ?_
   refine seqK_normal ?_
   refine awp_seq ?_
   refine awp_seq ?_
   refine awp_regionD (by kernel_rfl) (by simp only [slimL,slim1,List.map_cons,List.map_nil]; rfl) ?_
   refine regD_go 2 (by simp only [go_sem]; rfl) ?_
   refine regD_call rfl (by simp only [go_sem]) rfl (by simp only [go_sem]; rfl) (by simp only [go_sem]; rfl) ?_
   refine callK_d hls rfl rfl rfl ?_
   refine regD_go 0 (by simp only [go_sem]; rfl) ?_
   refine regD_call rfl (by simp only [go_sem]) rfl (by simp only [go_sem]; rfl) (by simp only [go_sem]; rfl) ?_
   refine callK_d (breaches_c a rows (pstL kind) (by rw [hv.len]; rcases hv.at_ with rfl | rfl <;> decide) (by rw [hv.len]; exact szT_le a)) rfl rfl rfl ?_
   refine regD_go 0 (by simp only [go_sem]; rfl) ?_
   refine regD_nil 4 (by kernel_rfl) ?_
   refine seqK_ent (Ent.cut (k:=0) (l':=[.junk,.junk,.junk,.junk,.ptr 1 1 0 0,.ptr 2 1 0 0,.ptr 3 1 0 0,.junk,.junk,.junk,.junk,.junk,.junk,.junk,.junk,.junk,.junk,.junk,.junk,.clo (.func 61) [] [.eptr [pstD (pstL kind)],.eptr [.int .i64 a,tabD rows],.eptr [.int .i64 ((rows.length - 1 : Nat) : Int),tabD rows]]]) (h':=[some (bxT a rows),some (blkB (0,0,0,0)),some (bxB false),some (bxE 0)]) (nx':=4) (Nat.le_of_ble_eq_true rfl) (Nat.le_of_ble_eq_true rfl) (.junk (.junk (.junk (.junk (.keep rfl rfl (.keep rfl rfl (.keep rfl rfl (.junk (.junk (.junk (.junk (.junk (.junk (.junk (.junk (.junk (.junk (.junk (.junk (.keep rfl rfl (.nil _))))))))))))))))))))) rfl (.cons rfl (.cons rfl (.cons rfl (.cons rfl (.nil _ _))))) rfl) ?_
   refine awp_block ?_
   have hN : ((rows.length - 1 : Nat) : Int)=((szT a - 1 : Nat) : Int):=by rw [hv.len]
   cases hq : bQ kind a rows with
   | nil=>
    have hsq:=bQ_seq (kind:=kind) hv (Am.hl [some (bxT a rows),some (blkB (0,0,0,0)),some (bxB false),some (bxE 0)])
    rw [hq,← hN] at hsq
    refine awp_range (gf:=61) rfl hsq (fun r hr=>by cases hr) (fun p hp=>by simp at hp; subst hp; exact Nat.le_of_ble_eq_true rfl) (FullS.hl rfl rfl) rfl rfl (fun j h=>h=Am.hl [some (bxT a rows),some (blkB (0,0,0,0)),some (bxB false),some (bxE 0)]) rfl (fun j h hj=>by simp at hj) ?_
    rintro h rfl
    refine blockK_normal ?_
    refine seqK_normal ?_
    refine awp_seq ?_
    refine awp_region (by simp only [slimL,slim1,List.map_cons,List.map_nil]; rfl) ?_
    refine regS_go 4 (by simp only [go_sem,pstD,tabD,bxT,blkB,bxB,bxE]; rfl) ?_
    refine regS_nil (seqK_normal ?_)
    refine awp_ret ?_
    refine end_d (.inr rfl) (rs:=[.cell 4 35,.cell 5 4,.cell 6 31]) rfl (by simp only [go_sem]; rfl) ?_
    exact ⟨rfl,rfl⟩
   | cons b bs=>
    have hsq:=bQ_seq (kind:=kind) hv (Am.hl [some (bxT a rows),some (blkB (0,0,0,0)),some (bxB false),some (bxE 0)])
    rw [hq,← hN] at hsq
    refine awp_range (gf:=61) rfl hsq (fun r hr=>?_) (fun p hp=>by simp at hp; subst hp; exact Nat.le_of_ble_eq_true rfl) (FullS.hl rfl rfl) rfl rfl (fun j h=>j=0∧h=Am.hl [some (bxT a rows),some (blkB (0,0,0,0)),some (bxB false),some (bxE 0)]) ⟨rfl,rfl⟩ ?_ ?_
    · obtain ⟨x,_,rfl⟩:=List.mem_map.1 hr; rfl
    · rintro j h hj ⟨rfl,rfl⟩
      simp only [List.map_cons,List.getElem_cons_zero,putTs,brA]
      refine awp_region (by simp only [slimL,slim1,List.map_cons,List.map_nil]; rfl) ?_
      refine regS_go 2 (by simp only [go_sem,pstD,tabD,bxT,blkB,bxB,bxE]; rfl) ?_
      refine regS_nil (⟨rfl,_,.refl _ _,?_⟩)
      refine awp_block ?_
      refine awp_seq ?_
      refine awp_region (by simp only [slimL,slim1,List.map_cons,List.map_nil]; rfl) ?_
      refine regS_go 4 (by simp only [go_sem]; rfl) ?_
      refine regS_nil (seqK_normal ?_)
      refine awp_ret ?_
      refine blockK_ret ?_
      refine ⟨_,.refl _ _,?_⟩
      refine blockK_ret (seqK_ret ?_)
      refine end_d (.inr rfl) (rs:=[.cell 4 35,.cell 5 4,.cell 6 31]) rfl (by simp only [go_sem]; rfl) ?_
      exact ⟨rfl,rfl⟩
    · rintro h ⟨h1,_⟩; simp at h1
 · rw [if_neg h0]
   have hb : (er != 0)=true:=by simp [h0]
   refine awp_cond_t (by simp only [go_sem,hb]) ?_
   refine awp_seq ?_
   refine awp_region (by simp only [slimL,slim1,List.map_cons,List.map_nil]; rfl) ?_
   refine regS_go 5 (by simp only [go_sem]; rfl) ?_
   refine regS_nil (seqK_normal ?_)
   refine awp_ret ?_
   refine seqK_ret ?_
   refine end_d (.inr rfl) (rs:=[.cell 4 35,.cell 5 4,.cell 6 31]) rfl (by simp only [go_sem]; rfl) ?_
   exact ⟨rfl,rfl⟩
end Go.Proofs.YtnfecjmddbehiaaGreat

namespace Go.Proofs.YtnfecjmddbehiaaGreat
open Go Am
set_option maxRecDepth 100000
variable {G : Glob}
def decL : List (List D)→Option (List Int)
 | []=>some []
 | [.int .i64 x] :: l=>match decL l with | some r=>some (x :: r) | none=>none
 | _=>none
def decR : List (List D)→Option (List (List Int))
 | []=>some []
 | [.sl rs] :: l=>match decL rs,decR l with | some x,some r=>some (x :: r) | _,_=>none
 | _=>none
theorem decL_ok : ∀ {d : List (List D)} {l : List Int},decL d=some l→d=l.map numR
 | [],l,h=>by simp only [decL,Option.some.injEq] at h; subst h; rfl
 | r :: d,l,h=>by
  unfold decL at h
  split at h
  · rename_i e; cases e
  · rename_i x l' e
    cases e
    split at h
    · rename_i r' hr
      cases h
      rw [decL_ok hr]; rfl
    · cases h
  · cases h
theorem decL_run : ∀ l : List Int,decL (l.map numR)=some l
 | []=>rfl
 | x :: l=>by simp only [List.map_cons,numR,decL,decL_run l]
theorem decR_ok : ∀ {d : List (List D)} {l : List (List Int)},decR d=some l→d=l.map fun r=>[numsD r]
 | [],l,h=>by simp only [decR,Option.some.injEq] at h; subst h; rfl
 | r :: d,l,h=>by
  unfold decR at h
  split at h
  · rename_i e; cases e
  · rename_i x l' e
    cases e
    split at h
    · rename_i x' r' hx hr
      cases h
      rw [decL_ok hx,decR_ok hr]; rfl
    · cases h
  · cases h
theorem decR_run : ∀ l : List (List Int),decR (l.map fun r=>[numsD r])=some l
 | []=>rfl
 | x :: l=>by simp only [List.map_cons,numsD,decR,decL_run]; have:=decR_run l; simp only [numsD] at this; rw [this]
def small9 (rows : List (List Int)) : Bool:=decide (rows.length<1000000000) && rows.all fun r=>decide (r.length<1000000000)
def tab1 (k : Int→List (List Int)→Int→Option (List D)) : PF:=fun a=>match a with
 | [.int .i64 x,.sl d,.int .i64 kind]=>match decR d with
  | some rows=>if small9 rows=true then k x rows kind else none
  | none=>none
 | _=>none
theorem tab1_some {k : Int→List (List Int)→Int→Option (List D)} {a o : List D} (h : tab1 k a=some o) : ∃ (x : Int) (rows : List (List Int)) (kind : Int),a=[.int .i64 x,tabD rows,.int .i64 kind]∧rows.length<1000000000∧(∀ r ∈ rows,r.length<1000000000)∧k x rows kind=some o:=by
 unfold tab1 at h
 split at h
 · rename_i x d kind
   split at h
   · rename_i rows hd
     split at h
     · rename_i hs
       simp only [small9,Bool.and_eq_true,decide_eq_true_eq,List.all_eq_true] at hs
       refine ⟨x,rows,kind,?_,hs.1,hs.2,h⟩
       rw [decR_ok hd]; rfl
     · cases h
   · cases h
 · cases h
theorem tab1_run {k : Int→List (List Int)→Int→Option (List D)} (x : Int) (rows : List (List Int)) (kind : Int) (hl : rows.length<1000000000) (hr : ∀ r ∈ rows,r.length<1000000000) : tab1 k [.int .i64 x,tabD rows,.int .i64 kind]=k x rows kind:=by
 show (match decR (rows.map fun r=>[numsD r]) with
  | some rows=>if small9 rows=true then k x rows kind else none
  | none=>none)=_
 rw [decR_run]
 simp only
 rw [if_pos]
 simp only [small9,Bool.and_eq_true,decide_eq_true_eq,List.all_eq_true]
 exact ⟨hl,hr⟩
def checkE : PF:=tab1 fun a rows kind=>some (chkV kind a rows)
theorem chkV_wf (kind a : Int) (rows : List (List Int)) : EWF (chkV kind a rows):=by
 unfold chkV
 split
 · split
   · intro d hd
     simp only [brD,List.cons_append,List.nil_append,List.mem_cons,List.not_mem_nil,or_false] at hd
     rcases hd with rfl | rfl | rfl | rfl | rfl | rfl <;> first | exact .int _ _ | exact .bool _
   · intro d hd
     simp only [List.mem_cons,List.not_mem_nil,or_false] at hd
     rcases hd with rfl | rfl | rfl | rfl | rfl | rfl <;> first | exact .int _ _ | exact .bool _
 · intro d hd
   simp only [List.mem_cons,List.not_mem_nil,or_false] at hd
   rcases hd with rfl | rfl | rfl | rfl | rfl | rfl <;> first | exact .int _ _ | exact .bool _
theorem checkE_wf {a o : List D} (h : checkE a=some o) : EWF o:=by
 obtain ⟨x,rows,kind,_,_,_,h⟩:=tab1_some h
 cases h
 exact chkV_wf kind x rows
def chsg : Sig:=⟨9,3,[],[(.agg [(.atm (.v 0)),(.atm (.v 1))]),(.atm (.v 2))],6,[],(.tup [(.agg [(.atm (.v 0)),(.atm (.v 1)),(.atm (.v 2)),(.atm (.v 3))]),(.atm (.v 4)),(.atm (.v 5))]),false,[]⟩
theorem checkE_sig : SigOK Tryz.prog G checkE chsg:=by
 intro ins outs hwf hl hsl hr hno
 have hw:=checkE_wf hr
 obtain ⟨x,rows,kind,rfl,h1,h2,h3⟩:=tab1_some hr
 cases h3
 refine ⟨hw,?_,fun i hi=>by simp [chsg,inL] at hi⟩
 have:=check_c (G:=G) x rows kind h1 h2
 have e : chsg.res.inst (chkV kind x rows) (lnL (chkV kind x rows) chsg.Hout)=chkA kind x rows:=by
  unfold chkV chkA
  by_cases h : chkE x rows kind=0
  · rw [if_pos h,if_pos h]
    cases (bQ kind x rows).head? with
    | none=>rfl
    | some b=>rfl
  · rw [if_neg h,if_neg h]; rfl
 rw [e]
 simpa [chsg,hIn,SV.instL,SV.inst,SA.val] using this
end Go.Proofs.YtnfecjmddbehiaaGreat
