/- What functions of the program compute: lemmas. -/
import Derived.Test.YtnfecjmddbehiaaGreatOd
import Derived.Test.YtnfecjmddbehiaaGreatAm7
import Derived.Test.YtnfecjmddbehiaaGreatAm8
import Derived.Test.YtnfecjmddbehiaaGreatKw
import Derived.Test.YtnfecjmddbehiaaGreatLk
set_option linter.unusedSimpArgs false
set_option linter.unusedVariables false
set_option linter.unusedSectionVars false
namespace Go.Proofs.YtnfecjmddbehiaaGreat
open Go Am
set_option maxRecDepth 100000
theorem eqI_run (a b : List Int) (ha : a.length<1000000000) : run tb 52 [numsD a,numsD b]=some [.bool (decide (a=b))]:=by
 refine run_ir (x:=ir52) rfl ?_
 by_cases hl : a.length=b.length
 · simp (disch:=omega) only [ir52,stepQ,stepL,eq_self,aBin,reduceIte,len_N,ibne,hl]
   have h0 : decide (a=b)=decide (a.drop 0=b.drop 0):=by simp
   rw [h0]
   refine loop_k (σ:=Unit) b.length (fun _ _=>True) (fun i _=>[.int .i64 i]) (fun i _=>[.bool (decide (a.drop i=b.drop i))]) ?_ ?_ 0 () (Nat.zero_le _) trivial
   · rintro i _ L hi _ hL
     have hnext:=hL () trivial
     have hia : i<a.length:=by omega
     have e1 : a.drop i=a[i] :: a.drop (i + 1):=List.drop_eq_getElem_cons hia
     have e2 : b.drop i=b[i] :: b.drop (i + 1):=List.drop_eq_getElem_cons hi
     rw [e1,e2]
     by_cases h : a[i]=b[i]
     · have : decide (a[i] :: a.drop (i + 1)=b[i] :: b.drop (i + 1))=decide (a.drop (i + 1)=b.drop (i + 1)):=by rw [h]; exact decide_eq_decide.2 ⟨fun e=>(List.cons.inj e).2,fun e=>by rw [e]⟩
       rw [this]
       simp (disch:=omega) only [ir52p0,stepQ,stepL,eq_self,aBin,reduceIte,hi,row_N,ibne,h,wr,natS,hnext]
     · have : decide (a[i] :: a.drop (i + 1)=b[i] :: b.drop (i + 1))=false:=decide_eq_false fun e=>h (List.cons.inj e).1
       rw [this]
       simp (disch:=omega) only [ir52p0,stepQ,stepL,eq_self,aBin,reduceIte,hi,row_N,ibne,h]
   · rintro _ L _
     have : decide (a.drop b.length=b.drop b.length)=true:=by simp [← hl]
     rw [this]
     simp (disch:=omega) only [ir52p0,stepQ,stepL,eq_self,aBin,reduceIte,Nat.lt_irrefl]
 · have : decide (a=b)=false:=decide_eq_false fun e=>hl (by rw [e])
   rw [this]
   have hl' : ¬ (a.length : Int)=(b.length : Int):=by omega
   simp (disch:=omega) only [ir52,stepQ,stepL,eq_self,aBin,reduceIte,len_N,ibne,hl']
theorem eqT_run (a b : List (List Int)) (ha : a.length<1000000000) (hr : ∀ r ∈ a,r.length<1000000000) : run tb 20 [tabD a,tabD b]=some [.bool (decide (a=b))]:=by
 refine run_ir (x:=ir20) rfl ?_
 have hla:=len_T a
 have hlb:=len_T b
 by_cases hl : a.length=b.length
 · simp (disch:=omega) only [ir20,stepQ,stepL,eq_self,aBin,reduceIte,hla,hlb,ibne,hl]
   have h0 : decide (a=b)=decide (a.drop 0=b.drop 0):=by simp
   rw [h0]
   refine loop_k (σ:=Unit) b.length (fun _ _=>True) (fun i _=>[.int .i64 i]) (fun i _=>[.bool (decide (a.drop i=b.drop i))]) ?_ ?_ 0 () (Nat.zero_le _) trivial
   · rintro i _ L hi _ hL
     have hnext:=hL () trivial
     have hia : i<a.length:=by omega
     have e1 : a.drop i=a[i] :: a.drop (i + 1):=List.drop_eq_getElem_cons hia
     have e2 : b.drop i=b[i] :: b.drop (i + 1):=List.drop_eq_getElem_cons hi
     rw [e1,e2]
     have ra:=row_T hia
     have rb:=row_T hi
     have hi' : (i : Int)<(b.length : Int):=by omega
     have hc : run tb 37 [numsD a[i],numsD b[i]]=some [.bool (decide (a[i]=b[i]))]:=by
      refine run_ir (x:=ir37) rfl ?_
      have:=eqI_run a[i] b[i] (hr _ (List.getElem_mem hia))
      simp only [ir37,stepQ,stepL,eq_self,this]
     by_cases h : a[i]=b[i]
     · have : decide (a[i] :: a.drop (i + 1)=b[i] :: b.drop (i + 1))=decide (a.drop (i + 1)=b.drop (i + 1)):=by rw [h]; exact decide_eq_decide.2 ⟨fun e=>(List.cons.inj e).2,fun e=>by rw [e]⟩
       rw [this]
       rw [decide_eq_true h] at hc
       simp (disch:=omega) only [ir20p0,stepQ,stepL,eq_self,aBin,reduceIte,hi',ra,rb,hc,wr,natS,hnext]
     · have : decide (a[i] :: a.drop (i + 1)=b[i] :: b.drop (i + 1))=false:=decide_eq_false fun e=>h (List.cons.inj e).1
       rw [this]
       rw [decide_eq_false h] at hc
       simp (disch:=omega) only [ir20p0,stepQ,stepL,eq_self,aBin,reduceIte,hi',ra,rb,hc]
   · rintro _ L _
     have : decide (a.drop b.length=b.drop b.length)=true:=by simp [← hl]
     rw [this]
     simp (disch:=omega) only [ir20p0,stepQ,stepL,eq_self,aBin,reduceIte,Int.lt_irrefl]
 · have : decide (a=b)=false:=decide_eq_false fun e=>hl (by rw [e])
   rw [this]
   have hl' : ¬ (a.length : Int)=(b.length : Int):=by omega
   simp (disch:=omega) only [ir20,stepQ,stepL,eq_self,aBin,reduceIte,hla,hlb,ibne,hl']
theorem sameOO_run (os : List OO) (h : Sane os) : run tb 8 [osD os,osD os]=some [.bool true]:=by
 refine run_ir (x:=ir8) rfl ?_
 have hl:=len_O os
 have hn:=h.n
 simp (disch:=omega) only [ir8,stepQ,stepL,eq_self,aBin,reduceIte,hl,ibne]
 refine loop_k (σ:=Unit) os.length (fun _ _=>True) (fun i _=>[.int .i64 i]) (fun _ _=>[.bool true]) ?_ ?_ 0 () (Nat.zero_le _) trivial
 · rintro i _ L hi _ hL
   have hnext:=hL () trivial
   have hi' : (i : Int)<(os.length : Int):=by omega
   have hro:=row_O hi
   have hs:=sameR_run os[i].1 (h.nm _ (List.getElem_mem hi)) os[i].2 (h.rk _ (List.getElem_mem hi))
   simp (disch:=omega) only [ir8p0,stepQ,stepL,eq_self,aBin,reduceIte,hl,hi',hro,hs,wr,natS,hnext]
 · rintro _ L _
   simp (disch:=omega) only [ir8p0,stepQ,stepL,eq_self,aBin,reduceIte,hl,Int.lt_irrefl]
end Go.Proofs.YtnfecjmddbehiaaGreat

namespace Go.Proofs.YtnfecjmddbehiaaGreat
open Go Am
set_option maxRecDepth 100000
theorem worldsT_run (n : Nat) (hn : n<62) (t : D) : run tb 18 [.int .i64 (n : Int),t]=some [.int .i64 ((2 ^ n : Nat) : Int)]:=by
 refine run_ir (x:=ir18) rfl ?_
 have h : PO.eval (.bin .shl false) [.int .i64 1,.int .i64 (n : Int)]=some [.int .i64 ((2 ^ n : Nat) : Int)]:=shl_i n (by omega)
 simp only [ir18,stepQ,stepL,eq_self,h]
theorem ordV_run {n : Nat} (hn : n=1∨n=2) {kind : Int} (hk : kind=1∨kind=2) (rows : List (List Int)) (names : List (List UInt8)) (hv : Vld n rows) (hvo : vocOk names=true) (hnl : names.length=n) (hst : ∀ s ∈ names,s.length<9223372036854775808) (x4 x5 x6 x7 : D) :
 den (run tb) ir7p6 [.int .i64 (n : Int),tabD rows,.int .i64 kind,strsD names,x4,x5,x6,.bool false] []=some (ordV kind n rows names):=by
 have hsz:=szT_pow hn
 have h16:=szT_le (n : Int)
 have hN4 : 2 ^ n≤4:=by rcases hn with rfl | rfl <;> decide
 have hlT:=len_T rows
 rw [hv.len] at hlT
 have hal:=lenA_al hv
 rw [hv.len] at hal
 have hwo:=worldsT_run n (by omega) (tabD rows)
 have hmk:=mkN (n:=2 ^ n) (by omega)
 obtain ⟨m,hm⟩ : ∃ m,m=szT (n : Int):=⟨_,rfl⟩
 obtain ⟨N,hN⟩ : ∃ N,N=2 ^ n:=⟨_,rfl⟩
 obtain ⟨R,hR⟩ : ∃ R,R=ordR kind n rows:=⟨_,rfl⟩
 obtain ⟨fin,hfin⟩ : ∃ fin,fin=ordV kind n rows names:=⟨_,rfl⟩
 have hfin0 : ∀ i,i<m→R i=none→fin=[.sl [],.int .i64 9]:=fun i hi h=>by
  rw [hfin]; unfold ordV
  rw [if_neg]
  intro hb
  unfold ordB at hb
  simp only [Bool.and_eq_true,List.all_eq_true,List.mem_range] at hb
  have:=hb.1 i (by rw [← hm]; exact hi)
  rw [← hR,h] at this
  cases this
 have ovA' : Ovr N (alA n):=by rw [hN]; exact ovA hn
 have lt : ∀ {S : BitVec 64},Ovr N S→S.toNat<szT (n : Int):=fun hS=>by rw [hN] at hS; rw [hsz]; exact ov_lt hS
 rw [← hfin]
 rw [← hm] at hlT hal
 rw [← hN] at hwo hmk hN4
 have hmk : PO.eval (.mkL 8 [.int .i64 0]) [.int .i64 (N : Int)]=some [numsD (List.replicate N 0)]:=hmk
 simp (disch:=omega) only [ir7p6,stepQ,stepL,hlT,hal]
 rw [os_nil]
 refine loop_k (σ:=List OO) m (fun i s=>s=(List.range i).map (fun j=>(names,normS ((R j).getD [])))∧∀ j,j<i→(R j).isSome=true) (fun i s=>[.int .i64 i,osD s]) (fun _ _=>fin) ?_ ?_ 0 [] (Nat.zero_le _) ⟨rfl,fun j h=>by omega⟩
 · rintro i s L hi ⟨hs,hpre⟩ hL
   have hi' : (i : Int)<(m : Int):=by omega
   have hKt : (BitVec.ofNat 64 i).toNat=i:=toNat_small (m:=m) hi (by omega)
   have hK : (BitVec.ofNat 64 i).toNat<szT (n : Int):=by rw [hKt]; omega
   have hrow : PO.eval (.row 1) [tabD rows,.int .i64 (i : Int)]=some [numsD (Am.rowAt rows (BitVec.ofNat 64 i))]:=by
    rw [int_iv (by omega)]; exact tr hv hK
   have hsl : s.length=i:=by rw [hs]; simp
   obtain ⟨c,hc⟩ : ∃ c,c=cR kind (alA n) (tOf rows) (BitVec.ofNat 64 i):=⟨_,rfl⟩
   have hRi : R i=lvlR c N 0 (alA n) (List.replicate N 0):=by rw [hR,hc,hN]; unfold ordR; rw [Int.toNat_natCast]
   simp (disch:=omega) only [ir7p5,stepQ,stepL,eq_self,aBin,reduceIte,hi',hrow,hwo,hmk]
   refine loop_km (ι:=Nat × Nat × BitVec 64 × List Int) (fun x=>x.1) (fun x=>Ovr N x.2.2.1∧popN N x.2.2.1≤x.1∧x.2.2.2.length=N∧x.2.1 + x.1≤N∧lvlR c x.1 x.2.1 x.2.2.1 x.2.2.2=R i) (fun x=>[ivD x.2.2.1,.int .i64 (x.2.1 : Int),numsD x.2.2.2]) (fun _=>fin) ?_ (N,0,alA n,List.replicate N 0) ⟨ovA',pop_le _ _,by simp,by simp,hRi.symm⟩
   rintro ⟨k,l,S,q⟩ M ⟨oS,hp,hq,hlk,hlv⟩ hM
   simp only at oS hp hq hlk hlv
   have hSlt:=lt oS
   have hS16 : S.toNat<16:=by omega
   have hSm : Sml S:=by unfold Sml; omega
   have hnz:=iv_nez false S
   by_cases h0 : S=0#64
   · subst h0
     rw [lvl_zero] at hlv
     have hnext:=hL (s++[(names,normS q)]) ⟨by rw [List.range_succ,List.map_append,hs]; simp [← hlv],fun j hj=>by
      by_cases e : j=i
      · subst e; rw [← hlv]; rfl
      · exact hpre j (by omega)⟩
     have hno:=normal_run names q (by omega) (by omega)
     rw [if_pos (by simp [normE,hvo,hq,hnl,hN])] at hno
     have hmk2 : PO.eval (.mk 2 1) [strsD names,numsD (normS q)]=some [.sl [[strsD names,numsD (normS q)]]]:=rfl
     have happ:=app_O (os:=s) (o:=(names,normS q)) (by omega)
     simp only at happ
     simp only [decide_true,Bool.not_true] at hnz
     simp (disch:=omega) only [ir7p3,stepQ,stepL,eq_self,aBin,reduceIte,hnz,hno,Int.reduceBNe,hmk2,happ,wr,natS,hnext]
   · rw [decide_eq_false h0,Bool.not_false] at hnz
     have htc:=tc hv hK (f:=S) hSlt
     have hand : ∀ {b : BitVec 64},b.toNat<szT (n : Int)→PO.eval (.bin .and false) [ivD b,ivD S]=some [ivD (b &&& S)]:=fun {b} hb=>iv_and false (y:=S) (by unfold Sml; omega)
     have hcS : c S=(if kind=2 then tOf rows (BitVec.ofNat 64 i) (alA n &&& ~~~S) else tOf rows (BitVec.ofNat 64 i) S):=by rw [hc]; rfl
     have oAS : (alA n &&& ~~~S).toNat<szT (n : Int):=and_lt (lt ovA')
     have htc2:=tc hv hK (f:=alA n &&& ~~~S) oAS
     have haN:=iv_andNot false (x:=alA n) (y:=S) (by have:=lt ovA'; unfold Sml; omega)
     have hcl : (c S).toNat<szT (n : Int):=by
      rw [hcS]
      split
      · exact t_lt hv hK oAS
      · exact t_lt hv hK hSlt
     have hAnd:=hand hcl
     have hez:=iv_eqz false (c S &&& S)
     have hq2:=len_N q
     rw [hq] at hq2
     have key : ∀ (y21 y : D) (Jx : List PF),den (run tb) ir7p2 ([.int .i64 (n : Int),tabD rows,.int .i64 kind,strsD names,x4,x5,x6,.bool false,.int .i64 (m : Int),ivD (alA n),.int .i64 (m : Int),.int .i64 (i : Int),osD s,.bool true,numsD (Am.rowAt rows (BitVec.ofNat 64 i)),.int .i64 (N : Int),numsD (List.replicate N 0),ivD S,.int .i64 (l : Int),numsD q,.bool true,y21]++[ivD (c S)]) [L,M]=some fin:=by
      intro y21 y Jx
      by_cases hb : c S &&& S=0#64
      · have hn0:=lvl_none (l:=l) (q:=q) oS hp h0 hb
        rw [hn0] at hlv
        rw [decide_eq_true hb] at hez
        rw [hfin0 i hi hlv.symm]
        simp (disch:=omega) only [ir7p2,stepQ,stepL,eq_self,hAnd,hez]
      · obtain ⟨k',hk',hp',hls⟩:=lvl_step (l:=l) (q:=q) oS hp h0 hb
        rw [decide_eq_false hb] at hez
        have hnext:=hM (k',l + 1,S &&& ~~~(c S &&& S),setLv q (c S &&& S) l) ⟨fun w hw=>oS w (has_diff.1 hw).1,hp',by simp only [setLv_len]; exact hq,by simp only; omega,by simp only; rw [← hls]; exact hlv⟩ (by simp only; omega)
        simp only at hnext
        have hbm : Sml (c S &&& S):=by have:=and_lt (y:=S) hcl; unfold Sml; omega
        simp (disch:=omega) only [ir7p2,stepQ,stepL,hAnd,hez,hq2]
        have e0 : numsD q=numsD (setTo q (c S &&& S) l 0):=by rw [setTo_0]
        have start : ∀ (E : Env) (J : List PF),loopQ (run tb) ir7p1 E J [.int .i64 0,numsD (setTo q (c S &&& S) l 0)]=some fin→loopQ (run tb) ir7p1 E J [.int .i64 0,numsD q]=some fin:=fun E J h=>by rw [setTo_0] at h; exact h
        refine start _ _ ?_
        clear e0 start
        refine loop_k (σ:=Unit) N (fun _ _=>True) (fun w _=>[.int .i64 w,numsD (setTo q (c S &&& S) l w)]) (fun _ _=>fin) ?_ ?_ 0 () (Nat.zero_le _) trivial
        · rintro w _ K hw _ hK2
          have hnx:=hK2 () trivial
          have hw' : (w : Int)<(N : Int):=by omega
          have hsh:=iv_shr false .i64 (c S &&& S) w
          have hbt:=iv_bit hbm w
          have hon:=iv_one (c S &&& S) w
          cases hbw : (c S &&& S).getLsbD w with
          | false=>
           rw [hbw] at hon
           rw [← setTo_no hbw] at hnx
           simp (disch:=omega) only [ir7p1,ir7p0,stepQ,stepL,eq_self,aBin,reduceIte,hw',hsh,hbt,hon,wr,natS,hnx]
          | true=>
           rw [hbw] at hon
           rw [← setTo_yes (by omega) hbw] at hnx
           have hc1:=chk_N (l:=setTo q (c S &&& S) l w) (i:=w) (by rw [setTo_len]; omega)
           have hs1:=set_N (l:=setTo q (c S &&& S) l w) (i:=w) (by rw [setTo_len]; omega) (l : Int)
           simp (disch:=omega) only [ir7p1,ir7p0,stepQ,stepL,eq_self,aBin,reduceIte,hw',hsh,hbt,hon,hc1,hs1,wr,natS,hnx]
        · rintro _ K _
          have e : setTo q (c S &&& S) l N=setLv q (c S &&& S) l:=by rw [← hq]; exact setTo_end q _ l
          rw [e]
          have han:=iv_andNot false (x:=S) (y:=c S &&& S) hSm
          simp (disch:=omega) only [ir7p1,stepQ,stepL,eq_self,aBin,reduceIte,Int.lt_irrefl,han,wr,natS,hnext]
     simp only [List.cons_append,List.nil_append] at key
     have hik : (kind=2)=(kind=2):=rfl
     rcases hk with rfl | rfl
     · rw [if_neg (by decide)] at hcS
       rw [hcS] at key
       have key:=fun y=>key y (.int .i64 0) []
       simp (disch:=omega) only [ir7p3,stepQ,stepL,eq_self,aBin,reduceIte,Int.reduceEq,hnz,htc,key]
     · rw [if_pos rfl] at hcS
       rw [hcS] at key
       have key:=fun y=>key y (.int .i64 0) []
       simp (disch:=omega) only [ir7p3,stepQ,stepL,eq_self,aBin,reduceIte,hnz,htc,htc2,haN,key]
 · rintro s L ⟨hs,hpre⟩
   have hso : s=ordO kind n rows names:=by rw [hs,hm,hR]; rfl
   have hsl : s.length=m:=by rw [hs]; simp
   have hSn : Sane s:=by
    have key : ∀ o ∈ s,o.1=names∧o.2.length<1000000000:=fun o ho=>by
     rw [hs] at ho
     obtain ⟨j,hj,rfl⟩:=List.mem_map.1 ho
     refine ⟨rfl,?_⟩
     have hjm:=hpre j (List.mem_range.1 hj)
     obtain ⟨q,hq⟩:=Option.isSome_iff_exists.1 hjm
     have : q.length=N:=by
      rw [hR] at hq
      unfold ordR at hq
      rw [Int.toNat_natCast,← hN] at hq
      exact lvl_len _ _ _ (by simp) hq
     simp only [hq,Option.getD_some,normS,List.length_map]
     omega
    refine ⟨by omega,fun o ho=>by rw [(key o ho).1]; omega,fun o ho s hs=>hst s (by rw [← (key o ho).1]; exact hs),fun o ho=>(key o ho).2⟩
   have hall : ((List.range m).all fun i=>(R i).isSome)=true:=List.all_eq_true.2 fun i hi=>hpre i (List.mem_range.1 hi)
   have hmv:=makeP_run s kind hSn
   have hfd : fin=if mkE s kind=0∧mkT kind s (2 ^ (2 ^ (nam0 s).length))=rows then [osD s,.int .i64 0] else [.sl [],.int .i64 9]:=by
    rw [hfin]; unfold ordV ordB
    rw [← hso,← hR,← hm,hall]
    simp only [Bool.true_and,Bool.and_eq_true,decide_eq_true_eq]
   unfold mkV at hmv
   by_cases hE : mkE s kind=0
   · rw [if_pos hE] at hmv
     have hM : MkO s kind:=by
      rcases mkE_cases s kind with c | c | c | c | c
      · omega
      · omega
      · omega
      · omega
      · exact c.1
     have hTl : (mkT kind s (2 ^ (2 ^ (nam0 s).length))).length<1000000000:=by
      rw [tab_len]; rcases hM.at_ with e | e <;> rw [e] <;> decide
     have hTr : ∀ r ∈ mkT kind s (2 ^ (2 ^ (nam0 s).length)),r.length<1000000000:=fun r hr=>by
      obtain ⟨k,_,rfl⟩:=List.mem_map.1 hr
      rw [row_len]; rcases hM.at_ with e | e <;> rw [e] <;> decide
     have heq:=eqT_run (mkT kind s (2 ^ (2 ^ (nam0 s).length))) rows hTl hTr
     by_cases hT : mkT kind s (2 ^ (2 ^ (nam0 s).length))=rows
     · rw [if_pos ⟨hE,hT⟩] at hfd
       rw [decide_eq_true hT] at heq
       rw [hfd]
       simp (disch:=omega) only [ir7p5,ir7p4,stepQ,stepL,eq_self,aBin,reduceIte,Int.lt_irrefl,hmv,Int.reduceBNe,heq]
     · rw [if_neg (fun h=>hT h.2)] at hfd
       rw [decide_eq_false hT] at heq
       rw [hfd]
       simp (disch:=omega) only [ir7p5,ir7p4,stepQ,stepL,eq_self,aBin,reduceIte,Int.lt_irrefl,hmv,Int.reduceBNe,heq]
   · rw [if_neg hE] at hmv
     rw [if_neg (fun h=>hE h.1)] at hfd
     have hE' : (mkE s kind != 0)=true:=by simp [hE]
     rw [hfd]
     simp (disch:=omega) only [ir7p5,ir7p4,stepQ,stepL,eq_self,aBin,reduceIte,Int.lt_irrefl,hmv,hE']
end Go.Proofs.YtnfecjmddbehiaaGreat

namespace Go.Proofs.YtnfecjmddbehiaaGreat
open Go Am
set_option maxRecDepth 100000
theorem ordsP_run (kind a : Int) (rows : List (List Int)) (names : List (List UInt8)) (hl : rows.length<1000000000) (hr : ∀ r ∈ rows,r.length<1000000000) (hnl : names.length<1000000000) (hst : ∀ s ∈ names,s.length<9223372036854775808) :
 run tb 7 [.int .i64 a,tabD rows,.int .i64 kind,strsD names]=some (ordW kind a rows names):=by
 refine run_ir (x:=ir7) rfl ?_
 have hva:=validateV_run a rows hl hr
 have hvo:=valid_run names hnl
 unfold ordW
 cases hv : vldB a rows with
 | false=>
  rw [hv] at hva
  simp only [Bool.false_eq_true,if_false] at hva
  simp (disch:=omega) only [ir7,stepQ,stepL,eq_self,aBin,reduceIte,hva,Int.reduceBNe]
 | true=>
  rw [hv] at hva
  simp only [if_true] at hva
  rw [if_neg (by decide)]
  by_cases hk : kind=1∨kind=2
  · rw [if_neg (fun h=>h hk)]
    have hbad : ∀ e6,den (run tb) ir7p7 [.int .i64 a,tabD rows,.int .i64 kind,strsD names,.int .i64 0,e6,.bool false] []=some (if ¬ (vocOk names=true∧(names.length : Int)=a) then [.sl [],.int .i64 1] else ordV kind a rows names):=by
     intro e6
     cases hv2 : vocOk names with
     | false=>
      rw [hv2] at hvo
      rw [if_pos (by simp)]
      simp (disch:=omega) only [ir7p7,ir7p6,stepQ,stepL,eq_self,hvo]
     | true=>
      rw [hv2] at hvo
      by_cases hna : (names.length : Int)=a
      · rw [if_neg (by simp [hna])]
        have hV:=vldB_iff.1 hv
        subst hna
        have hn12 : names.length=1∨names.length=2:=by rcases hV.at_ with h | h <;> omega
        have:=ordV_run hn12 hk rows names hV hv2 rfl hst (.int .i64 0) e6 (.bool false) (.bool false)
        simp (disch:=omega) only [ir7p7,stepQ,stepL,eq_self,aBin,reduceIte,hvo,len_S,ibne,this]
      · rw [if_pos (by simp [hna])]
        have hne : ((names.length : Int) != a)=true:=by simp [hna]
        simp (disch:=omega) only [ir7p7,ir7p6,stepQ,stepL,eq_self,aBin,reduceIte,hvo,len_S,hne]
    rcases hk with rfl | rfl
    · simp (disch:=omega) only [ir7,stepQ,stepL,eq_self,aBin,reduceIte,hva,Int.reduceBNe,hbad]
    · simp (disch:=omega) only [ir7,stepQ,stepL,eq_self,aBin,reduceIte,hva,Int.reduceBNe,hbad]
  · rw [if_pos hk]
    have h1 : (kind != 1)=true:=by simp; omega
    have h2 : (kind != 2)=true:=by simp; omega
    simp (disch:=omega) only [ir7,ir7p7,stepQ,stepL,eq_self,aBin,reduceIte,hva,Int.reduceBNe,h1,h2]
theorem represents_run (l0 : List Int) : run tb 0 [numsD l0]=some [.bool true]:=by
 have aw:=awakeP_run
 obtain ⟨l,hl,hn⟩:=new_run l0
 obtain ⟨n,p,n1,n2,hp,hnr⟩:=range_run 1 2 l 0 hl (by omega) (by omega) (by omega) (by omega)
 obtain ⟨n,rfl⟩:=Int.eq_ofNat_of_zero_le (show 0≤n by omega)
 have hnr : run tb 2 [.int .i64 1,.int .i64 2,numsD l,.int .i64 0]=some [.int .i64 (n : Int),numsD l,.int .i64 p]:=hnr
 have hn12 : n=1∨n=2:=by have h1 : (1 : Int)≤n:=n1; have h2 : (n : Int)≤2:=n2; omega
 obtain ⟨k,p1,k1,k2,hp1,hkr⟩:=range_run 1 2 l p hl hp (by omega) (by omega) (by omega)
 have hk : k=1∨k=2:=by omega
 have hk3 : k=1∨k=2∨k=3:=by omega
 obtain ⟨os,p2,hp2,hF,hor⟩:=orders_run n hn12 k l p1 hl hp1
 have hS:=fitL_sane hn12 hF
 obtain ⟨hE,hnam,_⟩:=fitL_mk hn12 hk3 hF
 obtain ⟨hv1,hq1⟩:=fit_tab hn12 hk3 hF
 have hmk:=makeP_run os k hS
 unfold mkV at hmk
 rw [if_pos hE,hnam,vocN_len] at hmk
 have hvoc:=voc_run n (by omega)
 have hvnl : (vocN n).length<1000000000:=by rw [vocN_len]; omega
 have hvst : ∀ s ∈ vocN n,s.length<9223372036854775808:=fun s hs=>by rw [vocN_short s hs]; omega
 have ordX : ∀ rows,Vld n rows→run tb 7 [.int .i64 (n : Int),tabD rows,.int .i64 k,strsD (vocN n)]=some (ordV k n rows (vocN n)):=fun rows hv=>by
  have h:=ordsP_run k n rows (vocN n) (vld_small hv).1 (vld_small hv).2 hvnl hvst
  unfold ordW at h
  rw [vldB_iff.2 hv,if_neg (by decide),if_neg (fun h=>h hk),if_neg (by simp [vocN_ok (show n≤6 by omega),vocN_len])] at h
  exact h
 have ho1:=ordX _ hv1
 rw [ordV_fit hn12 hk hF] at ho1
 have hck:=checkY n _ k (vld_small hv1).1 (vld_small hv1).2
 rw [chkY_nil hv1 hk3 hq1] at hck
 have hso:=sameOO_run os hS
 clear hE hF hq1 hnam
 generalize mkT k os (2 ^ 2 ^ n)=T1 at *
 obtain ⟨x,p3,x0,x1,hp3,hx⟩:=range_run 1 2 l p2 hl hp2 (by omega) (by omega) (by omega)
 obtain ⟨x,rfl⟩:=Int.eq_ofNat_of_zero_le (show 0≤x by omega)
 have hx : run tb 2 [.int .i64 1,.int .i64 2,numsD l,.int .i64 (p2 : Int)]=some [.int .i64 (x : Int),numsD l,.int .i64 p3]:=hx
 obtain ⟨U,q0,hq0,hU,hbr⟩:=bentY n hv1 x (by have h : (x : Int)≤2:=x1; omega) l hl p3 hp3
 have hck2:=checkY n U k (vld_small hU).1 (vld_small hU).2
 have ho2:=ordX U hU
 have nbb : ∀ b : Bool,PO.eval (.bin .neq true) [.bool b,.bool b]=some [.bool false]:=fun b=>by cases b <;> rfl
 refine run_ir (x:=ir0) rfl ?_
 by_cases hbq : bQ k n U=[]
 · rw [chkY_nil hU hk3 hbq] at hck2
   obtain ⟨os2,hF2,hT2⟩:=nobr_orders hn12 hk hU hbq
   have hS2:=fitL_sane hn12 hF2
   obtain ⟨hE2,hnam2,_⟩:=fitL_mk hn12 hk3 hF2
   have hof:=ordV_fit hn12 hk hF2
   rw [hT2] at hof
   rw [hof] at ho2
   have hmk2:=makeP_run os2 k hS2
   unfold mkV at hmk2
   rw [if_pos hE2,hnam2,vocN_len,hT2] at hmk2
   have hsm:=sameT_run n U (vld_small hU).1 (vld_small hU).2
   simp (disch:=omega) only [ir0,ir0p1,ir0p0,stepQ,stepL,eq_self,aBin,reduceIte,Int.reduceEq,hn,hnr,hkr,hor,hmk,hck,hvoc,ho1,Int.reduceBNe,hso,hx,hbr,hck2,ho2,nbb,hmk2,hsm,aw]
 · rw [ordV_br hn12 hk hbq] at ho2
   obtain ⟨b,bs,hbs⟩ : ∃ b bs,bQ k n U=b :: bs:=by
    cases h : bQ k n U with
    | nil=>exact absurd h hbq
    | cons b bs=>exact ⟨b,bs,rfl⟩
   unfold chkV at hck2
   rw [if_pos (chkE_ok.2 ⟨hU,hk3⟩),hbs] at hck2
   simp only [List.head?_cons,brD,List.cons_append,List.nil_append] at hck2
   simp (disch:=omega) only [ir0,ir0p1,ir0p0,stepQ,stepL,eq_self,aBin,reduceIte,hn,hnr,hkr,hor,hmk,hck,hvoc,ho1,Int.reduceBNe,hso,hx,hbr,hck2,ho2,nbb,aw]
end Go.Proofs.YtnfecjmddbehiaaGreat
