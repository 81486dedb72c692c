/- What functions of the program compute: lemmas. -/
import Derived.Test.YtnfecjmddbehiaaGreatBc
set_option linter.unusedSimpArgs false
set_option linter.unusedVariables false
set_option linter.unusedSectionVars false
namespace Go.Proofs.YtnfecjmddbehiaaGreat
open Go Am Go.Proofs Go.RowKit
set_option maxRecDepth 100000
set_option maxHeartbeats 2000000
variable {G:Glob}
def modI (x n:Int):Int:=if n<1 then 0 else if x.tmod n<0 then IntKind.i64.wrap (x.tmod n+n) else x.tmod n
def rawF (l:List Int) (p:Nat):Int × Nat:=if p<l.length then (l.getD p 0,p+1) else (0,p)
def nF (l:List Int) (p:Nat) (n:Int):Int × Nat:=(modI (rawF l p).1 n,(rawF l p).2)
theorem qno (l:List Int) {p:Nat} (h:p≤l.length):(rawF l p).2≤l.length:=by
 unfold rawF;split
 · simp only;omega
 · exact h
theorem qxpb (l:List Int) (p:Nat) {n:Nat} (h0:0<n) (h1:n<1000000):0≤(nF l p n).1∧(nF l p n).1<n:=by
 unfold nF modI;simp only;rw[if_neg (by omega)]
 have h2:-(n:Int)<(rawF l p).1.tmod n∧(rawF l p).1.tmod n<n:=by
  have h:=Int.natAbs_tmod (rawF l p).1 (n:Int);have h':((rawF l p).1.natAbs % (n:Int).natAbs)<n:=by rw[Int.natAbs_natCast];exact Nat.mod_lt _ h0
  rw[← h] at h';omega
 split
 · rw[wr (by omega) (by omega)];omega
 · omega
def srcB (l:List Int) (p:Nat):Blk:={ fz:=false,ap:=false,ty:=56,sz:=2,rows:=[[.d (numsD l),iA p]] }
theorem qbyb (x n:Int):CC Tryz.prog G 54 [] [iA x,iA n] [] (iA (modI x n)):=by
 refine CC.go Tryz.func54 rfl rfl Tryz.ntmps54 (k0:=0) rfl (Nat.le_of_ble_eq_true rfl) (by rfl) (by rfl) ?_
 refine qi ?_;refine qd (by simp only[slimL,slim1,List.map_cons,List.map_nil];rfl) ?_
 refine qh 1 (by simp only[go_sem];rfl) ?_
 refine qf ?_;refine qe ?_;refine qi ?_;refine qi ?_;refine qd (by simp only[slimL,slim1,List.map_cons,List.map_nil];rfl) ?_
 refine qh 2 (by simp only[go_sem];rfl) ?_
 refine qf ?_;refine qe ?_;refine qqg (by simp only[go_sem];rfl) (fun c0=>?_) (fun c0=>?_)
 · skip
   refine qi ?_;refine qd (by simp only[slimL,slim1,List.map_cons,List.map_nil];rfl) ?_
   refine qh 1 (by simp only[go_sem,c0];rfl) ?_
   refine qf ?_;refine qe ?_;refine qqc ?_;refine qog ?_;refine qgn (.inr rfl) (rs:=[.tmp 4]) rfl (by simp only[go_sem];rfl) ?_
   exact ⟨by unfold modI;rw[if_pos (by simpa using c0)],rfl⟩
 · skip
   have hz:¬ n=0:=by simp at c0;omega
   refine qzd ?_;refine qe ?_;refine qi ?_;refine qd (by simp only[slimL,slim1,List.map_cons,List.map_nil];rfl) ?_
   refine qh 4 (by simp only[go_sem,c0,hz];rfl) ?_
   refine qf ?_;refine qe ?_;refine qi ?_;refine qi ?_;refine qd (by simp only[slimL,slim1,List.map_cons,List.map_nil];rfl) ?_
   refine qh 2 (by simp only[go_sem];rfl) ?_
   refine qf ?_;refine qe ?_;refine qqg (by simp only[go_sem];rfl) (fun c1=>?_) (fun c1=>?_)
   · skip
     refine qd (by simp only[slimL,slim1,List.map_cons,List.map_nil];rfl) ?_
     refine qh 4 (by simp only[go_sem,c1];rfl) ?_
     refine qf ?_;refine qe ?_;refine qi ?_;refine qd (by simp only[slimL,slim1,List.map_cons,List.map_nil];rfl) ?_
     refine qh 2 (by simp only[go_sem];rfl) ?_
     refine qf ?_;refine qe ?_;refine qqc ?_;refine qgn (.inr rfl) (rs:=[.tmp 4]) rfl (by simp only[go_sem];rfl) ?_
     exact ⟨by unfold modI;rw[if_neg (by simpa using c0),if_pos (by simpa using c1)],rfl⟩
   · skip
     refine qzd ?_;refine qe ?_;refine qi ?_;refine qd (by simp only[slimL,slim1,List.map_cons,List.map_nil];rfl) ?_
     refine qh 2 (by simp only[go_sem,c1];rfl) ?_
     refine qf ?_;refine qe ?_;refine qqc ?_;refine qgn (.inr rfl) (rs:=[.tmp 4]) rfl (by simp only[go_sem];rfl) ?_
     exact ⟨by unfold modI;rw[if_neg (by simpa using c0),if_neg (by simpa using c1)],rfl⟩
theorem qfzb (l:List Int) (p:Nat) (hl:l.length<1000000) (hp:p≤l.length):CC Tryz.prog G 55 [srcB l p] [.ptr 0 1 0 0] [srcB l (rawF l p).2] (iA (rawF l p).1):=by
 refine CC.go Tryz.func55 rfl rfl Tryz.ntmps55 (k0:=1) rfl (Nat.le_of_ble_eq_true rfl) (by rfl) (by rfl) ?_
 refine qi ?_;refine qd (by simp only[slimL,slim1,List.map_cons,List.map_nil];rfl) ?_
 refine qh 1 (by simp only[go_sem,srcB,numsD];rfl) ?_
 refine qf ?_;refine qe ?_;refine qi ?_;refine qi ?_;refine qbc (by kernel_rfl) (by simp only[slimL,slim1,List.map_cons,List.map_nil];rfl) ?_
 refine qlc 10 (by simp only[go_sem,List.length_map];rfl) ?_
 refine qle 1 (by kernel_rfl) ?_
 refine qe ?_;refine qqg (by simp only[go_sem];rfl) (fun c0=>?_) (fun c0=>?_)
 · skip
   refine qi ?_;refine qd (by simp only[slimL,slim1,List.map_cons,List.map_nil];rfl) ?_
   refine qh 1 (by simp only[go_sem,c0];rfl) ?_
   refine qf ?_;refine qe ?_;refine qqc ?_;refine qog ?_;refine qktb (.inr rfl) (rs:=[.tmp 2]) rfl (by simp only[go_sem];rfl) ?_ ?_ (Nat.le_of_ble_eq_true rfl) (by rfl) (by rfl)
   · unfold rawF;rw[if_neg (by simp at c0;omega)]
   · exact .cons (by unfold rawF;rw[if_neg (by simp at c0;omega)];rfl) (.nil _ _)
 · skip
   have hlt:p<l.length:=by simp at c0;omega
   have w1:IntKind.i64.wrap ((p:Int)+1)=((p+1:Nat):Int):=by rw[wr (by omega) (by omega)];omega
   have w2:IntKind.i64.wrap (((p+1:Nat):Int)-1)=(p:Int):=by rw[wr (by omega) (by omega)];omega
   have hrow:(l.map numR)[p]? = some [.int .i64 l[p]]:=by simp[numR,hlt]
   refine qzd ?_;refine qe ?_;refine qi ?_;refine qd (by simp only[slimL,slim1,List.map_cons,List.map_nil];rfl) ?_
   refine qh 8 (by simp only[go_sem,c0,w1];rfl) ?_
   refine qf ?_;refine qe ?_;refine qi ?_;refine qbc (by kernel_rfl) (by simp only[slimL,slim1,List.map_cons,List.map_nil];rfl) ?_
   refine qlc 12 (by simp only[go_sem,w2,hrow];rfl) ?_
   refine qle 1 (by kernel_rfl) ?_
   refine qe ?_;refine qqc ?_;refine qktb (.inr rfl) (rs:=[.tmp 2]) rfl (by simp only[go_sem];rfl) ?_ ?_ (Nat.le_of_ble_eq_true rfl) (by rfl) (by rfl)
   · unfold rawF;rw[if_pos hlt];simp[hlt]
   · exact .cons (by unfold rawF;rw[if_pos hlt];rfl) (.nil _ _)
theorem n_c (l:List Int) (p:Nat) (n:Int) (hl:l.length<1000000) (hp:p≤l.length):CC Tryz.prog G 25 [srcB l p] [.ptr 0 1 0 0,iA n] [srcB l (nF l p n).2] (iA (nF l p n).1):=by
 refine CC.go Tryz.func25 rfl rfl Tryz.ntmps25 (k0:=1) rfl (Nat.le_of_ble_eq_true rfl) (by rfl) (by rfl) ?_
 refine qi ?_;refine qd (by simp only[slimL,slim1,List.map_cons,List.map_nil];rfl) ?_
 refine qh 1 (by simp only[go_sem,srcB,numsD];rfl) ?_
 refine qf ?_;refine qe ?_;refine qi ?_;refine qd (by simp only[slimL,slim1,List.map_cons,List.map_nil];rfl) ?_
 refine qh 1 (by simp only[go_sem];rfl) ?_
 refine qxc rfl (by simp only[go_sem]) rfl (by simp only[go_sem];rfl) (by simp only[go_sem];rfl) ?_
 refine qio [0] (qfzb l p hl hp) rfl rfl rfl (Nat.le_of_ble_eq_true rfl) (Nat.le_of_ble_eq_true rfl) (by simp) rfl rfl (by rfl) rfl rfl ?_
 refine qh 1 (by simp only[go_sem,srcB,numsD];rfl) ?_
 refine qxc rfl (by simp only[go_sem]) rfl (by simp only[go_sem];rfl) (by simp only[go_sem];rfl) ?_
 refine qge (qbyb (rawF l p).1 n) rfl rfl rfl ?_;refine qh 1 (by simp only[go_sem];rfl) ?_
 refine qf ?_;refine qe ?_;refine qqc ?_;refine qktb (.inr rfl) (rs:=[.tmp 4]) rfl (by simp only[go_sem];rfl) ?_ ?_ (Nat.le_of_ble_eq_true rfl) (by rfl) (by rfl)
 · rfl
 · exact .cons rfl (.nil _ _)
end Go.Proofs.YtnfecjmddbehiaaGreat

namespace Go.Proofs.YtnfecjmddbehiaaGreat
open Go Am Go.Proofs Go.RowKit
set_option maxRecDepth 100000
set_option maxHeartbeats 2000000
variable {G:Glob}
def rowB (r:List Int):Blk:={ fz:=false,ap:=true,ty:=3,sz:=1,rows:=(r.map numR).map fun x=>x.map AV.d }
def rowsF:Nat→List (List Int)→List (List AV)
 | _,[]=>[]
 | i,r::R=>[.own (3*i+7) r.length 0 r.length]::rowsF (i+1) R
theorem qlm (r:List Int):∀ (R:List (List Int)) (i:Nat),rowsF i (R++[r])=rowsF i R++[[.own (3*(i+R.length)+7) r.length 0 r.length]]
 | [],i=>by simp[rowsF]
 | x::R,i=>by
  simp only[List.cons_append,rowsF,qlm r R (i+1),List.length_cons];rw[show i+1+R.length=i+(R.length+1) by omega]
theorem qad:∀ (R:List (List Int)) (i:Nat),(rowsF i R).length=R.length
 | [],_=>rfl
 | x::R,i=>by simp[rowsF,qad R (i+1)]
theorem qjk:∀ (R:List (List Int)) (i k:Nat) (h:k<R.length),(rowsF i R)[k]? = some [.own (3*(i+k)+7) R[k].length 0 R[k].length]
 | x::R,i,0,h=>by simp[rowsF]
 | x::R,i,k+1,h=>by
  simp only[rowsF,List.getElem?_cons_succ,List.getElem_cons_succ];rw[qjk R (i+1) k (by simpa using h),show i+1+k=i+(k+1) by omega]
def rowsB (R:List (List Int)):Blk:={ fz:=false,ap:=true,ty:=22,sz:=1,rows:=rowsF 0 R }
def outB (a:Int) (n:Nat):Blk:={ fz:=false,ap:=false,ty:=30,sz:=2,rows:=[[iA a,.own 4 n 0 n]] }
def resB:Blk:={ fz:=false,ap:=false,ty:=30,sz:=2,rows:=[[iA 0,.nils]] }
def bH (F:List (Option Blk)) (R:List (List Int)):Heap:=fun b=>if b<5 then getO F b else if (b-5) % 3=2 then (R[(b-5) / 3]?).map rowB else none
section
variable (f0 f1 f2 f3 f4:Option Blk) (R:List (List Int))
theorem bH_2:bH [f0,f1,f2,f3,f4] R 2=f2:=rfl
theorem bH_3:bH [f0,f1,f2,f3,f4] R 3=f3:=rfl
theorem bH_4:bH [f0,f1,f2,f3,f4] R 4=f4:=rfl
theorem qay {i:Nat} (h:i<R.length):bH [f0,f1,f2,f3,f4] R (3*i+7)=some (rowB R[i]):=by
 unfold bH;rw[if_neg (by omega),if_pos (by omega),show (3*i+7-5) / 3=i by omega,List.getElem?_eq_getElem h]
 rfl
theorem qvf {b:Nat} (h:3*R.length+5≤b):bH [f0,f1,f2,f3,f4] R b=none:=by
 unfold bH;rw[if_neg (by omega)]
 split
 · rw[List.getElem?_eq_none (by omega)];rfl
 · rfl
end
theorem Ent.to {k:Nat} {tm:Nat→AV} {H H':Heap} {l':List AV} {nx nx' n:Nat} (hn:nx'≤nx) (hk:k≤nx') (ht:LeF nx' tm 0 l') (hH:∀ b,b<nx'→H' b=H b) (h0:∀ b,nx'≤b→H' b=none)
 (hin:∀ b blk,b<nx'→H' b=some blk→∀ row∈blk.rows,row.all (AV.inK nx')=true):Ent k ⟨tm,H,nx,n⟩ ⟨tl l',H',nx',n⟩:=by
 refine Ent.le ⟨rfl,hn,hk,fun t=>?_,?_,fun b blk hb hbb row hrow=>hin b blk hb ((hH b hb).trans hbb) row hrow⟩
 · have:=ht.get t;rw[Nat.zero_add] at this;exact this
 · funext b
   show H' b=cutH nx' H b
   unfold cutH
   split
   · rename_i hb;exact hH b hb
   · exact h0 b (by omega)
def bF (l:List Int) (p:Nat) (a:Int) (rows:List (List Int)) (R:List (List Int)):List (Option Blk):=[some (srcB l p),some (pinB (bxT a rows)),some resB,some (outB a R.length),some (rowsB R)]
theorem qxtb {f0 f1 f2 f3 f4 g3 g4:Option Blk} {R:List (List Int)} {r:List Int} {k:Nat} (hk:R.length=k) {x y b3 b4 rb:Blk} (h3:g3=some b3) (h4:g4=some b4) (hr:rb=rowB r) {b:Nat} (hb:b<3*(k+1)+5) :
 bH [f0,f1,f2,g3,g4] (R++[r]) b=updH (updH (updH (updH (updH (bH [f0,f1,f2,f3,f4] R) (3*k+5+1+1) x) (3*k+5+1+1) rb) (3*k+5+1+1+1+1+1+1+1+1+1) y) 4 b4) 3 b3 b:=by
 subst h3;subst h4;subst hr;simp only[qrn]
 by_cases e3:b=3
 · subst e3;rfl
 rw[if_neg e3]
 by_cases e4:b=4
 · subst e4;rfl
 rw[if_neg e4,if_neg (by omega)]
 by_cases e7:b=3*k+5+1+1
 · rw[if_pos e7];have:=qay f0 f1 f2 (some b3) (some b4) (R++[r]) (i:=k) (by simp;omega)
   rw[show b=3*k+7 by omega,this]
   simp[← hk]
 rw[if_neg e7,if_neg e7]
 match b,e3,e4,e7,hb with
 | 0,_,_,_,_=>rfl
 | 1,_,_,_,_=>rfl
 | 2,_,_,_,_=>rfl
 | b+5,_,_,e7,hb=>
  unfold bH;have e5:¬ b+5<5:=by omega
  simp only[e5,if_false]
  by_cases h2:(b+5-5) % 3=2
  · rw[if_pos h2,if_pos h2,List.getElem?_append_left (by omega)]
  · rw[if_neg h2,if_neg h2]
theorem qzq:∀ (R:List (List Int)) (i k:Nat) (r:List Int),(∀ (h:k<R.length),r.length=R[k].length)→rowsF i (R.set k r)=rowsF i R
 | [],_,_,_,_=>by simp
 | x::R,i,0,r,h=>by
  have:=h (by simp)
  simp only[List.set_cons_zero,rowsF];rw[this];rfl
 | x::R,i,k+1,r,h=>by
  simp only[List.set_cons_succ,rowsF];rw[qzq R (i+1) k r fun hk=>by have:=h (by simpa using hk);simpa using this]
theorem qxxb {f0 f1 f2 f3 f4 g0 g3 g4:Option Blk} {R:List (List Int)} {r:List Int} {k:Nat} (hk:k<R.length) {b0 rb:Blk} (h0:g0=some b0) (h3:g3=f3) (h4:g4=f4) (hr:rb=rowB r) {b:Nat} :
 bH [g0,f1,f2,g3,g4] (R.set k r) b=updH (updH (bH [f0,f1,f2,f3,f4] R) 0 b0) (3*k+7) rb b:=by
 subst h0;subst h3;subst h4;subst hr;simp only[qrn]
 by_cases e7:b=3*k+7
 · rw[if_pos e7,e7];have:=qay (some b0) f1 f2 g3 g4 (R.set k r) (i:=k) (by simpa using hk)
   rw[this];simp
 rw[if_neg e7]
 match b,e7 with
 | 0,_=>rfl
 | 1,_=>rfl
 | 2,_=>rfl
 | 3,_=>rfl
 | 4,_=>rfl
 | b+5,e7=>
  rw[if_neg (by omega)]
  unfold bH;have e5:¬ b+5<5:=by omega
  simp only[e5,if_false]
  by_cases h2:(b+5-5) % 3=2
  · rw[if_pos h2,if_pos h2,List.getElem?_set_ne (by omega)]
  · rw[if_neg h2,if_neg h2]
theorem qak (l:List Int) (p:Nat) (a:Int) (rows R:List (List Int)) {b:Nat} (h:3*R.length+5≤b):bH (bF l p a rows R) R b=none:=qvf _ _ _ _ _ R h
theorem qhw:∀ (R:List (List Int)) (i n:Nat),3*(i+R.length)+5≤n→∀ row∈rowsF i R,row.all (AV.inK n)=true
 | [],i,n,_,row,h=>by simp[rowsF] at h
 | x::R,i,n,hn,row,h=>by
  simp only[rowsF,List.mem_cons] at h;simp only[List.length_cons] at hn;rcases h with rfl|h
  · simp only[List.all_cons,List.all_nil,Bool.and_true,AV.inK];simp;omega
  · exact qhw R (i+1) n (by omega) row h
theorem qgcb (l:List Int) (p:Nat) (a:Int) (rows R:List (List Int)):∀ b blk,b<3*R.length+5→bH (bF l p a rows R) R b=some blk→∀ row∈blk.rows,row.all (AV.inK (3*R.length+5))=true:=by
 intro b blk hb h row hr
 match b,h with
 | 0,h=>rw[show bH (bF l p a rows R) R 0=some (srcB l p) from rfl] at h;cases h;simp only[srcB,List.mem_cons,List.not_mem_nil,or_false] at hr;subst hr;rfl
 | 1,h=>rw[show bH (bF l p a rows R) R 1=some (pinB (bxT a rows)) from rfl] at h;cases h;simp only[bxT,pinB,List.mem_cons,List.not_mem_nil,or_false] at hr;subst hr;rfl
 | 2,h=>rw[show bH (bF l p a rows R) R 2=some resB from rfl] at h;cases h;simp only[resB,List.mem_cons,List.not_mem_nil,or_false] at hr;subst hr;rfl
 | 3,h=>rw[show bH (bF l p a rows R) R 3=some (outB a R.length) from rfl] at h;cases h;simp only[outB,List.mem_cons,List.not_mem_nil,or_false] at hr;subst hr;simp[AV.inK]
 | 4,h=>rw[show bH (bF l p a rows R) R 4=some (rowsB R) from rfl] at h;cases h;exact qhw R 0 _ (by omega) row hr
 | b+5,h=>
  unfold bH at h;rw[if_neg (by omega)] at h
  split at h
  · rw[Option.map_eq_some_iff] at h;obtain ⟨r,_,rfl⟩:=h;simp only[rowB,List.map_map,List.mem_map] at hr;obtain ⟨x,_,rfl⟩:=hr;rfl
  · cases h
theorem qstb {H:Heap} {R:List (List Int)} (h4:H 4=some (rowsB R)) (hr:∀ i (h:i<R.length),H (3*i+7)=some (rowB R[i])) :
 frzD 3 H (.own 4 R.length 0 R.length)=tabD R∧frzOk 3 H (.own 4 R.length 0 R.length)=true∧∀ b∈frzIds 3 H (.own 4 R.length 0 R.length),b≠0:=by
 have hl:(rowsF 0 R).length=R.length:=qad R 0
 have hg:∀ i (h:i<R.length),(rowsF 0 R)[i]'(by omega)=[.own (3*i+7) R[i].length 0 R[i].length]:=fun i h=>by
  have:=qjk R 0 i h;rw[List.getElem?_eq_getElem (by omega),Option.some.injEq,Nat.zero_add] at this
  exact this
 have htk:((rowsB R).rows.drop 0).take R.length=rowsF 0 R:=by
  show (rowsF 0 R).take R.length=_
  rw[← hl,List.take_length]
 have one:∀ i (h:i<R.length),frzD 2 H (.own (3*i+7) R[i].length 0 R[i].length)=numsD R[i]∧frzOk 2 H (.own (3*i+7) R[i].length 0 R[i].length)=true:=fun i h=>by
  have ht:((rowB R[i]).rows.drop 0).take R[i].length=(R[i].map numR).map fun x=>x.map AV.d:=by
   show ((R[i].map numR).map fun x=>x.map AV.d).take R[i].length=_
   exact List.take_of_length_le (by simp)
  constructor
  · simp only[frzD,hr i h,ht];unfold numsD
    congr 1
    rw[List.map_map,List.map_map];refine List.map_congr_left fun x _=>rfl
  · simp only[frzOk,hr i h,ht];have e:(rowB R[i]).rows.length=R[i].length:=by simp[rowB]
    rw[e];simp[numR,frzOk]
 refine ⟨?_,?_,?_⟩
 · simp only[frzD,h4,htk];unfold tabD
   congr 1
   refine List.ext_getElem (by simp[hl]) fun i h1 h2=>?_
   have hi:i<R.length:=by simpa using h2
   simp only[List.getElem_map,hg i hi,List.map_cons,List.map_nil,(one i hi).1]
 · have e:(rowsB R).rows.length=R.length:=hl;simp only[frzOk,h4,htk,e,Nat.zero_add,Nat.le_refl,decide_true,Bool.true_and,List.all_eq_true];intro row hrow;obtain ⟨i,hi,rfl⟩:=List.getElem_of_mem hrow;have hi':i<R.length:=by omega
   rw[hg i hi'];intro x hx;simp only[List.mem_cons,List.not_mem_nil,or_false] at hx;subst hx;exact (one i hi').2
 · intro b hb;simp only[frzIds,h4,htk,List.mem_cons,List.mem_flatMap] at hb;rcases hb with rfl|⟨row,hrow,x,hx,hb⟩
   · decide
   · obtain ⟨i,hi,rfl⟩:=List.getElem_of_mem hrow;have hi':i<R.length:=by omega
     rw[hg i hi'] at hx;simp only[List.mem_cons,List.not_mem_nil,or_false] at hx;subst hx;simp only[frzIds,hr i hi',List.mem_cons,List.mem_flatMap] at hb;rcases hb with rfl|⟨row,hrow,x,hx,hb⟩
     · omega
     · have hrow':=List.mem_of_mem_drop (List.mem_of_mem_take hrow);simp only[rowB,List.map_map,List.mem_map] at hrow';obtain ⟨y,_,rfl⟩:=hrow';simp only[numR,Function.comp,List.map_cons,List.map_nil,List.mem_cons,List.not_mem_nil,or_false] at hx;subst hx;simp[frzIds] at hb
theorem qkyb {P:Program} {fn:Func} {e:Exit} {tm:Nat→AV} {H:Heap} {nx n:Nat} {rs:List ResultVar} {R:List (List Int)} {a:Int} {l:List Int} {q:Nat} (he:e = .normal∨e = .ret) (hrs:fn.results.toList=rs)
 (hf:(resAll P ⟨tm,H,nx,n⟩ rs).map tupA=some (.agg [iA a,.own 4 R.length 0 R.length])) (h0:H 0=some (srcB l q)) (h4:H 4=some (rowsB R)) (hr:∀ i (h:i<R.length),H (3*i+7)=some (rowB R[i])) :
 Fin P fn 1 [srcB l q] (.agg [iA a,.d (tabD R)]) e ⟨tm,H,nx,n⟩:=by
 rw[Option.map_eq_some_iff] at hf;obtain ⟨xs,h1,h2⟩:=hf;obtain ⟨z1,z2,z3⟩:=qstb h4 hr;refine ⟨he,false,.agg [iA a,.own 4 R.length 0 R.length],by rw[qgt hrs h1,h2],?_,?_,Nat.le_refl _,fun i hi=>?_,fun b hb row hrow=>?_,?_⟩
 · simp[avOk,resList,frzAOk,frz1Ok,z2]
 · simp[avs1,resList,ofList,frzA,frz1,z1]
 · obtain rfl:i=0:=by simpa using hi
   unfold pinH;rw[if_neg ?_]
   · exact h0
   · intro hc;simp only[avIds,Bool.false_eq_true,if_false,resList,frzAIds,List.flatMap_cons,List.flatMap_nil,List.append_nil,frz1Ids,List.nil_append] at hc;exact z3 0 hc rfl
 · simp only[List.mem_singleton] at hb;subst hb;simp only[srcB,List.mem_singleton] at hrow;subst hrow;rfl
 · rfl
def st2 (l:List Int) (a:Int) (rows:List (List Int)) (t:Nat) (x:Nat × List (List Int) × Nat):Sta:=⟨tl [.ptr 0 1 0 0,.junk,iA t,.junk,.junk,.junk,.ptr 2 1 0 0,.ptr 3 1 0 0,.junk,iA (x.1:Nat)],bH (bF l x.2.2 a rows x.2.1) x.2.1,3*x.2.1.length+5,76⟩
def bend (l:List Int):Nat→List (List Int)→Nat→List (List Int) × Nat
 | 0,R,q=>(R,q)
 | t+1,R,q=>bend l t (R.set (nF l q R.length).1.toNat ((R.getD (nF l q R.length).1.toNat []).set (nF l (nF l q R.length).2 R.length).1.toNat (nF l (nF l (nF l q R.length).2 R.length).2 R.length).1)) (nF l (nF l (nF l q R.length).2 R.length).2 R.length).2
def st1 (l:List Int) (p:Nat) (a:Int) (rows:List (List Int)) (t k:Nat):Sta:=⟨tl [.ptr 0 1 0 0,.junk,iA t,.junk,.eptr [.int .i64 a,tabD rows],.junk,.ptr 2 1 0 0,.ptr 3 1 0 0,iA (k:Nat)],bH (bF l p a rows (rows.take k)) (rows.take k),3*(rows.take k).length+5,76⟩
theorem qgwb (l:List Int) (p:Nat) (a:Int) (rows:List (List Int)) (t:Nat) (hl:l.length<1000000) (hp:p≤l.length) (ht:t<1000000) (h0:0<rows.length) (h16:rows.length≤16) (hrow:∀ r∈rows,r.length=rows.length) :
 CC Tryz.prog G 13 [srcB l p] [.ptr 0 1 0 0,.agg [iA a,.d (tabD rows)],iA t] [srcB l (bend l t rows p).2] (.agg [iA a,.d (tabD (bend l t rows p).1)]):=by
 refine CC.go Tryz.func13 rfl rfl Tryz.ntmps13 (k0:=1) rfl (Nat.le_of_ble_eq_true rfl) (by rfl) (by rfl) ?_
 refine qi ?_;refine qd (by simp only[slimL,slim1,List.map_cons,List.map_nil];rfl) ?_
 refine qh 2 (by simp only[go_sem,srcB,tabD];rfl) ?_
 refine qf (qic (Ent.box (t:=4) (b:=1) (row:=[.int .i64 a,tabD rows]) rfl rfl rfl) ?_);refine qi ?_;refine qd (by simp only[slimL,slim1,List.map_cons,List.map_nil];rfl) ?_
 refine qh 5 (by simp only[go_sem,tabD];rfl) ?_
 refine qf (qic (Ent.ghostH 3 0 1 22 1 rfl (Nat.le_of_ble_eq_true rfl) (Nat.le_of_ble_eq_true rfl) rfl) ?_);refine qi ?_;refine qi ?_;refine qd (by simp only[slimL,slim1,List.map_cons,List.map_nil];rfl) ?_
 refine qh 1 (by simp only[go_sem];rfl) ?_
 refine qf (qic (s':=st1 l p a rows t 0) (Ent.to (Nat.le_refl _) (Nat.le_of_ble_eq_true rfl) (.keep rfl rfl (.junk (.keep rfl rfl (.junk (.keep rfl rfl (.junk (.keep rfl rfl (.keep rfl rfl (.keep rfl rfl (.nil _)))))))))) (fun b hb=>by
  match b,hb with
  | 0,_=>rfl
  | 1,_=>rfl
  | 2,_=>rfl
  | 3,_=>rfl
  | 4,_=>rfl) (fun b hb=>qak l p a rows (rows.take 0) hb) (qgcb l p a rows (rows.take 0))) ?_)
 refine qdc ?_;refine qlr (ι:=Nat) (st1 l p a rows t) (fun k=>k≤rows.length) (fun k=>rows.length-k) 0 (Ent.refl _ _) (Nat.zero_le _) ?_
 intro k hk;have hkl:(rows.take k).length=k:=by rw[List.length_take];omega
 unfold st1 bF;rw[hkl];refine qi ?_;refine qi ?_;refine qd (by simp only[slimL,slim1,List.map_cons,List.map_nil];rfl) ?_
 refine qh 5 (by simp only[go_sem,srcB,bxT,resB,outB,rowsB,tabD,List.length_map];rfl) ?_
 refine qf (qe ?_);refine qqg (by simp only[go_sem];rfl) (fun c0=>?_) (fun c0=>?_)
 · have hlt:k<rows.length:=by simp at c0;omega
   have hrk:(rows.map fun r=>[numsD r])[k]? = some [numsD rows[k]]:=by simp[hlt]
   have hrl:rows[k].length=rows.length:=hrow _ (List.getElem_mem hlt);have hq1:rows[k].all (((fun r=>r.length == 1&&r.all AV.one)∘fun x=>List.map AV.d x)∘numR)=true:=List.all_eq_true.2 fun x _=>rfl
   have hq2:rows.length*8≤140737488355328:=by omega
   have hq3:rows.length≤9223372036854775807:=by omega
   have hq4:(k+1)*24≤140737488355328:=by omega
   have hq5:k+1≤9223372036854775807:=by omega
   refine qzd ?_;refine qe ?_;refine qi ?_;refine qdc ?_;refine qbc (by kernel_rfl) (by simp only[slimL,slim1,List.map_cons,List.map_nil];rfl) ?_
   refine qlc 8 (by simp only[go_sem,bH_3,hrk];rfl) ?_
   refine qlc 5 (by simp only[go_sem,bH_3,bH_4,List.length_map,numsD,List.all_map,qad,hkl,hrl,hq1,hq2,hq3,hq4,hq5];rfl) ?_
   refine qle (3*k+15) (by show okD _ (3*k+5) _ _=true;have hk16:k<16:=(by omega);clear hq5 hq4 hq1 hrl hrk hlt c0 hkl hk;revert k;decide +kernel) ?_
   refine qec ?_;refine qe ?_;have hw:IntKind.i64.wrap ((k:Int)+1)=((k+1:Nat):Int):=by rw[wr (by omega) (by omega)];omega
   refine qd (by simp only[slimL,slim1,List.map_cons,List.map_nil];rfl) ?_
   refine qh 3 (by simp only[go_sem,hw];rfl) ?_
   refine qf ?_;have htk:rows.take (k+1)=rows.take k++[rows[k]]:=by rw[List.take_add_one];simp[hlt]
   have htl:(rows.take (k+1)).length=k+1:=by rw[List.length_take];omega
   refine qoi (k+1) (Ent.to (by omega) (by omega) (.keep rfl rfl (.junk (.keep rfl rfl (.junk (.keep rfl rfl (.junk (.keep rfl (by simp[AV.inK]) (.keep rfl (by simp[AV.inK]) (.keep rfl rfl (.nil _)))))))))) (fun b hb=>?_) (fun b hb=>qak l p a rows _ hb) (qgcb l p a rows _)) hlt (by omega)
   rw[htl] at hb;rw[htk];refine qxtb hkl ?_ ?_ rfl hb
   · simp only[outB,List.length_append,hkl,List.length_cons,List.length_nil]
   · simp only[rowsB,qlm,hkl,hrl,Nat.zero_add]
 · have hkm:k=rows.length:=by simp at c0;omega
   subst hkm;refine qvw ?_;refine qer (qbm (qvj ?_));refine qe ?_;refine qi ?_;refine qi ?_;refine qd (by simp only[slimL,slim1,List.map_cons,List.map_nil];rfl) ?_
   refine qh 1 (by simp only[go_sem];rfl) ?_
   refine qf (qic (s':=st2 l a rows t (0,rows,p)) (Ent.to (Nat.le_refl _) (by show 1≤3*rows.length+5;omega) (.keep rfl rfl (.junk (.keep rfl rfl (.junk (.junk (.junk (.keep rfl (by simp[AV.inK]) (.keep rfl (by simp[AV.inK]) (.junk (.keep rfl rfl (.nil _))))))))))) (fun b hb=>?_) (fun b hb=>qak l p a rows _ hb) (qgcb l p a rows _)) ?_)
   · have e:rows.take rows.length=rows:=List.take_length;simp only[e];rfl
   refine qdc ?_;refine qlr (ι:=Nat × List (List Int) × Nat) (st2 l a rows t) (fun x=>x.1≤t∧x.2.1.length=rows.length∧(∀ r∈x.2.1,r.length=rows.length)∧x.2.2≤l.length∧bend l (t-x.1) x.2.1 x.2.2=bend l t rows p) (fun x=>t-x.1) (0,rows,p) (Ent.refl _ _) ⟨Nat.zero_le _,rfl,hrow,hp,rfl⟩ ?_
   rintro ⟨i,R,q⟩ ⟨hi,hRl,hRr,hq,hbe⟩;simp only at hi hRl hRr hq hbe;unfold st2 bF;simp only;refine qi ?_;refine qi ?_
   by_cases hit:i<t
   · have hlt:(i:Int)<(t:Int):=by omega
     have hgt:(R.length:Int)>0:=by omega
     have draw:∀ q,q≤l.length→∃ kn q1,kn<R.length∧q1≤l.length∧nF l q (R.length:Int)=((kn:Int),q1):=fun q hq=>by
      have h1:=qxpb l q (n:=R.length) (by omega) (by omega)
      obtain ⟨kn,hkn⟩:=Int.eq_ofNat_of_zero_le h1.1;exact ⟨kn,(nF l q (R.length:Int)).2,by have:=h1.2;omega,qno l hq,Prod.ext hkn rfl⟩
     obtain ⟨kn,q1,hkn,hq1,e1⟩:=draw q hq;obtain ⟨fn,q2,hfn,hq2,e2⟩:=draw q1 hq1;obtain ⟨vn,q3,hvn,hq3,e3⟩:=draw q2 hq2;have c1:=n_c (G:=G) l q (R.length:Int) hl hq;have c2:=n_c (G:=G) l q1 (R.length:Int) hl hq1;have c3:=n_c (G:=G) l q2 (R.length:Int) hl hq2;rw[e1] at c1;rw[e2] at c2;rw[e3] at c3;simp only at c1 c2 c3
     have hbe2:bend l (t-(i+1)) (R.set kn ((R.getD kn []).set fn (vn:Int))) q3=bend l t rows p:=by
      rw[← hbe,show t-i=(t-(i+1))+1 by omega]
      simp only[bend,e1,e2,e3,Int.toNat_natCast]
     refine qd (by simp only[slimL,slim1,List.map_cons,List.map_nil,List.getElem?_toArray,List.getElem?_cons_succ,List.getElem?_cons_zero,Option.bind_some];rfl) ?_
     refine qh 9 (by simp only[go_sem,srcB,bxT,resB,outB,rowsB,bH_3,bH_4,tabD,hlt,hgt,qad];rfl) ?_
     refine qf (qe ?_);refine qkc (by simp only[go_sem]) ?_
     refine qzd ?_;refine qe ?_;refine qi ?_;refine qdc ?_;refine qi ?_;refine qbc (by kernel_rfl) (by simp only[slimL,slim1,List.map_cons,List.map_nil];rfl) ?_
     refine qlc 4 (by simp only[go_sem,bH_3,bH_4,qad];rfl) ?_
     refine qdf rfl (by simp only[go_sem]) rfl (by simp only[go_sem];rfl) (by simp only[go_sem];rfl) ?_
     refine qio [0] (r1:=iA (kn:Int)) (hs:=[(0,srcB l q1)]) c1 rfl rfl rfl (Nat.le_of_ble_eq_true rfl) (Nat.le_of_ble_eq_true rfl) (by simp) rfl (by first|exact qvf _ _ _ _ _ R (by omega)|(simp only[go_sem];exact qvf _ _ _ _ _ R (by omega))) (by rfl) rfl rfl ?_
     refine qlc 4 (by simp only[go_sem,srcB,bH_3,bH_4,qad];rfl) ?_
     refine qdf rfl (by simp only[go_sem]) rfl (by simp only[go_sem];rfl) (by simp only[go_sem];rfl) ?_
     refine qio [0] (r1:=iA (fn:Int)) (hs:=[(0,srcB l q2)]) c2 rfl rfl rfl (Nat.le_of_ble_eq_true rfl) (Nat.le_of_ble_eq_true rfl) (by simp) rfl (by first|exact qvf _ _ _ _ _ R (by omega)|(simp only[go_sem];exact qvf _ _ _ _ _ R (by omega))) (by rfl) rfl rfl ?_
     refine qlc 2 (by simp only[go_sem,srcB];rfl) ?_
     have h16R:R.length≤16:=by omega
     refine qle (3*R.length+17) (by show okD _ (3*R.length+5) _ (3*R.length+17)=true;clear hbe2 c1 c2 c3 e1 e2 e3 draw hvn hfn hkn hgt hlt hit hbe hRr hRl;generalize R.length=mm at h16R ⊢;revert mm;decide +kernel) ?_
     refine qic (Ent.to (l':=[.ptr 0 1 0 0,.junk,iA t,.junk,.junk,.junk,.ptr 2 1 0 0,.ptr 3 1 0 0,.junk,iA (i:Nat),iA (kn:Int),iA (fn:Int)]) (H':=bH (bF l q2 a rows R) R) (nx':=3*R.length+5) (by omega) (by omega) (.keep rfl rfl (.junk (.keep rfl rfl (.junk (.junk (.junk (.keep rfl (by simp[AV.inK]) (.keep rfl (by simp[AV.inK]) (.junk (.keep rfl rfl (.keep rfl rfl (.keep rfl rfl (.nil _))))))))))))) (fun b hb=>?_) (fun b hb=>qak l q2 a rows _ hb) (qgcb l q2 a rows _)) ?_
     · match b with
       | 0=>rfl
       | b+1=>rfl
     unfold bF;refine qi ?_;have hrk:=qjk R 0 kn hkn;rw[Nat.zero_add] at hrk;have hrl:R[kn].length=rows.length:=hRr _ (List.getElem_mem hkn);rw[hrl] at hrk;have hki:(kn:Int)<(R.length:Int):=by omega
     have hrow1:∀ f0 f1 f2 f3 f4,bH [f0,f1,f2,f3,f4] R (3*kn+7)=some (rowB R[kn]):=fun f0 f1 f2 f3 f4=>qay f0 f1 f2 f3 f4 R hkn
     have hfi:(fn:Int)<(rows.length:Int):=by omega
     have hfl:fn<R[kn].length:=by omega
     have hget:(List.map (fun x=>List.map AV.d x) (List.map numR R[kn]))[fn]? = some [iA R[kn][fn]]:=by simp[numR,hfl]
     refine qd (by simp only[slimL,slim1,List.map_cons,List.map_nil];rfl) ?_
     refine qh 8 (by simp only[go_sem,srcB,bxT,resB,outB,rowsB,bH_3,bH_4,tabD,List.length_map,qad,hrk,hki,hrow1,rowB,hrl,hfi];rfl) ?_
     refine qf (qe ?_);refine qkc (by simp only[go_sem]) ?_
     refine qbc (by kernel_rfl) (by simp only[slimL,slim1,List.map_cons,List.map_nil];rfl) ?_
     refine qlc 10 (by simp only[go_sem,bH_3,bH_4,qad,hrk,hki];rfl) ?_
     refine qdf rfl (by simp only[go_sem]) rfl (by simp only[go_sem];rfl) (by simp only[go_sem];rfl) ?_
     refine qio [0] (r1:=iA (vn:Int)) (hs:=[(0,srcB l q3)]) c3 rfl rfl rfl (Nat.le_of_ble_eq_true rfl) (Nat.le_of_ble_eq_true rfl) (by simp) rfl (by first|exact qvf _ _ _ _ _ R (by omega)|(simp only[go_sem];exact qvf _ _ _ _ _ R (by omega))) (by rfl) rfl rfl ?_
     refine qlc 2 (by simp only[go_sem,srcB,List.length_map,hrow1,rowB,hrl,hfi,hget];rfl) ?_
     refine qle (3*R.length+18) (by show okD _ (3*R.length+5) _ (3*R.length+18)=true;clear hget hfl hfi hrow1 hki hrl hrk hbe2 c1 c2 c3 e1 e2 e3 draw hvn hfn hgt hlt hit hbe hRr hRl;generalize R.length=mm at h16R hkn ⊢;revert kn;revert mm;decide +kernel) ?_
     refine qec ?_;refine qe ?_;have hw:IntKind.i64.wrap ((i:Int)+1)=((i+1:Nat):Int):=by rw[wr (by omega) (by omega)];omega
     refine qd (by simp only[slimL,slim1,List.map_cons,List.map_nil];rfl) ?_
     refine qh 3 (by simp only[go_sem,hw];rfl) ?_
     have hgd:R.getD kn []=R[kn]:=by rw[List.getD_eq_getElem?_getD,List.getElem?_eq_getElem hkn];rfl
     rw[hgd] at hbe2;have hR':(R.set kn (R[kn].set fn (vn:Int))).length=R.length:=List.length_set;refine qf (qoi (i+1,R.set kn (R[kn].set fn (vn:Int)),q3) (Ent.to (by simp only[hR'];omega) (by simp only[hR'];omega) (.keep rfl rfl (.junk (.keep rfl rfl (.junk (.junk (.junk (.keep rfl (by simp[AV.inK]) (.keep rfl (by simp[AV.inK]) (.junk (.keep rfl rfl (.nil _))))))))))) (fun b hb=>?_) (fun b hb=>qak l q3 a rows _ hb) (qgcb l q3 a rows _)) ⟨by simp only;omega,by simp only[hR'];exact hRl,fun r hr=>?_,hq3,hbe2⟩ (by simp only;omega))
     · refine qxxb hkn rfl ?_ ?_ ?_
       · simp only[hR'];rfl
       · simp only[rowsB];rw[qzq R 0 kn _ (fun _=>by rw[List.length_set])]
       · simp only[rowB,List.map_set];rfl
     · rcases List.mem_or_eq_of_mem_set hr with h|rfl
       · exact hRr r h
       · rw[List.length_set];exact hrl
   · have hlt:¬ (i:Int)<(t:Int):=by omega
     obtain rfl:i=t:=by omega
     rw[Nat.sub_self] at hbe;simp only[bend] at hbe;rw[← hbe];refine qd (by simp only[slimL,slim1,List.map_cons,List.map_nil,List.getElem?_toArray,List.getElem?_cons_succ,List.getElem?_cons_zero,Option.bind_some];rfl) ?_
     refine qh 9 (by simp only[go_sem,srcB,bxT,resB,outB,rowsB,tabD,hlt];rfl) ?_
     refine qf (qe ?_);refine qpd (by simp only[go_sem]) ?_
     refine qvw ?_;refine qer (qbm (qvj ?_));refine qe ?_;refine qi ?_;refine qd (by simp only[slimL,slim1,List.map_cons,List.map_nil];rfl) ?_
     refine qh 2 (by simp only[go_sem,bH_2,bH_3];rfl) ?_
     refine qf (qe ?_);refine qqc ?_;refine qkyb (.inr rfl) (rs:=[.cell 6 30]) rfl (by simp only[go_sem]) rfl rfl (fun i h=>?_)
     rw[qrn,if_neg (by omega)]
     exact qay _ _ _ _ _ R h
end Go.Proofs.YtnfecjmddbehiaaGreat

namespace Go.Proofs.YtnfecjmddbehiaaGreat
open Go Am
set_option maxRecDepth 100000
variable {G:Glob}
theorem qlv (l:List Int):∀ (t:Nat) (R:List (List Int)) (q:Nat),(bend l t R q).1.length=R.length
 | 0,R,q=>rfl
 | t+1,R,q=>by
  unfold bend;rw[qlv l t];exact List.length_set
theorem qkx (l:List Int) {m:Nat}:∀ (t:Nat) (R:List (List Int)) (q:Nat),(∀ r∈R,r.length=m)→∀ r∈(bend l t R q).1,r.length=m
 | 0,R,q,h=>h
 | t+1,R,q,h=>by
  unfold bend;refine qkx l t _ _ fun r hr=>?_
  obtain ⟨i,hi,rfl⟩:=List.getElem_of_mem hr;rw[List.length_set] at hi;rw[List.getElem_set]
  split
  · rename_i e;rw[List.length_set];subst e;rw[List.getD_eq_getElem?_getD,List.getElem?_eq_getElem hi];exact h _ (List.getElem_mem hi)
  · exact h _ (List.getElem_mem hi)
theorem qfcb (l:List Int):∀ (t:Nat) (R:List (List Int)) (q:Nat),q≤l.length→(bend l t R q).2≤l.length
 | 0,R,q,h=>h
 | t+1,R,q,h=>by
  unfold bend;exact qfcb l t _ _ (qno l (qno l (qno l h)))
theorem qcy (l:List Int) {m:Nat} (h0:0<m) (h1:m<1000000):∀ (t:Nat) (R:List (List Int)) (q:Nat),R.length=m→(∀ r∈R,∀ x∈r,0≤x∧x<(m:Int))→∀ r∈(bend l t R q).1,∀ x∈r,0≤x∧x<(m:Int)
 | 0,R,q,_,h=>h
 | t+1,R,q,hl,h=>by
  unfold bend;refine qcy l h0 h1 t _ _ (by rw[List.length_set];exact hl) fun r hr x hx=>?_
  have hv:=qxpb l (nF l (nF l q R.length).2 R.length).2 (n:=R.length) (by omega) (by omega)
  rw[hl] at hv hr;rcases List.mem_or_eq_of_mem_set hr with hr|rfl
  · exact h r hr x hx
  · rcases List.mem_or_eq_of_mem_set hx with hx|rfl
    · refine h _ ?_ x hx;rw[List.getD_eq_getElem?_getD] at hx ⊢;cases e:R[(nF l q ↑m).1.toNat]? with
      | none=>rw[e] at hx;simp at hx
      | some r=>exact List.mem_of_getElem? e
    · exact hv
structure BentOK (rows:List (List Int)) (t:Int) (l:List Int) (p:Int):Prop where
 hl:l.length<1000000
 p0:0≤p
 hp:p≤l.length
 t0:0≤t
 ht:t<1000000
 n0:0<rows.length
 n:rows.length≤16
 row:∀ r∈rows,r.length=rows.length
def bentB (rows:List (List Int)) (t:Int) (l:List Int) (p:Int):Bool:=decide (l.length<1000000)&&(decide (0≤p)&&(decide (p≤l.length)&&(decide (0≤t)&&(decide (t<1000000)&&(decide (0<rows.length)&&(decide (rows.length≤16)&&rows.all fun r=>decide (r.length=rows.length)))))))
theorem qtp {rows:List (List Int)} {t:Int} {l:List Int} {p:Int}:bentB rows t l p=true↔BentOK rows t l p:=by
 simp only[bentB,Bool.and_eq_true,decide_eq_true_eq,List.all_eq_true]
 constructor
 · rintro ⟨h1,h2,h3,h4,h5,h6,h7,h8⟩;exact ⟨h1,h2,h3,h4,h5,h6,h7,h8⟩
 · rintro ⟨h1,h2,h3,h4,h5,h6,h7,h8⟩;exact ⟨h1,h2,h3,h4,h5,h6,h7,h8⟩
def bentE:PF:=fun a=>match a with
 | [.int .i64 x,.sl d,.int .i64 t,.sl dl,.int .i64 p]=>match decR d,decL dl with
  | some rows,some l=>if bentB rows t l p=true then some [.int .i64 x,tabD (bend l t.toNat rows p.toNat).1,numsD l,.int .i64 ((bend l t.toNat rows p.toNat).2:Nat)] else none
  | _,_=>none
 | _=>none
theorem qrm {a o:List D} (h:bentE a=some o):∃ (x:Int) (rows:List (List Int)) (t:Int) (l:List Int) (p:Int),a=[.int .i64 x,tabD rows,.int .i64 t,numsD l,.int .i64 p]∧BentOK rows t l p∧o=[.int .i64 x,tabD (bend l t.toNat rows p.toNat).1,numsD l,.int .i64 ((bend l t.toNat rows p.toNat).2:Nat)]:=by
 unfold bentE at h
 split at h
 · rename_i x d t dl p
   split at h
   · rename_i rows l hd hl
     split at h
     · rename_i hb;refine ⟨x,rows,t,l,p,?_,qtp.1 hb,(Option.some.inj h).symm⟩;rw[qjt hd,qlk hl];rfl
     · cases h
   · cases h
 · cases h
theorem qwfb (x:Int) (rows:List (List Int)) (t:Nat) (l:List Int) (p:Nat) (h:BentOK rows t l p):bentE [.int .i64 x,tabD rows,.int .i64 (t:Int),numsD l,.int .i64 (p:Int)]=some [.int .i64 x,tabD (bend l t rows p).1,numsD l,.int .i64 ((bend l t rows p).2:Nat)]:=by
 show (match decR (rows.map fun r=>[numsD r]),decL (l.map numR) with
  | some rows,some l=>if bentB rows t l p=true then some [D.int .i64 x,tabD (bend l (t:Int).toNat rows (p:Int).toNat).1,numsD l,.int .i64 ((bend l (t:Int).toNat rows (p:Int).toNat).2:Nat)] else none
  | _,_=>none)=_
 rw[qmo,qoo];simp only;rw[if_pos (qtp.2 h),Int.toNat_natCast,Int.toNat_natCast]
theorem qtw {a o:List D} (h:bentE a=some o):EWF o:=by
 obtain ⟨x,rows,t,l,p,_,_,rfl⟩:=qrm h;intro d hd;simp only[List.mem_cons,List.not_mem_nil,or_false] at hd;rcases hd with rfl|rfl|rfl|rfl
 · exact .int _ _
 · exact qhs _
 · exact qcl _
 · exact .int _ _
def besg:Sig:=⟨13,5,[⟨false,false,56,2,(.c (.sl [])),[[(.atm (.v 3)),(.atm (.v 4))]]⟩],[(.ptr 0 0 0),(.agg [(.atm (.v 0)),(.atm (.v 1))]),(.atm (.v 2))],4,[⟨false,false,56,2,(.c (.sl [])),[[(.atm (.v 2)),(.atm (.v 3))]]⟩],(.agg [(.atm (.v 0)),(.atm (.v 1))]),true,[]⟩
theorem qgbb:SigOK Tryz.prog G bentE besg:=by
 intro ins outs hwf hl hsl hr hno;have hw:=qtw hr;obtain ⟨x,rows,t,l,p,rfl,h,rfl⟩:=qrm hr;refine ⟨hw,?_,fun i hi=>by simp[besg,inL] at hi⟩
 obtain ⟨t,rfl⟩:=Int.eq_ofNat_of_zero_le h.t0;obtain ⟨p,rfl⟩:=Int.eq_ofNat_of_zero_le h.p0;have h1:(p:Int)≤l.length:=h.hp;have h2:(t:Int)<1000000:=h.ht;exact qgwb (G:=G) l p x rows t h.hl (by omega) (by omega) h.n0 h.n h.row
end Go.Proofs.YtnfecjmddbehiaaGreat
