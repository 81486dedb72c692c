/- What functions of the program compute: lemmas. -/
import Derived.Test.YtoalfckdmoahoaaGreatDoorWd
import Derived.Test.YtoalfckdmoahoaaGreatDoorMg
import Derived.Test.YtoalfckdmoahoaaGreatDoorAm8
import Derived.Test.YtoalfckdmoahoaaGreatDoorAm7
import Derived.Test.YtoalfckdmoahoaaGreatDoorBc
set_option linter.unusedSimpArgs false
set_option linter.unusedVariables false
set_option linter.unusedSectionVars false
namespace Go.Proofs.YtoalfckdmoahoaaGreatDoor
open Go Am
set_option maxRecDepth 100000
end Go.Proofs.YtoalfckdmoahoaaGreatDoor

namespace Go.Proofs.YtoalfckdmoahoaaGreatDoor
open Go Am
set_option maxRecDepth 100000
def mkV (l:List OO) (kind:Int):List D:=if mkE l kind=0 then [.int .i64 ((nam0 l).length:Int),tabD (mkT kind l (2^(2^(nam0 l).length))),.int .i64 0] else [.int .i64 0,.sl [],.int .i64 (mkE l kind)]
end Go.Proofs.YtoalfckdmoahoaaGreatDoor

namespace Go.Proofs.YtoalfckdmoahoaaGreatDoor
open Go Am
set_option maxRecDepth 100000
theorem qsgb (a:Int) (t:D):run tb 31 [.int .i64 a,t]=some [.int .i64 (if a=1 then 2 else if a=2 then 4 else 0),.int .i64 (szT a:Int)]:=by
 refine qg (x:=ir31) rfl ?_;unfold szT
 by_cases h1:a=1
 · simp only[ir31,qc,qb,eq_self,aBin,reduceIte,Int.reduceEq,h1,if_true]
 · by_cases h2:a=2
   · simp only[ir31,qc,qb,eq_self,aBin,Int.reduceEq,h2,Int.reduceEq,if_true,if_false]
   · simp only[ir31,qc,qb,eq_self,aBin,reduceIte,h1,h2,if_false]
end Go.Proofs.YtoalfckdmoahoaaGreatDoor

namespace Go.Proofs.YtoalfckdmoahoaaGreatDoor
open Go Am
set_option maxRecDepth 100000
section
variable {a:Int} {rows:List (List Int)} (hv:Vld a rows) {k f g:BitVec 64} (hk:k.toNat<szT a) (hf:f.toNat<szT a) (hg:g.toNat<szT a)
include hv hk hf hg
end
end Go.Proofs.YtoalfckdmoahoaaGreatDoor

namespace Go.Proofs.YtoalfckdmoahoaaGreatDoor
open Go Am
set_option maxRecDepth 100000
end Go.Proofs.YtoalfckdmoahoaaGreatDoor

namespace Go.Proofs.YtoalfckdmoahoaaGreatDoor
open Go Am
set_option maxRecDepth 100000
end Go.Proofs.YtoalfckdmoahoaaGreatDoor

namespace Go.Proofs.YtoalfckdmoahoaaGreatDoor
open Go Am Go.Proofs Go.RowKit
set_option maxRecDepth 100000
set_option maxHeartbeats 2000000
variable {G:Glob}
end Go.Proofs.YtoalfckdmoahoaaGreatDoor

namespace Go.Proofs.YtoalfckdmoahoaaGreatDoor
open Go Am Go.Proofs Go.RowKit
set_option maxRecDepth 100000
set_option maxHeartbeats 2000000
variable {G:Glob}
def rowB (r:List Int):Blk:={ fz:=false,ap:=true,ty:=3,sz:=1,rows:=(r.map numR).map fun x=>x.map AV.d }
section
variable (f0 f1 f2 f3 f4:Option Blk) (R:List (List Int))
end
end Go.Proofs.YtoalfckdmoahoaaGreatDoor

namespace Go.Proofs.YtoalfckdmoahoaaGreatDoor
open Go Am
set_option maxRecDepth 100000
variable {G:Glob}
structure BentOK (rows:List (List Int)) (t:Int) (l:List Int) (p:Int):Prop where
 hl:l.length<1000000
 p0:0≤p
 hp:p≤l.length
 t0:0≤t
 ht:t<1000000
 n0:0<rows.length
 n:rows.length≤16
 row:∀ r∈rows,r.length=rows.length
end Go.Proofs.YtoalfckdmoahoaaGreatDoor

namespace Go.Proofs.YtoalfckdmoahoaaGreatDoor
open Go Am
set_option maxRecDepth 100000
theorem qzi {n:Int} {rows:List (List Int)} (hv:Vld n rows):rows.length<9223372036854775808∧∀ r∈rows,r.length<9223372036854775808:=by
 have:=qn n;exact ⟨by rw[hv.len];omega,fun r hr=>by rw[hv.row r hr];omega⟩
end Go.Proofs.YtoalfckdmoahoaaGreatDoor

namespace Go.Proofs.YtoalfckdmoahoaaGreatDoor
open Go Am
set_option maxRecDepth 100000
theorem qcs (a:Int) (rows:List (List Int)) (hl:rows.length<9223372036854775808) (hr:∀ r∈rows,r.length<9223372036854775808):run tb 13 [.int .i64 a,tabD rows]=some [.int .i64 (if vldB a rows=true then 0 else 1)]:=by
 refine qg (x:=ir13) rfl ?_;have hsz:=qsgb a (tabD rows);have hlT:=qya rows
 by_cases ha:a=1∨a=2
 · have hS:0<szT a∧szT a≤16:=by rcases ha with rfl|rfl<;>decide
   rw[qceb ha];obtain ⟨S,hSS⟩:∃ S,S=szT a:=⟨_,rfl⟩;rw[← hSS] at hsz hS ⊢;have hS0:((S:Int) == 0)=false:=by simp;omega
   by_cases hlen:(rows.length:Int)=(S:Int)
   · have hlen':rows.length=S:=by omega
     have e:(if (!(decide ((rows.length:Int)≠(S:Int)) || rows.any (badR (S:Int))))=true then (0:Int) else 1)=if (rows.drop 0).any (badR (S:Int))=true then 1 else 0:=by
      rw[decide_eq_false (fun h=>h hlen),Bool.false_or,List.drop_zero]
      cases rows.any (badR (S:Int))<;>rfl
     rw[e];have hne:((rows.length:Int) != (S:Int))=false:=by simp[hlen]
     simp (disch:=omega) only[ir13,ir13p3,qc,qb,eq_self,aBin,reduceIte,hsz,hS0,hlT,hne];refine qcb (σ:=Unit) S (fun _ _=>True) (fun k _=>[.int .i64 k]) (fun k _=>[.int .i64 (if (rows.drop k).any (badR (S:Int))=true then 1 else 0)]) ?_ ?_ 0 () (Nat.zero_le _) trivial
     · rintro k _ L hk _ hL;have hnext:=hL () trivial;have hk1:k<rows.length:=by omega
       have hk':(k:Int)<(S:Int):=by omega
       have hrow:=qdub hk1;have hlr:=qge rows[k];have hdr:(rows.drop k).any (badR (S:Int))=(badR (S:Int) rows[k] || (rows.drop (k+1)).any (badR (S:Int))):=by rw[List.drop_eq_getElem_cons hk1,List.any_cons]
       rw[hdr]
       by_cases hrl:(rows[k].length:Int)=(S:Int)
       · have hb : badR (S : Int) rows[k] = (rows[k].drop 0).any (badS (S : Int)) := by
          unfold badR;rw[decide_eq_false (fun h=>h hrl),Bool.false_or,List.drop_zero]
         rw[hb];have hne2:((rows[k].length:Int) != (S:Int))=false:=by simp[hrl]
         simp (disch:=omega) only[ir13p2,qc,qb,eq_self,aBin,reduceIte,hk',hrow,hlr,hne2];refine qcb (σ:=Unit) S (fun _ _=>True) (fun f _=>[.int .i64 f]) (fun f _=>[.int .i64 (if ((rows[k].drop f).any (badS (S:Int)) || (rows.drop (k+1)).any (badR (S:Int)))=true then 1 else 0)]) ?_ ?_ 0 () (Nat.zero_le _) trivial
         · rintro f _ M hf _ hM;have hnx:=hM () trivial;have hf1:f<rows[k].length:=by omega
           have hf':(f:Int)<(S:Int):=by omega
           have hcell:=qpf hf1;have hd2:(rows[k].drop f).any (badS (S:Int))=(badS (S:Int) rows[k][f] || (rows[k].drop (f+1)).any (badS (S:Int))):=by rw[List.drop_eq_getElem_cons hf1,List.any_cons]
           rw[hd2];generalize rows[k][f]=x at *
           by_cases c1:x<0
           · have hb2:badS (S:Int) x=true:=by unfold badS;rw[decide_eq_true c1];rfl
             rw[hb2,Bool.true_or,Bool.true_or,if_pos rfl];simp (disch:=omega) only[ir13p1,ir13p0,qc,qb,eq_self,aBin,reduceIte,hf',hrow,hcell,c1]
           · by_cases c2:x≥(S:Int)
             · have hb2:badS (S:Int) x=true:=by unfold badS;rw[decide_eq_true c2,Bool.or_true]
               rw[hb2,Bool.true_or,Bool.true_or,if_pos rfl];simp (disch:=omega) only[ir13p1,ir13p0,qc,qb,eq_self,aBin,reduceIte,hf',hrow,hcell,c1,c2]
             · have hb2:badS (S:Int) x=false:=by unfold badS;rw[decide_eq_false c1,decide_eq_false c2];rfl
               rw[hb2,Bool.false_or];simp (disch:=omega) only[ir13p1,ir13p0,qc,qb,eq_self,aBin,reduceIte,hf',hrow,hcell,c1,c2,wr,natS,hnx]
         · rintro _ M _;have:rows[k].drop S=[]:=List.drop_eq_nil_of_le (by omega)
           rw[this,List.any_nil,Bool.false_or];simp (disch:=omega) only[ir13p1,qc,qb,eq_self,aBin,reduceIte,Int.lt_irrefl,wr,natS,hnext]
       · have hb:badR (S:Int) rows[k]=true:=by unfold badR;rw[decide_eq_true hrl];rfl
         rw[hb,Bool.true_or,if_pos rfl];have hne2:((rows[k].length:Int) != (S:Int))=true:=by simp[hrl]
         simp (disch:=omega) only[ir13p2,qc,qb,eq_self,aBin,reduceIte,hk',hrow,hlr,hne2]
     · rintro _ L _;have:rows.drop S=[]:=List.drop_eq_nil_of_le (by omega)
       rw[this,List.any_nil,show (if (false:Bool)=true then (1:Int) else 0)=0 from rfl]
       simp (disch:=omega) only[ir13p2,qc,qb,eq_self,aBin,reduceIte,Int.lt_irrefl]
   · rw[decide_eq_true hlen,Bool.true_or,if_neg (by decide)]
     have hne:((rows.length:Int) != (S:Int))=true:=by simp[hlen]
     simp (disch:=omega) only[ir13,ir13p3,qc,qb,eq_self,aBin,reduceIte,hsz,hS0,hlT,hne]
 · have e:vldB a rows=false:=Bool.eq_false_iff.2 fun h=>ha (qrg.1 h).at_
   have hS:szT a=0:=by unfold szT;rw[if_neg (fun h=>ha (.inl h)),if_neg (fun h=>ha (.inr h))]
   rw[e,show (if (false:Bool)=true then (0:Int) else 1)=1 from rfl]
   rw[hS] at hsz;have hsz:run tb 31 [.int .i64 a,tabD rows]=some [.int .i64 (if a=1 then 2 else if a=2 then 4 else 0),.int .i64 0]:=hsz
   simp (disch:=omega) only[ir13,ir13p3,qc,qb,eq_self,aBin,reduceIte,hsz]
end Go.Proofs.YtoalfckdmoahoaaGreatDoor
