/- What functions of the program compute: lemmas. -/
import Derived.Test.YtoalfckdmoahoaaGreatDoorSb1
import Derived.Test.YtoalfckdmoahoaaGreatDoorSaTy
import Derived.Test.YtoalfckdmoahoaaGreatDoorAm3
import Derived.Test.YtoalfckdmoahoaaGreatDoorAm8
import Derived.Test.YtoalfckdmoahoaaGreatDoorAm4
import Derived.Shelf.Abstract
import Derived.KernelRfl
set_option linter.unusedSimpArgs false
set_option linter.unusedVariables false
set_option linter.unusedSectionVars false
namespace Go.Proofs.YtoalfckdmoahoaaGreatDoor
open Go Am Go.Proofs Go.RowKit
set_option maxRecDepth 100000
set_option maxHeartbeats 2000000
abbrev iA (n:Int):AV:=.d (.int .i64 n)
abbrev fnA (f:FuncId):D:=.raw (.func (.func f) #[] #[])
def pstD (l:List (Bool × FuncId)):D:=.sl (l.map fun p=>[.bool p.1,fnA p.2])
def blkP (b:Bool) (f:FuncId):Blk:={ fz:=false,ap:=false,ty:=116,sz:=2,rows:=[[.d (.bool b),.d (fnA f)]] }
def blkB (b:Brc):Blk:={ fz:=false,ap:=false,ty:=51,sz:=4,rows:=[[iA b.1,iA b.2.1,iA b.2.2.1,iA b.2.2.2]] }
theorem wrN {x:Nat} (h:x≤1000000):IntKind.i64.wrap (x:Int)=(x:Int):=wr (by omega) (by omega)
theorem qetb (H:Heap) (l:List (Bool × FuncId)) (a A:Int) (rows:List (List Int)) (h:Nat→Nat→Nat→Nat→Bool) (hl:l.length≤100) (hN0:0<rows.length) (hN:rows.length≤16)
 (hc:∀ i (hi:i<l.length) (k f g:Nat),k<rows.length→f<rows.length→g<rows.length→CC Tryz.prog (fun _=>none) (l[i]).2 [] [.agg [iA A,.d (tabD rows)],iA k,iA f,iA g] [] (.d (.bool (h i k f g)))) :
 SeqAV Tryz.prog 60 [.eptr [pstD l],.eptr [.int .i64 a,tabD rows],.eptr [.int .i64 A,tabD rows]] H
  ((upI (fun i n=>h i (n / (if (l.getD i (true,0)).1 then 1 else rows.length) / rows.length) (n / (if (l.getD i (true,0)).1 then 1 else rows.length) % rows.length) (n % (if (l.getD i (true,0)).1 then 1 else rows.length))) rows.length (fun i=>if (l.getD i (true,0)).1 then 1 else rows.length) l.length).map brA):=by
 obtain ⟨sec,hsec⟩:∃ sec:Nat→Nat,sec=fun i=>if (l.getD i (true,0)).1 then 1 else rows.length:=⟨_,rfl⟩
 obtain ⟨hh,hhh⟩:∃ hh:Nat→Nat→Bool,hh=fun i n=>h i (n / sec i / rows.length) (n / sec i % rows.length) (n % sec i):=⟨_,rfl⟩
 have e1:(fun i n=>h i (n / (if (l.getD i (true,0)).1 then 1 else rows.length) / rows.length) (n / (if (l.getD i (true,0)).1 then 1 else rows.length) % rows.length) (n % (if (l.getD i (true,0)).1 then 1 else rows.length)))=hh:=by rw[hhh,hsec]
 rw[e1,← hsec];have hsec':∀ i,sec i=if (l.getD i (true,0)).1 then 1 else rows.length:=fun i=>by rw[hsec]
 have hs0:∀ i,0<sec i:=fun i=>by rw[hsec'];split<;>omega
 have hs1:∀ i,sec i≤16:=fun i=>by rw[hsec'];split<;>omega
 clear e1 hsec;have hlD:([.sl (l.map fun p=>[D.bool p.1,fnA p.2])]:List D)=[pstD l]:=rfl
 refine SeqAV.intro (c:=_) (caps:=[[pstD l],[.int .i64 a,tabD rows],[.int .i64 A,tabD rows]]) (ys:=(upI hh rows.length sec l.length).map brV) (n0:=73) Tryz.func60 rfl (enters_of Tryz.func60 (by kernel_rfl) rfl) (by simp) (fun w C ρ k h1 h2=>?_) Tryz.ntmps60 (Nat.le_of_ble_eq_true rfl) rfl ?_
 · simp only[List.getElem_map];exact qpyb _ _ _ _ _
 intro w C0 y J Jx hab habx hy a0 W0 hi0
 have hy':∀ k (hk:k<(upI hh rows.length sec l.length).length) X W,J k X W→YieldAt (Fe none) 3 Tryz.prog y ⟨brV (upI hh rows.length sec l.length)[k]⟩ W fun e W'=>((e = .returned (.bool true)∧J (k+1) X W')∨(e = .returned (.bool false)∧Jx X W'))∧∀ r,X r→W'.heap[r]? = W.heap[r]?:=fun k hk X W hj=>by
  have:=hy k (by simpa using hk) X W hj
  simpa using this
 clear hy;refine wpIn_seq ?_;refine qbf (K:=fun e s=>e = .normal∧s=⟨tl [.d (.raw (.func (.yield y) #[] #[])),.eptr [pstD l],.eptr [.int .i64 a,tabD rows],.eptr [.int .i64 A,tabD rows],.junk,.junk,.junk,.junk,.junk,.junk,.d (pstD l),iA l.length,iA 0],Am.hl [],0,73⟩) rfl (hab 0).grow hi0 ?_ ?_
 · refine qa (by simp only[slimL,slim1,List.map_cons,List.map_nil];rfl) ?_
   refine qe 3 (by simp only[go_sem,pstD,tabD,List.length_map];rfl) ?_
   refine qf ⟨_,.refl _ _,_,Le.cut (Nat.le_of_ble_eq_true rfl) (.keep rfl rfl (.keep rfl rfl (.keep rfl rfl (.keep rfl rfl (.junk (.junk (.junk (.junk (.junk (.junk (.keep rfl rfl (.keep rfl rfl (.keep rfl rfl (.nil _)))))))))))))) rfl (.nil _ _) rfl,FullS.hl rfl rfl,rfl,rfl⟩
 rintro _ _ a1 W1 ⟨rfl,rfl⟩ hi1;refine wpIn_block ?_;refine qao (ι:=Nat) (fun i b9 W9=>i≤l.length∧InvYE (fun _=>none) C0 (J (upI hh rows.length sec i).length) ⟨tl [.d (.raw (.func (.yield y) #[] #[])),.eptr [pstD l],.eptr [.int .i64 a,tabD rows],.eptr [.int .i64 A,tabD rows],.junk,.junk,.junk,.junk,.junk,.junk,.d (pstD l),iA l.length,iA (i:Int)],Am.hl [],0,73⟩ b9 W9) (fun i=>l.length-i) ?_ 0 a1 W1 ⟨Nat.zero_le _,hi1⟩
 rintro i a2 W2 ⟨hil,hi2⟩;refine wpIn_seq ?_;refine qbf (K:=fun e s=>e = .normal∧s=⟨tl [.d (.raw (.func (.yield y) #[] #[])),.eptr [pstD l],.eptr [.int .i64 a,tabD rows],.eptr [.int .i64 A,tabD rows],.junk,.junk,.junk,.junk,.junk,.junk,.d (pstD l),iA l.length,iA (i:Int),.d (.bool (decide ((i:Int)<(l.length:Int))))],Am.hl [],0,73⟩) rfl (hab _).grow hi2 ?_ ?_
 · refine qa (by simp only[slimL,slim1,List.map_cons,List.map_nil];rfl) ?_
   refine qe 1 (by simp only[go_sem,pstD,tabD];rfl) ?_
   refine qf ⟨_,.refl _ _,_,Le.cut (Nat.le_of_ble_eq_true rfl) (.keep rfl rfl (.keep rfl rfl (.keep rfl rfl (.keep rfl rfl (.junk (.junk (.junk (.junk (.junk (.junk (.keep rfl rfl (.keep rfl rfl (.keep rfl rfl (.keep rfl rfl (.nil _))))))))))))))) rfl (.nil _ _) rfl,FullS.hl rfl rfl,rfl,rfl⟩
 rintro _ _ a3 W3 ⟨rfl,rfl⟩ hi3;refine wpIn_seq ?_;refine qfeb hi3 (b:=decide ((i:Int)<(l.length:Int))) rfl (fun c0=>?_) (fun c0=>?_)
 · refine wpIn_skip ?_;have hi:i<l.length:=by simpa using c0
   have hrow:(l.map fun p=>[D.bool p.1,fnA p.2])[i]? = some [.bool (l[i]).1,fnA (l[i]).2]:=by simp[hi]
   have hg:l.getD i (true,0)=l[i]:=by simp[hi]
   have hse:=hsec' i;rw[hg] at hse
   have w1:IntKind.i64.wrap ((rows.length:Int)*(rows.length:Int))=((rows.length*rows.length:Nat):Int):=by
    have:rows.length*rows.length≤16*16:=Nat.mul_le_mul hN hN;rw[← Int.natCast_mul];exact wr (by omega) (by omega)
   have hcnt:rows.length*rows.length*sec i≤16*16*16:=Nat.mul_le_mul (Nat.mul_le_mul hN hN) (hs1 i)
   have w2:IntKind.i64.wrap (((rows.length*rows.length:Nat):Int)*(sec i:Int))=((rows.length*rows.length*sec i:Nat):Int):=by
    rw[← Int.natCast_mul];exact wr (by omega) (by omega)
   have p1:IntKind.i64.wrap ((i:Int)+1)=((i+1:Nat):Int):=by rw[wr (by omega) (by omega)];rfl
   refine wpIn_seq ?_;refine wpIn_block ?_;refine wpIn_seq ?_;refine qbf (K:=fun e s=>e = .normal∧s=⟨tl [.d (.raw (.func (.yield y) #[] #[])),.eptr [pstD l],.eptr [.int .i64 a,tabD rows],.eptr [.int .i64 A,tabD rows],.junk,iA (i:Int),.ptr 0 1 0 0,.junk,.junk,.junk,.d (pstD l),iA l.length,iA (i:Int)],Am.hl [some (blkP (l[i]).1 (l[i]).2)],1,73⟩) rfl (hab _).grow hi3 ?_ ?_
   · refine qa (by simp only[slimL,slim1,List.map_cons,List.map_nil];rfl) ?_
     refine qe 6 (by simp only[go_sem,pstD,tabD,hrow,Int.natCast_nonneg];rfl) ?_
     refine qf ⟨_,.refl _ _,_,Le.cut (Nat.le_of_ble_eq_true rfl) (.keep rfl rfl (.keep rfl rfl (.keep rfl rfl (.keep rfl rfl (.junk (.keep rfl rfl (.keep rfl rfl (.junk (.junk (.junk (.keep rfl rfl (.keep rfl rfl (.keep rfl rfl (.nil _)))))))))))))) rfl (.cons rfl (.nil _ _)) rfl,FullS.hl rfl rfl,rfl,rfl⟩
   rintro _ _ a4 W4 ⟨rfl,rfl⟩ hi4;refine wpIn_seq ?_;refine qbf (K:=fun e s=>e = .normal∧s=⟨tl [.d (.raw (.func (.yield y) #[] #[])),.eptr [pstD l],.eptr [.int .i64 a,tabD rows],.eptr [.int .i64 A,tabD rows],.junk,iA (i:Int),.ptr 0 1 0 0,iA (rows.length:Int),.junk,.junk,.d (pstD l),iA l.length,iA (i:Int)],Am.hl [some (blkP (l[i]).1 (l[i]).2)],1,73⟩) rfl (hab _).grow hi4 ?_ ?_
   · refine qa (by simp only[slimL,slim1,List.map_cons,List.map_nil];rfl) ?_
     refine qe 4 (by simp only[go_sem,pstD,tabD,List.length_map,blkP];rfl) ?_
     refine qf ⟨_,.refl _ _,_,Le.cut (Nat.le_of_ble_eq_true rfl) (.keep rfl rfl (.keep rfl rfl (.keep rfl rfl (.keep rfl rfl (.junk (.keep rfl rfl (.keep rfl rfl (.keep rfl rfl (.junk (.junk (.keep rfl rfl (.keep rfl rfl (.keep rfl rfl (.nil _)))))))))))))) rfl (.cons rfl (.nil _ _)) rfl,FullS.hl rfl rfl,rfl,rfl⟩
   rintro _ _ a5 W5 ⟨rfl,rfl⟩ hi5;refine wpIn_seq ?_;refine qbf (K:=fun e s=>e = .normal∧s=⟨tl [.d (.raw (.func (.yield y) #[] #[])),.eptr [pstD l],.eptr [.int .i64 a,tabD rows],.eptr [.int .i64 A,tabD rows],.junk,iA (i:Int),.ptr 0 1 0 0,iA (sec i:Int),.junk,.junk,.d (pstD l),iA l.length,iA (i:Int)],Am.hl [some (blkP (l[i]).1 (l[i]).2)],1,73⟩) rfl (hab _).grow hi5 ?_ ?_
   · refine qh ?_;refine qa (by simp only[slimL,slim1,List.map_cons,List.map_nil];rfl) ?_
     refine qe 2 (by simp only[go_sem,pstD,tabD,blkP];rfl) ?_
     refine qf (qd ?_);refine qtc (by simp only[go_sem];rfl) (fun c1=>?_) (fun c1=>?_)
     · rw[if_pos c1] at hse;refine qa (by simp only[slimL,slim1,List.map_cons,List.map_nil];rfl) ?_
       refine qe 1 (by simp only[go_sem];rfl) ?_
       refine qf ⟨_,.refl _ _,_,Le.cut (Nat.le_of_ble_eq_true rfl) (.keep rfl rfl (.keep rfl rfl (.keep rfl rfl (.keep rfl rfl (.junk (.keep rfl rfl (.keep rfl rfl (.keepE (by simp only[go_sem];rfl) (by rw[hse];rfl) rfl (.junk (.junk (.keep rfl rfl (.keep rfl rfl (.keep rfl rfl (.nil _)))))))))))))) rfl (.cons rfl (.nil _ _)) rfl,FullS.hl rfl rfl,rfl,rfl⟩
     · rw[if_neg (by rw[c1];simp)] at hse
       refine qqc ⟨_,.refl _ _,_,Le.cut (Nat.le_of_ble_eq_true rfl) (.keep rfl rfl (.keep rfl rfl (.keep rfl rfl (.keep rfl rfl (.junk (.keep rfl rfl (.keep rfl rfl (.keepE (by simp only[go_sem];rfl) (by rw[hse]) rfl (.junk (.junk (.keep rfl rfl (.keep rfl rfl (.keep rfl rfl (.nil _)))))))))))))) rfl (.cons rfl (.nil _ _)) rfl,FullS.hl rfl rfl,rfl,rfl⟩
   rintro _ _ a6 W6 ⟨rfl,rfl⟩ hi6;refine wpIn_seq ?_;refine qbf (K:=fun e s=>e = .normal∧s=⟨tl [.d (.raw (.func (.yield y) #[] #[])),.eptr [pstD l],.eptr [.int .i64 a,tabD rows],.eptr [.int .i64 A,tabD rows],.junk,iA (i:Int),.ptr 0 1 0 0,iA (sec i:Int),.junk,.junk,.d (pstD l),iA l.length,iA (i:Int),.junk,.junk,.junk,.junk,.junk,.junk,.junk,.junk,.junk,.junk,.junk,.junk,.junk,.junk,.junk,.junk,.junk,iA ((rows.length*rows.length*sec i:Nat):Int),iA 0],Am.hl [some (blkP (l[i]).1 (l[i]).2)],1,73⟩) rfl (hab _).grow hi6 ?_ ?_
   · refine qa (by simp only[slimL,slim1,List.map_cons,List.map_nil];rfl) ?_
     refine qe 10 (by simp only[go_sem,pstD,tabD,List.length_map,w1,w2];rfl) ?_
     refine qf ⟨_,.refl _ _,_,Le.cut (Nat.le_of_ble_eq_true rfl) (.keep rfl rfl (.keep rfl rfl (.keep rfl rfl (.keep rfl rfl (.junk (.keep rfl rfl (.keep rfl rfl (.keep rfl rfl (.junk (.junk (.keep rfl rfl (.keep rfl rfl (.keep rfl rfl (.junk (.junk (.junk (.junk (.junk (.junk (.junk (.junk (.junk (.junk (.junk (.junk (.junk (.junk (.junk (.junk (.junk (.keep rfl rfl (.keep rfl rfl (.nil _))))))))))))))))))))))))))))))))) rfl (.cons rfl (.nil _ _)) rfl,FullS.hl rfl rfl,rfl,rfl⟩
   rintro _ _ a7 W7 ⟨rfl,rfl⟩ hi7;refine wpIn_block ?_;refine qao (ι:=Nat) (fun n b9 W9=>n≤rows.length*rows.length*sec i∧InvYE (fun _=>none) C0 (J (upI hh rows.length sec i++upN hh rows.length (sec i) i n).length) ⟨tl [.d (.raw (.func (.yield y) #[] #[])),.eptr [pstD l],.eptr [.int .i64 a,tabD rows],.eptr [.int .i64 A,tabD rows],.junk,iA (i:Int),.ptr 0 1 0 0,iA (sec i:Int),.junk,.junk,.d (pstD l),iA l.length,iA (i:Int),.junk,.junk,.junk,.junk,.junk,.junk,.junk,.junk,.junk,.junk,.junk,.junk,.junk,.junk,.junk,.junk,.junk,iA ((rows.length*rows.length*sec i:Nat):Int),iA (n:Int)],Am.hl [some (blkP (l[i]).1 (l[i]).2)],1,73⟩ b9 W9) (fun n=>rows.length*rows.length*sec i-n) ?_ 0 a7 W7 ⟨Nat.zero_le _,by rw[qinb,List.append_nil];exact hi7⟩
   rintro n a8 W8 ⟨hnl,hi8⟩;refine wpIn_seq ?_;refine qbf (K:=fun e s=>e = .normal∧s=⟨tl [.d (.raw (.func (.yield y) #[] #[])),.eptr [pstD l],.eptr [.int .i64 a,tabD rows],.eptr [.int .i64 A,tabD rows],.junk,iA (i:Int),.ptr 0 1 0 0,iA (sec i:Int),.junk,.junk,.d (pstD l),iA l.length,iA (i:Int),.junk,.junk,.junk,.junk,.junk,.junk,.junk,.junk,.junk,.junk,.junk,.junk,.junk,.junk,.junk,.junk,.junk,iA ((rows.length*rows.length*sec i:Nat):Int),iA (n:Int),.d (.bool (decide ((n:Int)<((rows.length*rows.length*sec i:Nat):Int))))],Am.hl [some (blkP (l[i]).1 (l[i]).2)],1,73⟩) rfl (hab _).grow hi8 ?_ ?_
   · refine qa (by simp only[slimL,slim1,List.map_cons,List.map_nil];rfl) ?_
     refine qe 1 (by simp only[go_sem,pstD,tabD];rfl) ?_
     refine qf ⟨_,.refl _ _,_,Le.cut (Nat.le_of_ble_eq_true rfl) (.keep rfl rfl (.keep rfl rfl (.keep rfl rfl (.keep rfl rfl (.junk (.keep rfl rfl (.keep rfl rfl (.keep rfl rfl (.junk (.junk (.keep rfl rfl (.keep rfl rfl (.keep rfl rfl (.junk (.junk (.junk (.junk (.junk (.junk (.junk (.junk (.junk (.junk (.junk (.junk (.junk (.junk (.junk (.junk (.junk (.keep rfl rfl (.keep rfl rfl (.keep rfl rfl (.nil _)))))))))))))))))))))))))))))))))) rfl (.cons rfl (.nil _ _)) rfl,FullS.hl rfl rfl,rfl,rfl⟩
   rintro _ _ a9 W9 ⟨rfl,rfl⟩ hi9;refine wpIn_seq ?_;refine qfeb hi9 (b:=decide ((n:Int)<((rows.length*rows.length*sec i:Nat):Int))) rfl (fun c2=>?_) (fun c2=>?_)
   · refine wpIn_skip ?_;have hn:n<rows.length*rows.length*sec i:=Int.ofNat_lt.1 (of_decide_eq_true c2);have hS:=hs0 i;have hS1:=hs1 i;have hd1:n / sec i<rows.length*rows.length:=(Nat.div_lt_iff_lt_mul hS).2 hn;have hd2:n / sec i / rows.length<rows.length:=(Nat.div_lt_iff_lt_mul hN0).2 hd1;have hd3:n / sec i % rows.length<rows.length:=Nat.mod_lt _ hN0;have hd5:n % sec i<sec i:=Nat.mod_lt _ hS
     have hd4:n % sec i<rows.length:=by
      rw[hsec'] at hd5 ⊢
      split at hd5
      · rw[if_pos (by assumption)];omega
      · rw[if_neg (by assumption)];exact hd5
     have hd6:n / sec i≤n:=Nat.div_le_self _ _;have hd7:n / sec i / rows.length≤n / sec i:=Nat.div_le_self _ _;have z1:((sec i:Int)=0)=False:=by simp;omega
     have z2:((rows.length:Int)=0)=False:=by simp;intro h;rw[h] at hN0;simp at hN0
     have q1:IntKind.i64.wrap ((n:Int).tdiv (sec i:Int))=((n / sec i:Nat):Int):=by
      rw[← Int.ofNat_tdiv];exact wrN (by omega)
     have q2:IntKind.i64.wrap (((n / sec i:Nat):Int).tdiv (rows.length:Int))=((n / sec i / rows.length:Nat):Int):=by
      rw[← Int.ofNat_tdiv];exact wrN (by omega)
     have q3:((n / sec i:Nat):Int).tmod (rows.length:Int)=((n / sec i % rows.length:Nat):Int):=(Int.ofNat_tmod _ _).symm;have q4:(n:Int).tmod (sec i:Int)=((n % sec i:Nat):Int):=(Int.ofNat_tmod _ _).symm;have pn:IntKind.i64.wrap ((n:Int)+1)=((n+1:Nat):Int):=by rw[wr (by omega) (by omega)];rfl
     have hb:h i (n / sec i / rows.length) (n / sec i % rows.length) (n % sec i)=hh i n:=by rw[hhh]
     have hcc:=hc i hi _ _ _ hd2 hd3 hd4;rw[hb] at hcc;refine wpIn_seq ?_;refine wpIn_block ?_;refine wpIn_seq ?_;refine qbf (K:=fun e s=>e = .normal∧s=⟨tl [.d (.raw (.func (.yield y) #[] #[])),.eptr [pstD l],.eptr [.int .i64 a,tabD rows],.eptr [.int .i64 A,tabD rows],.junk,iA (i:Int),.ptr 0 1 0 0,iA (sec i:Int),iA (n:Int),.junk,.d (pstD l),iA l.length,iA (i:Int),.junk,.junk,.junk,.junk,.junk,.junk,.junk,.junk,.junk,.junk,.junk,.junk,.junk,.junk,.junk,.junk,.junk,iA ((rows.length*rows.length*sec i:Nat):Int),iA (n:Int)],Am.hl [some (blkP (l[i]).1 (l[i]).2)],1,73⟩) rfl (hab _).grow hi9 ?_ ?_
     · refine qa (by simp only[slimL,slim1,List.map_cons,List.map_nil];rfl) ?_
       refine qe 2 (by simp only[go_sem,pstD,tabD];rfl) ?_
       refine qf ⟨_,.refl _ _,_,Le.cut (Nat.le_of_ble_eq_true rfl) (.keep rfl rfl (.keep rfl rfl (.keep rfl rfl (.keep rfl rfl (.junk (.keep rfl rfl (.keep rfl rfl (.keep rfl rfl (.keep rfl rfl (.junk (.keep rfl rfl (.keep rfl rfl (.keep rfl rfl (.junk (.junk (.junk (.junk (.junk (.junk (.junk (.junk (.junk (.junk (.junk (.junk (.junk (.junk (.junk (.junk (.junk (.keep rfl rfl (.keep rfl rfl (.nil _))))))))))))))))))))))))))))))))) rfl (.cons rfl (.nil _ _)) rfl,FullS.hl rfl rfl,rfl,rfl⟩
     rintro _ _ b1 V1 ⟨rfl,rfl⟩ hj1;refine wpIn_seq ?_;refine qbf (K:=fun e s=>e = .normal∧s=⟨tl [.d (.raw (.func (.yield y) #[] #[])),.eptr [pstD l],.eptr [.int .i64 a,tabD rows],.eptr [.int .i64 A,tabD rows],.junk,iA (i:Int),.ptr 0 1 0 0,iA (sec i:Int),iA (n:Int),.eptr (brD (mkQ rows.length (sec i) i n)),.d (pstD l),iA l.length,iA (i:Int),.junk,.junk,.junk,.junk,.junk,.junk,.junk,.junk,.junk,.junk,.junk,.junk,.junk,.junk,.junk,.junk,.junk,iA ((rows.length*rows.length*sec i:Nat):Int),iA (n:Int)],Am.hl [some (blkP (l[i]).1 (l[i]).2)],1,73⟩) rfl (hab _).grow hj1 ?_ ?_
     · refine qke (by kernel_rfl) (by simp only[slimL,slim1,List.map_cons,List.map_nil];rfl) ?_
       refine qse 22 (by simp only[go_sem,pstD,tabD,List.length_map,p1,z1,z2,q1,q2,q3,q4];rfl) ?_
       refine qqi 22 (by kernel_rfl) ?_
       exact ⟨_,Ent.box (t:=9) (b:=21) (row:=brD (mkQ rows.length (sec i) i n)) rfl rfl rfl,_,Le.cut (Nat.le_of_ble_eq_true rfl) (.keep rfl rfl (.keep rfl rfl (.keep rfl rfl (.keep rfl rfl (.junk (.keep rfl rfl (.keep rfl rfl (.keep rfl rfl (.keep rfl rfl (.keep rfl rfl (.keep rfl rfl (.keep rfl rfl (.keep rfl rfl (.junk (.junk (.junk (.junk (.junk (.junk (.junk (.junk (.junk (.junk (.junk (.junk (.junk (.junk (.junk (.junk (.junk (.keep rfl rfl (.keep rfl rfl (.nil _))))))))))))))))))))))))))))))))) rfl (.cons rfl (.nil _ _)) rfl,FullS.hl rfl rfl,rfl,rfl⟩
     rintro _ _ b2 V2 ⟨rfl,rfl⟩ hj2;cases hv:hh i n with
     | true=>
      rw[hv] at hcc;refine wpIn_seq ?_;refine qbf (K:=fun e s=>e = .normal∧s=⟨tl [.d (.raw (.func (.yield y) #[] #[])),.eptr [pstD l],.eptr [.int .i64 a,tabD rows],.eptr [.int .i64 A,tabD rows],.junk,iA (i:Int),.ptr 0 1 0 0,iA (sec i:Int),.junk,.junk,.d (pstD l),iA l.length,iA (i:Int),.junk,.junk,.junk,.junk,.junk,.junk,.junk,.junk,.junk,.junk,.junk,.junk,.junk,.junk,.junk,.junk,.junk,iA ((rows.length*rows.length*sec i:Nat):Int),iA (n:Int),.junk,.junk,.junk,.junk,.junk,.junk,.junk,.junk,.junk,.junk,.junk,.junk,.junk,.junk,.junk,.junk,.junk,.junk,.junk,.junk,.junk,.junk,.junk,.junk,.junk,.junk,.junk,.junk,.junk,.junk,.junk,.junk,.junk,.junk,.junk,.junk,.junk,.junk,.d (.bool false)],Am.hl [some (blkP (l[i]).1 (l[i]).2)],1,73⟩) rfl (hab _).grow hj2 ?_ ?_
      · refine qa (by simp only[slimL,slim1,List.map_cons,List.map_nil,List.getElem?_toArray,List.getElem?_cons_succ,List.getElem?_cons_zero,Option.bind_some];rfl) ?_
        refine qe 9 (by simp only[go_sem,pstD,tabD,blkP,brD];rfl) ?_
        refine qu rfl (by simp only[go_sem]) rfl (by simp only[go_sem];rfl) (by simp only[go_sem];rfl) ?_
        refine qfc hcc rfl rfl rfl ?_;refine qe 7 (by simp only[go_sem];rfl) ?_
        refine qf ⟨_,.refl _ _,_,Le.cut (Nat.le_of_ble_eq_true rfl) (.keep rfl rfl (.keep rfl rfl (.keep rfl rfl (.keep rfl rfl (.junk (.keep rfl rfl (.keep rfl rfl (.keep rfl rfl (.junk (.junk (.keep rfl rfl (.keep rfl rfl (.keep rfl rfl (.junk (.junk (.junk (.junk (.junk (.junk (.junk (.junk (.junk (.junk (.junk (.junk (.junk (.junk (.junk (.junk (.junk (.keep rfl rfl (.keep rfl rfl (.junk (.junk (.junk (.junk (.junk (.junk (.junk (.junk (.junk (.junk (.junk (.junk (.junk (.junk (.junk (.junk (.junk (.junk (.junk (.junk (.junk (.junk (.junk (.junk (.junk (.junk (.junk (.junk (.junk (.junk (.junk (.junk (.junk (.junk (.junk (.junk (.junk (.junk (.keep rfl rfl (.nil _)))))))))))))))))))))))))))))))))))))))))))))))))))))))))))))))))))))))) rfl (.cons rfl (.nil _ _)) rfl,FullS.hl rfl rfl,rfl,rfl⟩
      rintro _ _ b3 V3 ⟨rfl,rfl⟩ hj3;refine qfeb hj3 (b:=false) rfl (fun h=>by cases h) (fun _=>?_)
      refine wpIn_skip ?_;refine qbf (K:=fun e s=>e = .normal∧s=⟨tl [.d (.raw (.func (.yield y) #[] #[])),.eptr [pstD l],.eptr [.int .i64 a,tabD rows],.eptr [.int .i64 A,tabD rows],.junk,iA (i:Int),.ptr 0 1 0 0,iA (sec i:Int),.junk,.junk,.d (pstD l),iA l.length,iA (i:Int),.junk,.junk,.junk,.junk,.junk,.junk,.junk,.junk,.junk,.junk,.junk,.junk,.junk,.junk,.junk,.junk,.junk,iA ((rows.length*rows.length*sec i:Nat):Int),iA ((n+1:Nat):Int)],Am.hl [some (blkP (l[i]).1 (l[i]).2)],1,73⟩) rfl (hab _).grow hj3 ?_ ?_
      · refine qa (by simp only[slimL,slim1,List.map_cons,List.map_nil];rfl) ?_
        refine qe 2 (by simp only[go_sem,pstD,tabD,pn];rfl) ?_
        refine qf ⟨_,.refl _ _,_,Le.cut (Nat.le_of_ble_eq_true rfl) (.keep rfl rfl (.keep rfl rfl (.keep rfl rfl (.keep rfl rfl (.junk (.keep rfl rfl (.keep rfl rfl (.keep rfl rfl (.junk (.junk (.keep rfl rfl (.keep rfl rfl (.keep rfl rfl (.junk (.junk (.junk (.junk (.junk (.junk (.junk (.junk (.junk (.junk (.junk (.junk (.junk (.junk (.junk (.junk (.junk (.keep rfl rfl (.keep rfl rfl (.nil _))))))))))))))))))))))))))))))))) rfl (.cons rfl (.nil _ _)) rfl,FullS.hl rfl rfl,rfl,rfl⟩
      rintro _ _ b5 V5 ⟨rfl,rfl⟩ hj5;refine ⟨n+1,by omega,hn,?_⟩
      rw[qusb hh rows.length hv];exact hj5
     | false=>
      rw[hv] at hcc;obtain ⟨hl1,hat⟩:=qldc hh rows.length sec hi hn hv;have hyy:=hy' _ hl1;rw[hat] at hyy;refine wpIn_seq ?_;refine qtsb (K:=fun s=>s=⟨tl [.d (.raw (.func (.yield y) #[] #[])),.eptr [pstD l],.eptr [.int .i64 a,tabD rows],.eptr [.int .i64 A,tabD rows],.junk,iA (i:Int),.ptr 0 1 0 0,iA (sec i:Int),.junk,.junk,.d (pstD l),iA l.length,iA (i:Int),.junk,.junk,.junk,.junk,.junk,.junk,.junk,.junk,.junk,.junk,.junk,.junk,.junk,.junk,.junk,.junk,.junk,iA ((rows.length*rows.length*sec i:Nat):Int),iA (n:Int),.junk,.junk,.junk,.junk,.junk,.junk,.junk,.junk,.junk,.junk,.junk,.junk,.junk,.junk,.junk,.junk,.junk,.junk,.junk,.junk,.junk,.junk,.junk,.junk,.junk,.junk,.junk,.junk,.junk,.junk,.junk,.junk,.junk,.d (.bool true),.d (.raw (.func (.yield y) #[] #[])),.agg [iA ((i+1:Nat):Int),iA ((n / sec i / rows.length:Nat):Int),iA ((n / sec i % rows.length:Nat):Int),iA ((n % sec i:Nat):Int)]],Am.hl [some (blkP (l[i]).1 (l[i]).2)],1,73⟩) 14 (by simp only[slim1,List.take_succ_cons,List.take_zero,List.map_cons,List.map_nil,List.getElem?_toArray,List.getElem?_cons_succ,List.getElem?_cons_zero,Option.bind_some];rfl) rfl (hab _).grow hj2 ?_ ?_
      · refine qe 9 (by simp only[go_sem,pstD,tabD,blkP,brD];rfl) ?_
        refine qu rfl (by simp only[go_sem]) rfl (by simp only[go_sem];rfl) (by simp only[go_sem];rfl) ?_
        refine qfc hcc rfl rfl rfl ?_;refine qe 4 (by simp only[go_sem];rfl) ?_
        refine qf ⟨_,.refl _ _,_,Le.cut (Nat.le_of_ble_eq_true rfl) (.keep rfl rfl (.keep rfl rfl (.keep rfl rfl (.keep rfl rfl (.junk (.keep rfl rfl (.keep rfl rfl (.keep rfl rfl (.junk (.junk (.keep rfl rfl (.keep rfl rfl (.keep rfl rfl (.junk (.junk (.junk (.junk (.junk (.junk (.junk (.junk (.junk (.junk (.junk (.junk (.junk (.junk (.junk (.junk (.junk (.keep rfl rfl (.keep rfl rfl (.junk (.junk (.junk (.junk (.junk (.junk (.junk (.junk (.junk (.junk (.junk (.junk (.junk (.junk (.junk (.junk (.junk (.junk (.junk (.junk (.junk (.junk (.junk (.junk (.junk (.junk (.junk (.junk (.junk (.junk (.junk (.junk (.junk (.keep rfl rfl (.keep rfl rfl (.keep rfl rfl (.nil _))))))))))))))))))))))))))))))))))))))))))))))))))))))))))))))))))))) rfl (.cons rfl (.nil _ _)) rfl,FullS.hl rfl rfl,rfl⟩
      rintro _ b3 V3 rfl hj3;refine qsyb (hab _) (hab ((upI hh rows.length sec i++upN hh rows.length (sec i) i n).length+1)) habx rfl rfl (Nat.le_of_ble_eq_true rfl) rfl (fun W C ρ xs hx=>qhbc (b:=mkQ rows.length (sec i) i n) hx) hyy hj3 (fun b4 V4 hj4=>?_) (fun b4 V4 hj4=>?_)
      · refine qhyb (K:=fun s=>s=⟨tl [.d (.raw (.func (.yield y) #[] #[])),.eptr [pstD l],.eptr [.int .i64 a,tabD rows],.eptr [.int .i64 A,tabD rows],.junk,iA (i:Int),.ptr 0 1 0 0,iA (sec i:Int),.junk,.junk,.d (pstD l),iA l.length,iA (i:Int),.junk,.junk,.junk,.junk,.junk,.junk,.junk,.junk,.junk,.junk,.junk,.junk,.junk,.junk,.junk,.junk,.junk,iA ((rows.length*rows.length*sec i:Nat):Int),iA (n:Int),.junk,.junk,.junk,.junk,.junk,.junk,.junk,.junk,.junk,.junk,.junk,.junk,.junk,.junk,.junk,.junk,.junk,.junk,.junk,.junk,.junk,.junk,.junk,.junk,.junk,.junk,.junk,.junk,.junk,.junk,.junk,.junk,.junk,.junk,.junk,.junk,.junk,.junk,.d (.bool false)],Am.hl [some (blkP (l[i]).1 (l[i]).2)],1,73⟩) (by simp only[slim1,List.map_cons,List.map_nil,List.getElem?_toArray,List.getElem?_cons_succ,List.getElem?_cons_zero,Option.bind_some];rfl) (hab _).grow hj4 ?_ ?_
        · refine qe 2 (by simp only[go_sem];rfl) ?_
          refine qf ⟨_,.refl _ _,_,Le.cut (Nat.le_of_ble_eq_true rfl) (.keep rfl rfl (.keep rfl rfl (.keep rfl rfl (.keep rfl rfl (.junk (.keep rfl rfl (.keep rfl rfl (.keep rfl rfl (.junk (.junk (.keep rfl rfl (.keep rfl rfl (.keep rfl rfl (.junk (.junk (.junk (.junk (.junk (.junk (.junk (.junk (.junk (.junk (.junk (.junk (.junk (.junk (.junk (.junk (.junk (.keep rfl rfl (.keep rfl rfl (.junk (.junk (.junk (.junk (.junk (.junk (.junk (.junk (.junk (.junk (.junk (.junk (.junk (.junk (.junk (.junk (.junk (.junk (.junk (.junk (.junk (.junk (.junk (.junk (.junk (.junk (.junk (.junk (.junk (.junk (.junk (.junk (.junk (.junk (.junk (.junk (.junk (.junk (.keep rfl rfl (.nil _)))))))))))))))))))))))))))))))))))))))))))))))))))))))))))))))))))))))) rfl (.cons rfl (.nil _ _)) rfl,FullS.hl rfl rfl,rfl⟩
        rintro _ b6 V6 rfl hj6;refine qfeb hj6 (b:=false) rfl (fun h=>by cases h) (fun _=>?_)
        refine wpIn_skip ?_;refine qbf (K:=fun e s=>e = .normal∧s=⟨tl [.d (.raw (.func (.yield y) #[] #[])),.eptr [pstD l],.eptr [.int .i64 a,tabD rows],.eptr [.int .i64 A,tabD rows],.junk,iA (i:Int),.ptr 0 1 0 0,iA (sec i:Int),.junk,.junk,.d (pstD l),iA l.length,iA (i:Int),.junk,.junk,.junk,.junk,.junk,.junk,.junk,.junk,.junk,.junk,.junk,.junk,.junk,.junk,.junk,.junk,.junk,iA ((rows.length*rows.length*sec i:Nat):Int),iA ((n+1:Nat):Int)],Am.hl [some (blkP (l[i]).1 (l[i]).2)],1,73⟩) rfl (hab _).grow hj6 ?_ ?_
        · refine qa (by simp only[slimL,slim1,List.map_cons,List.map_nil];rfl) ?_
          refine qe 2 (by simp only[go_sem,pstD,tabD,pn];rfl) ?_
          refine qf ⟨_,.refl _ _,_,Le.cut (Nat.le_of_ble_eq_true rfl) (.keep rfl rfl (.keep rfl rfl (.keep rfl rfl (.keep rfl rfl (.junk (.keep rfl rfl (.keep rfl rfl (.keep rfl rfl (.junk (.junk (.keep rfl rfl (.keep rfl rfl (.keep rfl rfl (.junk (.junk (.junk (.junk (.junk (.junk (.junk (.junk (.junk (.junk (.junk (.junk (.junk (.junk (.junk (.junk (.junk (.keep rfl rfl (.keep rfl rfl (.nil _))))))))))))))))))))))))))))))))) rfl (.cons rfl (.nil _ _)) rfl,FullS.hl rfl rfl,rfl,rfl⟩
        rintro _ _ b5 V5 ⟨rfl,rfl⟩ hj5;refine ⟨n+1,by omega,hn,?_⟩
        rw[qprb hh rows.length hv,← List.append_assoc,List.length_append];exact hj5
      · refine qhyb (K:=fun s=>s=⟨tl [.d (.raw (.func (.yield y) #[] #[])),.eptr [pstD l],.eptr [.int .i64 a,tabD rows],.eptr [.int .i64 A,tabD rows],.junk,iA (i:Int),.ptr 0 1 0 0,iA (sec i:Int),.junk,.junk,.d (pstD l),iA l.length,iA (i:Int),.junk,.junk,.junk,.junk,.junk,.junk,.junk,.junk,.junk,.junk,.junk,.junk,.junk,.junk,.junk,.junk,.junk,iA ((rows.length*rows.length*sec i:Nat):Int),iA (n:Int),.junk,.junk,.junk,.junk,.junk,.junk,.junk,.junk,.junk,.junk,.junk,.junk,.junk,.junk,.junk,.junk,.junk,.junk,.junk,.junk,.junk,.junk,.junk,.junk,.junk,.junk,.junk,.junk,.junk,.junk,.junk,.junk,.junk,.junk,.junk,.junk,.junk,.junk,.d (.bool true)],Am.hl [some (blkP (l[i]).1 (l[i]).2)],1,73⟩) (by simp only[slim1,List.map_cons,List.map_nil,List.getElem?_toArray,List.getElem?_cons_succ,List.getElem?_cons_zero,Option.bind_some];rfl) habx.grow hj4 ?_ ?_
        · refine qe 2 (by simp only[go_sem];rfl) ?_
          refine qf ⟨_,.refl _ _,_,Le.cut (Nat.le_of_ble_eq_true rfl) (.keep rfl rfl (.keep rfl rfl (.keep rfl rfl (.keep rfl rfl (.junk (.keep rfl rfl (.keep rfl rfl (.keep rfl rfl (.junk (.junk (.keep rfl rfl (.keep rfl rfl (.keep rfl rfl (.junk (.junk (.junk (.junk (.junk (.junk (.junk (.junk (.junk (.junk (.junk (.junk (.junk (.junk (.junk (.junk (.junk (.keep rfl rfl (.keep rfl rfl (.junk (.junk (.junk (.junk (.junk (.junk (.junk (.junk (.junk (.junk (.junk (.junk (.junk (.junk (.junk (.junk (.junk (.junk (.junk (.junk (.junk (.junk (.junk (.junk (.junk (.junk (.junk (.junk (.junk (.junk (.junk (.junk (.junk (.junk (.junk (.junk (.junk (.junk (.keep rfl rfl (.nil _)))))))))))))))))))))))))))))))))))))))))))))))))))))))))))))))))))))))) rfl (.cons rfl (.nil _ _)) rfl,FullS.hl rfl rfl,rfl⟩
        rintro _ b6 V6 rfl hj6;refine qfeb hj6 (b:=true) rfl (fun _=>?_) (fun h=>by cases h)
        refine wpIn_ret ?_;obtain ⟨C8,ρ8,X8,hv8⟩:=hj6;exact ⟨hv8.inv.nom rfl,_,results_none rfl _ _ _,⟨_,rfl⟩,X8,.inr hv8.j⟩
   · refine wpIn_exit ?_;have hnl:n=rows.length*rows.length*sec i:=Nat.le_antisymm hnl (Int.ofNat_le.1 (Int.not_lt.1 (of_decide_eq_false c2)));subst hnl;refine qbf (K:=fun e s=>e = .normal∧s=⟨tl [.d (.raw (.func (.yield y) #[] #[])),.eptr [pstD l],.eptr [.int .i64 a,tabD rows],.eptr [.int .i64 A,tabD rows],.junk,.junk,.junk,.junk,.junk,.junk,.d (pstD l),iA l.length,iA ((i+1:Nat):Int)],Am.hl [],0,73⟩) rfl (hab _).grow hi9 ?_ ?_
     · refine qa (by simp only[slimL,slim1,List.map_cons,List.map_nil];rfl) ?_
       refine qe 2 (by simp only[go_sem,pstD,tabD,p1];rfl) ?_
       refine qf ⟨_,.refl _ _,_,Le.cut (Nat.le_of_ble_eq_true rfl) (.keep rfl rfl (.keep rfl rfl (.keep rfl rfl (.keep rfl rfl (.junk (.junk (.junk (.junk (.junk (.junk (.keep rfl rfl (.keep rfl rfl (.keep rfl rfl (.nil _)))))))))))))) rfl (.nil _ _) rfl,FullS.hl rfl rfl,rfl,rfl⟩
     rintro _ _ b5 V5 ⟨rfl,rfl⟩ hj5;refine ⟨i+1,by omega,hi,?_⟩
     rw[qcy];exact hj5
 · refine wpIn_exit ?_;have hil:i=l.length:=by simp at c0;omega
   subst hil;obtain ⟨C9,ρ9,X9,hv9⟩:=hi3;refine ⟨hv9.inv.nom rfl,_,results_none rfl _ _ _,⟨_,rfl⟩,X9,.inl ?_⟩;rw[List.length_map];exact hv9.j
end Go.Proofs.YtoalfckdmoahoaaGreatDoor
