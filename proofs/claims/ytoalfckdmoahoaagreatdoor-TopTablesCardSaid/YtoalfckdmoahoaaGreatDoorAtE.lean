/- What functions of the program compute: lemmas. -/
import Derived.Test.YtoalfckdmoahoaaGreatDoorSbN
import Derived.Test.YtoalfckdmoahoaaGreatDoorSqE
import Derived.Test.YtoalfckdmoahoaaGreatDoorAm3
import Derived.Test.YtoalfckdmoahoaaGreatDoorAm4
import Derived.Test.YtoalfckdmoahoaaGreatDoorSaTy
set_option linter.unusedSimpArgs false
set_option linter.unusedVariables false
set_option linter.unusedSectionVars false
namespace Go.Proofs.YtoalfckdmoahoaaGreatDoor
open Go Am Go.Sort Go.RowKit Go.Proofs
set_option maxRecDepth 100000
variable {G:Glob}
theorem qnfb (f:F):run Ntb 1 (rowF f)=some [.bool (decide (f.op=3)&&decide (f.args.length=0))]:=by
 refine qg (x:=Nir1) rfl ?_
 by_cases h:f.op=3
 · simp only[Nir1,rowF,qc,qb,eq_self,aBin,reduceIte,h]
 · simp only[Nir1,rowF,qc,qb,eq_self,aBin,reduceIte,h]
theorem qfvb {R:Nat→PF} {e:Env} {J:List PF} (k:IR) (l:List (List UInt8)):callQ R 1 false [0] k e J (some [strsD l])=den R k (e++[strsD l]) J:=rfl
theorem qihb:∀ (f:F) (l:List (List UInt8)),l.length+f.size<100000000000→run Ntb 0 (strsD l::rowF f)=some [strsD (l++F.atomL f)]:=by
 refine qej fun f ih l hl=>?_
 refine qg (x:=Nir0) rfl ?_;have ha:=qnfb f;have hla:=F.sizes_len f.args;have h2:=F.size_eq f;rw[F.atomL_eq]
 by_cases h:f.op=3∧f.args.length=0
 · rw[if_pos h];simp only[h.1,h.2,decide_true,Bool.and_self,rowF] at ha;simp (disch:=omega) only[Nir0,rowF,qc,qb,eq_self,h.1,ha,qwyb]
 · rw[if_neg h]
   have hb:(decide (f.op=3)&&decide (f.args.length=0))=false:=by
    cases hx:(decide (f.op=3)&&decide (f.args.length=0)) with
    | false=>rfl
    | true=>simp only[Bool.and_eq_true,decide_eq_true_eq] at hx;exact absurd hx h
   rw[hb] at ha
   have key:=qcb (run:=run Ntb) (body:=Nir0p0) (e:=strsD l::rowF f++[.bool false,.int .i64 f.args.length]) (J:=[]) (σ:=Unit) f.args.length
    (fun _ _=>True) (fun i _=>[.int .i64 i,strsD (l++F.atomLs (f.args.take i))]) (fun _ _=>[strsD (l++F.atomLs f.args)])
    (by
     intro i s L hi _ hL;have hm:f.args[i]∈f.args:=List.getElem_mem hi;have h1:=F.sizes_take f.args i hi;have h3:=F.sizes_take_le f.args (i+1);have h4:=F.atomLs_len (f.args.take i);have hr:=ih _ hm (l++F.atomLs (f.args.take i)) (by rw[List.length_append];omega)
     rw[List.append_assoc,← F.atomLs_take_s _ _ hi] at hr;simp only[rowF] at hr;simp (disch:=omega) only[Nir0p0,rowF,qc,qb,eq_self,aBin,reduceIte,hi,qdu,hr,wr,natS,qfvb];exact hL () trivial)
    (by
     intro s L _;simp (disch:=omega) only[Nir0p0,rowF,qc,qb,eq_self,aBin,reduceIte,Nat.lt_irrefl,qlnb])
   have hk:=key 0 () (by omega) trivial
   simp only[rowF,nat0,List.take_zero,F.atomLs,List.append_nil,List.cons_append,List.nil_append] at hk ha;simp only[Nir0,rowF,qc,qb,eq_self,ha,hk]
def blkS (fz:Bool) (l:List (List UInt8)):Blk:=rowB fz 9 D.str l
theorem qrgb:EncOK encStr D.str:=⟨fun w C x=>.str x,fun x=>rfl,fun w C x v h=>by cases h;rfl⟩
theorem qckb (f:F) (l:List (List UInt8)) (h:l.length+f.size<100000000000) :
 CC Tryz.prog G 88 [blkS false l] [.own 0 l.length 0 l.length,.agg [.d (.int .i64 f.op),.d (.str f.name),.d (.sl (F.encs f.args))]] [blkS false (l++F.atomL f)] (.own 0 (l++F.atomL f).length 0 (l++F.atomL f).length):=by
 have hcc:=qnd (P:=Tryz.prog) (G:=G) Ntok Ngok (by kernel_rfl) qizb (i:=0) (sg:=Nsg0) rfl (ins:=strsD l::rowF f) (outs:=[strsD (l++F.atomL f)])
  (by
   intro d hd;simp only[List.mem_cons,List.not_mem_nil,or_false] at hd;rcases hd with rfl|rfl|rfl|rfl
   · exact .sl _ fun r hr c hc => by
      simp only[List.mem_map] at hr;obtain ⟨s,_,rfl⟩:=hr;simp only[strR,List.mem_singleton] at hc;subst hc;exact .str s
   · exact .int _ _
   · exact .str _
   · exact F.wf_rows f) rfl (fun k hk=>by simp[Nsg0] at hk;subst hk;exact ⟨_,rfl⟩) (qihb f l h) rfl
 have hr:∀ l:List (List UInt8),(l.map strR).map (List.map AV.d)=l.map fun s=>[AV.d (.str s)]:=fun l=>by
  simp[strR,Function.comp_def]
 simpa [Nsg0,hIn,SB.inst,SB.rows,SA.val,strsD,D.rows,hr,blkS,rowB,SV.instL,SV.inst,lnL,lnOf,getB,SB.len] using hcc
theorem qxfb (f:F) (h:f.size<10000000000) :
 CC Tryz.prog G 88 [] [.nils,.agg [.d (.int .i64 f.op),.d (.str f.name),.d (.sl (F.encs f.args))]] [blkS false (F.atomL f)] (.own 0 (F.atomL f).length 0 (F.atomL f).length):=by
 obtain ⟨hb,hc⟩:=qckb (G:=G) f [] (by simp;omega)
 refine ⟨hb,fun w C ρ vs hR hG hv=>?_⟩
 obtain ⟨hl,hv⟩:=hv
 obtain ⟨v0,v1,rfl⟩:∃ v0 v1,vs=[v0,v1]:=by
  match vs,hl with
  | [v0,v1],_=>exact ⟨v0,v1,rfl⟩
 have h0:=hv 0 (by simp) (by simp)
 have h1:=hv 1 (by simp) (by simp)
 simp only[List.getElem_cons_zero,List.getElem_cons_succ] at h0 h1;have hv0:v0 = .slice none 0 0:=by cases h0;rfl
 subst hv0
 have hH:∀ b,(hOf [blkS false ([]:List (List UInt8))] b).isSome=true→b=0:=by
  intro b hb
  match b,hb with
  | 0,_=>rfl
  | b+1,hb=>simp[hOf] at hb
 refine (hc w C (fun _=>none) [.slice none 0 0,v1] ⟨fun b blk hb=>?_,fun b b' r s s' _ _ _ h=>by simp at h,hR.com⟩ hG ⟨rfl,fun i hi hi'=>?_⟩).mono fun e w' h=>?_
 · obtain rfl:=hH b (by rw[hb];rfl)
   obtain rfl:blkS false ([]:List (List UInt8))=blk:=by simpa [hOf] using hb
   exact ⟨rfl,rfl⟩
 · match i,hi with
   | 0,_=>exact .own 0 0 0 0 _ (blkS false []) rfl (Nat.le_refl _) rfl fun _=>.inr ⟨rfl,rfl,rfl,rfl⟩
   | 1,_=>
    simp only[List.getElem_cons_succ,List.getElem_cons_zero];cases h1 with
    | agg _ vs hl2 h12 h3=>
     refine .agg _ vs hl2 h12 fun i hi hi'=>?_
     have:=h3 i hi hi'
     match i,hi with
     | 0,_=>exact .d _ _ (qyc this)
     | 1,_=>exact .d _ _ (qyc this)
     | 2,_=>exact .d _ _ (qyc this)
 · obtain ⟨v,C',ρ',rfl,hR',hE,hr⟩:=h;rw[List.nil_append] at hR' hE hr;refine ⟨v,C',ρ',rfl,hR',⟨hE.com,hE.cell,fun b blk hb=>by simp[hOf] at hb,hE.os,hE.tape,hE.output,hE.size,fun r h1 h2=>hE.same r h1 fun ⟨b,s,_,hb⟩=>by simp at hb,fun r h=>?_,fun r o h=>?_⟩,hr⟩
   · rcases hE.rows r h with ⟨b,s,_,hb⟩|h
     · simp at hb
     · exact .inr h
   · rcases hE.grow r o h with h|⟨b,s,_,hb⟩|h
     · exact .inl h
     · simp at hb
     · exact .inr (.inr h)
theorem qzjb:Body Tryz.prog 89:=⟨Tryz.f89,Tryz.func89,by kernel_rfl,by kernel_rfl⟩
theorem qus:Body Tryz.prog 90:=⟨Tryz.f90,Tryz.func90,by kernel_rfl,by kernel_rfl⟩
theorem qewb (l:List (List UInt8)) (hl:l.length<4611686018427387904):CC Tryz.prog G 89 [blkS false l] [.own 0 l.length 0 l.length] [blkS false (sortL l)] (.tup []):=
 qbv (enc:=encStr) (dE:=D.str) (ty:=9) (g:=sortL) qrgb qzjb qvs (fun blk cap l w h1 h2 h3=>Tryz.slices_Sort_string blk 0 cap l w h1 h2 h3) (fun p cap w=>Tryz.slices_Sort_string_none p cap w) l hl
theorem qxl (l:List (List UInt8)):(Lib.compact l).length≤l.length:=by
 unfold Lib.compact Lib.compactUpTo;rw[List.length_map];refine Nat.le_trans (List.length_filter_le _ _) (by simp)
def tailS (l:List (List UInt8)):List (List UInt8):=Lib.compact l++List.replicate (l.length-(Lib.compact l).length) []
theorem qccb (l:List (List UInt8)) (n:Nat) (hn:l.length=n) (hl:n<4611686018427387904):CC Tryz.prog G 90 [blkS false l] [.own 0 n 0 n] [blkS true (tailS l)] (.d (strsD (Lib.compact l))):=by
 subst hn
 have h:=qux (G:=G) (enc:=encStr) (dE:=D.str) (ty:=9) qrgb qus (g:=tailS) (k:=fun l=>(Lib.compact l).length)
  (fun l=>by have:=qxl l;simp[tailS];omega) (fun l=>qxl l) (fun blk cap l w h1 h2 h3=>Tryz.slices_Compact_string blk 0 cap l w h1 h2 h3) (fun p cap w=>Tryz.slices_Compact_string_empty p cap w) l hl
 have ht:(tailS l).take (Lib.compact l).length=Lib.compact l:=by simp[tailS]
 simp only[ht] at h;exact h
theorem qxh (fz:Bool) (l:List (List UInt8)) (m:Nat→Nat):(blkS fz l).ren m=blkS fz l:=by
 simp[blkS,rowB,Blk.ren,AV.ren,Function.comp_def]
theorem qsy (fz:Bool) (l:List (List UInt8)) (k:Nat):(blkS fz l).rows.all (·.all (AV.inK k))=true:=by
 simp[blkS,rowB,AV.inK]
theorem qyl (m:Nat→Nat) (b:Blk):outHs m [b]=[(m 0,b.ren m)]:=rfl
theorem qaqb (f:F) (hs:f.size<10000000000):CC Tryz.prog G 55 [] [.agg [.d (.int .i64 f.op),.d (.str f.name),.d (.sl (F.encs f.args))]] [] (.d (strsD (canon (F.atomL f)))):=by
 have hlen:=F.atomL_len f;have h1:=qxfb (G:=G) f hs;have h2:=qewb (G:=G) (F.atomL f) (by omega)
 have h3:=qccb (G:=G) (sortL (F.atomL f)) (F.atomL f).length (qvs _) (by omega)
 generalize F.atomL f=l at h1 h2 h3;refine CC.go Tryz.func55 rfl rfl Tryz.ntmps55 (k0:=0) rfl (Nat.le_of_ble_eq_true rfl) (by rfl) (by rfl) ?_
 refine qh ?_;refine qa (by simp only[slimL,slim1,List.map_cons,List.map_nil];rfl) ?_
 refine qe 2 (by simp only[go_sem];rfl) ?_
 refine qf ?_;refine qd ?_;refine qh ?_;refine qa (by simp only[slimL,slim1,List.map_cons,List.map_nil];rfl) ?_
 refine qe 1 (by simp only[go_sem];rfl) ?_
 refine qu rfl (by simp only[go_sem]) rfl (by simp only[go_sem];rfl) (by simp only[go_sem];rfl) ?_
 refine qfg [] h1 rfl rfl rfl (Nat.le_of_ble_eq_true rfl) (Nat.le_of_ble_eq_true rfl) (by simp only[go_sem];decide) rfl rfl rfl rfl (by rw[qyl,qxh]) ?_
 refine qe 1 (by simp only[go_sem];rfl) ?_
 refine qf ?_;refine qd ?_;refine qh ?_;refine qa (by simp only[slimL,slim1,List.map_cons,List.map_nil];rfl) ?_
 refine qe 1 (by simp only[go_sem];rfl) ?_
 refine qu rfl (by simp only[go_sem]) rfl (by simp only[go_sem];rfl) (by simp only[go_sem];rfl) ?_
 refine qfg [1] h2 rfl rfl rfl (Nat.le_of_ble_eq_true rfl) (Nat.le_of_ble_eq_true rfl) (by simp only[go_sem];decide) (by simp only[List.map_cons,List.map_nil,qxh];rfl) rfl (by simp only[List.all_cons,List.all_nil,qsy,Bool.and_self]) rfl (by rw[qyl,qxh]) ?_
 refine qe 0 (by simp only[go_sem];rfl) ?_
 refine qf ?_;refine qd ?_;refine qh ?_;refine qa (by simp only[slimL,slim1,List.map_cons,List.map_nil];rfl) ?_
 refine qe 1 (by simp only[go_sem];rfl) ?_
 refine qu rfl (by simp only[go_sem]) rfl (by simp only[go_sem];rfl) (by simp only[go_sem];rfl) ?_
 refine qfg [1] h3 rfl rfl rfl (Nat.le_of_ble_eq_true rfl) (Nat.le_of_ble_eq_true rfl) (by simp only[go_sem];decide) (by simp only[List.map_cons,List.map_nil,qxh];rfl) rfl (by simp only[List.all_cons,List.all_nil,qsy,Bool.and_self]) rfl (by rw[qyl,qxh]) ?_
 refine qe 1 (by simp only[go_sem];rfl) ?_
 refine qf ?_;refine qd ?_;refine qfj ?_;refine qqbb (.inr rfl) (rs:=[.tmp 2]) rfl (by simp only[go_sem];rfl) ?_
 exact ⟨rfl,rfl⟩
def atomsE:PF:=fun a=>match F.decN 1000 a with
 | some f=>if f.size<10000000000 then some [strsD (canon (F.atomL f))] else none
 | none=>none
theorem qrl {a o:List D} (h:atomsE a=some o):∃ f:F,a=f.enc∧f.size<10000000000∧o=[strsD (canon (F.atomL f))]:=by
 unfold atomsE at h
 split at h
 · rename_i f hf
   split at h
   · rename_i hs;simp only[Option.some.injEq] at h;exact ⟨f,(F.decN_ok _ _ _ hf).symm,hs,h.symm⟩
   · simp at h
 · simp at h
theorem qfqb (l:List (List UInt8)):D.WF (strsD l):=.sl _ fun r hr c hc=>by
 simp only[List.mem_map] at hr;obtain ⟨s,_,rfl⟩:=hr;simp only[strR,List.mem_singleton] at hc;subst hc;exact .str s
theorem qmt {a o:List D} (h:atomsE a=some o):EWF o:=by
 obtain ⟨f,_,_,rfl⟩:=qrl h;intro d hd;simp only[List.mem_cons,List.not_mem_nil,or_false] at hd;subst hd;exact qfqb _
def atsg:Sig:=⟨55,3,[],[(.agg [(.atm (.v 0)),(.atm (.v 1)),(.atm (.v 2))])],1,[],(.atm (.v 0)),true,[]⟩
theorem qxcb:SigOK Tryz.prog G atomsE atsg:=by
 intro ins outs hwf hl hsl hr hno;obtain ⟨f,rfl,hs,rfl⟩:=qrl hr;refine ⟨qmt hr,?_⟩;have:=qaqb (G:=G) f hs;rw[F.enc_eq];exact ⟨this,fun i hi=>by simp[atsg,inL] at hi⟩
theorem qedb (f:F) (hs:f.size<10000000000) (hd:f.depth<1000):atomsE (rowF f)=some [strsD (canon (F.atomL f))]:=by
 unfold atomsE;rw[show rowF f=f.enc from (F.enc_eq f).symm,F.decN_enc f _ hd]
 simp only[hs,if_true]
end Go.Proofs.YtoalfckdmoahoaaGreatDoor
