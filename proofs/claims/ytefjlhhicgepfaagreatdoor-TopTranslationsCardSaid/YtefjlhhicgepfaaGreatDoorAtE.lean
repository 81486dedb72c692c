/- Lemmas. -/
import Derived.Test.YtefjlhhicgepfaaGreatDoorSbN
import Derived.Test.YtefjlhhicgepfaaGreatDoorSqE
import Derived.Test.YtefjlhhicgepfaaGreatDoorSaTy
set_option linter.unusedSimpArgs false
set_option linter.unusedVariables false
set_option linter.unusedSectionVars false
namespace Go.Proofs.YtefjlhhicgepfaaGreatDoor
open Go.Proofs.Tryz (prog)
open Go Am Go.Sort Go.RowKit Go.Proofs
set_option maxRecDepth 100000
variable {G:bl}
theorem a04(f:F):run Ntb 1 (aj f)=some [.bool (decide (f.op=3)&&decide (f.args.length=0))]:=by
 refine qh (x:=ade) rfl ?_
 by_cases h:f.op=3
 · simp only[ade,aj,qe,qf,eq_self,ac,reduceIte,h]
 · simp only[ade,aj,qe,qf,eq_self,ac,reduceIte,h]
theorem ax9{R:Nat→PF}{e:Env}{J:List PF}(k:IR)(l:List (List UInt8)):fj R 1 false [0] k e J (some [af l])=den R k (e++[af l]) J:=rfl
theorem a03:∀ (f:F) (l:List (List UInt8)),l.length+f.size<100000000000→run Ntb 0 (af l::aj f)=some [af (l++F.atomL f)]:=by
 refine qxh fun f ih l hl=>?_
 refine qh (x:=acu) rfl ?_;have ha:=a04 f;have hla:=F.sizes_len f.args;have h2:=F.size_eq f;rw[F.atomL_eq]
 by_cases h:f.op=3∧f.args.length=0
 · rw[if_pos h];simp only[h.1,h.2,decide_true,Bool.and_self,aj] at ha;simp (disch:=omega) only[acu,aj,qe,qf,eq_self,h.1,ha,ahe]
 · rw[if_neg h]
   have hb:(decide (f.op=3)&&decide (f.args.length=0))=false:=by
    cases hx:(decide (f.op=3)&&decide (f.args.length=0)) with
    | false=>rfl
    | true=>simp only[Bool.and_eq_true,decide_eq_true_eq] at hx;exact absurd hx h
   rw[hb] at ha
   have key:=qu (run:=run Ntb) (body:=xc) (e:=af l::aj f++[.bool false,.int .i64 f.args.length]) (J:=[]) (σ:=Unit) f.args.length
    (fun _ _=>True) (fun i _=>[.int .i64 i,af (l++F.atomLs (f.args.take i))]) (fun _ _=>[af (l++F.atomLs f.args)])
    (by
     intro i s L hi _ hL;have hm:f.args[i]∈f.args:=List.getElem_mem hi;have h1:=F.sizes_take f.args i hi;have h3:=F.sizes_take_le f.args (i+1);have h4:=F.atomLs_len (f.args.take i);have hr:=ih _ hm (l++F.atomLs (f.args.take i)) (by rw[List.length_append];omega)
     rw[List.append_assoc,← F.atomLs_take_s _ _ hi] at hr;simp only[aj] at hr;simp (disch:=omega) only[xc,aj,qe,qf,eq_self,ac,reduceIte,hi,qfl,hr,wr,bz,ax9];exact hL () trivial)
    (by
     intro s L _;simp (disch:=omega) only[xc,aj,qe,qf,eq_self,ac,reduceIte,Nat.lt_irrefl,a6v])
   have hk:=key 0 () (by omega) trivial
   simp only[aj,rt,List.take_zero,F.atomLs,List.append_nil,List.cons_append,List.nil_append] at hk ha;simp only[acu,aj,qe,qf,eq_self,ha,hk]
def oe(fz:Bool)(l:List (List UInt8)):Blk:=bu fz 9 D.str l
theorem anv:vv encStr D.str:=⟨fun w C x=>.str x,fun x=>rfl,fun w C x v h=>by cases h;rfl⟩
theorem axf(f:F)(l:List (List UInt8))(h:l.length+f.size<100000000000) :
 CC prog G 102 [oe false l] [.own 0 l.length 0 l.length,.agg [.d (.int .i64 f.op),.d (.str f.name),.d (.sl (F.encs f.args))]] [oe false (l++F.atomL f)] (.own 0 (l++F.atomL f).length 0 (l++F.atomL f).length):=by
 have ly:=qtm (P:=prog) (G:=G) aq4 azl (by kernel_rfl) aso (i:=0) (sg:=abk) rfl (ins:=af l::aj f) (outs:=[af (l++F.atomL f)])
  (by
   intro d hd;simp only[List.mem_cons,List.not_mem_nil,or_false] at hd;rcases hd with rfl|rfl|rfl|rfl
   · exact .sl _ fun r hr c hc => by
      simp only[List.mem_map] at hr;obtain ⟨s,_,rfl⟩:=hr;simp only[ij,List.mem_singleton] at hc;subst hc;exact .str s
   · exact .int _ _
   · exact .str _
   · exact F.wf_rows f) rfl (fun k hk=>by simp[abk] at hk;subst hk;exact ⟨_,rfl⟩) (a03 f l h) rfl
 have hr:∀ l:List (List UInt8),(l.map ij).map (List.map AV.d)=l.map fun s=>[AV.d (.str s)]:=fun l=>by
  simp[ij,Function.comp_def]
 simpa [abk,hIn,SB.inst,SB.rows,SA.val,af,D.rows,hr,oe,bu,SV.instL,SV.inst,lnL,ae,am,SB.len] using ly
theorem arp(f:F)(h:f.size<10000000000) :
 CC prog G 102 [] [.nils,.agg [.d (.int .i64 f.op),.d (.str f.name),.d (.sl (F.encs f.args))]] [oe false (F.atomL f)] (.own 0 (F.atomL f).length 0 (F.atomL f).length):=by
 obtain ⟨hb,hc⟩:=axf (G:=G) f [] (by simp;omega)
 refine ⟨hb,fun w C ρ vs hR hG hv=>?_⟩
 obtain ⟨hl,hv⟩:=hv
 obtain ⟨v0,v1,rfl⟩:∃ v0 v1,vs=[v0,v1]:=by
  match vs,hl with
  | [v0,v1],_=>exact ⟨v0,v1,rfl⟩
 have h0:=hv 0 (by simp) (by simp)
 have h1:=hv 1 (by simp) (by simp)
 simp only[List.getElem_cons_zero,List.getElem_cons_succ] at h0 h1;have hv0:v0 = .slice none 0 0:=by cases h0;rfl
 subst hv0
 have hH:∀ b,(hOf [oe false ([]:List (List UInt8))] b).isSome=true→b=0:=by
  intro b hb
  match b,hb with
  | 0,_=>rfl
  | b+1,hb=>simp[hOf] at hb
 refine (hc w C (fun _=>none) [.slice none 0 0,v1] ⟨fun b blk hb=>?_,fun b b' r s s' _ _ _ h=>by simp at h,hR.com⟩ hG ⟨rfl,fun i hi bn=>?_⟩).mono fun e w' h=>?_
 · obtain rfl:=hH b (by rw[hb];rfl)
   obtain rfl:oe false ([]:List (List UInt8))=blk:=by simpa [hOf] using hb
   exact ⟨rfl,rfl⟩
 · match i,hi with
   | 0,_=>exact .own 0 0 0 0 _ (oe false []) rfl (Nat.le_refl _) rfl fun _=>.inr ⟨rfl,rfl,rfl,rfl⟩
   | 1,_=>
    simp only[List.getElem_cons_succ,List.getElem_cons_zero];cases h1 with
    | agg _ vs hl2 h12 h3=>
     refine .agg _ vs hl2 h12 fun i hi bn=>?_
     have:=h3 i hi bn
     match i,hi with
     | 0,_=>exact .d _ _ (qce this)
     | 1,_=>exact .d _ _ (qce this)
     | 2,_=>exact .d _ _ (qce this)
 · obtain ⟨v,C',ρ',rfl,hR',hE,hr⟩:=h;rw[List.nil_append] at hR' hE hr;refine ⟨v,C',ρ',rfl,hR',⟨hE.com,hE.cell,fun b blk hb=>by simp[hOf] at hb,hE.os,hE.tape,hE.output,hE.size,fun r h1 h2=>hE.same r h1 fun ⟨b,s,_,hb⟩=>by simp at hb,fun r h=>?_,fun r o h=>?_⟩,hr⟩
   · rcases hE.rows r h with ⟨b,s,_,hb⟩|h
     · simp at hb
     · exact .inr h
   · rcases hE.grow r o h with h|⟨b,s,_,hb⟩|h
     · exact .inl h
     · simp at hb
     · exact .inr (.inr h)
theorem atv:th prog 103:=⟨Tryz.f103,Tryz.func103,by kernel_rfl,by kernel_rfl⟩
theorem qlu:th prog 104:=⟨Tryz.f104,Tryz.func104,by kernel_rfl,by kernel_rfl⟩
theorem auz(l:List (List UInt8))(hl:l.length<4611686018427387904):CC prog G 103 [oe false l] [.own 0 l.length 0 l.length] [oe false (sm l)] (.tup []):=
 aha (enc:=encStr) (dE:=D.str) (ty:=9) (g:=sm) anv atv qau (fun blk cap l w h1 h2 h3=>Tryz.slices_Sort_string blk 0 cap l w h1 h2 h3) (fun p cap w=>Tryz.slices_Sort_string_none p cap w) l hl
theorem qlm(l:List (List UInt8)):(Lib.compact l).length≤l.length:=by
 unfold Lib.compact Lib.compactUpTo;rw[List.length_map];refine Nat.le_trans (List.length_filter_le _ _) (by simp)
def za(l:List (List UInt8)):List (List UInt8):=Lib.compact l++List.replicate (l.length-(Lib.compact l).length) []
theorem a0u(l:List (List UInt8))(n:Nat)(hn:l.length=n)(hl:n<4611686018427387904):CC prog G 104 [oe false l] [.own 0 n 0 n] [oe true (za l)] (.d (af (Lib.compact l))):=by
 subst hn
 have h:=ajp (G:=G) (enc:=encStr) (dE:=D.str) (ty:=9) anv qlu (g:=za) (k:=fun l=>(Lib.compact l).length)
  (fun l=>by have:=qlm l;simp[za];omega) (fun l=>qlm l) (fun blk cap l w h1 h2 h3=>Tryz.slices_Compact_string blk 0 cap l w h1 h2 h3) (fun p cap w=>Tryz.slices_Compact_string_empty p cap w) l hl
 have ht:(za l).take (Lib.compact l).length=Lib.compact l:=by simp[za]
 simp only[ht] at h;exact h
theorem qoi(fz:Bool)(l:List (List UInt8))(m:Nat→Nat):(oe fz l).ren m=oe fz l:=by
 simp[oe,bu,Blk.ren,AV.ren,Function.comp_def]
theorem qza(fz:Bool)(l:List (List UInt8))(k:Nat):(oe fz l).rows.all (·.all (AV.inK k))=true:=by
 simp[oe,bu,AV.inK]
theorem qzn(m:Nat→Nat)(b:Blk):ek m [b]=[(m 0,b.ren m)]:=rfl
theorem av8(f:F)(hs:f.size<10000000000):CC prog G 78 [] [.agg [.d (.int .i64 f.op),.d (.str f.name),.d (.sl (F.encs f.args))]] [] (.d (af (canon (F.atomL f)))):=by
 have an:=F.atomL_len f;have h1:=arp (G:=G) f hs;have h2:=auz (G:=G) (F.atomL f) (by omega)
 have h3:=a0u (G:=G) (sm (F.atomL f)) (F.atomL f).length (qau _) (by omega)
 generalize F.atomL f=l at h1 h2 h3;refine CC.go Tryz.func78 rfl rfl Tryz.ntmps78 (k0:=0) rfl (lb rfl) (by rfl) (by rfl) ?_
 refine qg ?_;refine qb (by simp only[go_sem];rfl) ?_
 refine qd 2 (by simp only[go_sem];rfl) ?_
 refine qc ?_;refine qa ?_;refine qg ?_;refine qb (by simp only[go_sem];rfl) ?_
 refine qd 1 (by simp only[go_sem];rfl) ?_
 refine qo rfl (by simp only[go_sem]) rfl (by simp only[go_sem];rfl) (by simp only[go_sem];rfl) ?_
 refine qfc [] h1 rfl rfl rfl (lb rfl) (lb rfl) (by simp only[go_sem];decide) rfl rfl rfl rfl (by rw[qzn,qoi]) ?_
 refine qd 1 (by simp only[go_sem];rfl) ?_
 refine qc ?_;refine qa ?_;refine qg ?_;refine qb (by simp only[go_sem];rfl) ?_
 refine qd 1 (by simp only[go_sem];rfl) ?_
 refine qo rfl (by simp only[go_sem]) rfl (by simp only[go_sem];rfl) (by simp only[go_sem];rfl) ?_
 refine qfc [1] h2 rfl rfl rfl (lb rfl) (lb rfl) (by simp only[go_sem];decide) (by simp only[List.map_cons,List.map_nil,qoi];rfl) rfl (by simp only[List.all_cons,List.all_nil,qza,Bool.and_self]) rfl (by rw[qzn,qoi]) ?_
 refine qd 0 (by simp only[go_sem];rfl) ?_
 refine qc ?_;refine qa ?_;refine qg ?_;refine qb (by simp only[go_sem];rfl) ?_
 refine qd 1 (by simp only[go_sem];rfl) ?_
 refine qo rfl (by simp only[go_sem]) rfl (by simp only[go_sem];rfl) (by simp only[go_sem];rfl) ?_
 refine qfc [1] h3 rfl rfl rfl (lb rfl) (lb rfl) (by simp only[go_sem];decide) (by simp only[List.map_cons,List.map_nil,qoi];rfl) rfl (by simp only[List.all_cons,List.all_nil,qza,Bool.and_self]) rfl (by rw[qzn,qoi]) ?_
 refine qd 1 (by simp only[go_sem];rfl) ?_
 refine qc ?_;refine qa ?_;refine qn ?_;refine qjb (.inr rfl) (rs:=[.tmp 2]) rfl (by simp only[go_sem];rfl) ?_
 exact ⟨rfl,rfl⟩
def pf:PF:=fun a=>match F.decN 1000 a with
 | some f=>if f.size<10000000000 then some [af (canon (F.atomL f))] else none
 | none=>none
theorem qnn{a o:List D}(h:pf a=some o):∃ f:F,a=f.enc∧f.size<10000000000∧o=[af (canon (F.atomL f))]:=by
 unfold pf at h
 split at h
 · rename_i f hf
   split at h
   · rename_i hs;simp only[Option.some.injEq] at h;exact ⟨f,(F.decN_ok _ _ _ hf).symm,hs,h.symm⟩
   · simp at h
 · simp at h
theorem av0(l:List (List UInt8)):D.WF (af l):=.sl _ fun r hr c hc=>by
 simp only[List.mem_map] at hr;obtain ⟨s,_,rfl⟩:=hr;simp only[ij,List.mem_singleton] at hc;subst hc;exact .str s
theorem qgs{a o:List D}(h:pf a=some o):EWF o:=by
 obtain ⟨f,_,_,rfl⟩:=qnn h;intro d hd;simp only[List.mem_cons,List.not_mem_nil,or_false] at hd;subst hd;exact av0 _
def ajo:Sig:=⟨78,3,[],[(.agg [(.atm (.v 0)),(.atm (.v 1)),(.atm (.v 2))])],1,[],(.atm (.v 0)),true,[]⟩
theorem awy:jh prog G pf ajo:=by
 intro ins outs jb hl m9 hr i6;obtain ⟨f,rfl,hs,rfl⟩:=qnn hr;refine ⟨qgs hr,?_⟩;have:=av8 (G:=G) f hs;rw[F.enc_eq];exact ⟨this,fun i hi=>by simp[ajo,inL] at hi⟩
theorem as4(f:F)(hs:f.size<10000000000)(hd:f.depth<1000):pf (aj f)=some [af (canon (F.atomL f))]:=by
 unfold pf;rw[show aj f=f.enc from (F.enc_eq f).symm,F.decN_enc f _ hd]
 simp only[hs,if_true]
end Go.Proofs.YtefjlhhicgepfaaGreatDoor
