/- Lemmas. -/
import Derived.Test.YtefjlhhicgepfaaGreatDoorSr
import Derived.Test.YtefjlhhicgepfaaGreatDoorMk
import Derived.Test.YtefjlhhicgepfaaGreatDoorPx
set_option linter.unusedSimpArgs false
set_option linter.unusedVariables false
set_option linter.unusedSectionVars false
open List (all_cons all_nil mem_map)
namespace Am
open Go
def TUp(tb tb':Nat→TE):Prop:=∀ i,tb' i=tb i∨∃ E E',tb i = .ext E∧tb' i = .ext E'∧PLe E E'
theorem a1d{tb tb':Nat→TE}(h:TUp tb tb'):∀ n i,PLe (runN tb n i) (runN tb' n i):=by
 intro n
 induction n with
 | zero=>intro i a r h;simp[runN] at h
 | succ n ih=>
  intro i a r hr;simp only[runN] at hr ⊢;rcases h i with e|⟨E,E',e1,e2,hE⟩
  · rw[e];cases hi:tb i with
    | ir x=>simp only[hi] at hr ⊢;exact qdh x ih (.refl _) r hr
    | ext E=>simp only[hi] at hr ⊢;exact hr
  · rw[e1] at hr;rw[e2];exact hE a r hr
theorem aw6{tb tb':Nat→TE}(h:TUp tb tb'){i:Nat}{a r:List D}(hr:run tb i a=some r):run tb' i a=some r:=by
 obtain ⟨n,hn⟩:=agq hr;exact qlq (n:=n) (a1d h n i a r hn)
theorem aya{E:PF}:PLe sh E:=fun a r h=>by simp[sh] at h
end Am

namespace Go.Proofs.YtefjlhhicgepfaaGreatDoor
open Go.Proofs.Tryz (prog)
open Go Am
set_option maxRecDepth 100000
variable {G:bl}
abbrev iA(n:Int):AV:=.d (.int .i64 n)
abbrev bA(x:BitVec 64):AV:=.d (bvD x)
abbrev fA(f:F):AV:=.agg [iA f.op,.d (.str f.name),.d (.sl (F.encs f.args))]
theorem atn(x:BitVec 64):D.WF (bvD x):=.int _ _
theorem qkr(l:List (List UInt8)):D.WF (af l):=.sl _ fun r hr c hc=>by
 obtain ⟨x,_,rfl⟩:=List.mem_map.1 hr;simp only[ij,List.mem_singleton] at hc;subst hc;exact .str _
theorem qnw(l:List Int):D.WF (ab l):=.sl _ fun r hr c hc=>by
 obtain ⟨x,_,rfl⟩:=List.mem_map.1 hr;simp only[ie,List.mem_singleton] at hc;subst hc;exact .int _ _
theorem abr:EWF []:=fun _ h=>by cases h
theorem qfo{d:D}{e:Env}(h:D.WF d)(h':EWF e):EWF (d::e):=fun x hx=>by
 rcases List.mem_cons.1 hx with rfl|hx
 · exact h
 · exact h' x hx
section
variable (hG:mq G){aa:List (List UInt8)}{ranks:List Int}(hn:aa.length<1000000000)(hl:ranks.length<1000000000)
include hG hn
theorem qnf(hl:ranks.length<1000000000):CC prog G 22 [] [.agg [.d (af aa),.d (ab ranks)]] [] (iA (bi aa ranks)):=
 qtm (G:=G) tok gok (by kernel_rfl) (acz hG) (i:=19) rfl (qfo (qkr _) (qfo (qnw _) abr)) rfl (fun k hk=>by cases hk) (qlc aa ranks hn hl) rfl
theorem axw(hl:ranks.length<1000000000):CC prog G 23 [] [.agg [.d (af aa),.d (ab ranks)]] [] (.d (dq (je aa ranks))):=
 qtm (G:=G) tok gok (by kernel_rfl) (acz hG) (i:=20) rfl (qfo (qkr _) (qfo (qnw _) abr)) rfl (fun k hk=>by cases hk) (qbi aa ranks hn hl) rfl
theorem awl:CC prog G 26 [] [.d (af aa)] [] (bA (ny aa)):=
 qtm (G:=G) tok gok (by kernel_rfl) (acz hG) (i:=55) rfl (qfo (qkr _) abr) rfl (fun k hk=>by cases hk) (qpp aa hn) rfl
theorem am1(hv:cu aa=true)(S:BitVec 64):CC prog G 24 [] [.d (af aa),bA S] [] (.tup [fA (thy aa S),iA 0]):=by
 have h:=qsn aa hn S;unfold aci at h;rw[if_pos hv] at h;exact qtm (G:=G) tok gok (by kernel_rfl) (acz hG) (i:=21) rfl (qfo (qkr _) (qfo (atn _) abr)) rfl (fun k hk=>by cases hk) h rfl
end
theorem aum(x y:BitVec 64):IntKind.u64.wrap (((BitVec.ofInt 64 (x.toNat:Int) &&& ~~~BitVec.ofInt 64 (y.toNat:Int)).toNat:Nat):Int)=((x &&& ~~~y).toNat:Int):=by
 rw[qbf,qbf,qcy]
def uv(l:List CF):List (List AV):=(l.map vq).map fun x=>x.map AV.d
def ye(l:List CF):Blk:={ fz:=false,ap:=true,ty:=45,sz:=6,rows:=uv l }
theorem a4o(l:List CF):(uv l).length=l.length:=by simp[uv]
theorem qzp(l:List CF)(n:Nat):(uv l).all (·.all (AV.inK n))=true:=by
 rw[List.all_eq_true];intro x hr;simp only[uv,List.map_map,mem_map] at hr;obtain ⟨o,_,rfl⟩:=hr;rfl
attribute [go_sem] bne_self_eq_false Int.toNat_natCast af ab bvD bA ye a4o List.length_map
end Go.Proofs.YtefjlhhicgepfaaGreatDoor

namespace Go.Proofs.YtefjlhhicgepfaaGreatDoor
open Go.Proofs.Tryz (prog)
open Go Am
set_option maxRecDepth 100000
set_option maxHeartbeats 2000000
variable {G:bl}
theorem azo{k:Nat}{s:Sta}{t b:Nat}{blk:Blk}{row:List D}(ht:s.tm t = .ptr b 1 0 0)(hb:s.H b=some blk)(hr:blk.rows=[row.map .d]):Ent k s { s with tm:=nr s.tm t (.eptr row),H:=dl [b] s.H }:=by
 refine (Ent.pin [b]).trans (Ent.wh ⟨rfl,rfl,fun x=>?_,fun x=>?_⟩)
 · show Wh (dl [b] s.H) (s.tm x) (nr s.tm t (.eptr row) x)
   unfold nr
   split
   · rename_i h;subst h;rw[ht];exact Wh.ep (blk:=ux blk) (by simp[dl,hb]) rfl hr
   · exact .refl _
 · show (dl [b] s.H x=none∧dl [b] s.H x=none)∨∃ y y0,dl [b] s.H x=some y∧dl [b] s.H x=some y0∧WhB _ y y0
   cases h:dl [b] s.H x with
   | none=>exact .inl ⟨rfl,rfl⟩
   | some y=>exact .inr ⟨y,y,rfl,rfl,WhB.refl _⟩
theorem asq(hG:mq G){aa:List (List UInt8)}{ranks:List Int}(h:bi aa ranks=0){m:Nat}(hm:(di ranks).toNat=m) :
 CC prog G 9 [] [.agg [.d (af aa),.d (ab ranks)]] [ye (cdS aa ranks m)] (.tup [.own 0 m 0 m,iA 0]):=by
 obtain ⟨hv,vp,xx⟩:=qz h;have an:=qhb h;have vr:=an.1;have cf:=qnk (qjf xx) an.2;have ue:=qkf ranks;have hn:aa.length<1000000000:=by have:=qnb hv;omega
 have abq:=qnf (ranks:=ranks) hG hn (by omega)
 have ab0:=axw (ranks:=ranks) hG hn (by omega)
 have eu:=awl hG hn;rw[h] at abq;rw[ayv h] at eu;unfold je at ab0;rw[if_pos h] at ab0;obtain ⟨lv,afg⟩:∃ lv,lv=(List.range m).map fun k=>d8 ranks k ranks.length:=⟨_,rfl⟩
 have hls:j4 ranks=lv++[d8 ranks m ranks.length]:=by rw[afg];unfold j4;rw[hm,List.range_succ];simp
 rw[hls] at ab0;have ags:lv.length=m:=by rw[afg];simp
 obtain ⟨Rw,hRw⟩:∃ Rw,Rw=(lv++[d8 ranks m ranks.length]).map fun x=>[bvD x]:=⟨_,rfl⟩
 have hb:dq (lv++[d8 ranks m ranks.length]) = .sl Rw:=by rw[hRw];rfl
 rw[hb] at ab0;have hR1:Rw.length=m+1:=by rw[hRw];simp[ags]
 have hR2:Rw.take m=lv.map fun x=>[bvD x]:=by rw[hRw,List.map_append,List.take_left' (by simp[ags])]
 have yr:IntKind.i64.wrap (((m+1:Nat):Int)-1)=(m:Int):=by rw[wr (by omega) (by omega)];omega
 have hm0:(0:Int)≤(m:Int):=by omega
 have hmm:(m:Int)≤((m+1:Nat):Int):=by omega
 have hRa:(Rw.all fun r=>r.length == 1)=true:=by rw[hRw,List.all_eq_true];intro r hr;obtain ⟨x,_,rfl⟩:=List.mem_map.1 hr;rfl
 have hz:=And.intro hRa <| And.intro hR1 (And.intro hR2 (And.intro yr (And.intro hm0 (And.intro hmm ags))))
 refine CC.go Tryz.func9 rfl rfl Tryz.ntmps9 (k0:=0) rfl (lb rfl) (by rfl) (by rfl) ?_
 refine qg ?_;refine qb (by simp only[go_sem];rfl) ?_
 refine qd 3 (by simp only[go_sem];rfl) ?_
 refine qc ?_;refine qeq (s':=⟨Am.tl [.junk,.eptr [af aa,ab ranks]],Am.hl [],0,64⟩) ((azo (t:=1) (b:=0) (row:=[af aa,ab ranks]) rfl rfl rfl).trans (Ent.cut (lb rfl) (lb rfl) (.junk (.keep rfl rfl (.nil _))) rfl (.nil _ _) rfl)) ?_;refine qg ?_;refine qg ?_;refine qb (by simp only[go_sem];rfl) ?_
 refine qd 1 (by simp only[go_sem];rfl) ?_
 refine qo rfl (by simp only[go_sem]) rfl (by simp only[go_sem];rfl) (by simp only[go_sem];rfl) ?_
 refine qjc (abq) rfl rfl rfl ?_;refine qd 1 (by simp only[go_sem];rfl) ?_
 refine qc ?_;refine qa ?_;refine qg ?_;refine qb (by simp only[go_sem];rfl) ?_
 refine qd 2 (by simp only[go_sem];rfl) ?_
 refine qc ?_;refine qa ?_;refine qmc (by simp only[go_sem]) ?_
 refine qt ?_;refine qa ?_;refine qg ?_;refine qb (by simp only[go_sem];rfl) ?_
 refine qd 1 (by simp only[go_sem];rfl) ?_
 refine qc ?_;refine qeq (Ent.ghost (t:=5) 45 6 rfl) ?_;refine qg ?_;refine qb (by simp only[go_sem];rfl) ?_
 refine qd 2 (by simp only[go_sem];rfl) ?_
 refine qo rfl (by simp only[go_sem]) rfl (by simp only[go_sem];rfl) (by simp only[go_sem];rfl) ?_
 refine qjc (eu) rfl rfl rfl ?_;refine qd 1 (by simp only[go_sem];rfl) ?_
 refine qc ?_;refine qa ?_;refine qg ?_;refine qb (by simp only[go_sem];rfl) ?_
 refine qd 1 (by simp only[go_sem];rfl) ?_
 refine qo rfl (by simp only[go_sem]) rfl (by simp only[go_sem];rfl) (by simp only[go_sem];rfl) ?_
 refine qjc (ab0) rfl rfl rfl ?_;refine qd 1 (by simp only[go_sem];rfl) ?_
 refine qc ?_;refine qa ?_;refine qg ?_;refine qg ?_;refine qb (by simp only[go_sem];rfl) ?_
 refine qd 7 (by simp only[go_sem,hz];rfl) ?_
 refine qc ?_;refine qa ?_;refine qdb ?_;refine qrf (ι:=Nat) (fun (x:Nat)=>(match x with|i=>⟨Am.tl [.junk,.eptr [af aa,ab ranks],.junk,.junk,.junk,.own 0 i 0 i,bA (io ranks (i:Int)),.junk,.junk,.junk,.junk,.junk,.junk,.junk,.junk,.junk,.junk,.junk,.junk,.junk,.junk,.junk,.junk,.junk,.junk,.junk,.junk,.d (dq lv),iA m,iA (i:Int)],Am.hl [some (ye (cdS aa ranks i))],1,64⟩)) (fun x=>match x with|i=>i≤m) (fun x=>match x with|i=>m-i) 0 ?_ ?_ ?_
 · refine Ent.cut (lb rfl) (lb rfl) (.junk (.keep rfl rfl (.junk (.junk (.junk (.keep rfl rfl (.keep rfl rfl (.junk (.junk (.junk (.junk (.junk (.junk (.junk (.junk (.junk (.junk (.junk (.junk (.junk (.junk (.junk (.junk (.junk (.junk (.junk (.junk (.keep rfl rfl (.keep rfl rfl (.keep rfl rfl (.nil _))))))))))))))))))))))))))))))) rfl (.cons (rfl) (.nil _ _)) (by simp only[all_cons,all_nil,ye,qzp,Bool.and_true])
 · exact Nat.zero_le _
 · rintro i him
   try dsimp only at him
   dsimp only
   refine qg ?_;refine qb (by simp only[go_sem];rfl) ?_
   refine qd 1 (by simp only[go_sem];rfl) ?_
   refine qc ?_;refine qa ?_;refine qg ?_;refine qm (by simp only[go_sem];rfl) (fun c1=>?_) (fun c1=>?_)
   · skip
     have hi:i<m:=by simpa using c1
     have hil:(i:Int)<(m:Int):=by omega
     have hiw:IntKind.i64.wrap ((i:Int)+1)=((i+1:Nat):Int):=by rw[wr (by omega) (by omega)];rfl
     have hrw:(lv.map fun x=>[D.int .u64 (x.toNat:Int)])[i]? = some [D.int .u64 ((d8 ranks i ranks.length).toNat:Int)]:=by rw[afg];simp[hi]
     have ht1:=am1 hG hn hv (io ranks (i:Int));have ht2:=am1 hG hn hv (d8 ranks i ranks.length);have hfs:=qfp ranks vr i;have z1:(i+1)*96≤140737488355328:=by omega
     have z2:i≤9223372036854775806:=by omega
     have su:=qvj aa ranks i;refine qt ?_;refine qa ?_;refine qg ?_;refine qdb ?_;refine qg ?_;refine qb (by simp only[go_sem];rfl) ?_
     refine qd 3 (by simp only[go_sem,hil,hrw,dq];rfl) ?_
     refine qc ?_;refine qa ?_;refine qg ?_;refine qb (by simp only[go_sem];rfl) ?_
     refine qd 3 (by simp only[go_sem];rfl) ?_
     refine qo rfl (by simp only[go_sem]) rfl (by simp only[go_sem];rfl) (by simp only[go_sem];rfl) ?_
     refine qjc (ht1) rfl rfl rfl ?_;refine qd 6 (by simp only[go_sem];rfl) ?_
     refine qc ?_;refine qa ?_;refine qg ?_;refine qg ?_;refine qb (by simp only[go_sem];rfl) ?_
     refine qd 2 (by simp only[go_sem];rfl) ?_
     refine qc ?_;refine qa ?_;refine qmc (by simp only[go_sem]) ?_
     refine qt ?_;refine qa ?_;refine qg ?_;refine qb (by simp only[go_sem];rfl) ?_
     refine qd 3 (by simp only[go_sem];rfl) ?_
     refine qo rfl (by simp only[go_sem]) rfl (by simp only[go_sem];rfl) (by simp only[go_sem];rfl) ?_
     refine qjc (ht2) rfl rfl rfl ?_;refine qd 6 (by simp only[go_sem];rfl) ?_
     refine qc ?_;refine qa ?_;refine qg ?_;refine qg ?_;refine qb (by simp only[go_sem];rfl) ?_
     refine qd 2 (by simp only[go_sem];rfl) ?_
     refine qc ?_;refine qa ?_;refine qmc (by simp only[go_sem]) ?_
     refine qt ?_;refine qa ?_;refine qb (by simp only[go_sem];rfl) ?_
     refine qd 11 (by simp only[go_sem,z1,z2,su];rfl) ?_
     refine qc ?_;refine qj ?_;refine qa ?_;refine qb (by simp only[go_sem];rfl) ?_
     refine qd 2 (by simp only[go_sem,hiw];rfl) ?_
     refine qc ?_;refine qcb (i+1) ?_ ?_ ?_
     · refine Ent.cut (lb rfl) (lb rfl) (.junk (.keep rfl rfl (.junk (.junk (.junk (.keep rfl rfl (.keepE (by simp only[go_sem];rfl) ((congrArg (fun z=>AV.d (D.int .u64 z)) ((aum _ _).trans (congrArg (fun z:BitVec 64=>(z.toNat:Int)) hfs))).symm) rfl (.junk (.junk (.junk (.junk (.junk (.junk (.junk (.junk (.junk (.junk (.junk (.junk (.junk (.junk (.junk (.junk (.junk (.junk (.junk (.junk (.keep rfl rfl (.keep rfl rfl (.keep rfl rfl (.nil _))))))))))))))))))))))))))))))) rfl (.cons (by first|rfl|(rw[a48];simp only[ye,uv,List.map_append];rfl)) (.nil _ _)) (by simp only[all_cons,all_nil,ye,qzp,Bool.and_true])
     · exact hi
     · omega
   · skip
     have hie:i=m:=by simp at c1;omega
     subst hie;refine qah ?_;refine qpf (qne (qrd ?_));refine qa ?_;refine qg ?_;refine qb (by simp only[go_sem];rfl) ?_
     refine qd 3 (by simp only[go_sem,c1];rfl) ?_
     refine qc ?_;refine qa ?_;refine qn ?_;refine abb (.inr rfl) (rs:=[.tmp 2,.tmp 3]) rfl (by simp only[go_sem];rfl) ?_ ?_ (lb rfl) (by simp only[all_cons,all_nil,ye,qzp,Bool.and_true]) (by rfl)
     · rfl
     · exact .cons rfl (.nil _ _)
end Go.Proofs.YtefjlhhicgepfaaGreatDoor

namespace Go.Proofs.YtefjlhhicgepfaaGreatDoor
open Go.Proofs.Tryz (prog)
open Go Am
set_option maxRecDepth 100000
variable {G:bl}
theorem ap5{a b:List (List UInt8)}(h:af a=af b):a=b:=by
 injection h with h
 exact List.map_inj_right (fun x y h=>by injection h with h _;injection h) |>.1 h
theorem aqn{a b:List Int}(h:ab a=ab b):a=b:=by
 injection h with h
 exact List.map_inj_right (fun x y h=>by injection h with h _;injection h) |>.1 h
def CdP(a:List D)(x:List (List UInt8) × List Int):Prop:=a=[af x.1,ab x.2]∧bi x.1 x.2=0
open Classical in
noncomputable def rp:PF:=fun a=>if h:∃ x,CdP a x then some (cdR h.choose.1 h.choose.2) else none
theorem atz{aa:List (List UInt8)}{ranks:List Int}(h:bi aa ranks=0):rp [af aa,ab ranks]=some (cdR aa ranks):=by
 have hx:∃ x,CdP [af aa,ab ranks] x:=⟨(aa,ranks),rfl,h⟩;unfold rp;rw[dif_pos hx];have h1:=hx.choose_spec.1
 injection h1 with h2 h3
 injection h3 with h3 _
 rw[← ap5 h2,← aqn h3]
theorem qlp{a o:List D}(h:rp a=some o):∃ aa ranks,a=[af aa,ab ranks]∧bi aa ranks=0∧o=[ez (cdS aa ranks (di ranks).toNat),.int .i64 0]:=by
 unfold rp at h
 split at h
 · rename_i hx;obtain ⟨h1,h2⟩:=hx.choose_spec;refine ⟨_,_,h1,h2,?_⟩;unfold cdR at h;rw[if_pos h2] at h;exact (Option.some.inj h).symm
 · cases h
theorem am5{a o:List D}(h:rp a=some o):EWF o:=by
 obtain ⟨aa,ranks,_,_,rfl⟩:=qlp h;refine qfo (.sl _ fun r hr c hc=>?_) (qfo (.int _ _) abr)
 obtain ⟨x,_,rfl⟩:=List.mem_map.1 hr;simp only[vq,List.mem_cons,List.not_mem_nil,or_false] at hc;rcases hc with rfl|rfl|rfl|rfl|rfl|rfl
 · exact .int _ _
 · exact .str _
 · exact F.wf_rows _
 · exact .int _ _
 · exact .str _
 · exact F.wf_rows _
theorem at7(hG:mq G):jh prog G rp sg6:=by
 intro ins outs jb hl m9 hr i6;have hw:=am5 hr;obtain ⟨aa,ranks,rfl,h,rfl⟩:=qlp hr;refine ⟨hw,?_,fun i hi=>by simp[sg6,inL] at hi⟩
 have:=asq hG h rfl;have e:(cdS aa ranks (di ranks).toNat).length=(di ranks).toNat:=qvj _ _ _;simp only[ye,uv] at this
 simpa [sg6,hIn,SB.inst,SB.rows,SA.val,ez,D.rows,SV.instL,SV.inst,lnL,ae,am,SB.len,e] using this
noncomputable def tb1:Nat→TE:=fun i=>if i=6 then .ext rp else tb i
theorem awe(hG:mq G):uu prog G T SG sigs tb1:=by
 have h:=acz hG;refine ⟨fun i x hx=>?_,fun i E hx=>?_⟩
 · unfold tb1 at hx
   split at hx
   · cases hx
   · exact h.1 i x hx
 · unfold tb1 at hx
   split at hx
   · rename_i e;subst e;cases hx;exact ⟨fun a o _ _ h=>am5 h,fun sg hs=>by cases hs;exact at7 hG⟩
   · exact h.2 i E hx
theorem up{i:Nat}{a r:List D}(h:run tb i a=some r):run tb1 i a=some r:=
 aw6 (fun j=>by
  unfold tb1
  split
  · rename_i e;subst e;exact .inr ⟨sh,rp,rfl,rfl,aya⟩
  · exact .inl rfl) h
end Go.Proofs.YtefjlhhicgepfaaGreatDoor
