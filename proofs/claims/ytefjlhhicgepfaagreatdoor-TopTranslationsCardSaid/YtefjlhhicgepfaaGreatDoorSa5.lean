/- Lemmas. -/
import Derived.Test.YtefjlhhicgepfaaGreatDoorSa2
set_option linter.unusedSimpArgs false
set_option linter.unusedVariables false
set_option linter.unusedSectionVars false
open List (all_cons all_nil append_assoc append_nil length_append length_cons length_nil)
open Bool (and_eq_true false_eq_true)
namespace Go.Proofs.YtefjlhhicgepfaaGreatDoor
open Go.Proofs.Tryz (prog)
open Go Am
set_option maxRecDepth 100000
set_option maxHeartbeats 1000000
variable {G:bl}
def wordsD:List D:=[.str [],.str [],.str [],.str [],.str [],.str [32,38,32],.str [32,124,32],.str [32,45,62,32],.str [32,60,45,62,32]]
def aOf(a:AV)(t:List UInt8):AV:=if t=[] then a else b9
theorem qvb{a:AV}(ha:a=kt∨a=b9)(t:List UInt8):aOf a t=kt∨aOf a t=b9:=by
 unfold aOf;split
 · exact ha
 · exact .inr rfl
theorem ai3(a:AV)(s t:List UInt8):aOf (aOf a s) t=aOf a (s++t):=by
 unfold aOf
 by_cases h:s=[]<;>by_cases h':t=[]<;>simp[h,h']
theorem qvk(a:AV){t:List UInt8}(h:t≠[]):aOf a t=b9:=if_neg h
abbrev ads(f:F):Blk:={ fz:=false,ap:=false,ty:=39,sz:=3,rows:=[[.d (.int .i64 f.op),.d (.str f.name),.d (.sl (F.encs f.args))]] }
def pre(f:F)(j:Nat):List UInt8:=txt f j++(if decide ((j:Int)>0) then iw f.op else [])
theorem ana(f:F)(j:Nat)(h:j<f.args.length):txt f (j+1)=pre f j++(if decide (ew f.args[j]<ib f.op j) then [40]++F.text f.args[j]++[41] else F.text f.args[j]):=by
 rw[ae5 f j h,F.piece,pre];simp only[append_assoc]
theorem vh(a:AV)(ha:a=kt∨a=b9)(l:List UInt8)(k:Nat)(hk:2≤k):(bld a (gp l)).rows.all (·.all (AV.inK k))=true:=by
 rcases ha with rfl|rfl<;>simp[bld,AV.inK]<;>omega
theorem ai9(a:AV)(ha:a=kt∨a=b9)(l:List UInt8)(id:Nat):(bld a (gp l)).ren (mOf [0,1] id)=bld a (gp l):=by
 rcases ha with rfl|rfl<;>rfl
theorem apm(hG:G 0=some wordsD)(n:Nat)(ih:∀ g:F,g.size<n→good g=true→∀ (a:AV) (l:List UInt8),(a=kt∨a=b9)→l.length+(F.text g).length≤70368744177664→CC prog G 28 [bld a (gp l),byt l] [b9,lf g] [bld (aOf a (F.text g)) (gp (l++F.text g)),byt (l++F.text g)] (.tup []))(f:F)(hn:f.size≤n)(hs:n<4611686018427387904)(hok:good f=true)(a:AV)(l:List UInt8)(ha:a=kt∨a=b9)(hl:l.length+(F.text f).length≤70368744177664):CC prog G 28 [bld a (gp l),byt l] [b9,lf f] [bld (aOf a (F.text f)) (gp (l++F.text f)),byt (l++F.text f)] (.tup []):=by
 refine CC.go Tryz.func28 rfl rfl Tryz.ntmps28 (k0:=2) rfl (lb rfl) (by rfl) (by rfl) ?_
 refine qg ?_;refine qb (by simp only[go_sem];rfl) ?_
 refine qd 1 (by simp only[go_sem];rfl) ?_
 refine qc ?_;refine qa ?_;refine qda (ι:=Unit) (fun (x:Unit)=>(match x with|u=>⟨Am.tl [b9,.junk,.junk,.ptr 2 1 0 0],Am.hl [some (bld (aOf a (cm f.op f.name)) (gp (l++cm f.op f.name))),some (byt (l++cm f.op f.name)),some (ads f)],3,59⟩)) (fun x=>match x with|u=>True) ?_ ?_
 · rintro u hJ
   try dsimp only at hJ
   dsimp only
   refine qg ?_;refine qb (by simp only[go_sem];rfl) ?_
   refine qd 4 (by simp only[go_sem];rfl) ?_
   refine qc ?_;refine qa ?_;refine qdb ?_;refine qrf (ι:=Nat) (fun (x:Nat)=>(match x with|j=>⟨Am.tl [b9,.junk,.junk,.ptr 2 1 0 0,.junk,.junk,.junk,.junk,.junk,.junk,.junk,.junk,.junk,.junk,.junk,.junk,.junk,.junk,.junk,.junk,.junk,.junk,.junk,.junk,.junk,.junk,.junk,.d (.sl (F.encs f.args)),i64 (f.args.length:Int),i64 (j:Int)],Am.hl [some (bld (aOf a (txt f j)) (gp (l++txt f j))),some (byt (l++txt f j)),some (ads f)],3,59⟩)) (fun x=>match x with|j=>j≤f.args.length) (fun x=>match x with|j=>f.args.length-j) 0 ?_ ?_ ?_
   · refine Ent.cut (lb rfl) (lb rfl) (.keep rfl rfl (.junk (.junk (.keep rfl rfl (.junk (.junk (.junk (.junk (.junk (.junk (.junk (.junk (.junk (.junk (.junk (.junk (.junk (.junk (.junk (.junk (.junk (.junk (.junk (.junk (.junk (.junk (.junk (.keep rfl rfl (.keepE (by simp only[go_sem];rfl) (by rw[F.encs_len]) rfl (.keep rfl rfl (.nil _))))))))))))))))))))))))))))))) rfl (.cons (by rw[aea];rfl) (.cons (by rw[aea];rfl) (.cons (rfl) (.nil _ _)))) (by simp only[all_cons,all_nil,vh _ (qvb ha _) _ 3 (by decide),qfg,AV.inK,Bool.and_true])
   · exact Nat.zero_le _
   · rintro j hI
     try dsimp only at hI
     dsimp only
     refine qg ?_;refine qb (by simp only[go_sem];rfl) ?_
     refine qd 1 (by simp only[go_sem];rfl) ?_
     refine qc ?_;refine qa ?_;refine qg ?_;refine qm (by simp only[go_sem];rfl) (fun c0=>?_) (fun c0=>?_)
     · skip
       have hj:j<f.args.length:=by simpa using c0
       have mz:=F.encs_get f.args j hj;have hen:=F.enc_eq (f.args[j]);have cf:=F.size_arg f j hj;have hla:=F.sizes_len f.args;have hse:=F.size_eq f;have hts:=ae5 f j hj;have j7:=qis f (j+1) hj;have hga:=qrp hok j hj;rw[hts,length_append] at j7;refine qt ?_;refine qa ?_;refine qg ?_;refine qdb ?_;refine qg ?_;refine qb (by simp only[go_sem];rfl) ?_
       refine qd 6 (by simp only[go_sem,c0,mz,hen];rfl) ?_
       refine qc ?_;refine qa ?_;refine qda (ι:=Unit) (fun (x:Unit)=>(match x with|u=>⟨Am.tl [b9,.junk,.junk,.ptr 2 1 0 0,i64 (j:Int),.ptr 3 1 0 0,.junk,.junk,.junk,.junk,.junk,.junk,.junk,.junk,.junk,.junk,.junk,.junk,.junk,.junk,.junk,.junk,.junk,.junk,.junk,.junk,.junk,.d (.sl (F.encs f.args)),i64 (f.args.length:Int),i64 (j:Int)],Am.hl [some (bld (aOf a (pre f j)) (gp (l++pre f j))),some (byt (l++pre f j)),some (ads f),some (ads f.args[j])],4,59⟩)) (fun x=>match x with|u=>True) ?_ ?_
       · rintro u hJ
         try dsimp only at hJ
         dsimp only
         refine qg ?_;refine qum Tryz.mixed (by simp only[go_sem];rfl) ?_
         refine qsq 1 (by simp only[go_sem];rfl) ?_
         refine qbv rfl (by simp only[go_sem]) rfl (by simp only[go_sem];rfl) (by simp only[go_sem];rfl) ?_
         refine qjc (awa _) rfl rfl rfl ?_;refine qsq 2 (by simp only[go_sem];rfl) ?_
         refine qbv rfl (by simp only[go_sem]) rfl (by simp only[go_sem];rfl) (by simp only[go_sem];rfl) ?_
         refine qjc (azg f (j:Int) (by omega) (by omega)) rfl rfl rfl ?_
         refine qsq 1 (by simp only[go_sem];rfl) ?_
         refine qlz 4 (by kernel_rfl) ?_
         refine qa ?_;refine qm (by simp only[go_sem];rfl) (fun c1=>?_) (fun c1=>?_)
         · skip
           have hp1:txt f (j+1)=pre f j++([40]++F.text f.args[j]++[41]):=by
            rw[ana f j hj,← qvt];simp only[c1,if_true]
           have adk:=qis f (j+1) hj;rw[hp1] at adk;simp only[length_append,length_cons,length_nil] at adk;refine qg ?_;refine qb (by simp only[go_sem];rfl) ?_
           refine qd 1 (by simp only[go_sem,c1];rfl) ?_
           refine qo rfl (by simp only[go_sem]) rfl (by simp only[go_sem];rfl) (by simp only[go_sem];rfl) ?_
           refine qfc [0,1] (qse (aOf a (pre f j)) (qvb ha _) (l++pre f j) 40 (by rw[length_append];omega) (by rw[length_append];omega)) rfl rfl rfl (lb rfl) (lb rfl) (by simp only[go_sem];decide) (qgn (aOf a (pre f j)) (l++pre f j) (qvb ha _) _) rfl (mc (aOf a (pre f j)) (l++pre f j) (qvb ha _)) rfl (by simp only[qed,qxc];rfl) ?_
           refine qd 0 (by simp only[go_sem];rfl) ?_
           refine qc ?_;refine qa ?_;refine qg ?_;refine qb (by simp only[go_sem];rfl) ?_
           refine qd 2 (by simp only[go_sem];rfl) ?_
           refine qo rfl (by simp only[go_sem]) rfl (by simp only[go_sem];rfl) (by simp only[go_sem];rfl) ?_
           refine qfc [0,1] (ih f.args[j] (by omega) hga b9 ((l++pre f j)++[40]) (.inr rfl) (by simp only[length_append,length_cons,length_nil];omega)) rfl rfl rfl (lb rfl) (lb rfl) (by simp only[go_sem];decide) (qgn b9 _ (.inr rfl) _) rfl (mc b9 _ (.inr rfl)) rfl (by simp only[qed,qxc,ai9 _ (qvb (.inr rfl) _)];rfl) ?_
           refine qd 0 (by simp only[go_sem];rfl) ?_
           refine qc ?_;refine qa ?_;refine qb (by simp only[go_sem];rfl) ?_
           refine qd 1 (by simp only[go_sem];rfl) ?_
           refine qo rfl (by simp only[go_sem]) rfl (by simp only[go_sem];rfl) (by simp only[go_sem];rfl) ?_
           refine qfc [0,1] (qse (aOf b9 (F.text f.args[j])) (qvb (.inr rfl) _) (((l++pre f j)++[40])++F.text f.args[j]) 41 (by simp only[length_append,length_cons,length_nil];omega) (by simp only[length_append,length_cons,length_nil];omega)) rfl rfl rfl (lb rfl) (lb rfl) (by simp only[go_sem];decide) (qgn _ _ (qvb (.inr rfl) _) _) rfl (mc _ _ (qvb (.inr rfl) _)) rfl (by simp only[qed,qxc];rfl) ?_
           refine qd 0 (by simp only[go_sem];rfl) ?_
           refine qc ?_;refine qj ?_;refine qa ?_;refine qb (by simp only[go_sem];rfl) ?_
           refine qd 2 (by simp only[go_sem];rfl) ?_
           refine qc ?_;refine qcb (j+1) ?_ ?_ ?_
           · refine Ent.cut (lb rfl) (lb rfl) (.keep rfl rfl (.junk (.junk (.keep rfl rfl (.junk (.junk (.junk (.junk (.junk (.junk (.junk (.junk (.junk (.junk (.junk (.junk (.junk (.junk (.junk (.junk (.junk (.junk (.junk (.junk (.junk (.junk (.junk (.keep rfl rfl (.keep rfl rfl (.keepE (by simp only[go_sem];rfl) (by rw[wr (by omega) (by omega)];rfl) rfl (.nil _))))))))))))))))))))))))))))))) rfl (.cons (by first|(rw[hp1,qvk a (t:=pre f j++([40]++F.text f.args[j]++[41])) (by simp)];simp only[← append_assoc];rfl)|(rw[hp1,← ai3,← append_assoc];rfl)) (.cons (by first|(rw[hp1];simp only[← append_assoc];rfl)|(rw[hp1,← append_assoc];rfl)) (.cons (rfl) (.nil _ _)))) (by simp only[all_cons,all_nil,vh _ (qvb ha _) _ 3 (by decide),qfg,AV.inK,Bool.and_true])
           · exact hj
           · omega
         · skip
           have hp1:txt f (j+1)=pre f j++F.text f.args[j]:=by
            rw[ana f j hj,← qvt];simp only[c1,false_eq_true,if_false]
           have adk:=qis f (j+1) hj;rw[hp1] at adk;simp only[length_append] at adk;refine qb (by simp only[go_sem];rfl) ?_
           refine qd 2 (by simp only[go_sem,c1];rfl) ?_
           refine qo rfl (by simp only[go_sem]) rfl (by simp only[go_sem];rfl) (by simp only[go_sem];rfl) ?_
           refine qfc [0,1] (ih f.args[j] (by omega) hga (aOf a (pre f j)) (l++pre f j) (qvb ha _) (by rw[length_append];omega)) rfl rfl rfl (lb rfl) (lb rfl) (by simp only[go_sem];decide) (qgn _ _ (qvb ha _) _) rfl (mc _ _ (qvb ha _)) rfl (by simp only[qed,qxc,ai9 _ (qvb (qvb ha _) _)];rfl) ?_
           refine qd 0 (by simp only[go_sem];rfl) ?_
           refine qc ?_;refine qj ?_;refine qa ?_;refine qb (by simp only[go_sem];rfl) ?_
           refine qd 2 (by simp only[go_sem];rfl) ?_
           refine qc ?_;refine qcb (j+1) ?_ ?_ ?_
           · refine Ent.cut (lb rfl) (lb rfl) (.keep rfl rfl (.junk (.junk (.keep rfl rfl (.junk (.junk (.junk (.junk (.junk (.junk (.junk (.junk (.junk (.junk (.junk (.junk (.junk (.junk (.junk (.junk (.junk (.junk (.junk (.junk (.junk (.junk (.junk (.keep rfl rfl (.keep rfl rfl (.keepE (by simp only[go_sem];rfl) (by rw[wr (by omega) (by omega)];rfl) rfl (.nil _))))))))))))))))))))))))))))))) rfl (.cons (by first|(rw[hp1,qvk a (t:=pre f j++([40]++F.text f.args[j]++[41])) (by simp)];simp only[← append_assoc];rfl)|(rw[hp1,← ai3,← append_assoc];rfl)) (.cons (by first|(rw[hp1];simp only[← append_assoc];rfl)|(rw[hp1,← append_assoc];rfl)) (.cons (rfl) (.nil _ _)))) (by simp only[all_cons,all_nil,vh _ (qvb ha _) _ 3 (by decide),qfg,AV.inK,Bool.and_true])
           · exact hj
           · omega
       · skip
         refine qg ?_;refine qb (by simp only[go_sem];rfl) ?_
         refine qd 2 (by simp only[go_sem];rfl) ?_
         refine qc ?_;refine qa ?_;refine qm (by simp only[go_sem];rfl) (fun c2=>?_) (fun c2=>?_)
         · skip
           have hj0:0<j:=by simpa using c2
           have z8:=aye hok j hj hj0;have yr:0≤f.op:=by omega
           have tq:f.op<((9:Nat):Int):=by omega
           have hw3:(wordsD.drop (f.op.toNat*1))[0]? = some (.str (iw f.op)):=by
            rcases z8 with h|h|h|h<;>rw[h]<;>rfl
           have r4:(iw f.op).length≤(F.piece f.op j f.args[j]).length:=by
            simp only[F.piece,c2,if_true,length_append];omega
           refine qb (by simp only[go_sem];rfl) ?_
           refine qd 5 (by simp only[go_sem,hG,c2,yr,tq,hw3];rfl) ?_
           refine qo rfl (by simp only[go_sem]) rfl (by simp only[go_sem];rfl) (by simp only[go_sem];rfl) ?_
           refine qfc [0,1] (qsi (aOf a (txt f j)) (qvb ha _) (l++txt f j) (iw f.op) (by rw[length_append];omega) (by rw[length_append];omega)) rfl rfl rfl (lb rfl) (lb rfl) (by simp only[go_sem];decide) (qgn (aOf a (txt f j)) (l++txt f j) (qvb ha _) _) rfl (mc (aOf a (txt f j)) (l++txt f j) (qvb ha _)) rfl (by simp only[qed,qxc];rfl) ?_
           refine qd 0 (by simp only[go_sem];rfl) ?_
           refine qc ?_;refine qhc () ?_ ?_
           · refine Ent.cut (lb rfl) (lb rfl) (.keep rfl rfl (.junk (.junk (.keep rfl rfl (.keep rfl rfl (.keep rfl rfl (.junk (.junk (.junk (.junk (.junk (.junk (.junk (.junk (.junk (.junk (.junk (.junk (.junk (.junk (.junk (.junk (.junk (.junk (.junk (.junk (.junk (.keep rfl rfl (.keep rfl rfl (.keep rfl rfl (.nil _))))))))))))))))))))))))))))))) rfl (.cons (by (have hp:pre f j=txt f j++iw f.op:=(by simp only[pre,c2,if_true]));rw[hp,qvk a (t:=txt f j++iw f.op) (by simp[asb]),← append_assoc];rfl) (.cons (by (have hp:pre f j=txt f j++iw f.op:=(by simp only[pre,c2,if_true]));rw[hp,← append_assoc];rfl) (.cons (rfl) (.cons (rfl) (.nil _ _))))) (by simp only[all_cons,all_nil,vh _ (qvb ha _) _ 4 (by decide),qfg,AV.inK,Bool.and_true])
           · trivial
         · skip
           refine qt ?_;refine qhc () ?_ ?_
           · refine Ent.cut (lb rfl) (lb rfl) (.keep rfl rfl (.junk (.junk (.keep rfl rfl (.keep rfl rfl (.keep rfl rfl (.junk (.junk (.junk (.junk (.junk (.junk (.junk (.junk (.junk (.junk (.junk (.junk (.junk (.junk (.junk (.junk (.junk (.junk (.junk (.junk (.junk (.keep rfl rfl (.keep rfl rfl (.keep rfl rfl (.nil _))))))))))))))))))))))))))))))) rfl (.cons (by (have hp:pre f j=txt f j:=(by simp only[pre,c2,false_eq_true,if_false,append_nil]));rw[hp];rfl) (.cons (by (have hp:pre f j=txt f j:=(by simp only[pre,c2,false_eq_true,if_false,append_nil]));rw[hp];rfl) (.cons (rfl) (.cons (rfl) (.nil _ _))))) (by simp only[all_cons,all_nil,vh _ (qvb ha _) _ 4 (by decide),qfg,AV.inK,Bool.and_true])
           · trivial
     · skip
       refine qah ?_;refine qpf (qne (qrd ?_));refine abb (.inl rfl) (rs:=[]) rfl (by simp only[go_sem];rfl) ?_ ?_ (lb rfl) (mc _ _ (qvb ha _)) (by rfl)
       · rfl
       · have hj:j=f.args.length:=by simp at c0;omega
         rw[← ain f,← hj];exact .cons rfl (.cons rfl (.nil _ _))
 · skip
   refine qg ?_;refine qb (by simp only[go_sem];rfl) ?_
   refine qd 2 (by simp only[go_sem];rfl) ?_
   refine qc ?_;refine qa ?_;refine qdb ?_;refine qg ?_;refine qb (by simp only[go_sem];rfl) ?_
   refine qd 2 (by simp only[go_sem];rfl) ?_
   refine qc ?_;refine qa ?_;refine qm (by simp only[go_sem];rfl) (fun c3=>?_) (fun c3=>?_)
   · skip
     refine qb (by simp only[go_sem];rfl) ?_
     refine qd 1 (by simp only[go_sem,c3];rfl) ?_
     refine qo rfl (by simp only[go_sem]) rfl (by simp only[go_sem];rfl) (by simp only[go_sem];rfl) ?_
     refine qfc [0,1] (qse a ha l 49 (by omega) (by omega)) rfl rfl rfl (lb rfl) (lb rfl) (by simp only[go_sem];decide) (qgn a l ha _) rfl (mc a l ha) rfl (by simp only[qed,qxc];rfl) ?_
     refine qd 0 (by simp only[go_sem];rfl) ?_
     refine qc ?_;refine qj ?_;refine qhc () ?_ ?_
     · refine Ent.cut (lb rfl) (lb rfl) (.keep rfl rfl (.junk (.junk (.keep rfl rfl (.nil _))))) rfl (.cons (by have hh:cm f.op f.name=[49]:=(by simp only[cm,c3,if_true]);rw[hh,qvk a (by simp)];rfl) (.cons (by have hh:cm f.op f.name=[49]:=(by simp only[cm,c3,if_true]);rw[hh];rfl) (.cons (rfl) (.nil _ _)))) (by simp only[all_cons,all_nil,vh _ (qvb ha _) _ 3 (by decide),qfg,AV.inK,Bool.and_true])
     · trivial
   · skip
     refine qg ?_;refine qb (by simp only[go_sem];rfl) ?_
     refine qd 2 (by simp only[go_sem,c3];rfl) ?_
     refine qc ?_;refine qa ?_;refine qm (by simp only[go_sem];rfl) (fun c4=>?_) (fun c4=>?_)
     · skip
       refine qb (by simp only[go_sem];rfl) ?_
       refine qd 1 (by simp only[go_sem,c4];rfl) ?_
       refine qo rfl (by simp only[go_sem]) rfl (by simp only[go_sem];rfl) (by simp only[go_sem];rfl) ?_
       refine qfc [0,1] (qse a ha l 48 (by omega) (by omega)) rfl rfl rfl (lb rfl) (lb rfl) (by simp only[go_sem];decide) (qgn a l ha _) rfl (mc a l ha) rfl (by simp only[qed,qxc];rfl) ?_
       refine qd 0 (by simp only[go_sem];rfl) ?_
       refine qc ?_;refine qj ?_;refine qhc () ?_ ?_
       · refine Ent.cut (lb rfl) (lb rfl) (.keep rfl rfl (.junk (.junk (.keep rfl rfl (.nil _))))) rfl (.cons (by have hh:cm f.op f.name=[48]:=(by simp only[cm,c3,c4,false_eq_true,if_true,if_false]);rw[hh,qvk a (by simp)];rfl) (.cons (by have hh:cm f.op f.name=[48]:=(by simp only[cm,c3,c4,false_eq_true,if_true,if_false]);rw[hh];rfl) (.cons (rfl) (.nil _ _)))) (by simp only[all_cons,all_nil,vh _ (qvb ha _) _ 3 (by decide),qfg,AV.inK,Bool.and_true])
       · trivial
     · skip
       refine qg ?_;refine qb (by simp only[go_sem];rfl) ?_
       refine qd 2 (by simp only[go_sem,c4];rfl) ?_
       refine qc ?_;refine qa ?_;refine qm (by simp only[go_sem];rfl) (fun c5=>?_) (fun c5=>?_)
       · skip
         refine qb (by simp only[go_sem];rfl) ?_
         refine qd 3 (by simp only[go_sem,c5];rfl) ?_
         refine qo rfl (by simp only[go_sem]) rfl (by simp only[go_sem];rfl) (by simp only[go_sem];rfl) ?_
         refine qfc [0,1] (qsi a ha l f.name (by (have hh:cm f.op f.name=f.name:=(by simp only[cm,c3,c4,c5,false_eq_true,if_true,if_false]));(have h0:=qis f 0 (Nat.zero_le _));rw[aea,hh] at h0;omega) (by (have hh:cm f.op f.name=f.name:=(by simp only[cm,c3,c4,c5,false_eq_true,if_true,if_false]));(have h0:=qis f 0 (Nat.zero_le _));rw[aea,hh] at h0;omega)) rfl rfl rfl (lb rfl) (lb rfl) (by simp only[go_sem];decide) (qgn a l ha _) rfl (mc a l ha) rfl (by simp only[qed,qxc];rfl) ?_
         refine qd 0 (by simp only[go_sem];rfl) ?_
         refine qc ?_;refine qj ?_;refine qhc () ?_ ?_
         · refine Ent.cut (lb rfl) (lb rfl) (.keep rfl rfl (.junk (.junk (.keep rfl rfl (.nil _))))) rfl (.cons (by have hh:cm f.op f.name=f.name:=(by simp only[cm,c3,c4,c5,false_eq_true,if_true,if_false]);rw[hh,qvk a (ajk hok c5)];rfl) (.cons (by have hh:cm f.op f.name=f.name:=(by simp only[cm,c3,c4,c5,false_eq_true,if_true,if_false]);rw[hh];rfl) (.cons (rfl) (.nil _ _)))) (by simp only[all_cons,all_nil,vh _ (qvb ha _) _ 3 (by decide),qfg,AV.inK,Bool.and_true])
         · trivial
       · skip
         refine qg ?_;refine qb (by simp only[go_sem];rfl) ?_
         refine qd 2 (by simp only[go_sem,c5];rfl) ?_
         refine qc ?_;refine qa ?_;refine qm (by simp only[go_sem];rfl) (fun c6=>?_) (fun c6=>?_)
         · skip
           refine qb (by simp only[go_sem];rfl) ?_
           refine qd 1 (by simp only[go_sem,c6];rfl) ?_
           refine qo rfl (by simp only[go_sem]) rfl (by simp only[go_sem];rfl) (by simp only[go_sem];rfl) ?_
           refine qfc [0,1] (qse a ha l 126 (by omega) (by omega)) rfl rfl rfl (lb rfl) (lb rfl) (by simp only[go_sem];decide) (qgn a l ha _) rfl (mc a l ha) rfl (by simp only[qed,qxc];rfl) ?_
           refine qd 0 (by simp only[go_sem];rfl) ?_
           refine qc ?_;refine qj ?_;refine qhc () ?_ ?_
           · refine Ent.cut (lb rfl) (lb rfl) (.keep rfl rfl (.junk (.junk (.keep rfl rfl (.nil _))))) rfl (.cons (by have hh:cm f.op f.name=[126]:=(by simp only[cm,c3,c4,c5,c6,false_eq_true,if_true,if_false]);rw[hh,qvk a (by simp)];rfl) (.cons (by have hh:cm f.op f.name=[126]:=(by simp only[cm,c3,c4,c5,c6,false_eq_true,if_true,if_false]);rw[hh];rfl) (.cons (rfl) (.nil _ _)))) (by simp only[all_cons,all_nil,vh _ (qvb ha _) _ 3 (by decide),qfg,AV.inK,Bool.and_true])
           · trivial
         · skip
           refine qt ?_;refine qj ?_;refine qhc () ?_ ?_
           · refine Ent.cut (lb rfl) (lb rfl) (.keep rfl rfl (.junk (.junk (.keep rfl rfl (.nil _))))) rfl (.cons (by have hh:cm f.op f.name=[]:=(by simp only[cm,c3,c4,c5,c6,false_eq_true,if_false]);rw[hh,append_nil];rfl) (.cons (by have hh:cm f.op f.name=[]:=(by simp only[cm,c3,c4,c5,c6,false_eq_true,if_false]);rw[hh,append_nil];rfl) (.cons (rfl) (.nil _ _)))) (by simp only[all_cons,all_nil,vh _ (qvb ha _) _ 3 (by decide),qfg,AV.inK,Bool.and_true])
           · trivial
end Go.Proofs.YtefjlhhicgepfaaGreatDoor

namespace Go.Proofs.YtefjlhhicgepfaaGreatDoor
open Go.Proofs.Tryz (prog)
open Go Am
set_option maxRecDepth 100000
variable {G:bl}
theorem a44(o:Int):(iw o).length≤5:=by unfold iw;(repeat' split)<;>simp
theorem qzs{s:List UInt8}(h:al s=true):s.length≤12:=by
 simp only[al,and_eq_true,Bool.not_eq_true',Bool.or_eq_false_iff,decide_eq_false_iff_not] at h;omega
theorem avb{o:Int}{n:List UInt8}{a:List F}(h:named (.mk o n a)=true):(cm o n).length≤12:=by
 unfold cm
 split
 · simp
 · split
   · simp
   · split
     · rename_i h3;simp only[named,F.op,F.name,h3,if_true] at h;exact qzs h
     · split<;>simp
mutual
theorem qqv:∀ f:F,F.allF named f=true→(F.text f).length+8≤20*f.size
 | .mk o n a,h=>by
  simp only[F.allF,and_eq_true] at h;have h1:=avb h.1;have h2:=alr o 0 a h.2;simp only[F.text,F.size,length_append];omega
theorem alr(o:Int):∀ (i:Nat) (l:List F),F.allFs named l=true→(F.texts o i l).length≤20*F.sizes l
 | _,[],_=>by simp[F.texts]
 | i,g::l,h=>by
  simp only[F.allFs,and_eq_true] at h;have h1:=qqv g h.1;have h2:=alr o (i+1) l h.2;have h3:=a44 o;simp only[F.texts,F.sizes,length_append]
  (repeat' split)<;>simp<;>omega
end
theorem axs{f:F}(h:good f=true):F.text f≠[]:=by
 have key:∀ n:Nat,∀ f:F,f.size≤n→good f=true→F.text f≠[]:=by
  intro n
  induction n with
  | zero=>intro f hf;have:=F.size_pos f;omega
  | succ n ih=>
   intro f hf hg;rw[F.text_eq];obtain ⟨h1,h2⟩:=qjh hg;intro he;rw[List.append_eq_nil_iff] at he;obtain ⟨e1,e2⟩:=he;cases ha:f.args with
   | cons g l=>
    rw[ha,F.texts_cons,List.append_eq_nil_iff] at e2;have hj:0<f.args.length:=by rw[ha];simp
    have hga:=qrp hg 0 hj;have cf:=F.size_arg f 0 hj;have hg0:f.args[0]=g:=by simp[ha]
    rw[hg0] at hga cf;have:=ih g (by omega) hga
    have e3:=e2.1;simp only[F.piece,List.append_eq_nil_iff] at e3;have e4:=e3.2
    split at e4
    · simp at e4
    · exact this e4
   | nil=>
    simp only[be,ha,length_nil] at h2;unfold cm at e1
    split at e1
    · simp at e1
    · split at e1
      · simp at e1
      · split at e1
        · rename_i h3;exact ajk hg h3 e1
        · split at e1
          · simp at e1
          · rename_i q1 q2 q3 q4;simp[q1,q2,q3,q4] at h2
 exact key f.size f (Nat.le_refl _) h
theorem ar9(hG:G 0=some wordsD)(f:F)(hs:f.size<4611686018427387904)(hok:good f=true)(a:AV)(l:List UInt8)(ha:a=kt∨a=b9)(hl:l.length+(F.text f).length≤70368744177664) :
 CC prog G 28 [bld a (gp l),byt l] [b9,lf f] [bld (aOf a (F.text f)) (gp (l++F.text f)),byt (l++F.text f)] (.tup []):=
 qgz (Q:=fun f=>good f=true→∀ (a:AV) (l:List UInt8),(a=kt∨a=b9)→l.length+(F.text f).length≤70368744177664→
  CC prog G 28 [bld a (gp l),byt l] [b9,lf f] [bld (aOf a (F.text f)) (gp (l++F.text f)),byt (l++F.text f)] (.tup []))
  (fun n ih f hn hs hok a l ha hl=>apm hG n ih f hn hs hok a l ha hl) f hs hok a l ha hl
end Go.Proofs.YtefjlhhicgepfaaGreatDoor

namespace Go.Proofs.YtefjlhhicgepfaaGreatDoor
open Go.Proofs.Tryz (prog)
open Go Am
set_option maxRecDepth 100000
set_option maxHeartbeats 1000000
variable {G:bl}
theorem af4(a:AV)(l:List UInt8)(id:Nat):[some ({ fz:=false,ap:=false,ty:=79,sz:=2,rows:=[[a.ren (mOf [1,2] id),.own 2 l.length 0 l.length]] }:Blk),some (byt l)]=[bld a (gp l),byt l].map fun b=>some (b.ren (mOf [1,2] id)):=by
 simp only[List.map_cons,List.map_nil,qxc];rfl
theorem a2k{f:F}(h:ca f=0):good f=true∧f.size≤600∧f.depth≤20:=by
 unfold ca at h
 (repeat' split at h)<;>simp_all [good]
 omega
def mj(f:F):List UInt8:=if ca f != 0 then [] else if decide (((F.text f).length:Int)>4096) then [] else F.text f
def l5(f:F):Int:=if ca f != 0 then ca f else if decide (((F.text f).length:Int)>4096) then 2 else 0
theorem ars(hG:G 0=some wordsD)(f:F)(hs:f.size<4611686018427387904):CC prog G 10 [] [lf f] [] (.tup [.d (.str (mj f)),i64 (l5 f)]):=by
 refine CC.go Tryz.func10 rfl rfl Tryz.ntmps10 (k0:=0) rfl (lb rfl) (by rfl) (by rfl) ?_
 refine qg ?_;refine qb (by simp only[go_sem];rfl) ?_
 refine qd 3 (by simp only[go_sem];rfl) ?_
 refine qc ?_;refine qa ?_;refine qg ?_;refine qg ?_;refine qb (by simp only[go_sem];rfl) ?_
 refine qd 1 (by simp only[go_sem];rfl) ?_
 refine qo rfl (by simp only[go_sem]) rfl (by simp only[go_sem];rfl) (by simp only[go_sem];rfl) ?_
 refine qjc (ap4 f hs) rfl rfl rfl ?_;refine qd 1 (by simp only[go_sem];rfl) ?_
 refine qc ?_;refine qa ?_;refine qg ?_;refine qb (by simp only[go_sem];rfl) ?_
 refine qd 2 (by simp only[go_sem];rfl) ?_
 refine qc ?_;refine qa ?_;refine qm (by simp only[go_sem];rfl) (fun c0=>?_) (fun c0=>?_)
 · skip
   refine qg ?_;refine qb (by simp only[go_sem];rfl) ?_
   refine qd 3 (by simp only[go_sem,c0];rfl) ?_
   refine qc ?_;refine qa ?_;refine qn ?_;refine ql ?_;refine qjb (.inr rfl) (rs:=[.tmp 2,.tmp 3]) rfl (by simp only[go_sem];rfl) ?_
   refine ⟨?_,rfl⟩;simp only[mj,l5,c0,if_true]
 · skip
   have hv:ca f=0:=by simpa using c0
   obtain ⟨hg,de,hdp⟩:=a2k hv;have fo:=qqv f (by simp only[good,and_eq_true] at hg;exact hg.2)
   have htn:=axs hg;have ar6:aOf kt (F.text f)=b9:=qvk _ htn;have mp:0<(F.text f).length:=List.length_pos_iff.2 htn;refine qt ?_;refine qa ?_;refine qg ?_;refine qb (by simp only[go_sem];rfl) ?_
   refine qd 1 (by simp only[go_sem,c0];rfl) ?_
   refine qc ?_;refine qeq (Ent.ghostH (k:=0) 1 0 1 5 1 rfl (lb rfl) (lb rfl) rfl) ?_;refine qg ?_;refine qb (by simp only[go_sem];rfl) ?_
   refine qd 1 (by simp only[go_sem];rfl) ?_
   refine qo rfl (by simp only[go_sem]) rfl (by simp only[go_sem];rfl) (by simp only[go_sem];rfl) ?_
   refine qfc [1,2] (ar9 hG f hs hg kt [] (.inl rfl) (by simp only[length_nil];omega)) rfl rfl rfl (lb rfl) (lb rfl) (by simp only[go_sem];decide) (af4 kt [] _) rfl (mc kt [] (.inl rfl)) rfl (by simp only[qed,qxc,ar6];rfl) ?_
   refine qd 0 (by simp only[go_sem];rfl) ?_
   refine qc ?_;refine qa ?_;refine qg ?_;refine qg ?_;refine qb (by simp only[go_sem];rfl) ?_
   refine qd 0 (by simp only[go_sem];rfl) ?_
   refine qo rfl (by simp only[go_sem]) rfl (by simp only[go_sem];rfl) (by simp only[go_sem];rfl) ?_
   refine qfc [1,2] (atq b9 (.inr rfl) (F.text f)) rfl rfl rfl (lb rfl) (lb rfl) (by simp only[go_sem];decide) (af4 b9 (F.text f) _) rfl (mc b9 _ (.inr rfl)) rfl (by simp only[qed,qxc];rfl) ?_
   refine qd 1 (by simp only[go_sem];rfl) ?_
   refine qc ?_;refine qa ?_;refine qm (by simp only[go_sem];rfl) (fun c1=>?_) (fun c1=>?_)
   · skip
     refine qg ?_;refine qb (by simp only[go_sem];rfl) ?_
     refine qd 2 (by simp only[go_sem,c1];rfl) ?_
     refine qc ?_;refine qa ?_;refine qn ?_;refine ql ?_;refine qjb (.inr rfl) (rs:=[.tmp 2,.tmp 3]) rfl (by simp only[go_sem];rfl) ?_
     refine ⟨?_,rfl⟩;simp only[mj,l5,c0,c1,false_eq_true,if_true,if_false]
   · skip
     refine qt ?_;refine qa ?_;refine qg ?_;refine qb (by simp only[go_sem];rfl) ?_
     refine qd 0 (by simp only[go_sem,c1];rfl) ?_
     refine qo rfl (by simp only[go_sem]) rfl (by simp only[go_sem];rfl) (by simp only[go_sem];rfl) ?_
     refine qfc [1,2] (a1e b9 (.inr rfl) (F.text f) mp (by omega) (by omega)) rfl rfl rfl (lb rfl) (lb rfl) (by simp only[go_sem];decide) (af4 b9 (F.text f) _) rfl (mc b9 _ (.inr rfl)) rfl (by simp only[qed];rfl) ?_
     refine qd 2 (by simp only[go_sem];rfl) ?_
     refine qc ?_;refine qa ?_;refine qn ?_;refine qjb (.inr rfl) (rs:=[.tmp 2,.tmp 3]) rfl (by simp only[go_sem];rfl) ?_
     refine ⟨?_,rfl⟩;simp only[mj,l5,c0,c1,false_eq_true,if_false]
end Go.Proofs.YtefjlhhicgepfaaGreatDoor

namespace Go.Proofs.YtefjlhhicgepfaaGreatDoor
open Go.Proofs.Tryz (prog)
open Go Am
set_option maxRecDepth 100000
set_option maxHeartbeats 1000000
variable {G:bl}
def mq(G:bl):Prop:=G 0=some wordsD
def zn:PF:=fun a=>match F.decN 1000 a with
 | some f=>if f.size<4611686018427387904 then some [.str (mj f),.int .i64 (l5 f)] else none
 | none=>none
def fsg:Sig:=⟨10,3,[],[(.agg [(.atm (.v 0)),(.atm (.v 1)),(.atm (.v 2))])],2,[],(.tup [(.atm (.v 0)),(.atm (.v 1))]),false,[]⟩
theorem qlv{a o:List D}(h:zn a=some o):∃ f:F,a=f.enc∧f.size<4611686018427387904∧o=[.str (mj f),.int .i64 (l5 f)]:=by
 unfold zn at h
 split at h
 · rename_i f hf
   split at h
   · rename_i hs;simp only[Option.some.injEq] at h;exact ⟨f,(F.decN_ok _ _ _ hf).symm,hs,h.symm⟩
   · simp at h
 · simp at h
theorem amg{a o:List D}(h:zn a=some o):EWF o:=by
 obtain ⟨f,_,_,rfl⟩:=qlv h;intro d hd;simp only[List.mem_cons,List.not_mem_nil,or_false] at hd;rcases hd with rfl|rfl
 · exact .str _
 · exact .int _ _
theorem avi(hG:mq G):jh prog G zn fsg:=by
 intro ins outs jb hl m9 hr i6;obtain ⟨f,rfl,hs,rfl⟩:=qlv hr;refine ⟨amg hr,?_⟩;have:=ars hG f hs;rw[F.enc_eq];exact ⟨this,fun i hi=>by simp[fsg,inL] at hi⟩
end Go.Proofs.YtefjlhhicgepfaaGreatDoor
