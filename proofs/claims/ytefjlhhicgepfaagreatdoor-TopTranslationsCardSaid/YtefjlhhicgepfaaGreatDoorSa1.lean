/- Lemmas. -/
import Derived.Test.YtefjlhhicgepfaaGreatDoorSaTy
import Derived.Test.YtefjlhhicgepfaaGreatDoorAm4
set_option linter.unusedSimpArgs false
set_option linter.unusedVariables false
set_option linter.unusedSectionVars false
open Bool (false_eq_true)
namespace Go.Proofs.YtefjlhhicgepfaaGreatDoor
open Go.Proofs.Tryz (prog)
open Go Am
set_option maxRecDepth 100000
set_option maxHeartbeats 1000000
abbrev i64(n:Int):AV:=.d (.int .i64 n)
theorem Tryz.mixed:prog.follows .mixedOrders=true:=by kernel_rfl
abbrev lf(f:F):AV:=.agg [.d (.int .i64 f.op),.d (.str f.name),.d (.sl (F.encs f.args))]
variable {G:bl}
theorem ayx(n:Nat)(ih:∀ g:F,g.size<n→CC prog G 34 [] [lf g] [] (i64 g.size))(f:F)(hn:f.size≤n)(hs:n<4611686018427387904):CC prog G 34 [] [lf f] [] (i64 f.size):=by
 refine CC.go Tryz.func34 rfl rfl Tryz.ntmps34 (k0:=0) rfl (lb rfl) (by rfl) (by rfl) ?_
 refine qg ?_;refine qb (by simp only[go_sem];rfl) ?_
 refine qd 2 (by simp only[go_sem];rfl) ?_
 refine qc ?_;refine qa ?_;refine qg ?_;refine qb (by simp only[go_sem];rfl) ?_
 refine qd 1 (by simp only[go_sem];rfl) ?_
 refine qc ?_;refine qa ?_;refine qg ?_;refine qg ?_;refine qb (by simp only[go_sem];rfl) ?_
 refine qd 4 (by simp only[go_sem];rfl) ?_
 refine qc ?_;refine qa ?_;refine qdb ?_;refine qrf (ι:=Nat) (fun (x:Nat)=>(match x with|j=>⟨tl [.junk,.junk,.junk,i64 ((1+F.sizes (f.args.take j):Nat):Int),.junk,.junk,.junk,.d (.sl (F.encs f.args)),i64 (f.args.length:Int),i64 (j:Int)],hl [],0,19⟩)) (fun x=>match x with|j=>j≤f.args.length) (fun x=>match x with|j=>f.args.length-j) 0 ?_ ?_ ?_
 · refine Ent.cut (lb rfl) (lb rfl) (.junk (.junk (.junk (.keepE (by simp only[go_sem];rfl) (by simp[F.sizes]) rfl (.junk (.junk (.junk (.keep rfl rfl (.keepE (by simp only[go_sem];rfl) (by rw[F.encs_len]) rfl (.keep rfl rfl (.nil _))))))))))) rfl (.nil _ _) (rfl)
 · exact Nat.zero_le _
 · rintro j hI
   try dsimp only at hI
   dsimp only
   refine qg ?_;refine qb (by simp only[go_sem];rfl) ?_
   refine qd 1 (by simp only[go_sem];rfl) ?_
   refine qc ?_;refine qa ?_;refine qg ?_;refine qm (by simp only[go_sem];rfl) (fun c0=>?_) (fun c0=>?_)
   · skip
     have hj:j<f.args.length:=by simpa using c0
     have mz:=F.encs_get f.args j hj;have hen:=F.enc_eq (f.args[j]);have cf:=F.size_arg f j hj;have hla:=F.sizes_len f.args;have om:=F.sizes_take_le f.args (j+1);have anh:=F.sizes_take f.args j hj;have hse:=F.size_eq f;refine qt ?_;refine qa ?_;refine qg ?_;refine qdb ?_;refine qg ?_;refine qb (by simp only[go_sem];rfl) ?_
     refine qd 4 (by simp only[go_sem,c0,mz,hen];rfl) ?_
     refine qc ?_;refine qa ?_;refine qb (by simp only[go_sem];rfl) ?_
     refine qd 2 (by simp only[go_sem];rfl) ?_
     refine qo rfl (by simp only[go_sem]) rfl (by simp only[go_sem];rfl) (by simp only[go_sem];rfl) ?_
     refine qjc (ih (f.args[j]) (by omega)) rfl rfl rfl ?_
     refine qd 2 (by simp only[go_sem];rfl) ?_
     refine qc ?_;refine qj ?_;refine qa ?_;refine qb (by simp only[go_sem];rfl) ?_
     refine qd 2 (by simp only[go_sem];rfl) ?_
     refine qc ?_;refine qcb (j+1) ?_ ?_ ?_
     · refine Ent.cut (lb rfl) (lb rfl) (.junk (.junk (.junk (.keepE (by simp only[go_sem];rfl) (by rw[wr (by omega) (by omega),F.sizes_take _ _ hj];congr 2;omega) rfl (.junk (.junk (.junk (.keep rfl rfl (.keep rfl rfl (.keepE (by simp only[go_sem];rfl) (by rw[wr (by omega) (by omega)];rfl) rfl (.nil _))))))))))) rfl (.nil _ _) (rfl)
     · exact hj
     · omega
   · skip
     refine qah ?_;refine qpf (qne (qrd ?_));refine qa ?_;refine qg ?_;refine qb (by simp only[go_sem];rfl) ?_
     refine qd 2 (by simp only[go_sem,c0];rfl) ?_
     refine qc ?_;refine qa ?_;refine qn ?_;refine qjb (.inr rfl) (rs:=[.tmp 2]) rfl (by simp only[go_sem];rfl) ?_
     have hj:j=f.args.length:=by simp at c0;omega
     refine ⟨?_,rfl⟩;rw[F.size_eq f,hj,List.take_length]
abbrev bb(b:Bool):AV:=.d (.bool b)
theorem atx(n:Nat)(ih:∀ g:F,g.size<n→CC prog G 35 [] [lf g] [] (i64 g.depth))(f:F)(hn:f.size≤n)(hs:n<4611686018427387904):CC prog G 35 [] [lf f] [] (i64 f.depth):=by
 refine CC.go Tryz.func35 rfl rfl Tryz.ntmps35 (k0:=0) rfl (lb rfl) (by rfl) (by rfl) ?_
 refine qg ?_;refine qb (by simp only[go_sem];rfl) ?_
 refine qd 2 (by simp only[go_sem];rfl) ?_
 refine qc ?_;refine qa ?_;refine qg ?_;refine qb (by simp only[go_sem];rfl) ?_
 refine qd 1 (by simp only[go_sem];rfl) ?_
 refine qc ?_;refine qa ?_;refine qg ?_;refine qg ?_;refine qb (by simp only[go_sem];rfl) ?_
 refine qd 4 (by simp only[go_sem];rfl) ?_
 refine qc ?_;refine qa ?_;refine qdb ?_;refine qrf (ι:=Nat) (fun (x:Nat)=>(match x with|j=>⟨tl [.junk,.junk,.junk,i64 ((F.depths (f.args.take j):Nat):Int),.junk,.junk,.junk,.d (.sl (F.encs f.args)),i64 (f.args.length:Int),i64 (j:Int)],hl [],0,20⟩)) (fun x=>match x with|j=>j≤f.args.length) (fun x=>match x with|j=>f.args.length-j) 0 ?_ ?_ ?_
 · refine Ent.cut (lb rfl) (lb rfl) (.junk (.junk (.junk (.keepE (by simp only[go_sem];rfl) (by simp[F.depths]) rfl (.junk (.junk (.junk (.keep rfl rfl (.keepE (by simp only[go_sem];rfl) (by rw[F.encs_len]) rfl (.keep rfl rfl (.nil _))))))))))) rfl (.nil _ _) (rfl)
 · exact Nat.zero_le _
 · rintro j hI
   try dsimp only at hI
   dsimp only
   refine qg ?_;refine qb (by simp only[go_sem];rfl) ?_
   refine qd 1 (by simp only[go_sem];rfl) ?_
   refine qc ?_;refine qa ?_;refine qg ?_;refine qm (by simp only[go_sem];rfl) (fun c0=>?_) (fun c0=>?_)
   · skip
     have hj:j<f.args.length:=by simpa using c0
     have mz:=F.encs_get f.args j hj;have hen:=F.enc_eq (f.args[j]);have cf:=F.size_arg f j hj;have hla:=F.sizes_len f.args;have si:=F.depth_size (f.args[j]);have tp:=F.depths_take_size f.args j;have hse:=F.size_eq f;refine qt ?_;refine qa ?_;refine qg ?_;refine qdb ?_;refine qg ?_;refine qb (by simp only[go_sem];rfl) ?_
     refine qd 4 (by simp only[go_sem,c0,mz,hen];rfl) ?_
     refine qc ?_;refine qa ?_;refine qb (by simp only[go_sem];rfl) ?_
     refine qd 2 (by simp only[go_sem];rfl) ?_
     refine qo rfl (by simp only[go_sem]) rfl (by simp only[go_sem];rfl) (by simp only[go_sem];rfl) ?_
     refine qjc (ih (f.args[j]) (by omega)) rfl rfl rfl ?_
     refine qd 3 (by simp only[go_sem];rfl) ?_
     refine qc ?_;refine qj ?_;refine qa ?_;refine qb (by simp only[go_sem];rfl) ?_
     refine qd 2 (by simp only[go_sem];rfl) ?_
     refine qc ?_;refine qcb (j+1) ?_ ?_ ?_
     · refine Ent.cut (lb rfl) (lb rfl) (.junk (.junk (.junk (.keepE (by simp only[go_sem];rfl) (by rw[wr (by omega) (by omega),F.depths_take _ _ hj];congr 2;split<;>omega) rfl (.junk (.junk (.junk (.keep rfl rfl (.keep rfl rfl (.keepE (by simp only[go_sem];rfl) (by rw[wr (by omega) (by omega)];rfl) rfl (.nil _))))))))))) rfl (.nil _ _) (rfl)
     · exact hj
     · omega
   · skip
     refine qah ?_;refine qpf (qne (qrd ?_));refine qa ?_;refine qg ?_;refine qb (by simp only[go_sem];rfl) ?_
     refine qd 2 (by simp only[go_sem,c0];rfl) ?_
     refine qc ?_;refine qa ?_;refine qn ?_;refine qjb (.inr rfl) (rs:=[.tmp 2]) rfl (by simp only[go_sem];rfl) ?_
     have hj:j=f.args.length:=by simp at c0;omega
     refine ⟨?_,rfl⟩;rw[F.depth_eq f,hj,List.take_length]
theorem awa(f:F):CC prog G 72 [] [lf f] [] (i64 (ew f)):=by
 refine CC.go Tryz.func72 rfl rfl Tryz.ntmps72 (k0:=0) rfl (lb rfl) (by rfl) (by rfl) ?_
 refine qg ?_;refine qb (by simp only[go_sem];rfl) ?_
 refine qd 2 (by simp only[go_sem];rfl) ?_
 refine qc ?_;refine qa ?_;refine qg ?_;refine qg ?_;refine qb (by simp only[go_sem];rfl) ?_
 refine qd 2 (by simp only[go_sem];rfl) ?_
 refine qc ?_;refine qa ?_;refine qdb ?_;refine qg ?_;refine qb (by simp only[go_sem];rfl) ?_
 refine qd 2 (by simp only[go_sem];rfl) ?_
 refine qc ?_;refine qa ?_;refine qm (by simp only[go_sem];rfl) (fun c0=>?_) (fun c0=>?_)
 · skip
   refine qg ?_;refine qb (by simp only[go_sem];rfl) ?_
   refine qd 1 (by simp only[go_sem,c0];rfl) ?_
   refine qc ?_;refine qa ?_;refine qn ?_;refine qi (ql ?_);refine qjb (.inr rfl) (rs:=[.tmp 2]) rfl (by simp only[go_sem];rfl) ?_
   refine ⟨?_,rfl⟩;simp only[ew,c0,if_true]
 · skip
   refine qg ?_;refine qb (by simp only[go_sem];rfl) ?_
   refine qd 2 (by simp only[go_sem,c0];rfl) ?_
   refine qc ?_;refine qa ?_;refine qm (by simp only[go_sem];rfl) (fun c1=>?_) (fun c1=>?_)
   · skip
     refine qg ?_;refine qb (by simp only[go_sem];rfl) ?_
     refine qd 1 (by simp only[go_sem,c1];rfl) ?_
     refine qc ?_;refine qa ?_;refine qn ?_;refine qi (ql ?_);refine qjb (.inr rfl) (rs:=[.tmp 2]) rfl (by simp only[go_sem];rfl) ?_
     refine ⟨?_,rfl⟩;simp only[ew,c0,c1,false_eq_true,if_true,if_false]
   · skip
     refine qg ?_;refine qb (by simp only[go_sem];rfl) ?_
     refine qd 2 (by simp only[go_sem,c1];rfl) ?_
     refine qc ?_;refine qa ?_;refine qm (by simp only[go_sem];rfl) (fun c2=>?_) (fun c2=>?_)
     · skip
       refine qg ?_;refine qb (by simp only[go_sem];rfl) ?_
       refine qd 1 (by simp only[go_sem,c2];rfl) ?_
       refine qc ?_;refine qa ?_;refine qn ?_;refine qi (ql ?_);refine qjb (.inr rfl) (rs:=[.tmp 2]) rfl (by simp only[go_sem];rfl) ?_
       refine ⟨?_,rfl⟩;simp only[ew,c0,c1,c2,false_eq_true,if_true,if_false]
     · skip
       refine qg ?_;refine qb (by simp only[go_sem];rfl) ?_
       refine qd 2 (by simp only[go_sem,c2];rfl) ?_
       refine qc ?_;refine qa ?_;refine qm (by simp only[go_sem];rfl) (fun c3=>?_) (fun c3=>?_)
       · skip
         refine qg ?_;refine qb (by simp only[go_sem];rfl) ?_
         refine qd 1 (by simp only[go_sem,c3];rfl) ?_
         refine qc ?_;refine qa ?_;refine qn ?_;refine qi (ql ?_);refine qjb (.inr rfl) (rs:=[.tmp 2]) rfl (by simp only[go_sem];rfl) ?_
         refine ⟨?_,rfl⟩;simp only[ew,c0,c1,c2,c3,false_eq_true,if_true,if_false]
       · skip
         refine qt ?_;refine qj ?_;refine qa ?_;refine qg ?_;refine qb (by simp only[go_sem];rfl) ?_
         refine qd 1 (by simp only[go_sem,c3];rfl) ?_
         refine qc ?_;refine qa ?_;refine qn ?_;refine qjb (.inr rfl) (rs:=[.tmp 2]) rfl (by simp only[go_sem];rfl) ?_
         refine ⟨?_,rfl⟩;simp only[ew,c0,c1,c2,c3,false_eq_true,if_false]
theorem azg(f:F)(i:Int)(h0:0≤i)(h1:i<4611686018427387904):CC prog G 73 [] [lf f,i64 i] [] (i64 (pa f i)):=by
 refine CC.go Tryz.func73 rfl rfl Tryz.ntmps73 (k0:=0) rfl (lb rfl) (by rfl) (by rfl) ?_
 refine qg ?_;refine qb (by simp only[go_sem];rfl) ?_
 refine qd 2 (by simp only[go_sem];rfl) ?_
 refine qc ?_;refine qa ?_;refine qg ?_;refine qg ?_;refine qb (by simp only[go_sem];rfl) ?_
 refine qd 2 (by simp only[go_sem];rfl) ?_
 refine qc ?_;refine qa ?_;refine qdb ?_;refine qg ?_;refine qg ?_;refine qb (by simp only[go_sem];rfl) ?_
 refine qd 2 (by simp only[go_sem];rfl) ?_
 refine qc ?_;refine qa ?_;refine qm (by simp only[go_sem];rfl) (fun c0=>?_) (fun c0=>?_)
 · skip
   refine qt ?_;refine qa ?_;refine qlb (by simp only[go_sem,c0]) ?_
   refine qg ?_;refine qb (by simp only[go_sem];rfl) ?_
   refine qd 1 (by simp only[go_sem,c0];rfl) ?_
   refine qc ?_;refine qa ?_;refine qn ?_;refine qi (ql ?_);refine qjb (.inr rfl) (rs:=[.tmp 4]) rfl (by simp only[go_sem];rfl) ?_
   refine ⟨?_,rfl⟩;simp only[pa,c0,Bool.true_or,if_true]
 · skip
   refine qb (by simp only[go_sem];rfl) ?_
   refine qd 2 (by simp only[go_sem,c0];rfl) ?_
   refine qc ?_;refine qa ?_;refine qm (by simp only[go_sem];rfl) (fun c1=>?_) (fun c1=>?_)
   · skip
     refine qg ?_;refine qb (by simp only[go_sem];rfl) ?_
     refine qd 1 (by simp only[go_sem,c1];rfl) ?_
     refine qc ?_;refine qa ?_;refine qn ?_;refine qi (ql ?_);refine qjb (.inr rfl) (rs:=[.tmp 4]) rfl (by simp only[go_sem];rfl) ?_
     refine ⟨?_,rfl⟩;simp only[pa,c0,c1,Bool.or_true,if_true]
   · skip
     refine qg ?_;refine qb (by simp only[go_sem];rfl) ?_
     refine qd 2 (by simp only[go_sem,c1];rfl) ?_
     refine qc ?_;refine qa ?_;refine qm (by simp only[go_sem];rfl) (fun c2=>?_) (fun c2=>?_)
     · skip
       refine qg ?_;refine qb (by simp only[go_sem];rfl) ?_
       refine qd 1 (by simp only[go_sem,c2];rfl) ?_
       refine qc ?_;refine qa ?_;refine qn ?_;refine qi (ql ?_);refine qjb (.inr rfl) (rs:=[.tmp 4]) rfl (by simp only[go_sem];rfl) ?_
       refine ⟨?_,rfl⟩;simp only[pa,c0,c1,c2,Bool.or_false,false_eq_true,if_true,if_false]
     · skip
       refine qg ?_;refine qb (by simp only[go_sem];rfl) ?_
       refine qd 2 (by simp only[go_sem,c2];rfl) ?_
       refine qc ?_;refine qa ?_;refine qm (by simp only[go_sem];rfl) (fun c3=>?_) (fun c3=>?_)
       · skip
         refine qg ?_;refine qb (by simp only[go_sem];rfl) ?_
         refine qd 3 (by simp only[go_sem,c3];rfl) ?_
         refine qc ?_;refine qa ?_;refine qn ?_;refine qi (ql ?_);refine qjb (.inr rfl) (rs:=[.tmp 4]) rfl (by simp only[go_sem];rfl) ?_
         refine ⟨?_,rfl⟩;simp only[pa,c0,c1,c2,c3,wr (n:=3-i) (by omega) (by omega),Bool.or_false,false_eq_true,if_true,if_false]
       · skip
         refine qt ?_;refine qj ?_;refine qa ?_;refine qg ?_;refine qb (by simp only[go_sem];rfl) ?_
         refine qd 1 (by simp only[go_sem,c3];rfl) ?_
         refine qc ?_;refine qa ?_;refine qn ?_;refine qjb (.inr rfl) (rs:=[.tmp 4]) rfl (by simp only[go_sem];rfl) ?_
         refine ⟨?_,rfl⟩;simp only[pa,c0,c1,c2,c3,Bool.or_false,false_eq_true,if_false]
theorem at3(f:F):CC prog G 68 [] [lf f] [] (bb (be f)):=by
 refine CC.go Tryz.func68 rfl rfl Tryz.ntmps68 (k0:=0) rfl (lb rfl) (by rfl) (by rfl) ?_
 refine qg ?_;refine qb (by simp only[go_sem];rfl) ?_
 refine qd 2 (by simp only[go_sem];rfl) ?_
 refine qc ?_;refine qa ?_;refine qg ?_;refine qb (by simp only[go_sem];rfl) ?_
 refine qd 4 (by simp only[go_sem,F.encs_len];rfl) ?_
 refine qc ?_;refine qa ?_;refine qg ?_;refine qg ?_;refine qb (by simp only[go_sem];rfl) ?_
 refine qd 2 (by simp only[go_sem];rfl) ?_
 refine qc ?_;refine qa ?_;refine qdb ?_;refine qg ?_;refine qg ?_;refine qb (by simp only[go_sem];rfl) ?_
 refine qd 2 (by simp only[go_sem];rfl) ?_
 refine qc ?_;refine qa ?_;refine qm (by simp only[go_sem];rfl) (fun c0=>?_) (fun c0=>?_)
 · skip
   refine qt ?_;refine qa ?_;refine qlb (by simp only[go_sem,c0]) ?_
   refine qg ?_;refine qb (by simp only[go_sem];rfl) ?_
   refine qd 3 (by simp only[go_sem,c0];rfl) ?_
   refine qc ?_;refine qa ?_;refine qn ?_;refine qi (ql ?_);refine qjb (.inr rfl) (rs:=[.tmp 2]) rfl (by simp only[go_sem];rfl) ?_
   refine ⟨?_,rfl⟩;simp only[be,c0,Bool.true_or,if_true]
 · skip
   refine qg ?_;refine qb (by simp only[go_sem];rfl) ?_
   refine qd 2 (by simp only[go_sem,c0];rfl) ?_
   refine qc ?_;refine qa ?_;refine qm (by simp only[go_sem];rfl) (fun c1=>?_) (fun c1=>?_)
   · skip
     refine qt ?_;refine qa ?_;refine qlb (by simp only[go_sem,c1]) ?_
     refine qg ?_;refine qb (by simp only[go_sem];rfl) ?_
     refine qd 3 (by simp only[go_sem,c1];rfl) ?_
     refine qc ?_;refine qa ?_;refine qn ?_;refine qi (ql ?_);refine qjb (.inr rfl) (rs:=[.tmp 2]) rfl (by simp only[go_sem];rfl) ?_
     refine ⟨?_,rfl⟩;simp only[be,c0,c1,Bool.or_true,Bool.true_or,if_true]
   · skip
     refine qb (by simp only[go_sem];rfl) ?_
     refine qd 2 (by simp only[go_sem,c1];rfl) ?_
     refine qc ?_;refine qa ?_;refine qm (by simp only[go_sem];rfl) (fun c2=>?_) (fun c2=>?_)
     · skip
       refine qg ?_;refine qb (by simp only[go_sem];rfl) ?_
       refine qd 3 (by simp only[go_sem,c2];rfl) ?_
       refine qc ?_;refine qa ?_;refine qn ?_;refine qi (ql ?_);refine qjb (.inr rfl) (rs:=[.tmp 2]) rfl (by simp only[go_sem];rfl) ?_
       refine ⟨?_,rfl⟩;simp only[be,c0,c1,c2,Bool.or_true,Bool.or_false,if_true]
     · skip
       refine qg ?_;refine qb (by simp only[go_sem];rfl) ?_
       refine qd 2 (by simp only[go_sem,c2];rfl) ?_
       refine qc ?_;refine qa ?_;refine qm (by simp only[go_sem];rfl) (fun c3=>?_) (fun c3=>?_)
       · skip
         refine qg ?_;refine qb (by simp only[go_sem];rfl) ?_
         refine qd 3 (by simp only[go_sem,c3];rfl) ?_
         refine qc ?_;refine qa ?_;refine qn ?_;refine qi (ql ?_);refine qjb (.inr rfl) (rs:=[.tmp 2]) rfl (by simp only[go_sem];rfl) ?_
         refine ⟨?_,rfl⟩;simp only[be,c0,c1,c2,c3,Bool.or_false,false_eq_true,if_true,if_false]
       · skip
         refine qg ?_;refine qg ?_;refine qb (by simp only[go_sem];rfl) ?_
         refine qd 2 (by simp only[go_sem,c3];rfl) ?_
         refine qc ?_;refine qa ?_;refine qm (by simp only[go_sem];rfl) (fun c4=>?_) (fun c4=>?_)
         · skip
           refine qt ?_;refine qa ?_;refine qlb (by simp only[go_sem,c4]) ?_
           refine qg ?_;refine qb (by simp only[go_sem];rfl) ?_
           refine qd 3 (by simp only[go_sem,c4];rfl) ?_
           refine qhd 24 (by simp only[go_sem];rfl) (fun g5=>?_) (fun g5=>?_)
           · skip
             refine qd 4 (by simp only[go_sem,g5];rfl) ?_
             refine qc ?_;refine qa ?_;refine qn ?_;refine qi (ql ?_);refine qjb (.inr rfl) (rs:=[.tmp 2]) rfl (by simp only[go_sem];rfl) ?_
             refine ⟨?_,rfl⟩;simp only[be,c0,c1,c2,c3,c4,g5,Bool.true_and,Bool.true_or,Bool.or_false,false_eq_true,if_true,if_false]
           · skip
             refine qd 4 (by simp only[go_sem,g5];rfl) ?_
             refine qc ?_;refine qa ?_;refine qn ?_;refine qi (ql ?_);refine qjb (.inr rfl) (rs:=[.tmp 2]) rfl (by simp only[go_sem];rfl) ?_
             refine ⟨?_,rfl⟩;simp only[be,c0,c1,c2,c3,c4,g5,Bool.false_and,Bool.true_or,Bool.or_false,false_eq_true,if_true,if_false]
         · skip
           refine qb (by simp only[go_sem];rfl) ?_
           refine qd 2 (by simp only[go_sem,c4];rfl) ?_
           refine qc ?_;refine qa ?_;refine qm (by simp only[go_sem];rfl) (fun c6=>?_) (fun c6=>?_)
           · skip
             refine qg ?_;refine qb (by simp only[go_sem];rfl) ?_
             refine qd 3 (by simp only[go_sem,c6];rfl) ?_
             refine qhd 24 (by simp only[go_sem];rfl) (fun g7=>?_) (fun g7=>?_)
             · skip
               refine qd 4 (by simp only[go_sem,g7];rfl) ?_
               refine qc ?_;refine qa ?_;refine qn ?_;refine qi (ql ?_);refine qjb (.inr rfl) (rs:=[.tmp 2]) rfl (by simp only[go_sem];rfl) ?_
               refine ⟨?_,rfl⟩;simp only[be,c0,c1,c2,c3,c4,c6,g7,Bool.true_and,Bool.or_true,Bool.or_false,false_eq_true,if_true,if_false]
             · skip
               refine qd 4 (by simp only[go_sem,g7];rfl) ?_
               refine qc ?_;refine qa ?_;refine qn ?_;refine qi (ql ?_);refine qjb (.inr rfl) (rs:=[.tmp 2]) rfl (by simp only[go_sem];rfl) ?_
               refine ⟨?_,rfl⟩;simp only[be,c0,c1,c2,c3,c4,c6,g7,Bool.false_and,Bool.or_true,Bool.or_false,false_eq_true,if_true,if_false]
           · skip
             refine qg ?_;refine qg ?_;refine qb (by simp only[go_sem];rfl) ?_
             refine qd 2 (by simp only[go_sem,c6];rfl) ?_
             refine qc ?_;refine qa ?_;refine qm (by simp only[go_sem];rfl) (fun c8=>?_) (fun c8=>?_)
             · skip
               refine qt ?_;refine qa ?_;refine qlb (by simp only[go_sem,c8]) ?_
               refine qg ?_;refine qb (by simp only[go_sem];rfl) ?_
               refine qd 3 (by simp only[go_sem,c8];rfl) ?_
               refine qc ?_;refine qa ?_;refine qn ?_;refine qi (ql ?_);refine qjb (.inr rfl) (rs:=[.tmp 2]) rfl (by simp only[go_sem];rfl) ?_
               refine ⟨?_,rfl⟩;simp only[be,c0,c1,c2,c3,c4,c6,c8,Bool.true_or,Bool.or_false,false_eq_true,if_true,if_false]
             · skip
               refine qb (by simp only[go_sem];rfl) ?_
               refine qd 2 (by simp only[go_sem,c8];rfl) ?_
               refine qc ?_;refine qa ?_;refine qm (by simp only[go_sem];rfl) (fun c9=>?_) (fun c9=>?_)
               · skip
                 refine qg ?_;refine qb (by simp only[go_sem];rfl) ?_
                 refine qd 3 (by simp only[go_sem,c9];rfl) ?_
                 refine qc ?_;refine qa ?_;refine qn ?_;refine qi (ql ?_);refine qjb (.inr rfl) (rs:=[.tmp 2]) rfl (by simp only[go_sem];rfl) ?_
                 refine ⟨?_,rfl⟩;simp only[be,c0,c1,c2,c3,c4,c6,c8,c9,Bool.or_true,Bool.or_false,false_eq_true,if_true,if_false]
               · skip
                 refine qt ?_;refine qj ?_;refine qa ?_;refine qg ?_;refine qb (by simp only[go_sem];rfl) ?_
                 refine qd 1 (by simp only[go_sem,c9];rfl) ?_
                 refine qc ?_;refine qa ?_;refine qn ?_;refine qjb (.inr rfl) (rs:=[.tmp 2]) rfl (by simp only[go_sem];rfl) ?_
                 refine ⟨?_,rfl⟩;simp only[be,c0,c1,c2,c3,c4,c6,c8,c9,Bool.or_false,false_eq_true,if_false]
theorem qmx(s:List UInt8):CC prog G 76 [] [.d (.str s)] [] (bb (al s)):=by
 refine CC.go Tryz.func76 rfl rfl Tryz.ntmps76 (k0:=0) rfl (lb rfl) (by rfl) (by rfl) ?_
 refine qg ?_;refine qb (by simp only[go_sem];rfl) ?_
 refine qd 1 (by simp only[go_sem];rfl) ?_
 refine qc ?_;refine qa ?_;refine qg ?_;refine qg ?_;refine qb (by simp only[go_sem];rfl) ?_
 refine qd 4 (by simp only[go_sem];rfl) ?_
 refine qhd 8 (by simp only[go_sem];rfl) (fun g0=>?_) (fun g0=>?_)
 · skip
   refine qd 4 (by simp only[go_sem,g0];rfl) ?_
   refine qc ?_;refine qa ?_;refine qlb (by simp only[go_sem]) ?_
   refine qg ?_;refine qb (by simp only[go_sem];rfl) ?_
   refine qd 1 (by simp only[go_sem];rfl) ?_
   refine qc ?_;refine qa ?_;refine qn ?_;refine ql ?_;refine qjb (.inr rfl) (rs:=[.tmp 2]) rfl (by simp only[go_sem];rfl) ?_
   refine ⟨?_,rfl⟩;simp only[al,g0,Bool.false_and,Bool.true_or,Bool.not_true]
 · skip
   refine qd 4 (by simp only[go_sem,g0];rfl) ?_
   refine qc ?_;refine qa ?_;refine qm (by simp only[go_sem];rfl) (fun c1=>?_) (fun c1=>?_)
   · skip
     refine qg ?_;refine qb (by simp only[go_sem];rfl) ?_
     refine qd 1 (by simp only[go_sem,c1];rfl) ?_
     refine qc ?_;refine qa ?_;refine qn ?_;refine ql ?_;refine qjb (.inr rfl) (rs:=[.tmp 2]) rfl (by simp only[go_sem];rfl) ?_
     refine ⟨?_,rfl⟩;simp only[al,g0,c1,Bool.false_and,Bool.or_true,Bool.not_true]
   · skip
     refine qt ?_;refine qa ?_;refine qg ?_;refine qg ?_;refine qb (by simp only[go_sem];rfl) ?_
     refine qd 3 (by simp only[go_sem,c1];rfl) ?_
     refine qc ?_;refine qa ?_;refine qdb ?_;refine qrf (ι:=Nat) (fun (x:Nat)=>(match x with|j=>⟨tl [.d (.str s),.junk,.junk,.junk,.junk,.junk,.junk,.junk,.junk,.junk,.junk,.junk,.junk,.junk,i64 (s.length:Int),i64 (j:Int)],hl [],0,44⟩)) (fun x=>match x with|j=>j≤s.length∧s.length≠0∧s.length≤12∧d7 j (s.drop j)=d7 0 s) (fun x=>match x with|j=>s.length-j) 0 ?_ ?_ ?_
     · refine Ent.cut (lb rfl) (lb rfl) (.keep rfl rfl (.junk (.junk (.junk (.junk (.junk (.junk (.junk (.junk (.junk (.junk (.junk (.junk (.junk (.keep rfl rfl (.keep rfl rfl (.nil _))))))))))))))))) rfl (.nil _ _) (rfl)
     · exact ⟨Nat.zero_le _,by intro h;simp[h] at g0,by simp at c1;omega,rfl⟩
     · rintro j hI
       try dsimp only at hI
       dsimp only
       refine qg ?_;refine qb (by simp only[go_sem];rfl) ?_
       refine qd 1 (by simp only[go_sem];rfl) ?_
       refine qc ?_;refine qa ?_;refine qg ?_;refine qm (by simp only[go_sem];rfl) (fun c2=>?_) (fun c2=>?_)
       · skip
         have hj:j<s.length:=by simpa using c2
         have mz:s[j]? = some s[j]:=List.getElem?_eq_getElem hj;have a6x:=hI.2.2.1;refine qt ?_;refine qa ?_;refine qg ?_;refine qdb ?_;refine qg ?_;refine qb (by simp only[go_sem];rfl) ?_
         refine qd 2 (by simp only[go_sem,c2];rfl) ?_
         refine qc ?_;refine qa ?_;refine qg ?_;refine qb (by simp only[go_sem];rfl) ?_
         refine qd 4 (by simp only[go_sem,mz];rfl) ?_
         refine qc ?_;refine qa ?_;refine qdb ?_;refine qg ?_;refine qb (by simp only[go_sem];rfl) ?_
         refine qd 3 (by simp only[go_sem];rfl) ?_
         refine qhd 24 (by simp only[go_sem];rfl) (fun g3=>?_) (fun g3=>?_)
         · skip
           refine qd 4 (by simp only[go_sem,g3];rfl) ?_
           refine qc ?_;refine qa ?_;refine qm (by simp only[go_sem];rfl) (fun c4=>?_) (fun c4=>?_)
           · skip
             refine qt ?_;refine qj ?_;refine qj ?_;refine qa ?_;refine qb (by simp only[go_sem];rfl) ?_
             refine qd 2 (by simp only[go_sem,c4];rfl) ?_
             refine qc ?_;refine qcb (j+1) ?_ ?_ ?_
             · refine Ent.cut (lb rfl) (lb rfl) (.keep rfl rfl (.junk (.junk (.junk (.junk (.junk (.junk (.junk (.junk (.junk (.junk (.junk (.junk (.junk (.keep rfl rfl (.keepE (by simp only[go_sem];rfl) (by rw[wr (by omega) (by omega)];rfl) rfl (.nil _))))))))))))))))) rfl (.nil _ _) (rfl)
             · refine ⟨hj,hI.2.1,hI.2.2.1,?_⟩;rw[← hI.2.2.2,qw s j hj]
               have h0:ce j s[j]=true:=by
                simp only[ce,g3,c4,Bool.and_true,Bool.true_or]
               rw[h0,Bool.true_and]
             · omega
           · skip
             refine qg ?_;refine qb (by simp only[go_sem];rfl) ?_
             refine qd 3 (by simp only[go_sem,c4];rfl) ?_
             refine qhd 31 (by simp only[go_sem];rfl) (fun g5=>?_) (fun g5=>?_)
             · skip
               refine qd 3 (by simp only[go_sem,g5];rfl) ?_
               refine qhd 34 (by simp only[go_sem];rfl) (fun g6=>?_) (fun g6=>?_)
               · skip
                 refine qd 4 (by simp only[go_sem,g6];rfl) ?_
                 refine qhd 38 (by simp only[go_sem];rfl) (fun g7=>?_) (fun g7=>?_)
                 · skip
                   refine qd 5 (by simp only[go_sem,g7];rfl) ?_
                   refine qc ?_;refine qa ?_;refine qlb (by simp only[go_sem]) ?_
                   refine qt ?_;refine qj ?_;refine qj ?_;refine qa ?_;refine qb (by simp only[go_sem];rfl) ?_
                   refine qd 2 (by simp only[go_sem];rfl) ?_
                   refine qc ?_;refine qcb (j+1) ?_ ?_ ?_
                   · refine Ent.cut (lb rfl) (lb rfl) (.keep rfl rfl (.junk (.junk (.junk (.junk (.junk (.junk (.junk (.junk (.junk (.junk (.junk (.junk (.junk (.keep rfl rfl (.keepE (by simp only[go_sem];rfl) (by rw[wr (by omega) (by omega)];rfl) rfl (.nil _))))))))))))))))) rfl (.nil _ _) (rfl)
                   · refine ⟨hj,hI.2.1,hI.2.2.1,?_⟩;rw[← hI.2.2.2,qw s j hj]
                     have h0:ce j s[j]=true:=by
                      simp only[ce,g3,c4,g5,g6,g7,Bool.and_true,Bool.and_false,Bool.or_true,Bool.true_or]
                     rw[h0,Bool.true_and]
                   · omega
                 · skip
                   refine qd 5 (by simp only[go_sem,g7];rfl) ?_
                   refine qc ?_;refine qa ?_;refine qm (by simp only[go_sem];rfl) (fun c8=>?_) (fun c8=>?_)
                   · skip
                     refine qt ?_;refine qj ?_;refine qj ?_;refine qa ?_;refine qb (by simp only[go_sem];rfl) ?_
                     refine qd 2 (by simp only[go_sem,c8];rfl) ?_
                     refine qc ?_;refine qcb (j+1) ?_ ?_ ?_
                     · refine Ent.cut (lb rfl) (lb rfl) (.keep rfl rfl (.junk (.junk (.junk (.junk (.junk (.junk (.junk (.junk (.junk (.junk (.junk (.junk (.junk (.keep rfl rfl (.keepE (by simp only[go_sem];rfl) (by rw[wr (by omega) (by omega)];rfl) rfl (.nil _))))))))))))))))) rfl (.nil _ _) (rfl)
                     · refine ⟨hj,hI.2.1,hI.2.2.1,?_⟩;rw[← hI.2.2.2,qw s j hj]
                       have h0:ce j s[j]=true:=by
                        simp only[ce,g3,c4,g5,g6,g7,c8,Bool.and_true,Bool.and_false,Bool.or_true]
                       rw[h0,Bool.true_and]
                     · omega
                   · skip
                     refine qg ?_;refine qb (by simp only[go_sem];rfl) ?_
                     refine qd 1 (by simp only[go_sem,c8];rfl) ?_
                     refine qc ?_;refine qa ?_;refine qn ?_;refine qi (qi (ql (qpe (qi (ql ?_)))));refine qjb (.inr rfl) (rs:=[.tmp 2]) rfl (by simp only[go_sem];rfl) ?_
                     refine ⟨?_,rfl⟩
                     have h0:ce j s[j]=false:=by
                      simp only[ce,g3,c4,g5,g6,g7,c8,Bool.and_false,Bool.or_false]
                     have h1:=hI.2.2.2;rw[qw s j hj,h0] at h1;simp only[al,← h1,Bool.and_false,Bool.false_and]
               · skip
                 refine qd 9 (by simp only[go_sem,g6];rfl) ?_
                 refine qc ?_;refine qa ?_;refine qm (by simp only[go_sem];rfl) (fun c9=>?_) (fun c9=>?_)
                 · skip
                   refine qt ?_;refine qj ?_;refine qj ?_;refine qa ?_;refine qb (by simp only[go_sem];rfl) ?_
                   refine qd 2 (by simp only[go_sem,c9];rfl) ?_
                   refine qc ?_;refine qcb (j+1) ?_ ?_ ?_
                   · refine Ent.cut (lb rfl) (lb rfl) (.keep rfl rfl (.junk (.junk (.junk (.junk (.junk (.junk (.junk (.junk (.junk (.junk (.junk (.junk (.junk (.keep rfl rfl (.keepE (by simp only[go_sem];rfl) (by rw[wr (by omega) (by omega)];rfl) rfl (.nil _))))))))))))))))) rfl (.nil _ _) (rfl)
                   · refine ⟨hj,hI.2.1,hI.2.2.1,?_⟩;rw[← hI.2.2.2,qw s j hj]
                     have h0:ce j s[j]=true:=by
                      simp only[ce,g3,c4,g5,g6,c9,Bool.and_true,Bool.and_false,Bool.false_and,Bool.or_true]
                     rw[h0,Bool.true_and]
                   · omega
                 · skip
                   refine qg ?_;refine qb (by simp only[go_sem];rfl) ?_
                   refine qd 1 (by simp only[go_sem,c9];rfl) ?_
                   refine qc ?_;refine qa ?_;refine qn ?_;refine qi (qi (ql (qpe (qi (ql ?_)))));refine qjb (.inr rfl) (rs:=[.tmp 2]) rfl (by simp only[go_sem];rfl) ?_
                   refine ⟨?_,rfl⟩
                   have h0:ce j s[j]=false:=by
                    simp only[ce,g3,c4,g5,g6,c9,Bool.and_false,Bool.false_and,Bool.or_false]
                   have h1:=hI.2.2.2;rw[qw s j hj,h0] at h1;simp only[al,← h1,Bool.and_false,Bool.false_and]
             · skip
               refine qd 12 (by simp only[go_sem,g5];rfl) ?_
               refine qc ?_;refine qa ?_;refine qmc (by simp only[go_sem]) ?_
               refine qg ?_;refine qb (by simp only[go_sem];rfl) ?_
               refine qd 1 (by simp only[go_sem];rfl) ?_
               refine qc ?_;refine qa ?_;refine qn ?_;refine qi (qi (ql (qpe (qi (ql ?_)))));refine qjb (.inr rfl) (rs:=[.tmp 2]) rfl (by simp only[go_sem];rfl) ?_
               refine ⟨?_,rfl⟩
               have h0:ce j s[j]=false:=by
                simp only[ce,g3,c4,g5,Bool.and_false,Bool.false_and,Bool.or_false]
               have h1:=hI.2.2.2;rw[qw s j hj,h0] at h1;simp only[al,← h1,Bool.and_false,Bool.false_and]
         · skip
           refine qd 4 (by simp only[go_sem,g3];rfl) ?_
           refine qc ?_;refine qa ?_;refine qmc (by simp only[go_sem]) ?_
           refine qg ?_;refine qb (by simp only[go_sem];rfl) ?_
           refine qd 3 (by simp only[go_sem];rfl) ?_
           refine qhd 31 (by simp only[go_sem];rfl) (fun g10=>?_) (fun g10=>?_)
           · skip
             refine qd 3 (by simp only[go_sem,g10];rfl) ?_
             refine qhd 34 (by simp only[go_sem];rfl) (fun g11=>?_) (fun g11=>?_)
             · skip
               refine qd 4 (by simp only[go_sem,g11];rfl) ?_
               refine qhd 38 (by simp only[go_sem];rfl) (fun g12=>?_) (fun g12=>?_)
               · skip
                 refine qd 5 (by simp only[go_sem,g12];rfl) ?_
                 refine qc ?_;refine qa ?_;refine qlb (by simp only[go_sem]) ?_
                 refine qt ?_;refine qj ?_;refine qj ?_;refine qa ?_;refine qb (by simp only[go_sem];rfl) ?_
                 refine qd 2 (by simp only[go_sem];rfl) ?_
                 refine qc ?_;refine qcb (j+1) ?_ ?_ ?_
                 · refine Ent.cut (lb rfl) (lb rfl) (.keep rfl rfl (.junk (.junk (.junk (.junk (.junk (.junk (.junk (.junk (.junk (.junk (.junk (.junk (.junk (.keep rfl rfl (.keepE (by simp only[go_sem];rfl) (by rw[wr (by omega) (by omega)];rfl) rfl (.nil _))))))))))))))))) rfl (.nil _ _) (rfl)
                 · refine ⟨hj,hI.2.1,hI.2.2.1,?_⟩;rw[← hI.2.2.2,qw s j hj]
                   have h0:ce j s[j]=true:=by
                    simp only[ce,g3,g10,g11,g12,Bool.and_true,Bool.false_and,Bool.or_true,Bool.true_or]
                   rw[h0,Bool.true_and]
                 · omega
               · skip
                 refine qd 5 (by simp only[go_sem,g12];rfl) ?_
                 refine qc ?_;refine qa ?_;refine qm (by simp only[go_sem];rfl) (fun c13=>?_) (fun c13=>?_)
                 · skip
                   refine qt ?_;refine qj ?_;refine qj ?_;refine qa ?_;refine qb (by simp only[go_sem];rfl) ?_
                   refine qd 2 (by simp only[go_sem,c13];rfl) ?_
                   refine qc ?_;refine qcb (j+1) ?_ ?_ ?_
                   · refine Ent.cut (lb rfl) (lb rfl) (.keep rfl rfl (.junk (.junk (.junk (.junk (.junk (.junk (.junk (.junk (.junk (.junk (.junk (.junk (.junk (.keep rfl rfl (.keepE (by simp only[go_sem];rfl) (by rw[wr (by omega) (by omega)];rfl) rfl (.nil _))))))))))))))))) rfl (.nil _ _) (rfl)
                   · refine ⟨hj,hI.2.1,hI.2.2.1,?_⟩;rw[← hI.2.2.2,qw s j hj]
                     have h0:ce j s[j]=true:=by
                      simp only[ce,g3,g10,g11,g12,c13,Bool.and_true,Bool.and_false,Bool.false_and,Bool.or_true]
                     rw[h0,Bool.true_and]
                   · omega
                 · skip
                   refine qg ?_;refine qb (by simp only[go_sem];rfl) ?_
                   refine qd 1 (by simp only[go_sem,c13];rfl) ?_
                   refine qc ?_;refine qa ?_;refine qn ?_;refine qi (qi (ql (qpe (qi (ql ?_)))));refine qjb (.inr rfl) (rs:=[.tmp 2]) rfl (by simp only[go_sem];rfl) ?_
                   refine ⟨?_,rfl⟩
                   have h0:ce j s[j]=false:=by
                    simp only[ce,g3,g10,g11,g12,c13,Bool.and_false,Bool.false_and,Bool.or_false]
                   have h1:=hI.2.2.2;rw[qw s j hj,h0] at h1;simp only[al,← h1,Bool.and_false,Bool.false_and]
             · skip
               refine qd 9 (by simp only[go_sem,g11];rfl) ?_
               refine qc ?_;refine qa ?_;refine qm (by simp only[go_sem];rfl) (fun c14=>?_) (fun c14=>?_)
               · skip
                 refine qt ?_;refine qj ?_;refine qj ?_;refine qa ?_;refine qb (by simp only[go_sem];rfl) ?_
                 refine qd 2 (by simp only[go_sem,c14];rfl) ?_
                 refine qc ?_;refine qcb (j+1) ?_ ?_ ?_
                 · refine Ent.cut (lb rfl) (lb rfl) (.keep rfl rfl (.junk (.junk (.junk (.junk (.junk (.junk (.junk (.junk (.junk (.junk (.junk (.junk (.junk (.keep rfl rfl (.keepE (by simp only[go_sem];rfl) (by rw[wr (by omega) (by omega)];rfl) rfl (.nil _))))))))))))))))) rfl (.nil _ _) (rfl)
                 · refine ⟨hj,hI.2.1,hI.2.2.1,?_⟩;rw[← hI.2.2.2,qw s j hj]
                   have h0:ce j s[j]=true:=by
                    simp only[ce,g3,g10,g11,c14,Bool.and_true,Bool.false_and,Bool.or_true]
                   rw[h0,Bool.true_and]
                 · omega
               · skip
                 refine qg ?_;refine qb (by simp only[go_sem];rfl) ?_
                 refine qd 1 (by simp only[go_sem,c14];rfl) ?_
                 refine qc ?_;refine qa ?_;refine qn ?_;refine qi (qi (ql (qpe (qi (ql ?_)))));refine qjb (.inr rfl) (rs:=[.tmp 2]) rfl (by simp only[go_sem];rfl) ?_
                 refine ⟨?_,rfl⟩
                 have h0:ce j s[j]=false:=by
                  simp only[ce,g3,g10,g11,c14,Bool.and_false,Bool.false_and,Bool.or_false]
                 have h1:=hI.2.2.2;rw[qw s j hj,h0] at h1;simp only[al,← h1,Bool.and_false,Bool.false_and]
           · skip
             refine qd 12 (by simp only[go_sem,g10];rfl) ?_
             refine qc ?_;refine qa ?_;refine qmc (by simp only[go_sem]) ?_
             refine qg ?_;refine qb (by simp only[go_sem];rfl) ?_
             refine qd 1 (by simp only[go_sem];rfl) ?_
             refine qc ?_;refine qa ?_;refine qn ?_;refine qi (qi (ql (qpe (qi (ql ?_)))));refine qjb (.inr rfl) (rs:=[.tmp 2]) rfl (by simp only[go_sem];rfl) ?_
             refine ⟨?_,rfl⟩
             have h0:ce j s[j]=false:=by
              simp only[ce,g3,g10,Bool.false_and,Bool.or_false]
             have h1:=hI.2.2.2;rw[qw s j hj,h0] at h1;simp only[al,← h1,Bool.and_false,Bool.false_and]
       · skip
         refine qah ?_;refine qpf (qne (qrd ?_));refine qa ?_;refine qg ?_;refine qb (by simp only[go_sem];rfl) ?_
         refine qd 1 (by simp only[go_sem,c2];rfl) ?_
         refine qc ?_;refine qa ?_;refine qn ?_;refine qjb (.inr rfl) (rs:=[.tmp 2]) rfl (by simp only[go_sem];rfl) ?_
         refine ⟨?_,rfl⟩;have hj:j=s.length:=by simp at c2;omega
         have h0:=hI.2.2.2;rw[hj,List.drop_length] at h0;simp only[al,← h0,d7,g0,c1,Bool.and_true,Bool.or_false,Bool.not_false]
end Go.Proofs.YtefjlhhicgepfaaGreatDoor
