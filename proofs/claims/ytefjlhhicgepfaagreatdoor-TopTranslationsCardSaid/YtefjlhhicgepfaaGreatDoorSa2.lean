/- Lemmas. -/
import Derived.Test.YtefjlhhicgepfaaGreatDoorSa1
import Derived.Lib.Builder
import Derived.Lib.Walk
import Derived.Laws.Externs
set_option linter.unusedSimpArgs false
set_option linter.unusedVariables false
set_option linter.unusedSectionVars false
open Bool (false_eq_true not_eq_false' not_eq_true')
namespace Go.Proofs.YtefjlhhicgepfaaGreatDoor
open Go.Proofs.Tryz (prog)
open Go Am
set_option maxRecDepth 100000
set_option maxHeartbeats 1000000
variable {G:bl}
abbrev fnA(k:Nat):AV:=.d (.raw (.func (.func k) #[] #[]))
theorem aqj(f:F):CC prog G 69 [] [lf f] [] (bb (named f)):=by
 refine CC.go Tryz.func69 rfl rfl Tryz.ntmps69 (k0:=0) rfl (lb rfl) (by rfl) (by rfl) ?_
 refine qg ?_;refine qb (by simp only[go_sem];rfl) ?_
 refine qd 2 (by simp only[go_sem];rfl) ?_
 refine qc ?_;refine qa ?_;refine qg ?_;refine qg ?_;refine qb (by simp only[go_sem];rfl) ?_
 refine qd 3 (by simp only[go_sem];rfl) ?_
 refine qc ?_;refine qa ?_;refine qm (by simp only[go_sem];rfl) (fun c0=>?_) (fun c0=>?_)
 · skip
   refine qg ?_;refine qb (by simp only[go_sem];rfl) ?_
   refine qd 2 (by simp only[go_sem,c0];rfl) ?_
   refine qo rfl (by simp only[go_sem]) rfl (by simp only[go_sem];rfl) (by simp only[go_sem];rfl) ?_
   refine qjc (qmx _) rfl rfl rfl ?_;refine qd 1 (by simp only[go_sem];rfl) ?_
   refine qc ?_;refine qa ?_;refine qn ?_;refine ql ?_;refine qjb (.inr rfl) (rs:=[.tmp 2]) rfl (by simp only[go_sem];rfl) ?_
   refine ⟨?_,rfl⟩;simp only[named,c0,if_true]
 · skip
   refine qt ?_;refine qa ?_;refine qg ?_;refine qb (by simp only[go_sem];rfl) ?_
   refine qd 4 (by simp only[go_sem,c0];rfl) ?_
   refine qc ?_;refine qa ?_;refine qn ?_;refine qjb (.inr rfl) (rs:=[.tmp 2]) rfl (by simp only[go_sem];rfl) ?_
   refine ⟨?_,rfl⟩;simp only[named,c0,false_eq_true,if_false]
theorem a2p(k:Nat)(q:F→Bool)(hq:∀ g,CC prog G k [] [lf g] [] (bb (q g)))(n:Nat)(ih:∀ g:F,g.size<n→CC prog G 67 [] [lf g,fnA k] [] (bb (F.allF q g)))(f:F)(hn:f.size≤n)(hs:n<4611686018427387904):CC prog G 67 [] [lf f,fnA k] [] (bb (F.allF q f)):=by
 refine CC.go Tryz.func67 rfl rfl Tryz.ntmps67 (k0:=0) rfl (lb rfl) (by rfl) (by rfl) ?_
 refine qg ?_;refine qb (by simp only[go_sem];rfl) ?_
 refine qd 2 (by simp only[go_sem];rfl) ?_
 refine qc ?_;refine qa ?_;refine qg ?_;refine qg ?_;refine qb (by simp only[go_sem];rfl) ?_
 refine qd 2 (by simp only[go_sem];rfl) ?_
 refine qo rfl (by simp only[go_sem]) rfl (by simp only[go_sem];rfl) (by simp only[go_sem];rfl) ?_
 refine qjc (hq _) rfl rfl rfl ?_;refine qd 1 (by simp only[go_sem];rfl) ?_
 refine qc ?_;refine qa ?_;refine qm (by simp only[go_sem];rfl) (fun c0=>?_) (fun c0=>?_)
 · skip
   refine qg ?_;refine qb (by simp only[go_sem];rfl) ?_
   refine qd 1 (by simp only[go_sem,c0];rfl) ?_
   refine qc ?_;refine qa ?_;refine qn ?_;refine ql ?_;refine qjb (.inr rfl) (rs:=[.tmp 4]) rfl (by simp only[go_sem];rfl) ?_
   refine ⟨?_,rfl⟩;have h0:q f=false:=by simpa using c0
   rw[F.allF_eq,h0];rfl
 · skip
   refine qt ?_;refine qa ?_;refine qg ?_;refine qg ?_;refine qb (by simp only[go_sem];rfl) ?_
   refine qd 4 (by simp only[go_sem,c0];rfl) ?_
   refine qc ?_;refine qa ?_;refine qdb ?_;refine qrf (ι:=Nat) (fun (x:Nat)=>(match x with|j=>⟨tl [.junk,fnA k,.junk,.junk,.junk,.junk,.junk,.junk,.junk,.junk,.junk,.junk,.d (.sl (F.encs f.args)),i64 (f.args.length:Int),i64 (j:Int)],hl [],0,23⟩)) (fun x=>match x with|j=>j≤f.args.length∧F.allFs q (f.args.take j)=true) (fun x=>match x with|j=>f.args.length-j) 0 ?_ ?_ ?_
   · refine Ent.cut (lb rfl) (lb rfl) (.junk (.keep rfl rfl (.junk (.junk (.junk (.junk (.junk (.junk (.junk (.junk (.junk (.junk (.keep rfl rfl (.keepE (by simp only[go_sem];rfl) (by rw[F.encs_len]) rfl (.keep rfl rfl (.nil _)))))))))))))))) rfl (.nil _ _) (rfl)
   · exact ⟨Nat.zero_le _,by simp[F.allFs]⟩
   · rintro j hI
     try dsimp only at hI
     dsimp only
     refine qg ?_;refine qb (by simp only[go_sem];rfl) ?_
     refine qd 1 (by simp only[go_sem];rfl) ?_
     refine qc ?_;refine qa ?_;refine qg ?_;refine qm (by simp only[go_sem];rfl) (fun c1=>?_) (fun c1=>?_)
     · skip
       have hj:j<f.args.length:=by simpa using c1
       have mz:=F.encs_get f.args j hj;have hen:=F.enc_eq (f.args[j]);have cf:=F.size_arg f j hj;have hla:=F.sizes_len f.args;have hse:=F.size_eq f;refine qt ?_;refine qa ?_;refine qg ?_;refine qdb ?_;refine qg ?_;refine qb (by simp only[go_sem];rfl) ?_
       refine qd 4 (by simp only[go_sem,c1,mz,hen];rfl) ?_
       refine qc ?_;refine qa ?_;refine qg ?_;refine qb (by simp only[go_sem];rfl) ?_
       refine qd 2 (by simp only[go_sem];rfl) ?_
       refine qo rfl (by simp only[go_sem]) rfl (by simp only[go_sem];rfl) (by simp only[go_sem];rfl) ?_
       refine qjc (ih (f.args[j]) (by omega)) rfl rfl rfl ?_
       refine qd 1 (by simp only[go_sem];rfl) ?_
       refine qc ?_;refine qa ?_;refine qm (by simp only[go_sem];rfl) (fun c2=>?_) (fun c2=>?_)
       · skip
         refine qg ?_;refine qb (by simp only[go_sem];rfl) ?_
         refine qd 1 (by simp only[go_sem,c2];rfl) ?_
         refine qc ?_;refine qa ?_;refine qn ?_;refine qi (ql (qpe (qi (ql ?_))));refine qjb (.inr rfl) (rs:=[.tmp 4]) rfl (by simp only[go_sem];rfl) ?_
         refine ⟨?_,rfl⟩;have h0:F.allF q f.args[j]=false:=by simpa using c2
         rw[F.allF_eq,F.allFs_bad q _ j hj h0,Bool.and_false]
       · skip
         refine qt ?_;refine qj ?_;refine qa ?_;refine qb (by simp only[go_sem];rfl) ?_
         refine qd 2 (by simp only[go_sem,c2];rfl) ?_
         refine qc ?_;refine qcb (j+1) ?_ ?_ ?_
         · refine Ent.cut (lb rfl) (lb rfl) (.junk (.keep rfl rfl (.junk (.junk (.junk (.junk (.junk (.junk (.junk (.junk (.junk (.junk (.keep rfl rfl (.keep rfl rfl (.keepE (by simp only[go_sem];rfl) (by rw[wr (by omega) (by omega)];rfl) rfl (.nil _)))))))))))))))) rfl (.nil _ _) (rfl)
         · have hga:F.allF q f.args[j]=true:=by simpa using c2
           exact ⟨hj,by rw[F.allFs_take q _ _ hj,hI.2,hga];rfl⟩
         · omega
     · skip
       refine qah ?_;refine qpf (qne (qrd ?_));refine qa ?_;refine qg ?_;refine qb (by simp only[go_sem];rfl) ?_
       refine qd 1 (by simp only[go_sem,c1];rfl) ?_
       refine qc ?_;refine qa ?_;refine qn ?_;refine qjb (.inr rfl) (rs:=[.tmp 4]) rfl (by simp only[go_sem];rfl) ?_
       refine ⟨?_,rfl⟩;have hj:j=f.args.length:=by simp at c1;omega
       have h0:q f=true:=by simpa using c0
       have h1:=hI.2;rw[hj,List.take_length] at h1;rw[F.allF_eq,h0,h1];rfl
theorem axp(f:F)(hs:f.size<4611686018427387904):CC prog G 34 [] [lf f] [] (i64 f.size):=qgz (fun n ih f hn hs=>ayx n ih f hn hs) f hs
theorem ar7(f:F)(hs:f.size<4611686018427387904):CC prog G 35 [] [lf f] [] (i64 f.depth):=qgz (fun n ih f hn hs=>atx n ih f hn hs) f hs
theorem alz(k:Nat)(q:F→Bool)(hq:∀ g,CC prog G k [] [lf g] [] (bb (q g)))(f:F)(hs:f.size<4611686018427387904):CC prog G 67 [] [lf f,fnA k] [] (bb (F.allF q f)):=
 qgz (fun n ih f hn hs=>a2p k q hq n ih f hn hs) f hs
theorem ap4(f:F)(hs:f.size<4611686018427387904):CC prog G 27 [] [lf f] [] (i64 (ca f)):=by
 refine CC.go Tryz.func27 rfl rfl Tryz.ntmps27 (k0:=0) rfl (lb rfl) (by rfl) (by rfl) ?_
 refine qg ?_;refine qb (by simp only[go_sem];rfl) ?_
 refine qd 2 (by simp only[go_sem];rfl) ?_
 refine qc ?_;refine qa ?_;refine qg ?_;refine qdb ?_;refine qg ?_;refine qb (by simp only[go_sem];rfl) ?_
 refine qd 1 (by simp only[go_sem];rfl) ?_
 refine qo rfl (by simp only[go_sem]) rfl (by simp only[go_sem];rfl) (by simp only[go_sem];rfl) ?_
 refine qjc (axp f hs) rfl rfl rfl ?_;refine qd 2 (by simp only[go_sem];rfl) ?_
 refine qhd 7 (by simp only[go_sem];rfl) (fun g0=>?_) (fun g0=>?_)
 · skip
   refine qd 5 (by simp only[go_sem,g0];rfl) ?_
   refine qc ?_;refine qa ?_;refine qlb (by simp only[go_sem]) ?_
   refine qg ?_;refine qb (by simp only[go_sem];rfl) ?_
   refine qd 1 (by simp only[go_sem];rfl) ?_
   refine qc ?_;refine qa ?_;refine qn ?_;refine qi (ql ?_);refine qjb (.inr rfl) (rs:=[.tmp 2]) rfl (by simp only[go_sem];rfl) ?_
   refine ⟨?_,rfl⟩
   try simp only[not_eq_true',not_eq_false'] at g0
   simp only[ca,g0,Bool.true_or,if_true]
 · skip
   refine qd 1 (by simp only[go_sem,g0];rfl) ?_
   refine qo rfl (by simp only[go_sem]) rfl (by simp only[go_sem];rfl) (by simp only[go_sem];rfl) ?_
   refine qjc (ar7 f hs) rfl rfl rfl ?_;refine qd 3 (by simp only[go_sem];rfl) ?_
   refine qc ?_;refine qa ?_;refine qm (by simp only[go_sem];rfl) (fun c1=>?_) (fun c1=>?_)
   · skip
     refine qg ?_;refine qb (by simp only[go_sem];rfl) ?_
     refine qd 1 (by simp only[go_sem,c1];rfl) ?_
     refine qc ?_;refine qa ?_;refine qn ?_;refine qi (ql ?_);refine qjb (.inr rfl) (rs:=[.tmp 2]) rfl (by simp only[go_sem];rfl) ?_
     refine ⟨?_,rfl⟩
     try simp only[not_eq_true',not_eq_false'] at g0 c1
     simp only[ca,g0,c1,Bool.or_true,if_true]
   · skip
     refine qg ?_;refine qb (by simp only[go_sem];rfl) ?_
     refine qd 1 (by simp only[go_sem,c1];rfl) ?_
     refine qo rfl (by simp only[go_sem]) rfl (by simp only[go_sem];rfl) (by simp only[go_sem];rfl) ?_
     refine qjc (alz 68 be at3 f hs) rfl rfl rfl ?_;refine qd 2 (by simp only[go_sem];rfl) ?_
     refine qc ?_;refine qa ?_;refine qm (by simp only[go_sem];rfl) (fun c2=>?_) (fun c2=>?_)
     · skip
       refine qg ?_;refine qb (by simp only[go_sem];rfl) ?_
       refine qd 1 (by simp only[go_sem,c2];rfl) ?_
       refine qc ?_;refine qa ?_;refine qn ?_;refine qi (ql ?_);refine qjb (.inr rfl) (rs:=[.tmp 2]) rfl (by simp only[go_sem];rfl) ?_
       refine ⟨?_,rfl⟩
       try simp only[not_eq_true'] at g0 c1 c2
       simp only[ca,g0,c1,c2,Bool.or_false,Bool.not_false,false_eq_true,if_true,if_false]
     · skip
       refine qg ?_;refine qb (by simp only[go_sem];rfl) ?_
       refine qd 1 (by simp only[go_sem,c2];rfl) ?_
       refine qo rfl (by simp only[go_sem]) rfl (by simp only[go_sem];rfl) (by simp only[go_sem];rfl) ?_
       refine qjc (alz 69 named aqj f hs) rfl rfl rfl ?_;refine qd 2 (by simp only[go_sem];rfl) ?_
       refine qc ?_;refine qa ?_;refine qm (by simp only[go_sem];rfl) (fun c3=>?_) (fun c3=>?_)
       · skip
         refine qg ?_;refine qb (by simp only[go_sem];rfl) ?_
         refine qd 1 (by simp only[go_sem,c3];rfl) ?_
         refine qc ?_;refine qa ?_;refine qn ?_;refine qi (ql ?_);refine qjb (.inr rfl) (rs:=[.tmp 2]) rfl (by simp only[go_sem];rfl) ?_
         refine ⟨?_,rfl⟩
         try simp only[not_eq_true',not_eq_false'] at g0 c1 c2 c3
         simp only[ca,g0,c1,c2,c3,Bool.or_false,Bool.not_true,Bool.not_false,false_eq_true,if_true,if_false]
       · skip
         refine qt ?_;refine qj ?_;refine qa ?_;refine qg ?_;refine qb (by simp only[go_sem];rfl) ?_
         refine qd 1 (by simp only[go_sem,c3];rfl) ?_
         refine qc ?_;refine qa ?_;refine qn ?_;refine qjb (.inr rfl) (rs:=[.tmp 2]) rfl (by simp only[go_sem];rfl) ?_
         refine ⟨?_,rfl⟩
         try simp only[not_eq_false'] at g0 c1 c2 c3
         simp only[ca,g0,c1,c2,c3,Bool.or_false,Bool.not_true,false_eq_true,if_false]
end Go.Proofs.YtefjlhhicgepfaaGreatDoor

namespace Go.Proofs.YtefjlhhicgepfaaGreatDoor
open Go.Proofs.Tryz (prog)
open Go Am Go.Proofs Go.RowKit
set_option maxHeartbeats 1000000
set_option maxRecDepth 100000
variable {G:bl}
theorem ah7:∃ j,prog.info? 79=some j∧j.size=2:=by
 have h:(prog.info? 79).map (·.size)=some 2:=by kernel_rfl
 obtain ⟨j,h1,h2⟩:=Option.map_eq_some_iff.1 h;exact ⟨j,h1,h2⟩
theorem a5e(b:Nat)(w:World)(h0:w.cell? ⟨b,0,none⟩ = some (.pointer (some ⟨b,0,none⟩))) :
 Calls prog 99 #[.pointer (some ⟨b,0,none⟩)] w fun e w'=>e = .returned (.tuple #[])∧w' = w:=by
 obtain ⟨j,hj,_⟩:=ah7
 go_enter Tryz.func99,Tryz.ntmps99
 go_wp2
 rw[Lib.run_neq_ptr_same w _ Tryz.underlying77 hj]
 go_wp2
 go_end0
 exact ⟨rfl,rfl⟩
theorem a00(c:Nat)(hc:0<c):liesAt prog prog.depth 79 c 0 79 1=true:=by
 have hd:prog.depth=(2*(prog.types.size+Made.depth)+1)+1:=rfl
 have hs:∀ d,sameLayout prog (d+1) 79 79=true:=fun d=>by
  unfold sameLayout;simp
 have h2:prog.cellsOf 79=2:=by kernel_rfl
 have hr:∀ (d:Nat) (fits:TypeId→Bool),fits 79=true→rowAt prog fits (d+1) 79 c 0 1=true:=fun d fits hf=>by
  unfold rowAt;have h1:1≤c:=hc;simp[h2,hf,h1]
 rw[hd];unfold liesAt;rw[Bool.or_eq_true]
 left
 exact hr _ _ (hs _)
theorem a4l(b cells:Nat)(w:World)(h0:w.cell? ⟨b,0,none⟩ = some (.pointer none))(yz:w.shape? b=some (79,cells))(hc:2≤cells)(kz:w.frozen? ⟨b,0,none⟩ = false) :
 Calls prog 99 #[.pointer (some ⟨b,0,none⟩)] w fun e w'=>e = .returned (.tuple #[])∧w' = w.setCell ⟨b,0,none⟩ (.pointer (some ⟨b,0,none⟩)):=by
 obtain ⟨j,hj,hjs⟩:=ah7
 go_enter Tryz.func99,Tryz.ntmps99
 go_wp2
 rw[Lib.run_to_unsafe w ⟨b,0,none⟩ Tryz.underlying77 Tryz.underlying172 hj (by rw[hjs];decide) yz (by show 0<cells;omega)]
 simp only[Result.andThen];rw[Oper.upon_value]
 go_wp2
 rw[run_callFunc_extern Tryz.func120 (by kernel_rfl) (by kernel_rfl) (by kernel_rfl) (e:=Extern.AbiNoEscape.same) (by kernel_rfl)]
 rw[Lib.run_noEscape];simp only[Result.andThen];rw[Oper.upon_value]
 go_wp2
 have h2:prog.cellsOf 79=2:=by kernel_rfl
 rw[Lib.run_from_unsafe w ⟨b,0,none⟩ Tryz.underlying172 Tryz.underlying77 hj yz (a00 _ (by rw[h2];omega))]
 simp only[Result.andThen];rw[Oper.upon_value]
 go_wp2
 go_end0
 exact ⟨rfl,rfl⟩
abbrev kt:AV:=.d (.raw (.pointer none))
abbrev b9:AV:=.ptr 0 1 0 0
def bld(a buf:AV):Blk:={ fz:=false,ap:=false,ty:=79,sz:=2,rows:=[[a,buf]] }
def byt(l:List UInt8):Blk:={ fz:=false,ap:=true,ty:=5,sz:=1,rows:=l.map fun c=>[.d (.int .u8 c.toNat)] }
theorem a3b:th prog 99:=⟨Tryz.f99,Tryz.func99,rfl,rfl⟩
theorem qrn(a buf:AV)(ha:a=kt∨a=b9)(rest:List Blk):CC prog G 99 (bld a buf::rest) [b9] (bld b9 buf::rest) (.d (.raw (.tuple #[]))):=by
 refine ⟨a3b,fun w C ρ vs hR hG hv=>?_⟩
 obtain ⟨hl,hv⟩:=hv
 obtain ⟨v,rfl⟩:∃ v,vs=[v]:=by
  match vs,hl with
  | [v],_=>exact ⟨v,rfl⟩
 have hp:=hv 0 (by simp) (by simp)
 simp only[List.getElem_cons_zero] at hp;have hb:hOf (bld a buf::rest) 0=some (bld a buf):=rfl;have hp0:=hp;cases hp with
 | ptr _ _ _ _ _ blk et hn h1 hpv=>
 rw[hb] at et;cases et;obtain ⟨r,s,hr,rfl⟩:=hpv rfl;obtain ⟨cs,lo,hi,m1,m2,m3,m4,f1,f2,f3⟩:=qlf hR hb hr;obtain ⟨va,c0,c1,c2⟩:=f3 0 0 (by simp[bld]) (by simp[bld])
 have bp:w.cell? ⟨r,0,none⟩ = some va:=by rw[qrb,m1];simpa [bld] using c0
 have ip:(0*(bld a buf).sz+0)=0:=by simp
 have hH:co (hOf (bld a buf::rest)) 0 (bld b9 buf)=hOf (bld b9 buf::rest):=by
  funext x
  cases x with
  | zero=>rfl
  | succ x=>rfl
 rw[ip] at hp0 ⊢;simp only[bld,List.getElem_cons_zero] at c2;rcases ha with rfl|rfl
 · have hva:va = .pointer none:=by have:=qce c2;cases this;rfl
   subst hva
   have kz:w.frozen? ⟨r,0,none⟩ = false:=by
    have:=m4 rfl 0 (by simp[bld] at f1;omega)
    rw[qhn w r 0 m1]
    simpa using this
   refine (a4l r cs.size w bp (by simp[World.shape?,m1,bld]) (by simpa [bld] using f1) kz).mono ?_
   rintro e w' ⟨rfl,rfl⟩;obtain ⟨k1,k2⟩:=azy (i:=0) (j:=0) hR hb rfl hr (by simp[bld]) (by simp[bld]) hp0 rfl
   rw[ip] at k1 k2;have lr:({ bld kt buf with rows:=(bld kt buf).rows.set 0 (((bld kt buf).rows[0]'(by simp[bld])).set 0 b9) }:Blk)=bld b9 buf:=rfl
   rw[lr,hH] at k1 k2;exact ⟨_,C,ρ,rfl,k1,k2,.d _ _ (.raw _)⟩
 · have hva : va = .pointer (some ⟨r,0,none⟩) := by
    cases c2 with
    | ptr _ _ _ _ _ blk et hn h1 hpv=>
    have o9:hOf (bld b9 buf::rest) 0=some blk:=et;rw[hb] at o9;cases o9;obtain ⟨r',s',ei,hh⟩:=hpv rfl;rw[hr] at ei;cases ei;rw[hh];simp
   subst hva;refine (a5e r w bp).mono ?_;rintro e w' ⟨rfl,rfl⟩;exact ⟨_,C,ρ,rfl,hR,.refl _ _ _ _,.d _ _ (.raw _)⟩
end Go.Proofs.YtefjlhhicgepfaaGreatDoor

namespace Go.Proofs.YtefjlhhicgepfaaGreatDoor
open Go.Proofs.Tryz (prog)
open Go Am
set_option maxRecDepth 100000
set_option maxHeartbeats 1000000
variable {G:bl}
theorem qed(m:Nat→Nat)(b0 b1:Blk):ek m [b0,b1]=[(m 0,b0.ren m),(m 1,b1.ren m)]:=rfl
theorem qxc(m:Nat→Nat)(l:List UInt8):(byt l).ren m=byt l:=by
 simp only[byt,Blk.ren,List.map_map]
 congr 1
theorem qfg(k:Nat)(l:List UInt8):(byt l).rows.all (·.all (AV.inK k))=true:=by
 simp[byt,AV.inK]
abbrev gp(l:List UInt8):AV:=.own 1 l.length 0 l.length
theorem mc(a:AV)(l:List UInt8)(ha:a=kt∨a=b9):[bld a (gp l),byt l].all (fun b=>b.rows.all (·.all (AV.inK [bld a (gp l),byt l].length)))=true:=by
 simp only[List.all_cons,List.all_nil,qfg,Bool.and_true,List.length_cons,List.length_nil];rcases ha with rfl|rfl<;>simp[bld,AV.inK]
theorem qgn(a:AV)(l:List UInt8)(ha:a=kt∨a=b9)(id:Nat):[some (bld a (gp l)),some (byt l)]=[bld a (gp l),byt l].map fun b=>some (b.ren (mOf [0,1] id)):=by
 simp only[List.map_cons,List.map_nil,qxc];rcases ha with rfl|rfl<;>rfl
theorem qse(a:AV)(ha:a=kt∨a=b9)(l:List UInt8)(c:UInt8)(h1:l.length+1≤140737488355328)(h2:l.length+1≤9223372036854775807):CC prog G 70 [bld a (gp l),byt l] [b9,.d (.int .u8 c.toNat)] [bld b9 (gp (l++[c])),byt (l++[c])] (.d (.raw .nilIface)):=by
 refine CC.go Tryz.func70 rfl rfl Tryz.ntmps70 (k0:=2) rfl (lb rfl) (by rfl) (by rfl) ?_
 refine qg ?_;refine qb (by simp only[go_sem];rfl) ?_
 refine qd 1 (by simp only[go_sem,bld,byt];rfl) ?_
 refine qc ?_;refine qa ?_;refine qg ?_;refine qb (by simp only[go_sem];rfl) ?_
 refine qd 1 (by simp only[go_sem];rfl) ?_
 refine qo rfl (by simp only[go_sem]) rfl (by simp only[go_sem];rfl) (by simp only[go_sem];rfl) ?_
 refine qfc [0,1] (qrn a (gp l) ha [byt l]) rfl rfl rfl (lb rfl) (lb rfl) (by simp only[go_sem];decide) (qgn a l ha _) rfl (mc a l ha) rfl (by simp only[qed,qxc];rfl) ?_
 refine qd 0 (by simp only[go_sem,bld,byt];rfl) ?_
 refine qc ?_;refine qa ?_;refine qg ?_;refine qb (by simp only[go_sem];rfl) ?_
 refine qd 11 (by simp only[go_sem,List.length_map,Nat.mul_one,h1,h2,beq_self_eq_true];rfl) ?_
 refine qc ?_;refine qa ?_;refine qg ?_;refine qb (by simp only[go_sem];rfl) ?_
 refine qd 1 (by simp only[go_sem];rfl) ?_
 refine qc ?_;refine qa ?_;refine qn ?_;refine abb (.inr rfl) (rs:=[.tmp 4]) rfl (by simp only[go_sem];rfl) ?_ ?_ (lb rfl) (mc b9 _ (.inr rfl)) (by rfl)
 · rfl
 · refine .cons ?_ (.cons ?_ (.nil _ _))
   · simp only[go_sem,bld,gp,List.length_append]
   · simp only[go_sem,byt,List.map_append,List.map_cons,List.map_nil]
theorem a3i(t:List UInt8):((t.map fun c=>[AV.d (.int .u8 c.toNat)]).all fun r=>r.length == 1&&r.all AV.one)=true:=by
 simp[AV.one]
theorem qsi(a:AV)(ha:a=kt∨a=b9)(l t:List UInt8)(h1:l.length+t.length≤140737488355328)(h2:l.length+t.length≤9223372036854775807):CC prog G 71 [bld a (gp l),byt l] [b9,.d (.str t)] [bld b9 (gp (l++t)),byt (l++t)] (.tup [i64 t.length,.d (.raw .nilIface)]):=by
 refine CC.go Tryz.func71 rfl rfl Tryz.ntmps71 (k0:=2) rfl (lb rfl) (by rfl) (by rfl) ?_
 refine qg ?_;refine qb (by simp only[go_sem];rfl) ?_
 refine qd 2 (by simp only[go_sem,bld,byt];rfl) ?_
 refine qc ?_;refine qa ?_;refine qg ?_;refine qb (by simp only[go_sem];rfl) ?_
 refine qd 1 (by simp only[go_sem];rfl) ?_
 refine qo rfl (by simp only[go_sem]) rfl (by simp only[go_sem];rfl) (by simp only[go_sem];rfl) ?_
 refine qfc [0,1] (qrn a (gp l) ha [byt l]) rfl rfl rfl (lb rfl) (lb rfl) (by simp only[go_sem];decide) (qgn a l ha _) rfl (mc a l ha) rfl (by simp only[qed,qxc];rfl) ?_
 refine qd 0 (by simp only[go_sem,bld,byt];rfl) ?_
 refine qc ?_;refine qa ?_;refine qg ?_;refine qb (by simp only[go_sem];rfl) ?_
 refine qd 10 (by simp only[go_sem,List.length_map,Nat.mul_one,h1,h2,a3i];rfl) ?_
 refine qc ?_;refine qa ?_;refine qg ?_;refine qb (by simp only[go_sem];rfl) ?_
 refine qd 4 (by simp only[go_sem];rfl) ?_
 refine qc ?_;refine qa ?_;refine qn ?_;refine abb (.inr rfl) (rs:=[.tmp 4,.tmp 5]) rfl (by simp only[go_sem];rfl) ?_ ?_ (lb rfl) (mc b9 _ (.inr rfl)) (by rfl)
 · rfl
 · refine .cons ?_ (.cons ?_ (.nil _ _))
   · simp only[go_sem,bld,gp,List.length_append]
   · simp only[go_sem,byt,List.map_append]
theorem atq(a:AV)(ha:a=kt∨a=b9)(l:List UInt8):CC prog G 29 [bld a (gp l),byt l] [b9] [bld a (gp l),byt l] (i64 l.length):=by
 refine CC.go Tryz.func29 rfl rfl Tryz.ntmps29 (k0:=2) rfl (lb rfl) (by rfl) (by rfl) ?_
 refine qg ?_;refine qb (by simp only[go_sem];rfl) ?_
 refine qd 1 (by simp only[go_sem,bld,byt];rfl) ?_
 refine qc ?_;refine qa ?_;refine qg ?_;refine qb (by simp only[go_sem];rfl) ?_
 refine qd 6 (by simp only[go_sem,List.length_map];rfl) ?_
 refine qc ?_;refine qa ?_;refine qn ?_;refine abb (.inr rfl) (rs:=[.tmp 2]) rfl (by simp only[go_sem];rfl) ?_ ?_ (lb rfl) (mc a _ ha) (by rfl)
 · rfl
 · exact .cons rfl (.cons rfl (.nil _ _))
theorem a5a(l:List UInt8):gv (l.map fun c=>[AV.d (.int .u8 c.toNat)])=some l:=by
 induction l with
 | nil=>rfl
 | cons c l ih=>
  simp only[List.map_cons,gv,ih];have h:(0:Int)≤(c.toNat:Int)∧(c.toNat:Int)<256:=by have:=c.toNat_lt;omega
  rw[if_pos h];simp
theorem a4i(l:List UInt8):gv ((l.map fun c=>[AV.d (.int .u8 c.toNat)]).take l.length)=some l:=by
 rw[List.take_of_length_le (by simp),a5a]
def a4q(l:List UInt8):Blk:={ byt l with fz:=true }
theorem a1e(a:AV)(ha:a=kt∨a=b9)(l:List UInt8)(h0:0<l.length)(h1:(0:Int)<(l.length:Int))(h2:(l.length:Int)≤9223372036854775807):CC prog G 30 [bld a (gp l),byt l] [b9] [bld a (gp l),a4q l] (.d (.str l)):=by
 refine CC.go Tryz.func30 rfl rfl Tryz.ntmps30 (k0:=2) rfl (lb rfl) (by rfl) (by rfl) ?_
 refine qg ?_;refine qb (by simp only[go_sem];rfl) ?_
 refine qd 1 (by simp only[go_sem,bld,byt];rfl) ?_
 refine qc ?_;refine qa ?_;refine qg ?_;refine qum Tryz.mixed (by simp only[go_sem];rfl) ?_
 refine qsq 12 (by simp only[go_sem,List.length_map,a4i,h0,h1,h2,Nat.le_refl];rfl) ?_
 refine qlz 2 (by kernel_rfl) ?_
 refine qa ?_;refine qn ?_;refine abb (.inr rfl) (rs:=[.tmp 2]) rfl (by simp only[go_sem];rfl) ?_ ?_ (lb rfl) (mc a _ ha) (by rfl)
 · rfl
 · exact .cons rfl (.cons rfl (.nil _ _))
end Go.Proofs.YtefjlhhicgepfaaGreatDoor
