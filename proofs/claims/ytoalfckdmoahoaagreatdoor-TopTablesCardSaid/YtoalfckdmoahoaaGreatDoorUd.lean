/- What functions of the program compute: lemmas. -/
import Derived.Test.YtoalfckdmoahoaaGreatDoorSb1
import Derived.Test.YtoalfckdmoahoaaGreatDoorAm6
import Derived.Shelf.Spec.TrailingZeros
set_option linter.unusedSimpArgs false
set_option linter.unusedVariables false
set_option linter.unusedSectionVars false
namespace Go.Proofs.YtoalfckdmoahoaaGreatDoor
open Go Am Go.Proofs
set_option maxRecDepth 100000
variable {G:Glob}
abbrev gTab:Nat:=0
def tzRen:Go.Shelf.Ren:=⟨fun|29=>78|n=>n,fun|0=>0|3=>3|4=>4|5=>5|22=>44|25=>28|54=>154|n=>n,fun|1=>gTab|n=>n⟩
theorem tz29:Lays7.n29 Tryz.prog tzRen:={
 mixed:=by kernel_rfl
 f29:=Tryz.func78.trans (congrArg some (by kernel_rfl))
 t0:=Tryz.underlying0
 a0:=Tryz.isAgg0
 z0:=Tryz.sizeOf0
 v0:=Tryz.zeroValue0
 i0:=by kernel_rfl
 t3:=Tryz.underlying3
 a3:=Tryz.isAgg3
 z3:=Tryz.sizeOf3
 v3:=Tryz.zeroValue3
 i3:=by kernel_rfl
 t4:=Tryz.underlying4
 a4:=Tryz.isAgg4
 z4:=Tryz.sizeOf4
 v4:=Tryz.zeroValue4
 i4:=by kernel_rfl
 t5:=Tryz.underlying5
 a5:=Tryz.isAgg5
 z5:=Tryz.sizeOf5
 v5:=Tryz.zeroValue5
 i5:=by kernel_rfl
 t22:=Tryz.underlying44
 a22:=Tryz.isAgg44
 z22:=Tryz.sizeOf44
 v22:=Tryz.zeroValue44
 i22:=by kernel_rfl
 t25:=Tryz.underlying28
 a25:=Tryz.isAgg28
 z25:=Tryz.sizeOf28
 v25:=Tryz.zeroValue28
 i25:=by kernel_rfl
 t54:=Tryz.underlying154
 a54:=Tryz.isAgg154
 z54:=Tryz.sizeOf154
 g1:=by kernel_rfl }
def tabT:List D:=Lib.deBruijn64tab.map fun (n:Nat)=>D.int .u8 (n:Int)
def tzE:PF:=fun a=>match a with
 | [.int .u64 n]=>if 0≤n∧n<18446744073709551616 then some [.int .i64 (Lib.ctz 64 n.toNat:Nat)] else none
 | _=>none
theorem qvvb (x:BitVec 64):tzE [bvD x]=some [.int .i64 (low x)]:=by
 unfold tzE bvD low;have:=x.isLt;simp only[Int.toNat_natCast];rw[if_pos (by omega)]
theorem qiz {a o:List D} (h:tzE a=some o):∃ x:BitVec 64,a=[bvD x]∧o=[.int .i64 (low x)]:=by
 unfold tzE at h
 split at h
 · rename_i n
   split at h
   · rename_i hn;refine ⟨BitVec.ofNat 64 n.toNat,?_,?_⟩
     · unfold bvD;rw[BitVec.toNat_ofNat,Nat.mod_eq_of_lt (by omega)];congr 2;omega
     · unfold low;rw[BitVec.toNat_ofNat,Nat.mod_eq_of_lt (by omega)];exact (Option.some.inj h).symm
   · cases h
 · cases h
theorem qtqb {a o:List D} (h:tzE a=some o):EWF o:=by
 obtain ⟨x,_,rfl⟩:=qiz h;intro d hd;simp only[List.mem_cons,List.not_mem_nil,or_false] at hd;subst hd;exact .int _ _
theorem qsub:Body Tryz.prog 78:=⟨Tryz.f78,Tryz.func78,by kernel_rfl,by kernel_rfl⟩
theorem qzzb {w:World} {C:Com} {g:Nat} (h:RepA w C (fun _=>none) (fun _=>none) (.eptr tabT) (.pointer (some ⟨g,0,none⟩))):TabAt g Lib.deBruijn64tab w:=by
 intro j hj;cases h with
 | eptr _ r o vs h1 h2 h3=>
  have hj':j<tabT.length:=by simpa [tabT] using hj
  have h4:=h3 j hj';have h5:=(h2 j hj').1;rw[Nat.zero_add] at h5;have:tabT[j]=D.int .u8 ((Lib.deBruijn64tab.getD j 0:Nat):Int):=by simp[tabT,hj]
  rw[this] at h4;generalize vs j=v at h4 h5;cases h4;exact h5
theorem qbub (hG:G gTab=some tabT):SigOK Tryz.prog G tzE sg59:=by
 intro ins outs hwf hl hsl hr hno;obtain ⟨x,rfl,rfl⟩:=qiz hr;refine ⟨qtqb hr,⟨qsub,fun w C ρ vs hR hGl hv=>?_⟩,fun i hi=>by simp[sg59,inL] at hi⟩
 obtain ⟨hlen,hv⟩:=hv
 obtain ⟨v0,rfl⟩:∃ v0,vs=[v0]:=by
  match vs,hlen with
  | [v0],_=>exact ⟨v0,rfl⟩
 have h0:=hv 0 (by simp[sg59,SV.instL]) (by simp)
 have hv0:v0 = .int .u64 (x.toNat:Int):=by
  cases h0 with
  | d _ _ h=>cases h;rfl
 subst hv0;refine (Any7.bits_TrailingZeros64 tz29 x.toNat x.isLt w fun _=>qzzb (hGl _ _ hG)).mono ?_
 rintro e w' ⟨rfl,rfl⟩;exact ⟨_,C,ρ,rfl,hR,.refl _ _ _ _,.d _ _ (.int _ _)⟩
end Go.Proofs.YtoalfckdmoahoaaGreatDoor

namespace Go.Proofs.YtoalfckdmoahoaaGreatDoor
open Go Am
def GHyp (G:Glob):Prop:=G gTab=some tabT
end Go.Proofs.YtoalfckdmoahoaaGreatDoor
