/- What functions of the program compute: lemmas. -/
import Derived.Test.YtoalfckdmoahoaaGreatDoorSbK
import Derived.Test.YtoalfckdmoahoaaGreatDoorAm7
import Derived.Test.YtoalfckdmoahoaaGreatDoorAm6
set_option linter.unusedSimpArgs false
set_option linter.unusedVariables false
set_option linter.unusedSectionVars false
namespace Go.Proofs.YtoalfckdmoahoaaGreatDoor
open Go Am
set_option maxRecDepth 100000
theorem qifb (x:BitVec 64):run Ktb 28 [bvD x]=some [.int .i64 (ones x 64)]:=by
 refine qg (x:=Kir28) rfl ?_;have hX:=x.isLt;rw[qrkb];obtain ⟨p0,p1,p2,p3,p4,p5,p6,p7,b0,b1,b2,b3,b4,b5,b6,b7,hs,hd⟩:=qxkb x.toNat;obtain ⟨-,hsw⟩:=qhib 8 x.toNat;rw[show bvD x=D.int .u64 (x.toNat:Int) from rfl]
 generalize x.toNat=X at *;obtain ⟨z,u,v,hz,hu,hv,hv1,hv2⟩:=qsx (dig X 8) p0 p1 p2 p3 p4 p5 p6 p7 b0 b1 b2 b3 b4 b5 b6 b7 hd;have m0:mk 256 85 8=6148914691236517205:=by decide
 have m1:mk 256 51 8=3689348814741910323:=by decide
 have m2:mk 256 15 8=1085102592571150095:=by decide
 have a1:X / 2&&&6148914691236517205≤6148914691236517205:=Nat.and_le_right;have a2:X&&&6148914691236517205≤6148914691236517205:=Nat.and_le_right;have hA:(X / 2&&&6148914691236517205)+(X&&&6148914691236517205)=s1 X 8:=by unfold s1;rw[m0]
 have e1:PO.eval (.bin .shr false) [.int .u64 (X:Int),.int .u64 1]=some [.int .u64 ((X / 2:Nat):Int)]:=qmk hX 1;have e2:PO.eval (.bin .and false) [.int .u64 ((X / 2:Nat):Int),.int .u64 6148914691236517205]=some [.int .u64 ((X / 2&&&6148914691236517205:Nat):Int)]:=qym (b:=6148914691236517205) (by omega) (by decide)
 have e3:PO.eval (.bin .and false) [.int .u64 (X:Int),.int .u64 6148914691236517205]=some [.int .u64 ((X&&&6148914691236517205:Nat):Int)]:=qym (b:=6148914691236517205) hX (by decide)
 have e4:=qkk (a:=X / 2&&&6148914691236517205) (b:=X&&&6148914691236517205) (by omega)
 rw[hA] at e4;have hA1:s1 X 8<18446744073709551616:=by rw[← hA];omega
 generalize X / 2&&&6148914691236517205=X1 at *;generalize X&&&6148914691236517205=X2 at *;generalize s1 X 8=A at *;have c1:A / 4&&&3689348814741910323≤3689348814741910323:=Nat.and_le_right;have c2:A&&&3689348814741910323≤3689348814741910323:=Nat.and_le_right;have hB:(A / 4&&&3689348814741910323)+(A&&&3689348814741910323)=s2 A 8:=by unfold s2;rw[m1]
 have f1:PO.eval (.bin .shr false) [.int .u64 (A:Int),.int .u64 2]=some [.int .u64 ((A / 4:Nat):Int)]:=qmk hA1 2;have f2:PO.eval (.bin .and false) [.int .u64 ((A / 4:Nat):Int),.int .u64 3689348814741910323]=some [.int .u64 ((A / 4&&&3689348814741910323:Nat):Int)]:=qym (b:=3689348814741910323) (by omega) (by decide)
 have f3:PO.eval (.bin .and false) [.int .u64 (A:Int),.int .u64 3689348814741910323]=some [.int .u64 ((A&&&3689348814741910323:Nat):Int)]:=qym (b:=3689348814741910323) hA1 (by decide)
 have f4:=qkk (a:=A / 4&&&3689348814741910323) (b:=A&&&3689348814741910323) (by omega)
 rw[hB] at f4;have hB1:s2 A 8≤7378697629483820646:=by rw[← hB];omega
 generalize A / 4&&&3689348814741910323=A1 at *;generalize A&&&3689348814741910323=A2 at *;generalize s2 A 8=B at *;have g1:PO.eval (.bin .shr false) [.int .u64 (B:Int),.int .u64 4]=some [.int .u64 ((B / 16:Nat):Int)]:=qmk (by omega) 4
 have g2:=qkk (a:=B / 16) (b:=B) (by omega)
 have g3:PO.eval (.bin .and false) [.int .u64 ((B / 16+B:Nat):Int),.int .u64 1085102592571150095]=some [.int .u64 ((B / 16+B&&&1085102592571150095:Nat):Int)]:=qym (b:=1085102592571150095) (by omega) (by decide)
 have hy:B / 16+B&&&1085102592571150095=dig X 8:=by rw[← hsw];unfold s3;rw[m2]
 rw[hy] at g3;generalize dig X 8=y at *;have k1:PO.eval (.bin .shr false) [.int .u64 (y:Int),.int .u64 8]=some [.int .u64 ((y / 256:Nat):Int)]:=qmk (by omega) 8
 have k2:=qkk (a:=y) (b:=y / 256) (by omega)
 rw[← hz] at k2;have k3:PO.eval (.bin .shr false) [.int .u64 (z:Int),.int .u64 16]=some [.int .u64 ((z / 65536:Nat):Int)]:=qmk (by omega) 16
 have k4:=qkk (a:=z) (b:=z / 65536) (by omega)
 rw[← hu] at k4;have k5:PO.eval (.bin .shr false) [.int .u64 (u:Int),.int .u64 32]=some [.int .u64 ((u / 4294967296:Nat):Int)]:=qmk (by omega) 32
 have k6:=qkk (a:=u) (b:=u / 4294967296) (by omega)
 rw[← hv] at k6
 have k7:PO.eval (.conv .i64) [.int .u64 (v:Int)]=some [.int .i64 (v:Int)]:=by
  show some [D.int .i64 (IntKind.i64.wrap (v:Int))]=_
  rw[wr (by omega) (by omega)]
 have k8:PO.eval (.bin .and false) [.int .i64 (v:Int),.int .i64 127]=some [.int .i64 ((v&&&127:Nat):Int)]:=qxw (b:=127) hv1 (by decide)
 have h127:v&&&127=v % 128:=Nat.and_two_pow_sub_one_eq_mod v 7;rw[h127,hv2,← hs] at k8;clear hz hu hv hd hy m0 m1 m2;generalize X / 2=X0 at *;generalize A / 4=A0 at *;generalize B / 16+B=B1 at *;generalize B / 16=B0 at *;generalize y / 256=y1 at *;generalize z / 65536=z1 at *;generalize u / 4294967296=u1 at *;simp only[Kir28,qc,qb,eq_self,e1,e2,e3,e4,f1,f2,f3,f4,g1,g2,g3,k1,k2,k3,k4,k5,k6,k7,k8]
end Go.Proofs.YtoalfckdmoahoaaGreatDoor

namespace Go.Proofs.YtoalfckdmoahoaaGreatDoor
open Go Am
set_option maxRecDepth 100000
theorem qz (x y:BitVec 64) (h:Sml x):run Ktb 24 [ivD x,ivD y]=some [.bool (subB x y)]:=by
 refine qg (x:=Kir24) rfl ?_;simp only[Kir24,qc,qb,qbjb false h,qwq];rfl
theorem qgob {k:BitVec 64} (h:k.toNat<16):decide ((ones k 64:Int)=1)=oneW k:=by
 have hh:∀ n:_root_.Fin 16,decide ((ones (BitVec.ofNat 64 n.1) 64:Int)=1)=oneW (BitVec.ofNat 64 n.1):=by decide +kernel
 have:=hh ⟨k.toNat,h⟩
 rwa [show BitVec.ofNat 64 k.toNat=k by simp] at this
theorem qqhb (k:BitVec 64):run Ktb 25 [bvD k]=some [.int .i64 (ones k 64)]:=by
 refine qg (x:=Kir25) rfl ?_;have h1:=qifb k
 have h2:PO.eval (.conv .u64) [bvD k]=some [bvD k]:=by
  show some [D.int .u64 (IntKind.u64.wrap (k.toNat:Int))]=_
  rw[show IntKind.u64.wrap (k.toNat:Int)=(k.toNat:Int) by have:=k.isLt;simp[IntKind.wrap,IntKind.bits,IntKind.signed];omega];rfl
 simp only[Kir25,qc,qb,eq_self,h1]
theorem qzcc (x:Int):PO.eval (.bin .neq false) [.int .i64 x,.int .i64 1]=some [.bool (!decide (x=1))]:=by
 show one1 (some (.bool (!(x == 1))))=_
 rw[show (x == 1)=decide (x=1) by rw[Bool.eq_iff_iff];simp];rfl
theorem ivU (k:BitVec 64):PO.eval (.conv .u64) [ivD k]=some [bvD k]:=by
 show some [D.int .u64 (IntKind.u64.wrap (k.toNat:Int))]=_
 rw[show IntKind.u64.wrap (k.toNat:Int)=(k.toNat:Int) by have:=k.isLt;simp[IntKind.wrap,IntKind.bits,IntKind.signed];omega];rfl
section
variable {a:Int} {rows:List (List Int)} (hv:Vld a rows) {k f g A:BitVec 64} (hk:k.toNat<szT a) (hf:f.toNat<szT a) (hg:g.toNat<szT a) (hA:A.toNat<szT a)
include hv hk hf hg hA
theorem quxb:run Ktb 2 [ivD A,tabD rows,ivD k,ivD f,ivD g]=some [.bool (revT (tOf rows) 1 k f g)]:=by
 refine qg (x:=Kir2) rfl ?_;have x0:=tr hv hk;have x1:=tc hv hk hf;have x2:=qz (tOf rows k f) f (sm (qn a) (t_lt hv hk hf));have er:=qxqb (tOf rows) k f g;simp only[Kir2,qc,qb,x0,x1,x2];rw[er]
theorem qnxb:run Ktb 3 [ivD A,tabD rows,ivD k,ivD f,ivD g]=some [.bool (revT (tOf rows) 2 k f g)]:=by
 refine qg (x:=Kir3) rfl ?_;have x0:=qyf false (y:=f) (sm (qn a) hk);have x1:=qwq;have x2:=tr hv hk;have x3:=tc hv hk hf;have x4:=qln;have er:=qlsb (tOf rows) k f g;generalize hs0:decide (k&&&f=0#64)=b0 at *;cases b0<;>(simp only[Kir3,qc,qb,x0,x1,x2,x3,x4,hs0];rw[er];try rfl)
theorem qqtb:run Ktb 4 [ivD A,tabD rows,ivD k,ivD f,ivD g]=some [.bool (revT (tOf rows) 3 k f g)]:=by
 refine qg (x:=Kir4) rfl ?_;have x0:=qwq;have x1:=tr hv hk;have x2:=tc hv hk hf;have x3:=qlqb;have er:=qqzb (tOf rows) k f g;generalize hs0:decide (f=0#64)=b0 at *;cases b0<;>(simp only[Kir4,qc,qb,x0,x1,x2,x3,hs0];rw[er];try rfl)
theorem qotb:run Ktb 5 [ivD A,tabD rows,ivD k,ivD f,ivD g]=some [.bool (revT (tOf rows) 4 k f g)]:=by
 refine qg (x:=Kir5) rfl ?_;have x0:=tr hv hk;have x1:=tc hv hk hf;have x2:=qyf false (y:=g) (sm (qn a) (t_lt hv hk hf));have x3:=qyf false (y:=g) (sm (qn a) hf);have x4:=tc hv hk (qmf (y:=g) hf);have x5:=qz (tOf rows k f&&&g) (tOf rows k (f&&&g)) (sm (qn a) (qmf (t_lt hv hk hf)));have er:=qjac (tOf rows) k f g;simp only[Kir5,qc,qb,x0,x1,x2,x3,x4,x5];rw[er]
theorem qoxb:run Ktb 6 [ivD A,tabD rows,ivD k,ivD f,ivD g]=some [.bool (revT (tOf rows) 5 k f g)]:=by
 refine qg (x:=Kir6) rfl ?_;have x0:=tr hv hk;have x1:=tc hv hk hf;have x2:=qwq;have x3:=qyf false (y:=g) (sm (qn a) (t_lt hv hk hf));have x4:=qyf false (y:=g) (sm (qn a) hf);have x5:=tc hv hk (qmf (y:=g) hf);have x6:=qz (tOf rows k (f&&&g)) (tOf rows k f&&&g) (sm (qn a) (t_lt hv hk (qmf hf)));have er:=qvac (tOf rows) k f g;generalize hs0:decide (tOf rows k f&&&g=0#64)=b0 at *;cases b0<;>(simp only[Kir6,qc,qb,x0,x1,x2,x3,x4,x5,x6,hs0];rw[er];try rfl)
theorem qjtb:run Ktb 7 [ivD A,tabD rows,ivD k,ivD f,ivD g]=some [.bool (conT A (tOf rows) 1 k f g)]:=by
 refine qg (x:=Kir7) rfl ?_;have x0:=tr hv hk;have x1:=tc hv hk hf;have x2:=qz k (tOf rows k f) (sm (qn a) hk);have er:=qtzb (tOf rows) A k f g;simp only[Kir7,qc,qb,x0,x1,x2];rw[er]
theorem qysb:run Ktb 8 [ivD A,tabD rows,ivD k,ivD f,ivD g]=some [.bool (conT A (tOf rows) 2 k f g)]:=by
 refine qg (x:=Kir8) rfl ?_;have x0:=qz k f (sm (qn a) hk);have x1:=tr hv hk;have x2:=tc hv hk hf;have x3:=qln;have er:=qaac (tOf rows) A k f g;generalize hs0:subB k f=b0 at *;cases b0<;>(simp only[Kir8,qc,qb,x0,x1,x2,x3];rw[er];try rfl)
theorem qssb:run Ktb 9 [ivD A,tabD rows,ivD k,ivD f,ivD g]=some [.bool (conT A (tOf rows) 3 k f g)]:=by
 refine qg (x:=Kir9) rfl ?_;have x0:=qln;have x1:=tr hv hk;have x2:=tc hv hk hf;have x3:=qz (tOf rows k f) f (sm (qn a) (t_lt hv hk hf));have er:=qoyb (tOf rows) A k f g;generalize hs0:decide (f=A)=b0 at *;generalize hs1:subB (tOf rows k f) f=b1 at *;cases b0<;>cases b1<;>(simp only[Kir9,qc,qb,x0,x1,x2,x3,hs0];rw[er];try rfl)
theorem qyvb:run Ktb 10 [ivD A,tabD rows,ivD k,ivD f,ivD g]=some [.bool (conT A (tOf rows) 4 k f g)]:=by
 refine qg (x:=Kir10) rfl ?_;have x0:=tr hv hk;have x1:=tc hv hk hf;have x2:=qyf false (y:=f) (sm (qn a) (t_lt hv hk hf));have x3:=qz (tOf rows k f&&&f) k (sm (qn a) (qmf (t_lt hv hk hf)));have er:=qjbc (tOf rows) A k f g;simp only[Kir10,qc,qb,x0,x1,x2,x3];rw[er]
theorem qvxb:run Ktb 11 [ivD A,tabD rows,ivD k,ivD f,ivD g]=some [.bool (conT A (tOf rows) 5 k f g)]:=by
 refine qg (x:=Kir11) rfl ?_;have x0:=tr hv hk;have x1:=qyf false (y:=g) (sm (qn a) hf);have x2:=tc hv hk (qmf (y:=g) hf);have x3:=tc hv hk hf;have x4:=tc hv hk hg;have x5:=qjmb false (sm (qn a) (t_lt hv hk hf)) (sm (qn a) (t_lt hv hk hg));have x6:=qz (tOf rows k (f&&&g)) (tOf rows k f|||tOf rows k g) (sm (qn a) (t_lt hv hk (qmf hf)))
 have er:=qbzb (tOf rows) A k f g;simp only[Kir11,qc,qb,x0,x1,x2,x3,x4,x5,x6];rw[er]
theorem qmub:run Ktb 12 [ivD A,tabD rows,ivD k,ivD f,ivD g]=some [.bool (conT A (tOf rows) 6 k f g)]:=by
 refine qg (x:=Kir12) rfl ?_;have x0:=tr hv hk;have x1:=qyf false (y:=g) (sm (qn a) hf);have x2:=tc hv hk (qmf (y:=g) hf);have x3:=tc hv hk hf;have x4:=qz (tOf rows k (f&&&g)) f (sm (qn a) (t_lt hv hk (qmf hf)));have x5:=qz (tOf rows k f) (tOf rows k (f&&&g)) (sm (qn a) (t_lt hv hk hf));have er:=qrzb (tOf rows) A k f g;generalize hs0:subB (tOf rows k (f&&&g)) f=b0 at *;cases b0<;>(simp only[Kir12,qc,qb,x0,x1,x2,x3,x4,x5];rw[er];try rfl)
theorem qxvb:run Ktb 13 [ivD A,tabD rows,ivD k,ivD f,ivD g]=some [.bool (updT (tOf rows) 1 k f g)]:=by
 refine qg (x:=Kir13) rfl ?_;have x0:=tr hv hk;have x1:=tc hv hk hf;have x2:=qz (tOf rows k f) f (sm (qn a) (t_lt hv hk hf));have er:=qpbc (tOf rows) k f g;simp only[Kir13,qc,qb,x0,x1,x2];rw[er]
theorem qzsb:run Ktb 14 [ivD A,tabD rows,ivD k,ivD f,ivD g]=some [.bool (updT (tOf rows) 2 k f g)]:=by
 refine qg (x:=Kir14) rfl ?_;have x0:=qz k f (sm (qn a) hk);have x1:=tr hv hk;have x2:=tc hv hk hf;have x3:=qln;have er:=qtyb (tOf rows) k f g;generalize hs0:subB k f=b0 at *;cases b0<;>(simp only[Kir14,qc,qb,x0,x1,x2,x3];rw[er];try rfl)
theorem qxtb:run Ktb 15 [ivD A,tabD rows,ivD k,ivD f,ivD g]=some [.bool (updT (tOf rows) 3 k f g)]:=by
 refine qg (x:=Kir15) rfl ?_;have x0:=qwq;have x1:=tr hv hk;have x2:=tc hv hk hf;have x3:=qlqb;have er:=qdbc (tOf rows) k f g;generalize hs0:decide (k=0#64)=b0 at *;generalize hs1:decide (f=0#64)=b1 at *;cases b0<;>cases b1<;>(simp only[Kir15,qc,qb,x0,x1,x2,x3,hs0,hs1];rw[er];try rfl)
theorem qxxb:run Ktb 16 [ivD A,tabD rows,ivD k,ivD f,ivD g]=some [.bool (updT (tOf rows) 4 k f g)]:=by
 refine qg (x:=Kir16) rfl ?_;have x0:=tr hv hk;have x1:=tc hv hk hf;have x2:=qyf false (y:=g) (sm (qn a) (t_lt hv hk hf));have x3:=qyf false (y:=g) (sm (qn a) hf);have x4:=tc hv hk (qmf (y:=g) hf);have x5:=qz (tOf rows k f&&&g) (tOf rows k (f&&&g)) (sm (qn a) (qmf (t_lt hv hk hf)));have er:=qgzb (tOf rows) k f g;simp only[Kir16,qc,qb,x0,x1,x2,x3,x4,x5];rw[er]
theorem qowb:run Ktb 17 [ivD A,tabD rows,ivD k,ivD f,ivD g]=some [.bool (updT (tOf rows) 5 k f g)]:=by
 refine qg (x:=Kir17) rfl ?_;have x0:=tr hv hk;have x1:=tc hv hk hf;have x2:=tc hv hk hg;have x3:=qz (tOf rows k f) g (sm (qn a) (t_lt hv hk hf));have x4:=qz (tOf rows k g) f (sm (qn a) (t_lt hv hk hg));have x5:=qln;have er:=qobc (tOf rows) k f g;generalize hs0:subB (tOf rows k f) g=b0 at *;generalize hs1:subB (tOf rows k g) f=b1 at *;cases b0<;>cases b1<;>(simp only[Kir17,qc,qb,x0,x1,x2,x3,x4,x5];rw[er];try rfl)
theorem qbvb:run Ktb 18 [ivD A,tabD rows,ivD k,ivD f,ivD g]=some [.bool (updT (tOf rows) 6 k f g)]:=by
 refine qg (x:=Kir18) rfl ?_;have x0:=ivU;have x1:=qqhb;have x2:=qzcc (ones k 64);have x3:=qgob (Nat.lt_of_lt_of_le hk (qn a));have x4:=tr hv hk;have x5:=tc hv hk hf;have x6:=tc hv hk hg;have x7:=qyf false (y:=tOf rows k g) (sm (qn a) (t_lt hv hk hf));have x8:=qjmb false (sm (qn a) hf) (sm (qn a) hg);have x9:=tc hv hk (qfhb hf hg);have x10:=qz (tOf rows k f&&&tOf rows k g) (tOf rows k (f|||g)) (sm (qn a) (qmf (t_lt hv hk hf)))
 have er:=qlyb (tOf rows) k f g;generalize hs0:oneW k=b0 at *;cases b0<;>(simp only[Kir18,qc,qb,x0,x1,x2,x3,x4,x5,x6,x7,x8,x9,x10];rw[er];try rfl)
theorem qdwb:run Ktb 19 [ivD A,tabD rows,ivD k,ivD f,ivD g]=some [.bool (updT (tOf rows) 7 k f g)]:=by
 refine qg (x:=Kir19) rfl ?_;have x0:=qjmb false (sm (qn a) hk) (sm (qn a) hg);have x1:=tr hv (qfhb hk hg);have x2:=tr hv hk;have x3:=tr hv hg;have x4:=tc hv (qfhb hk hg) hf;have x5:=tc hv hk hf;have x6:=tc hv hg hf;have x7:=qjmb false (sm (qn a) (t_lt hv hk hf)) (sm (qn a) (t_lt hv hg hf));have x8:=qln;have er:=qqbc (tOf rows) k f g;simp only[Kir19,qc,qb,x0,x1,x2,x3,x4,x5,x6,x7,x8];rw[er]
end
end Go.Proofs.YtoalfckdmoahoaaGreatDoor

namespace Go.Proofs.YtoalfckdmoahoaaGreatDoor
open Go Am
set_option maxRecDepth 100000
theorem qhub (x S:Int):run Ktb 33 [.int .i64 x,.int .i64 S]=some [.bool (badS S x),.int .i64 S]:=by
 refine qg (x:=Kir33) rfl ?_;unfold badS
 by_cases h:x<0
 · simp only[Kir33,qc,qb,eq_self,aBin,reduceIte,h]
 · simp only[Kir33,qc,qb,eq_self,aBin,reduceIte,h]
theorem qrpb (l:List Int) (S:Int) (hl:l.length<9223372036854775808):run Ktb 32 [numsD l,.int .i64 S]=some [.int .i64 (idxP (badS S) 0 l),.int .i64 S]:=by
 refine qg (x:=Kir32) rfl ?_
 have key:=qcb (run:=run Ktb) (body:=Kir32p0) (e:=[numsD l,.int .i64 S,.int .i64 l.length]) (J:=[]) (σ:=Unit) l.length
  (fun _ _=>True) (fun i _=>[.int .i64 i,.int .i64 S]) (fun i _=>[.int .i64 (idxP (badS S) i (l.drop i)),.int .i64 S])
  (by
   rintro i _ L hi _ hL;have hnext:=hL () trivial;have hf:=qhub l[i] S;rw[qfs _ hi];cases hb:badS S l[i] with
   | true=>
    rw[hb] at hf;simp (disch:=omega) only[Kir32p0,qc,qb,eq_self,aBin,hi,qpf,hf,if_true]
   | false=>
    rw[hb] at hf;simp only[Bool.false_eq_true,if_false];simp (disch:=omega) only[Kir32p0,qc,qb,eq_self,aBin,reduceIte,hi,qpf,hf,wr,natS,hnext])
  (by
   rintro _ L _;have e:idxP (badS S) l.length (l.drop l.length) = -1:=by rw[List.drop_length];rfl
   simp (disch:=omega) only[Kir32p0,qc,qb,eq_self,aBin,reduceIte,Nat.lt_irrefl,e])
 have hk:=key 0 () (by omega) trivial
 simp only[nat0,List.drop_zero] at hk;simp only[Kir32,qc,qb,eq_self,qge,hk]
theorem qxlb (l:List Int) (S:Int) (hl:l.length<9223372036854775808):run Ktb 31 [numsD l,.int .i64 S]=some [.bool (l.any (badS S)),.int .i64 S]:=by
 refine qg (x:=Kir31) rfl ?_;have h1:=qrpb l S hl;have h2:=qqv (badS S) l 0;simp only[Kir31,qc,qb,eq_self,aBin,reduceIte,h1];rw[← h2]
theorem qtvb (l:List Int) (S:Int) (hl:l.length<9223372036854775808):run Ktb 30 [numsD l,.int .i64 S]=some [.bool (badR S l),.int .i64 S]:=by
 refine qg (x:=Kir30) rfl ?_;have h1:=qxlb l S hl;unfold badR
 by_cases h:(l.length:Int)=S
 · simp only[Kir30,qc,qb,eq_self,aBin,reduceIte,qge,ibne,h,h1,ne_eq,not_true_eq_false]
 · simp only[Kir30,qc,qb,eq_self,aBin,reduceIte,qge,ibne,h,ne_eq,not_false_eq_true]
theorem qmob (rows:List (List Int)) (S:Int) (hl:rows.length<9223372036854775808) (hr:∀ r∈rows,r.length<9223372036854775808):run Ktb 29 [tabD rows,.int .i64 S]=some [.int .i64 (idxP (badR S) 0 rows),.int .i64 S]:=by
 refine qg (x:=Kir29) rfl ?_
 have key:=qcb (run:=run Ktb) (body:=Kir29p0) (e:=[tabD rows,.int .i64 S,.int .i64 rows.length]) (J:=[]) (σ:=Unit) rows.length
  (fun _ _=>True) (fun i _=>[.int .i64 i,.int .i64 S]) (fun i _=>[.int .i64 (idxP (badR S) i (rows.drop i)),.int .i64 S])
  (by
   rintro i _ L hi _ hL;have hnext:=hL () trivial;have hf:=qtvb rows[i] S (hr _ (List.getElem_mem hi));rw[qfs _ hi];cases hb:badR S rows[i] with
   | true=>
    rw[hb] at hf;simp (disch:=omega) only[Kir29p0,qc,qb,eq_self,aBin,hi,qdub,hf,if_true]
   | false=>
    rw[hb] at hf;simp only[Bool.false_eq_true,if_false];simp (disch:=omega) only[Kir29p0,qc,qb,eq_self,aBin,reduceIte,hi,qdub,hf,wr,natS,hnext])
  (by
   rintro _ L _;have e:idxP (badR S) rows.length (rows.drop rows.length) = -1:=by rw[List.drop_length];rfl
   simp (disch:=omega) only[Kir29p0,qc,qb,eq_self,aBin,reduceIte,Nat.lt_irrefl,e])
 have hk:=key 0 () (by omega) trivial
 simp only[nat0,List.drop_zero] at hk;simp only[Kir29,qc,qb,eq_self,qya,hk]
theorem qsmb (rows:List (List Int)) (S:Int) (hl:rows.length<9223372036854775808) (hr:∀ r∈rows,r.length<9223372036854775808):run Ktb 27 [tabD rows,.int .i64 S]=some [.bool (rows.any (badR S)),.int .i64 S]:=by
 refine qg (x:=Kir27) rfl ?_;have h1:=qmob rows S hl hr;have h2:=qqv (badR S) rows 0;simp only[Kir27,qc,qb,eq_self,aBin,reduceIte,h1];rw[← h2]
theorem qgv (a:Int) (t:D) (ha:a=1∨a=2):run Ktb 26 [.int .i64 a,t]=some [.int .i64 (if a=1 then 2 else 4)]:=by
 refine qg (x:=Kir26) rfl ?_;rcases ha with rfl|rfl
 · rfl
 · rfl
theorem qip (a:Int) (rows:List (List Int)) (hl:rows.length<9223372036854775808) (hr:∀ r∈rows,r.length<9223372036854775808):run Ktb 20 [.int .i64 a,tabD rows]=some [.int .i64 (if vldB a rows=true then 0 else 1)]:=by
 refine qg (x:=Kir20) rfl ?_
 by_cases ha:a=1∨a=2
 · have h1:=qgv a (tabD rows) ha;have h2:=qsmb rows (szT a:Int) hl hr;rw[qceb ha];have h4:∀ b:Bool,(if (!b)=true then (0:Int) else 1)=if b=true then 1 else 0:=by decide
   rw[h4];have e1:IntKind.i64.wrap (1*2^min (Int.toNat 2) IntKind.i64.bits)=4:=by decide
   have e2:IntKind.i64.wrap (1*2^min (Int.toNat 4) IntKind.i64.bits)=16:=by decide
   have s1:(szT 1:Int)=4:=rfl;have s2:(szT 2:Int)=16:=rfl;have i1:(if (1:Int)=1 then (2:Int) else 4)=2:=rfl
   have i2:(if (2:Int)=1 then (2:Int) else 4)=4:=rfl
   have n1:¬ (2:Int)=1:=by decide
   have n2:¬ (1:Int)=2:=by decide
   rcases ha with rfl|rfl
   · rw[s1] at h2 ⊢;rw[i1] at h1
     by_cases hlen:(rows.length:Int)=4
     · cases hany : rows.any (badR 4) <;> rw [hany] at h2 <;>
        simp only[Kir20,Kir20p0,Kir20p1,qc,qb,eq_self,aBin,Int.reduceLE,ibne,h1,h2,e1,qya,hlen,ne_eq,not_true_eq_false,if_true,if_false]
     · simp only[Kir20,Kir20p0,Kir20p1,qc,qb,eq_self,aBin,Int.reduceLE,ibne,h1,e1,qya,hlen,ne_eq,not_false_eq_true,if_true]
   · rw[s2] at h2 ⊢;rw[i2] at h1
     by_cases hlen:(rows.length:Int)=16
     · cases hany : rows.any (badR 16) <;> rw [hany] at h2 <;>
        simp only[Kir20,Kir20p0,Kir20p1,qc,qb,eq_self,aBin,Int.reduceLE,ibne,h1,h2,e2,n1,qya,hlen,ne_eq,not_true_eq_false,if_true,if_false]
     · simp only[Kir20,Kir20p0,Kir20p1,qc,qb,eq_self,aBin,Int.reduceLE,ibne,h1,e2,n1,qya,hlen,ne_eq,not_false_eq_true,if_true]
 · have hv : vldB a rows = false := by
    rw[Bool.eq_false_iff];intro h;exact ha (qrg.1 h).at_
   rw[hv];have h1:¬ a=1:=fun h=>ha (.inl h)
   have h2:¬ a=2:=fun h=>ha (.inr h)
   simp only[Kir20,Kir20p1,qc,qb,eq_self,aBin,reduceIte,ibne,h1,h2,if_false]
end Go.Proofs.YtoalfckdmoahoaaGreatDoor
