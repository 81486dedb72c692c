/- What functions of the program compute: lemmas. -/
import Derived.Test.YtnfecjmddbehiaaGreatSbK
import Derived.Test.YtnfecjmddbehiaaGreatAm7
import Derived.Test.YtnfecjmddbehiaaGreatAm6
set_option linter.unusedSimpArgs false
set_option linter.unusedVariables false
set_option linter.unusedSectionVars false
namespace Go.Proofs.YtnfecjmddbehiaaGreat
open Go Am
set_option maxRecDepth 100000
theorem quib (x:BitVec 64):run Ktb 28 [bvD x]=some [.int .i64 (ones x 64)]:=by
 refine qc (x:=Kir28) rfl ?_;have hX:=x.isLt;rw[qqob];obtain ⟨p0,p1,p2,p3,p4,p5,p6,p7,b0,b1,b2,b3,b4,b5,b6,b7,hs,hd⟩:=qnrb x.toNat;obtain ⟨-,hsw⟩:=qeob 8 x.toNat;rw[show bvD x=D.int .u64 (x.toNat:Int) from rfl]
 generalize x.toNat=X at *;obtain ⟨z,u,v,hz,hu,hv,hv1,hv2⟩:=qzkb (dig X 8) p0 p1 p2 p3 p4 p5 p6 p7 b0 b1 b2 b3 b4 b5 b6 b7 hd;have m0:mk 256 85 8=6148914691236517205:=by decide
 have m1:mk 256 51 8=3689348814741910323:=by decide
 have m2:mk 256 15 8=1085102592571150095:=by decide
 have a1:X / 2&&&6148914691236517205≤6148914691236517205:=Nat.and_le_right;have a2:X&&&6148914691236517205≤6148914691236517205:=Nat.and_le_right;have hA:(X / 2&&&6148914691236517205)+(X&&&6148914691236517205)=s1 X 8:=by unfold s1;rw[m0]
 have e1:PO.eval (.bin .shr false) [.int .u64 (X:Int),.int .u64 1]=some [.int .u64 ((X / 2:Nat):Int)]:=qqz hX 1;have e2:PO.eval (.bin .and false) [.int .u64 ((X / 2:Nat):Int),.int .u64 6148914691236517205]=some [.int .u64 ((X / 2&&&6148914691236517205:Nat):Int)]:=qbgb (b:=6148914691236517205) (by omega) (by decide)
 have e3:PO.eval (.bin .and false) [.int .u64 (X:Int),.int .u64 6148914691236517205]=some [.int .u64 ((X&&&6148914691236517205:Nat):Int)]:=qbgb (b:=6148914691236517205) hX (by decide)
 have e4:=qny (a:=X / 2&&&6148914691236517205) (b:=X&&&6148914691236517205) (by omega)
 rw[hA] at e4;have hA1:s1 X 8<18446744073709551616:=by rw[← hA];omega
 generalize X / 2&&&6148914691236517205=X1 at *;generalize X&&&6148914691236517205=X2 at *;generalize s1 X 8=A at *;have c1:A / 4&&&3689348814741910323≤3689348814741910323:=Nat.and_le_right;have c2:A&&&3689348814741910323≤3689348814741910323:=Nat.and_le_right;have hB:(A / 4&&&3689348814741910323)+(A&&&3689348814741910323)=s2 A 8:=by unfold s2;rw[m1]
 have f1:PO.eval (.bin .shr false) [.int .u64 (A:Int),.int .u64 2]=some [.int .u64 ((A / 4:Nat):Int)]:=qqz hA1 2;have f2:PO.eval (.bin .and false) [.int .u64 ((A / 4:Nat):Int),.int .u64 3689348814741910323]=some [.int .u64 ((A / 4&&&3689348814741910323:Nat):Int)]:=qbgb (b:=3689348814741910323) (by omega) (by decide)
 have f3:PO.eval (.bin .and false) [.int .u64 (A:Int),.int .u64 3689348814741910323]=some [.int .u64 ((A&&&3689348814741910323:Nat):Int)]:=qbgb (b:=3689348814741910323) hA1 (by decide)
 have f4:=qny (a:=A / 4&&&3689348814741910323) (b:=A&&&3689348814741910323) (by omega)
 rw[hB] at f4;have hB1:s2 A 8≤7378697629483820646:=by rw[← hB];omega
 generalize A / 4&&&3689348814741910323=A1 at *;generalize A&&&3689348814741910323=A2 at *;generalize s2 A 8=B at *;have g1:PO.eval (.bin .shr false) [.int .u64 (B:Int),.int .u64 4]=some [.int .u64 ((B / 16:Nat):Int)]:=qqz (by omega) 4
 have g2:=qny (a:=B / 16) (b:=B) (by omega)
 have g3:PO.eval (.bin .and false) [.int .u64 ((B / 16+B:Nat):Int),.int .u64 1085102592571150095]=some [.int .u64 ((B / 16+B&&&1085102592571150095:Nat):Int)]:=qbgb (b:=1085102592571150095) (by omega) (by decide)
 have hy:B / 16+B&&&1085102592571150095=dig X 8:=by rw[← hsw];unfold s3;rw[m2]
 rw[hy] at g3;generalize dig X 8=y at *;have k1:PO.eval (.bin .shr false) [.int .u64 (y:Int),.int .u64 8]=some [.int .u64 ((y / 256:Nat):Int)]:=qqz (by omega) 8
 have k2:=qny (a:=y) (b:=y / 256) (by omega)
 rw[← hz] at k2;have k3:PO.eval (.bin .shr false) [.int .u64 (z:Int),.int .u64 16]=some [.int .u64 ((z / 65536:Nat):Int)]:=qqz (by omega) 16
 have k4:=qny (a:=z) (b:=z / 65536) (by omega)
 rw[← hu] at k4;have k5:PO.eval (.bin .shr false) [.int .u64 (u:Int),.int .u64 32]=some [.int .u64 ((u / 4294967296:Nat):Int)]:=qqz (by omega) 32
 have k6:=qny (a:=u) (b:=u / 4294967296) (by omega)
 rw[← hv] at k6
 have k7:PO.eval (.conv .i64) [.int .u64 (v:Int)]=some [.int .i64 (v:Int)]:=by
  show some [D.int .i64 (IntKind.i64.wrap (v:Int))]=_
  rw[wr (by omega) (by omega)]
 have k8:PO.eval (.bin .and false) [.int .i64 (v:Int),.int .i64 127]=some [.int .i64 ((v&&&127:Nat):Int)]:=qysb (b:=127) hv1 (by decide)
 have h127:v&&&127=v % 128:=Nat.and_two_pow_sub_one_eq_mod v 7;rw[h127,hv2,← hs] at k8;clear hz hu hv hd hy m0 m1 m2;generalize X / 2=X0 at *;generalize A / 4=A0 at *;generalize B / 16+B=B1 at *;generalize B / 16=B0 at *;generalize y / 256=y1 at *;generalize z / 65536=z1 at *;generalize u / 4294967296=u1 at *;simp only[Kir28,qa,qb,eq_self,e1,e2,e3,e4,f1,f2,f3,f4,g1,g2,g3,k1,k2,k3,k4,k5,k6,k7,k8]
end Go.Proofs.YtnfecjmddbehiaaGreat

namespace Go.Proofs.YtnfecjmddbehiaaGreat
open Go Am
set_option maxRecDepth 100000
theorem qw (x y:BitVec 64) (h:Sml x):run Ktb 24 [ivD x,ivD y]=some [.bool (subB x y)]:=by
 refine qc (x:=Kir24) rfl ?_;simp only[Kir24,qa,qb,qwg false h,qkb];rfl
theorem qqjb {k:BitVec 64} (h:k.toNat<16):decide ((ones k 64:Int)=1)=oneW k:=by
 have hh:∀ n:_root_.Fin 16,decide ((ones (BitVec.ofNat 64 n.1) 64:Int)=1)=oneW (BitVec.ofNat 64 n.1):=by decide +kernel
 have:=hh ⟨k.toNat,h⟩
 rwa [show BitVec.ofNat 64 k.toNat=k by simp] at this
theorem qigb (k:BitVec 64):run Ktb 25 [bvD k]=some [.int .i64 (ones k 64)]:=by
 refine qc (x:=Kir25) rfl ?_;have h1:=quib k
 have h2:PO.eval (.conv .u64) [bvD k]=some [bvD k]:=by
  show some [D.int .u64 (IntKind.u64.wrap (k.toNat:Int))]=_
  rw[show IntKind.u64.wrap (k.toNat:Int)=(k.toNat:Int) by have:=k.isLt;simp[IntKind.wrap,IntKind.bits,IntKind.signed];omega];rfl
 simp only[Kir25,qa,qb,eq_self,h1]
theorem qtyb (x:Int):PO.eval (.bin .neq false) [.int .i64 x,.int .i64 1]=some [.bool (!decide (x=1))]:=by
 show one1 (some (.bool (!(x == 1))))=_
 rw[show (x == 1)=decide (x=1) by rw[Bool.eq_iff_iff];simp];rfl
theorem ivU (k:BitVec 64):PO.eval (.conv .u64) [ivD k]=some [bvD k]:=by
 show some [D.int .u64 (IntKind.u64.wrap (k.toNat:Int))]=_
 rw[show IntKind.u64.wrap (k.toNat:Int)=(k.toNat:Int) by have:=k.isLt;simp[IntKind.wrap,IntKind.bits,IntKind.signed];omega];rfl
section
variable {a:Int} {rows:List (List Int)} (hv:Vld a rows) {k f g A:BitVec 64} (hk:k.toNat<szT a) (hf:f.toNat<szT a) (hg:g.toNat<szT a) (hA:A.toNat<szT a)
include hv hk hf hg hA
theorem qntb:run Ktb 2 [ivD A,tabD rows,ivD k,ivD f,ivD g]=some [.bool (revT (tOf rows) 1 k f g)]:=by
 refine qc (x:=Kir2) rfl ?_;have x0:=tr hv hk;have x1:=tc hv hk hf;have x2:=qw (tOf rows k f) f (sm (qg a) (t_lt hv hk hf));have er:=qmnb (tOf rows) k f g;simp only[Kir2,qa,qb,x0,x1,x2];rw[er]
theorem qvsb:run Ktb 3 [ivD A,tabD rows,ivD k,ivD f,ivD g]=some [.bool (revT (tOf rows) 2 k f g)]:=by
 refine qc (x:=Kir3) rfl ?_;have x0:=qgb false (y:=f) (sm (qg a) hk);have x1:=qkb;have x2:=tr hv hk;have x3:=tc hv hk hf;have x4:=qab;have er:=qoob (tOf rows) k f g;generalize hs0:decide (k&&&f=0#64)=b0 at *;cases b0<;>(simp only[Kir3,qa,qb,x0,x1,x2,x3,x4,hs0];rw[er];try rfl)
theorem qesb:run Ktb 4 [ivD A,tabD rows,ivD k,ivD f,ivD g]=some [.bool (revT (tOf rows) 3 k f g)]:=by
 refine qc (x:=Kir4) rfl ?_;have x0:=qkb;have x1:=tr hv hk;have x2:=tc hv hk hf;have x3:=qac;have er:=qvpb (tOf rows) k f g;generalize hs0:decide (f=0#64)=b0 at *;cases b0<;>(simp only[Kir4,qa,qb,x0,x1,x2,x3,hs0];rw[er];try rfl)
theorem qvrb:run Ktb 5 [ivD A,tabD rows,ivD k,ivD f,ivD g]=some [.bool (revT (tOf rows) 4 k f g)]:=by
 refine qc (x:=Kir5) rfl ?_;have x0:=tr hv hk;have x1:=tc hv hk hf;have x2:=qgb false (y:=g) (sm (qg a) (t_lt hv hk hf));have x3:=qgb false (y:=g) (sm (qg a) hf);have x4:=tc hv hk (qbb (y:=g) hf);have x5:=qw (tOf rows k f&&&g) (tOf rows k (f&&&g)) (sm (qg a) (qbb (t_lt hv hk hf)));have er:=qfob (tOf rows) k f g;simp only[Kir5,qa,qb,x0,x1,x2,x3,x4,x5];rw[er]
theorem qrrb:run Ktb 6 [ivD A,tabD rows,ivD k,ivD f,ivD g]=some [.bool (revT (tOf rows) 5 k f g)]:=by
 refine qc (x:=Kir6) rfl ?_;have x0:=tr hv hk;have x1:=tc hv hk hf;have x2:=qkb;have x3:=qgb false (y:=g) (sm (qg a) (t_lt hv hk hf));have x4:=qgb false (y:=g) (sm (qg a) hf);have x5:=tc hv hk (qbb (y:=g) hf);have x6:=qw (tOf rows k (f&&&g)) (tOf rows k f&&&g) (sm (qg a) (t_lt hv hk (qbb hf)));have er:=qpnb (tOf rows) k f g;generalize hs0:decide (tOf rows k f&&&g=0#64)=b0 at *;cases b0<;>(simp only[Kir6,qa,qb,x0,x1,x2,x3,x4,x5,x6,hs0];rw[er];try rfl)
theorem qotb:run Ktb 7 [ivD A,tabD rows,ivD k,ivD f,ivD g]=some [.bool (conT A (tOf rows) 1 k f g)]:=by
 refine qc (x:=Kir7) rfl ?_;have x0:=tr hv hk;have x1:=tc hv hk hf;have x2:=qw k (tOf rows k f) (sm (qg a) hk);have er:=qgob (tOf rows) A k f g;simp only[Kir7,qa,qb,x0,x1,x2];rw[er]
theorem qarb:run Ktb 8 [ivD A,tabD rows,ivD k,ivD f,ivD g]=some [.bool (conT A (tOf rows) 2 k f g)]:=by
 refine qc (x:=Kir8) rfl ?_;have x0:=qw k f (sm (qg a) hk);have x1:=tr hv hk;have x2:=tc hv hk hf;have x3:=qab;have er:=qwpb (tOf rows) A k f g;generalize hs0:subB k f=b0 at *;cases b0<;>(simp only[Kir8,qa,qb,x0,x1,x2,x3];rw[er];try rfl)
theorem qjub:run Ktb 9 [ivD A,tabD rows,ivD k,ivD f,ivD g]=some [.bool (conT A (tOf rows) 3 k f g)]:=by
 refine qc (x:=Kir9) rfl ?_;have x0:=qab;have x1:=tr hv hk;have x2:=tc hv hk hf;have x3:=qw (tOf rows k f) f (sm (qg a) (t_lt hv hk hf));have er:=qzpb (tOf rows) A k f g;generalize hs0:decide (f=A)=b0 at *;generalize hs1:subB (tOf rows k f) f=b1 at *;cases b0<;>cases b1<;>(simp only[Kir9,qa,qb,x0,x1,x2,x3,hs0];rw[er];try rfl)
theorem qbtb:run Ktb 10 [ivD A,tabD rows,ivD k,ivD f,ivD g]=some [.bool (conT A (tOf rows) 4 k f g)]:=by
 refine qc (x:=Kir10) rfl ?_;have x0:=tr hv hk;have x1:=tc hv hk hf;have x2:=qgb false (y:=f) (sm (qg a) (t_lt hv hk hf));have x3:=qw (tOf rows k f&&&f) k (sm (qg a) (qbb (t_lt hv hk hf)));have er:=qhpb (tOf rows) A k f g;simp only[Kir10,qa,qb,x0,x1,x2,x3];rw[er]
theorem qsqb:run Ktb 11 [ivD A,tabD rows,ivD k,ivD f,ivD g]=some [.bool (conT A (tOf rows) 5 k f g)]:=by
 refine qc (x:=Kir11) rfl ?_;have x0:=tr hv hk;have x1:=qgb false (y:=g) (sm (qg a) hf);have x2:=tc hv hk (qbb (y:=g) hf);have x3:=tc hv hk hf;have x4:=tc hv hk hg;have x5:=qwh false (sm (qg a) (t_lt hv hk hf)) (sm (qg a) (t_lt hv hk hg));have x6:=qw (tOf rows k (f&&&g)) (tOf rows k f|||tOf rows k g) (sm (qg a) (t_lt hv hk (qbb hf)))
 have er:=qrnb (tOf rows) A k f g;simp only[Kir11,qa,qb,x0,x1,x2,x3,x4,x5,x6];rw[er]
theorem quub:run Ktb 12 [ivD A,tabD rows,ivD k,ivD f,ivD g]=some [.bool (conT A (tOf rows) 6 k f g)]:=by
 refine qc (x:=Kir12) rfl ?_;have x0:=tr hv hk;have x1:=qgb false (y:=g) (sm (qg a) hf);have x2:=tc hv hk (qbb (y:=g) hf);have x3:=tc hv hk hf;have x4:=qw (tOf rows k (f&&&g)) f (sm (qg a) (t_lt hv hk (qbb hf)));have x5:=qw (tOf rows k f) (tOf rows k (f&&&g)) (sm (qg a) (t_lt hv hk hf));have er:=qbqb (tOf rows) A k f g;generalize hs0:subB (tOf rows k (f&&&g)) f=b0 at *;cases b0<;>(simp only[Kir12,qa,qb,x0,x1,x2,x3,x4,x5];rw[er];try rfl)
theorem qerb:run Ktb 13 [ivD A,tabD rows,ivD k,ivD f,ivD g]=some [.bool (updT (tOf rows) 1 k f g)]:=by
 refine qc (x:=Kir13) rfl ?_;have x0:=tr hv hk;have x1:=tc hv hk hf;have x2:=qw (tOf rows k f) f (sm (qg a) (t_lt hv hk hf));have er:=qsob (tOf rows) k f g;simp only[Kir13,qa,qb,x0,x1,x2];rw[er]
theorem qhrb:run Ktb 14 [ivD A,tabD rows,ivD k,ivD f,ivD g]=some [.bool (updT (tOf rows) 2 k f g)]:=by
 refine qc (x:=Kir14) rfl ?_;have x0:=qw k f (sm (qg a) hk);have x1:=tr hv hk;have x2:=tc hv hk hf;have x3:=qab;have er:=qunb (tOf rows) k f g;generalize hs0:subB k f=b0 at *;cases b0<;>(simp only[Kir14,qa,qb,x0,x1,x2,x3];rw[er];try rfl)
theorem qprb:run Ktb 15 [ivD A,tabD rows,ivD k,ivD f,ivD g]=some [.bool (updT (tOf rows) 3 k f g)]:=by
 refine qc (x:=Kir15) rfl ?_;have x0:=qkb;have x1:=tr hv hk;have x2:=tc hv hk hf;have x3:=qac;have er:=qopb (tOf rows) k f g;generalize hs0:decide (k=0#64)=b0 at *;generalize hs1:decide (f=0#64)=b1 at *;cases b0<;>cases b1<;>(simp only[Kir15,qa,qb,x0,x1,x2,x3,hs0,hs1];rw[er];try rfl)
theorem qnub:run Ktb 16 [ivD A,tabD rows,ivD k,ivD f,ivD g]=some [.bool (updT (tOf rows) 4 k f g)]:=by
 refine qc (x:=Kir16) rfl ?_;have x0:=tr hv hk;have x1:=tc hv hk hf;have x2:=qgb false (y:=g) (sm (qg a) (t_lt hv hk hf));have x3:=qgb false (y:=g) (sm (qg a) hf);have x4:=tc hv hk (qbb (y:=g) hf);have x5:=qw (tOf rows k f&&&g) (tOf rows k (f&&&g)) (sm (qg a) (qbb (t_lt hv hk hf)));have er:=qjpb (tOf rows) k f g;simp only[Kir16,qa,qb,x0,x1,x2,x3,x4,x5];rw[er]
theorem qwqb:run Ktb 17 [ivD A,tabD rows,ivD k,ivD f,ivD g]=some [.bool (updT (tOf rows) 5 k f g)]:=by
 refine qc (x:=Kir17) rfl ?_;have x0:=tr hv hk;have x1:=tc hv hk hf;have x2:=tc hv hk hg;have x3:=qw (tOf rows k f) g (sm (qg a) (t_lt hv hk hf));have x4:=qw (tOf rows k g) f (sm (qg a) (t_lt hv hk hg));have x5:=qab;have er:=qbob (tOf rows) k f g;generalize hs0:subB (tOf rows k f) g=b0 at *;generalize hs1:subB (tOf rows k g) f=b1 at *;cases b0<;>cases b1<;>(simp only[Kir17,qa,qb,x0,x1,x2,x3,x4,x5];rw[er];try rfl)
theorem qqqb:run Ktb 18 [ivD A,tabD rows,ivD k,ivD f,ivD g]=some [.bool (updT (tOf rows) 6 k f g)]:=by
 refine qc (x:=Kir18) rfl ?_;have x0:=ivU;have x1:=qigb;have x2:=qtyb (ones k 64);have x3:=qqjb (Nat.lt_of_lt_of_le hk (qg a));have x4:=tr hv hk;have x5:=tc hv hk hf;have x6:=tc hv hk hg;have x7:=qgb false (y:=tOf rows k g) (sm (qg a) (t_lt hv hk hf));have x8:=qwh false (sm (qg a) hf) (sm (qg a) hg);have x9:=tc hv hk (qxt hf hg);have x10:=qw (tOf rows k f&&&tOf rows k g) (tOf rows k (f|||g)) (sm (qg a) (qbb (t_lt hv hk hf)))
 have er:=qapb (tOf rows) k f g;generalize hs0:oneW k=b0 at *;cases b0<;>(simp only[Kir18,qa,qb,x0,x1,x2,x3,x4,x5,x6,x7,x8,x9,x10];rw[er];try rfl)
theorem qvtb:run Ktb 19 [ivD A,tabD rows,ivD k,ivD f,ivD g]=some [.bool (updT (tOf rows) 7 k f g)]:=by
 refine qc (x:=Kir19) rfl ?_;have x0:=qwh false (sm (qg a) hk) (sm (qg a) hg);have x1:=tr hv (qxt hk hg);have x2:=tr hv hk;have x3:=tr hv hg;have x4:=tc hv (qxt hk hg) hf;have x5:=tc hv hk hf;have x6:=tc hv hg hf;have x7:=qwh false (sm (qg a) (t_lt hv hk hf)) (sm (qg a) (t_lt hv hg hf));have x8:=qab;have er:=qyob (tOf rows) k f g;simp only[Kir19,qa,qb,x0,x1,x2,x3,x4,x5,x6,x7,x8];rw[er]
end
end Go.Proofs.YtnfecjmddbehiaaGreat

namespace Go.Proofs.YtnfecjmddbehiaaGreat
open Go Am
set_option maxRecDepth 100000
theorem qoqb (x S:Int):run Ktb 33 [.int .i64 x,.int .i64 S]=some [.bool (badS S x),.int .i64 S]:=by
 refine qc (x:=Kir33) rfl ?_;unfold badS
 by_cases h:x<0
 · simp only[Kir33,qa,qb,eq_self,aBin,reduceIte,h]
 · simp only[Kir33,qa,qb,eq_self,aBin,reduceIte,h]
theorem qalb (l:List Int) (S:Int) (hl:l.length<9223372036854775808):run Ktb 32 [numsD l,.int .i64 S]=some [.int .i64 (idxP (badS S) 0 l),.int .i64 S]:=by
 refine qc (x:=Kir32) rfl ?_
 have key:=qk (run:=run Ktb) (body:=Kir32p0) (e:=[numsD l,.int .i64 S,.int .i64 l.length]) (J:=[]) (σ:=Unit) l.length
  (fun _ _=>True) (fun i _=>[.int .i64 i,.int .i64 S]) (fun i _=>[.int .i64 (idxP (badS S) i (l.drop i)),.int .i64 S])
  (by
   rintro i _ L hi _ hL;have hnext:=hL () trivial;have hf:=qoqb l[i] S;rw[qnh _ hi];cases hb:badS S l[i] with
   | true=>
    rw[hb] at hf;simp (disch:=omega) only[Kir32p0,qa,qb,eq_self,aBin,hi,qtb,hf,if_true]
   | false=>
    rw[hb] at hf;simp only[Bool.false_eq_true,if_false];simp (disch:=omega) only[Kir32p0,qa,qb,eq_self,aBin,reduceIte,hi,qtb,hf,wr,natS,hnext])
  (by
   rintro _ L _;have e:idxP (badS S) l.length (l.drop l.length) = -1:=by rw[List.drop_length];rfl
   simp (disch:=omega) only[Kir32p0,qa,qb,eq_self,aBin,reduceIte,Nat.lt_irrefl,e])
 have hk:=key 0 () (by omega) trivial
 simp only[nat0,List.drop_zero] at hk;simp only[Kir32,qa,qb,eq_self,qu,hk]
theorem qplb (l:List Int) (S:Int) (hl:l.length<9223372036854775808):run Ktb 31 [numsD l,.int .i64 S]=some [.bool (l.any (badS S)),.int .i64 S]:=by
 refine qc (x:=Kir31) rfl ?_;have h1:=qalb l S hl;have h2:=qal (badS S) l 0;simp only[Kir31,qa,qb,eq_self,aBin,reduceIte,h1];rw[← h2]
theorem qwrb (l:List Int) (S:Int) (hl:l.length<9223372036854775808):run Ktb 30 [numsD l,.int .i64 S]=some [.bool (badR S l),.int .i64 S]:=by
 refine qc (x:=Kir30) rfl ?_;have h1:=qplb l S hl;unfold badR
 by_cases h:(l.length:Int)=S
 · simp only[Kir30,qa,qb,eq_self,aBin,reduceIte,qu,ibne,h,h1,ne_eq,not_true_eq_false]
 · simp only[Kir30,qa,qb,eq_self,aBin,reduceIte,qu,ibne,h,ne_eq,not_false_eq_true]
theorem qolb (rows:List (List Int)) (S:Int) (hl:rows.length<9223372036854775808) (hr:∀ r∈rows,r.length<9223372036854775808):run Ktb 29 [tabD rows,.int .i64 S]=some [.int .i64 (idxP (badR S) 0 rows),.int .i64 S]:=by
 refine qc (x:=Kir29) rfl ?_
 have key:=qk (run:=run Ktb) (body:=Kir29p0) (e:=[tabD rows,.int .i64 S,.int .i64 rows.length]) (J:=[]) (σ:=Unit) rows.length
  (fun _ _=>True) (fun i _=>[.int .i64 i,.int .i64 S]) (fun i _=>[.int .i64 (idxP (badR S) i (rows.drop i)),.int .i64 S])
  (by
   rintro i _ L hi _ hL;have hnext:=hL () trivial;have hf:=qwrb rows[i] S (hr _ (List.getElem_mem hi));rw[qnh _ hi];cases hb:badR S rows[i] with
   | true=>
    rw[hb] at hf;simp (disch:=omega) only[Kir29p0,qa,qb,eq_self,aBin,hi,qgl,hf,if_true]
   | false=>
    rw[hb] at hf;simp only[Bool.false_eq_true,if_false];simp (disch:=omega) only[Kir29p0,qa,qb,eq_self,aBin,reduceIte,hi,qgl,hf,wr,natS,hnext])
  (by
   rintro _ L _;have e:idxP (badR S) rows.length (rows.drop rows.length) = -1:=by rw[List.drop_length];rfl
   simp (disch:=omega) only[Kir29p0,qa,qb,eq_self,aBin,reduceIte,Nat.lt_irrefl,e])
 have hk:=key 0 () (by omega) trivial
 simp only[nat0,List.drop_zero] at hk;simp only[Kir29,qa,qb,eq_self,qbe,hk]
theorem qvlb (rows:List (List Int)) (S:Int) (hl:rows.length<9223372036854775808) (hr:∀ r∈rows,r.length<9223372036854775808):run Ktb 27 [tabD rows,.int .i64 S]=some [.bool (rows.any (badR S)),.int .i64 S]:=by
 refine qc (x:=Kir27) rfl ?_;have h1:=qolb rows S hl hr;have h2:=qal (badR S) rows 0;simp only[Kir27,qa,qb,eq_self,aBin,reduceIte,h1];rw[← h2]
theorem qds (a:Int) (t:D) (ha:a=1∨a=2):run Ktb 26 [.int .i64 a,t]=some [.int .i64 (if a=1 then 2 else 4)]:=by
 refine qc (x:=Kir26) rfl ?_;rcases ha with rfl|rfl
 · rfl
 · rfl
theorem qho (a:Int) (rows:List (List Int)) (hl:rows.length<9223372036854775808) (hr:∀ r∈rows,r.length<9223372036854775808):run Ktb 20 [.int .i64 a,tabD rows]=some [.int .i64 (if vldB a rows=true then 0 else 1)]:=by
 refine qc (x:=Kir20) rfl ?_
 by_cases ha:a=1∨a=2
 · have h1:=qds a (tabD rows) ha;have h2:=qvlb rows (szT a:Int) hl hr;rw[qtt ha];have h4:∀ b:Bool,(if (!b)=true then (0:Int) else 1)=if b=true then 1 else 0:=by decide
   rw[h4];have e1:IntKind.i64.wrap (1*2^min (Int.toNat 2) IntKind.i64.bits)=4:=by decide
   have e2:IntKind.i64.wrap (1*2^min (Int.toNat 4) IntKind.i64.bits)=16:=by decide
   have s1:(szT 1:Int)=4:=rfl;have s2:(szT 2:Int)=16:=rfl;have i1:(if (1:Int)=1 then (2:Int) else 4)=2:=rfl
   have i2:(if (2:Int)=1 then (2:Int) else 4)=4:=rfl
   have n1:¬ (2:Int)=1:=by decide
   have n2:¬ (1:Int)=2:=by decide
   rcases ha with rfl|rfl
   · rw[s1] at h2 ⊢;rw[i1] at h1
     by_cases hlen:(rows.length:Int)=4
     · cases hany : rows.any (badR 4) <;> rw [hany] at h2 <;>
        simp only[Kir20,Kir20p0,Kir20p1,qa,qb,eq_self,aBin,Int.reduceLE,ibne,h1,h2,e1,qbe,hlen,ne_eq,not_true_eq_false,if_true,if_false]
     · simp only[Kir20,Kir20p0,Kir20p1,qa,qb,eq_self,aBin,Int.reduceLE,ibne,h1,e1,qbe,hlen,ne_eq,not_false_eq_true,if_true]
   · rw[s2] at h2 ⊢;rw[i2] at h1
     by_cases hlen:(rows.length:Int)=16
     · cases hany : rows.any (badR 16) <;> rw [hany] at h2 <;>
        simp only[Kir20,Kir20p0,Kir20p1,qa,qb,eq_self,aBin,Int.reduceLE,ibne,h1,h2,e2,n1,qbe,hlen,ne_eq,not_true_eq_false,if_true,if_false]
     · simp only[Kir20,Kir20p0,Kir20p1,qa,qb,eq_self,aBin,Int.reduceLE,ibne,h1,e2,n1,qbe,hlen,ne_eq,not_false_eq_true,if_true]
 · have hv : vldB a rows = false := by
    rw[Bool.eq_false_iff];intro h;exact ha (qid.1 h).at_
   rw[hv];have h1:¬ a=1:=fun h=>ha (.inl h)
   have h2:¬ a=2:=fun h=>ha (.inr h)
   simp only[Kir20,Kir20p1,qa,qb,eq_self,aBin,reduceIte,ibne,h1,h2,if_false]
end Go.Proofs.YtnfecjmddbehiaaGreat
