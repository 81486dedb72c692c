/- What functions of the program compute: lemmas. -/
import Derived.Test.YtnfecjmddbehiaaGreatAm7
import Derived.Test.YtnfecjmddbehiaaGreatMk3
import Derived.Test.YtnfecjmddbehiaaGreatLk
import Derived.Test.YtnfecjmddbehiaaGreatAm8
import Derived.Test.YtnfecjmddbehiaaGreatPo
set_option linter.unusedSimpArgs false
set_option linter.unusedVariables false
set_option linter.unusedSectionVars false
namespace Go.Proofs.YtnfecjmddbehiaaGreat
open Go Am
set_option maxRecDepth 100000
theorem qq (x y:BitVec 64) (h:Sml x):run tb 73 [ivD x,ivD y]=some [.bool (subB x y)]:=by
 refine qc (x:=ir73) rfl ?_;simp only[ir73,qa,qb,qwg false h,qkb];rfl
theorem qpw {c:Nat} (hc:c<18446744073709551616) (x:BitVec 64):PO.eval (.bin .eql false) [ivD x,.int .i64 (c:Int)]=some [.bool (decide (x=BitVec.ofNat 64 c))]:=by
 rw[qpf hc];exact qab false _ _
theorem qav (k:BitVec 64):run tb 74 [ivD k]=some [.bool (oneW k)]:=by
 refine qc (x:=ir74) rfl ?_;have e1:PO.eval (.bin .eql false) [ivD k,.int .i64 1]=some [.bool (decide (k=1#64))]:=qpw (c:=1) (by decide) k
 have e2:PO.eval (.bin .eql false) [ivD k,.int .i64 2]=some [.bool (decide (k=2#64))]:=qpw (c:=2) (by decide) k
 have e4:PO.eval (.bin .eql false) [ivD k,.int .i64 4]=some [.bool (decide (k=4#64))]:=qpw (c:=4) (by decide) k
 have e8:PO.eval (.bin .eql false) [ivD k,.int .i64 8]=some [.bool (decide (k=8#64))]:=qpw (c:=8) (by decide) k
 unfold oneW;generalize decide (k=1#64)=b1 at *;generalize decide (k=2#64)=b2 at *;generalize decide (k=4#64)=b4 at *;generalize decide (k=8#64)=b8 at *;cases b1<;>cases b2<;>cases b4<;>simp only[ir74,qa,qb,eq_self,e1,e2,e4,e8]
theorem qtbb (a:Int):(BitVec.ofNat 64 (szT a-1)).toNat=szT a-1:=by
 have:=qg a;rw[BitVec.toNat_ofNat];omega
section
variable {a:Int} {rows:List (List Int)} (hv:Vld a rows) {k f g:BitVec 64} (hk:k.toNat<szT a) (hf:f.toNat<szT a) (hg:g.toNat<szT a)
include hv hk hf hg
theorem qza:run tb 59 [tabD rows,.int .i64 1,ivD k,ivD f,ivD g]=some [.bool (revT (tOf rows) 1 k f g)]:=by
 refine qc (x:=ir59) rfl ?_;have x0:=tr hv hk;have x1:=tc hv hk hf;have x2:=qkb;have x3:=qac;have x4:=qab;have x5:=qq (tOf rows k f) f (sm (qg a) (t_lt hv hk hf));have er:=qmnb (tOf rows) k f g;simp only[ir59,qa,qb,eq_self,aBin,reduceIte,x0,x1,x5];rw[er]
 try rfl
theorem qqeb:run tb 59 [tabD rows,.int .i64 2,ivD k,ivD f,ivD g]=some [.bool (revT (tOf rows) 2 k f g)]:=by
 refine qc (x:=ir59) rfl ?_;have x0:=tr hv hk;have x1:=tc hv hk hf;have x2:=qkb;have x3:=qac;have x4:=qab;have x5:=qgb false (y:=f) (sm (qg a) hk);have er:=qoob (tOf rows) k f g;generalize hs0:decide (k&&&f=0#64)=b0 at *;cases b0<;>(simp only[ir59,qa,qb,eq_self,aBin,reduceIte,Int.reduceEq,x0,x1,x2,x4,x5,hs0];rw[er];try rfl)
theorem qdib:run tb 59 [tabD rows,.int .i64 3,ivD k,ivD f,ivD g]=some [.bool (revT (tOf rows) 3 k f g)]:=by
 refine qc (x:=ir59) rfl ?_;have x0:=tr hv hk;have x1:=tc hv hk hf;have x2:=qkb;have x3:=qac;have x4:=qab;have er:=qvpb (tOf rows) k f g;generalize hs0:decide (f=0#64)=b0 at *;cases b0<;>(simp only[ir59,qa,qb,eq_self,aBin,reduceIte,Int.reduceEq,x0,x1,x2,x3,hs0];rw[er];try rfl)
theorem qoib:run tb 59 [tabD rows,.int .i64 4,ivD k,ivD f,ivD g]=some [.bool (revT (tOf rows) 4 k f g)]:=by
 refine qc (x:=ir59) rfl ?_;have x0:=tr hv hk;have x1:=tc hv hk hf;have x2:=qkb;have x3:=qac;have x4:=qab;have x5:=qgb false (y:=g) (sm (qg a) (t_lt hv hk hf));have x6:=qgb false (y:=g) (sm (qg a) hf);have x7:=tc hv hk (qbb (y:=g) hf);have x8:=qq (tOf rows k f&&&g) (tOf rows k (f&&&g)) (sm (qg a) (qbb (t_lt hv hk hf)));have er:=qfob (tOf rows) k f g;simp only[ir59,qa,qb,eq_self,aBin,reduceIte,Int.reduceEq,x0,x1,x5,x6,x7,x8];rw[er]
 try rfl
theorem qugb:run tb 59 [tabD rows,.int .i64 5,ivD k,ivD f,ivD g]=some [.bool (revT (tOf rows) 5 k f g)]:=by
 refine qc (x:=ir59) rfl ?_;have x0:=tr hv hk;have x1:=tc hv hk hf;have x2:=qkb;have x3:=qac;have x4:=qab;have x5:=qgb false (y:=g) (sm (qg a) (t_lt hv hk hf));have x6:=qgb false (y:=g) (sm (qg a) hf);have x7:=tc hv hk (qbb (y:=g) hf);have x8:=qq (tOf rows k (f&&&g)) (tOf rows k f&&&g) (sm (qg a) (t_lt hv hk (qbb hf)));have er:=qpnb (tOf rows) k f g;generalize hs0:decide (tOf rows k f&&&g=0#64)=b0 at *;cases b0<;>(simp only[ir59,qa,qb,eq_self,aBin,reduceIte,Int.reduceEq,x0,x1,x2,x5,x6,x7,x8,hs0];rw[er];try rfl)
theorem qtcb:run tb 60 [tabD rows,.int .i64 1,ivD k,ivD f,ivD g]=some [.bool (conT (BitVec.ofNat 64 (szT a-1)) (tOf rows) 1 k f g)]:=by
 refine qc (x:=ir60) rfl ?_;have x0:=tr hv hk;have x1:=tc hv hk hf;have x2:=qkb;have x3:=qac;have x4:=qab;have x5:=qq k (tOf rows k f) (sm (qg a) hk);have er:=qgob (tOf rows) (BitVec.ofNat 64 (szT a-1)) k f g;simp only[ir60,qa,qb,eq_self,aBin,reduceIte,x0,x1,x5];rw[er]
 try rfl
theorem qqcb:run tb 60 [tabD rows,.int .i64 2,ivD k,ivD f,ivD g]=some [.bool (conT (BitVec.ofNat 64 (szT a-1)) (tOf rows) 2 k f g)]:=by
 refine qc (x:=ir60) rfl ?_;have x0:=tr hv hk;have x1:=tc hv hk hf;have x2:=qkb;have x3:=qac;have x4:=qab;have x5:=qq k f (sm (qg a) hk);have er:=qwpb (tOf rows) (BitVec.ofNat 64 (szT a-1)) k f g;generalize hs0:subB k f=b0 at *;cases b0<;>(simp only[ir60,qa,qb,eq_self,aBin,reduceIte,Int.reduceEq,x0,x1,x4,x5];rw[er];try rfl)
omit hk hf hg in
theorem qslb:PO.eval (.bin .sub false) [.int .i64 (rows.length:Int),.int .i64 1]=some [ivD (BitVec.ofNat 64 (szT a-1))]:=by
 have h:(BitVec.ofNat 64 (szT a-1)).toNat=szT a-1:=qtbb a;have hp:0<szT a:=by rcases hv.at_ with rfl|rfl<;>decide
 have h16:=qg a;unfold ivD;rw[h,hv.len]
 show some [D.int .i64 (IntKind.i64.wrap ((szT a:Int)-1))]=_
 rw[wr (by omega) (by omega)]
 congr 3
 omega
omit hk hf hg in
theorem qswb (f:BitVec 64):PO.eval (.bin .eql false) [ivD f,ivD (BitVec.ofNat 64 (szT a-1))]=some [.bool (decide (f=BitVec.ofNat 64 (szT a-1)))]:=qab false _ _
theorem qjcb:run tb 60 [tabD rows,.int .i64 3,ivD k,ivD f,ivD g]=some [.bool (conT (BitVec.ofNat 64 (szT a-1)) (tOf rows) 3 k f g)]:=by
 refine qc (x:=ir60) rfl ?_;have x0:=tr hv hk;have x1:=tc hv hk hf;have x2:=qkb;have x3:=qac;have x4:=qab;have x5:=qbe rows;have x6:=qslb hv;have x7:=qswb hv f;have x8:=qq (tOf rows k f) f (sm (qg a) (t_lt hv hk hf));have er:=qzpb (tOf rows) (BitVec.ofNat 64 (szT a-1)) k f g;generalize hs0:decide (f=BitVec.ofNat 64 (szT a-1))=b0 at *;generalize hs1:subB (tOf rows k f) f=b1 at *;cases b0<;>cases b1<;>(simp only[ir60,qa,qb,eq_self,aBin,reduceIte,Int.reduceEq,x0,x1,x4,x5,x6,x8,hs0];rw[er];try rfl)
theorem qifb:run tb 60 [tabD rows,.int .i64 4,ivD k,ivD f,ivD g]=some [.bool (conT (BitVec.ofNat 64 (szT a-1)) (tOf rows) 4 k f g)]:=by
 refine qc (x:=ir60) rfl ?_;have x0:=tr hv hk;have x1:=tc hv hk hf;have x2:=qkb;have x3:=qac;have x4:=qab;have x5:=qgb false (y:=f) (sm (qg a) (t_lt hv hk hf));have x6:=qq (tOf rows k f&&&f) k (sm (qg a) (qbb (t_lt hv hk hf)));have er:=qhpb (tOf rows) (BitVec.ofNat 64 (szT a-1)) k f g;simp only[ir60,qa,qb,eq_self,aBin,reduceIte,Int.reduceEq,x0,x1,x5,x6];rw[er]
 try rfl
theorem qheb:run tb 60 [tabD rows,.int .i64 5,ivD k,ivD f,ivD g]=some [.bool (conT (BitVec.ofNat 64 (szT a-1)) (tOf rows) 5 k f g)]:=by
 refine qc (x:=ir60) rfl ?_;have x0:=tr hv hk;have x1:=tc hv hk hf;have x2:=qkb;have x3:=qac;have x4:=qab;have x5:=qgb false (y:=g) (sm (qg a) hf);have x6:=tc hv hk (qbb (y:=g) hf);have x7:=tc hv hk hg;have x8:=qwh false (sm (qg a) (t_lt hv hk hf)) (sm (qg a) (t_lt hv hk hg));have x9:=qq (tOf rows k (f&&&g)) (tOf rows k f|||tOf rows k g) (sm (qg a) (t_lt hv hk (qbb hf)))
 have er:=qrnb (tOf rows) (BitVec.ofNat 64 (szT a-1)) k f g;simp only[ir60,qa,qb,eq_self,aBin,reduceIte,Int.reduceEq,x0,x1,x5,x6,x7,x8,x9];rw[er]
 try rfl
theorem qmeb:run tb 60 [tabD rows,.int .i64 6,ivD k,ivD f,ivD g]=some [.bool (conT (BitVec.ofNat 64 (szT a-1)) (tOf rows) 6 k f g)]:=by
 refine qc (x:=ir60) rfl ?_;have x0:=tr hv hk;have x1:=tc hv hk hf;have x2:=qkb;have x3:=qac;have x4:=qab;have x5:=qgb false (y:=g) (sm (qg a) hf);have x6:=tc hv hk (qbb (y:=g) hf);have x7:=qq (tOf rows k (f&&&g)) f (sm (qg a) (t_lt hv hk (qbb hf)));have x8:=qq (tOf rows k f) (tOf rows k (f&&&g)) (sm (qg a) (t_lt hv hk hf));have er:=qbqb (tOf rows) (BitVec.ofNat 64 (szT a-1)) k f g;generalize hs0:subB (tOf rows k (f&&&g)) f=b0 at *;cases b0<;>(simp only[ir60,qa,qb,eq_self,aBin,reduceIte,Int.reduceEq,x0,x1,x5,x6,x7,x8];rw[er];try rfl)
theorem qbeb:run tb 61 [tabD rows,.int .i64 1,ivD k,ivD f,ivD g]=some [.bool (updT (tOf rows) 1 k f g)]:=by
 refine qc (x:=ir61) rfl ?_;have x0:=tr hv hk;have x1:=tc hv hk hf;have x2:=qkb;have x3:=qac;have x4:=qab;have x5:=qq (tOf rows k f) f (sm (qg a) (t_lt hv hk hf));have er:=qsob (tOf rows) k f g;simp only[ir61,qa,qb,eq_self,aBin,reduceIte,x0,x1,x5];rw[er]
 try rfl
theorem qahb:run tb 61 [tabD rows,.int .i64 2,ivD k,ivD f,ivD g]=some [.bool (updT (tOf rows) 2 k f g)]:=by
 refine qc (x:=ir61) rfl ?_;have x0:=tr hv hk;have x1:=tc hv hk hf;have x2:=qkb;have x3:=qac;have x4:=qab;have x5:=qq k f (sm (qg a) hk);have er:=qunb (tOf rows) k f g;generalize hs0:subB k f=b0 at *;cases b0<;>(simp only[ir61,qa,qb,eq_self,aBin,reduceIte,Int.reduceEq,x0,x1,x4,x5];rw[er];try rfl)
theorem qffb:run tb 61 [tabD rows,.int .i64 3,ivD k,ivD f,ivD g]=some [.bool (updT (tOf rows) 3 k f g)]:=by
 refine qc (x:=ir61) rfl ?_;have x0:=tr hv hk;have x1:=tc hv hk hf;have x2:=qkb;have x3:=qac;have x4:=qab;have er:=qopb (tOf rows) k f g;generalize hs0:decide (k=0#64)=b0 at *;generalize hs1:decide (f=0#64)=b1 at *;cases b0<;>cases b1<;>(simp only[ir61,qa,qb,eq_self,aBin,reduceIte,Int.reduceEq,x0,x1,x2,x3,hs0,hs1];rw[er];try rfl)
theorem qpdb:run tb 61 [tabD rows,.int .i64 4,ivD k,ivD f,ivD g]=some [.bool (updT (tOf rows) 4 k f g)]:=by
 refine qc (x:=ir61) rfl ?_;have x0:=tr hv hk;have x1:=tc hv hk hf;have x2:=qkb;have x3:=qac;have x4:=qab;have x5:=qgb false (y:=g) (sm (qg a) (t_lt hv hk hf));have x6:=qgb false (y:=g) (sm (qg a) hf);have x7:=tc hv hk (qbb (y:=g) hf);have x8:=qq (tOf rows k f&&&g) (tOf rows k (f&&&g)) (sm (qg a) (qbb (t_lt hv hk hf)));have er:=qjpb (tOf rows) k f g;simp only[ir61,qa,qb,eq_self,aBin,reduceIte,Int.reduceEq,x0,x1,x5,x6,x7,x8];rw[er]
 try rfl
theorem qxa:run tb 61 [tabD rows,.int .i64 5,ivD k,ivD f,ivD g]=some [.bool (updT (tOf rows) 5 k f g)]:=by
 refine qc (x:=ir61) rfl ?_;have x0:=tr hv hk;have x1:=tc hv hk hf;have x2:=qkb;have x3:=qac;have x4:=qab;have x5:=qq (tOf rows k f) g (sm (qg a) (t_lt hv hk hf));have x6:=tc hv hk hg;have x7:=qq (tOf rows k g) f (sm (qg a) (t_lt hv hk hg));have er:=qbob (tOf rows) k f g;generalize hs0:subB (tOf rows k f) g=b0 at *;generalize hs1:subB (tOf rows k g) f=b1 at *;cases b0<;>cases b1<;>(simp only[ir61,qa,qb,eq_self,aBin,reduceIte,Int.reduceEq,x0,x1,x4,x5,x6,x7];rw[er];try rfl)
theorem qzeb:run tb 61 [tabD rows,.int .i64 6,ivD k,ivD f,ivD g]=some [.bool (updT (tOf rows) 6 k f g)]:=by
 refine qc (x:=ir61) rfl ?_;have x0:=tr hv hk;have x1:=tc hv hk hf;have x2:=qkb;have x3:=qac;have x4:=qab;have x5:=qav k;have x6:=tc hv hk hg;have x7:=qgb false (y:=tOf rows k g) (sm (qg a) (t_lt hv hk hf));have x8:=qwh false (sm (qg a) hf) (sm (qg a) hg);have x9:=tc hv hk (qxt hf hg);have x10:=qq (tOf rows k f&&&tOf rows k g) (tOf rows k (f|||g)) (sm (qg a) (qbb (t_lt hv hk hf)))
 have er:=qapb (tOf rows) k f g;generalize hs0:oneW k=b0 at *;cases b0<;>(simp only[ir61,qa,qb,eq_self,aBin,reduceIte,Int.reduceEq,x0,x1,x5,x6,x7,x8,x9,x10];rw[er];try rfl)
theorem qjbb:run tb 61 [tabD rows,.int .i64 7,ivD k,ivD f,ivD g]=some [.bool (updT (tOf rows) 7 k f g)]:=by
 refine qc (x:=ir61) rfl ?_;have x0:=tr hv hk;have x1:=tc hv hk hf;have x2:=qkb;have x3:=qac;have x4:=qab;have x5:=qwh false (sm (qg a) hk) (sm (qg a) hg);have x6:=tr hv (qxt hk hg);have x7:=tc hv (qxt hk hg) hf;have x8:=tr hv hg;have x9:=tc hv hg hf;have x10:=qwh false (sm (qg a) (t_lt hv hk hf)) (sm (qg a) (t_lt hv hg hf));have er:=qyob (tOf rows) k f g;simp only[ir61,qa,qb,eq_self,aBin,reduceIte,Int.reduceEq,x0,x1,x4,x5,x6,x7,x8,x9,x10];rw[er]
 try rfl
end
theorem qkz {a:Int} {rows:List (List Int)} (hv:Vld a rows) {kind:Int} (hkd:kind=1∨kind=2∨kind=3) {p k f g:Nat} (hp:1≤p∧p≤(postN kind).1) (hk:k<szT a) (hf:f<szT a) (hg:g<szT a) :
 run tb 46 [.int .i64 a,tabD rows,.int .i64 kind,.int .i64 (p:Int),.int .i64 (k:Int),.int .i64 (f:Int),.int .i64 (g:Int)]=some [.bool (hB kind a rows p k f g)]:=by
 have h16:=qg a;have tn:∀ {x:Nat},x<szT a→(BitVec.ofNat 64 x).toNat<szT a:=fun {x} h=>by rw[BitVec.toNat_ofNat];omega
 refine qc (x:=ir46) rfl ?_;rw[qpf (show k<18446744073709551616 by omega),qpf (show f<18446744073709551616 by omega),qpf (show g<18446744073709551616 by omega)]
 unfold hB holdsB;rcases hkd with rfl|rfl|rfl
 · have hp5:p≤5:=hp.2;rw[if_pos rfl]
   have h:run tb 59 [tabD rows,.int .i64 (p:Int),ivD (BitVec.ofNat 64 k),ivD (BitVec.ofNat 64 f),ivD (BitVec.ofNat 64 g)]=some [.bool (revT (tOf rows) p (BitVec.ofNat 64 k) (BitVec.ofNat 64 f) (BitVec.ofNat 64 g))]:=by
    rcases (by omega:p=1∨p=2∨p=3∨p=4∨p=5) with rfl|rfl|rfl|rfl|rfl
    · exact qza hv (tn hk) (tn hf) (tn hg)
    · exact qqeb hv (tn hk) (tn hf) (tn hg)
    · exact qdib hv (tn hk) (tn hf) (tn hg)
    · exact qoib hv (tn hk) (tn hf) (tn hg)
    · exact qugb hv (tn hk) (tn hf) (tn hg)
   simp only[ir46,qa,qb,eq_self,aBin,reduceIte,h]
 · have hp5:p≤6:=hp.2;rw[if_neg (by decide),if_pos rfl]
   have h:run tb 60 [tabD rows,.int .i64 (p:Int),ivD (BitVec.ofNat 64 k),ivD (BitVec.ofNat 64 f),ivD (BitVec.ofNat 64 g)]=some [.bool (conT (BitVec.ofNat 64 (szT a-1)) (tOf rows) p (BitVec.ofNat 64 k) (BitVec.ofNat 64 f) (BitVec.ofNat 64 g))]:=by
    rcases (by omega:p=1∨p=2∨p=3∨p=4∨p=5∨p=6) with rfl|rfl|rfl|rfl|rfl|rfl
    · exact qtcb hv (tn hk) (tn hf) (tn hg)
    · exact qqcb hv (tn hk) (tn hf) (tn hg)
    · exact qjcb hv (tn hk) (tn hf) (tn hg)
    · exact qifb hv (tn hk) (tn hf) (tn hg)
    · exact qheb hv (tn hk) (tn hf) (tn hg)
    · exact qmeb hv (tn hk) (tn hf) (tn hg)
   simp only[ir46,qa,qb,eq_self,aBin,reduceIte,Int.reduceEq,h]
 · have hp5:p≤7:=hp.2;rw[if_neg (by decide),if_neg (by decide)]
   have h:run tb 61 [tabD rows,.int .i64 (p:Int),ivD (BitVec.ofNat 64 k),ivD (BitVec.ofNat 64 f),ivD (BitVec.ofNat 64 g)]=some [.bool (updT (tOf rows) p (BitVec.ofNat 64 k) (BitVec.ofNat 64 f) (BitVec.ofNat 64 g))]:=by
    rcases (by omega:p=1∨p=2∨p=3∨p=4∨p=5∨p=6∨p=7) with rfl|rfl|rfl|rfl|rfl|rfl|rfl
    · exact qbeb hv (tn hk) (tn hf) (tn hg)
    · exact qahb hv (tn hk) (tn hf) (tn hg)
    · exact qffb hv (tn hk) (tn hf) (tn hg)
    · exact qpdb hv (tn hk) (tn hf) (tn hg)
    · exact qxa hv (tn hk) (tn hf) (tn hg)
    · exact qzeb hv (tn hk) (tn hf) (tn hg)
    · exact qjbb hv (tn hk) (tn hf) (tn hg)
   simp only[ir46,qa,qb,eq_self,aBin,reduceIte,Int.reduceEq,h]
end Go.Proofs.YtnfecjmddbehiaaGreat

namespace Go.Proofs.YtnfecjmddbehiaaGreat
open Go Am
set_option maxRecDepth 100000
theorem qef (a:Int) (rows:List (List Int)) (hl:rows.length<9223372036854775808) (hr:∀ r∈rows,r.length<9223372036854775808):run tb 18 [.int .i64 a,tabD rows]=some [.int .i64 (if vldB a rows=true then 0 else 1)]:=by
 refine qc (x:=ir18) rfl ?_;have hsz:=qdl a (tabD rows);have hlT:=qbe rows
 by_cases ha:a=1∨a=2
 · have hS:0<szT a∧szT a≤16:=by rcases ha with rfl|rfl<;>decide
   rw[qtt ha];obtain ⟨S,hSS⟩:∃ S,S=szT a:=⟨_,rfl⟩;rw[← hSS] at hsz hS ⊢;have hS0:((S:Int) == 0)=false:=by simp;omega
   by_cases hlen:(rows.length:Int)=(S:Int)
   · have hlen':rows.length=S:=by omega
     have e:(if (!(decide ((rows.length:Int)≠(S:Int)) || rows.any (badR (S:Int))))=true then (0:Int) else 1)=if (rows.drop 0).any (badR (S:Int))=true then 1 else 0:=by
      rw[decide_eq_false (fun h=>h hlen),Bool.false_or,List.drop_zero]
      cases rows.any (badR (S:Int))<;>rfl
     rw[e];have hne:((rows.length:Int) != (S:Int))=false:=by simp[hlen]
     simp (disch:=omega) only[ir18,ir18p3,qa,qb,eq_self,aBin,reduceIte,hsz,hS0,hlT,hne];refine qk (σ:=Unit) S (fun _ _=>True) (fun k _=>[.int .i64 k]) (fun k _=>[.int .i64 (if (rows.drop k).any (badR (S:Int))=true then 1 else 0)]) ?_ ?_ 0 () (Nat.zero_le _) trivial
     · rintro k _ L hk _ hL;have hnext:=hL () trivial;have hk1:k<rows.length:=by omega
       have hk':(k:Int)<(S:Int):=by omega
       have hrow:=qgl hk1;have hlr:=qu rows[k];have hdr:(rows.drop k).any (badR (S:Int))=(badR (S:Int) rows[k] || (rows.drop (k+1)).any (badR (S:Int))):=by rw[List.drop_eq_getElem_cons hk1,List.any_cons]
       rw[hdr]
       by_cases hrl:(rows[k].length:Int)=(S:Int)
       · have hb : badR (S : Int) rows[k] = (rows[k].drop 0).any (badS (S : Int)) := by
          unfold badR;rw[decide_eq_false (fun h=>h hrl),Bool.false_or,List.drop_zero]
         rw[hb];have hne2:((rows[k].length:Int) != (S:Int))=false:=by simp[hrl]
         simp (disch:=omega) only[ir18p2,qa,qb,eq_self,aBin,reduceIte,hk',hrow,hlr,hne2];refine qk (σ:=Unit) S (fun _ _=>True) (fun f _=>[.int .i64 f]) (fun f _=>[.int .i64 (if ((rows[k].drop f).any (badS (S:Int)) || (rows.drop (k+1)).any (badR (S:Int)))=true then 1 else 0)]) ?_ ?_ 0 () (Nat.zero_le _) trivial
         · rintro f _ M hf _ hM;have hnx:=hM () trivial;have hf1:f<rows[k].length:=by omega
           have hf':(f:Int)<(S:Int):=by omega
           have hcell:=qtb hf1;have hd2:(rows[k].drop f).any (badS (S:Int))=(badS (S:Int) rows[k][f] || (rows[k].drop (f+1)).any (badS (S:Int))):=by rw[List.drop_eq_getElem_cons hf1,List.any_cons]
           rw[hd2];generalize rows[k][f]=x at *
           by_cases c1:x<0
           · have hb2:badS (S:Int) x=true:=by unfold badS;rw[decide_eq_true c1];rfl
             rw[hb2,Bool.true_or,Bool.true_or,if_pos rfl];simp (disch:=omega) only[ir18p1,ir18p0,qa,qb,eq_self,aBin,reduceIte,hf',hrow,hcell,c1]
           · by_cases c2:x≥(S:Int)
             · have hb2:badS (S:Int) x=true:=by unfold badS;rw[decide_eq_true c2,Bool.or_true]
               rw[hb2,Bool.true_or,Bool.true_or,if_pos rfl];simp (disch:=omega) only[ir18p1,ir18p0,qa,qb,eq_self,aBin,reduceIte,hf',hrow,hcell,c1,c2]
             · have hb2:badS (S:Int) x=false:=by unfold badS;rw[decide_eq_false c1,decide_eq_false c2];rfl
               rw[hb2,Bool.false_or];simp (disch:=omega) only[ir18p1,ir18p0,qa,qb,eq_self,aBin,reduceIte,hf',hrow,hcell,c1,c2,wr,natS,hnx]
         · rintro _ M _;have:rows[k].drop S=[]:=List.drop_eq_nil_of_le (by omega)
           rw[this,List.any_nil,Bool.false_or];simp (disch:=omega) only[ir18p1,qa,qb,eq_self,aBin,reduceIte,Int.lt_irrefl,wr,natS,hnext]
       · have hb:badR (S:Int) rows[k]=true:=by unfold badR;rw[decide_eq_true hrl];rfl
         rw[hb,Bool.true_or,if_pos rfl];have hne2:((rows[k].length:Int) != (S:Int))=true:=by simp[hrl]
         simp (disch:=omega) only[ir18p2,qa,qb,eq_self,aBin,reduceIte,hk',hrow,hlr,hne2]
     · rintro _ L _;have:rows.drop S=[]:=List.drop_eq_nil_of_le (by omega)
       rw[this,List.any_nil,show (if (false:Bool)=true then (1:Int) else 0)=0 from rfl]
       simp (disch:=omega) only[ir18p2,qa,qb,eq_self,aBin,reduceIte,Int.lt_irrefl]
   · rw[decide_eq_true hlen,Bool.true_or,if_neg (by decide)]
     have hne:((rows.length:Int) != (S:Int))=true:=by simp[hlen]
     simp (disch:=omega) only[ir18,ir18p3,qa,qb,eq_self,aBin,reduceIte,hsz,hS0,hlT,hne]
 · have e:vldB a rows=false:=Bool.eq_false_iff.2 fun h=>ha (qid.1 h).at_
   have hS:szT a=0:=by unfold szT;rw[if_neg (fun h=>ha (.inl h)),if_neg (fun h=>ha (.inr h))]
   rw[e,show (if (false:Bool)=true then (0:Int) else 1)=1 from rfl]
   rw[hS] at hsz;have hsz:run tb 22 [.int .i64 a,tabD rows]=some [.int .i64 (if a=1 then 2 else if a=2 then 4 else 0),.int .i64 0]:=hsz
   simp (disch:=omega) only[ir18,ir18p3,qa,qb,eq_self,aBin,reduceIte,hsz]
theorem qqq (kind a:Int) (rows:List (List Int)) (hl:rows.length<9223372036854775808) (hr:∀ r∈rows,r.length<9223372036854775808):run tb 27 [.int .i64 a,tabD rows,.int .i64 kind]=some [.int .i64 (chkE a rows kind)]:=by
 refine qc (x:=ir27) rfl ?_;have h1:=qef a rows hl hr;have h2:=qxj kind;unfold chkE
 by_cases hv:vldB a rows=true
 · rw[if_pos hv] at h1 ⊢
   by_cases hk:(postN kind).1=0
   · rw[if_pos hk];have hk':(((postN kind).1:Nat):Int)=0:=by omega
     rw[hk'] at h2;simp (disch:=omega) only[ir27,qa,qb,eq_self,aBin,reduceIte,h1,h2,Int.reduceBNe]
   · rw[if_neg hk];have hk':((((postN kind).1:Nat):Int) == 0)=false:=by simp;omega
     simp (disch:=omega) only[ir27,qa,qb,eq_self,aBin,reduceIte,h1,h2,Int.reduceBNe,hk']
 · rw[if_neg hv] at h1 ⊢;simp (disch:=omega) only[ir27,qa,qb,eq_self,aBin,reduceIte,h1,Int.reduceBNe]
end Go.Proofs.YtnfecjmddbehiaaGreat

namespace Go.Proofs.YtnfecjmddbehiaaGreat
open Go Am
set_option maxRecDepth 100000
def stA (m:Nat) (A:List Brc):List D:=[.int .i64 ((lst4 A).1:Int),.int .i64 ((lst4 A).2.1:Int),.int .i64 ((lst4 A).2.2.1:Int),.int .i64 ((lst4 A).2.2.2:Int),numsD (cntV m A)]
theorem qrk {a:Int} {rows:List (List Int)} (hv:Vld a rows) {kind:Int} (hk:kind=1∨kind=2∨kind=3):run tb 28 [.int .i64 a,tabD rows,.int .i64 kind]=some (stA (postN kind).1 (bQ kind a rows)):=by
 refine qc (x:=ir28) rfl ?_;have hpo:=qxj kind;have hlT:=qbe rows;rw[hv.len] at hlT;have h16:=qg a;have hpos:0<szT a:=by rcases hv.at_ with rfl|rfl<;>decide
 have hmk:=mkN (n:=(postN kind).1) (by rcases hk with rfl|rfl|rfl<;>decide)
 have hho:∀ i k f g:Nat,i<(postN kind).1→k<szT a→f<szT a→g<szT a→run tb 46 [.int .i64 a,tabD rows,.int .i64 kind,.int .i64 ((i+1:Nat):Int),.int .i64 (k:Int),.int .i64 (f:Int),.int .i64 (g:Int)]=some [.bool (hB kind a rows (i+1) k f g)]:=fun i k f g h1 h2 h3 h4=>qkz hv hk ⟨by omega,by omega⟩ h2 h3 h4
 rw[← quzb kind a rows hpos];have hall7:(postN kind).1≤7:=by rcases hk with rfl|rfl|rfl<;>decide
 obtain ⟨m,hm⟩:∃ m,m=(postN kind).1:=⟨_,rfl⟩;obtain ⟨fst,hfst⟩:∃ fst,fst=(postN kind).2:=⟨_,rfl⟩;obtain ⟨N,hN⟩:∃ N,N=szT a:=⟨_,rfl⟩;rw[← hm] at hmk hho hall7 hpo ⊢;rw[← hfst] at hpo ⊢;rw[← hN] at hlT h16 hho ⊢;have hmk:PO.eval (.mkL 8 [.int .i64 0]) [.int .i64 (m:Int)]=some [numsD (List.replicate m 0)]:=hmk;simp (disch:=omega) only[ir28,qa,qb,hpo,hmk];rw[← qjv];have hz:cntV m []=cntV m (pL kind a rows fst N 0):=rfl;refine qk (σ:=Unit) m (fun _ _=>True) (fun i _=>.int .i64 ((i+1:Nat):Int)::stA m (pL kind a rows fst N i)) (fun _ _=>stA m (pL kind a rows fst N m)) ?_ ?_ 0 () (Nat.zero_le _) trivial
 · rintro i _ L hi _ hL;have hnext:=hL () trivial;have hle:((i+1:Nat):Int)≤(m:Int):=by omega
   rw[← qkob,qixb] at hnext;rw[← qkob];simp only[stA] at hnext;simp (disch:=omega) only[ir28p6,stA,qa,qb,eq_self,aBin,reduceIte,hle];refine qk (σ:=Unit) N (fun _ _=>True) (fun k _=>.int .i64 (k:Int)::stA m (preL kind a rows fst N i k 0 0)) (fun _ _=>stA m (pL kind a rows fst N m)) ?_ ?_ 0 () (Nat.zero_le _) trivial
   · rintro k _ L2 hk1 _ hL2;have hnext2:=hL2 () trivial;have hk':(k:Int)<(N:Int):=by omega
     rw[qkxb] at hnext2;simp only[stA] at hnext2;simp (disch:=omega) only[ir28p5,stA,qa,qb,eq_self,aBin,reduceIte,hlT,hk'];refine qk (σ:=Unit) N (fun _ _=>True) (fun f _=>.int .i64 (f:Int)::stA m (preL kind a rows fst N i k f 0)) (fun _ _=>stA m (pL kind a rows fst N m)) ?_ ?_ 0 () (Nat.zero_le _) trivial
     · rintro f _ L3 hf1 _ hL3;have hnext3:=hL3 () trivial;have hf':(f:Int)<(N:Int):=by omega
       rw[qzvb] at hnext3;simp only[stA] at hnext3;simp (disch:=omega) only[ir28p4,stA,qa,qb,eq_self,aBin,reduceIte,hlT,hf'];refine qk (σ:=Unit) N (fun _ _=>True) (fun g _=>.int .i64 (g:Int)::stA m (preL kind a rows fst N i k f g)) (fun _ _=>stA m (pL kind a rows fst N m)) ?_ ?_ 0 () (Nat.zero_le _) trivial
       · rintro g _ L4 hg1 _ hL4;have hnext4:=hL4 () trivial;have hg':(g:Int)<(N:Int):=by omega
         rw[qmxb] at hnext4;have hh:=hho i k f g hi hk1 hf1 hg1;have hA:=fun b (h:b∈preL kind a rows fst N i k f g)=>qwmb h
         have hAl:=qumb kind a rows (fst:=fst) (N:=N) (i:=i) (k:=k) (f:=f) (g:=g) h16 (by omega) (by omega) (by omega) (by omega)
         generalize preL kind a rows fst N i k f g=A at *;have hsn:=qxeb hA ((i+1,k,f,g):Brc);have hcl:=qwi m A
         have hcg:(cntV m A)[i]'(by omega)=((A.countP fun b=>decide (b.1=i+1):Nat):Int):=by
          have:=qsx A hi;rw[List.getElem?_eq_getElem (by omega),Option.some.injEq] at this
          exact this
         have hcs:=qvq (m:=m) A ((i+1,k,f,g):Brc) (p:=i) rfl;have hct:(A.countP fun b=>decide (b.1=i+1))≤A.length:=List.countP_le_length
         have c1:=qbk (l:=cntV m A) (i:=i) (by omega)
         have c2:=qymb (l:=cntV m A) (i:=i) (by omega)
         rw[hcg] at c2;generalize (A.countP fun b=>decide (b.1=i+1))=ct at *
         have c3:PO.eval (.set 0 1) [numsD (cntV m A),.int .i64 (i:Int),.int .i64 ((ct+1:Nat):Int)]=some [numsD (cntV m (A++[(i+1,k,f,g)]))]:=by
          have:=qwt (l:=cntV m A) (i:=i) (by omega) ((ct:Int)+1)
          rw[hcs] at this;exact this
         have hw1:IntKind.i64.wrap (((i+1:Nat):Int)-1)=(i:Int):=by rw[wr (by omega) (by omega)];omega
         have hw2:IntKind.i64.wrap ((ct:Int)+1)=(ct:Int)+1:=wr (by omega) (by omega)
         by_cases hpf:((i+1:Nat):Int)≤(fst:Int)
         · by_cases hg0:(g:Int)>0
           · have hbad : bad4 kind a rows fst (i + 1) k f g = false := by
              unfold bad4;rw[decide_eq_true (show i+1≤fst by omega),decide_eq_true (show 0<g by omega)];rfl
             rw[hbad,if_neg (by decide),List.append_nil] at hnext4
             simp only[stA] at hnext4;simp (disch:=omega) only[ir28p3,ir28p2,ir28p0,stA,qa,qb,eq_self,aBin,reduceIte,hlT,hg',hpf,hg0,wr,natS,hnext4]
           · have hbad : bad4 kind a rows fst (i + 1) k f g = !hB kind a rows (i + 1) k f g := by
              unfold bad4;rw[decide_eq_false (show ¬ 0<g by omega),Bool.and_false];rfl
             rw[hbad] at hnext4;cases hb:hB kind a rows (i+1) k f g with
             | true=>
              rw[hb] at hh hnext4;rw[Bool.not_true,if_neg (by decide),List.append_nil] at hnext4
              simp only[stA] at hnext4;simp (disch:=omega) only[ir28p3,ir28p2,ir28p0,stA,qa,qb,eq_self,aBin,reduceIte,hlT,hg',hpf,hg0,hh,wr,natS,hnext4]
             | false=>
              rw[hb] at hh hnext4;rw[Bool.not_false,if_pos rfl] at hnext4;simp only[stA,hsn] at hnext4
              by_cases hl0:(lst4 A).1=0
              · rw[if_pos hl0] at hnext4;have hl0':(((lst4 A).1:Nat):Int)=0:=by omega
                simp (disch:=omega) only[ir28p3,ir28p2,ir28p1,ir28p0,stA,qa,qb,eq_self,aBin,reduceIte,hlT,hg',hpf,hg0,hh,eq_true hl0',c1,c2,c3,wr,natS,hnext4]
              · rw[if_neg hl0] at hnext4;have hl0':¬ (((lst4 A).1:Nat):Int)=0:=by omega
                simp (disch:=omega) only[ir28p3,ir28p2,ir28p1,ir28p0,stA,qa,qb,eq_self,aBin,reduceIte,hlT,hg',hpf,hg0,hh,hl0',c1,c2,c3,wr,natS,hnext4]
         · have hbad : bad4 kind a rows fst (i + 1) k f g = !hB kind a rows (i + 1) k f g := by
            unfold bad4;rw[decide_eq_false (show ¬ i+1≤fst by omega),Bool.false_and];rfl
           rw[hbad] at hnext4;cases hb:hB kind a rows (i+1) k f g with
           | true=>
            rw[hb] at hh hnext4;rw[Bool.not_true,if_neg (by decide),List.append_nil] at hnext4
            simp only[stA] at hnext4;simp (disch:=omega) only[ir28p3,ir28p2,ir28p0,stA,qa,qb,eq_self,aBin,reduceIte,hlT,hg',hpf,hh,wr,natS,hnext4]
           | false=>
            rw[hb] at hh hnext4;rw[Bool.not_false,if_pos rfl] at hnext4;simp only[stA,hsn] at hnext4
            by_cases hl0:(lst4 A).1=0
            · rw[if_pos hl0] at hnext4;have hl0':(((lst4 A).1:Nat):Int)=0:=by omega
              simp (disch:=omega) only[ir28p3,ir28p2,ir28p1,ir28p0,stA,qa,qb,eq_self,aBin,reduceIte,hlT,hg',hpf,hh,eq_true hl0',c1,c2,c3,wr,natS,hnext4]
            · rw[if_neg hl0] at hnext4;have hl0':¬ (((lst4 A).1:Nat):Int)=0:=by omega
              simp (disch:=omega) only[ir28p3,ir28p2,ir28p1,ir28p0,stA,qa,qb,eq_self,aBin,reduceIte,hlT,hg',hpf,hh,hl0',c1,c2,c3,wr,natS,hnext4]
       · rintro _ L4 _;simp (disch:=omega) only[ir28p3,stA,qa,qb,eq_self,aBin,reduceIte,hlT,Int.lt_irrefl,wr,natS,hnext3]
     · rintro _ L3 _;simp (disch:=omega) only[ir28p4,stA,qa,qb,eq_self,aBin,reduceIte,hlT,Int.lt_irrefl,wr,natS,hnext2]
   · rintro _ L2 _;have hw:IntKind.i64.wrap (((i+1:Nat):Int)+1)=((i+1+1:Nat):Int):=by rw[wr (by omega) (by omega)];omega
     simp (disch:=omega) only[ir28p5,stA,qa,qb,eq_self,aBin,reduceIte,hlT,Int.lt_irrefl,hw,hnext]
 · rintro _ L _;have hle:¬ ((m+1:Nat):Int)≤(m:Int):=by omega
   simp (disch:=omega) only[ir28p6,stA,qa,qb,eq_self,aBin,reduceIte,hle]
theorem qgy (a:Int) (rows:List (List Int)) (kind:Int) (hl:rows.length<9223372036854775808) (hr:∀ r∈rows,r.length<9223372036854775808):run tb 9 [.int .i64 a,tabD rows,.int .i64 kind]=some (chkV kind a rows):=by
 refine qc (x:=ir9) rfl ?_;have hp:=qqq kind a rows hl hr;unfold chkV
 by_cases h0:chkE a rows kind=0
 · rw[if_pos h0];rw[h0] at hp;obtain ⟨hv,hk⟩:=qym.1 h0;have hb:=qrk hv hk;have hmm:=fun b (h:b∈bQ kind a rows)=>qznb h
   cases hq:bQ kind a rows with
   | nil=>
    rw[hq] at hb;simp only[stA,lst4,List.head?_nil,Option.getD_none] at hb;have hb:run tb 28 [.int .i64 a,tabD rows,.int .i64 kind]=some [.int .i64 0,.int .i64 0,.int .i64 0,.int .i64 0,numsD (cntV (postN kind).1 [])]:=hb;simp (disch:=omega) only[ir9,qa,qb,eq_self,aBin,reduceIte,Int.reduceGT,hp,Int.reduceBNe,hb,List.head?_nil]
   | cons b bs=>
    rw[hq] at hb;simp only[stA,lst4,List.head?_cons,Option.getD_some] at hb;have h1:=(hmm b (by rw[hq];simp)).1
    have hgt:(b.1:Int)>0:=by omega
    simp (disch:=omega) only[ir9,qa,qb,eq_self,aBin,reduceIte,hp,Int.reduceBNe,hb,hgt,List.head?_cons,brD,List.cons_append,List.nil_append]
 · rw[if_neg h0];have hne:(chkE a rows kind != 0)=true:=by simp[h0]
   simp (disch:=omega) only[ir9,qa,qb,eq_self,aBin,reduceIte,hp,hne]
theorem qnz (a:Int) (rows:List (List Int)) (kind:Int) (hl:rows.length<9223372036854775808) (hr:∀ r∈rows,r.length<9223372036854775808):run tb 11 [.int .i64 a,tabD rows,.int .i64 kind]=some [numsD (cntR kind a rows),.int .i64 (chkE a rows kind)]:=by
 refine qc (x:=ir11) rfl ?_;have hp:=qqq kind a rows hl hr;unfold cntR
 by_cases h0:chkE a rows kind=0
 · rw[if_pos h0];rw[h0] at hp ⊢;obtain ⟨hv,hk⟩:=qym.1 h0;have hb:=qrk hv hk;simp only[stA] at hb;simp (disch:=omega) only[ir11,qa,qb,eq_self,aBin,reduceIte,hp,Int.reduceBNe,hb]
 · rw[if_neg h0];have hne:(chkE a rows kind != 0)=true:=by simp[h0]
   simp (disch:=omega) only[ir11,qa,qb,eq_self,aBin,reduceIte,hp,hne];rfl
end Go.Proofs.YtnfecjmddbehiaaGreat

namespace Go.Proofs.YtnfecjmddbehiaaGreat
open Go Am
set_option maxRecDepth 100000
theorem qba (a b:Int) (A B:List (List Int)) (hl:A.length<1000000000) (hr:∀ r∈A,r.length<1000000000):run tb 36 [.int .i64 a,tabD A,.int .i64 b,tabD B]=some [.bool (decide (a=b)&&decide (A=B))]:=by
 refine qc (x:=ir36) rfl ?_;have hla:=qbe A;have hlb:=qbe B
 by_cases hab:a=b
 · rw[decide_eq_true hab,Bool.true_and]
   by_cases hlen:A.length=B.length
   · have hlen':((A.length:Int) != (B.length:Int))=false:=by simp[hlen]
     have h0:decide (A=B)=decide (A.drop 0=B.drop 0):=by simp
     rw[h0];have hld:decide (A.length=B.length)=true:=decide_eq_true hlen;simp (disch:=omega) only[ir36,ir36p2,qa,qb,eq_self,aBin,reduceIte,ibne,hab,hla,hlb,hld];refine qk (σ:=Unit) A.length (fun _ _=>True) (fun i _=>[.int .i64 i]) (fun i _=>[.bool (decide (A.drop i=B.drop i))]) ?_ ?_ 0 () (Nat.zero_le _) trivial
     · rintro i _ L hi _ hL;have hnext:=hL () trivial;have hib:i<B.length:=by omega
       have hi':(i:Int)<(A.length:Int):=by omega
       have e1:A.drop i=A[i]::A.drop (i+1):=List.drop_eq_getElem_cons hi;have e2:B.drop i=B[i]::B.drop (i+1):=List.drop_eq_getElem_cons hib
       have hs:decide (A.drop i=B.drop i)=(decide (A[i]=B[i])&&decide (A.drop (i+1)=B.drop (i+1))):=by
        rw[e1,e2,← Bool.decide_and];refine decide_eq_decide.2 ⟨fun e=>List.cons.inj e,fun h=>?_⟩
        rw[h.1,h.2]
       rw[hs];have ra:=qgl hi;have rb:=qgl hib;have la:=qu A[i];have lb:=qu B[i];have hrl:=hr _ (List.getElem_mem hi);generalize A[i]=x at *;generalize B[i]=y at *
       by_cases hxy:x.length=y.length
       · have hd:decide (x.length=y.length)=true:=decide_eq_true hxy;have h1:decide (x=y)=decide (x.drop 0=y.drop 0):=by simp
         rw[h1];simp (disch:=omega) only[ir36p1,qa,qb,eq_self,aBin,reduceIte,hla,hi',ra,rb,la,lb,ibne,hd];refine qk (σ:=Unit) x.length (fun _ _=>True) (fun j _=>[.int .i64 j]) (fun j _=>[.bool (decide (x.drop j=y.drop j)&&decide (A.drop (i+1)=B.drop (i+1)))]) ?_ ?_ 0 () (Nat.zero_le _) trivial
         · rintro j _ M hj _ hM;have hnx:=hM () trivial;have hjy:j<y.length:=by omega
           have hj':(j:Int)<(x.length:Int):=by omega
           have f1:x.drop j=x[j]::x.drop (j+1):=List.drop_eq_getElem_cons hj;have f2:y.drop j=y[j]::y.drop (j+1):=List.drop_eq_getElem_cons hjy;have ca:=qtb hj;have cb:=qtb hjy;rw[f1,f2]
           by_cases h2:x[j]=y[j]
           · have:decide (x[j]::x.drop (j+1)=y[j]::y.drop (j+1))=decide (x.drop (j+1)=y.drop (j+1)):=by rw[h2];exact decide_eq_decide.2 ⟨fun e=>(List.cons.inj e).2,fun e=>by rw[e]⟩
             rw[this];simp (disch:=omega) only[ir36p0,qa,qb,eq_self,aBin,reduceIte,ra,rb,la,hj',ca,cb,ibne,h2,wr,natS,hnx]
           · have:decide (x[j]::x.drop (j+1)=y[j]::y.drop (j+1))=false:=decide_eq_false fun e=>h2 (List.cons.inj e).1
             rw[this,Bool.false_and];simp (disch:=omega) only[ir36p0,qa,qb,eq_self,aBin,reduceIte,ra,rb,la,hj',ca,cb,ibne,h2]
         · rintro _ M _;have:decide (x.drop x.length=y.drop x.length)=true:=by simp[hxy]
           rw[this,Bool.true_and];simp (disch:=omega) only[ir36p0,qa,qb,eq_self,aBin,reduceIte,ra,la,Int.lt_irrefl,wr,natS,hnext]
       · have hd:decide (x.length=y.length)=false:=decide_eq_false hxy;have h1:decide (x=y)=false:=decide_eq_false fun e=>hxy (by rw[e])
         rw[h1,Bool.false_and];simp (disch:=omega) only[ir36p1,qa,qb,eq_self,aBin,reduceIte,hla,hi',ra,rb,la,lb,ibne,hd]
     · rintro _ L _;have:decide (A.drop A.length=B.drop A.length)=true:=by simp[hlen]
       rw[this];simp (disch:=omega) only[ir36p1,qa,qb,eq_self,aBin,reduceIte,hla,Int.lt_irrefl]
   · have:decide (A=B)=false:=decide_eq_false fun e=>hlen (by rw[e])
     rw[this];have hld:decide (A.length=B.length)=false:=decide_eq_false hlen;simp (disch:=omega) only[ir36,ir36p2,qa,qb,eq_self,aBin,reduceIte,ibne,hab,hla,hlb,hld]
 · rw[decide_eq_false hab,Bool.false_and];simp (disch:=omega) only[ir36,ir36p2,qa,qb,eq_self,aBin,reduceIte,ibne,decide_eq_false hab]
end Go.Proofs.YtnfecjmddbehiaaGreat

namespace Go.Proofs.YtnfecjmddbehiaaGreat
open Go Am
set_option maxRecDepth 100000
theorem qfpb {x:Nat} (h:x<4):PO.eval (.bin .shl false) [.int .i64 1,bvD (BitVec.ofNat 64 x)]=some [ivD (1#64 <<< x)]:=by
 rw[qim (by omega)]
 have:∀ x,x<4→((2^x:Nat):Int)=((1#64 <<< x).toNat:Int):=by decide +kernel
 rw[this x h];rfl
theorem subA {n:Nat} (hn:n=1∨n=2) {f:BitVec 64} (hf:f.toNat<szT (n:Int)):PO.eval (.bin .sub false) [ivD (alA n),ivD f]=some [ivD (alA n &&& ~~~f)]:=by
 have h16:=qg (n:Int);have e1:=comA hn hf;rw[qwf] at e1
 have e2:(alA n &&& ~~~f).toNat=2^(2^n)-1-f.toNat:=by
  have:alA n &&& ~~~f=BitVec.ofNat 64 (2^(2^n)-1-f.toNat):=e1.symm;rw[this,BitVec.toNat_ofNat];have:2^(2^n)≤16:=by rcases hn with rfl|rfl<;>decide
  omega
 unfold ivD;rw[e2,qwp,que hn];rw[que hn] at hf h16
 show some [D.int .i64 (IntKind.i64.wrap (((2^(2^n)-1:Nat):Int)-(f.toNat:Int)))]=_
 rw[wr (by omega) (by omega)]
 congr 3
 omega
theorem qva {n:Nat} (hn:n=1∨n=2) {kind:Int} (hk:kind=1∨kind=2) (rows:List (List Int)) (names:List (List UInt8)) (hv:Vld n rows) (hvo:vocOk names=true) (hnl:names.length=n) (hst:∀ s∈names,s.length<9223372036854775808) {i:Nat} (hi:i<szT (n:Int)) :
 run tb 35 [.int .i64 (n:Int),tabD rows,.int .i64 kind,.int .i64 (i:Int),strsD names]=some [strsD names,numsD (normS (refR kind n rows i))]:=by
 refine qc (x:=ir35) rfl ?_;have hsz:=que hn;have h16:=qg (n:Int);have hN4:2^n≤4:=by rcases hn with rfl|rfl<;>decide
 have hsi:=qdl (n:Int) (tabD rows);have hsi2:(if (n:Int)=1 then (2:Int) else if (n:Int)=2 then 4 else 0)=((2^n:Nat):Int):=by rcases hn with rfl|rfl<;>rfl
 rw[hsi2] at hsi;have hmk:=mkN (n:=2^n) (by omega)
 have hal:=qkeb hv;rw[hv.len] at hal;have hKt:(BitVec.ofNat 64 i).toNat=i:=qmc (m:=szT (n:Int)) hi h16;have hK:(BitVec.ofNat 64 i).toNat<szT (n:Int):=by rw[hKt];exact hi
 have hrow:PO.eval (.row 1) [tabD rows,.int .i64 (i:Int)]=some [numsD (Am.rowAt rows (BitVec.ofNat 64 i))]:=by
  rw[qpf (by omega)];exact tr hv hK
 obtain ⟨c,hc⟩:∃ c,c=cR kind (alA n) (tOf rows) (BitVec.ofNat 64 i):=⟨_,rfl⟩;obtain ⟨R,hR⟩:∃ R,R=refR kind n rows i:=⟨_,rfl⟩;have hRl:R.length=2^n:=by rw[hR];unfold refR;simp
 have hRg:∀ x,x<2^n→R.getD x 0=(rkc c (2^n) x:Int):=fun x hx=>by rw[hR,hc];unfold refR;simp[hx]
 have ovA':Ovr (2^n) (alA n):=ovA hn;have lt:∀ {S:BitVec 64},Ovr (2^n) S→S.toNat<szT (n:Int):=fun hS=>by rw[hsz];exact qiz hS
 have ov2:∀ x b,x<2^n→b<2^n→Ovr (2^n) (two x b):=fun x b hx hb w hw=>by
  rcases (qvb (by omega) (by omega)).1 hw with rfl|rfl<;>assumption
 obtain ⟨N,hN⟩:∃ N,N=2^n:=⟨_,rfl⟩;rw[← hN] at hN4 hsi hmk hRl hRg ovA' lt ov2;rw[← hR];have hR0:List.replicate N 0=fil R 0:=by rw[← hRl];exact qcn R
 rw[hR0] at hmk;have hmk:PO.eval (.mkL 8 [.int .i64 0]) [.int .i64 (N:Int)]=some [numsD (fil R 0)]:=hmk;obtain ⟨ct,hct⟩:∃ ct:Nat→Nat→Nat,ct=fun x b=>(List.range b).countP fun b=>decide (c (two x b)&&&two x b=1#64 <<< b) && !decide (x=b):=⟨_,rfl⟩
 have ct0:∀ x,ct x 0=0:=fun x=>by rw[hct];rfl
 have ctN:∀ x,rkc c N x=ct x N:=fun x=>by rw[hct];rfl
 have ctS:∀ x b,ct x (b+1)=ct x b+(if (decide (c (two x b)&&&two x b=1#64 <<< b) && !decide (x=b))=true then 1 else 0):=fun x b=>by
  rw[hct];simp only[List.range_succ,List.countP_append,List.countP_cons,List.countP_nil,Nat.zero_add]
 have ctL:∀ x b,ct x b≤b:=fun x b=>by
  rw[hct];have:=List.countP_le_length (p:=fun b=>decide (c (two x b)&&&two x b=1#64 <<< b) && !decide (x=b)) (l:=List.range b)
  simpa using this
 clear hct;simp (disch:=omega) only[ir35,qa,qb,hsi,hmk];refine qk (σ:=Unit) N (fun _ _=>True) (fun x _=>[.int .i64 x,numsD (fil R x)]) (fun _ _=>[strsD names,numsD (normS R)]) ?_ ?_ 0 () (Nat.zero_le _) trivial
 · rintro x _ L hx _ hL;have hnext:=hL () trivial;have hxR:x<R.length:=by omega
   rw[← qxm hxR,hRg x hx,ctN] at hnext;have hx':(x:Int)<(N:Int):=by omega
   have hcx:=qyd x;have hsx:=qfpb (x:=x) (by omega)
   simp (disch:=omega) only[ir35p4,qa,qb,eq_self,aBin,reduceIte,hx'];have hst0:fil R x=(fil R x).set x ((ct x 0:Nat):Int):=by rw[ct0];exact (qccb hxR).symm
   have start:∀ (E:Env) (J:List PF) r,loopQ (run tb) ir35p3 E J [.int .i64 0,numsD ((fil R x).set x ((ct x 0:Nat):Int))]=r→loopQ (run tb) ir35p3 E J [.int .i64 0,numsD (fil R x)]=r:=fun E J r h=>by rw[← hst0] at h;exact h
   refine start _ _ _ ?_;clear start hst0;have hfl:(fil R x).length=N:=by rw[qte,hRl]
   refine qk (σ:=Unit) N (fun _ _=>True) (fun b _=>[.int .i64 b,numsD ((fil R x).set x ((ct x b:Nat):Int))]) (fun _ _=>[strsD names,numsD (normS R)]) ?_ ?_ 0 () (Nat.zero_le _) trivial
   · rintro b _ M hb _ hM;have hnx:=hM () trivial;rw[ctS] at hnx;have hb':(b:Int)<(N:Int):=by omega
     have hcb:=qyd b;have hsb:=qfpb (x:=b) (by omega)
     have hor:=qwh false (x:=1#64 <<< x) (y:=1#64 <<< b) (by have:∀ x,x<4→(1#64 <<< x).toNat<9223372036854775808:=(by decide +kernel);exact this x (by omega)) (by have:∀ x,x<4→(1#64 <<< x).toNat<9223372036854775808:=(by decide +kernel);exact this b (by omega))
     have htw:1#64 <<< x|||1#64 <<< b=two x b:=rfl
     rw[htw] at hor;have o2:=ov2 x b hx hb;have l2:=lt o2;obtain ⟨S,hS⟩:∃ S,S=two x b:=⟨_,rfl⟩;rw[← hS] at hor o2 l2 hnx;have htc:=tc hv hK (f:=S) l2;have oAS:(alA n &&& ~~~S).toNat<szT (n:Int):=qbb (lt ovA');have htc2:=tc hv hK (f:=alA n &&& ~~~S) oAS;have hsA:=subA hn l2;have hcS:c S=(if kind=2 then tOf rows (BitVec.ofNat 64 i) (alA n &&& ~~~S) else tOf rows (BitVec.ofNat 64 i) S):=by rw[hc];rfl
     have hcl:(c S).toNat<szT (n:Int):=by
      rw[hcS]
      split
      · exact t_lt hv hK oAS
      · exact t_lt hv hK l2
     have hand:=qgb false (x:=c S) (y:=S) (by unfold Sml;omega)
     have hand2:=qgb false (x:=c S&&&S) (y:=S) (by have:=qbb (y:=S) hcl;unfold Sml;omega)
     rw[BitVec.and_assoc,BitVec.and_self] at hand2;have heq:=qab false (c S&&&S) (1#64 <<< b);have c1:=qbk (l:=(fil R x).set x ((ct x b:Nat):Int)) (i:=x) (by rw[List.length_set];omega)
     have c2:=qymb (l:=(fil R x).set x ((ct x b:Nat):Int)) (i:=x) (by rw[List.length_set];omega)
     rw[List.getElem_set_self] at c2
     have c3:PO.eval (.set 0 1) [numsD ((fil R x).set x ((ct x b:Nat):Int)),.int .i64 (x:Int),.int .i64 ((ct x b+1:Nat):Int)]=some [numsD ((fil R x).set x ((ct x b+1:Nat):Int))]:=by
      have:=qwt (l:=(fil R x).set x ((ct x b:Nat):Int)) (i:=x) (by rw[List.length_set];omega) ((ct x b+1:Nat):Int)
      rw[List.set_set] at this;exact this
     have hcb2:=ctL x b;have hw:IntKind.i64.wrap (((ct x b:Nat):Int)+1)=((ct x b+1:Nat):Int):=by rw[wr (by omega) (by omega)];omega
     generalize ct x b=cc at *
     have key:∀ (E:Env) (J:List PF) (v:BitVec 64) y13 y14 y15 y16 y17 y19 y20,PO.eval (.bin .and false) [ivD v,ivD S]=some [ivD (c S&&&S)]→den (run tb) ir35p2 ([.int .i64 (n:Int),tabD rows,.int .i64 kind,.int .i64 (i:Int),strsD names,.int .i64 (N:Int),.int .i64 ((szT (n:Int):Nat):Int),numsD (fil R 0),.int .i64 (x:Int),numsD (fil R x),.bool true,.int .i64 (b:Int),numsD ((fil R x).set x (cc:Int)),y13,y14,y15,y16,y17,ivD S,y19,y20]++[ivD v]) [L,M,contQ (run tb) ir35p0 [.int .i64 (n:Int),tabD rows,.int .i64 kind,.int .i64 (i:Int),strsD names,.int .i64 (N:Int),.int .i64 ((szT (n:Int):Nat):Int),numsD (fil R 0),.int .i64 (x:Int),numsD (fil R x),.bool true,.int .i64 (b:Int),numsD ((fil R x).set x (cc:Int)),y13] [L,M]]=some [strsD names,numsD (normS R)]:=by
      intro E J v y13 y14 y15 y16 y17 y19 y20 hva
      by_cases h1:c S&&&S=1#64 <<< b
      · rw[decide_eq_true h1] at heq hnx
        by_cases h2:x=b
        · rw[decide_eq_true h2,Bool.true_and,Bool.not_true,if_neg (by decide),Nat.add_zero cc] at hnx
          have h2':((x:Int) != (b:Int))=false:=by simp[h2]
          simp (disch:=omega) only[ir35p2,ir35p1,ir35p0,qa,qb,eq_self,aBin,reduceIte,hva,hcb,hsb,heq,h2',wr,natS,hnx]
        · rw[decide_eq_false h2,Bool.true_and,Bool.not_false,if_pos rfl] at hnx;have h2':((x:Int) != (b:Int))=true:=by simp;omega
          simp (disch:=omega) only[ir35p2,ir35p1,ir35p0,qa,qb,eq_self,aBin,reduceIte,hva,hcb,hsb,heq,h2',c1,c2,c3,wr,natS,hnx]
      · rw[decide_eq_false h1] at heq hnx;rw[Bool.false_and,if_neg (by decide),Nat.add_zero cc] at hnx
        simp (disch:=omega) only[ir35p2,ir35p1,ir35p0,qa,qb,eq_self,aBin,reduceIte,hva,hcb,hsb,heq,wr,natS,hnx]
     simp only[List.cons_append,List.nil_append] at key;rcases hk with rfl|rfl
     · rw[if_neg (by decide)] at hcS
       rw[hcS] at key hand;have key:=fun y13 y14 y15 y16 y17 y19 y20=>key [] [] _ y13 y14 y15 y16 y17 y19 y20 hand
       simp (disch:=omega) only[ir35p3,qa,qb,eq_self,aBin,reduceIte,Int.reduceEq,hb',hcx,hsx,hcb,hsb,hor,hrow,htc,key]
     · rw[if_pos rfl] at hcS;rw[hcS] at key hand hand2;have key:=fun y13 y14 y15 y16 y17 y19 y20=>key [] [] _ y13 y14 y15 y16 y17 y19 y20 hand2
       simp (disch:=omega) only[ir35p3,qa,qb,eq_self,aBin,reduceIte,hb',hcx,hsx,hcb,hsb,hor,hrow,htc,hal,hsA,htc2,hand,key]
   · rintro _ M _;simp (disch:=omega) only[ir35p3,qa,qb,eq_self,aBin,reduceIte,Int.lt_irrefl,wr,natS,hnext]
 · rintro _ L _;have e:fil R N=R:=by rw[← hRl];exact qct R
   rw[e];have hno:=qtj names R (by omega) hst (by omega)
   rw[if_pos (by simp[normE,hvo,hRl,hnl,hN])] at hno
   simp (disch:=omega) only[ir35p4,qa,qb,eq_self,aBin,reduceIte,Int.lt_irrefl,hno]
end Go.Proofs.YtnfecjmddbehiaaGreat

namespace Go.Proofs.YtnfecjmddbehiaaGreat
open Go Am
set_option maxRecDepth 100000
theorem qgmb {n:Nat} (hn:n=1∨n=2) {kind:Int} (hk:kind=1∨kind=2) (rows:List (List Int)) (names:List (List UInt8)) (hv:Vld n rows) (hvo:vocOk names=true) (hnl:names.length=n) (hst:∀ s∈names,s.length<9223372036854775808) (x4 x5 x6:D) :
 den (run tb) ir15p2 [.int .i64 (n:Int),tabD rows,.int .i64 kind,strsD names,x4,x5,x6,.bool false] []=some (refV kind n rows names):=by
 have h16:=qg (n:Int);have hlT:=qbe rows;rw[hv.len] at hlT;obtain ⟨m,hm⟩:∃ m,m=szT (n:Int):=⟨_,rfl⟩;rw[← hm] at hlT h16;have hfo:∀ i,i<m→run tb 35 [.int .i64 (n:Int),tabD rows,.int .i64 kind,.int .i64 (i:Int),strsD names]=some [strsD names,numsD (normS (refR kind n rows i))]:=fun i hi=>qva hn hk rows names hv hvo hnl hst (by rw[← hm];exact hi)
 simp (disch:=omega) only[ir15p2,qa,qb];rw[qyw];refine qk (σ:=List OO) m (fun i s=>s=(List.range i).map fun j=>(names,normS (refR kind n rows j))) (fun i s=>[.int .i64 i,osD s]) (fun _ _=>refV kind n rows names) ?_ ?_ 0 [] (Nat.zero_le _) rfl
 · rintro i s L hi hs hL;have hi':(i:Int)<(m:Int):=by omega
   have hsl:s.length=i:=by rw[hs];simp
   have hf:=hfo i hi;have hmk2:PO.eval (.mk 2 1) [strsD names,numsD (normS (refR kind n rows i))]=some [.sl [[strsD names,numsD (normS (refR kind n rows i))]]]:=rfl;have happ:=qkmb (os:=s) (o:=(names,normS (refR kind n rows i))) (by omega)
   simp only at happ;have hnext:=hL (s++[(names,normS (refR kind n rows i))]) (by rw[hs,List.range_succ,List.map_append];rfl)
   simp (disch:=omega) only[ir15p1,qa,qb,eq_self,aBin,reduceIte,hlT,hi',hf,hmk2,happ,wr,natS,hnext]
 · rintro s L hs;have hso:s=refO kind n rows names:=by rw[hs,hm];rfl
   have hsl:s.length=m:=by rw[hs];simp
   have hN4:2^n≤4:=by rcases hn with rfl|rfl<;>decide
   have hSn:Sane s:=by
    have key:∀ o∈s,o.1=names∧o.2.length<1000000000:=fun o ho=>by
     rw[hs] at ho;obtain ⟨j,hj,rfl⟩:=List.mem_map.1 ho;refine ⟨rfl,?_⟩;simp only[normS,List.length_map,refR,List.length_range,Int.toNat_natCast];omega
    exact ⟨by omega,fun o ho=>by rw[(key o ho).1];omega,fun o ho s hs=>hst s (by rw[← (key o ho).1];exact hs),fun o ho=>(key o ho).2⟩
   have hmv:=qcr s kind hSn
   have hfd:refV kind n rows names=if mkE s kind=0∧mkT kind s (2^(2^(nam0 s).length))=rows then [osD s,.int .i64 0] else [.sl [],.int .i64 9]:=by
    unfold refV refB;rw[← hso];simp only[Bool.and_eq_true,decide_eq_true_eq]
   unfold mkV at hmv
   by_cases hE:mkE s kind=0
   · rw[if_pos hE] at hmv
     have hM:MkO s kind:=by
      rcases qze s kind with c|c|c|c|c
      · omega
      · omega
      · omega
      · omega
      · exact c.1
     have hnm:nam0 s=names:=by
      have hp:=hM.pos;have:=hM.nm _ (List.getElem_mem hp);rw[← this]
      have:∀ o∈s,o.1=names:=fun o ho=>by
       rw[hs] at ho;obtain ⟨j,_,rfl⟩:=List.mem_map.1 ho;rfl
      exact this _ (List.getElem_mem hp)
     have hTl:(mkT kind s (2^(2^(nam0 s).length))).length<1000000000:=by
      rw[qon];rcases hM.at_ with e|e<;>rw[e]<;>decide
     have hTr:∀ r∈mkT kind s (2^(2^(nam0 s).length)),r.length<1000000000:=fun r hr=>by
      obtain ⟨k,_,rfl⟩:=List.mem_map.1 hr;rw[qao];rcases hM.at_ with e|e<;>rw[e]<;>decide
     have heq:=qba ((nam0 s).length:Int) (n:Int) (mkT kind s (2^(2^(nam0 s).length))) rows hTl hTr;rw[decide_eq_true (show ((nam0 s).length:Int)=(n:Int) by rw[hnm,hnl]),Bool.true_and] at heq
     by_cases hT:mkT kind s (2^(2^(nam0 s).length))=rows
     · rw[if_pos ⟨hE,hT⟩] at hfd;rw[decide_eq_true hT] at heq;rw[hfd];simp (disch:=omega) only[ir15p1,ir15p0,qa,qb,eq_self,aBin,reduceIte,hlT,Int.lt_irrefl,hmv,Int.reduceBNe,heq]
     · rw[if_neg (fun h=>hT h.2)] at hfd
       rw[decide_eq_false hT] at heq;rw[hfd];simp (disch:=omega) only[ir15p1,ir15p0,qa,qb,eq_self,aBin,reduceIte,hlT,Int.lt_irrefl,hmv,Int.reduceBNe,heq]
   · rw[if_neg hE] at hmv;rw[if_neg (fun h=>hE h.1)] at hfd
     have hE':(mkE s kind != 0)=true:=by simp[hE]
     rw[hfd];simp (disch:=omega) only[ir15p1,ir15p0,qa,qb,eq_self,aBin,reduceIte,hlT,Int.lt_irrefl,hmv,hE']
theorem qdgb (kind a:Int) (rows:List (List Int)) (names:List (List UInt8)) (hl:rows.length<9223372036854775808) (hr:∀ r∈rows,r.length<9223372036854775808) (hnl:names.length<1000000000) (hst:∀ s∈names,s.length<9223372036854775808) :
 run tb 15 [.int .i64 a,tabD rows,.int .i64 kind,strsD names]=some (ordW kind a rows names):=by
 refine qc (x:=ir15) rfl ?_;have hva:=qef a rows hl hr;have hvo:=qlf names hnl hst;unfold ordW;cases hv:vldB a rows with
 | false=>
  rw[hv] at hva;simp only[Bool.false_eq_true,if_false] at hva;simp (disch:=omega) only[ir15,qa,qb,eq_self,aBin,reduceIte,hva,Int.reduceBNe]
 | true=>
  rw[hv] at hva;simp only[if_true] at hva;rw[if_neg (by decide)]
  by_cases hk:kind=1∨kind=2
  · rw[if_neg (fun h=>h hk)]
    have hbad:∀ e6,den (run tb) ir15p3 [.int .i64 a,tabD rows,.int .i64 kind,strsD names,.int .i64 0,e6,.bool false] []=some (if ¬ (vocOk names=true∧(names.length:Int)=a) then [.sl [],.int .i64 1] else ordV kind a rows names):=by
     intro e6;cases hv2:vocOk names with
     | false=>
      rw[hv2] at hvo;rw[if_pos (by simp)]
      simp (disch:=omega) only[ir15p3,ir15p2,qa,qb,eq_self,hvo]
     | true=>
      rw[hv2] at hvo
      by_cases hna:(names.length:Int)=a
      · rw[if_neg (by simp[hna])]
        have hV:=qid.1 hv;subst hna;have hn12:names.length=1∨names.length=2:=by rcases hV.at_ with h|h<;>omega
        rw[qjlb hn12 hk hv2 rfl];have:=qgmb hn12 hk rows names hV hv2 rfl hst (.int .i64 0) e6 (.bool false);simp (disch:=omega) only[ir15p3,qa,qb,eq_self,aBin,reduceIte,hvo,qpb,ibne,this]
      · rw[if_pos (by simp[hna])]
        have hne:((names.length:Int) != a)=true:=by simp[hna]
        simp (disch:=omega) only[ir15p3,ir15p2,qa,qb,eq_self,aBin,reduceIte,hvo,qpb,hne]
    rcases hk with rfl|rfl
    · simp (disch:=omega) only[ir15,qa,qb,eq_self,aBin,reduceIte,hva,Int.reduceBNe,hbad]
    · simp (disch:=omega) only[ir15,qa,qb,eq_self,aBin,reduceIte,hva,Int.reduceBNe,hbad]
  · rw[if_pos hk];have h1:(kind != 1)=true:=by simp;omega
    have h2:(kind != 2)=true:=by simp;omega
    simp (disch:=omega) only[ir15,ir15p3,qa,qb,eq_self,aBin,reduceIte,hva,Int.reduceBNe,h1,h2]
end Go.Proofs.YtnfecjmddbehiaaGreat
