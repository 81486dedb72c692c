/- What functions of the program compute: lemmas. -/
import Derived.Test.YtnfecjmddbehiaaGreatAm7
import Derived.Test.YtnfecjmddbehiaaGreatAm6
set_option linter.unusedSimpArgs false
set_option linter.unusedVariables false
set_option linter.unusedSectionVars false
namespace Am
open Go
def mkQ (N s i n:Nat):Brc:=(i+1,n / s / N,n / s % N,n % s)
def upN (hh:Nat→Nat→Bool) (N s i n:Nat):List Brc:=((List.range n).filter fun m=>!hh i m).map (mkQ N s i)
def upI (hh:Nat→Nat→Bool) (N:Nat) (sec:Nat→Nat) (i:Nat):List Brc:=(List.range i).flatMap fun j=>upN hh N (sec j) j (N*N*sec j)
section
variable (hh:Nat→Nat→Bool) (N:Nat) (sec:Nat→Nat)
theorem qfjb (s i:Nat):upN hh N s i 0=[]:=rfl
theorem qoub {s i n:Nat} (h:hh i n=true):upN hh N s i (n+1)=upN hh N s i n:=by
 simp[upN,List.range_succ,List.filter_append,h]
theorem qqpb {s i n:Nat} (h:hh i n=false):upN hh N s i (n+1)=upN hh N s i n++[mkQ N s i n]:=by
 simp[upN,List.range_succ,List.filter_append,h]
theorem qdw (i:Nat):upI hh N sec (i+1)=upI hh N sec i++upN hh N (sec i) i (N*N*sec i):=by
 simp[upI,List.range_succ,List.flatMap_append]
theorem qssb {s i n m:Nat} (h:n≤m):upN hh N s i n <+: upN hh N s i m:=by
 obtain ⟨k,rfl⟩:=Nat.exists_eq_add_of_le h;unfold upN;rw[List.range_add,List.filter_append,List.map_append];exact List.prefix_append _ _
theorem qctb {i m:Nat} (h:i≤m):upI hh N sec i <+: upI hh N sec m:=by
 obtain ⟨k,rfl⟩:=Nat.exists_eq_add_of_le h;unfold upI;rw[List.range_add,List.flatMap_append];exact List.prefix_append _ _
theorem qsyb {i m n:Nat} (hi:i<m) (hn:n<N*N*sec i) (h:hh i n=false):∃ hl:(upI hh N sec i++upN hh N (sec i) i n).length<(upI hh N sec m).length,(upI hh N sec m)[(upI hh N sec i++upN hh N (sec i) i n).length]=mkQ N (sec i) i n:=by
 have h1:(upI hh N sec i++upN hh N (sec i) i n)++[mkQ N (sec i) i n] <+: upI hh N sec m:=by
  rw[List.append_assoc,← qqpb hh N h];refine List.IsPrefix.trans ?_ (qctb hh N sec hi);rw[qdw];exact (List.prefix_append_right_inj _).2 (qssb hh N hn)
 have hl:=h1.length_le;refine ⟨by simp at hl ⊢;omega,?_⟩
 have h2:=h1.getElem (i:=(upI hh N sec i++upN hh N (sec i) i n).length) (by simp)
 rw[← h2];simp
end
theorem qxqb {h:Nat→Nat→Nat→Nat→Bool} {all fst N:Nat} (hN:0<N):upI (fun i n=>h (i+1) (n / (if i<fst then 1 else N) / N) (n / (if i<fst then 1 else N) % N) (n % (if i<fst then 1 else N))) N (fun i=>if i<fst then 1 else N) all=brL h all fst N:=by
 unfold upI brL;refine qsc fun i _=>?_
 have hs:0<(if i<fst then 1 else N):=by split<;>omega
 rw[← qoa hN hs];unfold upN;rw[List.filter_map,List.map_map];rfl
def brV (b:Brc):List Value:=[.agg #[.int .i64 b.1,.int .i64 b.2.1,.int .i64 b.2.2.1,.int .i64 b.2.2.2]]
def brA (b:Brc):List AV:=[.agg [.d (.int .i64 b.1),.d (.int .i64 b.2.1),.d (.int .i64 b.2.2.1),.d (.int .i64 b.2.2.2)]]
def brD (b:Brc):List D:=[.int .i64 b.1,.int .i64 b.2.1,.int .i64 b.2.2.1,.int .i64 b.2.2.2]
theorem qiwb (w:World) (C:Com) (ρ:Rho) (H:Heap) (b:Brc):RepAll w C ρ H (brA b) (brV b):=by
 refine ⟨rfl,fun i h h'=>?_⟩
 obtain rfl:i=0:=by simp[brA] at h;exact h
 refine .agg _ _ rfl (fun v hv=>?_) fun j hj hj'=>?_
 · simp only[List.mem_cons,List.not_mem_nil,or_false] at hv;rcases hv with rfl|rfl|rfl|rfl<;>rfl
 · match j,hj with
   | 0,_=>exact .d _ _ (.int _ _)
   | 1,_=>exact .d _ _ (.int _ _)
   | 2,_=>exact .d _ _ (.int _ _)
   | 3,_=>exact .d _ _ (.int _ _)
theorem qvn {w:World} {C:Com} {ρ:Rho} {H:Heap} {k:IntKind} {n:Int} {v:Value} (h:RepA w C ρ H (.d (.int k n)) v):v = .int k n:=by
 cases h with|d _ _ h=>cases h;rfl
theorem qvxb {w:World} {C:Com} {ρ:Rho} {H:Heap} {b:Brc} {vs:List Value} (h:RepAll w C ρ H (brA b) vs):vs=brV b:=by
 obtain ⟨h1,h2⟩:=h
 match vs,h1 with
 | [v],_=>
  have h0:=h2 0 (by simp[brA]) (by simp)
  simp only[brA,List.getElem_cons_zero] at h0;cases h0 with
  | agg _ us hl _ hu=>
   match us,hl with
   | [a,b,c,d],_=>
    have ha:=qvn (hu 0 (by simp) (by simp))
    have hb:=qvn (hu 1 (by simp) (by simp))
    have hc:=qvn (hu 2 (by simp) (by simp))
    have hd:=qvn (hu 3 (by simp) (by simp))
    simp only[List.getElem_cons_zero,List.getElem_cons_succ] at ha hb hc hd;subst ha hb hc hd;rfl
theorem qkvb {hh hh':Nat→Nat→Bool} {N:Nat} {sec sec':Nat→Nat} {m:Nat} (h1:∀ i,i<m→sec i=sec' i) (h2:∀ i,i<m→∀ n,hh i n=hh' i n):upI hh N sec m=upI hh' N sec' m:=by
 unfold upI;refine qsc fun i hi=>?_
 have hi:=List.mem_range.1 hi;rw[h1 i hi];unfold upN;have:(fun m=>!hh i m)=fun m=>!hh' i m:=by funext n;rw[h2 i hi]
 rw[this]
def hB (kind a:Int) (rows:List (List Int)) (p k f g:Nat):Bool:=holdsB kind (BitVec.ofNat 64 (szT a-1)) (tOf rows) p (BitVec.ofNat 64 k) (BitVec.ofNat 64 f) (BitVec.ofNat 64 g)
def bQ (kind a:Int) (rows:List (List Int)):List Brc:=brL (hB kind a rows) (postN kind).1 (postN kind).2 (szT a)
def chkE (a:Int) (rows:List (List Int)) (kind:Int):Int:=if vldB a rows=true then (if (postN kind).1=0 then 4 else 0) else 1
theorem qym {a:Int} {rows:List (List Int)} {kind:Int}:chkE a rows kind=0↔Vld a rows∧(kind=1∨kind=2∨kind=3):=by
 unfold chkE;rw[← qid]
 by_cases h:vldB a rows=true
 · rw[if_pos h];unfold postN
   by_cases h1:kind=1
   · simp[h1,h]
   · by_cases h2:kind=2
     · simp[h2,h]
     · by_cases h3:kind=3
       · simp[h3,h]
       · simp[h1,h2,h3]
 · rw[if_neg h];simp[h]
def chkV (kind a : Int) (rows : List (List Int)) : List D := if chkE a rows kind = 0 then (match (bQ kind a rows).head? with
    | some b=>brD b++[.bool true,.int .i64 0]
    | none=>[.int .i64 0,.int .i64 0,.int .i64 0,.int .i64 0,.bool false,.int .i64 0])
 else [.int .i64 0,.int .i64 0,.int .i64 0,.int .i64 0,.bool false,.int .i64 (chkE a rows kind)]
def cntV (m:Nat) (l:List Brc):List Int:=(List.range m).map fun p=>((l.countP fun b=>decide (b.1=p+1):Nat):Int)
theorem qjv (m:Nat):cntV m []=List.replicate m 0:=by
 refine List.ext_getElem (by simp[cntV]) fun i h1 h2=>by simp[cntV]
theorem qwi (m:Nat) (l:List Brc):(cntV m l).length=m:=by simp[cntV]
theorem qsx {m:Nat} (l:List Brc) {p:Nat} (h:p<m):(cntV m l)[p]? = some ((l.countP fun b=>decide (b.1=p+1):Nat):Int):=by simp[cntV,h]
theorem qvq {m:Nat} (l:List Brc) (b:Brc) {p:Nat} (hb:b.1=p+1):(cntV m l).set p (((l.countP fun b=>decide (b.1=p+1):Nat):Int)+1)=cntV m (l++[b]):=by
 refine List.ext_getElem (by simp[cntV]) fun i h1 h2=>?_
 have hi:i<m:=by simpa [cntV] using h2
 simp only[cntV,List.getElem_set,List.getElem_map,List.getElem_range,List.countP_append,List.countP_cons,List.countP_nil,hb]
 by_cases c:p=i
 · subst c;simp
 · rw[if_neg c];simp[c]
theorem qflb (N s:Nat):(trip N s).length=N*(N*s):=by
 simp[trip,List.length_flatMap,List.map_const']
theorem qptb (h:Nat→Nat→Nat→Nat→Bool) (all fst N:Nat) (hN:0<N):(brL h all fst N).length≤all*(N*(N*N)):=by
 unfold brL;rw[List.length_flatMap]
 have key:∀ m:Nat,((List.range m).map fun i=>(((trip N (if i<fst then 1 else N)).filter fun x=>!h (i+1) x.1 x.2.1 x.2.2).map fun x=>(i+1,x)).length).sum≤m*(N*(N*N)):=by
  intro m
  induction m with
  | zero=>simp
  | succ m ih=>
   rw[List.range_succ,List.map_append,List.sum_append,Nat.succ_mul];refine Nat.add_le_add ih ?_;simp only[List.map_cons,List.map_nil,List.sum_cons,List.sum_nil,Nat.add_zero,List.length_map];refine Nat.le_trans (List.length_filter_le _ _) ?_;rw[qflb];refine Nat.mul_le_mul_left _ (Nat.mul_le_mul_left _ ?_)
   split<;>omega
 exact key all
theorem qjwb {kind a:Int} {rows:List (List Int)} (hv:Vld a rows):(bQ kind a rows).length≤28672:=by
 have h0:0<szT a:=by rcases hv.at_ with rfl|rfl<;>decide
 refine Nat.le_trans (qptb _ _ _ _ h0) ?_
 have h1:(postN kind).1≤7:=by
  unfold postN;split
  · decide
  · split
    · decide
    · split<;>decide
 have h16:=qg a;exact Nat.le_trans (Nat.mul_le_mul h1 (Nat.mul_le_mul h16 (Nat.mul_le_mul h16 h16))) (by decide)
theorem qznb {kind a:Int} {rows:List (List Int)} {b:Brc} (h:b∈bQ kind a rows):1≤b.1∧b.1≤(postN kind).1:=⟨((qxs b).1 h).1,((qxs b).1 h).2.1⟩
end Am

namespace Am
open Go
abbrev OO:=List (List UInt8) × List Int
def osD (l:List OO):D:=.sl (l.map fun o=>[strsD o.1,numsD o.2])
theorem qqi {l:List OO} {i:Nat} (h:i<l.length):PO.eval (.row 2) [osD l,.int .i64 i]=some [strsD l[i].1,numsD l[i].2]:=
 qxl (by omega) (by simp[h]) rfl
theorem qfgb {l:List OO} (h:0<l.length):PO.eval (.row 2) [osD l,.int .i64 0]=some [strsD l[0].1,numsD l[0].2]:=qqi h
theorem qwy (l:List OO):PO.eval .lenL [osD l]=some [.int .i64 l.length]:=by simp[osD,qbd]
structure Sane (l:List OO):Prop where
 n:l.length<1000000000
 nm:∀ o∈l,o.1.length<1000000000
 st:∀ o∈l,∀ s∈o.1,s.length<9223372036854775808
 rk:∀ o∈l,o.2.length<1000000000
def badO (nm:List (List UInt8)) (o:OO):Bool:=!decide (orderE o.1 o.2=0) || (decide (o.1.length<1) || (decide (o.1.length>2) || !decide (o.1=nm)))
def badO3 (nm:List (List UInt8)) (o:OO):Bool:=!decide (orderE o.1 o.2=0) || !decide (o.1=nm)
def bse (kind:Int) (i:Nat):BitVec 64:=if kind=3 then 1#64 <<< i else BitVec.ofNat 64 i
def badB (kind:Int) (i:Nat) (o:OO):Bool:=!decide (bse kind i=0#64) && !decide (beliefsS o.1 o.2=bse kind i)
def anyI (q:Nat→OO→Bool):Nat→List OO→Bool
 | _,[]=>false
 | i,o::l=>q i o || anyI q (i+1) l
theorem qzp (q:Nat→OO→Bool) {l:List OO} {i:Nat} (h:i<l.length):anyI q i (l.drop i)=(q i l[i] || anyI q (i+1) (l.drop (i+1))):=by
 rw[List.drop_eq_getElem_cons h];rfl
theorem qvjb (q:OO→Bool) {l:List OO} {i:Nat} (h:i<l.length):(l.drop i).any q=(q l[i] || (l.drop (i+1)).any q):=by
 rw[List.drop_eq_getElem_cons h];rfl
def nam0 (l:List OO):List (List UInt8):=(l.getD 0 ([],[])).1
def wantN (kind:Int) (n:Nat):Nat:=if kind=3 then 2^n else 2^(2^n)
def mkE (l:List OO) (kind:Int):Int:=if (postN kind).1=0 then 4 else if l.length=0 then 1 else if l.any (badO (nam0 l))=true then 1 else if l.length≠wantN kind (nam0 l).length then 1 else if anyI (badB kind) 0 l=true then 7 else 0
def uniU (l:List OO) (k f:BitVec 64):Nat→BitVec 64
 | 0=>0#64
 | m+1=>if k.getLsbD m=true then uniU l k f m|||leastS (l.getD m ([],[])).1 (l.getD m ([],[])).2 f else uniU l k f m
def entB (kind:Int) (l:List OO) (N k f:Nat):BitVec 64:=if kind=1 then leastS (l.getD k ([],[])).1 (l.getD k ([],[])).2 (BitVec.ofNat 64 f)
 else if kind=2 then BitVec.ofNat 64 k|||leastS (l.getD k ([],[])).1 (l.getD k ([],[])).2 (BitVec.ofNat 64 (N-1-f))
 else uniU l (BitVec.ofNat 64 k) (BitVec.ofNat 64 f) l.length
def rowT (kind:Int) (l:List OO) (N k:Nat):List Int:=(List.range N).map fun f=>((entB kind l N k f).toNat:Int)
def mkT (kind:Int) (l:List OO) (N:Nat):List (List Int):=(List.range N).map fun k=>rowT kind l N k
structure MkO (l:List OO) (kind:Int):Prop where
 kd:kind=1∨kind=2∨kind=3
 pos:0<l.length
 at_:(nam0 l).length=1∨(nam0 l).length=2
 ok:∀ o∈l,orderE o.1 o.2=0
 nm:∀ o∈l,o.1=nam0 l
 len:l.length=wantN kind (nam0 l).length
theorem qhbb {l:List OO} (h:l.any (badO (nam0 l))=false) (hp:0<l.length):((nam0 l).length=1∨(nam0 l).length=2)∧(∀ o∈l,orderE o.1 o.2=0)∧∀ o∈l,o.1=nam0 l:=by
 have key:∀ o∈l,orderE o.1 o.2=0∧¬ o.1.length<1∧¬ o.1.length>2∧o.1=nam0 l:=fun o ho=>by
  have:=List.any_eq_false.1 h o ho;simp only[badO,Bool.or_eq_true,Bool.not_eq_true',decide_eq_true_eq,decide_eq_false_iff_not,not_or,Classical.not_not] at this;exact ⟨this.1,this.2.1,this.2.2.1,this.2.2.2⟩
 have h0:l[0]∈l:=List.getElem_mem hp;have e0:nam0 l=l[0].1:=by simp[nam0,hp]
 refine ⟨?_,fun o ho=>(key o ho).1,fun o ho=>(key o ho).2.2.2⟩
 have:=key _ h0;rw[e0];omega
theorem qadb {kind:Int} (h:¬ (postN kind).1=0):kind=1∨kind=2∨kind=3:=by
 unfold postN at h
 by_cases h1:kind=1
 · exact .inl h1
 · by_cases h2:kind=2
   · exact .inr (.inl h2)
   · by_cases h3:kind=3
     · exact .inr (.inr h3)
     · simp[h1,h2,h3] at h
theorem qze (l:List OO) (kind:Int):(mkE l kind=4∧(postN kind).1=0)∨(¬ (postN kind).1=0∧l.length=0∧mkE l kind=1)∨(¬ (postN kind).1=0∧0<l.length∧l.any (badO (nam0 l))=true∧mkE l kind=1)∨
 (¬ (postN kind).1=0∧0<l.length∧l.any (badO (nam0 l))=false∧l.length≠wantN kind (nam0 l).length∧mkE l kind=1)∨(MkO l kind∧mkE l kind=if anyI (badB kind) 0 l=true then 7 else 0):=by
 unfold mkE
 by_cases h1:(postN kind).1=0
 · exact .inl ⟨by rw[if_pos h1],h1⟩
 · rw[if_neg h1]
   by_cases h2:l.length=0
   · exact .inr (.inl ⟨h1,h2,by rw[if_pos h2]⟩)
   · rw[if_neg h2];have hp:0<l.length:=by omega
     by_cases h3:l.any (badO (nam0 l))=true
     · exact .inr (.inr (.inl ⟨h1,hp,h3,by rw[if_pos h3]⟩))
     · rw[if_neg h3];have h3':=Bool.eq_false_iff.2 h3
       by_cases h4:l.length≠wantN kind (nam0 l).length
       · exact .inr (.inr (.inr (.inl ⟨h1,hp,h3',h4,by rw[if_pos h4]⟩)))
       · rw[if_neg h4];obtain ⟨a1,a2,a3⟩:=qhbb h3' hp;exact .inr (.inr (.inr (.inr ⟨⟨qadb h1,hp,a1,a2,a3,Classical.not_not.1 h4⟩,rfl⟩)))
theorem qygb (tb:Bool) (kk:IntKind) (x:BitVec 64) (w:Nat):PO.eval (.bin .shr tb) [ivD x,.int kk (w:Int)]=some [ivD (x >>> w)]:=by
 show one1 (if 0≤(w:Int) then some (.int .i64 (((x.toNat:Int)).fdiv (2^(min ((w:Int)).toNat 64)))) else none)=_
 rw[if_pos (by omega),Int.toNat_natCast,qghb];rfl
theorem qlrb (x:BitVec 64) (w:Nat):decide ((x >>> w)&&&1#64=1#64)=x.getLsbD w:=by
 rw[Bool.eq_iff_iff,decide_eq_true_eq]
 constructor
 · intro h;have:=congrArg (fun y:BitVec 64=>y.getLsbD 0) h
   simpa using this
 · intro h;refine qcd fun i=>?_
   rw[qp]
   have h1:has 1#64 i↔i=0:=by
    have:has (1#64 <<< 0) i↔i=0:=by rw[has,qcc _ _ (by omega),decide_eq_true_eq]
    simpa using this
   rw[h1]
   constructor
   · exact fun x=>x.2
   · rintro rfl;exact ⟨by rw[has,BitVec.getLsbD_ushiftRight];simpa using h,rfl⟩
theorem qrqb {x:BitVec 64} (h:Sml x) (w:Nat):Sml (x >>> w):=by
 unfold Sml at *;rw[BitVec.toNat_ushiftRight,Nat.shiftRight_eq_div_pow];exact Nat.lt_of_le_of_lt (Nat.div_le_self _ _) h
theorem qzw {x:BitVec 64} (h:Sml x) (w:Nat):PO.eval (.bin .and false) [ivD (x >>> w),.int .i64 1]=some [ivD (x >>> w&&&1#64)]:=qgb false (y:=1#64) (qrqb h w)
theorem qkv (x:BitVec 64) (w:Nat):PO.eval (.bin .eql false) [ivD (x >>> w&&&1#64),.int .i64 1]=some [.bool (x.getLsbD w)]:=by
 rw[← qlrb];exact qab false _ 1#64
theorem qpf {n:Nat} (h:n<18446744073709551616):D.int .i64 (n:Int)=ivD (BitVec.ofNat 64 n):=by
 unfold ivD;rw[BitVec.toNat_ofNat,Nat.mod_eq_of_lt (by omega)]
theorem qiz {N:Nat} {x:BitVec 64} (h:Ovr N x):x.toNat<2^N:=by
 refine Nat.lt_pow_two_of_testBit _ fun i hi=>?_
 rw[← BitVec.getLsbD];exact Bool.eq_false_iff.2 fun hx=>by have:=h i hx;omega
theorem qtjb {names:List (List UInt8)} {ranks:List Int} (h:orderE names ranks=0) (S:BitVec 64):Ovr (2^names.length) (leastS names ranks S):=fun w hw=>by
 have:=((qtc h).get S w).1 hw;rw[(qy h).2.1] at this;exact this.1
theorem qcw {l:List OO} {N:Nat} (h:∀ o∈l,∀ S,Ovr N (leastS o.1 o.2 S)) (k f:BitVec 64):∀ m,m≤l.length→Ovr N (uniU l k f m)
 | 0,_=>fun w hw=>absurd hw ((qgd.1 rfl) w)
 | m+1,hm=>fun w hw=>by
  have hm':m<l.length:=by omega
  unfold uniU at hw
  split at hw
  · rcases qub.1 hw with h1|h1
    · exact qcw h k f m (by omega) w h1
    · have e:l.getD m ([],[])=l[m]:=by simp[hm']
      rw[e] at h1;exact h _ (List.getElem_mem hm') f w h1
  · exact qcw h k f m (by omega) w hw
section
variable {l:List OO} {kind:Int} (h:MkO l kind)
include h
theorem MkO.rkl {o:OO} (ho:o∈l):o.2.length=2^(nam0 l).length:=by
 rw[(qy (h.ok o ho)).2.1,h.nm o ho]
theorem MkO.ov {o:OO} (ho:o∈l) (S:BitVec 64):Ovr (2^(nam0 l).length) (leastS o.1 o.2 S):=by
 have:=qtjb (h.ok o ho) S
 rwa [h.nm o ho] at this ⊢
theorem MkO.sz:szT ((nam0 l).length:Int)=2^(2^(nam0 l).length):=by
 rcases h.at_ with e|e<;>rw[e]<;>rfl
theorem MkO.lt {o:OO} (ho:o∈l) (S:BitVec 64):(leastS o.1 o.2 S).toNat<16:=by
 have:=qiz (h.ov ho S);rcases h.at_ with e|e
 · rw[e] at this;omega
 · rw[e] at this;omega
theorem MkO.uni (k f:BitVec 64) {m:Nat} (hm:m≤l.length):(uniU l k f m).toNat<16:=by
 have:=qiz (qcw (fun o ho=>h.ov ho) k f m hm)
 rcases h.at_ with e|e
 · rw[e] at this;omega
 · rw[e] at this;omega
end
def fil (l:List Int) (i:Nat):List Int:=(List.range l.length).map fun (k:Nat)=>if k<i then l.getD k 0 else 0
theorem qte (l:List Int) (i:Nat):(fil l i).length=l.length:=by simp[fil]
theorem qcn (l:List Int):List.replicate l.length 0=fil l 0:=by
 unfold fil;refine List.ext_getElem (by simp) fun i h1 h2=>?_
 simp
theorem qxm {l:List Int} {i:Nat} (hi:i<l.length):(fil l i).set i (l.getD i 0)=fil l (i+1):=by
 unfold fil;refine List.ext_getElem (by simp) fun k h1 h2=>?_
 rw[List.getElem_set];simp only[List.getElem_map,List.getElem_range]
 by_cases h:i=k
 · subst h;simp
 · have:(k<i+1)=(k<i):=propext ⟨fun h=>by omega,fun h=>by omega⟩
   simp[h,this]
theorem qct (l:List Int):fil l l.length=l:=by
 unfold fil;refine List.ext_getElem (by simp) fun k h1 h2=>?_
 simp[h2]
theorem qccb {l:List Int} {i:Nat} (hi:i<l.length):(fil l i).set i 0=fil l i:=by
 refine List.ext_getElem (by simp) fun k h1 h2=>?_
 rw[List.getElem_set]
 split
 · rename_i hk;subst hk;simp[fil]
 · rfl
theorem qao (kind:Int) (l:List OO) (N k:Nat):(rowT kind l N k).length=N:=by simp[rowT]
theorem qrdb {kind:Int} {l:List OO} {N k f:Nat} (h:f<N):(rowT kind l N k).getD f 0=((entB kind l N k f).toNat:Int):=by simp[rowT,h]
theorem qzx (kind:Int) (l:List OO) {N k:Nat} (h:k<N):(mkT kind l N).take (k+1)=(mkT kind l N).take k++[rowT kind l N k]:=by
 rw[List.take_add_one,List.getElem?_eq_getElem (by simpa [mkT] using h)]
 simp[mkT]
theorem qon (kind:Int) (l:List OO) (N:Nat):(mkT kind l N).length=N:=by simp[mkT]
theorem qtlb {rows:List (List Int)} {r:List Int} (h:rows.length<1000000000):PO.eval (.app 1 24) [tabD rows,.sl [[numsD r]]]=some [tabD (rows++[r])]:=by
 have:=qmq (sz:=1) (bt:=24) (xs:=rows.map fun r=>[numsD r]) (ys:=[[numsD r]]) (by simp;omega) (by simp;omega) rfl
 simpa [tabD] using this
theorem qls:D.sl []=tabD []:=rfl
structure FitO (n:Nat) (K:BitVec 64) (o:OO):Prop where
 nm:o.1=vocN n
 ok:orderE o.1 o.2=0
 len:o.2.length=2^n
 bel:K≠0#64→beliefsS o.1 o.2=K
theorem qsmb {n:Nat} (hn:n≤6) {K:BitVec 64} {rs:List Int} (hl:rs.length=2^n) (hK:Ovr (2^n) K) (h:∀ w,w<2^n→(K.getLsbD w=true→rs.getD w 0=0)∧(¬ K.getLsbD w=true→1≤rs.getD w 0)):FitO n K (vocN n,normS rs):=by
 have hnl:(normS rs).length=2^n:=by rw[← hl];simp[normS]
 have hok:orderE (vocN n) (normS rs)=0:=by
  unfold orderE;rw[if_pos ⟨qbu hn,by rw[hnl,qlb]⟩,if_pos (qmub rs)]
 refine ⟨rfl,hok,hnl,fun hK0=>?_⟩
 have hp:=qmlb rs;have hL:=qtc hok;obtain ⟨u,hu⟩:=qxg hK0;have hu2:=hK u hu;have hu0:=(h u hu2).1 hu
 have hle:∀ a b,a<2^n→b<2^n→((normS rs).getD a (-1)≤(normS rs).getD b (-1)↔rs.getD a 0≤rs.getD b 0):=fun a b ha hb=>by
  have e1:(normS rs).getD a (-1)=(normS rs).getD a 0:=by simp[show a<(normS rs).length by omega]
  have e2:(normS rs).getD b (-1)=(normS rs).getD b 0:=by simp[show b<(normS rs).length by omega]
  rw[e1,e2];have:=hp.2 b a (by omega) (by omega)
  constructor
  · intro h;exact Int.not_lt.1 fun hx=>by have:=this.2 hx;omega
  · intro h;exact Int.not_lt.1 fun hx=>by have:=this.1 hx;omega
 refine qcd fun w=>?_
 show has (leastS (vocN n) (normS rs) (BitVec.allOnes 64)) w↔has K w
 rw[hL.top,hnl]
 constructor
 · rintro ⟨h1,h2⟩;have h3:=(hle w u h1 hu2).1 (h2 u hu2);exact Classical.byContradiction fun hn=>by have:=(h w h1).2 hn;omega
 · intro hw;have hw2:=hK w hw;refine ⟨hw2,fun v hv=>(hle w v hw2 hv).2 ?_⟩
   have h1:=(h w hw2).1 hw
   by_cases hv2:K.getLsbD v=true
   · have:=(h v hv).1 hv2;omega
   · have:=(h v hv).2 hv2;omega
end Am

namespace Am
open Go
theorem qin {N k:Nat} (hN:N=2∨N=4) (hk:k<2^N):Ovr N (BitVec.ofNat 64 k):=fun w hw=>by
 have h1:(BitVec.ofNat 64 k).toNat=k:=by
  rw[BitVec.toNat_ofNat,Nat.mod_eq_of_lt];rcases hN with rfl|rfl<;>omega
 have h2:(BitVec.ofNat 64 k).getLsbD w=true:=hw;rw[BitVec.getLsbD,h1] at h2
 exact Classical.byContradiction fun hn=>by
  have:=Nat.testBit_lt_two_pow (x:=k) (i:=w) (Nat.lt_of_lt_of_le hk (Nat.pow_le_pow_right (by omega) (by omega)))
  rw[this] at h2;cases h2
structure FitL (n:Nat) (kind:Int) (os:List OO):Prop where
 len:os.length=wantN kind n
 fit:∀ i (h:i<os.length),FitO n (bse kind i) os[i]
theorem qegb {n:Nat} (hn:n=1∨n=2) {kind:Int} {os:List OO} (h:FitL n kind os):Sane os:=by
 have key:∀ o∈os,o.1=vocN n∧o.2.length=2^n:=fun o ho=>by
  obtain ⟨i,hi,rfl⟩:=List.getElem_of_mem ho;exact ⟨(h.fit i hi).nm,(h.fit i hi).len⟩
 have h4:2^n≤4:=by rcases hn with rfl|rfl<;>decide
 have h16:2^(2^n)≤16:=by rcases hn with rfl|rfl<;>decide
 refine ⟨?_,fun o ho=>?_,fun o ho s hs=>?_,fun o ho=>?_⟩
 · rw[h.len];unfold wantN;split<;>omega
 · rw[(key o ho).1,qlb];omega
 · rw[(key o ho).1] at hs;rw[qph s hs];omega
 · rw[(key o ho).2];omega
def tabG (m:Nat) (G:Nat→Nat→BitVec 64):List (List Int):=(List.range m).map fun k=>(List.range m).map fun f=>((G k f).toNat:Int)
theorem qqvb (kind:Int) (l:List OO) (N:Nat):mkT kind l N=tabG N (entB kind l N):=rfl
theorem qcjb (m:Nat) (G:Nat→Nat→BitVec 64):(tabG m G).length=m:=by simp[tabG]
theorem qelb {m:Nat} {G:Nat→Nat→BitVec 64} {r:List Int} (h:r∈tabG m G):r.length=m:=by
 obtain ⟨k,_,rfl⟩:=List.mem_map.1 h;simp
theorem qen {a:Int} (ha:a=1∨a=2) {G:Nat→Nat→BitVec 64} (h:∀ k f,k<szT a→f<szT a→(G k f).toNat<szT a):Vld a (tabG (szT a) G):=by
 refine ⟨ha,qcjb _ _,fun r hr=>qelb hr,fun r hr x hx=>?_⟩
 obtain ⟨k,hk,rfl⟩:=List.mem_map.1 hr;obtain ⟨f,hf,rfl⟩:=List.mem_map.1 hx;have:=h k f (List.mem_range.1 hk) (List.mem_range.1 hf);exact ⟨by omega,by omega⟩
theorem qkr {m:Nat} {G:Nat→Nat→BitVec 64} {k f:BitVec 64} (hk:k.toNat<m) (hf:f.toNat<m):tOf (tabG m G) k f=G k.toNat f.toNat:=by
 unfold tOf tabG;simp[hk,hf]
theorem qohb {kind a:Int} {rows:List (List Int)} (h:∀ p k f g,1≤p→p≤(postN kind).1→k<szT a→f<szT a→g<szT a→hB kind a rows p k f g=true):bQ kind a rows=[]:=by
 refine List.eq_nil_iff_forall_not_mem.2 fun b hb=>?_
 obtain ⟨h1,h2,h3,h4,h5,_,h6⟩:=(qxs b).1 hb;rw[h _ _ _ _ h1 h2 h3 h4 h5] at h6;cases h6
theorem que {n:Nat} (hn:n=1∨n=2):szT (n:Int)=2^(2^n):=by rcases hn with rfl|rfl<;>rfl
theorem qmc {x m:Nat} (h:x<m) (hm:m≤16):(BitVec.ofNat 64 x).toNat=x:=by
 rw[BitVec.toNat_ofNat];exact Nat.mod_eq_of_lt (by omega)
theorem qjdb {n:Nat} (hn:n=1∨n=2):2^n=2∨2^n=4:=by rcases hn with rfl|rfl<;>simp
theorem anyI_true {q:Nat→OO→Bool}:∀ {l:List OO} {i:Nat},anyI q i l=true→∃ (j:Nat) (h:j<l.length),q (i+j) l[j]=true
 | [],i,h=>by simp[anyI] at h
 | o::l,i,h=>by
  simp only[anyI,Bool.or_eq_true] at h;rcases h with h|h
  · exact ⟨0,by simp,h⟩
  · obtain ⟨j,hj,h⟩:=anyI_true h;refine ⟨j+1,by simp;omega,?_⟩
    rw[show i+(j+1)=i+1+j by omega]
    simpa using h
theorem qwe {n:Nat} {kind:Int} {os:List OO} (h:FitL n kind os) {i:Nat} (hi:i<os.length):FitO n (bse kind i) (os.getD i ([],[])):=by
 rw[List.getD_eq_getElem?_getD,List.getElem?_eq_getElem hi];exact h.fit i hi
theorem qzs {n:Nat} (hn:n=1∨n=2) {kind:Int} (hk:kind=1∨kind=2∨kind=3) {os:List OO} (h:FitL n kind os):mkE os kind=0∧nam0 os=vocN n∧MkO os kind:=by
 have hp:0<os.length:=by rw[h.len];unfold wantN;split<;>exact Nat.two_pow_pos _
 have hnam:nam0 os=vocN n:=(qwe h hp).nm;have hk0:¬ (postN kind).1=0:=by rcases hk with rfl|rfl|rfl<;>decide
 have hany:os.any (badO (nam0 os))=false:=by
  rw[List.any_eq_false];intro o ho;obtain ⟨i,hi,rfl⟩:=List.getElem_of_mem ho;have hf:=h.fit i hi;have h1:¬ os[i].1.length<1:=by rw[hf.nm,qlb];omega
  have h2:¬ os[i].1.length>2:=by rw[hf.nm,qlb];omega
  have h3:os[i].1=nam0 os:=by rw[hf.nm,hnam]
  unfold badO;rw[decide_eq_true hf.ok,decide_eq_false h1,decide_eq_false h2,decide_eq_true h3];decide
 have hlen:os.length=wantN kind (nam0 os).length:=by rw[h.len,hnam,qlb]
 have hb:¬ anyI (badB kind) 0 os=true:=fun hc=>by
  obtain ⟨j,hj,hc⟩:=anyI_true hc;rw[Nat.zero_add] at hc;unfold badB at hc;rw[Bool.and_eq_true,Bool.not_eq_true',Bool.not_eq_true',decide_eq_false_iff_not,decide_eq_false_iff_not] at hc;exact hc.2 ((h.fit j hj).bel hc.1)
 have hE:mkE os kind=0:=by
  unfold mkE;rw[if_neg hk0,if_neg (by omega),if_neg (by rw[hany];decide),if_neg (by simpa using hlen),if_neg hb]
 refine ⟨hE,hnam,?_⟩;rcases qze os kind with c|c|c|c|c
 · omega
 · omega
 · omega
 · omega
 · exact c.1
theorem qqfb (l:List OO) (k f:BitVec 64):∀ (m w:Nat),has (uniU l k f m) w↔∃ v,v<m∧has k v∧has (leastS (l.getD v ([],[])).1 (l.getD v ([],[])).2 f) w
 | 0,w=>⟨fun h=>absurd h (by simp[uniU,has]),fun ⟨v,h,_⟩=>absurd h (by omega)⟩
 | m+1,w=>by
  have ih:=qqfb l k f m w
  have step:has (uniU l k f (m+1)) w↔has (uniU l k f m) w∨(has k m∧has (leastS (l.getD m ([],[])).1 (l.getD m ([],[])).2 f) w):=by
   by_cases hk:k.getLsbD m=true
   · simp only[uniU,if_pos hk,qub];exact or_congr_right ⟨fun h=>⟨hk,h⟩,fun h=>h.2⟩
   · simp only[uniU,if_neg hk];exact ⟨.inl,fun h=>h.resolve_right fun h=>hk h.1⟩
  rw[step,ih]
  constructor
  · rintro (⟨v,h1,h2,h3⟩|⟨h2,h3⟩)
    · exact ⟨v,by omega,h2,h3⟩
    · exact ⟨m,by omega,h2,h3⟩
  · rintro ⟨v,h1,h2,h3⟩
    by_cases hv:v=m
    · subst hv;exact .inr ⟨h2,h3⟩
    · exact .inl ⟨v,by omega,h2,h3⟩
theorem allA {n:Nat} (hn:n=1∨n=2) (w:Nat):has (BitVec.ofNat 64 (szT (n:Int)-1)) w↔w<2^n:=by
 by_cases hw:w<64
 · rcases hn with rfl|rfl
   · have:∀ w,w<64→((BitVec.ofNat 64 (szT ((1:Nat):Int)-1)).getLsbD w=true↔w<2^1):=by decide +kernel
     exact this w hw
   · have:∀ w,w<64→((BitVec.ofNat 64 (szT ((2:Nat):Int)-1)).getLsbD w=true↔w<2^2):=by decide +kernel
     exact this w hw
 · have:2^n≤4:=by rcases hn with rfl|rfl<;>decide
   exact ⟨fun h=>absurd (qex h) hw,fun h=>by omega⟩
theorem comA {n:Nat} (hn:n=1∨n=2) {f:Nat} (hf:f<szT (n:Int)):BitVec.ofNat 64 (2^(2^n)-1-f)=BitVec.ofNat 64 (szT (n:Int)-1) &&& ~~~BitVec.ofNat 64 f:=by
 rcases hn with rfl|rfl
 · have:∀ f,f<4→BitVec.ofNat 64 (2^(2^1)-1-f)=BitVec.ofNat 64 (szT ((1:Nat):Int)-1) &&& ~~~BitVec.ofNat 64 f:=by decide +kernel
   exact this f hf
 · have:∀ f,f<16→BitVec.ofNat 64 (2^(2^2)-1-f)=BitVec.ofNat 64 (szT ((2:Nat):Int)-1) &&& ~~~BitVec.ofNat 64 f:=by decide +kernel
   exact this f hf
theorem qwf (x:BitVec 64):BitVec.ofNat 64 x.toNat=x:=by simp
theorem qtqb {n:Nat} (hn:n=1∨n=2) {kind:Int} (hk:kind=1∨kind=2∨kind=3) {os:List OO} (h:FitL n kind os):Vld (n:Int) (mkT kind os (2^(2^n)))∧bQ kind (n:Int) (mkT kind os (2^(2^n)))=[]:=by
 obtain ⟨hE,hnam,hM⟩:=qzs hn hk h;have hsz:=que hn;have hN4:2^n≤4:=by rcases hn with rfl|rfl<;>decide
 have h16:2^(2^n)≤16:=by rcases hn with rfl|rfl<;>decide
 have hov:∀ o∈os,∀ S,Ovr (2^n) (leastS o.1 o.2 S):=fun o ho S=>by have:=hM.ov ho S;rwa [hnam,qlb] at this
 have ovn:∀ {k:Nat},k<2^(2^n)→Ovr (2^n) (BitVec.ofNat 64 k):=fun hk=>qin (qjdb hn) hk
 have ovlt:∀ {x:BitVec 64},Ovr (2^n) x→x.toNat<szT (n:Int):=fun hx=>by rw[hsz];exact qiz hx
 have memD:∀ {i:Nat},i<os.length→os.getD i ([],[])∈os:=fun {i} hi=>by
  rw[List.getD_eq_getElem?_getD,List.getElem?_eq_getElem hi];exact List.getElem_mem hi
 have hlst:∀ {i:Nat},i<os.length→Lst (2^n) (fun w=>(os.getD i ([],[])).2.getD w (-1)) (leastS (os.getD i ([],[])).1 (os.getD i ([],[])).2):=fun {i} hi=>by
  have:=qtc (qwe h hi).ok
  rwa [(qwe h hi).len] at this
 have hfit:∀ {i:Nat},i<os.length→Fit (bse kind i) (leastS (os.getD i ([],[])).1 (os.getD i ([],[])).2):=fun {i} hi=>(qwe h hi).bel
 rw[qqvb];rw[← hsz];rcases hk with rfl|rfl|rfl
 · have hlen:os.length=szT (n:Int):=by rw[h.len,hsz];rfl
   refine ⟨qen (by rcases hn with rfl|rfl<;>decide) fun k f hk hf=>ovlt ?_,qohb fun p k f g _ _ hk hf hg=>?_⟩
   · exact hov _ (memD (by omega)) _
   · have k64:=qmc hk (qg _);have hf':=hfit (i:=k) (by omega)
     have:bse 1 k=BitVec.ofNat 64 k:=rfl;rw[this] at hf'
     exact qpmb (hlst (i:=k) (by omega)) hf' (fun x hx=>by
      rw[qkr (by rw[k64];exact hk) (ovlt hx)]
      unfold entB;rw[if_pos rfl,k64,qwf]) (ovn (by rw[← hsz];exact hf)) p
 · have hlen:os.length=szT (n:Int):=by rw[h.len,hsz];rfl
   refine ⟨qen (by rcases hn with rfl|rfl<;>decide) fun k f hk hf=>?_,qohb fun p k f g _ _ hk hf hg=>?_⟩
   · unfold entB;rw[if_neg (by decide),if_pos rfl]
     exact qxt (by rw[qmc hk (qg _)];exact hk) (ovlt (hov _ (memD (by omega)) _))
   · have k64:=qmc hk (qg _);have hf':=hfit (i:=k) (by omega)
     have:bse 2 k=BitVec.ofNat 64 k:=rfl;rw[this] at hf'
     exact qpjb (hlst (i:=k) (by omega)) (allA hn) hf' (fun x hx=>by
      rw[qkr (by rw[k64];exact hk) (ovlt hx)]
      unfold entB;rw[if_neg (by decide),if_pos rfl,k64]
      have:=comA hn (ovlt hx);rw[← hsz,qwf] at this;rw[this]) (ovn (by rw[← hsz];exact hf)) (ovn (by rw[← hsz];exact hg)) p
 · have hlen:os.length=2^n:=by rw[h.len];rfl
   refine ⟨qen (by rcases hn with rfl|rfl<;>decide) fun k f hk hf=>ovlt ?_,qohb fun p k f g _ _ hk hf hg=>?_⟩
   · unfold entB;rw[if_neg (by decide),if_neg (by decide)]
     exact qcw hov _ _ _ (Nat.le_refl _)
   · refine qwlb (N:=2^n) (r:=fun i w=>(os.getD i ([],[])).2.getD w (-1)) (L:=fun i=>leastS (os.getD i ([],[])).1 (os.getD i ([],[])).2) (fun v hv=>hlst (by omega)) (fun v hv w=>?_) (fun k f hk hf w=>?_) hN4 (ovn (by rw[← hsz];exact hk)) (ovn (by rw[← hsz];exact hf)) (ovn (by rw[← hsz];exact hg)) p
     · have h1:=hfit (i:=v) (by omega)
       have h2:bse 3 v=1#64 <<< v:=rfl;rw[h2] at h1
       have h3:∀ w,has (1#64 <<< v) w↔w=v:=fun w=>by
        rw[has,qcc _ _ (by omega)];simp
       have h4:(1#64 <<< v)≠0#64:=qhc ((h3 v).2 rfl);rw[h1 h4];exact h3 w
     · rw[qkr (ovlt hk) (ovlt hf)];unfold entB;rw[if_neg (by decide),if_neg (by decide),qwf,qwf,qqfb,hlen]
end Am

namespace Am
open Go
def cR (kind:Int) (A:BitVec 64) (t:Tbl) (k:BitVec 64) (S:BitVec 64):BitVec 64:=if kind=2 then t k (A &&& ~~~S) else t k S
def alA (a:Int):BitVec 64:=BitVec.ofNat 64 (szT a-1)
def ordR (kind a:Int) (rows:List (List Int)) (i:Nat):Option (List Int):=lvlR (cR kind (alA a) (tOf rows) (BitVec.ofNat 64 i)) (2^a.toNat) 0 (alA a) (List.replicate (2^a.toNat) 0)
def ordO (kind a:Int) (rows:List (List Int)) (names:List (List UInt8)):List OO:=(List.range (szT a)).map fun i=>(names,normS ((ordR kind a rows i).getD []))
def ordB (kind a:Int) (rows:List (List Int)) (names:List (List UInt8)):Bool:=(List.range (szT a)).all (fun i=>(ordR kind a rows i).isSome)&&(decide (mkE (ordO kind a rows names) kind=0)&&decide (mkT kind (ordO kind a rows names) (2^(2^(nam0 (ordO kind a rows names)).length))=rows))
def ordV (kind a:Int) (rows:List (List Int)) (names:List (List UInt8)):List D:=if ordB kind a rows names=true then [osD (ordO kind a rows names),.int .i64 0] else [.sl [],.int .i64 9]
theorem qwbb {N:Nat} {c c':BitVec 64→BitVec 64} (h:∀ S,Ovr N S→c S&&&S=c' S&&&S):∀ (m l:Nat) (S:BitVec 64) (q:List Int),Ovr N S→lvlR c m l S q=lvlR c' m l S q
 | 0,_,_,_,_=>rfl
 | m+1,l,S,q,hS=>by
  unfold lvlR;rw[h S hS,qwbb h m _ _ _ fun w hw=>hS w (qx.1 hw).1]
theorem qto {n:Nat} {K:BitVec 64} {o:OO} (h:FitO n K o):Chs (2^n) o.2 (leastS o.1 o.2):=fun S hS w=>by
 have hl:=qtc h.ok;rw[h.len] at hl;rw[hl.get]
 have g:∀ v,v<2^n→o.2.getD v (-1)=o.2.getD v 0:=fun v hv=>by
  have:v<o.2.length:=by rw[h.len];exact hv
  simp[this]
 constructor
 · rintro ⟨h1,h2,h3⟩;exact ⟨h1,h2,fun v hv hs=>by have:=h3 v hv hs;rwa [g w h1,g v hv] at this⟩
 · rintro ⟨h1,h2,h3⟩;exact ⟨h1,h2,fun v hv hs=>by have:=h3 v hv hs;rw[← g w h1,← g v hv] at this;exact this⟩
section
variable {n:Nat} (hn:n=1∨n=2) {kind:Int} (hk:kind=1∨kind=2)
include hn
theorem ovA:Ovr (2^n) (alA n):=fun w h=>(allA hn w).1 h
theorem andA {S:BitVec 64} (hS:Ovr (2^n) S):alA n &&& ~~~(alA n &&& ~~~S)=S:=qcd fun w=>by
 rw[qx,qx]
 constructor
 · rintro ⟨h1,h2⟩;exact Classical.byContradiction fun h=>h2 ⟨h1,h⟩
 · intro h;exact ⟨(allA hn w).2 (hS w h),fun h2=>h2.2 h⟩
include hk
theorem qaqb {os:List OO} (h:FitL n kind os) {i:Nat} (hi:i<os.length) {S:BitVec 64} (hS:Ovr (2^n) S) :
 cR kind (alA n) (tOf (mkT kind os (2^(2^n)))) (BitVec.ofNat 64 i) S&&&S=leastS (os.getD i ([],[])).1 (os.getD i ([],[])).2 S&&&S:=by
 have hsz:=que hn;have hlen:os.length=2^(2^n):=by rw[h.len];unfold wantN;rw[if_neg (by omega)]
 have h16:2^(2^n)≤16:=by rcases hn with rfl|rfl<;>decide
 have k64:(BitVec.ofNat 64 i).toNat=i:=qmc (by omega) h16
 have ovlt:∀ {x:BitVec 64},Ovr (2^n) x→x.toNat<2^(2^n):=fun hx=>qiz hx
 have hfit:=qwe h hi;have oc:Ovr (2^n) (alA n &&& ~~~S):=fun w hw=>ovA hn w (qx.1 hw).1
 rw[qqvb];rcases hk with rfl|rfl
 · unfold cR;rw[if_neg (by decide),qkr (by rw[k64];omega) (ovlt hS)]
   unfold entB;rw[if_pos rfl,k64,qwf]
 · unfold cR;rw[if_pos rfl,qkr (by rw[k64];omega) (ovlt oc)]
   unfold entB;rw[if_neg (by decide),if_pos rfl,k64]
   have e1:=comA hn (f:=(alA n &&& ~~~S).toNat) (by rw[hsz];exact ovlt oc)
   rw[qwf] at e1;have e2:BitVec.ofNat 64 (szT (n:Int)-1) &&& ~~~(alA n &&& ~~~S)=S:=andA hn hS;rw[e2] at e1;rw[e1];refine qcd fun w=>?_
   rw[qp,qub,qp]
   constructor
   · rintro ⟨h1|h1,h2⟩
     · refine ⟨?_,h2⟩;have hl:=qtc hfit.ok;have hF:Fit (BitVec.ofNat 64 i) (leastS (os.getD i ([],[])).1 (os.getD i ([],[])).2):=hfit.bel;have hm:=qkk hl hF h1;exact (hl.get S w).2 ⟨hm.1,h2,fun v hv _=>hm.2 v hv⟩
     · exact ⟨h1,h2⟩
   · rintro ⟨h1,h2⟩;exact ⟨.inr h1,h2⟩
theorem qpv {os:List OO} (h:FitL n kind os) {i:Nat} (hi:i<os.length):∃ q,ordR kind n (mkT kind os (2^(2^n))) i=some q∧normS q=(os.getD i ([],[])).2:=by
 have hfit:=qwe h hi;have h64:2^n≤64:=by rcases hn with rfl|rfl<;>decide
 have hrk:rkOk (os.getD i ([],[])).2=true:=(qy hfit.ok).2.2;obtain ⟨q,h1,h2⟩:=qqlb h64 hfit.len (qto hfit) (A:=alA n) (fun w=>allA hn w) hrk
 refine ⟨q,?_,h2⟩;unfold ordR;rw[Int.toNat_natCast];rw[qwbb (c':=leastS (os.getD i ([],[])).1 (os.getD i ([],[])).2) (N:=2^n) (fun S hS=>qaqb hn hk h hi hS) _ _ _ _ (ovA hn)]
 exact h1
theorem qrv {os:List OO} (h:FitL n kind os):ordO kind n (mkT kind os (2^(2^n))) (vocN n)=os∧((List.range (szT (n:Int))).all fun i=>(ordR kind n (mkT kind os (2^(2^n))) i).isSome)=true:=by
 have hlen:os.length=szT (n:Int):=by rw[h.len,que hn];unfold wantN;rw[if_neg (by omega)]
 constructor
 · unfold ordO;refine List.ext_getElem (by simp[hlen]) fun i h1 h2=>?_
   obtain ⟨q,e1,e2⟩:=qpv hn hk h h2;simp only[List.getElem_map,List.getElem_range,e1,Option.getD_some,e2];have:=qwe h h2;have e3:os.getD i ([],[])=os[i]:=by rw[List.getD_eq_getElem?_getD,List.getElem?_eq_getElem h2];rfl
   rw[e3] at this ⊢;rw[← this.nm]
 · rw[List.all_eq_true];intro i hi;obtain ⟨q,e1,_⟩:=qpv hn hk h (i:=i) (by rw[hlen];exact List.mem_range.1 hi)
   rw[e1];rfl
theorem qlhb {os:List OO} (hnm:∀ o∈os,o.1=vocN n) (he:mkE os kind=0):FitL n kind os:=by
 rcases qze os kind with c|c|c|c|⟨hM,c⟩
 · omega
 · omega
 · omega
 · omega
 · have hb:¬ anyI (badB kind) 0 os=true:=fun hx=>by rw[if_pos hx,he] at c;cases c
   have hn0:nam0 os=vocN n:=by
    have hp:=hM.pos;unfold nam0;rw[List.getD_eq_getElem?_getD,List.getElem?_eq_getElem hp];exact hnm _ (List.getElem_mem hp)
   have key:∀ (l:List OO) (i:Nat),¬ anyI (badB kind) i l=true→∀ j (h:j<l.length),¬ badB kind (i+j) l[j]=true:=fun l=>by
    induction l with
    | nil=>intro i _ j h;simp at h
    | cons o l ih=>
     intro i hb j hj;simp only[anyI,Bool.or_eq_true,not_or] at hb;cases j with
     | zero=>exact hb.1
     | succ j=>
      have:=ih (i+1) hb.2 j (by simpa using hj)
      rw[show i+(j+1)=i+1+j by omega]
      simpa using this
   refine ⟨by rw[hM.len,hn0,qlb],fun i hi=>⟨hnm _ (List.getElem_mem hi),hM.ok _ (List.getElem_mem hi),?_,fun hK=>?_⟩⟩
   · have:=hM.rkl (List.getElem_mem hi)
     rwa [hn0,qlb] at this
   · have:=key os 0 hb i hi;rw[Nat.zero_add] at this;unfold badB at this;rw[decide_eq_false hK] at this
     simpa using this
end
section
variable {n:Nat} (hn:n=1∨n=2) {kind:Int} (hk:kind=1∨kind=2) {rows:List (List Int)} (hv:Vld n rows) (hq:bQ kind n rows=[])
include hn hk hv hq
end
end Am

namespace Am
open Go
def popN (N:Nat) (S:BitVec 64):Nat:=(List.range N).countP fun w=>S.getLsbD w
theorem qrcb {N:Nat} {S:BitVec 64} (hS:Ovr N S) (h:S≠0#64):0<popN N S:=by
 obtain ⟨w,hw⟩:=qxg h;exact List.countP_pos_iff.2 ⟨w,List.mem_range.2 (hS w hw),hw⟩
theorem qbwb (N:Nat) (S:BitVec 64):popN N S≤N:=by
 have:=List.countP_le_length (p:=fun w=>S.getLsbD w) (l:=List.range N)
 unfold popN;simpa using this
theorem qkjb (c:BitVec 64→BitVec 64) (m l:Nat) (q:List Int):lvlR c m l 0#64 q=some q:=by cases m<;>simp[lvlR]
theorem qlmb {N:Nat} {c:BitVec 64→BitVec 64} {m l:Nat} {S:BitVec 64} {q:List Int} (hS:Ovr N S) (hp:popN N S≤m) (h0:S≠0#64) (hb:c S&&&S=0#64):lvlR c m l S q=none:=by
 have:=qrcb hS h0;cases m with
 | zero=>omega
 | succ m=>unfold lvlR;rw[if_neg h0,if_pos hb]
theorem qjmb {N:Nat} {c:BitVec 64→BitVec 64} {m l:Nat} {S:BitVec 64} {q:List Int} (hS:Ovr N S) (hp:popN N S≤m) (h0:S≠0#64) (hb:c S&&&S≠0#64) :
 ∃ m',m=m'+1∧popN N (S &&& ~~~(c S&&&S))≤m'∧lvlR c m l S q=lvlR c m' (l+1) (S &&& ~~~(c S&&&S)) (setLv q (c S&&&S) l):=by
 have:=qrcb hS h0;cases m with
 | zero=>omega
 | succ m=>
  refine ⟨m,rfl,?_,?_⟩
  · obtain ⟨u,hu⟩:=qxg hb;have hu2:=qp.1 hu;have hlt:popN N (S &&& ~~~(c S&&&S))<popN N S:=qvk (fun x _ hx=>(qx.1 hx).1) (List.mem_range.2 (hS u hu2.2)) (Bool.eq_false_iff.2 fun hx=>(qx.1 hx).2 hu) hu2.2
    omega
  · conv=>lhs;unfold lvlR
    rw[if_neg h0,if_neg hb]
theorem qku {c:BitVec 64→BitVec 64} {N:Nat} {out:List Int}:∀ (m l:Nat) (S:BitVec 64) {q:List Int},q.length=N→lvlR c m l S q=some out→out.length=N
 | 0,l,S,q,hq,h=>by
  unfold lvlR at h
  split at h
  · cases h;exact hq
  · cases h
 | m+1,l,S,q,hq,h=>by
  unfold lvlR at h
  split at h
  · cases h;exact hq
  · split at h
    · cases h
    · exact qku m _ _ (by rw[qgg];exact hq) h
def setTo (q:List Int) (b:BitVec 64) (l i:Nat):List Int:=(List.range q.length).map fun w=>if w<i∧b.getLsbD w=true then (l:Int) else q.getD w 0
theorem qpr (q:List Int) (b:BitVec 64) (l i:Nat):(setTo q b l i).length=q.length:=by simp[setTo]
theorem qecb (q:List Int) (b:BitVec 64) (l:Nat):setTo q b l 0=q:=by
 refine List.ext_getElem (by simp[setTo]) fun i h1 h2=>?_
 simp[setTo,h2]
theorem qdbb (q:List Int) (b:BitVec 64) (l:Nat):setTo q b l q.length=setLv q b l:=by
 unfold setTo setLv;refine List.map_congr_left fun w hw=>?_
 have:=List.mem_range.1 hw;simp[this]
theorem qxcb {q:List Int} {b:BitVec 64} {l i:Nat} (hi:i<q.length) (h:b.getLsbD i=true):(setTo q b l i).set i (l:Int)=setTo q b l (i+1):=by
 refine List.ext_getElem (by simp[setTo]) fun w h1 h2=>?_
 rw[List.getElem_set];simp only[setTo,List.getElem_map,List.getElem_range]
 by_cases e:i=w
 · subst e;rw[if_pos rfl,if_pos ⟨by omega,h⟩]
 · rw[if_neg e]
   by_cases e2:w<i
   · have e3:w<i+1:=by omega
     simp only[e2,e3,true_and]
   · have e3:¬ w<i+1:=by omega
     simp only[e2,e3,false_and]
theorem qkkb {q:List Int} {b:BitVec 64} {l i:Nat} (h:b.getLsbD i=false):setTo q b l i=setTo q b l (i+1):=by
 unfold setTo;refine List.map_congr_left fun w _=>?_
 by_cases e:w=i
 · subst e;rw[h];simp
 · by_cases e2:w<i
   · have e3:w<i+1:=by omega
     simp only[e2,e3,true_and]
   · have e3:¬ w<i+1:=by omega
     simp only[e2,e3,false_and]
theorem qwp (a:Int):(alA a).toNat=szT a-1:=by
 have:=qg a;unfold alA;rw[BitVec.toNat_ofNat];omega
theorem qkeb {a:Int} {rows:List (List Int)} (hv:Vld a rows):PO.eval (.bin .sub false) [.int .i64 (rows.length:Int),.int .i64 1]=some [ivD (alA a)]:=by
 have hp:0<szT a:=by rcases hv.at_ with rfl|rfl<;>decide
 have h16:=qg a;unfold ivD;rw[qwp,hv.len]
 show some [D.int .i64 (IntKind.i64.wrap ((szT a:Int)-1))]=_
 rw[wr (by omega) (by omega)]
 congr 3
 omega
def ordW (kind a:Int) (rows:List (List Int)) (names:List (List UInt8)):List D:=
 if vldB a rows=false then [.sl [],.int .i64 1] else if ¬ (kind=1∨kind=2) then [.sl [],.int .i64 4] else if ¬ (vocOk names=true∧(names.length:Int)=a) then [.sl [],.int .i64 1] else ordV kind a rows names
end Am

namespace Am
open Go
section
variable (kind a:Int) (rows:List (List Int)) (fst N:Nat)
def bad4 (p k f g:Nat):Bool:=!(decide (p≤fst)&&decide (0<g)) && !hB kind a rows p k f g
def gL (p k f n:Nat):List Brc:=((List.range n).filter (bad4 kind a rows fst p k f)).map fun g=>(p,k,f,g)
def fL (p k n:Nat):List Brc:=(List.range n).flatMap fun f=>gL kind a rows fst p k f N
def kL (p n:Nat):List Brc:=(List.range n).flatMap fun k=>fL kind a rows fst N p k N
def pL (n:Nat):List Brc:=(List.range n).flatMap fun i=>kL kind a rows fst N (i+1) N
theorem qmsb (p k f n:Nat):gL kind a rows fst p k f (n+1)=gL kind a rows fst p k f n++(if bad4 kind a rows fst p k f n=true then [(p,k,f,n)] else []):=by
 unfold gL;rw[List.range_succ,List.filter_append,List.map_append]
 by_cases h:bad4 kind a rows fst p k f n=true
 · rw[if_pos h];simp[h]
 · rw[if_neg h];simp[h]
theorem qqrb (p k n:Nat):fL kind a rows fst N p k (n+1)=fL kind a rows fst N p k n++gL kind a rows fst p k n N:=by simp[fL,List.range_succ]
theorem qlqb (p n:Nat):kL kind a rows fst N p (n+1)=kL kind a rows fst N p n++fL kind a rows fst N p n N:=by simp[kL,List.range_succ]
theorem qnsb (n:Nat):pL kind a rows fst N (n+1)=pL kind a rows fst N n++kL kind a rows fst N (n+1) N:=by simp[pL,List.range_succ]
theorem quw {α β:Type} {c:Nat} {f:α→List β}:∀ l:List α,(∀ x∈l,(f x).length≤c)→(l.flatMap f).length≤l.length*c
 | [],_=>by simp
 | x::l,h=>by
  rw[List.flatMap_cons,List.length_append,List.length_cons,Nat.add_mul,Nat.one_mul];have h1:=h x (by simp)
  have h2:=quw l fun y hy=>h y (by simp[hy])
  omega
theorem qsnb (p k f n:Nat):(gL kind a rows fst p k f n).length≤n:=by
 unfold gL;rw[List.length_map];have:=List.length_filter_le (bad4 kind a rows fst p k f) (List.range n)
 simpa using this
theorem qcob (p k n:Nat):(fL kind a rows fst N p k n).length≤n*N:=by
 have:=quw (c:=N) (f:=fun f=>gL kind a rows fst p k f N) (List.range n) fun x _=>qsnb kind a rows fst p k x N
 simpa [fL] using this
theorem qiob (p n:Nat):(kL kind a rows fst N p n).length≤n*(N*N):=by
 have:=quw (c:=N*N) (f:=fun k=>fL kind a rows fst N p k N) (List.range n) fun x _=>qcob kind a rows fst N p x N
 simpa [kL] using this
theorem qvwb (n:Nat):(pL kind a rows fst N n).length≤n*(N*(N*N)):=by
 have:=quw (c:=N*(N*N)) (f:=fun i=>kL kind a rows fst N (i+1) N) (List.range n) fun x _=>qiob kind a rows fst N (x+1) N
 simpa [pL] using this
end
theorem qmr {α β:Type} (q:β→Bool) (f:α→List β) (l:List α):(l.flatMap f).filter q=l.flatMap fun x=>(f x).filter q:=by
 induction l with
 | nil=>rfl
 | cons x l ih=>simp[List.flatMap_cons,List.filter_append,ih]
theorem qlnb {α β γ:Type} (g:β→γ) (f:α→List β) (l:List α):(l.flatMap f).map g=l.flatMap fun x=>(f x).map g:=by
 induction l with
 | nil=>rfl
 | cons x l ih=>simp[List.flatMap_cons,ih]
theorem quzb (kind a:Int) (rows:List (List Int)) (hN:0<szT a):pL kind a rows (postN kind).2 (szT a) (postN kind).1=bQ kind a rows:=by
 unfold pL bQ brL;refine qsc fun i _=>?_
 unfold kL trip;rw[qmr,qlnb];refine qsc fun k _=>?_
 unfold fL;rw[qmr,qlnb];refine qsc fun f _=>?_
 unfold gL;rw[List.filter_map,List.map_map]
 by_cases h:i<(postN kind).2
 · rw[if_pos h];obtain ⟨M,hM⟩:∃ M,szT a=M+1:=⟨szT a-1,by omega⟩
   rw[hM,List.range_succ_eq_map,List.range_one]
   have e0:bad4 kind a rows (postN kind).2 (i+1) k f 0 = !hB kind a rows (i+1) k f 0:=by
    unfold bad4;simp
   have e1:((List.range M).map Nat.succ).filter (bad4 kind a rows (postN kind).2 (i+1) k f)=[]:=by
    rw[List.filter_eq_nil_iff];intro x hx;obtain ⟨y,_,rfl⟩:=List.mem_map.1 hx;unfold bad4;have h1:i+1≤(postN kind).2:=by omega
    simp[h1]
   rw[List.filter_cons,e1,e0]
   by_cases hb:hB kind a rows (i+1) k f 0=true
   · simp[hb,Function.comp]
   · simp[hb,Function.comp]
 · rw[if_neg h]
   have e:bad4 kind a rows (postN kind).2 (i+1) k f=fun g=>!hB kind a rows (i+1) k f g:=by
    funext g
    unfold bad4;have h1:¬ i+1≤(postN kind).2:=by omega
    simp[h1]
   rw[e];rfl
theorem qdpb {kind a:Int} {rows:List (List Int)} {fst p k f n:Nat} {b:Brc} (h:b∈gL kind a rows fst p k f n):b.1=p:=by
 obtain ⟨g,_,rfl⟩:=List.mem_map.1 h;rfl
theorem qhob {kind a:Int} {rows:List (List Int)} {fst N p k n:Nat} {b:Brc} (h:b∈fL kind a rows fst N p k n):b.1=p:=by
 obtain ⟨f,_,h⟩:=List.mem_flatMap.1 h;exact qdpb h
theorem qhnb {kind a:Int} {rows:List (List Int)} {fst N p n:Nat} {b:Brc} (h:b∈kL kind a rows fst N p n):b.1=p:=by
 obtain ⟨f,_,h⟩:=List.mem_flatMap.1 h;exact qhob h
theorem qcwb {kind a:Int} {rows:List (List Int)} {fst N n:Nat} {b:Brc} (h:b∈pL kind a rows fst N n):1≤b.1:=by
 obtain ⟨i,_,h⟩:=List.mem_flatMap.1 h;rw[qhnb h];omega
def preL (kind a:Int) (rows:List (List Int)) (fst N i k f g:Nat):List Brc:=pL kind a rows fst N i++kL kind a rows fst N (i+1) k++fL kind a rows fst N (i+1) k f++gL kind a rows fst (i+1) k f g
theorem qwmb {kind a:Int} {rows:List (List Int)} {fst N i k f g:Nat} {b:Brc} (h:b∈preL kind a rows fst N i k f g):1≤b.1:=by
 unfold preL at h;simp only[List.mem_append] at h;rcases h with ((h|h)|h)|h
 · exact qcwb h
 · rw[qhnb h];omega
 · rw[qhob h];omega
 · rw[qdpb h];omega
theorem qumb (kind a:Int) (rows:List (List Int)) {fst N i k f g:Nat} (hN:N≤16) (hi:i≤7) (hk:k≤N) (hf:f≤N) (hg:g≤N):(preL kind a rows fst N i k f g).length≤100000:=by
 have h1:=qvwb kind a rows fst N i;have h2:=qiob kind a rows fst N (i+1) k;have h3:=qcob kind a rows fst N (i+1) k f;have h4:=qsnb kind a rows fst (i+1) k f g;have n2:N*N≤16*16:=Nat.mul_le_mul hN hN;have n3:N*(N*N)≤16*(16*16):=Nat.mul_le_mul hN n2;have m1:i*(N*(N*N))≤7*(16*(16*16)):=Nat.mul_le_mul hi n3;have m2:k*(N*N)≤16*(16*16):=Nat.mul_le_mul (by omega) n2
 have m3:f*N≤16*16:=Nat.mul_le_mul (by omega) hN
 unfold preL;simp only[List.length_append];omega
theorem qmxb (kind a:Int) (rows:List (List Int)) (fst N i k f g:Nat):preL kind a rows fst N i k f (g+1)=preL kind a rows fst N i k f g++(if bad4 kind a rows fst (i+1) k f g=true then [(i+1,k,f,g)] else []):=by
 unfold preL;rw[qmsb];simp only[List.append_assoc]
theorem qzvb (kind a:Int) (rows:List (List Int)) (fst N i k f:Nat):preL kind a rows fst N i k (f+1) 0=preL kind a rows fst N i k f N:=by
 unfold preL;rw[qqrb];simp[gL]
theorem qkxb (kind a:Int) (rows:List (List Int)) (fst N i k:Nat):preL kind a rows fst N i (k+1) 0 0=preL kind a rows fst N i k N 0:=by
 unfold preL;rw[qlqb];simp[gL,fL]
theorem qixb (kind a:Int) (rows:List (List Int)) (fst N i:Nat):preL kind a rows fst N (i+1) 0 0 0=preL kind a rows fst N i N 0 0:=by
 unfold preL;rw[qnsb];simp[gL,fL,kL]
theorem qkob (kind a:Int) (rows:List (List Int)) (fst N i:Nat):preL kind a rows fst N i 0 0 0=pL kind a rows fst N i:=by
 unfold preL;simp[gL,fL,kL]
def lst4 (A:List Brc):Brc:=A.head?.getD (0,0,0,0)
theorem qxeb {A:List Brc} (hA:∀ b∈A,1≤b.1) (b:Brc):lst4 (A++[b])=if (lst4 A).1=0 then b else lst4 A:=by
 cases A with
 | nil=>rfl
 | cons x A=>
  have:=hA x (by simp)
  have h:¬ (lst4 (x::A)).1=0:=by show ¬ x.1=0;omega
  rw[if_neg h];rfl
theorem qro {nm nm':List (List UInt8)} (h1:vocOk nm=true) (h2:vocOk nm' = true) (hl:nm.length=nm'.length) (r:List Int):orderE nm r=orderE nm' r:=by
 unfold orderE;rw[h1,h2,hl]
theorem qwq {nm nm':List (List UInt8)} (h1:vocOk nm=true) (h2:vocOk nm' = true) (hl:nm.length=nm'.length) (r:List Int) (S:BitVec 64):leastS nm r S=leastS nm' r S:=by
 unfold leastS levelsO;rw[qro h1 h2 hl]
def ren (nm:List (List UInt8)) (os:List OO):List OO:=os.map fun o=>(nm,o.2)
section
variable {nm nm':List (List UInt8)} (h1:vocOk nm=true) (h2:vocOk nm' = true) (hl:nm.length=nm'.length) {os:List OO} (hos:∀ o∈os,o.1=nm)
include h1 h2 hl hos
theorem qpo (i:Nat) (S:BitVec 64) (hi:i<os.length):leastS ((ren nm' os).getD i ([],[])).1 ((ren nm' os).getD i ([],[])).2 S=leastS (os.getD i ([],[])).1 (os.getD i ([],[])).2 S:=by
 have hm:=hos _ (List.getElem_mem hi);unfold ren;simp only[List.getD_eq_getElem?_getD,List.getElem?_map,List.getElem?_eq_getElem hi,Option.map_some,Option.getD_some];rw[hm];exact (qwq h1 h2 hl _ _).symm
theorem qabb (k f:BitVec 64):∀ m,m≤os.length→uniU (ren nm' os) k f m=uniU os k f m
 | 0,_=>rfl
 | m+1,hm=>by
  unfold uniU;rw[qabb k f m (by omega),qpo h1 h2 hl hos m f (by omega)]
theorem qzcb (kind:Int) {N:Nat} (hN:kind=3∨N≤os.length):mkT kind (ren nm' os) N=mkT kind os N:=by
 unfold mkT rowT;refine List.map_congr_left fun k hk=>List.map_congr_left fun f _=>?_
 have hk:=List.mem_range.1 hk;unfold entB;have hlen:(ren nm' os).length=os.length:=by simp[ren]
 by_cases c1:kind=1
 · rw[if_pos c1,if_pos c1,qpo h1 h2 hl hos k _ (by omega)]
 · by_cases c2:kind=2
   · rw[if_neg c1,if_pos c2,if_neg c1,if_pos c2,qpo h1 h2 hl hos k _ (by omega)]
   · rw[if_neg c1,if_neg c2,if_neg c1,if_neg c2,hlen,qabb h1 h2 hl hos _ _ _ (Nat.le_refl _)]
theorem qlib (kind:Int):mkE (ren nm' os) kind=mkE os kind:=by
 have hlen:(ren nm' os).length=os.length:=by simp[ren]
 by_cases h0:os.length=0
 · have:os=[]:=List.eq_nil_of_length_eq_zero h0;subst this;rfl
 · have e1 : nam0 os = nm := by
    unfold nam0;rw[List.getD_eq_getElem?_getD,List.getElem?_eq_getElem (by omega)]
    exact hos _ (List.getElem_mem (by omega))
   have e2:nam0 (ren nm' os)=nm':=by
    unfold nam0 ren;rw[List.getD_eq_getElem?_getD,List.getElem?_map,List.getElem?_eq_getElem (by omega)]
    rfl
   have e3:(ren nm' os).any (badO nm')=os.any (badO nm):=by
    unfold ren;rw[List.any_map]
    have:∀ l:List OO,(∀ o∈l,o.1=nm)→l.any (badO nm'∘fun o=>(nm',o.2))=l.any (badO nm):=fun l=>by
     induction l with
     | nil=>intro _;rfl
     | cons o l ih=>
      intro h;have ho:=h o (by simp)
      rw[List.any_cons,List.any_cons,ih fun x hx=>h x (by simp[hx])]
      congr 1
      simp only[Function.comp,badO];rw[ho,qro h1 h2 hl,hl];simp
    exact this os hos
   have e4:anyI (badB kind) 0 (ren nm' os)=anyI (badB kind) 0 os:=by
    unfold ren
    have:∀ (l:List OO) (i:Nat),(∀ o∈l,o.1=nm)→anyI (badB kind) i (l.map fun o=>(nm',o.2))=anyI (badB kind) i l:=fun l=>by
     induction l with
     | nil=>intro _ _;rfl
     | cons o l ih=>
      intro i h;have ho:=h o (by simp)
      simp only[List.map_cons,anyI];rw[ih (i+1) fun x hx=>h x (by simp[hx])]
      congr 1
      have hbel:beliefsS (nm',o.2).1 (nm',o.2).2=beliefsS o.1 o.2:=by
       rw[ho];exact (qwq h1 h2 hl _ _).symm
      unfold badB;simp only[hbel]
    exact this os 0 hos
   unfold mkE;rw[e1,e2,e3,e4,hlen,hl]
end
def refR (kind a:Int) (rows:List (List Int)) (i:Nat):List Int:=(List.range (2^a.toNat)).map fun x=>(rkc (cR kind (alA a) (tOf rows) (BitVec.ofNat 64 i)) (2^a.toNat) x:Int)
def refO (kind a:Int) (rows:List (List Int)) (names:List (List UInt8)):List OO:=(List.range (szT a)).map fun i=>(names,normS (refR kind a rows i))
def refB (kind a:Int) (rows:List (List Int)) (names:List (List UInt8)):Bool:=decide (mkE (refO kind a rows names) kind=0)&&decide (mkT kind (refO kind a rows names) (2^(2^(nam0 (refO kind a rows names)).length))=rows)
def refV (kind a:Int) (rows:List (List Int)) (names:List (List UInt8)):List D:=if refB kind a rows names=true then [osD (refO kind a rows names),.int .i64 0] else [.sl [],.int .i64 9]
theorem qaxb {N:Nat} {c c':BitVec 64→BitVec 64} (hN:N≤64) (h:∀ S,Ovr N S→c S&&&S=c' S&&&S) {x:Nat} (hx:x<N):rkc c N x=rkc c' N x:=by
 unfold rkc;refine List.countP_congr fun b hb=>?_
 have hb:=List.mem_range.1 hb
 have ov:Ovr N (two x b):=fun w hw=>by
  rcases (qvb (by omega) (by omega)).1 hw with rfl|rfl<;>omega
 rw[h _ ov]
section
variable {n:Nat} (hn:n=1∨n=2) {kind:Int} (hk:kind=1∨kind=2)
include hn hk
theorem qhlb {os:List OO} (h:FitL n kind os) {i:Nat} (hi:i<os.length):normS (refR kind n (mkT kind os (2^(2^n))) i)=(os.getD i ([],[])).2:=by
 have hfit:=qwe h hi;have h64:2^n≤64:=by rcases hn with rfl|rfl<;>decide
 have hrk:rkOk (os.getD i ([],[])).2=true:=(qy hfit.ok).2.2;have:=qfy h64 hfit.len (qto hfit) hrk;rw[← this]
 congr 1
 unfold refR;rw[Int.toNat_natCast];refine List.map_congr_left fun x hx=>?_
 have hx:=List.mem_range.1 hx;rw[qaxb (c':=leastS (os.getD i ([],[])).1 (os.getD i ([],[])).2) h64 (fun S hS=>qaqb hn hk h hi hS) hx]
theorem qimb {os:List OO} (h:FitL n kind os) (names:List (List UInt8)):refO kind n (mkT kind os (2^(2^n))) names=ren names os:=by
 have hlen:os.length=szT (n:Int):=by rw[h.len,que hn];unfold wantN;rw[if_neg (by omega)]
 unfold refO ren;refine List.ext_getElem (by simp[hlen]) fun i h1 h2=>?_
 have hi:i<os.length:=by simpa using h2
 simp only[List.getElem_map,List.getElem_range];rw[qhlb hn hk h hi,List.getD_eq_getElem?_getD,List.getElem?_eq_getElem hi];rfl
theorem qvkb {os:List OO} (h:FitL n kind os) (names:List (List UInt8)):ordO kind n (mkT kind os (2^(2^n))) names=ren names os:=by
 have e:=(qrv hn hk h).1
 have:ordO kind n (mkT kind os (2^(2^n))) names=ren names (ordO kind n (mkT kind os (2^(2^n))) (vocN n)):=by
  unfold ordO ren;rw[List.map_map];rfl
 rw[this,e]
theorem qjlb {rows:List (List Int)} {names:List (List UInt8)} (hvo:vocOk names=true) (hnl:names.length=n):ordV kind n rows names=refV kind n rows names:=by
 have hvv:vocOk (vocN n)=true:=qbu (by omega)
 have hll:(vocN n).length=names.length:=by rw[qlb,hnl]
 have made:∀ os:List OO,(∀ o∈os,o.1=names)→mkE os kind=0→mkT kind os (2^(2^(nam0 os).length))=rows→∃ os',FitL n kind os'∧mkT kind os' (2^(2^n))=rows:=fun os hos hE hT=>by
  have hE':=qlib hvo hvv hll.symm hos kind;have hF:=qlhb hn hk (os:=ren (vocN n) os) (fun o ho=>by obtain ⟨x,_,rfl⟩:=List.mem_map.1 ho;rfl) (by rw[hE',hE])
  refine ⟨_,hF,?_⟩
  have hlen:os.length=2^(2^n):=by
   have:=hF.len;unfold wantN at this;rw[if_neg (by omega)] at this
   rw[← this];simp[ren]
  rw[qzcb hvo hvv hll.symm hos kind (.inr (by omega))]
  have e1:nam0 os=names:=by
   have:0<os.length:=by rw[hlen];exact Nat.two_pow_pos _
   unfold nam0;rw[List.getD_eq_getElem?_getD,List.getElem?_eq_getElem this];exact hos _ (List.getElem_mem this)
  rw[e1,hnl] at hT;exact hT
 by_cases hM:∃ os',FitL n kind os'∧mkT kind os' (2^(2^n))=rows
 · obtain ⟨os,hF,hT⟩:=hM;obtain ⟨hE,hnam,_⟩:=qzs hn (by omega) hF
   have hos:∀ o∈os,o.1=vocN n:=fun o ho=>by
    obtain ⟨i,hi,rfl⟩:=List.getElem_of_mem ho;exact (hF.fit i hi).nm
   have hlen:os.length=2^(2^n):=by rw[hF.len];unfold wantN;rw[if_neg (by omega)]
   have e1:=qvkb hn hk hF names;have e2:=qimb hn hk hF names;have e3:=(qrv hn hk hF).2;rw[hT] at e1 e2 e3;have hE2:mkE (ren names os) kind=0:=by rw[qlib hvv hvo hll hos kind];exact hE
   have hn2:nam0 (ren names os)=names:=by
    have:0<os.length:=by rw[hlen];exact Nat.two_pow_pos _
    unfold nam0 ren;rw[List.getD_eq_getElem?_getD,List.getElem?_map,List.getElem?_eq_getElem this];rfl
   have hT2:mkT kind (ren names os) (2^(2^(nam0 (ren names os)).length))=rows:=by
    rw[hn2,hnl,qzcb hvv hvo hll hos kind (.inr (by omega))];exact hT
   unfold ordV refV ordB refB;rw[e1,e2,e3,hE2,hT2];simp
 · unfold ordV refV;rw[if_neg,if_neg]
   · intro h;unfold refB at h;simp only[Bool.and_eq_true,decide_eq_true_eq] at h;exact hM (made _ (fun o ho=>by obtain ⟨i,_,rfl⟩:=List.mem_map.1 ho;rfl) h.1 h.2)
   · intro h;unfold ordB at h;simp only[Bool.and_eq_true,decide_eq_true_eq] at h;exact hM (made _ (fun o ho=>by obtain ⟨i,_,rfl⟩:=List.mem_map.1 ho;rfl) h.2.1 h.2.2)
end
end Am
