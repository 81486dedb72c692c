/- What functions of the program compute: lemmas. -/
import Derived.Test.YtoalfckdmoahoaaGreatDoorAm7
import Derived.Test.YtoalfckdmoahoaaGreatDoorAm6
set_option linter.unusedSimpArgs false
set_option linter.unusedVariables false
set_option linter.unusedSectionVars false
namespace Am
open Go
def mkQ (N s i n:Nat):Brc:=(i+1,n / s / N,n / s % N,n % s)
def upN (hh:Nat→Nat→Bool) (N s i n:Nat):List Brc:=((List.range n).filter fun m=>!hh i m).map (mkQ N s i)
def upI (hh:Nat→Nat→Bool) (N:Nat) (sec:Nat→Nat) (i:Nat):List Brc:=(List.range i).flatMap fun j=>upN hh N (sec j) j (N*N*sec j)
section
variable (hh:Nat→Nat→Bool) (N:Nat) (sec:Nat→Nat)
theorem qinb (s i:Nat):upN hh N s i 0=[]:=rfl
theorem qusb {s i n:Nat} (h:hh i n=true):upN hh N s i (n+1)=upN hh N s i n:=by
 simp[upN,List.range_succ,List.filter_append,h]
theorem qprb {s i n:Nat} (h:hh i n=false):upN hh N s i (n+1)=upN hh N s i n++[mkQ N s i n]:=by
 simp[upN,List.range_succ,List.filter_append,h]
theorem qcy (i:Nat):upI hh N sec (i+1)=upI hh N sec i++upN hh N (sec i) i (N*N*sec i):=by
 simp[upI,List.range_succ,List.flatMap_append]
theorem qmsb {s i n m:Nat} (h:n≤m):upN hh N s i n <+: upN hh N s i m:=by
 obtain ⟨k,rfl⟩:=Nat.exists_eq_add_of_le h;unfold upN;rw[List.range_add,List.filter_append,List.map_append];exact List.prefix_append _ _
theorem qovb {i m:Nat} (h:i≤m):upI hh N sec i <+: upI hh N sec m:=by
 obtain ⟨k,rfl⟩:=Nat.exists_eq_add_of_le h;unfold upI;rw[List.range_add,List.flatMap_append];exact List.prefix_append _ _
theorem qldc {i m n:Nat} (hi:i<m) (hn:n<N*N*sec i) (h:hh i n=false):∃ hl:(upI hh N sec i++upN hh N (sec i) i n).length<(upI hh N sec m).length,(upI hh N sec m)[(upI hh N sec i++upN hh N (sec i) i n).length]=mkQ N (sec i) i n:=by
 have h1:(upI hh N sec i++upN hh N (sec i) i n)++[mkQ N (sec i) i n] <+: upI hh N sec m:=by
  rw[List.append_assoc,← qprb hh N h];refine List.IsPrefix.trans ?_ (qovb hh N sec hi);rw[qcy];exact (List.prefix_append_right_inj _).2 (qmsb hh N hn)
 have hl:=h1.length_le;refine ⟨by simp at hl ⊢;omega,?_⟩
 have h2:=h1.getElem (i:=(upI hh N sec i++upN hh N (sec i) i n).length) (by simp)
 rw[← h2];simp
end
theorem qvtb {h:Nat→Nat→Nat→Nat→Bool} {all fst N:Nat} (hN:0<N):upI (fun i n=>h (i+1) (n / (if i<fst then 1 else N) / N) (n / (if i<fst then 1 else N) % N) (n % (if i<fst then 1 else N))) N (fun i=>if i<fst then 1 else N) all=brL h all fst N:=by
 unfold upI brL;refine qpg fun i _=>?_
 have hs:0<(if i<fst then 1 else N):=by split<;>omega
 rw[← qddb hN hs];unfold upN;rw[List.filter_map,List.map_map];rfl
def brV (b:Brc):List Value:=[.agg #[.int .i64 b.1,.int .i64 b.2.1,.int .i64 b.2.2.1,.int .i64 b.2.2.2]]
def brA (b:Brc):List AV:=[.agg [.d (.int .i64 b.1),.d (.int .i64 b.2.1),.d (.int .i64 b.2.2.1),.d (.int .i64 b.2.2.2)]]
def brD (b:Brc):List D:=[.int .i64 b.1,.int .i64 b.2.1,.int .i64 b.2.2.1,.int .i64 b.2.2.2]
theorem qpyb (w:World) (C:Com) (ρ:Rho) (H:Heap) (b:Brc):RepAll w C ρ H (brA b) (brV b):=by
 refine ⟨rfl,fun i h h'=>?_⟩
 obtain rfl:i=0:=by simp[brA] at h;exact h
 refine .agg _ _ rfl (fun v hv=>?_) fun j hj hj'=>?_
 · simp only[List.mem_cons,List.not_mem_nil,or_false] at hv;rcases hv with rfl|rfl|rfl|rfl<;>rfl
 · match j,hj with
   | 0,_=>exact .d _ _ (.int _ _)
   | 1,_=>exact .d _ _ (.int _ _)
   | 2,_=>exact .d _ _ (.int _ _)
   | 3,_=>exact .d _ _ (.int _ _)
theorem qdq {w:World} {C:Com} {ρ:Rho} {H:Heap} {k:IntKind} {n:Int} {v:Value} (h:RepA w C ρ H (.d (.int k n)) v):v = .int k n:=by
 cases h with|d _ _ h=>cases h;rfl
theorem qhbc {w:World} {C:Com} {ρ:Rho} {H:Heap} {b:Brc} {vs:List Value} (h:RepAll w C ρ H (brA b) vs):vs=brV b:=by
 obtain ⟨h1,h2⟩:=h
 match vs,h1 with
 | [v],_=>
  have h0:=h2 0 (by simp[brA]) (by simp)
  simp only[brA,List.getElem_cons_zero] at h0;cases h0 with
  | agg _ us hl _ hu=>
   match us,hl with
   | [a,b,c,d],_=>
    have ha:=qdq (hu 0 (by simp) (by simp))
    have hb:=qdq (hu 1 (by simp) (by simp))
    have hc:=qdq (hu 2 (by simp) (by simp))
    have hd:=qdq (hu 3 (by simp) (by simp))
    simp only[List.getElem_cons_zero,List.getElem_cons_succ] at ha hb hc hd;subst ha hb hc hd;rfl
theorem qlbc {hh hh':Nat→Nat→Bool} {N:Nat} {sec sec':Nat→Nat} {m:Nat} (h1:∀ i,i<m→sec i=sec' i) (h2:∀ i,i<m→∀ n,hh i n=hh' i n):upI hh N sec m=upI hh' N sec' m:=by
 unfold upI;refine qpg fun i hi=>?_
 have hi:=List.mem_range.1 hi;rw[h1 i hi];unfold upN;have:(fun m=>!hh i m)=fun m=>!hh' i m:=by funext n;rw[h2 i hi]
 rw[this]
def hB (kind a:Int) (rows:List (List Int)) (p k f g:Nat):Bool:=holdsB kind (BitVec.ofNat 64 (szT a-1)) (tOf rows) p (BitVec.ofNat 64 k) (BitVec.ofNat 64 f) (BitVec.ofNat 64 g)
def bQ (kind a:Int) (rows:List (List Int)):List Brc:=brL (hB kind a rows) (postN kind).1 (postN kind).2 (szT a)
def chkE (a:Int) (rows:List (List Int)) (kind:Int):Int:=if vldB a rows=true then (if (postN kind).1=0 then 4 else 0) else 1
theorem qohb {a:Int} {rows:List (List Int)} {kind:Int}:chkE a rows kind=0↔Vld a rows∧(kind=1∨kind=2∨kind=3):=by
 unfold chkE;rw[← qrg]
 by_cases h:vldB a rows=true
 · rw[if_pos h];unfold postN
   by_cases h1:kind=1
   · simp[h1,h]
   · by_cases h2:kind=2
     · simp[h2,h]
     · by_cases h3:kind=3
       · simp[h3,h]
       · simp[h1,h2,h3]
 · rw[if_neg h];simp[h]
def chkV (kind a : Int) (rows : List (List Int)) : List D := if chkE a rows kind = 0 then (match (bQ kind a rows).head? with
    | some b=>brD b++[.bool true,.int .i64 0]
    | none=>[.int .i64 0,.int .i64 0,.int .i64 0,.int .i64 0,.bool false,.int .i64 0])
 else [.int .i64 0,.int .i64 0,.int .i64 0,.int .i64 0,.bool false,.int .i64 (chkE a rows kind)]
def cntV (m:Nat) (l:List Brc):List Int:=(List.range m).map fun p=>((l.countP fun b=>decide (b.1=p+1):Nat):Int)
theorem qyy {m:Nat} (l:List Brc) {p:Nat} (h:p<m):(cntV m l)[p]? = some ((l.countP fun b=>decide (b.1=p+1):Nat):Int):=by simp[cntV,h]
end Am

namespace Am
open Go
def dsL (w:Nat) (l:List Nat):Nat:=l.foldl (fun (m v:Nat)=>min m (ones (dif v w) 64)) 7
def dsS (n:Nat) (X:BitVec 64) (w:Nat):Nat:=dsL w (worldsTo X n)
theorem qin (w:Nat):∀ (l:List Nat) (a:Nat),l.foldl (fun (m v:Nat)=>min m (ones (dif v w) 64)) a≤a∧∀ v∈l,l.foldl (fun (m v:Nat)=>min m (ones (dif v w) 64)) a≤ones (dif v w) 64
 | [],a=>by simp
 | v::l,a=>by
  obtain ⟨h1,h2⟩:=qin w l (min a (ones (dif v w) 64));simp only[List.foldl_cons];refine ⟨by omega,fun x hx=>?_⟩
  rcases List.mem_cons.1 hx with rfl|hx
  · omega
  · exact h2 x hx
theorem qho (w:Nat):∀ (l:List Nat) (a:Nat),l.foldl (fun (m v:Nat)=>min m (ones (dif v w) 64)) a=a∨∃ v∈l,l.foldl (fun (m v:Nat)=>min m (ones (dif v w) 64)) a=ones (dif v w) 64
 | [],a=>.inl rfl
 | v::l,a=>by
  simp only[List.foldl_cons];rcases qho w l (min a (ones (dif v w) 64)) with h|⟨x,hx,h⟩
  · rw[h]
    by_cases hc:a≤ones (dif v w) 64
    · left;omega
    · right;exact ⟨v,List.mem_cons_self,by omega⟩
  · exact .inr ⟨x,List.mem_cons_of_mem _ hx,h⟩
theorem qdy (v w:Int):ones (dif v w) 64≤6:=by
 rw[show ones (dif v w) 64=ones (dif v w) 6 from qgrb _ (qxdc v w) 58]
 have:∀ k,ones (dif v w) k≤k:=fun k=>by
  induction k with
  | zero=>exact Nat.le_refl _
  | succ k ih=>
   have:((dif v w).getLsbD k).toNat≤1:=by cases (dif v w).getLsbD k<;>simp
   simp only[ones];omega
 exact this 6
theorem qmfb {n:Nat} {X:BitVec 64} {v:Nat} (hv:v<n) (hx:has X v) (w:Nat):dsS n X w≤ones (dif v w) 64:=
 (qin w _ 7).2 v (qgb.2 ⟨hv,hx⟩)
theorem quyb {n:Nat} {X:BitVec 64} {u:Nat} (hu:u<n) (hx:has X u) (w:Nat):∃ v,v<n∧has X v∧dsS n X w=ones (dif v w) 64:=by
 rcases qho w (worldsTo X n) 7 with h|⟨v,hv,h⟩
 · have h1:=qmfb hu hx w;have h2:=qdy u w;unfold dsS dsL at h1;omega
 · rw[qgb] at hv;exact ⟨v,hv.1,hv.2,h⟩
theorem qccc {n:Nat} {X:BitVec 64} {u:Nat} (hu:u<n) (hx:has X u) (w:Nat):dsS n X w≤6:=by
 have:=qmfb hu hx w;have:=qdy u w;omega
theorem qbob {x:BitVec 64} (h:ones x 64=0):x=0#64:=by
 refine Classical.byContradiction fun hn=>?_
 have:ones 0#64 64<ones x 64:=qrk (fun w hw=>by simp[has] at hw) fun e=>hn e.symm
 omega
theorem quob {n:Nat} (hn:n≤64) {X:BitVec 64} {u:Nat} (hu:u<n) (hx:has X u) {w:Nat} (hw:w<n):dsS n X w=0↔has X w:=by
 constructor
 · intro h;obtain ⟨v,hv,hxv,e⟩:=quyb hu hx w;have h0:=qbob (by rw[← e];exact h)
   have:=(qoz (by omega) (by omega)).1 h0
   subst this;exact hxv
 · intro h;have:=qmfb hw h w;rw[qup,qnl] at this;omega
def wt (d:Int):Int:=if d≤0 then 0 else 9^(d.toNat-1)
def sumF (f:Int→Int) (v:List Int):Int:=v.foldl (fun a d=>a+f d) 0
def mxF (v:List Int):Int:=v.foldl (fun a d=>if d>a then d else a) 0
def baseF (v:List Int):Int:=v.foldl (fun a d=>a*7+d) 0
def scoreS (kind:Int) (v:List Int):Int:=if kind=3 then mxF v else if kind=2 then sumF wt v else sumF id v
theorem qyp (f:Int→Int):∀ (v:List Int) (a:Int),v.foldl (fun a d=>a+f d) a=a+sumF f v
 | [],a=>by simp[sumF]
 | x::v,a=>by
  unfold sumF;simp only[List.foldl_cons];rw[qyp f v (a+f x),qyp f v (0+f x)];omega
theorem qqb (f:Int→Int) (x:Int) (v:List Int):sumF f (x::v)=f x+sumF f v:=by
 unfold sumF;simp only[List.foldl_cons];rw[qyp];unfold sumF;omega
theorem qbu (f:Int→Int) {a b:List Int} (h:a.Perm b):sumF f a=sumF f b:=by
 induction h with
 | nil=>rfl
 | cons x _ ih=>rw[qqb,qqb,ih]
 | swap x y l=>rw[qqb,qqb,qqb,qqb];omega
 | trans _ _ h1 h2=>exact h1.trans h2
theorem qim:∀ (v:List Int) (a:Int),0≤a→v.foldl (fun a d=>if d>a then d else a) a=max a (mxF v)
 | [],a,h=>by simp[mxF];omega
 | x::v,a,h=>by
  unfold mxF;simp only[List.foldl_cons]
  by_cases hx:x>0
  · rw[if_pos hx,qim v x (by omega),qim v _ (by split<;>omega)]
    split<;>omega
  · rw[if_neg hx,if_neg (by omega),qim v a h]
    rfl
theorem qcbc (v:List Int):0≤mxF v:=by
 cases v with
 | nil=>simp[mxF]
 | cons x v=>
  unfold mxF;simp only[List.foldl_cons];rw[qim _ _ (by split<;>omega)]
  split<;>omega
theorem qef (x:Int) (v:List Int):mxF (x::v)=max (max x 0) (mxF v):=by
 unfold mxF;simp only[List.foldl_cons];rw[qim _ _ (by split<;>omega)]
 unfold mxF
 split<;>omega
theorem qtnb {a b:List Int} (h:a.Perm b):mxF a=mxF b:=by
 induction h with
 | nil=>rfl
 | cons x _ ih=>rw[qef,qef,ih]
 | swap x y l=>rw[qef,qef,qef,qef];omega
 | trans _ _ h1 h2=>exact h1.trans h2
theorem qko (kind:Int) {a b:List Int} (h:a.Perm b):scoreS kind a=scoreS kind b:=by
 unfold scoreS;rw[qtnb h,qbu wt h,qbu id h]
theorem qkzb (d:Int):0≤wt d:=by
 unfold wt;split
 · omega
 · exact Int.pow_nonneg (by omega)
theorem qzeb {a b:Int} (h:a≤b):wt a≤wt b:=by
 unfold wt
 split
 · split
   · omega
   · exact Int.pow_nonneg (by omega)
 · rw[if_neg (by omega)]
   exact_mod_cast Nat.pow_le_pow_right (by omega:0<9) (by omega:a.toNat-1≤b.toNat-1)
theorem qayb {a b:Int} (h0:0≤a) (h:a<b):8*wt a<wt b:=by
 have h1:=qzeb (show a+1≤b by omega)
 have h2:8*wt a<wt (a+1):=by
  unfold wt;rw[if_neg (by omega:¬ a+1≤0)]
  by_cases ha:a≤0
  · have:a=0:=by omega
    subst this;decide
  · rw[if_neg ha];have e:(a+1).toNat-1=(a.toNat-1)+1:=by omega
    rw[e,Int.pow_succ];have:(0:Int)<9^(a.toNat-1):=Int.pow_pos (by omega)
    omega
 omega
theorem qkj {f:Int→Int} {c:Int}:∀ {v:List Int},(∀ x∈v,f x≤c)→sumF f v≤v.length*c
 | [],_=>by simp[sumF]
 | x::v,h=>by
  have h1:=qkj (f:=f) (c:=c) (v:=v) fun y hy=>h y (List.mem_cons_of_mem _ hy)
  have h2:=h x List.mem_cons_self;rw[qqb,List.length_cons];have:((v.length+1:Nat):Int)*c=v.length*c+c:=by rw[Int.natCast_add,Int.add_mul];simp
  omega
theorem qnw {f:Int→Int}:∀ {v:List Int},(∀ x∈v,0≤f x)→0≤sumF f v
 | [],_=>by simp[sumF]
 | x::v,h=>by
  have h1:=qnw (f:=f) (v:=v) fun y hy=>h y (List.mem_cons_of_mem _ hy)
  have h2:=h x List.mem_cons_self;rw[qqb];omega
theorem qom:∀ (v:List Int) (a:Int),v.foldl (fun a d=>a*7+d) a=a*7^v.length+baseF v
 | [],a=>by simp[baseF]
 | x::v,a=>by
  unfold baseF;simp only[List.foldl_cons];rw[qom v (a*7+x),qom v (0*7+x),List.length_cons,Int.pow_succ];generalize (7:Int)^v.length=p;have:(a*7+x)*p=a*(p*7)+x*p:=by rw[Int.add_mul,Int.mul_assoc,Int.mul_comm 7 p]
  rw[this];simp;omega
theorem qfd (x:Int) (v:List Int):baseF (x::v)=x*7^v.length+baseF v:=by
 unfold baseF;simp only[List.foldl_cons];rw[qom];unfold baseF;simp
def Dig (v:List Int):Prop:=∀ x∈v,0≤x∧x≤6
theorem qgf:∀ {v:List Int},Dig v→0≤baseF v∧baseF v<7^v.length
 | [],_=>by simp[baseF]
 | x::v,h=>by
  obtain ⟨h1,h2⟩:=qgf (v:=v) fun y hy=>h y (List.mem_cons_of_mem _ hy)
  obtain ⟨h3,h4⟩:=h x List.mem_cons_self;rw[qfd,List.length_cons,Int.pow_succ];generalize (7:Int)^v.length=p at *;have e0:0≤x*p:=Int.mul_nonneg h3 (by omega)
  have e1:x*p≤6*p:=Int.mul_le_mul_of_nonneg_right h4 (by omega)
  omega
theorem quhb:∀ {a b:List Int},a.length=b.length→a.length≤8→Dig a→Dig b→a.Pairwise (fun x y=>y≤x)→b.Pairwise (fun x y=>y≤x)→
 (baseF a<baseF b∧sumF wt a<sumF wt b)∨a=b∨(baseF b<baseF a∧sumF wt b<sumF wt a)
 | [],[],_,_,_,_,_,_=>.inr (.inl rfl)
 | [],y::b,h,_,_,_,_,_=>by simp at h
 | x::a,[],h,_,_,_,_,_=>by simp at h
 | x::a,y::b,h,h8,da,db,sa,sb=>by
  have hl:a.length=b.length:=by simpa using h
  have da':Dig a:=fun z hz=>da z (List.mem_cons_of_mem _ hz)
  have db':Dig b:=fun z hz=>db z (List.mem_cons_of_mem _ hz)
  obtain ⟨x0,x6⟩:=da x List.mem_cons_self;obtain ⟨y0,y6⟩:=db y List.mem_cons_self;obtain ⟨a0,a1⟩:=qgf da';obtain ⟨b0,b1⟩:=qgf db'
  have key:∀ {x y:Int} {a b:List Int},a.length=b.length→(x::a).length≤8→0≤x→x<y→(∀ z∈a,z≤x)→baseF a<7^a.length→0≤baseF b→baseF (x::a)<baseF (y::b)∧sumF wt (x::a)<sumF wt (y::b):=by
   intro x y a b hl h8 x0 hxy hz a1 b0;rw[qfd,qfd,← hl]
   constructor
   · have hp:(0:Int)≤7^a.length:=Int.pow_nonneg (by omega)
     generalize (7:Int)^a.length=p at *;have e1:(x+1)*p≤y*p:=Int.mul_le_mul_of_nonneg_right (by omega) hp
     rw[Int.add_mul] at e1;omega
   · have hb : sumF wt (x :: a) ≤ (x :: a).length * wt x := qkj fun z hz' => by
      rcases List.mem_cons.1 hz' with rfl|h
      · exact Int.le_refl _
      · exact qzeb (hz z h)
     have hw:=qkzb x;have h1:((x::a).length:Int)*wt x≤8*wt x:=Int.mul_le_mul_of_nonneg_right (by omega) hw
     have h2:=qayb x0 hxy;have h3:0≤sumF wt b:=qnw fun z _=>qkzb z
     rw[qqb wt y b];omega
  have sa1:=(List.pairwise_cons.1 sa).1;have sb1:=(List.pairwise_cons.1 sb).1;rcases Int.lt_trichotomy x y with hxy|rfl|hxy
  · exact .inl (key hl h8 x0 hxy sa1 a1 b0)
  · rcases quhb hl (by simp only[List.length_cons] at h8;omega) da' db' (List.pairwise_cons.1 sa).2 (List.pairwise_cons.1 sb).2 with ⟨h1,h2⟩|h1|⟨h1,h2⟩
    · left
      rw[qfd,qfd,qqb,qqb,hl];omega
    · right;left;rw[h1]
    · right;right
      rw[qfd,qfd,qqb,qqb,hl];omega
  · exact .inr (.inr (key hl.symm (by simp only[List.length_cons] at h8 ⊢;omega) y0 hxy sb1 b1 a0))
def descI (v:List Int):List Int:=(sortI v).reverse
theorem qoc (v:List Int):(descI v).Perm v:=(List.reverse_perm _).trans (List.mergeSort_perm v _)
theorem qak (v:List Int):(descI v).Pairwise fun x y=>y≤x:=List.pairwise_reverse.2 (qhg v)
def keyS (kind:Int) (v:List Int):Int:=if kind=3 then mxF (descI v) else if kind=2 then baseF (descI v) else sumF id (descI v)
theorem qnbc {kind:Int} {a b:List Int} (hl:a.length=b.length) (h8:a.length≤8) (da:Dig a) (db:Dig b):keyS kind a<keyS kind b↔scoreS kind a<scoreS kind b:=by
 rw[← qko kind (qoc a),← qko kind (qoc b)];unfold keyS scoreS
 split
 · exact Iff.rfl
 split
 · have la:=(qoc a).length_eq;have lb:=(qoc b).length_eq;rcases quhb (a:=descI a) (b:=descI b) (by omega) (by omega) (fun x hx=>da x ((qoc a).mem_iff.1 hx)) (fun x hx=>db x ((qoc b).mem_iff.1 hx)) (qak a) (qak b) with ⟨h1,h2⟩|h|⟨h1,h2⟩
   · exact ⟨fun _=>h2,fun _=>h1⟩
   · rw[h];omega
   · omega
 · exact Iff.rfl
end Am

namespace Am
open Go
def entS (kind:Int) (d:Nat):Int:=((if kind=4 then min d 1 else d:Nat):Int)
def vecS (n:Nat) (ms:List (BitVec 64)) (kind:Int) (w:Nat):List Int:=ms.map fun X=>entS kind (dsS n X w)
theorem qul (n:Nat) (ms:List (BitVec 64)) (kind:Int) (w:Nat):(vecS n ms kind w).length=ms.length:=by simp[vecS]
def Mods (n:Nat) (ms:List (BitVec 64)):Prop:=∀ X∈ms,∃ u,u<n∧has X u
theorem qbac (kind:Int) (d:Nat):0≤entS kind d:=by unfold entS;omega
theorem qmyb (kind:Int) (d:Nat):entS kind d≤d:=by unfold entS;split<;>omega
theorem qwu {n:Nat} {ms:List (BitVec 64)} (hm:Mods n ms) (kind:Int) (w:Nat):Dig (vecS n ms kind w):=by
 intro x hx;obtain ⟨X,hX,rfl⟩:=List.mem_map.1 hx;obtain ⟨u,hu,hxu⟩:=hm X hX;have:=qccc hu hxu w;have:=qmyb kind (dsS n X w);exact ⟨qbac _ _,by omega⟩
def keysL (n:Nat) (ms:List (BitVec 64)) (kind:Int):List Int:=(List.range n).map fun w=>keyS kind (vecS n ms kind w)
def scoL (n:Nat) (ms:List (BitVec 64)) (kind:Int):List Int:=(List.range n).map fun w=>scoreS kind (vecS n ms kind w)
theorem qpk (n:Nat) (ms:List (BitVec 64)) (kind:Int):(scoL n ms kind).length=n:=by simp[scoL]
theorem qzk {n w:Nat} (ms:List (BitVec 64)) (kind:Int) (h:w<n):(scoL n ms kind).getD w 0=scoreS kind (vecS n ms kind w):=by simp[scoL,h]
theorem qem {n w:Nat} (ms:List (BitVec 64)) (kind:Int) (h:w<n):(keysL n ms kind).getD w 0=keyS kind (vecS n ms kind w):=by simp[keysL,h]
theorem qneb {n:Nat} {ms:List (BitVec 64)} (hm:Mods n ms) (h8:ms.length≤8) (kind:Int):normS (keysL n ms kind)=normS (scoL n ms kind):=by
 refine qgmb ⟨by simp[keysL,scoL],fun i j hi hj=>?_⟩
 have hl:(keysL n ms kind).length=n:=by simp[keysL]
 rw[hl] at hi hj;rw[qem _ _ hi,qem _ _ hj,qzk _ _ hi,qzk _ _ hj];exact qnbc (by rw[qul,qul]) (by rw[qul];exact h8) (qwu hm kind i) (qwu hm kind j)
def mrgR (n:Nat) (ms:List (BitVec 64)) (kind:Int):List Int:=normS (scoL n ms kind)
theorem qgwb {n:Nat} (hn:n≤6) (ms:List (BitVec 64)) (kind:Int):Ord (vocN n) (2^n) (mrgR (2^n) ms kind):=by
 refine ⟨qywb hn (qpk _ _ _),?_⟩;have:=qrvb (scoL (2^n) ms kind)
 rwa [qpk] at this
theorem qhsb {n v w:Nat} (ms:List (BitVec 64)) (kind:Int) (hv:v<n) (hw:w<n):(mrgR n ms kind).getD v 0<(mrgR n ms kind).getD w 0↔scoreS kind (vecS n ms kind v)<scoreS kind (vecS n ms kind w):=by
 rw[← qzk ms kind hv,← qzk ms kind hw];have hl:(normS (scoL n ms kind)).length=n:=by rw[qok,qpk]
 exact (qhx _).2 v w (by rw[hl];exact hv) (by rw[hl];exact hw)
def mrgS (n:Nat) (ms:List (BitVec 64)) (kind:Int) (C:BitVec 64):BitVec 64:=leastS (vocN n) (mrgR (2^n) ms kind) C
section
variable {n:Nat} (hn:n≤6) {ms ps:List (BitVec 64)} {kind:Int} {C E:BitVec 64}
include hn
theorem qugb {w:Nat}:has (mrgS n ms kind C) w↔w<2^n∧has C w∧∀ v,v<2^n→has C v→scoreS kind (vecS (2^n) ms kind w)≤scoreS kind (vecS (2^n) ms kind v):=by
 unfold mrgS;rw[(qgwb hn ms kind).least]
 constructor
 · rintro ⟨a,b,c⟩;refine ⟨a,b,fun v hv hc=>?_⟩
   have:=c v hv hc;rw[qhsb ms kind hv a] at this;omega
 · rintro ⟨a,b,c⟩;refine ⟨a,b,fun v hv hc=>?_⟩
   rw[qhsb ms kind hv a];have:=c v hv hc;omega
end
section
variable {n:Nat} (hn:n≤6) {ms ps:List (BitVec 64)} {kind:Int} {C:BitVec 64}
include hn
end
end Am

namespace Am
open Go
abbrev OO:=List (List UInt8) × List Int
structure Sane (l:List OO):Prop where
 n:l.length<1000000000
 nm:∀ o∈l,o.1.length<1000000000
 st:∀ o∈l,∀ s∈o.1,s.length<9223372036854775808
 rk:∀ o∈l,o.2.length<1000000000
def badO (nm:List (List UInt8)) (o:OO):Bool:=!decide (orderE o.1 o.2=0) || (decide (o.1.length<1) || (decide (o.1.length>2) || !decide (o.1=nm)))
def bse (kind:Int) (i:Nat):BitVec 64:=if kind=3 then 1#64 <<< i else BitVec.ofNat 64 i
def badB (kind:Int) (i:Nat) (o:OO):Bool:=!decide (bse kind i=0#64) && !decide (beliefsS o.1 o.2=bse kind i)
def anyI (q:Nat→OO→Bool):Nat→List OO→Bool
 | _,[]=>false
 | i,o::l=>q i o || anyI q (i+1) l
def nam0 (l:List OO):List (List UInt8):=(l.getD 0 ([],[])).1
def wantN (kind:Int) (n:Nat):Nat:=if kind=3 then 2^n else 2^(2^n)
def mkE (l:List OO) (kind:Int):Int:=if (postN kind).1=0 then 4 else if l.length=0 then 1 else if l.any (badO (nam0 l))=true then 1 else if l.length≠wantN kind (nam0 l).length then 1 else if anyI (badB kind) 0 l=true then 7 else 0
def uniU (l:List OO) (k f:BitVec 64):Nat→BitVec 64
 | 0=>0#64
 | m+1=>if k.getLsbD m=true then uniU l k f m|||leastS (l.getD m ([],[])).1 (l.getD m ([],[])).2 f else uniU l k f m
def entB (kind:Int) (l:List OO) (N k f:Nat):BitVec 64:=if kind=1 then leastS (l.getD k ([],[])).1 (l.getD k ([],[])).2 (BitVec.ofNat 64 f)
 else if kind=2 then BitVec.ofNat 64 k|||leastS (l.getD k ([],[])).1 (l.getD k ([],[])).2 (BitVec.ofNat 64 (N-1-f))
 else uniU l (BitVec.ofNat 64 k) (BitVec.ofNat 64 f) l.length
def rowT (kind:Int) (l:List OO) (N k:Nat):List Int:=(List.range N).map fun f=>((entB kind l N k f).toNat:Int)
def mkT (kind:Int) (l:List OO) (N:Nat):List (List Int):=(List.range N).map fun k=>rowT kind l N k
structure MkO (l:List OO) (kind:Int):Prop where
 kd:kind=1∨kind=2∨kind=3
 pos:0<l.length
 at_:(nam0 l).length=1∨(nam0 l).length=2
 ok:∀ o∈l,orderE o.1 o.2=0
 nm:∀ o∈l,o.1=nam0 l
 len:l.length=wantN kind (nam0 l).length
theorem qmtb {l:List OO} (h:l.any (badO (nam0 l))=false) (hp:0<l.length):((nam0 l).length=1∨(nam0 l).length=2)∧(∀ o∈l,orderE o.1 o.2=0)∧∀ o∈l,o.1=nam0 l:=by
 have key:∀ o∈l,orderE o.1 o.2=0∧¬ o.1.length<1∧¬ o.1.length>2∧o.1=nam0 l:=fun o ho=>by
  have:=List.any_eq_false.1 h o ho;simp only[badO,Bool.or_eq_true,Bool.not_eq_true',decide_eq_true_eq,decide_eq_false_iff_not,not_or,Classical.not_not] at this;exact ⟨this.1,this.2.1,this.2.2.1,this.2.2.2⟩
 have h0:l[0]∈l:=List.getElem_mem hp;have e0:nam0 l=l[0].1:=by simp[nam0,hp]
 refine ⟨?_,fun o ho=>(key o ho).1,fun o ho=>(key o ho).2.2.2⟩
 have:=key _ h0;rw[e0];omega
theorem qdtb {kind:Int} (h:¬ (postN kind).1=0):kind=1∨kind=2∨kind=3:=by
 unfold postN at h
 by_cases h1:kind=1
 · exact .inl h1
 · by_cases h2:kind=2
   · exact .inr (.inl h2)
   · by_cases h3:kind=3
     · exact .inr (.inr h3)
     · simp[h1,h2,h3] at h
theorem qukb (l:List OO) (kind:Int):(mkE l kind=4∧(postN kind).1=0)∨(¬ (postN kind).1=0∧l.length=0∧mkE l kind=1)∨(¬ (postN kind).1=0∧0<l.length∧l.any (badO (nam0 l))=true∧mkE l kind=1)∨
 (¬ (postN kind).1=0∧0<l.length∧l.any (badO (nam0 l))=false∧l.length≠wantN kind (nam0 l).length∧mkE l kind=1)∨(MkO l kind∧mkE l kind=if anyI (badB kind) 0 l=true then 7 else 0):=by
 unfold mkE
 by_cases h1:(postN kind).1=0
 · exact .inl ⟨by rw[if_pos h1],h1⟩
 · rw[if_neg h1]
   by_cases h2:l.length=0
   · exact .inr (.inl ⟨h1,h2,by rw[if_pos h2]⟩)
   · rw[if_neg h2];have hp:0<l.length:=by omega
     by_cases h3:l.any (badO (nam0 l))=true
     · exact .inr (.inr (.inl ⟨h1,hp,h3,by rw[if_pos h3]⟩))
     · rw[if_neg h3];have h3':=Bool.eq_false_iff.2 h3
       by_cases h4:l.length≠wantN kind (nam0 l).length
       · exact .inr (.inr (.inr (.inl ⟨h1,hp,h3',h4,by rw[if_pos h4]⟩)))
       · rw[if_neg h4];obtain ⟨a1,a2,a3⟩:=qmtb h3' hp;exact .inr (.inr (.inr (.inr ⟨⟨qdtb h1,hp,a1,a2,a3,Classical.not_not.1 h4⟩,rfl⟩)))
theorem qhv {N:Nat} {x:BitVec 64} (h:Ovr N x):x.toNat<2^N:=by
 refine Nat.lt_pow_two_of_testBit _ fun i hi=>?_
 rw[← BitVec.getLsbD];exact Bool.eq_false_iff.2 fun hx=>by have:=h i hx;omega
theorem quy {names:List (List UInt8)} {ranks:List Int} (h:orderE names ranks=0) (S:BitVec 64):Ovr (2^names.length) (leastS names ranks S):=fun w hw=>by
 have:=((qze h).get S w).1 hw;rw[(qkc h).2.1] at this;exact this.1
theorem qvgb {l:List OO} {N:Nat} (h:∀ o∈l,∀ S,Ovr N (leastS o.1 o.2 S)) (k f:BitVec 64):∀ m,m≤l.length→Ovr N (uniU l k f m)
 | 0,_=>fun w hw=>absurd hw ((qvc.1 rfl) w)
 | m+1,hm=>fun w hw=>by
  have hm':m<l.length:=by omega
  unfold uniU at hw
  split at hw
  · rcases qdb.1 hw with h1|h1
    · exact qvgb h k f m (by omega) w h1
    · have e:l.getD m ([],[])=l[m]:=by simp[hm']
      rw[e] at h1;exact h _ (List.getElem_mem hm') f w h1
  · exact qvgb h k f m (by omega) w hw
section
variable {l:List OO} {kind:Int} (h:MkO l kind)
include h
theorem MkO.ov {o:OO} (ho:o∈l) (S:BitVec 64):Ovr (2^(nam0 l).length) (leastS o.1 o.2 S):=by
 have:=quy (h.ok o ho) S
 rwa [h.nm o ho] at this ⊢
theorem MkO.sz:szT ((nam0 l).length:Int)=2^(2^(nam0 l).length):=by
 rcases h.at_ with e|e<;>rw[e]<;>rfl
theorem MkO.lt {o:OO} (ho:o∈l) (S:BitVec 64):(leastS o.1 o.2 S).toNat<16:=by
 have:=qhv (h.ov ho S);rcases h.at_ with e|e
 · rw[e] at this;omega
 · rw[e] at this;omega
end
def fil (l:List Int) (i:Nat):List Int:=(List.range l.length).map fun (k:Nat)=>if k<i then l.getD k 0 else 0
theorem qkxb (l:List Int) (i:Nat):(fil l i).length=l.length:=by simp[fil]
theorem qwob (l:List Int):List.replicate l.length 0=fil l 0:=by
 unfold fil;refine List.ext_getElem (by simp) fun i h1 h2=>?_
 simp
theorem qeob {l:List Int} {i:Nat} (hi:i<l.length):(fil l i).set i (l.getD i 0)=fil l (i+1):=by
 unfold fil;refine List.ext_getElem (by simp) fun k h1 h2=>?_
 rw[List.getElem_set];simp only[List.getElem_map,List.getElem_range]
 by_cases h:i=k
 · subst h;simp
 · have:(k<i+1)=(k<i):=propext ⟨fun h=>by omega,fun h=>by omega⟩
   simp[h,this]
theorem qcwb (l:List Int):fil l l.length=l:=by
 unfold fil;refine List.ext_getElem (by simp) fun k h1 h2=>?_
 simp[h2]
structure FitO (n:Nat) (K:BitVec 64) (o:OO):Prop where
 nm:o.1=vocN n
 ok:orderE o.1 o.2=0
 len:o.2.length=2^n
 bel:K≠0#64→beliefsS o.1 o.2=K
theorem qpnb {n:Nat} (hn:n≤6) {K:BitVec 64} {rs:List Int} (hl:rs.length=2^n) (hK:Ovr (2^n) K) (h:∀ w,w<2^n→(K.getLsbD w=true→rs.getD w 0=0)∧(¬ K.getLsbD w=true→1≤rs.getD w 0)):FitO n K (vocN n,normS rs):=by
 have hnl:(normS rs).length=2^n:=by rw[← hl];simp[normS]
 have hok:orderE (vocN n) (normS rs)=0:=by
  unfold orderE;rw[if_pos ⟨qzf hn,by rw[hnl,qw]⟩,if_pos (qhhb rs)]
 refine ⟨rfl,hok,hnl,fun hK0=>?_⟩
 have hp:=qhx rs;have hL:=qze hok;obtain ⟨u,hu⟩:=qag hK0;have hu2:=hK u hu;have hu0:=(h u hu2).1 hu
 have hle:∀ a b,a<2^n→b<2^n→((normS rs).getD a (-1)≤(normS rs).getD b (-1)↔rs.getD a 0≤rs.getD b 0):=fun a b ha hb=>by
  have e1:(normS rs).getD a (-1)=(normS rs).getD a 0:=by simp[show a<(normS rs).length by omega]
  have e2:(normS rs).getD b (-1)=(normS rs).getD b 0:=by simp[show b<(normS rs).length by omega]
  rw[e1,e2];have:=hp.2 b a (by omega) (by omega)
  constructor
  · intro h;exact Int.not_lt.1 fun hx=>by have:=this.2 hx;omega
  · intro h;exact Int.not_lt.1 fun hx=>by have:=this.1 hx;omega
 refine qbb fun w=>?_
 show has (leastS (vocN n) (normS rs) (BitVec.allOnes 64)) w↔has K w
 rw[hL.top,hnl]
 constructor
 · rintro ⟨h1,h2⟩;have h3:=(hle w u h1 hu2).1 (h2 u hu2);exact Classical.byContradiction fun hn=>by have:=(h w h1).2 hn;omega
 · intro hw;have hw2:=hK w hw;refine ⟨hw2,fun v hv=>(hle w v hw2 hv).2 ?_⟩
   have h1:=(h w hw2).1 hw
   by_cases hv2:K.getLsbD v=true
   · have:=(h v hv).1 hv2;omega
   · have:=(h v hv).2 hv2;omega
end Am

namespace Am
open Go
theorem qth {N k:Nat} (hN:N=2∨N=4) (hk:k<2^N):Ovr N (BitVec.ofNat 64 k):=fun w hw=>by
 have h1:(BitVec.ofNat 64 k).toNat=k:=by
  rw[BitVec.toNat_ofNat,Nat.mod_eq_of_lt];rcases hN with rfl|rfl<;>omega
 have h2:(BitVec.ofNat 64 k).getLsbD w=true:=hw;rw[BitVec.getLsbD,h1] at h2
 exact Classical.byContradiction fun hn=>by
  have:=Nat.testBit_lt_two_pow (x:=k) (i:=w) (Nat.lt_of_lt_of_le hk (Nat.pow_le_pow_right (by omega) (by omega)))
  rw[this] at h2;cases h2
structure FitL (n:Nat) (kind:Int) (os:List OO):Prop where
 len:os.length=wantN kind n
 fit:∀ i (h:i<os.length),FitO n (bse kind i) os[i]
def tabG (m:Nat) (G:Nat→Nat→BitVec 64):List (List Int):=(List.range m).map fun k=>(List.range m).map fun f=>((G k f).toNat:Int)
theorem qiub (kind:Int) (l:List OO) (N:Nat):mkT kind l N=tabG N (entB kind l N):=rfl
theorem qeqb (m:Nat) (G:Nat→Nat→BitVec 64):(tabG m G).length=m:=by simp[tabG]
theorem qbqb {m:Nat} {G:Nat→Nat→BitVec 64} {r:List Int} (h:r∈tabG m G):r.length=m:=by
 obtain ⟨k,_,rfl⟩:=List.mem_map.1 h;simp
theorem qfi {a:Int} (ha:a=1∨a=2) {G:Nat→Nat→BitVec 64} (h:∀ k f,k<szT a→f<szT a→(G k f).toNat<szT a):Vld a (tabG (szT a) G):=by
 refine ⟨ha,qeqb _ _,fun r hr=>qbqb hr,fun r hr x hx=>?_⟩
 obtain ⟨k,hk,rfl⟩:=List.mem_map.1 hr;obtain ⟨f,hf,rfl⟩:=List.mem_map.1 hx;have:=h k f (List.mem_range.1 hk) (List.mem_range.1 hf);exact ⟨by omega,by omega⟩
theorem qkt {m:Nat} {G:Nat→Nat→BitVec 64} {k f:BitVec 64} (hk:k.toNat<m) (hf:f.toNat<m):tOf (tabG m G) k f=G k.toNat f.toNat:=by
 unfold tOf tabG;simp[hk,hf]
theorem qwt {kind a:Int} {rows:List (List Int)} (h:∀ p k f g,1≤p→p≤(postN kind).1→k<szT a→f<szT a→g<szT a→hB kind a rows p k f g=true):bQ kind a rows=[]:=by
 refine List.eq_nil_iff_forall_not_mem.2 fun b hb=>?_
 obtain ⟨h1,h2,h3,h4,h5,_,h6⟩:=(qhu b).1 hb;rw[h _ _ _ _ h1 h2 h3 h4 h5] at h6;cases h6
theorem qpp {n:Nat} (hn:n=1∨n=2):szT (n:Int)=2^(2^n):=by rcases hn with rfl|rfl<;>rfl
theorem qed {x m:Nat} (h:x<m) (hm:m≤16):(BitVec.ofNat 64 x).toNat=x:=by
 rw[BitVec.toNat_ofNat];exact Nat.mod_eq_of_lt (by omega)
theorem qsi {n:Nat} (hn:n=1∨n=2):2^n=2∨2^n=4:=by rcases hn with rfl|rfl<;>simp
theorem anyI_true {q:Nat→OO→Bool}:∀ {l:List OO} {i:Nat},anyI q i l=true→∃ (j:Nat) (h:j<l.length),q (i+j) l[j]=true
 | [],i,h=>by simp[anyI] at h
 | o::l,i,h=>by
  simp only[anyI,Bool.or_eq_true] at h;rcases h with h|h
  · exact ⟨0,by simp,h⟩
  · obtain ⟨j,hj,h⟩:=anyI_true h;refine ⟨j+1,by simp;omega,?_⟩
    rw[show i+(j+1)=i+1+j by omega]
    simpa using h
theorem qep {n:Nat} {kind:Int} {os:List OO} (h:FitL n kind os) {i:Nat} (hi:i<os.length):FitO n (bse kind i) (os.getD i ([],[])):=by
 rw[List.getD_eq_getElem?_getD,List.getElem?_eq_getElem hi];exact h.fit i hi
theorem qltb {n:Nat} (hn:n=1∨n=2) {kind:Int} (hk:kind=1∨kind=2∨kind=3) {os:List OO} (h:FitL n kind os):mkE os kind=0∧nam0 os=vocN n∧MkO os kind:=by
 have hp:0<os.length:=by rw[h.len];unfold wantN;split<;>exact Nat.two_pow_pos _
 have hnam:nam0 os=vocN n:=(qep h hp).nm;have hk0:¬ (postN kind).1=0:=by rcases hk with rfl|rfl|rfl<;>decide
 have hany:os.any (badO (nam0 os))=false:=by
  rw[List.any_eq_false];intro o ho;obtain ⟨i,hi,rfl⟩:=List.getElem_of_mem ho;have hf:=h.fit i hi;have h1:¬ os[i].1.length<1:=by rw[hf.nm,qw];omega
  have h2:¬ os[i].1.length>2:=by rw[hf.nm,qw];omega
  have h3:os[i].1=nam0 os:=by rw[hf.nm,hnam]
  unfold badO;rw[decide_eq_true hf.ok,decide_eq_false h1,decide_eq_false h2,decide_eq_true h3];decide
 have hlen:os.length=wantN kind (nam0 os).length:=by rw[h.len,hnam,qw]
 have hb:¬ anyI (badB kind) 0 os=true:=fun hc=>by
  obtain ⟨j,hj,hc⟩:=anyI_true hc;rw[Nat.zero_add] at hc;unfold badB at hc;rw[Bool.and_eq_true,Bool.not_eq_true',Bool.not_eq_true',decide_eq_false_iff_not,decide_eq_false_iff_not] at hc;exact hc.2 ((h.fit j hj).bel hc.1)
 have hE:mkE os kind=0:=by
  unfold mkE;rw[if_neg hk0,if_neg (by omega),if_neg (by rw[hany];decide),if_neg (by simpa using hlen),if_neg hb]
 refine ⟨hE,hnam,?_⟩;rcases qukb os kind with c|c|c|c|c
 · omega
 · omega
 · omega
 · omega
 · exact c.1
theorem qyeb (l:List OO) (k f:BitVec 64):∀ (m w:Nat),has (uniU l k f m) w↔∃ v,v<m∧has k v∧has (leastS (l.getD v ([],[])).1 (l.getD v ([],[])).2 f) w
 | 0,w=>⟨fun h=>absurd h (by simp[uniU,has]),fun ⟨v,h,_⟩=>absurd h (by omega)⟩
 | m+1,w=>by
  have ih:=qyeb l k f m w
  have step:has (uniU l k f (m+1)) w↔has (uniU l k f m) w∨(has k m∧has (leastS (l.getD m ([],[])).1 (l.getD m ([],[])).2 f) w):=by
   by_cases hk:k.getLsbD m=true
   · simp only[uniU,if_pos hk,qdb];exact or_congr_right ⟨fun h=>⟨hk,h⟩,fun h=>h.2⟩
   · simp only[uniU,if_neg hk];exact ⟨.inl,fun h=>h.resolve_right fun h=>hk h.1⟩
  rw[step,ih]
  constructor
  · rintro (⟨v,h1,h2,h3⟩|⟨h2,h3⟩)
    · exact ⟨v,by omega,h2,h3⟩
    · exact ⟨m,by omega,h2,h3⟩
  · rintro ⟨v,h1,h2,h3⟩
    by_cases hv:v=m
    · subst hv;exact .inr ⟨h2,h3⟩
    · exact .inl ⟨v,by omega,h2,h3⟩
theorem allA {n:Nat} (hn:n=1∨n=2) (w:Nat):has (BitVec.ofNat 64 (szT (n:Int)-1)) w↔w<2^n:=by
 by_cases hw:w<64
 · rcases hn with rfl|rfl
   · have:∀ w,w<64→((BitVec.ofNat 64 (szT ((1:Nat):Int)-1)).getLsbD w=true↔w<2^1):=by decide +kernel
     exact this w hw
   · have:∀ w,w<64→((BitVec.ofNat 64 (szT ((2:Nat):Int)-1)).getLsbD w=true↔w<2^2):=by decide +kernel
     exact this w hw
 · have:2^n≤4:=by rcases hn with rfl|rfl<;>decide
   exact ⟨fun h=>absurd (qst h) hw,fun h=>by omega⟩
theorem comA {n:Nat} (hn:n=1∨n=2) {f:Nat} (hf:f<szT (n:Int)):BitVec.ofNat 64 (2^(2^n)-1-f)=BitVec.ofNat 64 (szT (n:Int)-1) &&& ~~~BitVec.ofNat 64 f:=by
 rcases hn with rfl|rfl
 · have:∀ f,f<4→BitVec.ofNat 64 (2^(2^1)-1-f)=BitVec.ofNat 64 (szT ((1:Nat):Int)-1) &&& ~~~BitVec.ofNat 64 f:=by decide +kernel
   exact this f hf
 · have:∀ f,f<16→BitVec.ofNat 64 (2^(2^2)-1-f)=BitVec.ofNat 64 (szT ((2:Nat):Int)-1) &&& ~~~BitVec.ofNat 64 f:=by decide +kernel
   exact this f hf
theorem qoh (x:BitVec 64):BitVec.ofNat 64 x.toNat=x:=by simp
theorem qigb {n:Nat} (hn:n=1∨n=2) {kind:Int} (hk:kind=1∨kind=2∨kind=3) {os:List OO} (h:FitL n kind os):Vld (n:Int) (mkT kind os (2^(2^n)))∧bQ kind (n:Int) (mkT kind os (2^(2^n)))=[]:=by
 obtain ⟨hE,hnam,hM⟩:=qltb hn hk h;have hsz:=qpp hn;have hN4:2^n≤4:=by rcases hn with rfl|rfl<;>decide
 have h16:2^(2^n)≤16:=by rcases hn with rfl|rfl<;>decide
 have hov:∀ o∈os,∀ S,Ovr (2^n) (leastS o.1 o.2 S):=fun o ho S=>by have:=hM.ov ho S;rwa [hnam,qw] at this
 have ovn:∀ {k:Nat},k<2^(2^n)→Ovr (2^n) (BitVec.ofNat 64 k):=fun hk=>qth (qsi hn) hk
 have ovlt:∀ {x:BitVec 64},Ovr (2^n) x→x.toNat<szT (n:Int):=fun hx=>by rw[hsz];exact qhv hx
 have memD:∀ {i:Nat},i<os.length→os.getD i ([],[])∈os:=fun {i} hi=>by
  rw[List.getD_eq_getElem?_getD,List.getElem?_eq_getElem hi];exact List.getElem_mem hi
 have hlst:∀ {i:Nat},i<os.length→Lst (2^n) (fun w=>(os.getD i ([],[])).2.getD w (-1)) (leastS (os.getD i ([],[])).1 (os.getD i ([],[])).2):=fun {i} hi=>by
  have:=qze (qep h hi).ok
  rwa [(qep h hi).len] at this
 have hfit:∀ {i:Nat},i<os.length→Fit (bse kind i) (leastS (os.getD i ([],[])).1 (os.getD i ([],[])).2):=fun {i} hi=>(qep h hi).bel
 rw[qiub];rw[← hsz];rcases hk with rfl|rfl|rfl
 · have hlen:os.length=szT (n:Int):=by rw[h.len,hsz];rfl
   refine ⟨qfi (by rcases hn with rfl|rfl<;>decide) fun k f hk hf=>ovlt ?_,qwt fun p k f g _ _ hk hf hg=>?_⟩
   · exact hov _ (memD (by omega)) _
   · have k64:=qed hk (qn _);have hf':=hfit (i:=k) (by omega)
     have:bse 1 k=BitVec.ofNat 64 k:=rfl;rw[this] at hf'
     exact qly (hlst (i:=k) (by omega)) hf' (fun x hx=>by
      rw[qkt (by rw[k64];exact hk) (ovlt hx)]
      unfold entB;rw[if_pos rfl,k64,qoh]) (ovn (by rw[← hsz];exact hf)) p
 · have hlen:os.length=szT (n:Int):=by rw[h.len,hsz];rfl
   refine ⟨qfi (by rcases hn with rfl|rfl<;>decide) fun k f hk hf=>?_,qwt fun p k f g _ _ hk hf hg=>?_⟩
   · unfold entB;rw[if_neg (by decide),if_pos rfl]
     exact qfhb (by rw[qed hk (qn _)];exact hk) (ovlt (hov _ (memD (by omega)) _))
   · have k64:=qed hk (qn _);have hf':=hfit (i:=k) (by omega)
     have:bse 2 k=BitVec.ofNat 64 k:=rfl;rw[this] at hf'
     exact qkmb (hlst (i:=k) (by omega)) (allA hn) hf' (fun x hx=>by
      rw[qkt (by rw[k64];exact hk) (ovlt hx)]
      unfold entB;rw[if_neg (by decide),if_pos rfl,k64]
      have:=comA hn (ovlt hx);rw[← hsz,qoh] at this;rw[this]) (ovn (by rw[← hsz];exact hf)) (ovn (by rw[← hsz];exact hg)) p
 · have hlen:os.length=2^n:=by rw[h.len];rfl
   refine ⟨qfi (by rcases hn with rfl|rfl<;>decide) fun k f hk hf=>ovlt ?_,qwt fun p k f g _ _ hk hf hg=>?_⟩
   · unfold entB;rw[if_neg (by decide),if_neg (by decide)]
     exact qvgb hov _ _ _ (Nat.le_refl _)
   · refine qxnb (N:=2^n) (r:=fun i w=>(os.getD i ([],[])).2.getD w (-1)) (L:=fun i=>leastS (os.getD i ([],[])).1 (os.getD i ([],[])).2) (fun v hv=>hlst (by omega)) (fun v hv w=>?_) (fun k f hk hf w=>?_) hN4 (ovn (by rw[← hsz];exact hk)) (ovn (by rw[← hsz];exact hf)) (ovn (by rw[← hsz];exact hg)) p
     · have h1:=hfit (i:=v) (by omega)
       have h2:bse 3 v=1#64 <<< v:=rfl;rw[h2] at h1
       have h3:∀ w,has (1#64 <<< v) w↔w=v:=fun w=>by
        rw[has,qeb _ _ (by omega)];simp
       have h4:(1#64 <<< v)≠0#64:=quc ((h3 v).2 rfl);rw[h1 h4];exact h3 w
     · rw[qkt (ovlt hk) (ovlt hf)];unfold entB;rw[if_neg (by decide),if_neg (by decide),qoh,qoh,qyeb,hlen]
def dstT (n:Nat) (d:Int):List (List Int):=tabG (2^(2^n)) fun k f=>unionS (2^n) (BitVec.ofNat 64 k) (BitVec.ofNat 64 f) d
theorem qzub {n:Nat} (hn:n=1∨n=2) {d:Int} (d1:1≤d) (d3:d≤3):Vld (n:Int) (dstT n d)∧bQ 3 (n:Int) (dstT n d)=[]∧(cntV 5 (bQ 1 (n:Int) (dstT n d))).getD 0 0=0∧(n=1∨(cntV 5 (bQ 1 (n:Int) (dstT n d))).getD 1 0>0):=by
 have hsz:=qpp hn;have hN4:2^n≤64:=by rcases hn with rfl|rfl<;>decide
 have ovn:∀ {k:Nat},k<2^(2^n)→Ovr (2^n) (BitVec.ofNat 64 k):=fun hk=>qth (qsi hn) hk
 have ovlt:∀ {x:BitVec 64},Ovr (2^n) x→x.toNat<szT (n:Int):=fun hx=>by rw[hsz];exact qhv hx
 have hv:Vld (n:Int) (dstT n d):=by
  unfold dstT;rw[← hsz];exact qfi (by rcases hn with rfl|rfl<;>decide) fun k f hk hf=>ovlt fun w hw=>(qml hN4 hw).2
 have ht:∀ k f,Ovr (2^n) k→Ovr (2^n) f→tOf (dstT n d) k f=unionS (2^n) k f d:=fun k f hk hf=>by
  unfold dstT;rw[qkt (qhv hk) (qhv hf),qoh,qoh]
 refine ⟨hv,qwt fun p k f g _ _ hk hf hg=>?_,?_,?_⟩
 · exact qiib hN4 d1 d3 ht (ovn (by rw[← hsz];exact hk)) (ovn (by rw[← hsz];exact hf)) (ovn (by rw[← hsz];exact hg)) p
 · rw[List.getD_eq_getElem?_getD,qyy _ (by decide),Option.getD_some]
   rw[List.countP_eq_zero.2]
   · rfl
   intro b hb hb1;obtain ⟨h1,h2,h3,h4,h5,h6,h7⟩:=(qhu b).1 hb;have hb1:b.1=1:=by simpa using hb1
   rw[hb1] at h7;unfold hB holdsB at h7;rw[if_pos rfl,qxqb,ht _ _ (ovn (by rw[← hsz];exact h3)) (ovn (by rw[← hsz];exact h4))] at h7
   have:subB (unionS (2^n) (BitVec.ofNat 64 b.2.1) (BitVec.ofNat 64 b.2.2.1) d) (BitVec.ofNat 64 b.2.2.1)=true:=decide_eq_true (upd1 hN4);rw[this] at h7;cases h7
 · rcases hn with rfl|rfl
   · exact .inl rfl
   · right
     rw[List.getD_eq_getElem?_getD,qyy _ (by decide),Option.getD_some]
     have hm:((2,9,3,0):Brc)∈bQ 1 ((2:Nat):Int) (dstT 2 d):=by
      refine (qhu _).2 ⟨by decide,by decide,by decide,by decide,by decide,fun _=>rfl,?_⟩
      unfold hB holdsB;rw[if_pos rfl]
      show revT _ 2 _ _ _=false
      rw[qlsb,ht _ _ (ovn (by decide)) (ovn (by decide))]
      rcases (by omega:d=1∨d=2∨d=3) with rfl|rfl|rfl<;>decide +kernel
     have:=List.countP_pos_iff (p:=fun b:Brc=>decide (b.1=1+1)).2 ⟨_,hm,rfl⟩
     omega
end Am

namespace Am
open Go
def cR (kind:Int) (A:BitVec 64) (t:Tbl) (k:BitVec 64) (S:BitVec 64):BitVec 64:=if kind=2 then t k (A &&& ~~~S) else t k S
def alA (a:Int):BitVec 64:=BitVec.ofNat 64 (szT a-1)
def ordR (kind a:Int) (rows:List (List Int)) (i:Nat):Option (List Int):=lvlR (cR kind (alA a) (tOf rows) (BitVec.ofNat 64 i)) (2^a.toNat) 0 (alA a) (List.replicate (2^a.toNat) 0)
def ordO (kind a:Int) (rows:List (List Int)) (names:List (List UInt8)):List OO:=(List.range (szT a)).map fun i=>(names,normS ((ordR kind a rows i).getD []))
def ordB (kind a:Int) (rows:List (List Int)) (names:List (List UInt8)):Bool:=(List.range (szT a)).all (fun i=>(ordR kind a rows i).isSome)&&(decide (mkE (ordO kind a rows names) kind=0)&&decide (mkT kind (ordO kind a rows names) (2^(2^(nam0 (ordO kind a rows names)).length))=rows))
section
variable {n:Nat} (hn:n=1∨n=2) {kind:Int} (hk:kind=1∨kind=2)
include hn
end
section
variable {n:Nat} (hn:n=1∨n=2) {kind:Int} (hk:kind=1∨kind=2) {rows:List (List Int)} (hv:Vld n rows) (hq:bQ kind n rows=[])
include hn hk hv hq
end
end Am

namespace Am
open Go
end Am

namespace Am
open Go
section
variable (kind a:Int) (rows:List (List Int)) (fst N:Nat)
end
def ren (nm:List (List UInt8)) (os:List OO):List OO:=os.map fun o=>(nm,o.2)
section
variable {nm nm':List (List UInt8)} (h1:vocOk nm=true) (h2:vocOk nm' = true) (hl:nm.length=nm'.length) {os:List OO} (hos:∀ o∈os,o.1=nm)
include h1 h2 hl hos
end
section
variable {n:Nat} (hn:n=1∨n=2) {kind:Int} (hk:kind=1∨kind=2)
include hn hk
end
end Am

namespace Am
open Go
theorem qawb {n:Nat} (hn:n=1∨n=2) {L:Nat→BitVec 64→BitVec 64} {r:Nat→Nat→Int} (hL:∀ k,k<szT (n:Int)→Lst (2^n) (r k) (L k)) (hF:∀ k,k<szT (n:Int)→Fit (BitVec.ofNat 64 k) (L k)) :
 Vld (n:Int) (tabG (szT (n:Int)) fun k f=>L k (BitVec.ofNat 64 f))∧bQ 1 (n:Int) (tabG (szT (n:Int)) fun k f=>L k (BitVec.ofNat 64 f))=[]:=by
 have hsz:=qpp hn;have h16:=qn (n:Int);have ovn:∀ {k:Nat},k<szT (n:Int)→Ovr (2^n) (BitVec.ofNat 64 k):=fun hk=>qth (qsi hn) (by rw[← hsz];exact hk)
 have ovlt:∀ {x:BitVec 64},Ovr (2^n) x→x.toNat<szT (n:Int):=fun hx=>by rw[hsz];exact qhv hx
 refine ⟨qfi (by rcases hn with rfl|rfl<;>decide) fun k f hk hf=>ovlt fun w hw=>(((hL k hk).get _ w).1 hw).1,qwt fun p k f g _ _ hk hf hg=>?_⟩
 have k64:=qed hk h16;exact qly (hL k hk) (hF k hk) (fun x hx=>by rw[qkt (by rw[k64];exact hk) (ovlt hx),k64,qoh]) (ovn hf) p
theorem qemb (N:Nat) (hN:N≤64) (A:BitVec 64) (hA:∀ w,has A w↔w<N):Lst N (fun _=>0) (fun S=>S&&&A):=
 ⟨hN,fun S w=>by
  rw[qo,hA];exact ⟨fun h=>⟨h.2,h.1,fun _ _ _=>Int.le_refl _⟩,fun h=>⟨h.2.1,h.1⟩⟩⟩
end Am

namespace Am
open Go
structure NearBy (P:Nat→Nat→Prop) (D:Nat→Nat→Nat) (b:Nat) (X:BitVec 64):Prop where
 le:∀ z v,P z v→b≤D z v
 hit:b=100∨∃ z v,P z v∧D z v=b
 mem:∀ z,has X z↔∃ v,P z v∧D z v=b
theorem NearBy.nil {P:Nat→Nat→Prop} (D:Nat→Nat→Nat) (h:∀ z v,¬ P z v):NearBy P D 100 0#64:=
 ⟨fun z v p=>absurd p (h z v),.inl rfl,fun z=>⟨fun hz=>by simp[has] at hz,fun ⟨v,p,_⟩=>absurd p (h z v)⟩⟩
theorem NearBy.congr {P Q:Nat→Nat→Prop} {D:Nat→Nat→Nat} {b:Nat} {X:BitVec 64} (h:NearBy P D b X) (e:∀ z v,P z v↔Q z v):NearBy Q D b X:=by
 have:P=Q:=funext fun z=>funext fun v=>propext (e z v)
 exact this ▸ h
theorem qseb {w z:Nat} (hw:w<64):has (1#64 <<< w) z↔z=w:=by
 rw[has,qeb _ _ hw];simp
theorem NearBy.lt {P:Nat→Nat→Prop} {D:Nat→Nat→Nat} {b:Nat} {X:BitVec 64} (h:NearBy P D b X) {w u:Nat} (hw:w<64) (hd:D w u<b):NearBy (fun z v=>P z v∨(z=w∧v=u)) D (D w u) (1#64 <<< w):=by
 refine ⟨fun z v p=>?_,.inr ⟨w,u,.inr ⟨rfl,rfl⟩,rfl⟩,fun z=>?_⟩
 · rcases p with p|⟨rfl,rfl⟩
   · have:=h.le z v p;omega
   · exact Nat.le_refl _
 · rw[qseb hw]
   constructor
   · rintro rfl;exact ⟨u,.inr ⟨rfl,rfl⟩,rfl⟩
   · rintro ⟨v,p|⟨rfl,_⟩,e⟩
     · have:=h.le z v p;omega
     · rfl
theorem NearBy.eq {P:Nat→Nat→Prop} {D:Nat→Nat→Nat} {b:Nat} {X:BitVec 64} (h:NearBy P D b X) {w u:Nat} (hw:w<64) (hd:D w u=b):NearBy (fun z v=>P z v∨(z=w∧v=u)) D b (X|||1#64 <<< w):=by
 refine ⟨fun z v p=>?_,.inr ⟨w,u,.inr ⟨rfl,rfl⟩,hd⟩,fun z=>?_⟩
 · rcases p with p|⟨rfl,rfl⟩
   · exact h.le z v p
   · omega
 · rw[qdb,qseb hw,h.mem]
   constructor
   · rintro (⟨v,p,e⟩|rfl)
     · exact ⟨v,.inl p,e⟩
     · exact ⟨u,.inr ⟨rfl,rfl⟩,hd⟩
   · rintro ⟨v,p|⟨rfl,_⟩,e⟩
     · exact .inl ⟨v,p,e⟩
     · exact .inr rfl
def DownTo (i:Nat) (s:List Int):Prop:=∀ a b,a<i→a<b→b<s.length→s.getD b 0≤s.getD a 0
theorem quk {t:List Int} {i k:Nat} (hi:i<t.length) (hk:k<t.length) (b:Nat):((t.set i t[k]).set k t[i]).getD b 0=if b=k then t.getD i 0 else if b=i then t.getD k 0 else t.getD b 0:=by
 simp only[List.getD_eq_getElem?_getD,List.getElem?_set,List.length_set]
 by_cases h1:b=k
 · subst h1;simp[hk,hi]
 · by_cases h2:b=i
   · subst h2;simp[Ne.symm h1,h1,hk,hi]
   · simp[Ne.symm h1,Ne.symm h2,h1,h2]
structure InnerTo (v:List Int) (i k:Nat) (s t:List Int):Prop where
 perm:t.Perm v
 down:DownTo i t
 top:∀ b,i<b→b<k→t.getD b 0≤t.getD i 0
 take:t.take i=s.take i
theorem InnerTo.keep {v s t:List Int} {i k:Nat} (h:InnerTo v i k s t) (hle:t.getD k 0≤t.getD i 0):InnerTo v i (k+1) s t:=
 ⟨h.perm,h.down,fun b h1 h2=>by
  by_cases e:b=k
  · subst e;exact hle
  · exact h.top b h1 (by omega),h.take⟩
theorem InnerTo.swap {v s t:List Int} {i k:Nat} (h:InnerTo v i k s t) (hik:i<k) (hi:i<t.length) (hk:k<t.length) (hgt:t.getD i 0<t.getD k 0):InnerTo v i (k+1) s ((t.set i t[k]).set k t[i]):=by
 refine ⟨(List.set_set_perm hi hk).trans h.perm,fun a b ha hab hb=>?_,fun b h1 h2=>?_,?_⟩
 · rw[quk hi hk,quk hi hk];simp only[List.length_set] at hb;rw[if_neg (show ¬ a=k by omega),if_neg (show ¬ a=i by omega)]
   split
   · exact h.down a i ha ha hi
   split
   · exact h.down a k ha (by omega) hk
   · exact h.down a b ha hab hb
 · rw[quk hi hk,quk hi hk];rw[if_neg (show ¬ i=k by omega),if_pos rfl]
   split
   · omega
   rw[if_neg (by omega)]
   have:=h.top b h1 (by omega)
   omega
 · rw[List.take_set_of_le (by omega),List.take_set_of_le (by omega)];exact h.take
theorem InnerTo.done {v s t:List Int} {i:Nat} (h:InnerTo v i t.length s t):DownTo (i+1) t:=fun a b ha hab hb=>by
 by_cases e:a=i
 · subst e;exact h.top b hab hb
 · exact h.down a b (by omega) hab hb
end Am

namespace Am
open Go
end Am

namespace Am
open Go
structure TS (n N m:Nat) (os:List OO):Prop where
 hn:n=1∨n=2
 hN:N=2^n
 hm:m=2^N
 len:os.length=m
 fit:∀ i (h:i<os.length),FitO n (BitVec.ofNat 64 i) os[i]
def entW (n wh:Nat) (os:List OO) (d:Int) (k i:Nat):BitVec 64:=
 if wh=0 then leastS (os.getD k ([],[])).1 (os.getD k ([],[])).2 (BitVec.ofNat 64 i)
 else if wh=1 then beliefsS (os.getD k ([],[])).1 (os.getD k ([],[])).2|||leastS (os.getD k ([],[])).1 (os.getD k ([],[])).2 (allS (os.getD k ([],[])).1 &&& ~~~BitVec.ofNat 64 i)
 else if wh=2 then unionS (2^n) (BitVec.ofNat 64 k) (BitVec.ofNat 64 i) d
 else if k=0 then BitVec.ofNat 64 i
 else mrgS n [BitVec.ofNat 64 k] 1 (BitVec.ofNat 64 i)
def entF (n m wh:Nat) (os:List OO) (d:Int) (k i:Nat):BitVec 64:=if wh=1∧k=0 then leastS (os.getD 0 ([],[])).1 (os.getD 0 ([],[])).2 (BitVec.ofNat 64 (m-1-i)) else entW n wh os d k i
def kdT (w:Nat):Int:=if w=1 then 2 else if w=2 then 3 else 1
theorem qiy {n:Nat} (hn:n≤6) {K:BitVec 64} (hK:∀ w,has K w→w<2^n) (h0:K≠0#64):Lst (2^n) (fun w=>(dsS (2^n) K w:Int)) (mrgS n [K] 1)∧Fit K (mrgS n [K] 1):=by
 have key:∀ w,scoreS 1 (vecS (2^n) [K] 1 w)=(dsS (2^n) K w:Int):=fun w=>by simp[scoreS,vecS,sumF,entS]
 have hL:Lst (2^n) (fun w=>(dsS (2^n) K w:Int)) (mrgS n [K] 1):=⟨pow6 hn,fun S w=>by
  rw[qugb hn];simp only[key]⟩
 refine ⟨hL,fun _=>qbb fun w=>?_⟩
 have h64:=pow6 hn;obtain ⟨u,hu⟩:=qag h0;have hu':=hK u hu;have hz:∀ w,w<2^n→(dsS (2^n) K w=0↔has K w):=fun w hw=>quob h64 hu' hu hw
 have hall:∀ w,w<2^n→has (BitVec.allOnes 64) w:=fun w hw=>by
  have:w<64:=by omega
  show (BitVec.allOnes 64).getLsbD w=true
  rw[BitVec.getLsbD_allOnes];exact decide_eq_true this
 rw[hL.get]
 constructor
 · rintro ⟨h1,_,h3⟩;have h4:=h3 u hu' (hall u hu');rw[(hz u hu').2 hu] at h4;exact (hz w h1).1 (by omega)
 · intro hw;have hw':=hK w hw;refine ⟨hw',hall w hw',fun v _ _=>?_⟩
   rw[(hz w hw').2 hw];omega
section
variable {n N m wh:Nat} {os:List OO} {d:Int} (h:TS n N m os)
include h
theorem TS.sz:szT (n:Int)=m:=by rw[h.hm,h.hN];exact qpp h.hn
theorem TS.ov {k:Nat} (hk:k<m):Ovr N (BitVec.ofNat 64 k):=by
 have:=qth (N:=N) (k:=k) (by rw[h.hN];exact qsi h.hn) (by rw[← h.hm];exact hk)
 exact this
theorem TS.lt {x:BitVec 64} (hx:Ovr N x):x.toNat<m:=by rw[h.hm];exact qhv hx
theorem TS.at_ {k:Nat} (hk:k<m):FitO n (BitVec.ofNat 64 k) (os.getD k ([],[])):=by
 have hl:k<os.length:=by rw[h.len];exact hk
 have:=h.fit k hl
 rwa [List.getD_eq_getElem?_getD,List.getElem?_eq_getElem hl]
theorem TS.least {k:Nat} (hk:k<m) (S:BitVec 64):Ovr N (leastS (os.getD k ([],[])).1 (os.getD k ([],[])).2 S):=by
 have hf:=h.at_ hk;have:=quy hf.ok S;rw[hf.nm,qw] at this;rw[h.hN,hf.nm];exact this
theorem TS.all {k:Nat} (hk:k<m):allS (os.getD k ([],[])).1=BitVec.ofNat 64 (m-1):=by
 have hf:=h.at_ hk;refine qbb fun w=>?_
 have h1:=qsvb hf.ok w;have h2:=allA h.hn w;rw[h.sz] at h2;rw[h1,h2,hf.len]
theorem TS.com {i:Nat} (hi:i<m):BitVec.ofNat 64 (m-1-i)=BitVec.ofNat 64 (m-1) &&& ~~~BitVec.ofNat 64 i:=by
 have:=comA h.hn (f:=i) (by rw[h.sz];exact hi)
 rw[h.sz,← h.hN,← h.hm] at this;exact this
theorem TS.entF {k i:Nat} (hw:wh=1) (hk:k<m) (hi:i<m):entF n m wh os d k i=entB 2 os m k i:=by
 have e2:entB 2 os m k i=BitVec.ofNat 64 k|||leastS (os.getD k ([],[])).1 (os.getD k ([],[])).2 (BitVec.ofNat 64 (m-1-i)):=by unfold entB;rw[if_neg (by decide),if_pos rfl]
 rw[e2];unfold Am.entF;have hf:=h.at_ hk
 by_cases hk0:k=0
 · subst hk0;rw[if_pos ⟨hw,rfl⟩];simp
 · rw[if_neg (fun x=>hk0 x.2)]
   unfold entW;rw[if_neg (by omega),if_pos hw,h.all hk,← h.com hi]
   have h0:BitVec.ofNat 64 k≠0#64:=fun e=>by
    have:=qed hk (by rw[← h.sz];exact qn _)
    rw[e] at this;simp at this;omega
   rw[hf.bel h0]
theorem TS.n0 {k:Nat} (hk:k<m) (h0:k≠0):BitVec.ofNat 64 k≠0#64:=fun e=>by
 have:=qed hk (by rw[← h.sz];exact qn _)
 rw[e] at this;simp at this;omega
theorem TS.entLt {k i:Nat} (hk:k<m) (hi:i<m):(entW n wh os d k i).toNat<m:=by
 have hn6:n≤6:=by have:=h.hn;omega
 unfold entW
 by_cases h0:wh=0
 · rw[if_pos h0];exact h.lt (h.least hk _)
 rw[if_neg h0]
 by_cases h1:wh=1
 · rw[if_pos h1];have a1:=h.lt (h.least hk (allS (os.getD k ([],[])).1 &&& ~~~BitVec.ofNat 64 i));have a2:(beliefsS (os.getD k ([],[])).1 (os.getD k ([],[])).2).toNat<m:=h.lt (h.least hk _);rw[← h.sz] at a1 a2 ⊢;exact qfhb a2 a1
 rw[if_neg h1]
 by_cases h2:wh=2
 · rw[if_pos h2]
   exact h.lt fun w hw=>by
    have:=(qml (pow6 hn6) hw).2;rw[h.hN];exact this
 rw[if_neg h2]
 by_cases h3:k=0
 · rw[if_pos h3];exact h.lt (h.ov hi)
 rw[if_neg h3]
 exact h.lt fun w hw=>by
  have:=((qugb hn6).1 hw).1;rw[h.hN];exact this
theorem TS.thy {i:Nat} (hi:i<m):(thy (vocN n) (BitVec.ofNat 64 i)).size≤256∧modelsE (vocN n) (thy (vocN n) (BitVec.ofNat 64 i))=0∧modelsS (vocN n) (thy (vocN n) (BitVec.ofNat 64 i))=BitVec.ofNat 64 i:=by
 have hn6:n≤6:=by have:=h.hn;omega
 have hv:=qzf hn6;have hm:=qubb hv (BitVec.ofNat 64 i);rw[qswb hn6 (fun w hw=>by have:=h.ov hi w hw;rw[h.hN] at this;exact this)] at hm
 refine ⟨?_,hm⟩;have:=(qgs (qhd hv) (BitVec.ofNat 64 i)).2.1;rw[qw] at this;rcases h.hn with rfl|rfl<;>omega
theorem TS.vl {k:Nat} (hk:k<m):(os.getD k ([],[])).1.length<1000000000∧(os.getD k ([],[])).2.length<1000000000:=by
 have hf:=h.at_ hk;have hn6:n≤6:=by have:=h.hn;omega
 rw[hf.nm,hf.len,qw];have:=pow6 hn6;omega
theorem TS.tab (hw4:wh<4) (d1:1≤d) (d3:d≤3):Vld (n:Int) (tabG m (Am.entF n m wh os d))∧bQ (kdT wh) (n:Int) (tabG m (Am.entF n m wh os d))=[]:=by
 have cong:∀ {A B:Nat→Nat→BitVec 64},(∀ k i,k<m→i<m→A k i=B k i)→tabG m A=tabG m B:=fun {A B} hAB=>by
  unfold tabG;refine List.map_congr_left fun k hk=>List.map_congr_left fun i hi=>?_
  rw[hAB k i (List.mem_range.1 hk) (List.mem_range.1 hi)]
 have hn6:n≤6:=by have:=h.hn;omega
 have hF:∀ kind:Int,kind≠3→FitL n kind os:=fun kind hk=>⟨by rw[h.len,h.hm,h.hN];unfold wantN;rw[if_neg hk],fun i hi=>by unfold bse;rw[if_neg hk];exact h.fit i hi⟩
 by_cases w0:wh=0
 · subst w0;have:=qigb h.hn (.inl rfl) (hF 1 (by decide))
   rw[← h.hN,← h.hm,qiub] at this
   rwa [cong (B:=entB 1 os m) fun k i hk hi=>by unfold Am.entF entW entB;rw[if_neg (by omega),if_pos rfl,if_pos rfl]]
 by_cases w1:wh=1
 · subst w1;have:=qigb h.hn (.inr (.inl rfl)) (hF 2 (by decide))
   rw[← h.hN,← h.hm,qiub] at this
   rwa [cong (B:=entB 2 os m) fun k i hk hi=>h.entF rfl hk hi]
 by_cases w2:wh=2
 · subst w2;obtain ⟨t1,t2,_⟩:=qzub h.hn d1 d3;rw[dstT,← h.hN,← h.hm] at t1 t2;rw[cong (B:=fun k f=>unionS N (BitVec.ofNat 64 k) (BitVec.ofNat 64 f) d) fun k i hk hi=>by unfold Am.entF entW;rw[if_neg (by omega),if_neg (by decide),if_neg (by decide),if_pos rfl,h.hN]]
   exact ⟨t1,t2⟩
 obtain rfl:wh=3:=by omega
 have key:=qawb h.hn (L:=fun k f=>if k=0 then f&&&BitVec.ofNat 64 (m-1) else mrgS n [BitVec.ofNat 64 k] 1 f) (r:=fun k=>if k=0 then fun _=>0 else fun w=>(dsS (2^n) (BitVec.ofNat 64 k) w:Int))
  (fun k hk=>by
   rw[h.sz] at hk
   by_cases k0:k=0
   · simp only[k0,if_true];exact qemb _ (pow6 hn6) _ fun w=>by have:=allA h.hn w;rwa [h.sz] at this
   · simp only[k0,if_false];exact (qiy hn6 (fun w hw=>by have:=h.ov hk w hw;rw[h.hN] at this;exact this) (h.n0 hk k0)).1)
  (fun k hk=>by
   rw[h.sz] at hk
   by_cases k0:k=0
   · subst k0;exact fun x=>absurd rfl x
   · simp only[k0,if_false];exact (qiy hn6 (fun w hw=>by have:=h.ov hk w hw;rw[h.hN] at this;exact this) (h.n0 hk k0)).2)
 rw[h.sz] at key
 rwa [cong (B:=fun k f=>if k=0 then BitVec.ofNat 64 f&&&BitVec.ofNat 64 (m-1) else mrgS n [BitVec.ofNat 64 k] 1 (BitVec.ofNat 64 f)) fun k i hk hi=>by
  unfold Am.entF entW;rw[if_neg (by omega),if_neg (by decide),if_neg (by decide),if_neg (by decide)]
  by_cases k0:k=0
  · rw[if_pos k0,if_pos k0];refine qbb fun w=>?_
    rw[qo];have a1:=allA h.hn w;rw[h.sz] at a1;rw[a1];exact ⟨fun x=>⟨x,by have:=h.ov hi w x;rw[h.hN] at this;exact this⟩,fun x=>x.1⟩
  · rw[if_neg k0,if_neg k0]]
end
end Am
