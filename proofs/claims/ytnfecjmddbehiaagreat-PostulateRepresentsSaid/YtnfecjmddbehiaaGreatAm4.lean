/- The abstract machine and its reader: lemmas. -/
import Derived.Test.YtnfecjmddbehiaaGreatAmEv
import Derived.Lib.SlicesCompact
set_option linter.unusedSimpArgs false
set_option linter.unusedVariables false
set_option linter.unusedSectionVars false
namespace Am
open Go
def iteD (d : D) (x y : Option (List D)) : Option (List D):=match d with | .bool true=>x | .bool false=>y | _=>none
def opD (o : Option (List D)) (k : List D→Option (List D)) : Option (List D):=match o with | some outs=>k outs | none=>none
def jumpD (f : Option PF) (a : List D) : Option (List D):=match f with | some f=>f a | none=>none
theorem iteD_b (t : Bool) (x y : Option (List D)) : iteD (.bool t) x y=if t=true then x else y:=by cases t <;> rfl
theorem opD_some (o : List D) (k : List D→Option (List D)) : opD (some o) k=k o:=rfl
theorem jumpD_some (f : PF) (a : List D) : jumpD (some f) a=f a:=rfl
variable {R : Nat→PF} {e : Env} {J : List PF}
theorem den_op (p : PO) (args : List SA) (k : IR) : den R (.op p args k) e J=opD (p.eval (args.map (·.val e))) (fun o=>den R k (e++o) J):=by
 simp only [den]; rfl
theorem den_ite (c : SA) (a b : IR) : den R (.ite c a b) e J=iteD (c.val e) (den R a e J) (den R b e J):=by
 simp only [den]; rfl
theorem den_letj (n : Nat) (body rest : IR) : den R (.letj n body rest) e J=den R body e (J++[fun vs=>den R rest (e++vs) J]):=by
 simp only [den]
theorem den_loop (n : Nat) (init : List SA) (body : IR) : den R (.loop n init body) e J=fixO (fun L vs=>den R body (e++vs) (J++[L])) (init.map (·.val e)):=by
 simp only [den]
theorem den_jump (j : Nat) (args : List SA) : den R (.jump j args) e J=jumpD J[j]? (args.map (·.val e)):=by
 simp only [den]; rfl
theorem den_ret (args : List SA) : den R (.ret args) e J=some (args.map (·.val e)):=by
 simp only [den]
theorem loop_run {run : Nat→PF} {body : IR} {e : Env} {J : List PF} {ι : Type} (μ : ι→Nat) (Pre : ι→Prop) (a r : ι→List D)
 (step : ∀ (x : ι) (L : PF),Pre x→(∀ y,Pre y→μ y<μ x→L (a y)=some (r y))→den run body (e++a x) (J++[L])=some (r x)) :
 ∀ x,Pre x→fixO (fun L vs=>den run body (e++vs) (J++[L])) (a x)=some (r x):=by
 have key : ∀ n x,μ x<n→Pre x→fixO (fun L vs=>den run body (e++vs) (J++[L])) (a x)=some (r x):=by
  intro n
  induction n with
  | zero=>intro x h; omega
  | succ n ih=>intro x hx hp; exact fix_of (step x _ hp (fun y hy hlt=>ih y (by omega) hy))
 exact fun x hp=>key _ x (Nat.lt_succ_self _) hp
theorem loop_ex {run : Nat→PF} {body : IR} {e : Env} {J : List PF} {ι : Type} (μ : ι→Nat) (Pre : ι→Prop) (a : ι→List D) (Post : List D→Prop)
 (step : ∀ (x : ι) (L : PF),Pre x→(∀ y,Pre y→μ y<μ x→∃ r,L (a y)=some r∧Post r)→∃ r,den run body (e++a x) (J++[L])=some r∧Post r) :
 ∀ x,Pre x→∃ r,fixO (fun L vs=>den run body (e++vs) (J++[L])) (a x)=some r∧Post r:=by
 have key : ∀ n x,μ x<n→Pre x→∃ r,fixO (fun L vs=>den run body (e++vs) (J++[L])) (a x)=some r∧Post r:=by
  intro n
  induction n with
  | zero=>intro x h; omega
  | succ n ih=>
   intro x hx hp
   obtain ⟨r,h1,h2⟩:=step x _ hp (fun y hy hlt=>ih y (by omega) hy)
   exact ⟨r,fix_of h1,h2⟩
 exact fun x hp=>key _ x (Nat.lt_succ_self _) hp
theorem ev_binI (op : BinOp) (tb : Bool) (k k' : IntKind) (a b : Int) : PO.eval (.bin op tb) [.int k a,.int k' b]=one1 (aBin op (.int k a) (.int k' b)):=rfl
theorem ev_binS (op : BinOp) (tb : Bool) (a b : List UInt8) : PO.eval (.bin op tb) [.str a,.str b]=one1 (aBin op (.str a) (.str b)):=rfl
theorem ev_binB (op : BinOp) (a b : Bool) : PO.eval (.bin op true) [.bool a,.bool b]=one1 (aBin op (.bool a) (.bool b)):=rfl
theorem ev_un (op : UnOp) (a : D) : PO.eval (.un op) [a]=one1 (aUn op a):=rfl
theorem ev_conv (k k' : IntKind) (n : Int) : PO.eval (.conv k) [.int k' n]=some [.int k (k.wrap n)]:=rfl
theorem ev_convS (l : List UInt8) : PO.eval .convS [.str l]=some [.str l]:=rfl
theorem ev_lenS (l : List UInt8) : PO.eval .lenS [.str l]=some [.int .i64 l.length]:=rfl
theorem ev_lenL (xs : List (List D)) : PO.eval .lenL [.sl xs]=some [.int .i64 xs.length]:=rfl
theorem ev_idxS {l : List UInt8} {k : IntKind} {n : Int} {c : UInt8} (h0 : 0≤n) (h : l[n.toNat]? = some c) : PO.eval .idxS [.str l,.int k n]=some [.int .u8 c.toNat]:=by
 simp only [PO.eval,if_pos h0,h]
theorem ev_row {sz : Nat} {xs : List (List D)} {k : IntKind} {n : Int} {r : List D} (h0 : 0≤n) (h : xs[n.toNat]? = some r) (hr : r.length=sz) : PO.eval (.row sz) [.sl xs,.int k n]=some r:=by
 simp only [PO.eval,if_pos h0,h,if_pos hr]
theorem ev_subL {sz : Nat} {xs : List (List D)} {k k' : IntKind} {a b : Int} (h0 : 0≤a) (h1 : a≤b) (h2 : b≤xs.length) (h3 : xs.all (fun r=>r.length == sz)=true) : PO.eval (.subL sz) [.sl xs,.int k a,.int k' b]=some [.sl ((xs.take b.toNat).drop a.toNat)]:=by
 simp only [PO.eval,if_pos (And.intro h0 (And.intro h1 (And.intro h2 h3)))]
theorem ev_app {sz bt : Nat} {xs ys : List (List D)} (h1 : (xs.length + ys.length) * bt≤140737488355328) (h2 : xs.length + ys.length≤9223372036854775807) (h3 : ys.all (fun r=>r.length == sz)=true) : PO.eval (.app sz bt) [.sl xs,.sl ys]=some [.sl (xs++ys)]:=by
 simp only [PO.eval,if_pos (And.intro h1 (And.intro h2 h3))]
theorem ev_cat (xs ys : List (List D)) : PO.eval .cat [.sl xs,.sl ys]=some [.sl (xs++ys)]:=rfl
theorem ev_chk {xs : List (List D)} {k : IntKind} {n : Int} (h0 : 0≤n) (h1 : n<xs.length) : PO.eval .chk [.sl xs,.int k n]=some []:=by
 simp only [PO.eval,if_pos (And.intro h0 h1)]
theorem ev_min (k k' : IntKind) (a b : Int) : PO.eval .min [.int k a,.int k' b]=some [.int k (if b<a then b else a)]:=rfl
theorem ev_max (k k' : IntKind) (a b : Int) : PO.eval .max [.int k a,.int k' b]=some [.int k (if b > a then b else a)]:=rfl
theorem ev_pick (t : Bool) (a b : D) : PO.eval .pick [.bool t,a,b]=some [if t then a else b]:=rfl
theorem ev_mk1 (a : D) : PO.eval (.mk 1 1) [a]=some [.sl [[a]]]:=rfl
theorem ev_mk3 (a b c : D) : PO.eval (.mk 3 1) [a,b,c]=some [.sl [[a,b,c]]]:=rfl
theorem one1_s (d : D) : one1 (some d)=some [d]:=rfl
theorem val_c (e : Env) (d : D) : SA.val e (.c d)=d:=rfl
theorem val_v (e : Env) (x : Nat) : SA.val e (.v x)=e.getD x dfl:=rfl
theorem getD_0 (a : D) (l : List D) (d : D) : (a :: l).getD 0 d=a:=rfl
theorem getD_s (a : D) (l : List D) (n : Nat) (d : D) : (a :: l).getD (n + 1) d=l.getD n d:=rfl
end Am

namespace Am
open Go
noncomputable def opQ (R : Nat→PF) (k : IR) (e : Env) (J : List PF) : Option (List D)→Option (List D)
 | some outs=>den R k (e++outs) J
 | none=>none
noncomputable def iteQ (R : Nat→PF) (a b : IR) (e : Env) (J : List PF) : D→Option (List D)
 | .bool true=>den R a e J
 | .bool false=>den R b e J
 | _=>none
noncomputable def callQ (R : Nat→PF) (n : Nat) (sc : Bool) (sl : List Nat) (k : IR) (e : Env) (J : List PF) : Option (List D)→Option (List D)
 | some outs=>if outs.length=n∧(sc=true→outs.all D.scal=true)∧sl.all (fun j=>(outs.getD j dfl).isSl)=true then den R k (e++outs) J else none
 | none=>none
noncomputable def contQ (R : Nat→PF) (rest : IR) (e : Env) (J : List PF) : PF:=fun vs=>den R rest (e++vs) J
noncomputable def loopQ (R : Nat→PF) (body : IR) (e : Env) (J : List PF) : PF:=fixO (fun L vs=>den R body (e++vs) (J++[L]))
def jumpQ (a : List D) : Option PF→Option (List D)
 | some f=>f a
 | none=>none
variable {R : Nat→PF} {e : Env} {J : List PF}
theorem k_op (p : PO) (args : List SA) (k : IR) : den R (.op p args k) e J=opQ R k e J (p.eval (args.map (·.val e))):=by
 simp only [den]; rfl
theorem k_ite (c : SA) (a b : IR) : den R (.ite c a b) e J=iteQ R a b e J (c.val e):=by
 simp only [den]; rfl
theorem k_call (i n : Nat) (sc : Bool) (sl : List Nat) (args : List SA) (k : IR) : den R (.call i n sc sl args k) e J=callQ R n sc sl k e J (R i (args.map (·.val e))):=by
 simp only [den]; rfl
theorem k_letj (n : Nat) (body rest : IR) : den R (.letj n body rest) e J=den R body e (J++[contQ R rest e J]):=by
 simp only [den]; rfl
theorem k_loop (n : Nat) (init : List SA) (body : IR) : den R (.loop n init body) e J=loopQ R body e J (init.map (·.val e)):=by
 simp only [den]; rfl
theorem k_jump (j : Nat) (args : List SA) : den R (.jump j args) e J=jumpQ (args.map (·.val e)) J[j]?:=by
 simp only [den]; rfl
theorem k_ret (args : List SA) : den R (.ret args) e J=some (args.map (·.val e)):=by
 simp only [den]
theorem opQ_s (k : IR) (o : List D) : opQ R k e J (some o)=den R k (e++o) J:=rfl
theorem iteQ_t (a b : IR) : iteQ R a b e J (.bool true)=den R a e J:=rfl
theorem iteQ_f (a b : IR) : iteQ R a b e J (.bool false)=den R b e J:=rfl
theorem jumpQ_s (f : PF) (a : List D) : jumpQ a (some f)=f a:=rfl
theorem contQ_a (rest : IR) (a : List D) : contQ R rest e J a=den R rest (e++a) J:=rfl
theorem callQ_0 (k : IR) : callQ R 0 false [] k e J (some [])=den R k (e++[]) J:=rfl
theorem callQ_1 (k : IR) (a : D) : callQ R 1 false [] k e J (some [a])=den R k (e++[a]) J:=rfl
theorem callQ_2 (k : IR) (a b : D) : callQ R 2 false [] k e J (some [a,b])=den R k (e++[a,b]) J:=rfl
theorem callQ_3 (k : IR) (a b c : D) : callQ R 3 false [] k e J (some [a,b,c])=den R k (e++[a,b,c]) J:=rfl
theorem callQ_4 (k : IR) (a b c d : D) : callQ R 4 false [] k e J (some [a,b,c,d])=den R k (e++[a,b,c,d]) J:=rfl
theorem callQ_5 (k : IR) (a b c d f : D) : callQ R 5 false [] k e J (some [a,b,c,d,f])=den R k (e++[a,b,c,d,f]) J:=rfl
theorem callQ_6 (k : IR) (a b c d f g : D) : callQ R 6 false [] k e J (some [a,b,c,d,f,g])=den R k (e++[a,b,c,d,f,g]) J:=rfl
theorem callQ_7 (k : IR) (a b c d f g h : D) : callQ R 7 false [] k e J (some [a,b,c,d,f,g,h])=den R k (e++[a,b,c,d,f,g,h]) J:=rfl
theorem callQ_8 (k : IR) (a b c d f g h i : D) : callQ R 8 false [] k e J (some [a,b,c,d,f,g,h,i])=den R k (e++[a,b,c,d,f,g,h,i]) J:=rfl
theorem callQ_9 (k : IR) (a b c d f g h i j : D) : callQ R 9 false [] k e J (some [a,b,c,d,f,g,h,i,j])=den R k (e++[a,b,c,d,f,g,h,i,j]) J:=rfl
theorem loop_k {run : Nat→PF} {body : IR} {e : Env} {J : List PF} {σ : Type} (n : Nat) (Pre : Nat→σ→Prop) (a r : Nat→σ→List D)
 (step : ∀ (i : Nat) (s : σ) (L : PF),i<n→Pre i s→(∀ s',Pre (i + 1) s'→L (a (i + 1) s')=some (r (i + 1) s'))→den run body (e++a i s) (J++[L])=some (r i s))
 (fin : ∀ (s : σ) (L : PF),Pre n s→den run body (e++a n s) (J++[L])=some (r n s)) :
 ∀ i s,i≤n→Pre i s→loopQ run body e J (a i s)=some (r i s):=by
 intro i s hi hp
 refine loop_run (ι:=Nat × σ) (fun x=>n - x.1) (fun x=>x.1≤n∧Pre x.1 x.2) (fun x=>a x.1 x.2) (fun x=>r x.1 x.2) ?_ (i,s) ⟨hi,hp⟩
 rintro ⟨i,s⟩ L ⟨h1,h2⟩ hL
 by_cases h : i<n
 · exact step i s L h h2 fun s' hs=>hL (i + 1,s') ⟨h,hs⟩ (by show n - (i + 1)<n - i; omega)
 · obtain rfl : i=n:=by simp only at h1; omega
   exact fin s L h2
theorem loop_kx {run : Nat→PF} {body : IR} {e : Env} {J : List PF} {σ : Type} (n : Nat) (Pre : Nat→σ→Prop) (a : Nat→σ→List D) (Post : List D→Prop)
 (step : ∀ (i : Nat) (s : σ) (L : PF),i<n→Pre i s→(∀ s',Pre (i + 1) s'→∃ r,L (a (i + 1) s')=some r∧Post r)→∃ r,den run body (e++a i s) (J++[L])=some r∧Post r)
 (fin : ∀ (s : σ) (L : PF),Pre n s→∃ r,den run body (e++a n s) (J++[L])=some r∧Post r) :
 ∀ i s,i≤n→Pre i s→∃ r,loopQ run body e J (a i s)=some r∧Post r:=by
 intro i s hi hp
 refine loop_ex (ι:=Nat × σ) (fun x=>n - x.1) (fun x=>x.1≤n∧Pre x.1 x.2) (fun x=>a x.1 x.2) Post ?_ (i,s) ⟨hi,hp⟩
 rintro ⟨i,s⟩ L ⟨h1,h2⟩ hL
 by_cases h : i<n
 · exact step i s L h h2 fun s' hs=>hL (i + 1,s') ⟨h,hs⟩ (by show n - (i + 1)<n - i; omega)
 · obtain rfl : i=n:=by simp only at h1; omega
   exact fin s L h2
theorem loop_km {run : Nat→PF} {body : IR} {e : Env} {J : List PF} {ι : Type} (μ : ι→Nat) (Pre : ι→Prop) (a r : ι→List D)
 (step : ∀ (x : ι) (L : PF),Pre x→(∀ y,Pre y→μ y<μ x→L (a y)=some (r y))→den run body (e++a x) (J++[L])=some (r x)) :
 ∀ x,Pre x→loopQ run body e J (a x)=some (r x):=fun x hp=>loop_run μ Pre a r step x hp
end Am

namespace Am
open Go
theorem wr {n : Int} (h0 : -9223372036854775808≤n) (h1 : n<9223372036854775808) : IntKind.i64.wrap n=n:=by
 simp [IntKind.wrap,IntKind.bits,IntKind.signed]; omega
inductive F where
 | mk (op : Int) (name : List UInt8) (args : List F)
namespace F
def op : F→Int | mk o _ _=>o
def name : F→List UInt8 | mk _ n _=>n
def args : F→List F | mk _ _ a=>a
mutual
def enc : F→List D | mk o n a=>[.int .i64 o,.str n,.sl (encs a)]
def encs : List F→List (List D) | []=>[] | f :: l=>f.enc :: encs l
end
theorem encs_map (l : List F) : encs l=l.map enc:=by
 induction l with
 | nil=>rfl
 | cons f l ih=>simp [encs,ih]
theorem encs_len (l : List F) : (encs l).length=l.length:=by rw [encs_map]; simp
mutual
def size : F→Nat | mk _ _ a=>1 + sizes a
def sizes : List F→Nat | []=>0 | f :: l=>f.size + sizes l
end
end F
namespace F
mutual
def depth : F→Nat | mk _ _ a=>depths a
def depths : List F→Nat | []=>0 | f :: l=>max (1 + f.depth) (depths l)
end
end F
def strength (f : F) : Int:=if f.op == 8 then 1 else if f.op == 7 then 2 else if f.op == 6 then 3 else if f.op == 5 then 4 else 5
def nameOk (i : Nat) (c : UInt8) : Bool:=(decide ((c.toNat : Int) ≥ 97) && decide ((c.toNat : Int)≤122)) || (decide ((i : Int) > 0) && ((decide ((c.toNat : Int) ≥ 48) && decide ((c.toNat : Int)≤57)) || ((c.toNat : Int) == 95)))
def nameFrom : Nat→List UInt8→Bool
 | _,[]=>true
 | i,c :: l=>nameOk i c && nameFrom (i + 1) l
def validName (s : List UInt8) : Bool:=!((s.length : Int) == 0 || decide ((s.length : Int) > 12)) && nameFrom 0 s
theorem nameFrom_drop (s : List UInt8) (j : Nat) (h : j<s.length) : nameFrom j (s.drop j)=(nameOk j s[j] && nameFrom (j + 1) (s.drop (j + 1))):=by
 rw [List.drop_eq_getElem_cons h]; rfl
def named (f : F) : Bool:=if f.op == 3 then validName f.name else f.name == []
namespace F
end F
def wordO (o : Int) : List UInt8:=if o == 5 then [32,38,32] else if o == 6 then [32,124,32] else if o == 7 then [32,45,62,32] else [32,60,45,62,32]
def headO (o : Int) (n : List UInt8) : List UInt8:=if o == 1 then [49] else if o == 2 then [48] else if o == 3 then n else if o == 4 then [126] else []
def neededO (o i : Int) : Int:=if o == 4 || o == 5 then 5 else if o == 6 then 4 else if o == 7 then 3 - i else 2
namespace F
mutual
def text : F→List UInt8 | mk o n a=>headO o n++texts o 0 a
def texts (o : Int) : Nat→List F→List UInt8
 | _,[]=>[]
 | i,g :: l=>(if decide ((i : Int) > 0) then wordO o else [])++(if decide (strength g<neededO o i) then [40]++text g++[41] else text g)++texts o (i + 1) l
end
end F
def txt (f : F) (j : Nat) : List UInt8:=headO f.op f.name++F.texts f.op 0 (f.args.take j)
def numR (x : Int) : List D:=[.int .i64 x]
def numsD (l : List Int) : D:=.sl (l.map numR)
def strR (s : List UInt8) : List D:=[.str s]
def strsD (l : List (List UInt8)) : D:=.sl (l.map strR)
theorem nums_nil : D.sl []=numsD []:=rfl
theorem strs_nil : D.sl []=strsD []:=rfl
theorem natS (n : Nat) : (n : Int) + 1=((n + 1 : Nat) : Int):=rfl
theorem natP (n : Nat) : ((n + 1 : Nat) : Int) - 1=n:=by omega
theorem ibeq (a b : Int) : (a == b)=decide (a=b):=by by_cases h : a=b <;> simp [h]
theorem nat0 : ((0 : Nat) : Int)=0:=rfl
theorem nat_lt (a b : Nat) : ((a : Int)<(b : Int))=(a<b):=by simp
theorem nat_le (a b : Nat) : ((a : Int)≤(b : Int))=(a≤b):=by simp
theorem nat_gt (a b : Nat) : ((a : Int) > (b : Int))=(b<a):=by simp
theorem nat_ge (a b : Nat) : ((a : Int) ≥ (b : Int))=(b≤a):=by simp
theorem nat_eq (a b : Nat) : ((a : Int)=(b : Int))=(a=b):=propext ⟨fun h=>by omega,fun h=>by omega⟩
theorem wu {n : Int} (h0 : 0≤n) (h1 : n<18446744073709551616) : IntKind.u64.wrap n=n:=by
 simp [IntKind.wrap,IntKind.bits,IntKind.signed]; omega
theorem w8 {n : Int} (h0 : 0≤n) (h1 : n<256) : IntKind.u8.wrap n=n:=by
 simp [IntKind.wrap,IntKind.bits,IntKind.signed]; omega
theorem row_N {l : List Int} {i : Nat} (h : i<l.length) : PO.eval (.row 1) [numsD l,.int .i64 i]=some [.int .i64 l[i]]:=
 ev_row (by omega) (by simp [h,numR]) rfl
theorem len_N (l : List Int) : PO.eval .lenL [numsD l]=some [.int .i64 l.length]:=by simp [numsD,ev_lenL]
theorem row_S {l : List (List UInt8)} {i : Nat} (h : i<l.length) : PO.eval (.row 1) [strsD l,.int .i64 i]=some [.str l[i]]:=
 ev_row (by omega) (by simp [h,strR]) rfl
theorem len_S (l : List (List UInt8)) : PO.eval .lenL [strsD l]=some [.int .i64 l.length]:=by simp [strsD,ev_lenL]
theorem idx_S {l : List UInt8} {i : Nat} (h : i<l.length) : PO.eval .idxS [.str l,.int .i64 i]=some [.int .u8 l[i].toNat]:=ev_idxS (by omega) (by simp [h])
theorem app_S {l : List (List UInt8)} {s : List UInt8} (h : l.length<1000000000000) : PO.eval (.app 1 16) [strsD l,.sl [[.str s]]]=some [strsD (l++[s])]:=by
 have:=ev_app (sz:=1) (bt:=16) (xs:=l.map strR) (ys:=[[.str s]]) (by simp; omega) (by simp; omega) rfl
 simpa [strsD,strR] using this
theorem app_N {l : List Int} {s : Int} (h : l.length<1000000000000) : PO.eval (.app 1 8) [numsD l,.sl [[.int .i64 s]]]=some [numsD (l++[s])]:=by
 have:=ev_app (sz:=1) (bt:=8) (xs:=l.map numR) (ys:=[[.int .i64 s]]) (by simp; omega) (by simp; omega) rfl
 simpa [numsD,numR] using this
theorem ev_toS1 {c : Int} (h0 : 0≤c) (h1 : c<256) : PO.eval .toS [.sl [[.int .u8 c]]]=some [.str [c.toNat.toUInt8]]:=by
 simp [PO.eval,bytesD,h0,h1]
theorem drop_s {α : Type} {l : List α} {i : Nat} (h : i<l.length) : l.drop i=l[i] :: l.drop (i + 1):=List.drop_eq_getElem_cons h
theorem drop_e {α : Type} (l : List α) : l.drop l.length=[]:=List.drop_length
def valO (ys : List (List UInt8)) (o : Int) (s : List UInt8) (vs : List Bool) : Bool:=
 if o=1 then true else if o=3 then ys.contains s else if o=4 then !(vs.getD 0 false) else if o=6 then vs.any id else if o=5 then vs.all id else
 if o=7∨o=8 then (if vs.getD 0 false=vs.getD 1 false then true else if o=7 then vs.getD 1 false else false) else false
namespace F
mutual
def val (ys : List (List UInt8)) : F→Bool | mk o s a=>valO ys o s (vals ys a)
def vals (ys : List (List UInt8)) : List F→List Bool | []=>[] | f :: l=>val ys f :: vals ys l
end
end F
end Am
namespace Am
open Go
end Am
namespace Am
open Go
end Am
namespace Am
theorem beq_tt : (true == true)=true:=rfl
theorem beq_tf : (true == false)=false:=rfl
theorem beq_ft : (false == true)=false:=rfl
theorem beq_ff : (false == false)=true:=rfl
theorem bne_tt : (true != true)=false:=rfl
theorem bne_tf : (true != false)=true:=rfl
theorem bne_ft : (false != true)=true:=rfl
theorem bne_ff : (false != false)=false:=rfl
theorem ff_eq_tt : (false=true)=False:=by simp
theorem tt_eq_ff : (true=false)=False:=by simp
end Am
namespace Am
namespace F
mutual
def subst (p : List UInt8) (g : F) : F→F | mk o s a=>if o=3∧a.length=0∧s=p then g else mk o s (substs p g a)
def substs (p : List UInt8) (g : F) : List F→List F | []=>[] | f :: l=>subst p g f :: substs p g l
end
end F
theorem take_snoc {α : Type} {l : List α} {i : Nat} (h : i<l.length) : l.take i++[l[i]]=l.take (i + 1):=by simp
end Am
namespace Am
open Go
theorem aUn_not (b : Bool) : aUn .not (.bool b)=some (.bool (!b)):=rfl
theorem aUn_neg (k : IntKind) (n : Int) : aUn .neg (.int k n)=some (.int k (k.wrap (0 - n))):=rfl
theorem stepQ : type_of% @k_op∧type_of% @k_call∧type_of% @k_ite∧type_of% @k_letj∧type_of% @k_jump∧type_of% @k_ret∧type_of% @k_loop∧type_of% @opQ_s∧type_of% @iteQ_t∧type_of% @iteQ_f∧type_of% @jumpQ_s∧type_of% @contQ_a∧type_of% @val_c∧type_of% @val_v∧type_of% @getD_0∧type_of% @getD_s∧type_of% @ev_binI∧type_of% @ev_binS∧type_of% @one1_s∧type_of% @callQ_0∧type_of% @callQ_1∧type_of% @callQ_2∧type_of% @callQ_3∧type_of% @callQ_4∧type_of% @callQ_5∧type_of% @callQ_6∧type_of% @callQ_7∧type_of% @callQ_8∧type_of% @callQ_9∧type_of% @ev_un∧type_of% @ev_lenS∧type_of% @ev_lenL∧type_of% @F.encs_len∧type_of% @Int.natCast_eq_zero∧type_of% @nat_lt∧type_of% @nat_le∧type_of% @nat_gt∧type_of% @nat_ge∧type_of% @nat_eq∧type_of% @ev_cat∧type_of% @ev_min∧type_of% @ev_max∧type_of% @ev_pick∧type_of% @ev_mk1∧type_of% @ev_mk3∧type_of% @ev_conv∧type_of% @ev_convS∧type_of% @decide_true∧type_of% @decide_false∧type_of% @Int.cast_ofNat_Int∧type_of% @nat0∧type_of% @natP∧type_of% @ibeq∧type_of% @Bool.not_true∧type_of% @Bool.not_false∧type_of% @Bool.true_and∧type_of% @Bool.false_and∧type_of% @Bool.and_true∧type_of% @Bool.and_false∧type_of% @Bool.true_or∧type_of% @Bool.false_or∧type_of% @Bool.or_true∧type_of% @Bool.or_false∧type_of% @beq_tt∧type_of% @beq_tf∧type_of% @beq_ft∧type_of% @beq_ff∧type_of% @bne_tt∧type_of% @bne_tf∧type_of% @bne_ft∧type_of% @bne_ff∧type_of% @ff_eq_tt∧type_of% @tt_eq_ff:=⟨@k_op,@k_call,@k_ite,@k_letj,@k_jump,@k_ret,@k_loop,@opQ_s,@iteQ_t,@iteQ_f,@jumpQ_s,@contQ_a,@val_c,@val_v,@getD_0,@getD_s,@ev_binI,@ev_binS,@one1_s,@callQ_0,@callQ_1,@callQ_2,@callQ_3,@callQ_4,@callQ_5,@callQ_6,@callQ_7,@callQ_8,@callQ_9,@ev_un,@ev_lenS,@ev_lenL,@F.encs_len,@Int.natCast_eq_zero,@nat_lt,@nat_le,@nat_gt,@nat_ge,@nat_eq,@ev_cat,@ev_min,@ev_max,@ev_pick,@ev_mk1,@ev_mk3,@ev_conv,@ev_convS,@decide_true,@decide_false,@Int.cast_ofNat_Int,@nat0,@natP,@ibeq,@Bool.not_true,@Bool.not_false,@Bool.true_and,@Bool.false_and,@Bool.and_true,@Bool.and_false,@Bool.true_or,@Bool.false_or,@Bool.or_true,@Bool.or_false,@beq_tt,@beq_tf,@beq_ft,@beq_ff,@bne_tt,@bne_tf,@bne_ft,@bne_ff,@ff_eq_tt,@tt_eq_ff⟩
theorem stepL : (∀ (f : SA→D) (a : SA) (l : List SA),List.map f (a :: l)=f a :: List.map f l)∧(∀ f : SA→D,List.map f []=[])∧(∀ (a : D) (l m : List D),(a :: l)++m=a :: (l++m))∧(∀ l : List D,[]++l=l)∧(∀ l : List D,l++[]=l)∧
 (∀ (a : PF) (l m : List PF),(a :: l)++m=a :: (l++m))∧(∀ l : List PF,[]++l=l)∧(∀ l : List PF,l++[]=l)∧(∀ (a : PF) (l : List PF),(a :: l)[0]? = some a)∧(∀ (a : PF) (l : List PF) (n : Nat),(a :: l)[n + 1]? = l[n]?)∧type_of% @aUn_not∧type_of% @aUn_neg:=
 ⟨fun _ _ _=>rfl,fun _=>rfl,fun _ _ _=>rfl,fun _=>rfl,fun l=>List.append_nil l,fun _ _ _=>rfl,fun _=>rfl,fun l=>List.append_nil l,fun _ _=>rfl,fun _ _ _=>rfl,@aUn_not,@aUn_neg⟩
end Am

namespace Am
open Go
namespace F
def decL (f : List D→Option F) : List (List D)→Option (List F)
 | []=>some []
 | r :: l=>match f r with
  | some x=>(match decL f l with | some xs=>some (x :: xs) | none=>none)
  | none=>none
theorem decL_ok {f : List D→Option F} (h : ∀ d x,f d=some x→x.enc=d) : ∀ {l : List (List D)} {xs : List F},decL f l=some xs→encs xs=l
 | [],xs,hx=>by simp only [decL,Option.some.injEq] at hx; subst hx; rfl
 | r :: l,xs,hx=>by
  simp only [decL] at hx
  split at hx
  · rename_i x hr
    split at hx
    · rename_i ys hl
      simp only [Option.some.injEq] at hx
      subst hx
      simp only [encs,h _ _ hr,decL_ok h hl]
    · simp at hx
  · simp at hx
end F
namespace F
end F
end Am
namespace Am
open Go
end Am
namespace Am
open Go
theorem ibne (a b : Int) : (a != b) = !decide (a=b):=by by_cases h : a=b <;> simp [h]
theorem idx_S0 {l : List UInt8} (h : 0<l.length) : PO.eval .idxS [.str l,.int .i64 0]=some [.int .u8 l[0].toNat]:=idx_S h
def okc (c : UInt8) : Bool:=(decide (97≤(c.toNat : Int)) && decide ((c.toNat : Int)≤122)) || ((decide (48≤(c.toNat : Int)) && decide ((c.toNat : Int)≤57)) || decide ((c.toNat : Int)=95))
theorem nameFrom_all : ∀ (l : List UInt8) (i : Nat),0<i→nameFrom i l=l.all okc
 | [],_,_=>rfl
 | c :: l,i,h=>by
  have hi : ((i : Int) > 0):=by omega
  simp only [nameFrom,List.all_cons,nameFrom_all l (i + 1) (by omega),nameOk,okc,ge_iff_le,hi,decide_true,Bool.true_and,ibeq]
theorem validName_cons (c : UInt8) (l : List UInt8) : validName (c :: l)=(decide ((c :: l).length≤12) && (decide (97≤(c.toNat : Int)) && (decide ((c.toNat : Int)≤122) && (c :: l).all okc))):=by
 have h0 : ¬ ((0 : Nat) : Int) > 0:=by omega
 simp only [validName,nameFrom,nameFrom_all l (0 + 1) (by omega),nameOk,List.all_cons,okc,ge_iff_le,h0,decide_false,Bool.false_and,Bool.or_false,ibeq,List.length_cons]
 by_cases h : l.length + 1≤12
 · have h1 : ¬ ((l.length + 1 : Nat) : Int) > 12:=by omega
   have h2 : ¬ ((l.length + 1 : Nat) : Int)=0:=by omega
   by_cases a : (97≤(c.toNat : Int)) <;> by_cases b : ((c.toNat : Int)≤122) <;> simp [h,a,b]
   omega
 · have h1 : ((l.length + 1 : Nat) : Int) > 12:=by omega
   simp [h]
   omega
end Am
namespace Am
open Go
namespace F
mutual
def beq : F→F→Bool
 | mk o s a,mk o' s' a'=>decide (o=o') && (decide (s=s') && (decide (a.length=a'.length) && beqs a a'))
def beqs : List F→List F→Bool
 | [],_=>true
 | _ :: _,[]=>true
 | x :: l,y :: l'=>beq x y && beqs l l'
end
theorem beq_eq (f g : F) : beq f g=(decide (f.op=g.op) && (decide (f.name=g.name) && (decide (f.args.length=g.args.length) && beqs f.args g.args))):=by
 cases f; cases g; simp only [beq]; rfl
end F
theorem bytesLess_iff (a b : List UInt8) : Op.bytesLess a b=true ↔ a<b:=by
 induction a generalizing b with
 | nil=>cases b with
  | nil=>simp [Op.bytesLess]
  | cons y b=>simp [Op.bytesLess]
 | cons x a ih=>cases b with
  | nil=>simp [Op.bytesLess]
  | cons y b=>
   simp only [Op.bytesLess,List.cons_lt_cons_iff]
   by_cases h : x<y
   · simp [h]
   · by_cases h2 : x=y
     · subst h2; simp [ih]
     · simp [h,h2]
end Am
namespace Am
open Go
theorem app_SL {l l' : List (List UInt8)} (h : l.length + l'.length<1000000000000) : PO.eval (.app 1 16) [strsD l,strsD l']=some [strsD (l++l')]:=by
 have:=ev_app (sz:=1) (bt:=16) (xs:=l.map strR) (ys:=l'.map strR) (by simp; omega) (by simp; omega) (by simp [strR])
 simpa [strsD,strR] using this
theorem app_S0 {l' : List (List UInt8)} (h : l'.length<1000000000000) : PO.eval (.app 1 16) [.sl [],strsD l']=some [strsD l']:=by
 have:=app_SL (l:=[]) (l':=l') (by simpa using h)
 rw [← strs_nil,List.nil_append] at this
 exact this
end Am
namespace Am
open Go
end Am
