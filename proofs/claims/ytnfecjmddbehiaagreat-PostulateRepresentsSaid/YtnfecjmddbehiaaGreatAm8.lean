/- What functions of the program compute: lemmas. -/
import Derived.Test.YtnfecjmddbehiaaGreatAm7
import Derived.Test.YtnfecjmddbehiaaGreatAm6
set_option linter.unusedSimpArgs false
set_option linter.unusedVariables false
set_option linter.unusedSectionVars false
namespace Am
open Go
def mkQ (N s i n : Nat) : Brc:=(i + 1,n / s / N,n / s % N,n % s)
def upN (hh : Nat→Nat→Bool) (N s i n : Nat) : List Brc:=((List.range n).filter fun m=>!hh i m).map (mkQ N s i)
def upI (hh : Nat→Nat→Bool) (N : Nat) (sec : Nat→Nat) (i : Nat) : List Brc:=(List.range i).flatMap fun j=>upN hh N (sec j) j (N * N * sec j)
section
variable (hh : Nat→Nat→Bool) (N : Nat) (sec : Nat→Nat)
theorem upN_zero (s i : Nat) : upN hh N s i 0=[]:=rfl
theorem upN_yes {s i n : Nat} (h : hh i n=true) : upN hh N s i (n + 1)=upN hh N s i n:=by
 simp [upN,List.range_succ,List.filter_append,h]
theorem upN_no {s i n : Nat} (h : hh i n=false) : upN hh N s i (n + 1)=upN hh N s i n++[mkQ N s i n]:=by
 simp [upN,List.range_succ,List.filter_append,h]
theorem upI_succ (i : Nat) : upI hh N sec (i + 1)=upI hh N sec i++upN hh N (sec i) i (N * N * sec i):=by
 simp [upI,List.range_succ,List.flatMap_append]
theorem upN_pre {s i n m : Nat} (h : n≤m) : upN hh N s i n <+: upN hh N s i m:=by
 obtain ⟨k,rfl⟩:=Nat.exists_eq_add_of_le h
 unfold upN
 rw [List.range_add,List.filter_append,List.map_append]
 exact List.prefix_append _ _
theorem upI_pre {i m : Nat} (h : i≤m) : upI hh N sec i <+: upI hh N sec m:=by
 obtain ⟨k,rfl⟩:=Nat.exists_eq_add_of_le h
 unfold upI
 rw [List.range_add,List.flatMap_append]
 exact List.prefix_append _ _
theorem up_at {i m n : Nat} (hi : i<m) (hn : n<N * N * sec i) (h : hh i n=false) : ∃ hl : (upI hh N sec i++upN hh N (sec i) i n).length<(upI hh N sec m).length,(upI hh N sec m)[(upI hh N sec i++upN hh N (sec i) i n).length]=mkQ N (sec i) i n:=by
 have h1 : (upI hh N sec i++upN hh N (sec i) i n)++[mkQ N (sec i) i n] <+: upI hh N sec m:=by
  rw [List.append_assoc,← upN_no hh N h]
  refine List.IsPrefix.trans ?_ (upI_pre hh N sec hi)
  rw [upI_succ]
  exact (List.prefix_append_right_inj _).2 (upN_pre hh N hn)
 have hl:=h1.length_le
 refine ⟨by simp at hl ⊢; omega,?_⟩
 have h2:=h1.getElem (i:=(upI hh N sec i++upN hh N (sec i) i n).length) (by simp)
 rw [← h2]
 simp
end
theorem upI_brL {h : Nat→Nat→Nat→Nat→Bool} {all fst N : Nat} (hN : 0<N) : upI (fun i n=>h (i + 1) (n / (if i<fst then 1 else N) / N) (n / (if i<fst then 1 else N) % N) (n % (if i<fst then 1 else N))) N (fun i=>if i<fst then 1 else N) all=brL h all fst N:=by
 unfold upI brL
 refine flatMap_cg fun i _=>?_
 have hs : 0<(if i<fst then 1 else N):=by split <;> omega
 rw [← range_trip hN hs]
 unfold upN
 rw [List.filter_map,List.map_map]
 rfl
def brV (b : Brc) : List Value:=[.agg #[.int .i64 b.1,.int .i64 b.2.1,.int .i64 b.2.2.1,.int .i64 b.2.2.2]]
def brA (b : Brc) : List AV:=[.agg [.d (.int .i64 b.1),.d (.int .i64 b.2.1),.d (.int .i64 b.2.2.1),.d (.int .i64 b.2.2.2)]]
def brD (b : Brc) : List D:=[.int .i64 b.1,.int .i64 b.2.1,.int .i64 b.2.2.1,.int .i64 b.2.2.2]
theorem br_rep (w : World) (C : Com) (ρ : Rho) (H : Heap) (b : Brc) : RepAll w C ρ H (brA b) (brV b):=by
 refine ⟨rfl,fun i h h'=>?_⟩
 obtain rfl : i=0:=by simp [brA] at h; exact h
 refine .agg _ _ rfl (fun v hv=>?_) fun j hj hj'=>?_
 · simp only [List.mem_cons,List.not_mem_nil,or_false] at hv
   rcases hv with rfl | rfl | rfl | rfl <;> rfl
 · match j,hj with
   | 0,_=>exact .d _ _ (.int _ _)
   | 1,_=>exact .d _ _ (.int _ _)
   | 2,_=>exact .d _ _ (.int _ _)
   | 3,_=>exact .d _ _ (.int _ _)
theorem rep_int {w : World} {C : Com} {ρ : Rho} {H : Heap} {k : IntKind} {n : Int} {v : Value} (h : RepA w C ρ H (.d (.int k n)) v) : v = .int k n:=by
 cases h with | d _ _ h=>cases h; rfl
theorem br_inv {w : World} {C : Com} {ρ : Rho} {H : Heap} {b : Brc} {vs : List Value} (h : RepAll w C ρ H (brA b) vs) : vs=brV b:=by
 obtain ⟨h1,h2⟩:=h
 match vs,h1 with
 | [v],_=>
  have h0:=h2 0 (by simp [brA]) (by simp)
  simp only [brA,List.getElem_cons_zero] at h0
  cases h0 with
  | agg _ us hl _ hu=>
   match us,hl with
   | [a,b,c,d],_=>
    have ha:=rep_int (hu 0 (by simp) (by simp))
    have hb:=rep_int (hu 1 (by simp) (by simp))
    have hc:=rep_int (hu 2 (by simp) (by simp))
    have hd:=rep_int (hu 3 (by simp) (by simp))
    simp only [List.getElem_cons_zero,List.getElem_cons_succ] at ha hb hc hd
    subst ha hb hc hd
    rfl
theorem upI_cg {hh hh' : Nat→Nat→Bool} {N : Nat} {sec sec' : Nat→Nat} {m : Nat} (h1 : ∀ i,i<m→sec i=sec' i) (h2 : ∀ i,i<m→∀ n,hh i n=hh' i n) : upI hh N sec m=upI hh' N sec' m:=by
 unfold upI
 refine flatMap_cg fun i hi=>?_
 have hi:=List.mem_range.1 hi
 rw [h1 i hi]
 unfold upN
 have : (fun m=>!hh i m)=fun m=>!hh' i m:=by funext n; rw [h2 i hi]
 rw [this]
def hB (kind a : Int) (rows : List (List Int)) (p k f g : Nat) : Bool:=holdsB kind (BitVec.ofNat 64 (szT a - 1)) (tOf rows) p (BitVec.ofNat 64 k) (BitVec.ofNat 64 f) (BitVec.ofNat 64 g)
def bQ (kind a : Int) (rows : List (List Int)) : List Brc:=brL (hB kind a rows) (postN kind).1 (postN kind).2 (szT a)
def chkE (a : Int) (rows : List (List Int)) (kind : Int) : Int:=if vldB a rows=true then (if (postN kind).1=0 then 4 else 0) else 1
theorem chkE_ok {a : Int} {rows : List (List Int)} {kind : Int} : chkE a rows kind=0 ↔ Vld a rows∧(kind=1∨kind=2∨kind=3):=by
 unfold chkE
 rw [← vldB_iff]
 by_cases h : vldB a rows=true
 · rw [if_pos h]
   unfold postN
   by_cases h1 : kind=1
   · simp [h1,h]
   · by_cases h2 : kind=2
     · simp [h2,h]
     · by_cases h3 : kind=3
       · simp [h3,h]
       · simp [h1,h2,h3]
 · rw [if_neg h]; simp [h]
def chkV (kind a : Int) (rows : List (List Int)) : List D := if chkE a rows kind = 0 then (match (bQ kind a rows).head? with
    | some b=>brD b++[.bool true,.int .i64 0]
    | none=>[.int .i64 0,.int .i64 0,.int .i64 0,.int .i64 0,.bool false,.int .i64 0])
 else [.int .i64 0,.int .i64 0,.int .i64 0,.int .i64 0,.bool false,.int .i64 (chkE a rows kind)]
end Am

namespace Am
open Go
abbrev OO:=List (List UInt8) × List Int
def osD (l : List OO) : D:=.sl (l.map fun o=>[strsD o.1,numsD o.2])
theorem row_O {l : List OO} {i : Nat} (h : i<l.length) : PO.eval (.row 2) [osD l,.int .i64 i]=some [strsD l[i].1,numsD l[i].2]:=
 ev_row (by omega) (by simp [h]) rfl
theorem row_O0 {l : List OO} (h : 0<l.length) : PO.eval (.row 2) [osD l,.int .i64 0]=some [strsD l[0].1,numsD l[0].2]:=row_O h
theorem len_O (l : List OO) : PO.eval .lenL [osD l]=some [.int .i64 l.length]:=by simp [osD,ev_lenL]
structure Sane (l : List OO) : Prop where
 n : l.length<1000000000
 nm : ∀ o ∈ l,o.1.length<1000000000
 st : ∀ o ∈ l,∀ s ∈ o.1,s.length<9223372036854775808
 rk : ∀ o ∈ l,o.2.length<1000000000
def badO (nm : List (List UInt8)) (o : OO) : Bool:=!decide (orderE o.1 o.2=0) || (decide (o.1.length<1) || (decide (o.1.length > 2) || !decide (o.1=nm)))
def bse (kind : Int) (i : Nat) : BitVec 64:=if kind=3 then 1#64 <<< i else BitVec.ofNat 64 i
def badB (kind : Int) (i : Nat) (o : OO) : Bool:=!decide (bse kind i=0#64) && !decide (beliefsS o.1 o.2=bse kind i)
def anyI (q : Nat→OO→Bool) : Nat→List OO→Bool
 | _,[]=>false
 | i,o :: l=>q i o || anyI q (i + 1) l
theorem anyI_drop (q : Nat→OO→Bool) {l : List OO} {i : Nat} (h : i<l.length) : anyI q i (l.drop i)=(q i l[i] || anyI q (i + 1) (l.drop (i + 1))):=by
 rw [List.drop_eq_getElem_cons h]; rfl
theorem any_drop (q : OO→Bool) {l : List OO} {i : Nat} (h : i<l.length) : (l.drop i).any q=(q l[i] || (l.drop (i + 1)).any q):=by
 rw [List.drop_eq_getElem_cons h]; rfl
def nam0 (l : List OO) : List (List UInt8):=(l.getD 0 ([],[])).1
def wantN (kind : Int) (n : Nat) : Nat:=if kind=3 then 2 ^ n else 2 ^ (2 ^ n)
def mkE (l : List OO) (kind : Int) : Int:=if (postN kind).1=0 then 4 else if l.length=0 then 1 else if l.any (badO (nam0 l))=true then 1 else if l.length ≠ wantN kind (nam0 l).length then 1 else if anyI (badB kind) 0 l=true then 7 else 0
def uniU (l : List OO) (k f : BitVec 64) : Nat→BitVec 64
 | 0=>0#64
 | m + 1=>if k.getLsbD m=true then uniU l k f m ||| leastS (l.getD m ([],[])).1 (l.getD m ([],[])).2 f else uniU l k f m
def entB (kind : Int) (l : List OO) (N k f : Nat) : BitVec 64:=if kind=1 then leastS (l.getD k ([],[])).1 (l.getD k ([],[])).2 (BitVec.ofNat 64 f)
 else if kind=2 then BitVec.ofNat 64 k ||| leastS (l.getD k ([],[])).1 (l.getD k ([],[])).2 (BitVec.ofNat 64 (N - 1 - f))
 else uniU l (BitVec.ofNat 64 k) (BitVec.ofNat 64 f) l.length
def rowT (kind : Int) (l : List OO) (N k : Nat) : List Int:=(List.range N).map fun f=>((entB kind l N k f).toNat : Int)
def mkT (kind : Int) (l : List OO) (N : Nat) : List (List Int):=(List.range N).map fun k=>rowT kind l N k
structure MkO (l : List OO) (kind : Int) : Prop where
 kd : kind=1∨kind=2∨kind=3
 pos : 0<l.length
 at_ : (nam0 l).length=1∨(nam0 l).length=2
 ok : ∀ o ∈ l,orderE o.1 o.2=0
 nm : ∀ o ∈ l,o.1=nam0 l
 len : l.length=wantN kind (nam0 l).length
theorem any_bad {l : List OO} (h : l.any (badO (nam0 l))=false) (hp : 0<l.length) : ((nam0 l).length=1∨(nam0 l).length=2)∧(∀ o ∈ l,orderE o.1 o.2=0)∧∀ o ∈ l,o.1=nam0 l:=by
 have key : ∀ o ∈ l,orderE o.1 o.2=0∧¬ o.1.length<1∧¬ o.1.length > 2∧o.1=nam0 l:=fun o ho=>by
  have:=List.any_eq_false.1 h o ho
  simp only [badO,Bool.or_eq_true,Bool.not_eq_true',decide_eq_true_eq,decide_eq_false_iff_not,not_or,Classical.not_not] at this
  exact ⟨this.1,this.2.1,this.2.2.1,this.2.2.2⟩
 have h0 : l[0] ∈ l:=List.getElem_mem hp
 have e0 : nam0 l=l[0].1:=by simp [nam0,hp]
 refine ⟨?_,fun o ho=>(key o ho).1,fun o ho=>(key o ho).2.2.2⟩
 have:=key _ h0
 rw [e0]; omega
theorem post_kd {kind : Int} (h : ¬ (postN kind).1=0) : kind=1∨kind=2∨kind=3:=by
 unfold postN at h
 by_cases h1 : kind=1
 · exact .inl h1
 · by_cases h2 : kind=2
   · exact .inr (.inl h2)
   · by_cases h3 : kind=3
     · exact .inr (.inr h3)
     · simp [h1,h2,h3] at h
theorem mkE_cases (l : List OO) (kind : Int) : (mkE l kind=4∧(postN kind).1=0)∨(¬ (postN kind).1=0∧l.length=0∧mkE l kind=1)∨(¬ (postN kind).1=0∧0<l.length∧l.any (badO (nam0 l))=true∧mkE l kind=1)∨
 (¬ (postN kind).1=0∧0<l.length∧l.any (badO (nam0 l))=false∧l.length ≠ wantN kind (nam0 l).length∧mkE l kind=1)∨(MkO l kind∧mkE l kind=if anyI (badB kind) 0 l=true then 7 else 0):=by
 unfold mkE
 by_cases h1 : (postN kind).1=0
 · exact .inl ⟨by rw [if_pos h1],h1⟩
 · rw [if_neg h1]
   by_cases h2 : l.length=0
   · exact .inr (.inl ⟨h1,h2,by rw [if_pos h2]⟩)
   · rw [if_neg h2]
     have hp : 0<l.length:=by omega
     by_cases h3 : l.any (badO (nam0 l))=true
     · exact .inr (.inr (.inl ⟨h1,hp,h3,by rw [if_pos h3]⟩))
     · rw [if_neg h3]
       have h3':=Bool.eq_false_iff.2 h3
       by_cases h4 : l.length ≠ wantN kind (nam0 l).length
       · exact .inr (.inr (.inr (.inl ⟨h1,hp,h3',h4,by rw [if_pos h4]⟩)))
       · rw [if_neg h4]
         obtain ⟨a1,a2,a3⟩:=any_bad h3' hp
         exact .inr (.inr (.inr (.inr ⟨⟨post_kd h1,hp,a1,a2,a3,Classical.not_not.1 h4⟩,rfl⟩)))
theorem iv_shr (tb : Bool) (kk : IntKind) (x : BitVec 64) (w : Nat) : PO.eval (.bin .shr tb) [ivD x,.int kk (w : Int)]=some [ivD (x >>> w)]:=by
 show one1 (if 0≤(w : Int) then some (.int .i64 (((x.toNat : Int)).fdiv (2 ^ (min ((w : Int)).toNat 64)))) else none)=_
 rw [if_pos (by omega),Int.toNat_natCast,shr_nat]; rfl
theorem bit_one (x : BitVec 64) (w : Nat) : decide ((x >>> w) &&& 1#64=1#64)=x.getLsbD w:=by
 rw [Bool.eq_iff_iff,decide_eq_true_eq]
 constructor
 · intro h
   have:=congrArg (fun y : BitVec 64=>y.getLsbD 0) h
   simpa using this
 · intro h
   refine set_eq fun i=>?_
   rw [has_and]
   have h1 : has 1#64 i ↔ i=0:=by
    have : has (1#64 <<< 0) i ↔ i=0:=by rw [has,one_shl_get _ _ (by omega),decide_eq_true_eq]
    simpa using this
   rw [h1]
   constructor
   · exact fun x=>x.2
   · rintro rfl
     exact ⟨by rw [has,BitVec.getLsbD_ushiftRight]; simpa using h,rfl⟩
theorem shr_sml {x : BitVec 64} (h : Sml x) (w : Nat) : Sml (x >>> w):=by
 unfold Sml at *
 rw [BitVec.toNat_ushiftRight,Nat.shiftRight_eq_div_pow]
 exact Nat.lt_of_le_of_lt (Nat.div_le_self _ _) h
theorem iv_bit {x : BitVec 64} (h : Sml x) (w : Nat) : PO.eval (.bin .and false) [ivD (x >>> w),.int .i64 1]=some [ivD (x >>> w &&& 1#64)]:=iv_and false (y:=1#64) (shr_sml h w)
theorem iv_one (x : BitVec 64) (w : Nat) : PO.eval (.bin .eql false) [ivD (x >>> w &&& 1#64),.int .i64 1]=some [.bool (x.getLsbD w)]:=by
 rw [← bit_one]; exact iv_eql false _ 1#64
theorem int_iv {n : Nat} (h : n<18446744073709551616) : D.int .i64 (n : Int)=ivD (BitVec.ofNat 64 n):=by
 unfold ivD; rw [BitVec.toNat_ofNat,Nat.mod_eq_of_lt (by omega)]
theorem ov_lt {N : Nat} {x : BitVec 64} (h : Ovr N x) : x.toNat<2 ^ N:=by
 refine Nat.lt_pow_two_of_testBit _ fun i hi=>?_
 rw [← BitVec.getLsbD]
 exact Bool.eq_false_iff.2 fun hx=>by have:=h i hx; omega
theorem least_ov {names : List (List UInt8)} {ranks : List Int} (h : orderE names ranks=0) (S : BitVec 64) : Ovr (2 ^ names.length) (leastS names ranks S):=fun w hw=>by
 have:=((leastS_lst h).get S w).1 hw
 rw [(orderE_zero h).2.1] at this
 exact this.1
theorem uni_ov {l : List OO} {N : Nat} (h : ∀ o ∈ l,∀ S,Ovr N (leastS o.1 o.2 S)) (k f : BitVec 64) : ∀ m,m≤l.length→Ovr N (uniU l k f m)
 | 0,_=>fun w hw=>absurd hw ((set_zero.1 rfl) w)
 | m + 1,hm=>fun w hw=>by
  have hm' : m<l.length:=by omega
  unfold uniU at hw
  split at hw
  · rcases has_or.1 hw with h1 | h1
    · exact uni_ov h k f m (by omega) w h1
    · have e : l.getD m ([],[])=l[m]:=by simp [hm']
      rw [e] at h1
      exact h _ (List.getElem_mem hm') f w h1
  · exact uni_ov h k f m (by omega) w hw
section
variable {l : List OO} {kind : Int} (h : MkO l kind)
include h
theorem MkO.rkl {o : OO} (ho : o ∈ l) : o.2.length=2 ^ (nam0 l).length:=by
 rw [(orderE_zero (h.ok o ho)).2.1,h.nm o ho]
theorem MkO.ov {o : OO} (ho : o ∈ l) (S : BitVec 64) : Ovr (2 ^ (nam0 l).length) (leastS o.1 o.2 S):=by
 have:=least_ov (h.ok o ho) S
 rwa [h.nm o ho] at this ⊢
theorem MkO.sz : szT ((nam0 l).length : Int)=2 ^ (2 ^ (nam0 l).length):=by
 rcases h.at_ with e | e <;> rw [e] <;> rfl
theorem MkO.lt {o : OO} (ho : o ∈ l) (S : BitVec 64) : (leastS o.1 o.2 S).toNat<16:=by
 have:=ov_lt (h.ov ho S)
 rcases h.at_ with e | e
 · rw [e] at this; omega
 · rw [e] at this; omega
theorem MkO.uni (k f : BitVec 64) {m : Nat} (hm : m≤l.length) : (uniU l k f m).toNat<16:=by
 have:=ov_lt (uni_ov (fun o ho=>h.ov ho) k f m hm)
 rcases h.at_ with e | e
 · rw [e] at this; omega
 · rw [e] at this; omega
end
def fil (l : List Int) (i : Nat) : List Int:=(List.range l.length).map fun (k : Nat)=>if k<i then l.getD k 0 else 0
theorem fil_len (l : List Int) (i : Nat) : (fil l i).length=l.length:=by simp [fil]
theorem fil_zero (l : List Int) : List.replicate l.length 0=fil l 0:=by
 unfold fil
 refine List.ext_getElem (by simp) fun i h1 h2=>?_
 simp
theorem fil_succ {l : List Int} {i : Nat} (hi : i<l.length) : (fil l i).set i (l.getD i 0)=fil l (i + 1):=by
 unfold fil
 refine List.ext_getElem (by simp) fun k h1 h2=>?_
 rw [List.getElem_set]
 simp only [List.getElem_map,List.getElem_range]
 by_cases h : i=k
 · subst h; simp
 · have : (k<i + 1)=(k<i):=propext ⟨fun h=>by omega,fun h=>by omega⟩
   simp [h,this]
theorem fil_end (l : List Int) : fil l l.length=l:=by
 unfold fil
 refine List.ext_getElem (by simp) fun k h1 h2=>?_
 simp [h2]
theorem fil_at {l : List Int} {i : Nat} (hi : i<l.length) : (fil l i).set i 0=fil l i:=by
 refine List.ext_getElem (by simp) fun k h1 h2=>?_
 rw [List.getElem_set]
 split
 · rename_i hk; subst hk; simp [fil]
 · rfl
theorem row_len (kind : Int) (l : List OO) (N k : Nat) : (rowT kind l N k).length=N:=by simp [rowT]
theorem row_get {kind : Int} {l : List OO} {N k f : Nat} (h : f<N) : (rowT kind l N k).getD f 0=((entB kind l N k f).toNat : Int):=by simp [rowT,h]
theorem tab_take (kind : Int) (l : List OO) {N k : Nat} (h : k<N) : (mkT kind l N).take (k + 1)=(mkT kind l N).take k++[rowT kind l N k]:=by
 rw [List.take_add_one,List.getElem?_eq_getElem (by simpa [mkT] using h)]
 simp [mkT]
theorem tab_len (kind : Int) (l : List OO) (N : Nat) : (mkT kind l N).length=N:=by simp [mkT]
theorem app_T {rows : List (List Int)} {r : List Int} (h : rows.length<1000000000) : PO.eval (.app 1 24) [tabD rows,.sl [[numsD r]]]=some [tabD (rows++[r])]:=by
 have:=ev_app (sz:=1) (bt:=24) (xs:=rows.map fun r=>[numsD r]) (ys:=[[numsD r]]) (by simp; omega) (by simp; omega) rfl
 simpa [tabD] using this
theorem tab_nil : D.sl []=tabD []:=rfl
structure FitO (n : Nat) (K : BitVec 64) (o : OO) : Prop where
 nm : o.1=vocN n
 ok : orderE o.1 o.2=0
 len : o.2.length=2 ^ n
 bel : K ≠ 0#64→beliefsS o.1 o.2=K
theorem fit_norm {n : Nat} (hn : n≤6) {K : BitVec 64} {rs : List Int} (hl : rs.length=2 ^ n) (hK : Ovr (2 ^ n) K) (h : ∀ w,w<2 ^ n→(K.getLsbD w=true→rs.getD w 0=0)∧(¬ K.getLsbD w=true→1≤rs.getD w 0)) : FitO n K (vocN n,normS rs):=by
 have hnl : (normS rs).length=2 ^ n:=by rw [← hl]; simp [normS]
 have hok : orderE (vocN n) (normS rs)=0:=by
  unfold orderE
  rw [if_pos ⟨vocN_ok hn,by rw [hnl,vocN_len]⟩,if_pos (norm_ok rs)]
 refine ⟨rfl,hok,hnl,fun hK0=>?_⟩
 have hp:=pat_norm rs
 have hL:=leastS_lst hok
 obtain ⟨u,hu⟩:=set_ne hK0
 have hu2:=hK u hu
 have hu0:=(h u hu2).1 hu
 have hle : ∀ a b,a<2 ^ n→b<2 ^ n→((normS rs).getD a (-1)≤(normS rs).getD b (-1) ↔ rs.getD a 0≤rs.getD b 0):=fun a b ha hb=>by
  have e1 : (normS rs).getD a (-1)=(normS rs).getD a 0:=by simp [show a<(normS rs).length by omega]
  have e2 : (normS rs).getD b (-1)=(normS rs).getD b 0:=by simp [show b<(normS rs).length by omega]
  rw [e1,e2]
  have:=hp.2 b a (by omega) (by omega)
  constructor
  · intro h; exact Int.not_lt.1 fun hx=>by have:=this.2 hx; omega
  · intro h; exact Int.not_lt.1 fun hx=>by have:=this.1 hx; omega
 refine set_eq fun w=>?_
 show has (leastS (vocN n) (normS rs) (BitVec.allOnes 64)) w ↔ has K w
 rw [hL.top,hnl]
 constructor
 · rintro ⟨h1,h2⟩
   have h3:=(hle w u h1 hu2).1 (h2 u hu2)
   exact Classical.byContradiction fun hn=>by have:=(h w h1).2 hn; omega
 · intro hw
   have hw2:=hK w hw
   refine ⟨hw2,fun v hv=>(hle w v hw2 hv).2 ?_⟩
   have h1:=(h w hw2).1 hw
   by_cases hv2 : K.getLsbD v=true
   · have:=(h v hv).1 hv2; omega
   · have:=(h v hv).2 hv2; omega
end Am

namespace Am
open Go
theorem ov_small {N k : Nat} (hN : N=2∨N=4) (hk : k<2 ^ N) : Ovr N (BitVec.ofNat 64 k):=fun w hw=>by
 have h1 : (BitVec.ofNat 64 k).toNat=k:=by
  rw [BitVec.toNat_ofNat,Nat.mod_eq_of_lt]
  rcases hN with rfl | rfl <;> omega
 have h2 : (BitVec.ofNat 64 k).getLsbD w=true:=hw
 rw [BitVec.getLsbD,h1] at h2
 exact Classical.byContradiction fun hn=>by
  have:=Nat.testBit_lt_two_pow (x:=k) (i:=w) (Nat.lt_of_lt_of_le hk (Nat.pow_le_pow_right (by omega) (by omega)))
  rw [this] at h2; cases h2
structure FitL (n : Nat) (kind : Int) (os : List OO) : Prop where
 len : os.length=wantN kind n
 fit : ∀ i (h : i<os.length),FitO n (bse kind i) os[i]
theorem fitL_sane {n : Nat} (hn : n=1∨n=2) {kind : Int} {os : List OO} (h : FitL n kind os) : Sane os:=by
 have key : ∀ o ∈ os,o.1=vocN n∧o.2.length=2 ^ n:=fun o ho=>by
  obtain ⟨i,hi,rfl⟩:=List.getElem_of_mem ho
  exact ⟨(h.fit i hi).nm,(h.fit i hi).len⟩
 have h4 : 2 ^ n≤4:=by rcases hn with rfl | rfl <;> decide
 have h16 : 2 ^ (2 ^ n)≤16:=by rcases hn with rfl | rfl <;> decide
 refine ⟨?_,fun o ho=>?_,fun o ho s hs=>?_,fun o ho=>?_⟩
 · rw [h.len]; unfold wantN; split <;> omega
 · rw [(key o ho).1,vocN_len]; omega
 · rw [(key o ho).1] at hs; rw [vocN_short s hs]; omega
 · rw [(key o ho).2]; omega
def tabG (m : Nat) (G : Nat→Nat→BitVec 64) : List (List Int):=(List.range m).map fun k=>(List.range m).map fun f=>((G k f).toNat : Int)
theorem mkT_G (kind : Int) (l : List OO) (N : Nat) : mkT kind l N=tabG N (entB kind l N):=rfl
theorem tabG_len (m : Nat) (G : Nat→Nat→BitVec 64) : (tabG m G).length=m:=by simp [tabG]
theorem tabG_row {m : Nat} {G : Nat→Nat→BitVec 64} {r : List Int} (h : r ∈ tabG m G) : r.length=m:=by
 obtain ⟨k,_,rfl⟩:=List.mem_map.1 h
 simp
theorem tabG_vld {a : Int} (ha : a=1∨a=2) {G : Nat→Nat→BitVec 64} (h : ∀ k f,k<szT a→f<szT a→(G k f).toNat<szT a) : Vld a (tabG (szT a) G):=by
 refine ⟨ha,tabG_len _ _,fun r hr=>tabG_row hr,fun r hr x hx=>?_⟩
 obtain ⟨k,hk,rfl⟩:=List.mem_map.1 hr
 obtain ⟨f,hf,rfl⟩:=List.mem_map.1 hx
 have:=h k f (List.mem_range.1 hk) (List.mem_range.1 hf)
 exact ⟨by omega,by omega⟩
theorem tabG_t {m : Nat} {G : Nat→Nat→BitVec 64} {k f : BitVec 64} (hk : k.toNat<m) (hf : f.toNat<m) : tOf (tabG m G) k f=G k.toNat f.toNat:=by
 unfold tOf tabG
 simp [hk,hf]
theorem bQ_nil {kind a : Int} {rows : List (List Int)} (h : ∀ p k f g,1≤p→p≤(postN kind).1→k<szT a→f<szT a→g<szT a→hB kind a rows p k f g=true) : bQ kind a rows=[]:=by
 refine List.eq_nil_iff_forall_not_mem.2 fun b hb=>?_
 obtain ⟨h1,h2,h3,h4,h5,_,h6⟩:=(mem_brL b).1 hb
 rw [h _ _ _ _ h1 h2 h3 h4 h5] at h6
 cases h6
theorem szT_pow {n : Nat} (hn : n=1∨n=2) : szT (n : Int)=2 ^ (2 ^ n):=by rcases hn with rfl | rfl <;> rfl
theorem toNat_small {x m : Nat} (h : x<m) (hm : m≤16) : (BitVec.ofNat 64 x).toNat=x:=by
 rw [BitVec.toNat_ofNat]; exact Nat.mod_eq_of_lt (by omega)
theorem pow_cases {n : Nat} (hn : n=1∨n=2) : 2 ^ n=2∨2 ^ n=4:=by rcases hn with rfl | rfl <;> simp
theorem anyI_true {q : Nat→OO→Bool} : ∀ {l : List OO} {i : Nat},anyI q i l=true→∃ (j : Nat) (h : j<l.length),q (i + j) l[j]=true
 | [],i,h=>by simp [anyI] at h
 | o :: l,i,h=>by
  simp only [anyI,Bool.or_eq_true] at h
  rcases h with h | h
  · exact ⟨0,by simp,h⟩
  · obtain ⟨j,hj,h⟩:=anyI_true h
    refine ⟨j + 1,by simp; omega,?_⟩
    rw [show i + (j + 1)=i + 1 + j by omega]
    simpa using h
theorem fitL_at {n : Nat} {kind : Int} {os : List OO} (h : FitL n kind os) {i : Nat} (hi : i<os.length) : FitO n (bse kind i) (os.getD i ([],[])):=by
 rw [List.getD_eq_getElem?_getD,List.getElem?_eq_getElem hi]
 exact h.fit i hi
theorem fitL_mk {n : Nat} (hn : n=1∨n=2) {kind : Int} (hk : kind=1∨kind=2∨kind=3) {os : List OO} (h : FitL n kind os) : mkE os kind=0∧nam0 os=vocN n∧MkO os kind:=by
 have hp : 0<os.length:=by rw [h.len]; unfold wantN; split <;> exact Nat.two_pow_pos _
 have hnam : nam0 os=vocN n:=(fitL_at h hp).nm
 have hk0 : ¬ (postN kind).1=0:=by rcases hk with rfl | rfl | rfl <;> decide
 have hany : os.any (badO (nam0 os))=false:=by
  rw [List.any_eq_false]
  intro o ho
  obtain ⟨i,hi,rfl⟩:=List.getElem_of_mem ho
  have hf:=h.fit i hi
  have h1 : ¬ os[i].1.length<1:=by rw [hf.nm,vocN_len]; omega
  have h2 : ¬ os[i].1.length > 2:=by rw [hf.nm,vocN_len]; omega
  have h3 : os[i].1=nam0 os:=by rw [hf.nm,hnam]
  unfold badO
  rw [decide_eq_true hf.ok,decide_eq_false h1,decide_eq_false h2,decide_eq_true h3]
  decide
 have hlen : os.length=wantN kind (nam0 os).length:=by rw [h.len,hnam,vocN_len]
 have hb : ¬ anyI (badB kind) 0 os=true:=fun hc=>by
  obtain ⟨j,hj,hc⟩:=anyI_true hc
  rw [Nat.zero_add] at hc
  unfold badB at hc
  rw [Bool.and_eq_true,Bool.not_eq_true',Bool.not_eq_true',decide_eq_false_iff_not,decide_eq_false_iff_not] at hc
  exact hc.2 ((h.fit j hj).bel hc.1)
 have hE : mkE os kind=0:=by
  unfold mkE
  rw [if_neg hk0,if_neg (by omega),if_neg (by rw [hany]; decide),if_neg (by simpa using hlen),if_neg hb]
 refine ⟨hE,hnam,?_⟩
 rcases mkE_cases os kind with c | c | c | c | c
 · omega
 · omega
 · omega
 · omega
 · exact c.1
theorem has_uni (l : List OO) (k f : BitVec 64) : ∀ (m w : Nat),has (uniU l k f m) w ↔ ∃ v,v<m∧has k v∧has (leastS (l.getD v ([],[])).1 (l.getD v ([],[])).2 f) w
 | 0,w=>⟨fun h=>absurd h (by simp [uniU,has]),fun ⟨v,h,_⟩=>absurd h (by omega)⟩
 | m + 1,w=>by
  have ih:=has_uni l k f m w
  have step : has (uniU l k f (m + 1)) w ↔ has (uniU l k f m) w∨(has k m∧has (leastS (l.getD m ([],[])).1 (l.getD m ([],[])).2 f) w):=by
   by_cases hk : k.getLsbD m=true
   · simp only [uniU,if_pos hk,has_or]
     exact or_congr_right ⟨fun h=>⟨hk,h⟩,fun h=>h.2⟩
   · simp only [uniU,if_neg hk]
     exact ⟨.inl,fun h=>h.resolve_right fun h=>hk h.1⟩
  rw [step,ih]
  constructor
  · rintro (⟨v,h1,h2,h3⟩ | ⟨h2,h3⟩)
    · exact ⟨v,by omega,h2,h3⟩
    · exact ⟨m,by omega,h2,h3⟩
  · rintro ⟨v,h1,h2,h3⟩
    by_cases hv : v=m
    · subst hv; exact .inr ⟨h2,h3⟩
    · exact .inl ⟨v,by omega,h2,h3⟩
theorem allA {n : Nat} (hn : n=1∨n=2) (w : Nat) : has (BitVec.ofNat 64 (szT (n : Int) - 1)) w ↔ w<2 ^ n:=by
 by_cases hw : w<64
 · rcases hn with rfl | rfl
   · have : ∀ w,w<64→((BitVec.ofNat 64 (szT ((1 : Nat) : Int) - 1)).getLsbD w=true ↔ w<2 ^ 1):=by decide +kernel
     exact this w hw
   · have : ∀ w,w<64→((BitVec.ofNat 64 (szT ((2 : Nat) : Int) - 1)).getLsbD w=true ↔ w<2 ^ 2):=by decide +kernel
     exact this w hw
 · have : 2 ^ n≤4:=by rcases hn with rfl | rfl <;> decide
   exact ⟨fun h=>absurd (has_lt h) hw,fun h=>by omega⟩
theorem comA {n : Nat} (hn : n=1∨n=2) {f : Nat} (hf : f<szT (n : Int)) : BitVec.ofNat 64 (2 ^ (2 ^ n) - 1 - f)=BitVec.ofNat 64 (szT (n : Int) - 1) &&& ~~~BitVec.ofNat 64 f:=by
 rcases hn with rfl | rfl
 · have : ∀ f,f<4→BitVec.ofNat 64 (2 ^ (2 ^ 1) - 1 - f)=BitVec.ofNat 64 (szT ((1 : Nat) : Int) - 1) &&& ~~~BitVec.ofNat 64 f:=by decide +kernel
   exact this f hf
 · have : ∀ f,f<16→BitVec.ofNat 64 (2 ^ (2 ^ 2) - 1 - f)=BitVec.ofNat 64 (szT ((2 : Nat) : Int) - 1) &&& ~~~BitVec.ofNat 64 f:=by decide +kernel
   exact this f hf
theorem bv_self (x : BitVec 64) : BitVec.ofNat 64 x.toNat=x:=by simp
theorem fit_tab {n : Nat} (hn : n=1∨n=2) {kind : Int} (hk : kind=1∨kind=2∨kind=3) {os : List OO} (h : FitL n kind os) : Vld (n : Int) (mkT kind os (2 ^ (2 ^ n)))∧bQ kind (n : Int) (mkT kind os (2 ^ (2 ^ n)))=[]:=by
 obtain ⟨hE,hnam,hM⟩:=fitL_mk hn hk h
 have hsz:=szT_pow hn
 have hN4 : 2 ^ n≤4:=by rcases hn with rfl | rfl <;> decide
 have h16 : 2 ^ (2 ^ n)≤16:=by rcases hn with rfl | rfl <;> decide
 have hov : ∀ o ∈ os,∀ S,Ovr (2 ^ n) (leastS o.1 o.2 S):=fun o ho S=>by have:=hM.ov ho S; rwa [hnam,vocN_len] at this
 have ovn : ∀ {k : Nat},k<2 ^ (2 ^ n)→Ovr (2 ^ n) (BitVec.ofNat 64 k):=fun hk=>ov_small (pow_cases hn) hk
 have ovlt : ∀ {x : BitVec 64},Ovr (2 ^ n) x→x.toNat<szT (n : Int):=fun hx=>by rw [hsz]; exact ov_lt hx
 have memD : ∀ {i : Nat},i<os.length→os.getD i ([],[]) ∈ os:=fun {i} hi=>by
  rw [List.getD_eq_getElem?_getD,List.getElem?_eq_getElem hi]; exact List.getElem_mem hi
 have hlst : ∀ {i : Nat},i<os.length→Lst (2 ^ n) (fun w=>(os.getD i ([],[])).2.getD w (-1)) (leastS (os.getD i ([],[])).1 (os.getD i ([],[])).2):=fun {i} hi=>by
  have:=leastS_lst (fitL_at h hi).ok
  rwa [(fitL_at h hi).len] at this
 have hfit : ∀ {i : Nat},i<os.length→Fit (bse kind i) (leastS (os.getD i ([],[])).1 (os.getD i ([],[])).2):=fun {i} hi=>(fitL_at h hi).bel
 rw [mkT_G]
 rw [← hsz]
 rcases hk with rfl | rfl | rfl
 · have hlen : os.length=szT (n : Int):=by rw [h.len,hsz]; rfl
   refine ⟨tabG_vld (by rcases hn with rfl | rfl <;> decide) fun k f hk hf=>ovlt ?_,bQ_nil fun p k f g _ _ hk hf hg=>?_⟩
   · exact hov _ (memD (by omega)) _
   · have k64:=toNat_small hk (szT_le _)
     have hf':=hfit (i:=k) (by omega)
     have : bse 1 k=BitVec.ofNat 64 k:=rfl
     rw [this] at hf'
     exact rev_none (hlst (i:=k) (by omega)) hf' (fun x hx=>by
      rw [tabG_t (by rw [k64]; exact hk) (ovlt hx)]
      unfold entB
      rw [if_pos rfl,k64,bv_self]) (ovn (by rw [← hsz]; exact hf)) p
 · have hlen : os.length=szT (n : Int):=by rw [h.len,hsz]; rfl
   refine ⟨tabG_vld (by rcases hn with rfl | rfl <;> decide) fun k f hk hf=>?_,bQ_nil fun p k f g _ _ hk hf hg=>?_⟩
   · unfold entB
     rw [if_neg (by decide),if_pos rfl]
     exact or_lt (by rw [toNat_small hk (szT_le _)]; exact hk) (ovlt (hov _ (memD (by omega)) _))
   · have k64:=toNat_small hk (szT_le _)
     have hf':=hfit (i:=k) (by omega)
     have : bse 2 k=BitVec.ofNat 64 k:=rfl
     rw [this] at hf'
     exact con_none (hlst (i:=k) (by omega)) (allA hn) hf' (fun x hx=>by
      rw [tabG_t (by rw [k64]; exact hk) (ovlt hx)]
      unfold entB
      rw [if_neg (by decide),if_pos rfl,k64]
      have:=comA hn (ovlt hx)
      rw [← hsz,bv_self] at this
      rw [this]) (ovn (by rw [← hsz]; exact hf)) (ovn (by rw [← hsz]; exact hg)) p
 · have hlen : os.length=2 ^ n:=by rw [h.len]; rfl
   refine ⟨tabG_vld (by rcases hn with rfl | rfl <;> decide) fun k f hk hf=>ovlt ?_,bQ_nil fun p k f g _ _ hk hf hg=>?_⟩
   · unfold entB
     rw [if_neg (by decide),if_neg (by decide)]
     exact uni_ov hov _ _ _ (Nat.le_refl _)
   · refine upd_none (N:=2 ^ n) (r:=fun i w=>(os.getD i ([],[])).2.getD w (-1)) (L:=fun i=>leastS (os.getD i ([],[])).1 (os.getD i ([],[])).2) (fun v hv=>hlst (by omega)) (fun v hv w=>?_) (fun k f hk hf w=>?_) hN4 (ovn (by rw [← hsz]; exact hk)) (ovn (by rw [← hsz]; exact hf)) (ovn (by rw [← hsz]; exact hg)) p
     · have h1:=hfit (i:=v) (by omega)
       have h2 : bse 3 v=1#64 <<< v:=rfl
       rw [h2] at h1
       have h3 : ∀ w,has (1#64 <<< v) w ↔ w=v:=fun w=>by
        rw [has,one_shl_get _ _ (by omega)]; simp
       have h4 : (1#64 <<< v) ≠ 0#64:=ne_of_has ((h3 v).2 rfl)
       rw [h1 h4]
       exact h3 w
     · rw [tabG_t (ovlt hk) (ovlt hf)]
       unfold entB
       rw [if_neg (by decide),if_neg (by decide),bv_self,bv_self,has_uni,hlen]
end Am

namespace Am
open Go
def cR (kind : Int) (A : BitVec 64) (t : Tbl) (k : BitVec 64) (S : BitVec 64) : BitVec 64:=if kind=2 then t k (A &&& ~~~S) else t k S
def alA (a : Int) : BitVec 64:=BitVec.ofNat 64 (szT a - 1)
def ordR (kind a : Int) (rows : List (List Int)) (i : Nat) : Option (List Int):=lvlR (cR kind (alA a) (tOf rows) (BitVec.ofNat 64 i)) (2 ^ a.toNat) 0 (alA a) (List.replicate (2 ^ a.toNat) 0)
def ordO (kind a : Int) (rows : List (List Int)) (names : List (List UInt8)) : List OO:=(List.range (szT a)).map fun i=>(names,normS ((ordR kind a rows i).getD []))
def ordB (kind a : Int) (rows : List (List Int)) (names : List (List UInt8)) : Bool:=(List.range (szT a)).all (fun i=>(ordR kind a rows i).isSome) && (decide (mkE (ordO kind a rows names) kind=0) && decide (mkT kind (ordO kind a rows names) (2 ^ (2 ^ (nam0 (ordO kind a rows names)).length))=rows))
def ordV (kind a : Int) (rows : List (List Int)) (names : List (List UInt8)) : List D:=if ordB kind a rows names=true then [osD (ordO kind a rows names),.int .i64 0] else [.sl [],.int .i64 9]
theorem lvlR_cg {N : Nat} {c c' : BitVec 64→BitVec 64} (h : ∀ S,Ovr N S→c S &&& S=c' S &&& S) : ∀ (m l : Nat) (S : BitVec 64) (q : List Int),Ovr N S→lvlR c m l S q=lvlR c' m l S q
 | 0,_,_,_,_=>rfl
 | m + 1,l,S,q,hS=>by
  unfold lvlR
  rw [h S hS,lvlR_cg h m _ _ _ fun w hw=>hS w (has_diff.1 hw).1]
theorem chs_least {n : Nat} {K : BitVec 64} {o : OO} (h : FitO n K o) : Chs (2 ^ n) o.2 (leastS o.1 o.2):=fun S hS w=>by
 have hl:=leastS_lst h.ok
 rw [h.len] at hl
 rw [hl.get]
 have g : ∀ v,v<2 ^ n→o.2.getD v (-1)=o.2.getD v 0:=fun v hv=>by
  have : v<o.2.length:=by rw [h.len]; exact hv
  simp [this]
 constructor
 · rintro ⟨h1,h2,h3⟩
   exact ⟨h1,h2,fun v hv hs=>by have:=h3 v hv hs; rwa [g w h1,g v hv] at this⟩
 · rintro ⟨h1,h2,h3⟩
   exact ⟨h1,h2,fun v hv hs=>by have:=h3 v hv hs; rw [← g w h1,← g v hv] at this; exact this⟩
section
variable {n : Nat} (hn : n=1∨n=2) {kind : Int} (hk : kind=1∨kind=2)
include hn
theorem ovA : Ovr (2 ^ n) (alA n):=fun w h=>(allA hn w).1 h
theorem andA {S : BitVec 64} (hS : Ovr (2 ^ n) S) : alA n &&& ~~~(alA n &&& ~~~S)=S:=set_eq fun w=>by
 rw [has_diff,has_diff]
 constructor
 · rintro ⟨h1,h2⟩
   exact Classical.byContradiction fun h=>h2 ⟨h1,h⟩
 · intro h
   exact ⟨(allA hn w).2 (hS w h),fun h2=>h2.2 h⟩
include hk
theorem cR_fit {os : List OO} (h : FitL n kind os) {i : Nat} (hi : i<os.length) {S : BitVec 64} (hS : Ovr (2 ^ n) S) :
 cR kind (alA n) (tOf (mkT kind os (2 ^ (2 ^ n)))) (BitVec.ofNat 64 i) S &&& S=leastS (os.getD i ([],[])).1 (os.getD i ([],[])).2 S &&& S:=by
 have hsz:=szT_pow hn
 have hlen : os.length=2 ^ (2 ^ n):=by rw [h.len]; unfold wantN; rw [if_neg (by omega)]
 have h16 : 2 ^ (2 ^ n)≤16:=by rcases hn with rfl | rfl <;> decide
 have k64 : (BitVec.ofNat 64 i).toNat=i:=toNat_small (by omega) h16
 have ovlt : ∀ {x : BitVec 64},Ovr (2 ^ n) x→x.toNat<2 ^ (2 ^ n):=fun hx=>ov_lt hx
 have hfit:=fitL_at h hi
 have oc : Ovr (2 ^ n) (alA n &&& ~~~S):=fun w hw=>ovA hn w (has_diff.1 hw).1
 rw [mkT_G]
 rcases hk with rfl | rfl
 · unfold cR
   rw [if_neg (by decide),tabG_t (by rw [k64]; omega) (ovlt hS)]
   unfold entB
   rw [if_pos rfl,k64,bv_self]
 · unfold cR
   rw [if_pos rfl,tabG_t (by rw [k64]; omega) (ovlt oc)]
   unfold entB
   rw [if_neg (by decide),if_pos rfl,k64]
   have e1:=comA hn (f:=(alA n &&& ~~~S).toNat) (by rw [hsz]; exact ovlt oc)
   rw [bv_self] at e1
   have e2 : BitVec.ofNat 64 (szT (n : Int) - 1) &&& ~~~(alA n &&& ~~~S)=S:=andA hn hS
   rw [e2] at e1
   rw [e1]
   refine set_eq fun w=>?_
   rw [has_and,has_or,has_and]
   constructor
   · rintro ⟨h1 | h1,h2⟩
     · refine ⟨?_,h2⟩
       have hl:=leastS_lst hfit.ok
       have hF : Fit (BitVec.ofNat 64 i) (leastS (os.getD i ([],[])).1 (os.getD i ([],[])).2):=hfit.bel
       have hm:=fit_mem hl hF h1
       exact (hl.get S w).2 ⟨hm.1,h2,fun v hv _=>hm.2 v hv⟩
     · exact ⟨h1,h2⟩
   · rintro ⟨h1,h2⟩
     exact ⟨.inr h1,h2⟩
theorem ordR_fit {os : List OO} (h : FitL n kind os) {i : Nat} (hi : i<os.length) : ∃ q,ordR kind n (mkT kind os (2 ^ (2 ^ n))) i=some q∧normS q=(os.getD i ([],[])).2:=by
 have hfit:=fitL_at h hi
 have h64 : 2 ^ n≤64:=by rcases hn with rfl | rfl <;> decide
 have hrk : rkOk (os.getD i ([],[])).2=true:=(orderE_zero hfit.ok).2.2
 obtain ⟨q,h1,h2⟩:=lvl_norm h64 hfit.len (chs_least hfit) (A:=alA n) (fun w=>allA hn w) hrk
 refine ⟨q,?_,h2⟩
 unfold ordR
 rw [Int.toNat_natCast]
 rw [lvlR_cg (c':=leastS (os.getD i ([],[])).1 (os.getD i ([],[])).2) (N:=2 ^ n) (fun S hS=>cR_fit hn hk h hi hS) _ _ _ _ (ovA hn)]
 exact h1
theorem ordO_fit {os : List OO} (h : FitL n kind os) : ordO kind n (mkT kind os (2 ^ (2 ^ n))) (vocN n)=os∧((List.range (szT (n : Int))).all fun i=>(ordR kind n (mkT kind os (2 ^ (2 ^ n))) i).isSome)=true:=by
 have hlen : os.length=szT (n : Int):=by rw [h.len,szT_pow hn]; unfold wantN; rw [if_neg (by omega)]
 constructor
 · unfold ordO
   refine List.ext_getElem (by simp [hlen]) fun i h1 h2=>?_
   obtain ⟨q,e1,e2⟩:=ordR_fit hn hk h h2
   simp only [List.getElem_map,List.getElem_range,e1,Option.getD_some,e2]
   have:=fitL_at h h2
   have e3 : os.getD i ([],[])=os[i]:=by rw [List.getD_eq_getElem?_getD,List.getElem?_eq_getElem h2]; rfl
   rw [e3] at this ⊢
   rw [← this.nm]
 · rw [List.all_eq_true]
   intro i hi
   obtain ⟨q,e1,_⟩:=ordR_fit hn hk h (i:=i) (by rw [hlen]; exact List.mem_range.1 hi)
   rw [e1]; rfl
theorem ordV_fit {os : List OO} (h : FitL n kind os) : ordV kind n (mkT kind os (2 ^ (2 ^ n))) (vocN n)=[osD os,.int .i64 0]:=by
 obtain ⟨e1,e2⟩:=ordO_fit hn hk h
 obtain ⟨hE,hnam,_⟩:=fitL_mk hn (by omega) h
 unfold ordV ordB
 rw [e1,e2,hE,hnam,vocN_len]
 simp
theorem fit_of_mk {os : List OO} (hnm : ∀ o ∈ os,o.1=vocN n) (he : mkE os kind=0) : FitL n kind os:=by
 rcases mkE_cases os kind with c | c | c | c | ⟨hM,c⟩
 · omega
 · omega
 · omega
 · omega
 · have hb : ¬ anyI (badB kind) 0 os=true:=fun hx=>by rw [if_pos hx,he] at c; cases c
   have hn0 : nam0 os=vocN n:=by
    have hp:=hM.pos
    unfold nam0
    rw [List.getD_eq_getElem?_getD,List.getElem?_eq_getElem hp]
    exact hnm _ (List.getElem_mem hp)
   have key : ∀ (l : List OO) (i : Nat),¬ anyI (badB kind) i l=true→∀ j (h : j<l.length),¬ badB kind (i + j) l[j]=true:=fun l=>by
    induction l with
    | nil=>intro i _ j h; simp at h
    | cons o l ih=>
     intro i hb j hj
     simp only [anyI,Bool.or_eq_true,not_or] at hb
     cases j with
     | zero=>exact hb.1
     | succ j=>
      have:=ih (i + 1) hb.2 j (by simpa using hj)
      rw [show i + (j + 1)=i + 1 + j by omega]
      simpa using this
   refine ⟨by rw [hM.len,hn0,vocN_len],fun i hi=>⟨hnm _ (List.getElem_mem hi),hM.ok _ (List.getElem_mem hi),?_,fun hK=>?_⟩⟩
   · have:=hM.rkl (List.getElem_mem hi)
     rwa [hn0,vocN_len] at this
   · have:=key os 0 hb i hi
     rw [Nat.zero_add] at this
     unfold badB at this
     rw [decide_eq_false hK] at this
     simpa using this
theorem ordV_br {rows : List (List Int)} (hq : bQ kind n rows ≠ []) : ordV kind n rows (vocN n)=[.sl [],.int .i64 9]:=by
 unfold ordV
 rw [if_neg]
 intro hb
 unfold ordB at hb
 simp only [Bool.and_eq_true,decide_eq_true_eq] at hb
 obtain ⟨_,h1,h2⟩:=hb
 have hnm : ∀ o ∈ ordO kind n rows (vocN n),o.1=vocN n:=fun o ho=>by
  obtain ⟨i,_,rfl⟩:=List.mem_map.1 ho; rfl
 have hF:=fit_of_mk hn hk hnm h1
 obtain ⟨_,hnam,_⟩:=fitL_mk hn (by omega) hF
 rw [hnam,vocN_len] at h2
 have:=(fit_tab hn (by omega) hF).2
 rw [h2] at this
 exact hq this
end
section
variable {n : Nat} (hn : n=1∨n=2) {kind : Int} (hk : kind=1∨kind=2) {rows : List (List Int)} (hv : Vld n rows) (hq : bQ kind n rows=[])
include hn hk hv hq
theorem nobr_holds {p k f g : Nat} (h1 : 1≤p) (h2 : p≤(postN kind).1) (k1 : k<szT (n : Int)) (f1 : f<szT (n : Int)) (g1 : g<szT (n : Int)) (hg : p≤(postN kind).2→g=0) : hB kind n rows p k f g=true:=by
 cases h : hB kind n rows p k f g with
 | true=>rfl
 | false=>
  have : ((p,k,f,g) : Brc) ∈ bQ kind n rows:=(mem_brL _).2 ⟨h1,h2,k1,f1,g1,hg,h⟩
  rw [hq] at this
  cases this
theorem nobr_t {k f : BitVec 64} (hk1 : k.toNat<szT (n : Int)) (hf1 : f.toNat<szT (n : Int)) : Ovr (2 ^ n) (tOf rows k f):=by
 have h:=t_lt hv hk1 hf1
 have:=ov_small (pow_cases hn) (k:=(tOf rows k f).toNat) (by rw [← szT_pow hn]; exact h)
 rwa [bv_self] at this
theorem nobr_rev (h1 : kind=1) {k : Nat} (k1 : k<szT (n : Int)) : ∀ p,1≤p→p≤5→∀ f g,Ovr (2 ^ n) f→Ovr (2 ^ n) g→revT (tOf rows) p (BitVec.ofNat 64 k) f g=true:=by
 intro p p1 p5 f g hf hg
 have lf : f.toNat<szT (n : Int):=by rw [szT_pow hn]; exact ov_lt hf
 have lg : g.toNat<szT (n : Int):=by rw [szT_pow hn]; exact ov_lt hg
 have l0 : 0<szT (n : Int):=by omega
 by_cases h3 : p≤3
 · have:=nobr_holds hn hk hv hq (p:=p) (k:=k) (f:=f.toNat) (g:=0) p1 (by rw [h1]; exact p5) k1 lf l0 (fun _=>rfl)
   unfold hB holdsB at this
   rw [if_pos h1,bv_self] at this
   rcases (by omega : p=1∨p=2∨p=3) with rfl | rfl | rfl
   · exact this
   · exact this
   · exact this
 · have:=nobr_holds hn hk hv hq (p:=p) (k:=k) (f:=f.toNat) (g:=g.toNat) p1 (by rw [h1]; exact p5) k1 lf lg (fun h=>absurd (by rw [h1] at h; exact h) h3)
   unfold hB holdsB at this
   rwa [if_pos h1,bv_self,bv_self] at this
theorem nobr_con (h2 : kind=2) {k : Nat} (k1 : k<szT (n : Int)) : ∀ p,1≤p→p≤6→∀ f g,Ovr (2 ^ n) f→Ovr (2 ^ n) g→conT (alA n) (tOf rows) p (BitVec.ofNat 64 k) f g=true:=by
 intro p p1 p5 f g hf hg
 have lf : f.toNat<szT (n : Int):=by rw [szT_pow hn]; exact ov_lt hf
 have lg : g.toNat<szT (n : Int):=by rw [szT_pow hn]; exact ov_lt hg
 have l0 : 0<szT (n : Int):=by omega
 have hne : ¬ kind=1:=by omega
 by_cases h3 : p≤4
 · have:=nobr_holds hn hk hv hq (p:=p) (k:=k) (f:=f.toNat) (g:=0) p1 (by rw [h2]; exact p5) k1 lf l0 (fun _=>rfl)
   unfold hB holdsB at this
   rw [if_neg hne,if_pos h2,bv_self] at this
   rcases (by omega : p=1∨p=2∨p=3∨p=4) with rfl | rfl | rfl | rfl
   · exact this
   · exact this
   · exact this
   · exact this
 · have:=nobr_holds hn hk hv hq (p:=p) (k:=k) (f:=f.toNat) (g:=g.toNat) p1 (by rw [h2]; exact p5) k1 lf lg (fun h=>absurd (by rw [h2] at h; exact h) h3)
   unfold hB holdsB at this
   rwa [if_neg hne,if_pos h2,bv_self,bv_self] at this
def chR (kind : Int) (n : Nat) (rows : List (List Int)) (k : Nat) : BitVec 64→BitVec 64:=fun S=>if kind=2 then tOf rows (BitVec.ofNat 64 k) (alA n &&& ~~~S) &&& S else tOf rows (BitVec.ofNat 64 k) S
theorem chR_cho {k : Nat} (k1 : k<szT (n : Int)) : Cho (2 ^ n) (chR kind n rows k)∧(BitVec.ofNat 64 k ≠ 0#64→chR kind n rows k (alA n)=BitVec.ofNat 64 k)∧
 ∀ f,Ovr (2 ^ n) f→tOf rows (BitVec.ofNat 64 k) f=if kind=2 then BitVec.ofNat 64 k ||| chR kind n rows k (alA n &&& ~~~f) else chR kind n rows k f:=by
 have h64 : 2 ^ n≤64:=by rcases hn with rfl | rfl <;> decide
 have hA : ∀ w,has (alA n) w ↔ w<2 ^ n:=fun w=>allA hn w
 have ok : Ovr (2 ^ n) (BitVec.ofNat 64 k):=ov_small (pow_cases hn) (by rw [← szT_pow hn]; exact k1)
 have k64 : (BitVec.ofNat 64 k).toNat<szT (n : Int):=by rw [toNat_small k1 (szT_le _)]; exact k1
 have lt : ∀ {f},Ovr (2 ^ n) f→f.toNat<szT (n : Int):=fun hf=>by rw [szT_pow hn]; exact ov_lt hf
 have ot : ∀ f,Ovr (2 ^ n) f→Ovr (2 ^ n) (tOf rows (BitVec.ofNat 64 k) f):=fun f hf=>nobr_t hn hk hv hq k64 (lt hf)
 by_cases h2 : kind=2
 · obtain ⟨c1,c2,c3⟩:=con_cho h64 hA ot (nobr_con hn hk hv hq h2 k1)
   have e : chR kind n rows k=fun S=>tOf rows (BitVec.ofNat 64 k) (alA n &&& ~~~S) &&& S:=by funext S; unfold chR; rw [if_pos h2]
   rw [e]
   refine ⟨c1,fun hK=>?_,fun f hf=>?_⟩
   · have e0 : alA n &&& ~~~(alA n)=0#64:=set_zero.2 fun w h=>(has_diff.1 h).2 (has_diff.1 h).1
     have : tOf rows (BitVec.ofNat 64 k) 0#64=BitVec.ofNat 64 k:=c2 hK
     simp only [e0]
     rw [this]
     exact set_eq fun w=>by rw [has_and]; exact ⟨fun x=>x.1,fun x=>⟨x,(hA w).2 (ok w x)⟩⟩
   · rw [if_pos h2]; exact c3 f hf
 · have h1 : kind=1:=by omega
   obtain ⟨c1,c2⟩:=rev_cho h64 hA ok (nobr_rev hn hk hv hq h1 k1)
   have e : chR kind n rows k=tOf rows (BitVec.ofNat 64 k):=by funext S; unfold chR; rw [if_neg h2]
   rw [e]
   exact ⟨c1,c2,fun f hf=>by rw [if_neg h2]⟩
theorem nobr_orders : ∃ os,FitL n kind os∧mkT kind os (2 ^ (2 ^ n))=rows:=by
 have h64 : 2 ^ n≤64:=by rcases hn with rfl | rfl <;> decide
 have hA : ∀ w,has (alA n) w ↔ w<2 ^ n:=fun w=>allA hn w
 have hsz:=szT_pow hn
 have h16:=szT_le (n : Int)
 obtain ⟨os,hos⟩ : ∃ os : List OO,os=(List.range (szT (n : Int))).map fun k=>(vocN n,normS ((List.range (2 ^ n)).map fun a=>(rkc (chR kind n rows k) (2 ^ n) a : Int))):=⟨_,rfl⟩
 have hlen : os.length=szT (n : Int):=by rw [hos]; simp
 have hget : ∀ k (h : k<szT (n : Int)),os.getD k ([],[])=(vocN n,normS ((List.range (2 ^ n)).map fun a=>(rkc (chR kind n rows k) (2 ^ n) a : Int))):=fun k h=>by rw [hos]; simp [h]
 have fits : ∀ k (h : k<szT (n : Int)),FitO n (BitVec.ofNat 64 k) (os.getD k ([],[]))∧∀ S,Ovr (2 ^ n) S→leastS (os.getD k ([],[])).1 (os.getD k ([],[])).2 S=chR kind n rows k S:=fun k h=>by
  obtain ⟨c1,c2,_⟩:=chR_cho hn hk hv hq h
  obtain ⟨r1,r2⟩:=cho_norm c1
  rw [hget k h]
  have hl : (normS ((List.range (2 ^ n)).map fun a=>(rkc (chR kind n rows k) (2 ^ n) a : Int))).length=2 ^ n:=by simp [normS]
  have hok : orderE (vocN n) (normS ((List.range (2 ^ n)).map fun a=>(rkc (chR kind n rows k) (2 ^ n) a : Int)))=0:=by
   unfold orderE
   rw [if_pos ⟨vocN_ok (by omega),by rw [hl,vocN_len]⟩,if_pos r1]
  have hL:=leastS_lst hok
  rw [hl] at hL
  generalize normS ((List.range (2 ^ n)).map fun a=>(rkc (chR kind n rows k) (2 ^ n) a : Int))=o at *
  have g : ∀ v,v<2 ^ n→o.getD v (-1)=o.getD v 0:=fun v hv=>by
   have : v<o.length:=by rw [hl]; exact hv
   simp [this]
  have hall : ∀ S,Ovr (2 ^ n) S→leastS (vocN n) o S=chR kind n rows k S:=fun S hS=>set_eq fun w=>by
   rw [hL.get,r2 S hS]
   constructor
   · rintro ⟨h1,h2,h3⟩
     exact ⟨h1,h2,fun v hv hs=>by have:=h3 v hv hs; rwa [g w h1,g v hv] at this⟩
   · rintro ⟨h1,h2,h3⟩
     exact ⟨h1,h2,fun v hv hs=>by have:=h3 v hv hs; rw [← g w h1,← g v hv] at this; exact this⟩
  refine ⟨⟨rfl,hok,hl,fun hK=>?_⟩,hall⟩
  have : beliefsS (vocN n) o=leastS (vocN n) o (alA n):=set_eq fun w=>by
   show has (leastS (vocN n) o (BitVec.allOnes 64)) w ↔ _
   rw [hL.top,hL.get]
   constructor
   · rintro ⟨h1,h2⟩; exact ⟨h1,(hA w).2 h1,fun v hv _=>h2 v hv⟩
   · rintro ⟨h1,_,h2⟩; exact ⟨h1,fun v hv=>h2 v hv ((hA v).2 hv)⟩
  show beliefsS (vocN n) o=_
  rw [this,hall _ (fun w h=>(hA w).1 h)]
  exact c2 hK
 have hbse : ∀ i,bse kind i=BitVec.ofNat 64 i:=fun i=>by unfold bse; rw [if_neg (by omega)]
 refine ⟨os,⟨by rw [hlen,hsz]; unfold wantN; rw [if_neg (by omega)],fun i hi=>?_⟩,?_⟩
 · have:=(fits i (by rw [← hlen]; exact hi)).1
   rw [List.getD_eq_getElem?_getD,List.getElem?_eq_getElem hi] at this
   rw [hbse]
   exact this
 · rw [mkT_G,← hsz]
   refine List.ext_getElem (by rw [tabG_len,hv.len]) fun k h1 h2=>?_
   have hk1 : k<szT (n : Int):=by rw [tabG_len] at h1; exact h1
   have hrl : rows[k].length=szT (n : Int):=hv.row _ (List.getElem_mem h2)
   refine List.ext_getElem (by rw [tabG_row (List.getElem_mem h1),hrl]) fun f h3 h4=>?_
   have hf1 : f<szT (n : Int):=by rw [← hrl]; exact h4
   have k64:=toNat_small hk1 h16
   have f64:=toNat_small hf1 h16
   have of : Ovr (2 ^ n) (BitVec.ofNat 64 f):=ov_small (pow_cases hn) (by rw [← hsz]; exact hf1)
   obtain ⟨x,hx1,hx2⟩:=t_val hv (k:=BitVec.ofNat 64 k) (f:=BitVec.ofNat 64 f) (by rw [k64]; exact hk1) (by rw [f64]; exact hf1)
   unfold rowAt at hx1
   rw [k64,f64,List.getD_eq_getElem?_getD,List.getElem?_eq_getElem h2] at hx1
   simp only [Option.getD_some] at hx1
   rw [List.getElem?_eq_getElem h4,Option.some.injEq] at hx1
   rw [hx1,hx2]
   have hent : entB kind os (szT (n : Int)) k f=tOf rows (BitVec.ofNat 64 k) (BitVec.ofNat 64 f):=by
    rw [(chR_cho hn hk hv hq hk1).2.2 _ of]
    unfold entB
    by_cases c2 : kind=2
    · rw [if_neg (by omega),if_pos c2,if_pos c2]
      have e1 : BitVec.ofNat 64 (2 ^ (2 ^ n) - 1 - f)=alA n &&& ~~~BitVec.ofNat 64 f:=comA hn hf1
      rw [← hsz] at e1
      rw [e1,(fits k hk1).2 _ (fun w h=>(hA w).1 (has_diff.1 h).1)]
    · rw [if_pos (by omega),if_neg c2,(fits k hk1).2 _ of]
   simp only [tabG,List.getElem_map,List.getElem_range]
   rw [hent]
end
end Am

namespace Am
open Go
def popN (N : Nat) (S : BitVec 64) : Nat:=(List.range N).countP fun w=>S.getLsbD w
theorem pop_pos {N : Nat} {S : BitVec 64} (hS : Ovr N S) (h : S ≠ 0#64) : 0<popN N S:=by
 obtain ⟨w,hw⟩:=set_ne h
 exact List.countP_pos_iff.2 ⟨w,List.mem_range.2 (hS w hw),hw⟩
theorem pop_le (N : Nat) (S : BitVec 64) : popN N S≤N:=by
 have:=List.countP_le_length (p:=fun w=>S.getLsbD w) (l:=List.range N)
 unfold popN; simpa using this
theorem lvl_zero (c : BitVec 64→BitVec 64) (m l : Nat) (q : List Int) : lvlR c m l 0#64 q=some q:=by cases m <;> simp [lvlR]
theorem lvl_none {N : Nat} {c : BitVec 64→BitVec 64} {m l : Nat} {S : BitVec 64} {q : List Int} (hS : Ovr N S) (hp : popN N S≤m) (h0 : S ≠ 0#64) (hb : c S &&& S=0#64) : lvlR c m l S q=none:=by
 have:=pop_pos hS h0
 cases m with
 | zero=>omega
 | succ m=>unfold lvlR; rw [if_neg h0,if_pos hb]
theorem lvl_step {N : Nat} {c : BitVec 64→BitVec 64} {m l : Nat} {S : BitVec 64} {q : List Int} (hS : Ovr N S) (hp : popN N S≤m) (h0 : S ≠ 0#64) (hb : c S &&& S ≠ 0#64) :
 ∃ m',m=m' + 1∧popN N (S &&& ~~~(c S &&& S))≤m'∧lvlR c m l S q=lvlR c m' (l + 1) (S &&& ~~~(c S &&& S)) (setLv q (c S &&& S) l):=by
 have:=pop_pos hS h0
 cases m with
 | zero=>omega
 | succ m=>
  refine ⟨m,rfl,?_,?_⟩
  · obtain ⟨u,hu⟩:=set_ne hb
    have hu2:=has_and.1 hu
    have hlt : popN N (S &&& ~~~(c S &&& S))<popN N S:=countP_lt (fun x _ hx=>(has_diff.1 hx).1) (List.mem_range.2 (hS u hu2.2)) (Bool.eq_false_iff.2 fun hx=>(has_diff.1 hx).2 hu) hu2.2
    omega
  · conv=>lhs; unfold lvlR
    rw [if_neg h0,if_neg hb]
theorem lvl_len {c : BitVec 64→BitVec 64} {N : Nat} {out : List Int} : ∀ (m l : Nat) (S : BitVec 64) {q : List Int},q.length=N→lvlR c m l S q=some out→out.length=N
 | 0,l,S,q,hq,h=>by
  unfold lvlR at h
  split at h
  · cases h; exact hq
  · cases h
 | m + 1,l,S,q,hq,h=>by
  unfold lvlR at h
  split at h
  · cases h; exact hq
  · split at h
    · cases h
    · exact lvl_len m _ _ (by rw [setLv_len]; exact hq) h
def setTo (q : List Int) (b : BitVec 64) (l i : Nat) : List Int:=(List.range q.length).map fun w=>if w<i∧b.getLsbD w=true then (l : Int) else q.getD w 0
theorem setTo_len (q : List Int) (b : BitVec 64) (l i : Nat) : (setTo q b l i).length=q.length:=by simp [setTo]
theorem setTo_0 (q : List Int) (b : BitVec 64) (l : Nat) : setTo q b l 0=q:=by
 refine List.ext_getElem (by simp [setTo]) fun i h1 h2=>?_
 simp [setTo,h2]
theorem setTo_end (q : List Int) (b : BitVec 64) (l : Nat) : setTo q b l q.length=setLv q b l:=by
 unfold setTo setLv
 refine List.map_congr_left fun w hw=>?_
 have:=List.mem_range.1 hw
 simp [this]
theorem setTo_yes {q : List Int} {b : BitVec 64} {l i : Nat} (hi : i<q.length) (h : b.getLsbD i=true) : (setTo q b l i).set i (l : Int)=setTo q b l (i + 1):=by
 refine List.ext_getElem (by simp [setTo]) fun w h1 h2=>?_
 rw [List.getElem_set]
 simp only [setTo,List.getElem_map,List.getElem_range]
 by_cases e : i=w
 · subst e; rw [if_pos rfl,if_pos ⟨by omega,h⟩]
 · rw [if_neg e]
   by_cases e2 : w<i
   · have e3 : w<i + 1:=by omega
     simp only [e2,e3,true_and]
   · have e3 : ¬ w<i + 1:=by omega
     simp only [e2,e3,false_and]
theorem setTo_no {q : List Int} {b : BitVec 64} {l i : Nat} (h : b.getLsbD i=false) : setTo q b l i=setTo q b l (i + 1):=by
 unfold setTo
 refine List.map_congr_left fun w _=>?_
 by_cases e : w=i
 · subst e; rw [h]; simp
 · by_cases e2 : w<i
   · have e3 : w<i + 1:=by omega
     simp only [e2,e3,true_and]
   · have e3 : ¬ w<i + 1:=by omega
     simp only [e2,e3,false_and]
theorem alA_toNat (a : Int) : (alA a).toNat=szT a - 1:=by
 have:=szT_le a
 unfold alA
 rw [BitVec.toNat_ofNat]; omega
theorem lenA_al {a : Int} {rows : List (List Int)} (hv : Vld a rows) : PO.eval (.bin .sub false) [.int .i64 (rows.length : Int),.int .i64 1]=some [ivD (alA a)]:=by
 have hp : 0<szT a:=by rcases hv.at_ with rfl | rfl <;> decide
 have h16:=szT_le a
 unfold ivD
 rw [alA_toNat,hv.len]
 show some [D.int .i64 (IntKind.i64.wrap ((szT a : Int) - 1))]=_
 rw [wr (by omega) (by omega)]
 congr 3
 omega
def ordW (kind a : Int) (rows : List (List Int)) (names : List (List UInt8)) : List D:=
 if vldB a rows=false then [.sl [],.int .i64 1] else if ¬ (kind=1∨kind=2) then [.sl [],.int .i64 4] else if ¬ (vocOk names=true∧(names.length : Int)=a) then [.sl [],.int .i64 1] else ordV kind a rows names
end Am
