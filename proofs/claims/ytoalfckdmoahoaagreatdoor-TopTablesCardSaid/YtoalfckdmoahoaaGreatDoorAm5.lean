/- What functions of the program compute: lemmas. -/
import Derived.Test.YtoalfckdmoahoaaGreatDoorAm4
set_option linter.unusedSimpArgs false
set_option linter.unusedVariables false
set_option linter.unusedSectionVars false
namespace Am
open Go
def bvD (x:BitVec 64):D:=.int .u64 (x.toNat:Int)
theorem qnac {n:Int} (h0:0≤n) (h1:n<18446744073709551616):IntKind.u64.wrap n=n:=by
 simp[IntKind.wrap,IntKind.bits,IntKind.signed];omega
theorem qaf (x:BitVec 64):BitVec.ofInt 64 (x.toNat:Int)=x:=by
 apply BitVec.eq_of_toNat_eq
 have:=x.isLt;simp
theorem qidb (x:BitVec 64):IntKind.u64.wrap (x.toNat:Int)=(x.toNat:Int):=qnac (by omega) (by have:=x.isLt;omega)
theorem qepb (n:Int):IntKind.u64.wrap n=((BitVec.ofInt 64 n).toNat:Int):=by
 rw[BitVec.toNat_ofInt];simp[IntKind.wrap,IntKind.bits,IntKind.signed];omega
theorem qleb (tb:Bool) (x y:BitVec 64):PO.eval (.bin .and tb) [bvD x,bvD y]=some [bvD (x&&&y)]:=by
 show one1 (some (.int .u64 (IntKind.u64.wrap ((BitVec.ofInt 64 (x.toNat:Int)&&&BitVec.ofInt 64 (y.toNat:Int)).toNat:Int))))=_
 rw[qaf,qaf,qidb];rfl
theorem qwac (tb:Bool) (x y:BitVec 64):PO.eval (.bin .or tb) [bvD x,bvD y]=some [bvD (x|||y)]:=by
 show one1 (some (.int .u64 (IntKind.u64.wrap ((BitVec.ofInt 64 (x.toNat:Int)|||BitVec.ofInt 64 (y.toNat:Int)).toNat:Int))))=_
 rw[qaf,qaf,qidb];rfl
theorem qarb (tb:Bool) (x y:BitVec 64):PO.eval (.bin .xor tb) [bvD x,bvD y]=some [bvD (x ^^^ y)]:=by
 show one1 (some (.int .u64 (IntKind.u64.wrap ((BitVec.ofInt 64 (x.toNat:Int) ^^^ BitVec.ofInt 64 (y.toNat:Int)).toNat:Int))))=_
 rw[qaf,qaf,qidb];rfl
theorem qnr (tb:Bool) (x y:BitVec 64):PO.eval (.bin .andNot tb) [bvD x,bvD y]=some [bvD (x &&& ~~~y)]:=by
 show one1 (some (.int .u64 (IntKind.u64.wrap ((BitVec.ofInt 64 (x.toNat:Int) &&& ~~~BitVec.ofInt 64 (y.toNat:Int)).toNat:Int))))=_
 rw[qaf,qaf,qidb];rfl
theorem qsdb (x:BitVec 64):PO.eval (.un .xor) [bvD x]=some [bvD (~~~x)]:=by
 show one1 (some (.int .u64 (IntKind.u64.wrap ((BitVec.ofInt 64 (18446744073709551615:Int) ^^^ BitVec.ofInt 64 (x.toNat:Int)).toNat:Int))))=_
 have h:BitVec.ofInt 64 (18446744073709551615:Int)=BitVec.allOnes 64:=by decide
 rw[qaf,qidb,h,BitVec.allOnes_xor];rfl
theorem qezb (tb:Bool) (x y:BitVec 64):PO.eval (.bin .eql tb) [bvD x,bvD y]=some [.bool (decide (x=y))]:=by
 show one1 (some (.bool (((x.toNat:Int)) == (y.toNat:Int))))=_
 have:(((x.toNat:Int)) == (y.toNat:Int))=decide (x=y):=by
  rw[ibeq]
  congr 1
  exact propext ⟨fun h=>BitVec.eq_of_toNat_eq (by omega),fun h=>by rw[h]⟩
 rw[this];rfl
theorem qvzb (tb:Bool) (x y:BitVec 64):PO.eval (.bin .neq tb) [bvD x,bvD y]=some [.bool (!decide (x=y))]:=by
 show one1 (some (.bool (((x.toNat:Int)) != (y.toNat:Int))))=_
 have:(((x.toNat:Int)) != (y.toNat:Int)) = !decide (x=y):=by
  rw[ibne]
  congr 2
  exact propext ⟨fun h=>BitVec.eq_of_toNat_eq (by omega),fun h=>by rw[h]⟩
 rw[this];rfl
theorem qkrb (tb:Bool) (x y:BitVec 64):PO.eval (.bin .sub tb) [bvD x,bvD y]=some [bvD (x-y)]:=by
 show one1 (some (.int .u64 (IntKind.u64.wrap ((x.toNat:Int)-(y.toNat:Int)))))=_
 rw[qepb]
 have:BitVec.ofInt 64 ((x.toNat:Int)-(y.toNat:Int))=x-y:=by
  apply BitVec.eq_of_toNat_eq
  have h1:=x.isLt;have h2:=y.isLt;rw[BitVec.toNat_ofInt,BitVec.toNat_sub];omega
 rw[this];rfl
theorem qksb (tb:Bool) (x y:BitVec 64):PO.eval (.bin .mul tb) [bvD x,bvD y]=some [bvD (x*y)]:=by
 show one1 (some (.int .u64 (IntKind.u64.wrap ((x.toNat:Int)*(y.toNat:Int)))))=_
 rw[qepb]
 have:BitVec.ofInt 64 ((x.toNat:Int)*(y.toNat:Int))=x*y:=by
  rw[BitVec.ofInt_mul,qaf,qaf]
 rw[this];rfl
theorem qjvb (x:BitVec 64) (n:Nat):IntKind.u64.wrap ((x.toNat:Int)*2^(min n 64))=(((x <<< n).toNat:Nat):Int):=by
 rw[qepb]
 congr 1
 rw[BitVec.toNat_shiftLeft,Nat.shiftLeft_eq,BitVec.toNat_ofInt];have h1:(x.toNat:Int)*2^(min n 64)=((x.toNat*2^(min n 64):Nat):Int):=by simp
 rw[h1]
 show (((x.toNat*2^(min n 64):Nat):Int) % ((2^64:Nat):Int)).toNat=_
 rw[← Int.natCast_emod,Int.toNat_natCast]
 by_cases h:n≤64
 · rw[Nat.min_eq_left h]
 · rw[Nat.min_eq_right (by omega)]
   have h2:2^64 ∣ x.toNat*2^n:=Nat.dvd_trans (Nat.pow_dvd_pow 2 (by omega:64≤n)) (Nat.dvd_mul_left ..)
   rw[Nat.mod_eq_zero_of_dvd h2,Nat.mul_mod_left]
theorem qgeb (tb:Bool) (k:IntKind) (x:BitVec 64) (n:Nat):PO.eval (.bin .shl tb) [bvD x,.int k (n:Int)]=some [bvD (x <<< n)]:=by
 show one1 (if 0≤(n:Int) then some (.int .u64 (IntKind.u64.wrap ((x.toNat:Int)*2^(min ((n:Int)).toNat 64)))) else none)=_
 rw[if_pos (by omega),Int.toNat_natCast,qjvb];rfl
theorem qqgb (tb:Bool) (x y:BitVec 64):PO.eval (.bin .shl tb) [bvD x,bvD y]=some [bvD (x <<< y.toNat)]:=qgeb tb .u64 x y.toNat
theorem qutb (x:BitVec 64) (n:Nat):((x.toNat:Int)).fdiv (2^(min n 64))=(((x >>> n).toNat:Nat):Int):=by
 rw[BitVec.toNat_ushiftRight,Nat.shiftRight_eq_div_pow];have h1:((2:Int)^(min n 64))=((2^(min n 64):Nat):Int):=by simp
 rw[h1,Int.fdiv_eq_ediv_of_nonneg _ (Int.natCast_nonneg _),← Int.natCast_ediv]
 congr 1
 by_cases h:n≤64
 · rw[Nat.min_eq_left h]
 · rw[Nat.min_eq_right (by omega),Nat.div_eq_of_lt x.isLt]
   have:x.toNat<2^n:=Nat.lt_of_lt_of_le x.isLt (Nat.pow_le_pow_right (by omega) (by omega))
   rw[Nat.div_eq_of_lt this]
theorem qaa (tb:Bool) (k:IntKind) (x:BitVec 64) (n:Nat):PO.eval (.bin .shr tb) [bvD x,.int k (n:Int)]=some [bvD (x >>> n)]:=by
 show one1 (if 0≤(n:Int) then some (.int .u64 (((x.toNat:Int)).fdiv (2^(min ((n:Int)).toNat 64)))) else none)=_
 rw[if_pos (by omega),Int.toNat_natCast,qutb];rfl
theorem qeeb (tb:Bool) (x y:BitVec 64):PO.eval (.bin .shr tb) [bvD x,bvD y]=some [bvD (x >>> y.toNat)]:=qaa tb .u64 x y.toNat
theorem qea (x:BitVec 64):PO.eval (.conv .u64) [bvD x]=some [bvD x]:=by
 show some [D.int .u64 (IntKind.u64.wrap (x.toNat:Int))]=_
 rw[qidb];rfl
theorem qelb:D.int .u64 0=bvD 0#64:=rfl
theorem qvkb:D.int .u64 1=bvD 1#64:=rfl
theorem qwjb:D.int .u64 18446744073709551615=bvD (BitVec.allOnes 64):=rfl
theorem qafb:D.int .u64 11400714819323198485=bvD 11400714819323198485#64:=rfl
theorem qwmb (tb:Bool) (k:IntKind) {n:Nat} (h:n<63):PO.eval (.bin .shl tb) [.int .i64 1,.int k (n:Int)]=some [.int .i64 ((2^n:Nat):Int)]:=by
 show one1 (if 0≤(n:Int) then some (.int .i64 (IntKind.i64.wrap (1*2^(min ((n:Int)).toNat 64)))) else none)=_
 rw[if_pos (by omega),Int.toNat_natCast,Nat.min_eq_left (by omega),Int.one_mul]
 have h1:((2:Int)^n)=((2^n:Nat):Int):=by simp
 have h2:2^n<9223372036854775808:=Nat.pow_lt_pow_right (by omega) h
 generalize 2^n=m at h1 h2 ⊢;rw[h1,wr (by omega) (by omega)];rfl
theorem qrtb (tb:Bool) (k:IntKind) (a n:Nat) (h:n≤64):PO.eval (.bin .shr tb) [.int .i64 (a:Int),.int k (n:Int)]=some [.int .i64 ((a / 2^n:Nat):Int)]:=by
 show one1 (if 0≤(n:Int) then some (.int .i64 ((a:Int).fdiv (2^(min ((n:Int)).toNat 64)))) else none)=_
 rw[if_pos (by omega),Int.toNat_natCast,Nat.min_eq_left h]
 have h1:((2:Int)^n)=((2^n:Nat):Int):=by simp
 rw[h1,Int.fdiv_eq_ediv_of_nonneg _ (Int.natCast_nonneg _),← Int.natCast_ediv];rfl
theorem qyz (a:Nat):BitVec.ofInt 64 (a:Int)=BitVec.ofNat 64 a:=by simp
theorem qxw {tb:Bool} {a b:Nat} (ha:a<9223372036854775808) (hb:b<9223372036854775808):PO.eval (.bin .and tb) [.int .i64 (a:Int),.int .i64 (b:Int)]=some [.int .i64 ((a&&&b:Nat):Int)]:=by
 show one1 (some (.int .i64 (IntKind.i64.wrap ((BitVec.ofInt 64 (a:Int)&&&BitVec.ofInt 64 (b:Int)).toNat:Int))))=_
 have h1:a&&&b≤a:=Nat.and_le_left;rw[qyz,qyz,BitVec.toNat_and,BitVec.toNat_ofNat,BitVec.toNat_ofNat,Nat.mod_eq_of_lt (by omega),Nat.mod_eq_of_lt (by omega),wr (by omega) (by omega)];rfl
theorem qknb {tb:Bool} {a:Nat} (ha:a<9223372036854775808):PO.eval (.bin .and tb) [.int .i64 (a:Int),.int .i64 1]=some [.int .i64 ((a % 2:Nat):Int)]:=by
 have:=qxw (tb:=tb) ha (b:=1) (by omega)
 rw[Nat.and_one_is_mod] at this;exact this
def bitsTo (p:Nat→Bool):Nat→BitVec 64
 | 0=>0#64
 | n+1=>if p n=true then bitsTo p n|||(1#64 <<< n) else bitsTo p n
theorem qeb (n w:Nat) (hn:n<64):(1#64 <<< n).getLsbD w=decide (w=n):=by
 rw[BitVec.getLsbD_shiftLeft]
 by_cases h:w=n
 · subst h;simp[hn]
 · by_cases h2:w<n
   · simp[h,h2]
   · have:w-n≠0:=by omega
     simp[h,BitVec.getLsbD_one,this]
theorem qi (p:Nat→Bool):∀ (n w:Nat),n≤64→(bitsTo p n).getLsbD w=(decide (w<n)&&p w)
 | 0,w,_=>by simp[bitsTo]
 | n+1,w,h=>by
  have ih:=qi p n w (by omega)
  simp only[bitsTo]
  by_cases hp:p n=true
  · rw[if_pos hp,BitVec.getLsbD_or,ih,qeb n w (by omega)]
    by_cases h1:w=n
    · subst h1;simp[hp]
    · have h2:(w<n+1)=(w<n):=propext ⟨fun h=>by omega,fun h=>by omega⟩
      simp[h1,h2]
  · rw[if_neg hp,ih]
    by_cases h1:w=n
    · subst h1;simp[hp]
    · have h2:(w<n+1)=(w<n):=propext ⟨fun h=>by omega,fun h=>by omega⟩
      simp[h2]
theorem que {x y:BitVec 64} (h:∀ w,w<64→x.getLsbD w=y.getLsbD w):x=y:=BitVec.eq_of_getLsbD_eq fun i hi=>h i hi
theorem qdzb (x:BitVec 64) (w:Nat):(x >>> w&&&1#64=1#64)↔x.getLsbD w=true:=by
 constructor
 · intro h;have:=congrArg (fun z:BitVec 64=>z.getLsbD 0) h
   simpa using this
 · intro h;refine que fun i hi=>?_
   rw[BitVec.getLsbD_and,BitVec.getLsbD_one]
   by_cases h0:i=0
   · subst h0;simp[h]
   · simp[h0]
theorem qfm (x:BitVec 64):x=0#64↔∀ w,w<64→x.getLsbD w=false:=by
 constructor
 · intro h w _;rw[h];simp
 · intro h;exact que fun w hw=>by rw[h w hw];simp
theorem qsib (n:Int):D.int .u64 (IntKind.u64.wrap n)=bvD (BitVec.ofInt 64 n):=by rw[qepb];rfl
theorem qzfb (n:Nat):(0≤(n:Int))=True:=eq_true (Int.natCast_nonneg n)
theorem qbi {n:Nat} (h:n<63):IntKind.i64.wrap (1*2^(min ((n:Int)).toNat IntKind.i64.bits))=((2^n:Nat):Int):=by
 have:=qwmb false .i64 h;have h2:PO.eval (.bin .shl false) [.int .i64 1,.int .i64 (n:Int)]=one1 (if 0≤(n:Int) then some (.int .i64 (IntKind.i64.wrap (1*2^(min ((n:Int)).toNat IntKind.i64.bits)))) else none):=rfl
 rw[h2,if_pos (by omega)] at this
 simp only[one1,Option.map_some,Option.some.injEq,List.cons.injEq,D.int.injEq,and_true,true_and] at this;exact this
theorem qro {a n:Nat} (h:n≤64):((a:Int)).fdiv (2^(min ((n:Int)).toNat IntKind.i64.bits))=((a / 2^n:Nat):Int):=by
 have:=qrtb false .i64 a n h;have h2:PO.eval (.bin .shr false) [.int .i64 (a:Int),.int .i64 (n:Int)]=one1 (if 0≤(n:Int) then some (.int .i64 (((a:Int)).fdiv (2^(min ((n:Int)).toNat IntKind.i64.bits)))) else none):=rfl
 rw[h2,if_pos (by omega)] at this
 simp only[one1,Option.map_some,Option.some.injEq,List.cons.injEq,D.int.injEq,and_true,true_and] at this;exact this
theorem qvq {a:Nat} (h:a<9223372036854775808):IntKind.i64.wrap ((BitVec.ofInt IntKind.i64.bits (a:Int)&&&BitVec.ofInt IntKind.i64.bits 1).toNat:Int)=((a % 2:Nat):Int):=by
 have:=qknb (tb:=false) h;have h2:PO.eval (.bin .and false) [.int .i64 (a:Int),.int .i64 1]=one1 (some (.int .i64 (IntKind.i64.wrap ((BitVec.ofInt IntKind.i64.bits (a:Int)&&&BitVec.ofInt IntKind.i64.bits 1).toNat:Int)))):=rfl;rw[h2] at this;simp only[one1,Option.map_some,Option.some.injEq,List.cons.injEq,D.int.injEq,and_true,true_and] at this;exact this
theorem qkhb (x:BitVec 64) (w:Nat):decide (x >>> w&&&1#64=1#64)=x.getLsbD w:=by
 have:=qdzb x w;cases h:x.getLsbD w with
 | true=>exact decide_eq_true (this.2 h)
 | false=>exact decide_eq_false fun h2=>by rw[this.1 h2] at h;cases h
theorem qtfb (x:BitVec 64):aUn .xor (bvD x)=some (bvD (~~~x)):=by
 have h:=qsdb x;have h2:PO.eval (.un .xor) [bvD x]=one1 (aUn .xor (bvD x)):=rfl;rw[h2] at h;cases ha:aUn .xor (bvD x) with
 | none=>rw[ha] at h;cases h
 | some d=>rw[ha] at h;cases h;rfl
theorem bvQ:type_of% @qtfb∧type_of% @qleb∧type_of% @qwac∧type_of% @qarb∧type_of% @qnr∧type_of% @qsdb∧type_of% @qezb∧type_of% @qvzb∧type_of% @qkrb∧type_of% @qksb∧type_of% @qgeb∧type_of% @qqgb∧type_of% @qaa∧type_of% @qeeb∧type_of% @qea∧type_of% @qelb∧type_of% @qvkb∧type_of% @qwjb∧type_of% @qafb∧type_of% @qsib∧type_of% @qzfb∧type_of% @qkhb:=
 ⟨qtfb,qleb,qwac,qarb,qnr,qsdb,qezb,qvzb,qkrb,qksb,qgeb,qqgb,qaa,qeeb,qea,qelb,qvkb,qwjb,qafb,qsib,qzfb,qkhb⟩
end Am

namespace Am
open Go
def okFrom:List UInt8→List (List UInt8)→Bool
 | _,[]=>true
 | p,a::l=>validName a&&(Op.bytesLess p a&&okFrom a l)
def okNames:List (List UInt8)→Bool
 | []=>true
 | a::l=>validName a&&okFrom a l
def okAt (l:List (List UInt8)) (i:Nat):Bool:=if i=0 then okNames l else okFrom (l.getD (i-1) []) (l.drop i)
def vocOk (l:List (List UInt8)):Bool:=decide (l.length≤6)&&okNames l
theorem qujb (l:List (List UInt8)):okAt l 0=okNames l:=by simp[okAt]
theorem qrmb (l:List (List UInt8)):okAt l l.length=true:=by
 unfold okAt
 split
 · rename_i h;rw[List.eq_nil_of_length_eq_zero h];rfl
 · simp[okFrom]
theorem qla {l:List (List UInt8)} (h:0<l.length):okAt l 0=(validName l[0]&&okAt l 1):=by
 cases l with
 | nil=>simp at h
 | cons a l=>simp[okAt,okNames]
theorem qbl {l:List (List UInt8)} {i:Nat} (h0:¬ 0<i) (h:i<l.length):okAt l i=(validName l[i]&&okAt l (i+1)):=by
 have:i=0:=by omega
 subst this;exact qla h
theorem qes {l:List (List UInt8)} {i:Nat} (h0:0<i) (h:i<l.length):okAt l i=(validName l[i]&&(Op.bytesLess l[i-1] l[i]&&okAt l (i+1))):=by
 have h1:i≠0:=by omega
 have h2:l.getD (i-1) []=l[i-1]:=by simp[show i-1<l.length by omega]
 have h3:l.getD i []=l[i]:=by simp[h]
 unfold okAt;rw[if_neg h1,if_neg (by omega),qrm h,okFrom,h2,Nat.add_sub_cancel,h3]
theorem qyn:∀ {p:List UInt8} {l:List (List UInt8)},okFrom p l=true→(p::l).Pairwise (fun x y=>x<y)∧∀ x∈l,validName x=true
 | p,[],_=>by simp
 | p,a::l,h=>by
  simp only[okFrom,Bool.and_eq_true] at h;obtain ⟨h1,h2,h3⟩:=h;obtain ⟨h4,h5⟩:=qyn h3;have hpa:=(qrp p a).1 h2;refine ⟨List.pairwise_cons.2 ⟨fun y hy=>?_,h4⟩,fun x hx=>?_⟩
  · rcases List.mem_cons.1 hy with rfl|hy
    · exact hpa
    · exact List.lt_trans hpa ((List.pairwise_cons.1 h4).1 y hy)
  · rcases List.mem_cons.1 hx with rfl|hx
    · exact h1
    · exact h5 x hx
theorem qnh {l:List (List UInt8)} (h:okNames l=true):l.Pairwise (fun x y=>x<y)∧∀ x∈l,validName x=true:=by
 cases l with
 | nil=>simp
 | cons a l=>
  simp only[okNames,Bool.and_eq_true] at h;obtain ⟨h1,h2⟩:=qyn h.2;exact ⟨h1,fun x hx=>by rcases List.mem_cons.1 hx with rfl|hx;exact h.1;exact h2 x hx⟩
theorem qre {a:List UInt8} {l:List (List UInt8)} (h:okNames (a::l)=true):okNames l=true:=by
 cases l with
 | nil=>rfl
 | cons b l=>
  simp only[okNames,okFrom,Bool.and_eq_true] at h ⊢;exact ⟨h.2.1,h.2.2.2⟩
theorem qy {l:List (List UInt8)} (h:vocOk l=true):l.length≤6:=by
 simp only[vocOk,Bool.and_eq_true,decide_eq_true_eq] at h;exact h.1
theorem qhd {l:List (List UInt8)} (h:vocOk l=true):okNames l=true:=by
 simp only[vocOk,Bool.and_eq_true] at h;exact h.2
def yesN:List (List UInt8)→Nat→List (List UInt8)
 | [],_=>[]
 | a::l,w=>if w % 2=1 then a::yesN l (w / 2) else yesN l (w / 2)
theorem qkq:∀ (l:List (List UInt8)) (w:Nat),∀ x∈yesN l w,x∈l
 | [],_,x,h=>by simp[yesN] at h
 | a::l,w,x,h=>by
  simp only[yesN] at h
  split at h
  · rcases List.mem_cons.1 h with rfl|h
    · simp
    · exact List.mem_cons_of_mem _ (qkq l _ x h)
  · exact List.mem_cons_of_mem _ (qkq l _ x h)
theorem qha {l:List (List UInt8)} (hp:l.Pairwise (fun x y=>x<y)):∀ {i w:Nat} (hi:i<l.length),(l[i]∈yesN l w↔w / 2^i % 2=1):=by
 induction l with
 | nil=>intro i w hi;simp at hi
 | cons a l ih=>
  intro i w hi;have hp':=List.pairwise_cons.1 hp;cases i with
  | zero=>
   simp only[List.getElem_cons_zero,yesN,Nat.pow_zero,Nat.div_one]
   split
   · rename_i h;simp[h]
   · rename_i h
     constructor
     · intro hm;exact absurd (hp'.1 a (qkq _ _ _ hm)) (List.lt_irrefl _)
     · intro h2;exact absurd h2 h
  | succ i=>
   have hi':i<l.length:=by simpa using hi
   simp only[List.getElem_cons_succ,yesN];have h2:=ih hp'.2 (w:=w / 2) hi';have h3:w / 2 / 2^i=w / 2^(i+1):=by rw[Nat.div_div_eq_div_mul,Nat.pow_succ,Nat.mul_comm]
   rw[h3] at h2;have hne:l[i]≠a:=fun h=>absurd (hp'.1 l[i] (List.getElem_mem hi')) (by rw[h];exact List.lt_irrefl _)
   split
   · rw[List.mem_cons,h2];simp[hne]
   · exact h2
theorem qgqb (p q:Nat→Bool) {n:Nat} (h:n≤64):bitsTo p n&&&bitsTo q n=bitsTo (fun w=>p w&&q w) n:=by
 refine que fun w _=>?_
 rw[BitVec.getLsbD_and,qi _ _ _ h,qi _ _ _ h,qi _ _ _ h];cases decide (w<n)<;>simp
theorem qbib (p q:Nat→Bool) {n:Nat} (h:n≤64):bitsTo p n|||bitsTo q n=bitsTo (fun w=>p w || q w) n:=by
 refine que fun w _=>?_
 rw[BitVec.getLsbD_or,qi _ _ _ h,qi _ _ _ h,qi _ _ _ h];cases decide (w<n)<;>simp
theorem qdob (p q:Nat→Bool) {n:Nat} (h:n≤64):bitsTo p n ^^^ bitsTo q n=bitsTo (fun w=>p w ^^ q w) n:=by
 refine que fun w _=>?_
 rw[BitVec.getLsbD_xor,qi _ _ _ h,qi _ _ _ h,qi _ _ _ h];cases decide (w<n)<;>simp
theorem qlq (p:Nat→Bool) : ~~~(bitsTo p 64)=bitsTo (fun w=>!p w) 64:=by
 refine que fun w hw=>?_
 rw[BitVec.getLsbD_not,qi _ _ _ (Nat.le_refl _),qi _ _ _ (Nat.le_refl _)];simp[hw]
theorem qnb {p q:Nat→Bool} {n:Nat} (hn:n≤64) (h:∀ w,w<n→p w=q w):bitsTo p n=bitsTo q n:=by
 refine que fun w hw=>?_
 rw[qi _ _ _ hn,qi _ _ _ hn]
 by_cases hw2:w<n
 · simp[hw2,h w hw2]
 · simp[hw2]
theorem qgpb (p:Nat→Bool) {n:Nat} (hn:n≤64):bitsTo p 64&&&bitsTo (fun _=>true) n=bitsTo p n:=by
 refine que fun w hw=>?_
 rw[BitVec.getLsbD_and,qi _ _ _ (Nat.le_refl _),qi _ _ _ hn,qi _ _ _ hn]
 by_cases hw2:w<n<;>simp[hw2,hw]
theorem qky:bitsTo (fun _=>true) 64=BitVec.allOnes 64:=by rfl
theorem qokb:bitsTo (fun _=>false) 64=0#64:=by rfl
theorem pow6 {n:Nat} (h:n≤6):2^n≤64:=by
 obtain rfl|rfl|rfl|rfl|rfl|rfl|rfl:n=0∨n=1∨n=2∨n=3∨n=4∨n=5∨n=6:=by omega
 all_goals decide
def modN (voc:List (List UInt8)) (f:F) (n:Nat):BitVec 64:=bitsTo (fun w=>F.val (yesN voc w) f) n
def atomsIn (voc:List (List UInt8)) (f:F):Bool:=(canon (F.atomL f)).all fun s=>voc.contains s
def modelsE (voc:List (List UInt8)) (f:F):Int:=if vocOk voc=false then 1 else if validate f≠0 then validate f else if atomsIn voc f=false then 6 else 0
def modelsS (voc:List (List UInt8)) (f:F):BitVec 64:=if modelsE voc f=0 then modN voc f (2^voc.length) else 0#64
def allS (voc:List (List UInt8)):BitVec 64:=if vocOk voc=true then bitsTo (fun _=>true) (2^voc.length) else 0#64
end Am

namespace Am
open Go
def boolsD (l:List Bool):D:=.sl (l.map fun b=>[.bool b])
def bvsD (l:List (BitVec 64)):D:=.sl (l.map fun x=>[bvD x])
theorem qtwb:D.sl []=bvsD []:=rfl
theorem qebc {l:List Bool} {i:Nat} (h:i<l.length):PO.eval (.row 1) [boolsD l,.int .i64 i]=some [.bool l[i]]:=qhk (by omega) (by simp[h]) rfl
theorem qqwb (l:List Bool):PO.eval .lenL [boolsD l]=some [.int .i64 l.length]:=by simp[boolsD,qte]
theorem qpcc {l:List Bool} {i:Nat} (h:i<l.length):PO.eval .chk [boolsD l,.int .i64 i]=some []:=qdkb (by omega) (by simp;omega)
theorem qmdc {l:List Bool} {i:Nat} (h:i<l.length) (b:Bool):PO.eval (.set 0 1) [boolsD l,.int .i64 i,.bool b]=some [boolsD (l.set i b)]:=by
 simp[PO.eval,boolsD,h,setD,List.map_set]
theorem qlac {l:List Bool} {b:Nat} (h2:b≤l.length):PO.eval (.subL 1) [boolsD l,.int .i64 0,.int .i64 b]=some [boolsD (l.take b)]:=by
 have:=qhfb (sz:=1) (xs:=l.map fun b=>[D.bool b]) (k:=.i64) (k':=.i64) (a:=0) (b:=b) (by omega) (by omega) (by simp;omega) (by simp)
 simpa [boolsD,List.map_take] using this
theorem mkB {n:Nat} (h:n<1000000000):PO.eval (.mkL 1 [.bool false]) [.int .i64 n]=some [boolsD (List.replicate n false)]:=by
 simp only[PO.eval];rw[if_pos ⟨by omega,by omega,by omega⟩]
 simp[boolsD]
theorem qwnb {l:List (BitVec 64)} {i:Nat} (h:i<l.length):PO.eval (.row 1) [bvsD l,.int .i64 i]=some [bvD l[i]]:=qhk (by omega) (by simp[h]) rfl
theorem quvb (l:List (BitVec 64)):PO.eval .lenL [bvsD l]=some [.int .i64 l.length]:=by simp[bvsD,qte]
theorem qicc {l:List (BitVec 64)} {i:Nat} (h:i<l.length):PO.eval .chk [bvsD l,.int .i64 i]=some []:=qdkb (by omega) (by simp;omega)
theorem qtdc {l:List (BitVec 64)} {i:Nat} (h:i<l.length):PO.eval (.get 0 1) [bvsD l,.int .i64 i]=some [bvD l[i]]:=by
 simp[PO.eval,bvsD,h]
theorem qfdc {l:List (BitVec 64)} {i:Nat} (h:i<l.length) (x:BitVec 64):PO.eval (.set 0 1) [bvsD l,.int .i64 i,bvD x]=some [bvsD (l.set i x)]:=by
 simp[PO.eval,bvsD,h,setD,List.map_set]
theorem mkV {n:Nat} (h:n<1000000000):PO.eval (.mkL 8 [bvD 0#64]) [.int .i64 n]=some [bvsD (List.replicate n 0#64)]:=by
 simp only[PO.eval];rw[if_pos ⟨by omega,by omega,by omega⟩]
 simp[bvsD]
theorem mkN {n:Nat} (h:n<1000000000):PO.eval (.mkL 8 [.int .i64 0]) [.int .i64 n]=some [numsD (List.replicate n 0)]:=by
 simp only[PO.eval];rw[if_pos ⟨by omega,by omega,by omega⟩]
 simp[numsD,numR]
theorem qhwb {l:List Int} {i:Nat} (h:i<l.length):PO.eval .chk [numsD l,.int .i64 i]=some []:=qdkb (by omega) (by simp;omega)
theorem qxbc {l:List Int} {i:Nat} (h:i<l.length):PO.eval (.get 0 1) [numsD l,.int .i64 i]=some [.int .i64 l[i]]:=by
 simp[PO.eval,numsD,numR,h]
theorem qczb {l:List Int} {i:Nat} (h:i<l.length) (x:Int):PO.eval (.set 0 1) [numsD l,.int .i64 i,.int .i64 x]=some [numsD (l.set i x)]:=by
 simp[PO.eval,numsD,numR,h,setD,List.map_set]
def idxG {α:Type} [DecidableEq α] (s:α):Nat→List α→Int
 | _,[]=>-1
 | i,x::l=>if s=x then i else idxG s (i+1) l
theorem qqjb {α:Type} [DecidableEq α] (s:α):∀ (l:List α) (i:Nat),decide (idxG s i l≥0)=decide (s∈l)
 | [],i=>by simp[idxG]
 | x::l,i=>by
  simp only[idxG]
  by_cases h:s=x
  · subst h;simp
  · have:=qqjb s l (i+1);simp[h,this]
theorem qmeb {α:Type} [DecidableEq α] (s:α) {l:List α} {i:Nat} (h:i<l.length):idxG s i (l.drop i)=if s=l[i] then (i:Int) else idxG s (i+1) (l.drop (i+1)):=by
 rw[qrm h];rfl
theorem qcnb {α:Type} [DecidableEq α] (s:α) (l:List α):idxG s l.length (l.drop l.length) = -1:=by rw[qhzb];rfl
def max1 (m r:Int):Int:=if r>m then r else m
def maxF (m:Int) (l:List Int):Int:=l.foldl max1 m
def maxR (l:List Int):Int:=maxF 0 l
theorem qjjb (m:Int) (l:List Int) (r:Int):maxF m (l++[r])=max1 (maxF m l) r:=by simp[maxF]
theorem qev:∀ (l:List Int) (m:Int),m≤maxF m l
 | [],m=>Int.le_refl _
 | r::l,m=>by
  have:=qev l (max1 m r)
  show m≤maxF (max1 m r) l
  have h2:m≤max1 m r:=by unfold max1;split<;>omega
  omega
theorem qbq:∀ (l:List Int) (m:Int),∀ r∈l,r≤maxF m l
 | x::l,m,r,h=>by
  show r≤maxF (max1 m x) l
  rcases List.mem_cons.1 h with rfl|h
  · have h1:=qev l (max1 m r);have h2:r≤max1 m r:=by unfold max1;split<;>omega
    omega
  · exact qbq l _ r h
theorem qnu:∀ (l:List Int) (m:Int),maxF m l=m∨maxF m l∈l
 | [],m=>.inl rfl
 | x::l,m=>by
  show maxF (max1 m x) l=m∨_
  rcases qnu l (max1 m x) with h|h
  · rw[show maxF m (x::l)=maxF (max1 m x) l from rfl,h]
    unfold max1
    split
    · right;simp
    · exact .inl rfl
  · exact .inr (List.mem_cons_of_mem _ h)
theorem qyo (l:List Int):0≤maxR l:=qev l 0
def rkIn (n:Nat) (l:List Int):Bool:=l.all fun r=>decide (0≤r)&&decide (r<n)
def rkOk (l:List Int):Bool:=rkIn l.length l&&(List.range (maxR l).toNat).all fun k=>decide ((k:Int)∈l)
def orderE (names:List (List UInt8)) (ranks:List Int):Int:=if vocOk names=true∧ranks.length=2^names.length then (if rkOk ranks=true then 0 else 8) else 1
theorem qyi {n:Nat} {l:List Int} (h:rkIn n l=true):∀ r∈l,0≤r∧r<n:=by
 intro r hr;have:=List.all_eq_true.1 h r hr
 simpa using this
theorem qdw {l:List Int} (h:rkIn l.length l=true) (h0:0<l.length):maxR l<l.length:=by
 rcases qnu l 0 with h1|h1
 · unfold maxR;rw[h1];omega
 · exact (qyi h _ h1).2
def levS (ranks:List Int) (k:Nat) (n:Nat):BitVec 64:=bitsTo (fun w=>decide (ranks.getD w (-1)=(k:Int))) n
def levelsS (ranks:List Int):List (BitVec 64):=(List.range ((maxR ranks).toNat+1)).map fun k=>levS ranks k ranks.length
def levelsO (names:List (List UInt8)) (ranks:List Int):List (BitVec 64):=if orderE names ranks=0 then levelsS ranks else []
def leastL (S:BitVec 64):List (BitVec 64)→BitVec 64
 | []=>0#64
 | l::ls=>if l&&&S=0#64 then leastL S ls else l&&&S
def leastS (names:List (List UInt8)) (ranks:List Int) (S:BitVec 64):BitVec 64:=leastL S (levelsO names ranks)
theorem qex (S:BitVec 64) {l:List (BitVec 64)} {i:Nat} (h:i<l.length):leastL S (l.drop i)=if l[i]&&&S=0#64 then leastL S (l.drop (i+1)) else l[i]&&&S:=by
 rw[qrm h];rfl
theorem qkc {names:List (List UInt8)} {ranks:List Int} (h:orderE names ranks=0):vocOk names=true∧ranks.length=2^names.length∧rkOk ranks=true:=by
 unfold orderE at h
 split at h
 · rename_i h1
   split at h
   · rename_i h2;exact ⟨h1.1,h1.2,h2⟩
   · simp at h
 · simp at h
theorem qyd {names:List (List UInt8)} {ranks:List Int} (h:orderE names ranks=0):ranks.length≤64∧0<ranks.length:=by
 obtain ⟨h1,h2,_⟩:=qkc h;rw[h2];exact ⟨pow6 (qy h1),Nat.pow_pos (by omega)⟩
theorem qsl {l:List Int} (h:rkOk l=true):rkIn l.length l=true:=by
 simp only[rkOk,Bool.and_eq_true] at h;exact h.1
theorem qcdb {ranks:List Int} (k w:Nat) (hn:ranks.length≤64):(levS ranks k ranks.length).getLsbD w=(decide (w<ranks.length)&&decide (ranks.getD w (-1)=(k:Int))):=qi _ _ _ hn
theorem quw {ranks:List Int} (hn:ranks.length≤64) (h0:∀ r∈ranks,0≤r) (S:BitVec 64) (M:Nat) (hM:∀ r∈ranks,r<(M:Int)):∀ (j k:Nat),k+j=M→(∀ v,v<ranks.length→S.getLsbD v=true→(k:Int)≤ranks.getD v (-1))→
 ∀ w,(leastL S ((List.range' k j).map fun k=>levS ranks k ranks.length)).getLsbD w=true↔w<ranks.length∧S.getLsbD w=true∧∀ v,v<ranks.length→S.getLsbD v=true→ranks.getD w (-1)≤ranks.getD v (-1):=by
 have hget:∀ v,v<ranks.length→ranks.getD v (-1)∈ranks:=fun v hv=>by
  rw[show ranks.getD v (-1)=ranks[v] by simp[hv]];exact List.getElem_mem hv
 intro j
 induction j with
 | zero=>
  intro k hk hb w;simp only[List.range'_zero,List.map_nil,leastL,BitVec.getLsbD_zero,Bool.false_eq_true,false_iff];rintro ⟨h1,h2,_⟩;have:=hb w h1 h2;have:=hM _ (hget w h1);omega
 | succ j ih=>
  intro k hk hb w;simp only[List.range'_succ,List.map_cons,leastL]
  have hl:∀ v,(levS ranks k ranks.length&&&S).getLsbD v=true↔v<ranks.length∧ranks.getD v (-1)=(k:Int)∧S.getLsbD v=true:=fun v=>by
   rw[BitVec.getLsbD_and,qcdb _ _ hn];simp[and_assoc]
  split
  · rename_i hz;refine ih (k+1) (by omega) (fun v hv hs=>?_) w
    have h1:=hb v hv hs
    have h2:¬ ranks.getD v (-1)=(k:Int):=fun h=>by
     have:=(hl v).2 ⟨hv,h,hs⟩;rw[hz] at this;simp at this
    omega
  · rename_i hz;rw[hl]
    constructor
    · rintro ⟨h1,h2,h3⟩;exact ⟨h1,h3,fun v hv hs=>by rw[h2];exact hb v hv hs⟩
    · rintro ⟨h1,h2,h3⟩;refine ⟨h1,?_,h2⟩
      obtain ⟨v,hv⟩:∃ v,(levS ranks k ranks.length&&&S).getLsbD v=true:=by
       refine Classical.byContradiction fun hno=>hz ?_
       refine que fun v _=>?_
       cases hv:(levS ranks k ranks.length&&&S).getLsbD v with
       | false=>simp
       | true=>exact absurd ⟨v,hv⟩ hno
      obtain ⟨a1,a2,a3⟩:=(hl v).1 hv;have:=h3 v a1 a3;have:=hb w h1 h2;omega
theorem qwib {names:List (List UInt8)} {ranks:List Int} (h:orderE names ranks=0) (S:BitVec 64) (w:Nat) :
 (leastS names ranks S).getLsbD w=true↔w<ranks.length∧S.getLsbD w=true∧∀ v,v<ranks.length→S.getLsbD v=true→ranks.getD w (-1)≤ranks.getD v (-1):=by
 have hn:=qyd h;have hk:=qsl (qkc h).2.2;have hm:=qyi hk;have hx:=qyo ranks;unfold leastS levelsO;rw[if_pos h];unfold levelsS;rw[List.range_eq_range'];refine quw hn.1 (fun r hr=>(hm r hr).1) S ((maxR ranks).toNat+1) (fun r hr=>?_) _ 0 (by omega) (fun v hv _=>?_) w
 · have:=qbq ranks 0 r hr;unfold maxR at *;omega
 · rw[show ranks.getD v (-1)=ranks[v] by simp[hv]]
   exact (hm _ (List.getElem_mem hv)).1
end Am

namespace Am
open Go
theorem qmp {R:Nat→PF} {e:Env} {J:List PF} (k:IR) (b:Bool):callQ R 1 true [] k e J (some [.bool b])=den R k (e++[.bool b]) J:=rfl
theorem qreb {R:Nat→PF} {e:Env} {J:List PF} (k:IR) (x:BitVec 64) (q:IntKind) (n:Int):callQ R 2 true [] k e J (some [bvD x,.int q n])=den R k (e++[bvD x,.int q n]) J:=rfl
theorem qqe {α:Type} [DecidableEq α]:∀ {l l':List α},l.Nodup→(∀ x∈l,x∈l')→l.length≤l'.length
 | [],_,_,_=>Nat.zero_le _
 | x::l,l',hn,h=>by
  have hn':=List.nodup_cons.1 hn;have hx:=h x (by simp)
  have h2:=qqe (l':=l'.erase x) hn'.2 fun y hy=>by
   have hy':=h y (by simp[hy])
   have hne:y≠x:=fun e=>hn'.1 (e ▸ hy)
   exact (List.mem_erase_of_ne hne).2 hy'
  have h3:=List.length_erase_of_mem hx;have h4:0<l'.length:=List.length_pos_of_mem hx;simp only[List.length_cons];omega
theorem qxx {α:Type} [DecidableEq α] {l l':List α} (h:l.Nodup) (h':l'.Nodup) (hm:∀ x,x∈l↔x∈l'):l.length=l'.length:=
 Nat.le_antisymm (qqe h fun x=>(hm x).1) (qqe h' fun x=>(hm x).2)
def belowF (r:Int) (acc:List Int) (x:Int):List Int:=if x<r∧x ∉ acc then acc++[x] else acc
def belowL (r:Int) (l:List Int):List Int:=l.foldl (belowF r) []
def normS (l:List Int):List Int:=l.map fun r=>((belowL r l).length:Int)
theorem qra (r:Int) (acc:List Int) (x y:Int):y∈belowF r acc x↔y∈acc∨(y=x∧x<r):=by
 unfold belowF
 by_cases h1:x<r
 · by_cases h2:x∈acc
   · rw[if_neg (by simp[h2])]
     constructor
     · exact .inl
     · rintro (h|⟨rfl,_⟩);exact h;exact h2
   · rw[if_pos ⟨h1,h2⟩];simp[h1]
 · rw[if_neg (by simp[h1])];simp[h1]
theorem qzr {r:Int} {acc:List Int} (x:Int) (h:acc.Nodup):(belowF r acc x).Nodup:=by
 unfold belowF
 split
 · rename_i hc;rw[List.nodup_append];refine ⟨h,by simp,fun a ha b hb=>?_⟩
   simp only[List.mem_singleton] at hb;subst hb;exact fun e=>hc.2 (e ▸ ha)
 · exact h
theorem qas (r:Int):∀ (l acc:List Int) (y:Int),y∈l.foldl (belowF r) acc↔y∈acc∨(y∈l∧y<r)
 | [],acc,y=>by simp
 | x::l,acc,y=>by
  rw[List.foldl_cons,qas r l,qra,List.mem_cons]
  constructor
  · rintro ((h|⟨rfl,h⟩)|⟨h1,h2⟩)
    · exact .inl h
    · exact .inr ⟨.inl rfl,h⟩
    · exact .inr ⟨.inr h1,h2⟩
  · rintro (h|⟨rfl|h1,h2⟩)
    · exact .inl (.inl h)
    · exact .inl (.inr ⟨rfl,h2⟩)
    · exact .inr ⟨h1,h2⟩
theorem qil (r:Int):∀ (l:List Int) {acc:List Int},acc.Nodup→(l.foldl (belowF r) acc).Nodup
 | [],_,h=>h
 | x::l,_,h=>qil r l (qzr x h)
theorem qlb (r:Int) (l:List Int) (y:Int):y∈belowL r l↔y∈l∧y<r:=by
 unfold belowL;rw[qas];simp
theorem qnc (r:Int) (l:List Int):(belowL r l).Nodup:=qil r l List.nodup_nil
theorem qpjb {r r':Int} (l:List Int) (h:r≤r'):(belowL r l).length≤(belowL r' l).length:=
 qqe (qnc r l) fun x hx=>by rw[qlb] at hx ⊢;exact ⟨hx.1,by omega⟩
theorem qoeb {r r':Int} {l:List Int} (hr:r∈l) (h:r<r'):(belowL r l).length<(belowL r' l).length:=by
 have:(r::belowL r l).length≤(belowL r' l).length:=qqe (List.nodup_cons.2 ⟨fun hm=>by rw[qlb] at hm;omega,qnc r l⟩) fun x hx=>by
  rw[qlb];rcases List.mem_cons.1 hx with rfl|hx
  · exact ⟨hr,h⟩
  · rw[qlb] at hx;exact ⟨hx.1,by omega⟩
 simp only[List.length_cons] at this;omega
theorem qgk {r:Int} {l:List Int} (hr:r∈l):(belowL r l).length<l.length:=by
 have:(r::belowL r l).length≤l.length:=qqe (List.nodup_cons.2 ⟨fun hm=>by rw[qlb] at hm;omega,qnc r l⟩) fun x hx=>by
  rcases List.mem_cons.1 hx with rfl|hx
  · exact hr
  · rw[qlb] at hx;exact hx.1
 simp only[List.length_cons] at this;omega
theorem qrs (r:Int):∀ {l:List Int},(∃ x∈l,x<r)→∃ x∈l,x<r∧∀ y∈l,y<r→y≤x
 | [],h=>by simp at h
 | a::l,h=>by
  by_cases h2:∃ x∈l,x<r
  · obtain ⟨x,h3,h4,h5⟩:=qrs r h2
    by_cases ha:a<r∧x<a
    · refine ⟨a,by simp,ha.1,fun y hy hyr=>?_⟩
      rcases List.mem_cons.1 hy with rfl|hy
      · omega
      · have:=h5 y hy hyr;omega
    · refine ⟨x,by simp[h3],h4,fun y hy hyr=>?_⟩
      rcases List.mem_cons.1 hy with rfl|hy
      · omega
      · exact h5 y hy hyr
  · obtain ⟨x,hx,hxr⟩:=h;rcases List.mem_cons.1 hx with rfl|hx
    · refine ⟨x,by simp,hxr,fun y hy hyr=>?_⟩
      rcases List.mem_cons.1 hy with rfl|hy
      · omega
      · exact absurd ⟨y,hy,hyr⟩ h2
    · exact absurd ⟨x,hx,hxr⟩ h2
theorem qzbb {r:Int} {l:List Int} {k:Nat} (hk:(belowL r l).length=k+1):∃ x∈l,(belowL x l).length=k:=by
 have hex:∃ x∈l,x<r:=by
  cases hb:belowL r l with
  | nil=>rw[hb] at hk;simp at hk
  | cons x l'=>
   have:x∈belowL r l:=by rw[hb];simp
   rw[qlb] at this;exact ⟨x,this.1,this.2⟩
 obtain ⟨x,h1,h2,h3⟩:=qrs r hex;refine ⟨x,h1,?_⟩
 have:(x::belowL x l).length=(belowL r l).length:=qxx (List.nodup_cons.2 ⟨fun hm=>by rw[qlb] at hm;omega,qnc x l⟩) (qnc r l) fun y=>by
  rw[List.mem_cons,qlb,qlb]
  constructor
  · rintro (rfl|⟨h,h'⟩)
    · exact ⟨h1,h2⟩
    · exact ⟨h,by omega⟩
  · rintro ⟨h,h'⟩;have:=h3 y h h'
    by_cases he:y=x
    · exact .inl he
    · exact .inr ⟨h,by omega⟩
 simp only[List.length_cons] at this;omega
theorem qogb {l:List Int}:∀ {k:Nat} {r:Int},r∈l→k≤(belowL r l).length→∃ x∈l,(belowL x l).length=k:=by
 have key:∀ (j k:Nat) (r:Int),r∈l→(belowL r l).length=k+j→∃ x∈l,(belowL x l).length=k:=by
  intro j
  induction j with
  | zero=>intro k r hr h;exact ⟨r,hr,h⟩
  | succ j ih=>
   intro k r hr h;obtain ⟨x,hx,h2⟩:=qzbb (k:=k+j) h;exact ih k x hx h2
 intro k r hr h;exact key ((belowL r l).length-k) k r hr (by omega)
theorem qok (l:List Int):(normS l).length=l.length:=by simp[normS]
theorem qhhb (l:List Int):rkOk (normS l)=true:=by
 have hin:rkIn (normS l).length (normS l)=true:=by
  rw[qok];unfold rkIn normS;rw[List.all_map,List.all_eq_true];intro r hr;have:=qgk hr;simp;omega
 unfold rkOk;rw[hin,Bool.true_and,List.all_eq_true];intro k hk;rw[List.mem_range] at hk;rw[decide_eq_true_eq];rcases qnu (normS l) 0 with h|h
 · unfold maxR at hk;rw[h] at hk;simp at hk
 · obtain ⟨r,hr,hr2⟩:=List.mem_map.1 h;have:k≤(belowL r l).length:=by unfold maxR at hk;rw[← hr2] at hk;omega
   obtain ⟨x,hx,h3⟩:=qogb hr this;exact List.mem_map.2 ⟨x,hx,by rw[h3]⟩
def vocN (n:Nat):List (List UInt8):=(List.range n).map fun (i:Nat)=>[(97+(i:Int)).toNat.toUInt8]
theorem qw (n:Nat):(vocN n).length=n:=by simp[vocN]
theorem qzf {n:Nat} (h:n≤6):vocOk (vocN n)=true:=by
 obtain rfl|rfl|rfl|rfl|rfl|rfl|rfl:n=0∨n=1∨n=2∨n=3∨n=4∨n=5∨n=6:=by omega
 all_goals rfl
theorem qdjb (n:Nat):vocN (n+1)=vocN n++[[(97+(n:Int)).toNat.toUInt8]]:=by
 unfold vocN;rw[List.range_succ,List.map_append];rfl
theorem qywb {n:Nat} (h:n≤6) {l:List Int} (hl:l.length=2^n):orderE (vocN n) (normS l)=0:=by
 unfold orderE;rw[if_pos ⟨qzf h,by rw[qok,qw,hl]⟩,if_pos (qhhb l)]
end Am
