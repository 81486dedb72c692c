/- Lemmas. -/
import Derived.Test.YtefjlhhicgepfaaGreatDoorAm4
set_option linter.unusedSimpArgs false
set_option linter.unusedVariables false
set_option linter.unusedSectionVars false
open BitVec (allOnes eq_of_toNat_eq getLsbD_and getLsbD_or ofInt toNat_ofInt)
open List (all_eq_true getElem_mem length_cons lt_irrefl map_set mem_cons mem_map nodup_cons not_lt range replicate)
open Bool (and_eq_true)
namespace Am
open Go
def bvD(x:BitVec 64):D:=.int .u64 (x.toNat:Int)
theorem al8{n:Int}(h0:0≤n)(h1:n<18446744073709551616):IntKind.u64.wrap n=n:=by
 simp[IntKind.wrap,IntKind.bits,IntKind.signed];omega
theorem qbf(x:BitVec 64):ofInt 64 (x.toNat:Int)=x:=by
 apply eq_of_toNat_eq
 have:=x.isLt;simp
theorem qcy(x:BitVec 64):IntKind.u64.wrap (x.toNat:Int)=(x.toNat:Int):=al8 (by omega) (by have:=x.isLt;omega)
theorem ab6(n:Int):IntKind.u64.wrap n=((ofInt 64 n).toNat:Int):=by
 rw[toNat_ofInt];simp[IntKind.wrap,IntKind.bits,IntKind.signed];omega
theorem ajb(tb:Bool)(x y:BitVec 64):PO.eval (.bin .and tb) [bvD x,bvD y]=some [bvD (x&&&y)]:=by
 show one1 (some (.int .u64 (IntKind.u64.wrap ((ofInt 64 (x.toNat:Int)&&&ofInt 64 (y.toNat:Int)).toNat:Int))))=_
 rw[qbf,qbf,qcy];rfl
theorem anl(tb:Bool)(x y:BitVec 64):PO.eval (.bin .or tb) [bvD x,bvD y]=some [bvD (x|||y)]:=by
 show one1 (some (.int .u64 (IntKind.u64.wrap ((ofInt 64 (x.toNat:Int)|||ofInt 64 (y.toNat:Int)).toNat:Int))))=_
 rw[qbf,qbf,qcy];rfl
theorem amk(tb:Bool)(x y:BitVec 64):PO.eval (.bin .xor tb) [bvD x,bvD y]=some [bvD (x ^^^ y)]:=by
 show one1 (some (.int .u64 (IntKind.u64.wrap ((ofInt 64 (x.toNat:Int) ^^^ ofInt 64 (y.toNat:Int)).toNat:Int))))=_
 rw[qbf,qbf,qcy];rfl
theorem qct(tb:Bool)(x y:BitVec 64):PO.eval (.bin .andNot tb) [bvD x,bvD y]=some [bvD (x &&& ~~~y)]:=by
 show one1 (some (.int .u64 (IntKind.u64.wrap ((ofInt 64 (x.toNat:Int) &&& ~~~ofInt 64 (y.toNat:Int)).toNat:Int))))=_
 rw[qbf,qbf,qcy];rfl
theorem agk(x:BitVec 64):PO.eval (.un .xor) [bvD x]=some [bvD (~~~x)]:=by
 show one1 (some (.int .u64 (IntKind.u64.wrap ((ofInt 64 (18446744073709551615:Int) ^^^ ofInt 64 (x.toNat:Int)).toNat:Int))))=_
 have h:ofInt 64 (18446744073709551615:Int)=allOnes 64:=by decide
 rw[qbf,qcy,h,BitVec.allOnes_xor];rfl
theorem adp(tb:Bool)(x y:BitVec 64):PO.eval (.bin .eql tb) [bvD x,bvD y]=some [.bool (decide (x=y))]:=by
 show one1 (some (.bool (((x.toNat:Int)) == (y.toNat:Int))))=_
 have:(((x.toNat:Int)) == (y.toNat:Int))=decide (x=y):=by
  rw[abc]
  congr 1
  exact propext ⟨fun h=>eq_of_toNat_eq (by omega),fun h=>by rw[h]⟩
 rw[this];rfl
theorem aec(tb:Bool)(x y:BitVec 64):PO.eval (.bin .neq tb) [bvD x,bvD y]=some [.bool (!decide (x=y))]:=by
 show one1 (some (.bool (((x.toNat:Int)) != (y.toNat:Int))))=_
 have:(((x.toNat:Int)) != (y.toNat:Int)) = !decide (x=y):=by
  rw[bw]
  congr 2
  exact propext ⟨fun h=>eq_of_toNat_eq (by omega),fun h=>by rw[h]⟩
 rw[this];rfl
theorem aiu(tb:Bool)(x y:BitVec 64):PO.eval (.bin .sub tb) [bvD x,bvD y]=some [bvD (x-y)]:=by
 show one1 (some (.int .u64 (IntKind.u64.wrap ((x.toNat:Int)-(y.toNat:Int)))))=_
 rw[ab6]
 have:ofInt 64 ((x.toNat:Int)-(y.toNat:Int))=x-y:=by
  apply eq_of_toNat_eq
  have h1:=x.isLt;have h2:=y.isLt;rw[toNat_ofInt,BitVec.toNat_sub];omega
 rw[this];rfl
theorem ahn(tb:Bool)(x y:BitVec 64):PO.eval (.bin .mul tb) [bvD x,bvD y]=some [bvD (x*y)]:=by
 show one1 (some (.int .u64 (IntKind.u64.wrap ((x.toNat:Int)*(y.toNat:Int)))))=_
 rw[ab6]
 have:ofInt 64 ((x.toNat:Int)*(y.toNat:Int))=x*y:=by
  rw[BitVec.ofInt_mul,qbf,qbf]
 rw[this];rfl
theorem a36(x:BitVec 64)(n:Nat):IntKind.u64.wrap ((x.toNat:Int)*2^(min n 64))=(((x <<< n).toNat:Nat):Int):=by
 rw[ab6]
 congr 1
 rw[BitVec.toNat_shiftLeft,Nat.shiftLeft_eq,toNat_ofInt];have h1:(x.toNat:Int)*2^(min n 64)=((x.toNat*2^(min n 64):Nat):Int):=by simp
 rw[h1]
 show (((x.toNat*2^(min n 64):Nat):Int) % ((2^64:Nat):Int)).toNat=_
 rw[← Int.natCast_emod,Int.toNat_natCast]
 by_cases h:n≤64
 · rw[Nat.min_eq_left h]
 · rw[Nat.min_eq_right (by omega)]
   have h2:2^64 ∣ x.toNat*2^n:=Nat.dvd_trans (Nat.pow_dvd_pow 2 (by omega:64≤n)) (Nat.dvd_mul_left ..)
   rw[Nat.mod_eq_zero_of_dvd h2,Nat.mul_mod_left]
theorem af3(tb:Bool)(k:IntKind)(x:BitVec 64)(n:Nat):PO.eval (.bin .shl tb) [bvD x,.int k (n:Int)]=some [bvD (x <<< n)]:=by
 show one1 (if 0≤(n:Int) then some (.int .u64 (IntKind.u64.wrap ((x.toNat:Int)*2^(min ((n:Int)).toNat 64)))) else none)=_
 rw[if_pos (by omega),Int.toNat_natCast,a36];rfl
theorem qxv(tb:Bool)(x y:BitVec 64):PO.eval (.bin .shl tb) [bvD x,bvD y]=some [bvD (x <<< y.toNat)]:=af3 tb .u64 x y.toNat
theorem aji(x:BitVec 64)(n:Nat):((x.toNat:Int)).fdiv (2^(min n 64))=(((x >>> n).toNat:Nat):Int):=by
 rw[BitVec.toNat_ushiftRight,Nat.shiftRight_eq_div_pow];have h1:((2:Int)^(min n 64))=((2^(min n 64):Nat):Int):=by simp
 rw[h1,Int.fdiv_eq_ediv_of_nonneg _ (Int.natCast_nonneg _),← Int.natCast_ediv]
 congr 1
 by_cases h:n≤64
 · rw[Nat.min_eq_left h]
 · rw[Nat.min_eq_right (by omega),Nat.div_eq_of_lt x.isLt]
   have:x.toNat<2^n:=Nat.lt_of_lt_of_le x.isLt (Nat.pow_le_pow_right (by omega) (by omega))
   rw[Nat.div_eq_of_lt this]
theorem qsa(tb:Bool)(k:IntKind)(x:BitVec 64)(n:Nat):PO.eval (.bin .shr tb) [bvD x,.int k (n:Int)]=some [bvD (x >>> n)]:=by
 show one1 (if 0≤(n:Int) then some (.int .u64 (((x.toNat:Int)).fdiv (2^(min ((n:Int)).toNat 64)))) else none)=_
 rw[if_pos (by omega),Int.toNat_natCast,aji];rfl
theorem alt(tb:Bool)(x y:BitVec 64):PO.eval (.bin .shr tb) [bvD x,bvD y]=some [bvD (x >>> y.toNat)]:=qsa tb .u64 x y.toNat
theorem auv(k:IntKind)(n:Int):PO.eval (.conv .u64) [.int k n]=some [bvD (ofInt 64 n)]:=by
 show some [D.int .u64 (IntKind.u64.wrap n)]=_
 rw[ab6];rfl
theorem qxz(x:BitVec 64):PO.eval (.conv .u64) [bvD x]=some [bvD x]:=by
 show some [D.int .u64 (IntKind.u64.wrap (x.toNat:Int))]=_
 rw[qcy];rfl
theorem ay9(k:IntKind){n:Nat}(h:n<18446744073709551616):PO.eval (.conv .u64) [.int k (n:Int)]=some [.int .u64 (n:Int)]:=by
 show some [D.int .u64 (IntKind.u64.wrap n)]=_
 rw[al8 (by omega) (by omega)]
theorem aix{x:BitVec 64}(h:x.toNat<9223372036854775808):PO.eval (.conv .i64) [bvD x]=some [.int .i64 (x.toNat:Int)]:=by
 show some [D.int .i64 (IntKind.i64.wrap (x.toNat:Int))]=_
 rw[wr (by omega) (by omega)]
theorem alf:D.int .u64 0=bvD 0#64:=rfl
theorem ao9:D.int .u64 1=bvD 1#64:=rfl
theorem alx:D.int .u64 18446744073709551615=bvD (allOnes 64):=rfl
theorem ahy:D.int .u64 11400714819323198485=bvD 11400714819323198485#64:=rfl
theorem qiq(tb:Bool)(k:IntKind){n:Nat}(h:n<63):PO.eval (.bin .shl tb) [.int .i64 1,.int k (n:Int)]=some [.int .i64 ((2^n:Nat):Int)]:=by
 show one1 (if 0≤(n:Int) then some (.int .i64 (IntKind.i64.wrap (1*2^(min ((n:Int)).toNat 64)))) else none)=_
 rw[if_pos (by omega),Int.toNat_natCast,Nat.min_eq_left (by omega),Int.one_mul]
 have h1:((2:Int)^n)=((2^n:Nat):Int):=by simp
 have h2:2^n<9223372036854775808:=Nat.pow_lt_pow_right (by omega) h
 generalize 2^n=m at h1 h2 ⊢;rw[h1,wr (by omega) (by omega)];rfl
theorem a5f(tb:Bool)(k:IntKind)(a n:Nat)(h:n≤64):PO.eval (.bin .shr tb) [.int .i64 (a:Int),.int k (n:Int)]=some [.int .i64 ((a / 2^n:Nat):Int)]:=by
 show one1 (if 0≤(n:Int) then some (.int .i64 ((a:Int).fdiv (2^(min ((n:Int)).toNat 64)))) else none)=_
 rw[if_pos (by omega),Int.toNat_natCast,Nat.min_eq_left h]
 have h1:((2:Int)^n)=((2^n:Nat):Int):=by simp
 rw[h1,Int.fdiv_eq_ediv_of_nonneg _ (Int.natCast_nonneg _),← Int.natCast_ediv];rfl
theorem aoc(a:Nat):ofInt 64 (a:Int)=BitVec.ofNat 64 a:=by simp
theorem a0p{tb:Bool}{a b:Nat}(ha:a<9223372036854775808)(hb:b<9223372036854775808):PO.eval (.bin .and tb) [.int .i64 (a:Int),.int .i64 (b:Int)]=some [.int .i64 ((a&&&b:Nat):Int)]:=by
 show one1 (some (.int .i64 (IntKind.i64.wrap ((ofInt 64 (a:Int)&&&ofInt 64 (b:Int)).toNat:Int))))=_
 have h1:a&&&b≤a:=Nat.and_le_left;rw[aoc,aoc,BitVec.toNat_and,BitVec.toNat_ofNat,BitVec.toNat_ofNat,Nat.mod_eq_of_lt (by omega),Nat.mod_eq_of_lt (by omega),wr (by omega) (by omega)];rfl
theorem auq{tb:Bool}{a:Nat}(ha:a<9223372036854775808):PO.eval (.bin .and tb) [.int .i64 (a:Int),.int .i64 1]=some [.int .i64 ((a % 2:Nat):Int)]:=by
 have:=a0p (tb:=tb) ha (b:=1) (by omega)
 rw[Nat.and_one_is_mod] at this;exact this
def bc(p:Nat→Bool):Nat→BitVec 64
 | 0=>0#64
 | n+1=>if p n=true then bc p n|||(1#64 <<< n) else bc p n
theorem qwc(n w:Nat)(hn:n<64):(1#64 <<< n).getLsbD w=decide (w=n):=by
 rw[BitVec.getLsbD_shiftLeft]
 by_cases h:w=n
 · subst h;simp[hn]
 · by_cases h2:w<n
   · simp[h,h2]
   · have:w-n≠0:=by omega
     simp[h,BitVec.getLsbD_one,this]
theorem qk(p:Nat→Bool):∀ (n w:Nat),n≤64→(bc p n).getLsbD w=(decide (w<n)&&p w)
 | 0,w,_=>by simp[bc]
 | n+1,w,h=>by
  have ih:=qk p n w (by omega)
  simp only[bc]
  by_cases hp:p n=true
  · rw[if_pos hp,getLsbD_or,ih,qwc n w (by omega)]
    by_cases h1:w=n
    · subst h1;simp[hp]
    · have h2:(w<n+1)=(w<n):=propext ⟨fun h=>by omega,fun h=>by omega⟩
      simp[h1,h2]
  · rw[if_neg hp,ih]
    by_cases h1:w=n
    · subst h1;simp[hp]
    · have h2:(w<n+1)=(w<n):=propext ⟨fun h=>by omega,fun h=>by omega⟩
      simp[h2]
theorem qxe{x y:BitVec 64}(h:∀ w,w<64→x.getLsbD w=y.getLsbD w):x=y:=BitVec.eq_of_getLsbD_eq fun i hi=>h i hi
theorem au2(x:BitVec 64)(w:Nat):(x >>> w&&&1#64=1#64)↔x.getLsbD w=true:=by
 constructor
 · intro h;have:=congrArg (fun z:BitVec 64=>z.getLsbD 0) h
   simpa using this
 · intro h;refine qxe fun i hi=>?_
   rw[getLsbD_and,BitVec.getLsbD_one]
   by_cases h0:i=0
   · subst h0;simp[h]
   · simp[h0]
theorem qzv(x:BitVec 64):x=0#64↔∀ w,w<64→x.getLsbD w=false:=by
 constructor
 · intro h w _;rw[h];simp
 · intro h;exact qxe fun w hw=>by rw[h w hw];simp
theorem aiw(n:Int):D.int .u64 (IntKind.u64.wrap n)=bvD (ofInt 64 n):=by rw[ab6];rfl
theorem ajn(n:Nat):(0≤(n:Int))=True:=eq_true (Int.natCast_nonneg n)
theorem qcd{n:Nat}(h:n<63):IntKind.i64.wrap (1*2^(min ((n:Int)).toNat IntKind.i64.bits))=((2^n:Nat):Int):=by
 have:=qiq false .i64 h;have h2:PO.eval (.bin .shl false) [.int .i64 1,.int .i64 (n:Int)]=one1 (if 0≤(n:Int) then some (.int .i64 (IntKind.i64.wrap (1*2^(min ((n:Int)).toNat IntKind.i64.bits)))) else none):=rfl
 rw[h2,if_pos (by omega)] at this
 simp only[one1,Option.map_some,Option.some.injEq,List.cons.injEq,D.int.injEq,and_true,true_and] at this;exact this
theorem qzq{a n:Nat}(h:n≤64):((a:Int)).fdiv (2^(min ((n:Int)).toNat IntKind.i64.bits))=((a / 2^n:Nat):Int):=by
 have:=a5f false .i64 a n h;have h2:PO.eval (.bin .shr false) [.int .i64 (a:Int),.int .i64 (n:Int)]=one1 (if 0≤(n:Int) then some (.int .i64 (((a:Int)).fdiv (2^(min ((n:Int)).toNat IntKind.i64.bits)))) else none):=rfl
 rw[h2,if_pos (by omega)] at this
 simp only[one1,Option.map_some,Option.some.injEq,List.cons.injEq,D.int.injEq,and_true,true_and] at this;exact this
theorem qyr{a:Nat}(h:a<9223372036854775808):IntKind.i64.wrap ((ofInt IntKind.i64.bits (a:Int)&&&ofInt IntKind.i64.bits 1).toNat:Int)=((a % 2:Nat):Int):=by
 have:=auq (tb:=false) h;have h2:PO.eval (.bin .and false) [.int .i64 (a:Int),.int .i64 1]=one1 (some (.int .i64 (IntKind.i64.wrap ((ofInt IntKind.i64.bits (a:Int)&&&ofInt IntKind.i64.bits 1).toNat:Int)))):=rfl;rw[h2] at this;simp only[one1,Option.map_some,Option.some.injEq,List.cons.injEq,D.int.injEq,and_true,true_and] at this;exact this
theorem qtv(x:BitVec 64)(w:Nat):decide (x >>> w&&&1#64=1#64)=x.getLsbD w:=by
 have:=au2 x w;cases h:x.getLsbD w with
 | true=>exact decide_eq_true (this.2 h)
 | false=>exact decide_eq_false fun h2=>by rw[this.1 h2] at h;cases h
theorem akm(x:BitVec 64):aUn .xor (bvD x)=some (bvD (~~~x)):=by
 have h:=agk x;have h2:PO.eval (.un .xor) [bvD x]=one1 (aUn .xor (bvD x)):=rfl;rw[h2] at h;cases ha:aUn .xor (bvD x) with
 | none=>rw[ha] at h;cases h
 | some d=>rw[ha] at h;cases h;rfl
theorem bvQ:type_of% @akm∧type_of% @ajb∧type_of% @anl∧type_of% @amk∧type_of% @qct∧type_of% @agk∧type_of% @adp∧type_of% @aec∧type_of% @aiu∧type_of% @ahn∧type_of% @af3∧type_of% @qxv∧type_of% @qsa∧type_of% @alt∧type_of% @qxz∧type_of% @alf∧type_of% @ao9∧type_of% @alx∧type_of% @ahy∧type_of% @aiw∧type_of% @ajn∧type_of% @qtv:=
 ⟨akm,ajb,anl,amk,qct,agk,adp,aec,aiu,ahn,af3,qxv,qsa,alt,qxz,alf,ao9,alx,ahy,aiw,ajn,qtv⟩
def nt:List UInt8→List (List UInt8)→Bool
 | _,[]=>true
 | p,a::l=>al a&&(Op.bytesLess p a&&nt a l)
def ec:List (List UInt8)→Bool
 | []=>true
 | a::l=>al a&&nt a l
def mv(l:List (List UInt8))(i:Nat):Bool:=if i=0 then ec l else nt (l.getD (i-1) []) (l.drop i)
def cu(l:List (List UInt8)):Bool:=decide (l.length≤6)&&ec l
theorem qjv(l:List (List UInt8)):mv l 0=ec l:=by simp[mv]
theorem qoz(l:List (List UInt8)):mv l l.length=true:=by
 unfold mv
 split
 · rename_i h;rw[List.eq_nil_of_length_eq_zero h];rfl
 · simp[nt]
theorem aqq{l:List (List UInt8)}(h:0<l.length):mv l 0=(al l[0]&&mv l 1):=by
 cases l with
 | nil=>simp at h
 | cons a l=>simp[mv,ec]
theorem qxf{l:List (List UInt8)}{i:Nat}(h0:¬ 0<i)(h:i<l.length):mv l i=(al l[i]&&mv l (i+1)):=by
 have:i=0:=by omega
 subst this;exact aqq h
theorem qli{l:List (List UInt8)}{i:Nat}(h0:0<i)(h:i<l.length):mv l i=(al l[i]&&(Op.bytesLess l[i-1] l[i]&&mv l (i+1))):=by
 have h1:i≠0:=by omega
 have h2:l.getD (i-1) []=l[i-1]:=by simp[show i-1<l.length by omega]
 have h3:l.getD i []=l[i]:=by simp[h]
 unfold mv;rw[if_neg h1,if_neg (by omega),qbg h,nt,h2,Nat.add_sub_cancel,h3]
theorem qqm(a b:List UInt8):(Op.bytesLess a b || a == b) = !Op.bytesLess b a:=by
 cases h1:Op.bytesLess a b with
 | true=>
  cases h2:Op.bytesLess b a with
  | false=>rfl
  | true=>
   have:=List.lt_trans ((qid a b).1 h1) ((qid b a).1 h2);exact absurd this (lt_irrefl _)
 | false=>
  cases h2:Op.bytesLess b a with
  | true=>
   have hab:a≠b:=by rintro rfl;rw[h1] at h2;cases h2
   simp[hab]
  | false=>
   have n1:¬ a<b:=fun h=>by rw[(qid a b).2 h] at h1;cases h1
   have n2:¬ b<a:=fun h=>by rw[(qid b a).2 h] at h2;cases h2
   have:a=b:=List.le_antisymm (List.not_lt.1 n2) (List.not_lt.1 n1);simp[this]
theorem qqo:∀ {p:List UInt8} {l:List (List UInt8)},nt p l=true→(p::l).Pairwise (fun x y=>x<y)∧∀ x∈l,al x=true
 | p,[],_=>by simp
 | p,a::l,h=>by
  simp only[nt,and_eq_true] at h;obtain ⟨h1,h2,h3⟩:=h;obtain ⟨h4,h5⟩:=qqo h3;have hpa:=(qid p a).1 h2;refine ⟨List.pairwise_cons.2 ⟨fun y hy=>?_,h4⟩,fun x hx=>?_⟩
  · rcases List.mem_cons.1 hy with rfl|hy
    · exact hpa
    · exact List.lt_trans hpa ((List.pairwise_cons.1 h4).1 y hy)
  · rcases List.mem_cons.1 hx with rfl|hx
    · exact h1
    · exact h5 x hx
theorem qyh{l:List (List UInt8)}(h:ec l=true):l.Pairwise (fun x y=>x<y)∧∀ x∈l,al x=true:=by
 cases l with
 | nil=>simp
 | cons a l=>
  simp only[ec,and_eq_true] at h;obtain ⟨h1,h2⟩:=qqo h.2;exact ⟨h1,fun x hx=>by rcases List.mem_cons.1 hx with rfl|hx;exact h.1;exact h2 x hx⟩
theorem qhf{a:List UInt8}{l:List (List UInt8)}(h:ec (a::l)=true):ec l=true:=by
 cases l with
 | nil=>rfl
 | cons b l=>
  simp only[ec,nt,and_eq_true] at h ⊢;exact ⟨h.2.1,h.2.2.2⟩
theorem qnb{l:List (List UInt8)}(h:cu l=true):l.length≤6:=by
 simp only[cu,and_eq_true,decide_eq_true_eq] at h;exact h.1
theorem qvc{l:List (List UInt8)}(h:cu l=true):ec l=true:=by
 simp only[cu,and_eq_true] at h;exact h.2
def fm:List (List UInt8)→Nat→List (List UInt8)
 | [],_=>[]
 | a::l,w=>if w % 2=1 then a::fm l (w / 2) else fm l (w / 2)
theorem qfq:∀ (l:List (List UInt8)) (w:Nat),∀ x∈fm l w,x∈l
 | [],_,x,h=>by simp[fm] at h
 | a::l,w,x,h=>by
  simp only[fm] at h
  split at h
  · rcases List.mem_cons.1 h with rfl|h
    · simp
    · exact List.mem_cons_of_mem _ (qfq l _ x h)
  · exact List.mem_cons_of_mem _ (qfq l _ x h)
theorem ah6{l:List (List UInt8)}(hp:l.Pairwise (fun x y=>x<y)):∀ {i w:Nat} (hi:i<l.length),(l[i]∈fm l w↔w / 2^i % 2=1):=by
 induction l with
 | nil=>intro i w hi;simp at hi
 | cons a l ih=>
  intro i w hi;have xy:=List.pairwise_cons.1 hp;cases i with
  | zero=>
   simp only[List.getElem_cons_zero,fm,Nat.pow_zero,Nat.div_one]
   split
   · rename_i h;simp[h]
   · rename_i h
     constructor
     · intro hm;exact absurd (xy.1 a (qfq _ _ _ hm)) (lt_irrefl _)
     · intro h2;exact absurd h2 h
  | succ i=>
   have bn:i<l.length:=by simpa using hi
   simp only[List.getElem_cons_succ,fm];have h2:=ih xy.2 (w:=w / 2) bn;have h3:w / 2 / 2^i=w / 2^(i+1):=by rw[Nat.div_div_eq_div_mul,Nat.pow_succ,Nat.mul_comm]
   rw[h3] at h2;have dc:l[i]≠a:=fun h=>absurd (xy.1 l[i] (getElem_mem bn)) (by rw[h];exact lt_irrefl _)
   split
   · rw[mem_cons,h2];simp[dc]
   · exact h2
theorem a6f(p q:Nat→Bool){n:Nat}(h:n≤64):bc p n&&&bc q n=bc (fun w=>p w&&q w) n:=by
 refine qxe fun w _=>?_
 rw[getLsbD_and,qk _ _ _ h,qk _ _ _ h,qk _ _ _ h];cases decide (w<n)<;>simp
theorem aoj(p q:Nat→Bool){n:Nat}(h:n≤64):bc p n|||bc q n=bc (fun w=>p w || q w) n:=by
 refine qxe fun w _=>?_
 rw[getLsbD_or,qk _ _ _ h,qk _ _ _ h,qk _ _ _ h];cases decide (w<n)<;>simp
theorem a0r(p q:Nat→Bool){n:Nat}(h:n≤64):bc p n ^^^ bc q n=bc (fun w=>p w ^^ q w) n:=by
 refine qxe fun w _=>?_
 rw[BitVec.getLsbD_xor,qk _ _ _ h,qk _ _ _ h,qk _ _ _ h];cases decide (w<n)<;>simp
theorem qqr(p:Nat→Bool) : ~~~(bc p 64)=bc (fun w=>!p w) 64:=by
 refine qxe fun w hw=>?_
 rw[BitVec.getLsbD_not,qk _ _ _ (Nat.le_refl _),qk _ _ _ (Nat.le_refl _)];simp[hw]
theorem qsb{p q:Nat→Bool}{n:Nat}(hn:n≤64)(h:∀ w,w<n→p w=q w):bc p n=bc q n:=by
 refine qxe fun w hw=>?_
 rw[qk _ _ _ hn,qk _ _ _ hn]
 by_cases tq:w<n
 · simp[tq,h w tq]
 · simp[tq]
theorem arh(p:Nat→Bool){n:Nat}(hn:n≤64):bc p 64&&&bc (fun _=>true) n=bc p n:=by
 refine qxe fun w hw=>?_
 rw[getLsbD_and,qk _ _ _ (Nat.le_refl _),qk _ _ _ hn,qk _ _ _ hn]
 by_cases tq:w<n<;>simp[tq,hw]
theorem aju:bc (fun _=>true) 64=allOnes 64:=by rfl
theorem aw8:bc (fun _=>false) 64=0#64:=by rfl
theorem lq{n:Nat}(h:n≤6):2^n≤64:=by
 obtain rfl|rfl|rfl|rfl|rfl|rfl|rfl:n=0∨n=1∨n=2∨n=3∨n=4∨n=5∨n=6:=by omega
 all_goals decide
def it(bm:List (List UInt8))(f:F)(n:Nat):BitVec 64:=bc (fun w=>F.val (fm bm w) f) n
def p6(bm:List (List UInt8))(f:F):Bool:=(canon (F.atomL f)).all fun s=>bm.contains s
def bv(bm:List (List UInt8))(f:F):Int:=if cu bm=false then 1 else if ca f≠0 then ca f else if p6 bm f=false then 6 else 0
def cj(bm:List (List UInt8))(f:F):BitVec 64:=if bv bm f=0 then it bm f (2^bm.length) else 0#64
def ny(bm:List (List UInt8)):BitVec 64:=if cu bm=true then bc (fun _=>true) (2^bm.length) else 0#64
def gw(l:List Bool):D:=.sl (l.map fun b=>[.bool b])
def dq(l:List (BitVec 64)):D:=.sl (l.map fun x=>[bvD x])
theorem asd:D.sl []=dq []:=rfl
theorem ag6{l:List Bool}{i:Nat}(h:i<l.length):PO.eval (.row 1) [gw l,.int .i64 i]=some [.bool l[i]]:=qpg (by omega) (by simp[h]) rfl
theorem af2(l:List Bool):PO.eval .lenL [gw l]=some [.int .i64 l.length]:=by simp[gw,qkd]
theorem a3e{l:List Bool}{i:Nat}(h:i<l.length):PO.eval .chk [gw l,.int .i64 i]=some []:=qet (by omega) (by simp;omega)
theorem apg{l:List Bool}{i:Nat}(h:i<l.length)(b:Bool):PO.eval (.set 0 1) [gw l,.int .i64 i,.bool b]=some [gw (l.set i b)]:=by
 simp[PO.eval,gw,h,uc,map_set]
theorem as2{l:List Bool}{b:Nat}(h2:b≤l.length):PO.eval (.subL 1) [gw l,.int .i64 0,.int .i64 b]=some [gw (l.take b)]:=by
 have:=ali (sz:=1) (xs:=l.map fun b=>[D.bool b]) (k:=.i64) (k':=.i64) (a:=0) (b:=b) (by omega) (by omega) (by simp;omega) (by simp)
 simpa [gw,List.map_take] using this
theorem mkB{n:Nat}(h:n<1000000000):PO.eval (.mkL 1 [.bool false]) [.int .i64 n]=some [gw (replicate n false)]:=by
 simp only[PO.eval];rw[if_pos ⟨by omega,by omega,by omega⟩]
 simp[gw]
theorem ac5{l:List (BitVec 64)}{i:Nat}(h:i<l.length):PO.eval (.row 1) [dq l,.int .i64 i]=some [bvD l[i]]:=qpg (by omega) (by simp[h]) rfl
theorem afj(l:List (BitVec 64)):PO.eval .lenL [dq l]=some [.int .i64 l.length]:=by simp[dq,qkd]
theorem auk{l:List (BitVec 64)}{i:Nat}(h:i<l.length):PO.eval .chk [dq l,.int .i64 i]=some []:=qet (by omega) (by simp;omega)
theorem a5q{l:List (BitVec 64)}{i:Nat}(h:i<l.length):PO.eval (.get 0 1) [dq l,.int .i64 i]=some [bvD l[i]]:=by
 simp[PO.eval,dq,h]
theorem a4p{l:List (BitVec 64)}{i:Nat}(h:i<l.length)(x:BitVec 64):PO.eval (.set 0 1) [dq l,.int .i64 i,bvD x]=some [dq (l.set i x)]:=by
 simp[PO.eval,dq,h,uc,map_set]
theorem awo{l:List (BitVec 64)}{x:BitVec 64}(h:l.length<1000000000000):PO.eval (.app 1 8) [dq l,.sl [[bvD x]]]=some [dq (l++[x])]:=by
 have:=qxg (sz:=1) (bt:=8) (xs:=l.map fun x=>[bvD x]) (ys:=[[bvD x]]) (by simp;omega) (by simp;omega) rfl
 simpa [dq] using this
theorem mkV{n:Nat}(h:n<1000000000):PO.eval (.mkL 8 [bvD 0#64]) [.int .i64 n]=some [dq (replicate n 0#64)]:=by
 simp only[PO.eval];rw[if_pos ⟨by omega,by omega,by omega⟩]
 simp[dq]
theorem mkN{n:Nat}(h:n<1000000000):PO.eval (.mkL 8 [.int .i64 0]) [.int .i64 n]=some [ab (replicate n 0)]:=by
 simp only[PO.eval];rw[if_pos ⟨by omega,by omega,by omega⟩]
 simp[ab,ie]
theorem qgl{l:List Int}{i:Nat}(h:i<l.length):PO.eval .chk [ab l,.int .i64 i]=some []:=qet (by omega) (by simp;omega)
theorem adw{l:List Int}{i:Nat}(h:i<l.length):PO.eval (.get 0 1) [ab l,.int .i64 i]=some [.int .i64 l[i]]:=by
 simp[PO.eval,ab,ie,h]
theorem qio{l:List Int}{i:Nat}(h:i<l.length)(x:Int):PO.eval (.set 0 1) [ab l,.int .i64 i,.int .i64 x]=some [ab (l.set i x)]:=by
 simp[PO.eval,ab,ie,h,uc,map_set]
def pd{α:Type}[DecidableEq α](s:α):Nat→List α→Int
 | _,[]=>-1
 | i,x::l=>if s=x then i else pd s (i+1) l
theorem qzx{α:Type}[DecidableEq α](s:α):∀ (l:List α) (i:Nat),decide (pd s i l≥0)=decide (s∈l)
 | [],i=>by simp[pd]
 | x::l,i=>by
  simp only[pd]
  by_cases h:s=x
  · subst h;simp
  · have:=qzx s l (i+1);simp[h,this]
theorem aty{α:Type}[DecidableEq α](s:α){l:List α}{i:Nat}(h:i<l.length):pd s i (l.drop i)=if s=l[i] then (i:Int) else pd s (i+1) (l.drop (i+1)):=by
 rw[qbg h];rfl
theorem ayc{α:Type}[DecidableEq α](s:α)(l:List α):pd s l.length (l.drop l.length) = -1:=by rw[a0d];rfl
def j5(m r:Int):Int:=if r>m then r else m
def od(m:Int)(l:List Int):Int:=l.foldl j5 m
def di(l:List Int):Int:=od 0 l
theorem as0(m:Int)(l:List Int)(r:Int):od m (l++[r])=j5 (od m l) r:=by simp[od]
theorem quy:∀ (l:List Int) (m:Int),m≤od m l
 | [],m=>Int.le_refl _
 | r::l,m=>by
  have:=quy l (j5 m r)
  show m≤od (j5 m r) l
  have h2:m≤j5 m r:=by unfold j5;split<;>omega
  omega
theorem qdf:∀ (l:List Int) (m:Int),∀ r∈l,r≤od m l
 | x::l,m,r,h=>by
  show r≤od (j5 m x) l
  rcases List.mem_cons.1 h with rfl|h
  · have h1:=quy l (j5 m r);have h2:r≤j5 m r:=by unfold j5;split<;>omega
    omega
  · exact qdf l _ r h
theorem qrw:∀ (l:List Int) (m:Int),od m l=m∨od m l∈l
 | [],m=>.inl rfl
 | x::l,m=>by
  show od (j5 m x) l=m∨_
  rcases qrw l (j5 m x) with h|h
  · rw[show od m (x::l)=od (j5 m x) l from rfl,h]
    unfold j5
    split
    · right;simp
    · exact .inl rfl
  · exact .inr (List.mem_cons_of_mem _ h)
theorem qkf(l:List Int):0≤di l:=quy l 0
def ym(n:Nat)(l:List Int):Bool:=l.all fun r=>decide (0≤r)&&decide (r<n)
def mo(l:List Int):Bool:=ym l.length l&&(range (di l).toNat).all fun k=>decide ((k:Int)∈l)
def bi(aa:List (List UInt8))(ranks:List Int):Int:=if cu aa=true∧ranks.length=2^aa.length then (if mo ranks=true then 0 else 8) else 1
theorem quf{n:Nat}{l:List Int}(h:ym n l=true):∀ r∈l,0≤r∧r<n:=by
 intro r hr;have:=List.all_eq_true.1 h r hr
 simpa using this
theorem qnk{l:List Int}(h:ym l.length l=true)(h0:0<l.length):di l<l.length:=by
 rcases qrw l 0 with h1|h1
 · unfold di;rw[h1];omega
 · exact (quf h _ h1).2
def d8(ranks:List Int)(k:Nat)(n:Nat):BitVec 64:=bc (fun w=>decide (ranks.getD w (-1)=(k:Int))) n
def j4(ranks:List Int):List (BitVec 64):=(range ((di ranks).toNat+1)).map fun k=>d8 ranks k ranks.length
def je(aa:List (List UInt8))(ranks:List Int):List (BitVec 64):=if bi aa ranks=0 then j4 ranks else []
def mf(S:BitVec 64):List (BitVec 64)→BitVec 64
 | []=>0#64
 | l::ls=>if l&&&S=0#64 then mf S ls else l&&&S
def bq(aa:List (List UInt8))(ranks:List Int)(S:BitVec 64):BitVec 64:=mf S (je aa ranks)
theorem qpy(S:BitVec 64){l:List (BitVec 64)}{i:Nat}(h:i<l.length):mf S (l.drop i)=if l[i]&&&S=0#64 then mf S (l.drop (i+1)) else l[i]&&&S:=by
 rw[qbg h];rfl
theorem qz{aa:List (List UInt8)}{ranks:List Int}(h:bi aa ranks=0):cu aa=true∧ranks.length=2^aa.length∧mo ranks=true:=by
 unfold bi at h
 split at h
 · rename_i h1
   split at h
   · rename_i h2;exact ⟨h1.1,h1.2,h2⟩
   · simp at h
 · simp at h
theorem qhb{aa:List (List UInt8)}{ranks:List Int}(h:bi aa ranks=0):ranks.length≤64∧0<ranks.length:=by
 obtain ⟨h1,h2,_⟩:=qz h;rw[h2];exact ⟨lq (qnb h1),Nat.pow_pos (by omega)⟩
theorem qjf{l:List Int}(h:mo l=true):ym l.length l=true:=by
 simp only[mo,and_eq_true] at h;exact h.1
theorem arv{ranks:List Int}(k w:Nat)(hn:ranks.length≤64):(d8 ranks k ranks.length).getLsbD w=(decide (w<ranks.length)&&decide (ranks.getD w (-1)=(k:Int))):=qk _ _ _ hn
theorem qrx{ranks:List Int}(hn:ranks.length≤64)(h0:∀ r∈ranks,0≤r)(S:BitVec 64)(M:Nat)(hM:∀ r∈ranks,r<(M:Int)):∀ (j k:Nat),k+j=M→(∀ v,v<ranks.length→S.getLsbD v=true→(k:Int)≤ranks.getD v (-1))→
 ∀ w,(mf S ((List.range' k j).map fun k=>d8 ranks k ranks.length)).getLsbD w=true↔w<ranks.length∧S.getLsbD w=true∧∀ v,v<ranks.length→S.getLsbD v=true→ranks.getD w (-1)≤ranks.getD v (-1):=by
 have mz:∀ v,v<ranks.length→ranks.getD v (-1)∈ranks:=fun v hv=>by
  rw[show ranks.getD v (-1)=ranks[v] by simp[hv]];exact getElem_mem hv
 intro j
 induction j with
 | zero=>
  intro k hk hb w;simp only[List.range'_zero,List.map_nil,mf,BitVec.getLsbD_zero,Bool.false_eq_true,false_iff];rintro ⟨h1,h2,_⟩;have:=hb w h1 h2;have:=hM _ (mz w h1);omega
 | succ j ih=>
  intro k hk hb w;simp only[List.range'_succ,List.map_cons,mf]
  have hl:∀ v,(d8 ranks k ranks.length&&&S).getLsbD v=true↔v<ranks.length∧ranks.getD v (-1)=(k:Int)∧S.getLsbD v=true:=fun v=>by
   rw[getLsbD_and,arv _ _ hn];simp[and_assoc]
  split
  · rename_i hz;refine ih (k+1) (by omega) (fun v hv hs=>?_) w
    have h1:=hb v hv hs
    have h2:¬ ranks.getD v (-1)=(k:Int):=fun h=>by
     have:=(hl v).2 ⟨hv,h,hs⟩;rw[hz] at this;simp at this
    omega
  · rename_i hz;rw[hl]
    constructor
    · rintro ⟨h1,h2,h3⟩;exact ⟨h1,h3,fun v hv hs=>by rw[h2];exact hb v hv hs⟩
    · rintro ⟨h1,h2,h3⟩;refine ⟨h1,?_,h2⟩
      obtain ⟨v,hv⟩:∃ v,(d8 ranks k ranks.length&&&S).getLsbD v=true:=by
       refine Classical.byContradiction fun i6=>hz ?_
       refine qxe fun v _=>?_
       cases hv:(d8 ranks k ranks.length&&&S).getLsbD v with
       | false=>simp
       | true=>exact absurd ⟨v,hv⟩ i6
      obtain ⟨a1,a2,a3⟩:=(hl v).1 hv;have:=h3 v a1 a3;have:=hb w h1 h2;omega
theorem apu{aa:List (List UInt8)}{ranks:List Int}(h:bi aa ranks=0)(S:BitVec 64)(w:Nat) :
 (bq aa ranks S).getLsbD w=true↔w<ranks.length∧S.getLsbD w=true∧∀ v,v<ranks.length→S.getLsbD v=true→ranks.getD w (-1)≤ranks.getD v (-1):=by
 have hn:=qhb h;have hk:=qjf (qz h).2.2;have hm:=quf hk;have hx:=qkf ranks;unfold bq je;rw[if_pos h];unfold j4;rw[List.range_eq_range'];refine qrx hn.1 (fun r hr=>(hm r hr).1) S ((di ranks).toNat+1) (fun r hr=>?_) _ 0 (by omega) (fun v hv _=>?_) w
 · have:=qdf ranks 0 r hr;unfold di at *;omega
 · rw[show ranks.getD v (-1)=ranks[v] by simp[hv]]
   exact (hm _ (getElem_mem hv)).1
theorem qzi{R:Nat→PF}{e:Env}{J:List PF}(k:IR)(b:Bool):fj R 1 true [] k e J (some [.bool b])=den R k (e++[.bool b]) J:=rfl
theorem qbr{R:Nat→PF}{e:Env}{J:List PF}(k:IR)(q:IntKind)(n:Int):fj R 1 true [] k e J (some [.int q n])=den R k (e++[.int q n]) J:=rfl
theorem axl{R:Nat→PF}{e:Env}{J:List PF}(k:IR)(x:BitVec 64)(q:IntKind)(n:Int):fj R 2 true [] k e J (some [bvD x,.int q n])=den R k (e++[bvD x,.int q n]) J:=rfl
theorem qff{α:Type}[DecidableEq α]:∀ {l l':List α},l.Nodup→(∀ x∈l,x∈l')→l.length≤l'.length
 | [],_,_,_=>Nat.zero_le _
 | x::l,l',hn,h=>by
  have hn':=List.nodup_cons.1 hn;have hx:=h x (by simp)
  have h2:=qff (l':=l'.erase x) hn'.2 fun y hy=>by
   have hy':=h y (by simp[hy])
   have dc:y≠x:=fun e=>hn'.1 (e ▸ hy)
   exact (List.mem_erase_of_ne dc).2 hy'
  have h3:=List.length_erase_of_mem hx;have h4:0<l'.length:=List.length_pos_of_mem hx;simp only[length_cons];omega
theorem qrq{α:Type}[DecidableEq α]{l l':List α}(h:l.Nodup)(h':l'.Nodup)(hm:∀ x,x∈l↔x∈l'):l.length=l'.length:=
 Nat.le_antisymm (qff h fun x=>(hm x).1) (qff h' fun x=>(hm x).2)
def cy(r:Int)(acc:List Int)(x:Int):List Int:=if x<r∧x ∉ acc then acc++[x] else acc
def ci(r:Int)(l:List Int):List Int:=l.foldl (cy r) []
def bg(l:List Int):List Int:=l.map fun r=>((ci r l).length:Int)
theorem a6h(r:Int)(acc:List Int)(x y:Int):y∈cy r acc x↔y∈acc∨(y=x∧x<r):=by
 unfold cy
 by_cases h1:x<r
 · by_cases h2:x∈acc
   · rw[if_neg (by simp[h2])]
     constructor
     · exact .inl
     · rintro (h|⟨rfl,_⟩);exact h;exact h2
   · rw[if_pos ⟨h1,h2⟩];simp[h1]
 · rw[if_neg (by simp[h1])];simp[h1]
theorem qxt{r:Int}{acc:List Int}(x:Int)(h:acc.Nodup):(cy r acc x).Nodup:=by
 unfold cy
 split
 · rename_i hc;rw[List.nodup_append];refine ⟨h,by simp,fun a ha b hb=>?_⟩
   simp only[List.mem_singleton] at hb;subst hb;exact fun e=>hc.2 (e ▸ ha)
 · exact h
theorem qmt(r:Int):∀ (l acc:List Int) (y:Int),y∈l.foldl (cy r) acc↔y∈acc∨(y∈l∧y<r)
 | [],acc,y=>by simp
 | x::l,acc,y=>by
  rw[List.foldl_cons,qmt r l,a6h,mem_cons]
  constructor
  · rintro ((h|⟨rfl,h⟩)|⟨h1,h2⟩)
    · exact .inl h
    · exact .inr ⟨.inl rfl,h⟩
    · exact .inr ⟨.inr h1,h2⟩
  · rintro (h|⟨rfl|h1,h2⟩)
    · exact .inl (.inl h)
    · exact .inl (.inr ⟨rfl,h2⟩)
    · exact .inr ⟨h1,h2⟩
theorem qhm(r:Int):∀ (l:List Int) {acc:List Int},acc.Nodup→(l.foldl (cy r) acc).Nodup
 | [],_,h=>h
 | x::l,_,h=>qhm r l (qxt x h)
theorem qmb(r:Int)(l:List Int)(y:Int):y∈ci r l↔y∈l∧y<r:=by
 unfold ci;rw[qmt];simp
theorem qec(r:Int)(l:List Int):(ci r l).Nodup:=qhm r l List.nodup_nil
theorem azq{r r':Int}(l:List Int)(h:r≤r'):(ci r l).length≤(ci r' l).length:=
 qff (qec r l) fun x hx=>by rw[qmb] at hx ⊢;exact ⟨hx.1,by omega⟩
theorem azv{r r':Int}{l:List Int}(hr:r∈l)(h:r<r'):(ci r l).length<(ci r' l).length:=by
 have:(r::ci r l).length≤(ci r' l).length:=qff (List.nodup_cons.2 ⟨fun hm=>by rw[qmb] at hm;omega,qec r l⟩) fun x hx=>by
  rw[qmb];rcases List.mem_cons.1 hx with rfl|hx
  · exact ⟨hr,h⟩
  · rw[qmb] at hx;exact ⟨hx.1,by omega⟩
 simp only[length_cons] at this;omega
theorem qpk{r:Int}{l:List Int}(hr:r∈l):(ci r l).length<l.length:=by
 have:(r::ci r l).length≤l.length:=qff (List.nodup_cons.2 ⟨fun hm=>by rw[qmb] at hm;omega,qec r l⟩) fun x hx=>by
  rcases List.mem_cons.1 hx with rfl|hx
  · exact hr
  · rw[qmb] at hx;exact hx.1
 simp only[length_cons] at this;omega
theorem qnu(r:Int):∀ {l:List Int},(∃ x∈l,x<r)→∃ x∈l,x<r∧∀ y∈l,y<r→y≤x
 | [],h=>by simp at h
 | a::l,h=>by
  by_cases h2:∃ x∈l,x<r
  · obtain ⟨x,h3,h4,h5⟩:=qnu r h2
    by_cases ha:a<r∧x<a
    · refine ⟨a,by simp,ha.1,fun y hy hyr=>?_⟩
      rcases List.mem_cons.1 hy with rfl|hy
      · omega
      · have:=h5 y hy hyr;omega
    · refine ⟨x,by simp[h3],h4,fun y hy hyr=>?_⟩
      rcases List.mem_cons.1 hy with rfl|hy
      · omega
      · exact h5 y hy hyr
  · obtain ⟨x,hx,hxr⟩:=h;rcases List.mem_cons.1 hx with rfl|hx
    · refine ⟨x,by simp,hxr,fun y hy hyr=>?_⟩
      rcases List.mem_cons.1 hy with rfl|hy
      · omega
      · exact absurd ⟨y,hy,hyr⟩ h2
    · exact absurd ⟨x,hx,hxr⟩ h2
theorem a1f{r:Int}{l:List Int}{k:Nat}(hk:(ci r l).length=k+1):∃ x∈l,(ci x l).length=k:=by
 have ip:∃ x∈l,x<r:=by
  cases hb:ci r l with
  | nil=>rw[hb] at hk;simp at hk
  | cons x l'=>
   have:x∈ci r l:=by rw[hb];simp
   rw[qmb] at this;exact ⟨x,this.1,this.2⟩
 obtain ⟨x,h1,h2,h3⟩:=qnu r ip;refine ⟨x,h1,?_⟩
 have:(x::ci x l).length=(ci r l).length:=qrq (List.nodup_cons.2 ⟨fun hm=>by rw[qmb] at hm;omega,qec x l⟩) (qec r l) fun y=>by
  rw[mem_cons,qmb,qmb]
  constructor
  · rintro (rfl|⟨h,h'⟩)
    · exact ⟨h1,h2⟩
    · exact ⟨h,by omega⟩
  · rintro ⟨h,h'⟩;have:=h3 y h h'
    by_cases he:y=x
    · exact .inl he
    · exact .inr ⟨h,by omega⟩
 simp only[length_cons] at this;omega
theorem ayg{l:List Int}:∀ {k:Nat} {r:Int},r∈l→k≤(ci r l).length→∃ x∈l,(ci x l).length=k:=by
 have key:∀ (j k:Nat) (r:Int),r∈l→(ci r l).length=k+j→∃ x∈l,(ci x l).length=k:=by
  intro j
  induction j with
  | zero=>intro k r hr h;exact ⟨r,hr,h⟩
  | succ j ih=>
   intro k r hr h;obtain ⟨x,hx,h2⟩:=a1f (k:=k+j) h;exact ih k x hx h2
 intro k r hr h;exact key ((ci r l).length-k) k r hr (by omega)
theorem qjq(l:List Int):(bg l).length=l.length:=by simp[bg]
theorem avf{l:List Int}{w:Nat}(h:w<l.length):(bg l)[w]'(by rw[qjq];exact h)=((ci l[w] l).length:Int):=by simp[bg]
theorem ao7(l:List Int):mo (bg l)=true:=by
 have jy:ym (bg l).length (bg l)=true:=by
  rw[qjq];unfold ym bg;rw[List.all_map,all_eq_true];intro r hr;have:=qpk hr;simp;omega
 unfold mo;rw[jy,Bool.true_and,all_eq_true];intro k hk;rw[List.mem_range] at hk;rw[decide_eq_true_eq];rcases qrw (bg l) 0 with h|h
 · unfold di at hk;rw[h] at hk;simp at hk
 · obtain ⟨r,hr,um⟩:=List.mem_map.1 h;have:k≤(ci r l).length:=by unfold di at hk;rw[← um] at hk;omega
   obtain ⟨x,hx,h3⟩:=ayg hr this;exact List.mem_map.2 ⟨x,hx,by rw[h3]⟩
def aq(n:Nat):List (List UInt8):=(range n).map fun (i:Nat)=>[(97+(i:Int)).toNat.toUInt8]
theorem qv(n:Nat):(aq n).length=n:=by simp[aq]
theorem qnd{n:Nat}(h:n≤6):cu (aq n)=true:=by
 obtain rfl|rfl|rfl|rfl|rfl|rfl|rfl:n=0∨n=1∨n=2∨n=3∨n=4∨n=5∨n=6:=by omega
 all_goals rfl
theorem qlk{n:Nat}:∀ s∈aq n,s.length=1:=by
 intro s hs;obtain ⟨i,_,rfl⟩:=List.mem_map.1 hs;rfl
theorem a3l(n:Nat):aq (n+1)=aq n++[[(97+(n:Int)).toNat.toUInt8]]:=by
 unfold aq;rw[List.range_succ,List.map_append];rfl
theorem a6j{n:Nat}(h:n≤6){l:List Int}(hl:l.length=2^n):bi (aq n) (bg l)=0:=by
 unfold bi;rw[if_pos ⟨qnd h,by rw[qjq,qv,hl]⟩,if_pos (ao7 l)]
end Am
