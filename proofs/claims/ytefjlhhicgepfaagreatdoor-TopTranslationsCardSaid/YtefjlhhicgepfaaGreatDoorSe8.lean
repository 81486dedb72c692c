/- Lemmas. -/
import Derived.Test.YtefjlhhicgepfaaGreatDoorRng
set_option linter.unusedSimpArgs false
set_option linter.unusedVariables false
set_option linter.unusedSectionVars false
open List (all_eq_true append_assoc append_nil getD_eq_getElem?_getD getElem?_append_left getElem?_append_right map_cons map_nil mem_cons not_mem_nil take_append_drop take_left' take_length)
open Bool (and_eq_true)
namespace Am
open Go
variable {P:Program}{G:bl}{kk:Nat}
theorem axv{b:Code}{Q:Exit→Sta→Prop}{s:Sta}(R:Nat→Sta→Prop)(k0:Nat)(s':Sta)(he:Ent kk s s')(h0:R k0 s')
 (h:∀ k s,R k s→awp P G kk b (wt kk (fun s1=>∃ k1,k1<k∧R k1 s1) Q) s):awp P G kk (.loop b) Q s:=by
 classical
 have least:∀ s,(∃ n,R n s)→∃ n,R n s∧∀ m,R m s→n≤m:=by
  rintro s ⟨n,hn⟩
  induction n using Nat.strongRecOn with
  | _ n ih=>
   by_cases ip:∃ m,m<n∧R m s
   · obtain ⟨m,hm,hms⟩:=ip;exact ih m hm hms
   · exact ⟨n,hn,fun m hm=>Nat.le_of_not_lt fun cf=>ip ⟨m,cf,hm⟩⟩
 refine qmz (fun s=>∃ n,R n s) (fun s=>if hs:∃ n,R n s∧∀ m,R m s→n≤m then hs.choose else 0) s' he ⟨k0,h0⟩ fun s hs=>?_
 have ip:=least s hs;simp only[dif_pos ip];obtain ⟨h1,_⟩:=ip.choose_spec;refine qyg (fun e s1 hh=>?_) (h _ s h1)
 cases e with
 | normal=>
  obtain ⟨s2,g1,k1,g2,g3⟩:=hh;have ach:=least s2 ⟨k1,g3⟩;refine ⟨s2,g1,⟨k1,g3⟩,?_⟩;simp only[dif_pos ach];exact Nat.lt_of_le_of_lt (ach.choose_spec.2 _ g3) g2
 | _=>exact hh
def aa2(kk:Nat)(Q:Exit→Sta→Prop):Prop:=∀ ex s s',Ent kk s s'→Q ex s'→Q ex s
def act(Q:Exit→Sta→Prop):Exit→Sta→Prop:=fun e s=>match e with | .goto _=>False|e=>Q e s
def p8(P:Program)(G:bl)(gi:GI)(r:List D):Nat→List Fr→Env→List PF→(Exit→Sta→Prop)→Prop
 | kk,[],_,_,Q=>kk=gi.sig.Hin.length∧aa2 kk Q∧∀ ex s,Fin P gi.fn kk (hIn r gi.sig.Hout) (gi.sig.res.inst r (lnL r gi.sig.Hout)) ex s→Q ex s
 | kk,.seq c _::fr,e,J,Q=>∃ Q',p8 P G gi r kk fr e J Q'∧Q=wt kk (awp P G kk c Q') Q'
 | kk,.block id::fr,e,J,Q=>∃ Q',p8 P G gi r kk fr e J Q'∧Q=mb id Q'
 | kk,.scope::fr,e,J,Q=>∃ Q',p8 P G gi r kk fr e J Q'∧Q=act Q'
 | kk,.jmp lv base n σ2::fr,e,J,Q=>∃ Q' K f,p8 P G gi r kk fr e J Q'∧Q=wt kk K Q'∧J[lv]? = some f∧base≤e.length∧σ2.okB (base+n)=true∧
  ∀ vals s,vals.length=n→f vals=some r→Sat (e.take base++vals) σ2 s→K s
 | kk,.rnd kko lv base n σ2::fr,e,J,Q=>∃ (Q':Exit→Sta→Prop) (I:Nat→ba→Prop) (j:Nat) (f:PF) (s0:Sta) (i:Int),p8 P G gi r kko fr e J Q'∧Q=ae8 I j Q' s0∧kk=s0.nx∧J[lv]? = some f∧base+n<e.length∧σ2.okB (base+n)=true∧s0.nx=σ2.nx∧
  (SA.v (base+n)).val e = .int .i64 i∧vk (e.take base) σ2 s0∧
  ∀ vals s,vals.length=n→f (vals++[.int .i64 (IntKind.i64.wrap (i-1))])=some r→Sat (e.take base++vals) { σ2 with tm:=[] } s→I (j+1) s.H
theorem p8.mono{gi:GI}{r:List D}:∀ {fr:List Fr} {kk:Nat} {e:Env} {J:List PF} {Q:Exit→Sta→Prop},p8 P G gi r kk fr e J Q→∀ (o:Env) (J':List PF),p8 P G gi r kk fr (e++o) (J++J') Q:=by
 intro fr
 induction fr with
 | nil=>intro kk e J Q h o J';exact h
 | cons f fr ih=>
  intro kk e J Q h o J';cases f with
  | seq c ann=>obtain ⟨Q',h1,h2⟩:=h;exact ⟨Q',ih h1 o J',h2⟩
  | block id=>obtain ⟨Q',h1,h2⟩:=h;exact ⟨Q',ih h1 o J',h2⟩
  | scope=>obtain ⟨Q',h1,h2⟩:=h;exact ⟨Q',ih h1 o J',h2⟩
  | jmp lv base n σ2=>
   obtain ⟨Q',K,f,h1,h2,h3,h4,h5,h6⟩:=h;refine ⟨Q',K,f,ih h1 o J',h2,?_,by simp;omega,h5,fun vals s hl hf hs=>h6 vals s hl hf (by rwa [List.take_append_of_le_length h4] at hs)⟩
   rw[getElem?_append_left (List.getElem?_eq_some_iff.1 h3).1];exact h3
  | rnd kko lv base n σ2=>
   obtain ⟨Q',I,j,f,s0,i,h1,h2,h3,h4,h5,h6,h7,h8,h9,h10⟩:=h;have ht:(e++o).take base=e.take base:=List.take_append_of_le_length (by omega)
   refine ⟨Q',I,j,f,s0,i,ih h1 o J',h2,h3,?_,by simp;omega,h6,h7,?_,by rw[ht];exact h9,fun vals s hl hf hs=>h10 vals s hl hf (by rwa [ht] at hs)⟩
   · rw[getElem?_append_left (List.getElem?_eq_some_iff.1 h4).1];exact h4
   · rw[SA.val_ext o (x:=.v (base+n)) (by simpa [SA.ok] using h5)];exact h8
theorem p8.cl{gi:GI}{r:List D}:∀ {fr:List Fr} {kk:Nat} {e:Env} {J:List PF} {Q:Exit→Sta→Prop},p8 P G gi r kk fr e J Q→aa2 kk Q:=by
 have sq:∀ {kk:Nat} {K:Sta→Prop} {Q':Exit→Sta→Prop},aa2 kk Q'→aa2 kk (wt kk K Q'):=by
  intro kk K Q' h ex s s' he hq;cases ex with
  | normal=>obtain ⟨s2,h1,h2⟩:=hq;exact ⟨s2,he.trans h1,h2⟩
  | exit i=>exact h (.exit i) s s' he hq
  | goto i=>exact h (.goto i) s s' he hq
  | ret=>exact h .ret s s' he hq
  | panic c=>exact h (.panic c) s s' he hq
  | outgrown=>exact h .outgrown s s' he hq
 intro fr
 induction fr with
 | nil=>intro kk e J Q h;exact h.2.1
 | cons f fr ih=>
  intro kk e J Q h;cases f with
  | seq c ann=>obtain ⟨Q',h1,rfl⟩:=h;exact sq (ih h1)
  | scope=>
   obtain ⟨Q',h1,rfl⟩:=h;have hc:=ih h1;intro ex s s' he hq;cases ex with
   | goto i=>exact hq.elim
   | normal=>exact hc .normal s s' he hq
   | exit i=>exact hc (.exit i) s s' he hq
   | ret=>exact hc .ret s s' he hq
   | panic c=>exact hc (.panic c) s s' he hq
   | outgrown=>exact hc .outgrown s s' he hq
  | block id=>
   obtain ⟨Q',h1,rfl⟩:=h;have hc:=ih h1;intro ex s s' he hq;cases ex with
   | exit i=>
    simp only[mb] at hq ⊢
    split at hq
    · rename_i h;rw[if_pos h];exact hc _ s s' he hq
    · rename_i h;rw[if_neg h];exact hc _ s s' he hq
   | normal=>exact hc .normal s s' he hq
   | goto i=>exact hc (.goto i) s s' he hq
   | ret=>exact hc .ret s s' he hq
   | panic c=>exact hc (.panic c) s s' he hq
   | outgrown=>exact hc .outgrown s s' he hq
  | jmp lv base n σ2=>obtain ⟨Q',K,f,h1,rfl,_⟩:=h;exact sq (ih h1)
  | rnd kko lv base n σ2=>
   obtain ⟨Q',I,j,f,s0,i,h1,rfl,rfl,_⟩:=h;intro ex s s' he hq;cases ex with
   | normal=>obtain ⟨s2,g1,g2⟩:=hq;exact ⟨s2,he.trans g1,g2⟩
   | ret=>obtain ⟨s2,g1,g2⟩:=hq;exact ⟨s2,he.trans g1,g2⟩
   | exit id=>obtain ⟨s2,g1,g2⟩:=hq;exact ⟨s2,he.trans g1,g2⟩
   | goto t=>exact hq.elim
   | panic c=>exact hq.elim
   | outgrown=>exact hq.elim
theorem akk{f:FuncId}{d:D}(h:acs f d=true):d = .raw (.func (.func f) #[] #[]):=by
 unfold acs at h
 split at h
 · rename_i g;have:f=g:=by simpa using h
   rw[this]
 · simp at h
theorem qps{R:Nat→PF}{e:Env}{J:List PF}{r:List D}{x:Nat}{g:FuncId→Option IR}:∀ {l:List FuncId} {ir:IR},sd x g l=some ir→den R ir e J=some r→∃ f p,g f=some p∧den R p e J=some r∧acs f ((SA.v x).val e)=true:=by
 intro l
 induction l with
 | nil=>intro ir h hd;simp only[sd,Option.some.injEq] at h;subst h;simp[den] at hd
 | cons f l ih=>
  intro ir h hd;simp only[sd] at h
  split at h
  · rename_i p q hp hq;cases h;simp only[den] at hd
    split at hd
    · rename_i hf;exact ⟨f,p,hp,hd,hf⟩
    · exact ih hq hd
  · exact ih h hd
  · simp at h
theorem qus{R:Nat→PF}{J:List PF}{r:List D}{x:Nat}{g:Nat→Nat→Option IR}:∀ {l:List Nat} {m:Nat} {e:Env} {ir:IR},e.length=m→x<m→pg x m g l=some ir→den R ir e J=some r→
 ∃ (c:Nat) (p:IR) (o:Env),g c (m+o.length)=some p∧den R p (e++o) J=some r∧(SA.v x).val (e++o) = .int .i64 c∧EWF o:=by
 intro l
 induction l with
 | nil=>intro m e ir _ _ h hd;simp only[pg,Option.some.injEq] at h;subst h;simp[den] at hd
 | cons c l ih=>
  intro m e ir hm hx h hd;simp only[pg] at h
  split at h
  · rename_i p hp
    split at h
    · rename_i q hq;cases h;simp only[den] at hd
      split at hd
      · rename_i outs ho;simp only[map_cons,map_nil,SA.val,PO.eval] at ho;have hxv:(SA.v x).val (e++outs)=(SA.v x).val e:=SA.val_ext outs (x:=.v x) (by simp[SA.ok,hm,hx])
        have hb:∃ b:Bool,outs=[.bool b]∧(b=true→(SA.v x).val e = .int .i64 c):=by
         simp only[SA.val]
         split at ho
         · simp at *
         · rename_i a b i6;generalize e.getD x dfl=d at *;cases d with
           | int k n=>
            simp only[one1,ac] at ho
            split at ho
            · rename_i hk;simp only[Option.map_some,Option.some.injEq] at ho;refine ⟨_,ho.symm,fun hb=>?_⟩
              have:n=(c:Int):=by simpa using hb
              rw[this,hk]
            · simp at ho
           | _=>simp[one1,ac] at ho
        obtain ⟨b,rfl,hbv⟩:=hb;have hmv:(SA.v m).val (e++[.bool b]) = .bool b:=by simp[SA.val,← hm]
        rw[hmv] at hd
        have jb:EWF [D.bool b]:=fun d hd=>by
         simp only[mem_cons,not_mem_nil,or_false] at hd;subst hd;exact .bool _
        cases b with
        | true=>exact ⟨c,p,[.bool true],hp,hd,by rw[hxv];exact hbv rfl,jb⟩
        | false=>
         obtain ⟨c',p',o,h1,h2,h3,h4⟩:=ih (m:=m+1) (e:=e++[.bool false]) (by simp[hm]) (by omega) hq hd
         exact ⟨c',p',.bool false::o,by rw[List.length_cons,Nat.add_comm o.length 1,← Nat.add_assoc];exact h1,by simpa using h2,by simpa using h3,EWF.append (e:=[.bool false]) jb h4⟩
      · simp at hd
    · simp at h
  · exact ih hm hx h hd
def a18(P:Program)(G:bl)(kk:Nat)(Q:Exit→Sta→Prop):afa→Sta→Prop
 | .code c _,s=>awp P G kk c Q s
 | .ops l,s=>r7 P G kk (Q .normal) l s
 | .opsD ops l id log,s=>oh P G (fun s1 log=>∃ m,okD ops s.nx log m=true∧Q .normal { s1 with nx:=m }) l id s log
 | .norm,s=>Q .normal s
 | .exit id,s=>Q (.exit id) s
 | .ret,s=>Q .ret s
theorem qiv{σ:SS}{e:Env}{s:Sta}{SG:ef}(hS:Sat e σ s)(hG:GOK G SG){c:Operand}{args:Array Operand}{f:FuncId}{first caps:List SV}(h:tw (sev SG σ c)=some (f,first,caps)) :
 ∃ x y,gg (evA G s.tm c)=some (f,x,y)∧WkL (x++args.toList.map (evA G s.tm)++y) (SV.instL e (ae e σ.H) (yl (sev SG σ) args first caps)):=by
 have hw:=hev hS hG c;have ha:=qiy hS hG args.toList;have app:∀ a b:List SV,SV.instL e (ae e σ.H) (a++b)=SV.instL e (ae e σ.H) a++SV.instL e (ae e σ.H) b:=fun a b=>by simp[SV.instL_map]
 unfold tw at h
 split at h
 · rename_i f' hc;cases h;rw[hc] at hw;have:=air hw;refine ⟨[],[],by simp only[this,SA.val,gg],?_⟩
   simp only[yl,List.nil_append,append_nil];exact ha
 · rename_i f' a b hc;cases h;rw[hc] at hw;obtain ⟨x,y,hxy,h1,h2⟩:=qwr hw;refine ⟨x,y,by simp only[hxy,gg],?_⟩
   simp only[yl,app];exact (h1.append ha).append h2
 · simp at h
theorem qgm{id:Nat}{ev:Operand→AV}{H:ba}{op:Op}{r:Res}(h:ag P id ev H op=some r):tz op=false:=by
 cases op with
 | call c=>
  obtain ⟨callee,args,il⟩:=c;cases callee with
  | value f=>simp[ag] at h
  | invoke r m=>simp[ag] at h
  | builtin b=>rfl
 | _=>rfl
theorem avt:∀ {ps:List Nat} {nx:Nat} {l:List (Nat × Blk)} {up:List Nat},l.map (·.1)=ps++up→(∀ b∈ps,b<nx)→∀ {up':List (Nat × SB)},up'.map (·.1)=up→fy nx l=p5 nx up':=by
 have key:∀ {l:List (Nat × Blk)} {up':List (Nat × SB)} (nx:Nat),l.map (·.1)=up'.map (·.1)→fy nx l=p5 nx up':=by
  intro l
  induction l with
  | nil=>intro up' nx h;cases up' with
   | nil=>rfl
   | cons=>simp at h
  | cons p l ih=>intro up' nx h;cases up' with
   | nil=>simp at h
   | cons q up'=>
    simp only[map_cons,List.cons.injEq] at h;simp only[fy,p5,h.1];exact ih _ h.2
 intro ps
 induction ps with
 | nil=>intro nx l up h _ up' hu;exact key nx (by rw[h,hu];rfl)
 | cons b ps ih=>
  intro nx l up h hb up' hu;cases l with
  | nil=>simp at h
  | cons p l=>
   simp only[map_cons,List.cons_append,List.cons.injEq] at h;have cf:=hb b (by simp)
   simp only[fy];rw[h.1,Nat.max_eq_left (by omega)]
   exact ih h.2 (fun c hc=>hb c (by simp[hc])) hu
section
variable {gi:GI}{R:Nat→PF}(hT:TOK P gi.T)(hG:GOK G gi.SG)(yo:gi.mixed=true→P.follows .mixedOrders=true)(aal:∀ (i:Nat) (sg:Sig),gi.sigs[i]? = some sg→jh P G (R i) sg)
 (vd:∀ (f:FuncId) (sz:Nat),pj gi.backs f=some sz→aad P f sz)
include hT hG yo aal vd
theorem a5x:∀ (n kk:Nat) (w:afa) (σ:SS) (m jd:Nat) (fr:List Fr) (ir:IR),gen gi kk n w σ m jd fr=some ir→∀ (e:Env) (J:List PF) (s:Sta) (r:List D) (Q:Exit→Sta→Prop),e.length=m→J.length=jd→
 den R ir e J=some r→Sat e σ s→p8 P G gi r kk fr e J Q→a18 P G kk Q w s:=by
 intro n
 induction n with
 | zero=>intro kk w σ m jd fr ir h;simp[gen] at h
 | succ n ih=>
  intro kk w σ m jd fr ir h e J s r Q hm ji b8 hS f9;cases w with
  | code c ann=>
   simp only[gen] at h;cases c with
   | skip=>exact (ih kk .norm σ m jd fr ir h e J s r Q hm ji b8 hS f9:Q .normal s)
   | label l=>exact (ih kk .norm σ m jd fr ir h e J s r Q hm ji b8 hS f9:Q .normal s)
   | region id ops draw=>
    cases draw with
    | false=>exact ih kk (.ops (ow ops)) σ m jd fr ir h e J s r Q hm ji b8 hS f9
    | true=>
     simp only at h
     split at h
     · rename_i hmx;refine ⟨yo hmx,?_⟩;have oq:s.nx=σ.nx:=hS.wk.nx;have:=ih kk (.opsD ops (ow ops) σ.nx []) σ m jd fr ir h e J s r Q hm ji b8 hS f9;rw[← oq] at this;exact this
     · simp at h
   | seq a b=>
    simp only at h
    split at h
    · rename_i x y;exact qg (ih kk (.code a x) σ m jd (.seq b y::fr) ir h e J s r _ hm ji b8 hS ⟨Q,f9,rfl⟩)
    · rename_i j x y
      split at h
      · rename_i adg
        split at h
        · rename_i p q hp hq;cases h;simp only[den] at b8
          refine qg (ih kk (.code a x) σ m (jd+1) (.jmp jd m j.n (j.state σ m)::fr) p hp e (J++[fun vs=>den R q (e++vs) J]) s r _ hm (by simp[ji]) b8 hS
           ⟨Q,awp P G kk b Q,fun vs=>den R q (e++vs) J,?_,rfl,?_,by omega,adg,fun vals s' hl hf hs=>?_⟩)
          · have:=f9.mono (o:=[]) [fun vs=>den R q (e++vs) J]
            rwa [append_nil] at this
          · rw[getElem?_append_right (by omega)];simp[ji]
          · have ht:e.take m=e:=by rw[← hm,take_length]
            rw[ht] at hs;have h2:=f9.mono vals [];rw[append_nil] at h2;exact ih kk (.code b y) _ (m+j.n) jd fr q hq (e++vals) J s' r Q (by simp[hm,hl]) ji hf hs h2
        · simp at h
      · simp at h
    · exact qg (ih kk (.code a .z) σ m jd (.seq b .z::fr) ir h e J s r _ hm ji b8 hS ⟨Q,f9,rfl⟩)
    · simp at h
   | cond c a b=>
    simp only at h;have hw:=hev hS hG c
    split at h
    · rename_i hc;rw[hc] at hw;exact qlb (qdi hw) (ih kk (.code a _) σ m jd fr ir h e J s r Q hm ji b8 hS f9)
    · rename_i hc;rw[hc] at hw;exact qmc (qdi hw) (ih kk (.code b _) σ m jd fr ir h e J s r Q hm ji b8 hS f9)
    · rename_i q hc;rw[hc] at hw
      split at h
      · split at h
        · rename_i p p' hp xy;cases h;simp only[den] at b8
          split at b8
          · rename_i hv;simp only[SV.inst,hv] at hw;exact qlb (qdi hw) (ih kk (.code a _) _ m jd fr p hp e J s r Q hm ji b8 (hS.subst hv) f9)
          · rename_i hv;simp only[SV.inst,hv] at hw;exact qmc (qdi hw) (ih kk (.code b _) _ m jd fr p' xy e J s r Q hm ji b8 (hS.subst hv) f9)
          · simp at b8
        · simp at h
      · simp at h
    · simp at h
   | block id b=>
    exact qdb (ih kk (.code b _) σ m jd (.block id::fr) ir h e J s r _ hm ji b8 hS ⟨Q,f9,rfl⟩)
   | loop b=>
    simp only at h
    split at h
    · rename_i j x
      split at h
      · rename_i em σ0 m0 rh
        split at h
        · rename_i σ1 hgh
          split at h
          · rename_i adg
            split at h
            · rename_i A p hA hp;cases h;obtain ⟨e1,py,si⟩:=qhe em e b8;subst hm;obtain ⟨hm0,s1,g1,hS1⟩:=qle (kk:=kk) hS rh py;obtain ⟨s2,g2,hS2⟩:=a5u (kk:=kk) hS1 hgh;rw[← hm0] at hA adg hp;obtain ⟨a1,a2,a3,s3,g3,hS3⟩:=qrl hS2 adg hA;obtain ⟨o,rfl,_⟩:=qje py;simp only[den] at si;obtain ⟨k,hk⟩:=qtf si
              have aqw:p8 P G gi r kk fr (e++o) J Q:=by
               have:=f9.mono o []
               rwa [append_nil] at this
              rw[show b7 (e++o) (e++o).length A=(e++o)++A.map (·.val (e++o)) by rw[b7,take_length]] at hS3
              refine axv (fun k s'=>∃ vals:List D,vals.length=j.n∧eg (fun L vs=>den R p ((e++o)++vs) (J++[L])) k vals=some r∧Sat ((e++o)++vals) (j.state σ1 (e++o).length) s') k s3 ((g1.trans g2).trans g3)
               ⟨A.map (·.val (e++o)),by simp[a1],hk,hS3⟩ fun k s' ⟨vals,ry,s9,hSv⟩=>?_
              cases k with
              | zero=>simp[eg] at s9
              | succ k=>
               simp only[eg] at s9
               refine ih kk (.code b x) _ _ (jd+1) (.jmp jd (e++o).length j.n (j.state σ1 (e++o).length)::fr) p hp ((e++o)++vals) (J++[eg (fun L vs=>den R p ((e++o)++vs) (J++[L])) k]) s' r _ (by rw[List.length_append,ry]) (by simp[ji]) s9 hSv
                ⟨Q,_,eg (fun L vs=>den R p ((e++o)++vs) (J++[L])) k,?_,rfl,?_,by simp,adg,fun vals' s1 sa hf' hs'=>⟨k,by omega,vals',sa,hf',?_⟩⟩
               · exact aqw.mono vals _
               · rw[getElem?_append_right (by omega)];simp[ji]
               · rwa [take_left' rfl] at hs'
            · simp at h
          · simp at h
        · simp at h
      · simp at h
    · simp at h
   | rangeFunc g ps as bd=>
    simp only at h
    split at h
    · rename_i j x
      split at h
      · rename_i b _ _ pm
        split at h
        · rename_i em σ0 m0 rh
          split at h
          · rename_i b' sz q zb
            split at h
            · rename_i hc;simp only[and_eq_true] at hc;obtain ⟨⟨⟨⟨⟨⟨⟨⟨⟨c1,c2⟩,c3⟩,c4⟩,c5⟩,c6⟩,c7⟩,c8⟩,c9⟩,c10⟩:=hc
              split at h
              · rename_i A p rr hA hp hrr;cases h;subst hm;obtain ⟨s1,g1,_,hS1⟩:=hS.pin (kk:=kk) [b]
                have hS1':Sat e { σ with H:=jj (· == b) 0 σ.H } s1:=by rw[qjy];exact hS1
                obtain ⟨e1,py,si⟩:=qhe em e b8;obtain ⟨hm0,s2,g2,hS2⟩:=qle (kk:=kk) hS1' rh py;obtain ⟨o,rfl,_⟩:=qje py;obtain ⟨e2,um,tp⟩:=qhe _ _ si;obtain ⟨dj,o2,hq,hrw,rfl,aur,aqg,abv,h3c,an⟩:=ayn hm0 c2 hS2.wf um;have hS3:=hS2.ext aqg;have hqE:q.val ((e++o)++o2) = .sl dj:=by rw[SA.val_ext o2 (by rw[hm0];exact c2)];exact hq
                have aoe:p8 P G gi r kk fr ((e++o)++o2) J Q:=by
                 have:=(f9.mono o []).mono o2 []
                 rwa [append_nil,append_nil] at this
                have hEl:((e++o)++o2).length=m0+3:=by rw[List.length_append,hm0,aur]
                have hi0:(SA.v (m0+2)).val ((e++o)++o2) = .int .i64 ((dj.length:Int)-1):=by
                 show (((e++o)++o2).getD (m0+2) dfl)=_
                 rw[getD_eq_getElem?_getD,getElem?_append_right (by omega),hm0,show m0+2-m0=2 by omega,abv];rfl
                generalize (e++o)++o2=E at *;rw[← hEl] at hA zb c1 c3 c4 c8 c10 hp hrr tp;obtain ⟨a1,a2,a3,s3,g3,hS4⟩:=qrl hS3 c3 hA
                rw[show b7 E E.length A=E++A.map (·.val E) by rw[b7,take_length]] at hS4
                simp only[den] at tp;obtain ⟨fuel,hfu⟩:=qtf tp;generalize hσL:ab7 j σ0 E.length=σL at *
                have alc:∀ t,bo σL.tm t = .junk∨ub σL.H (bo σL.tm t)=true:=fun t=>by
                 rw[← hσL];simp only[ab7];rw[qwd (arg _)];exact avw _ _
                have ao8:∀ t,(bo σL.tm t).ok E.length=true:=fun t=>afl (σ:={ σL with H:=[] }) (by simp only[SS.okB,List.all_nil,Bool.and_true];exact c10) t
                have hStab:vk E σL s3:=⟨hS4.wk.n,ao8,alc,fun t=>by
                 have h1:=hS4.get t;rcases alc t with hj|hs
                 · rw[hj];exact .junk _
                 · have h2:=qcv hs (e:=E) (a:=A.map (·.val E)) (b:=[]) (ao8 t)
                   rw[append_nil] at h2;rw[← h2];exact h1⟩
                obtain ⟨f,kb,aw9,hbo,hkb,fo,hnl⟩:=qfy zb;have hgw:=hev hS4 hG g;rw[aw9] at hgw;obtain ⟨ax,ay,hxy,hax,hay⟩:=qwr hgw;obtain rfl:ax=[]:=al9 hax
                have lx:ae (E++A.map (·.val E)) σL.H b' = 1:=by rw[qwf hkb hnl,fo];rfl
                obtain rfl:ay=[.ptr b' 1 0 0]:=by
                 have hay:WkL ay [.ptr b' (ae (E++A.map (·.val E)) σL.H b') 0 0]:=hay
                 rw[lx] at hay;obtain ⟨xt,yr⟩:=hay
                 match ay,xt,yr with
                 | [y],_,yr=>
                  have h:=qde (yr 0 (by simp) (by simp))
                  simpa using h
                obtain ⟨blk,lr,a5o,_,_,_,ajv⟩:=hS4.blk hkb
                have kz:blk.fz=true:=by
                 rw[a5o];unfold alb at c1;rw[hkb] at c1;exact c1
                have cx:blk.rows=[[.d (.sl dj)]]:=by
                 have hq4:q.val (E++A.map (·.val E)) = .sl dj:=by rw[SA.val_ext _ (by rw[hEl];exact SA.ok_mono (by omega) c2)];exact hqE
                 have h1:(kb.inst (E++A.map (·.val E)) (ae (E++A.map (·.val E)) σL.H)).rows=([[D.sl dj]]:List (List D)).map (·.map .d):=by
                  simp only[SB.inst,SB.rows,alg hnl,D.rows,fo,map_nil,List.nil_append,map_cons,SV.instL,SV.inst,hq4]
                 rw[h1] at ajv;exact qth ajv
                have acg:s3.nx=σL.nx:=hS4.wk.nx;have hn3:s3.n=σL.n:=hS4.wk.n;have amx:ps.size=2:=by simpa using c9
                obtain ⟨p0,p1,hps⟩:∃ p0 p1,ps.toList=[p0,p1]:=by
                 have:ps.toList.length=2:=by simpa using amx
                 match h:ps.toList,this with
                 | [p0,p1],_=>exact ⟨p0,p1,rfl⟩
                obtain ⟨F,hF⟩:∃ F:PF→PF,F=fun L vs=>den R (.op (.bin .geq false) [.v (E.length+j.n),.c (.int .i64 0)] (.ite (.v (E.length+j.n+1)) (.op (.row sz) [q,.v (E.length+j.n)] p) rr)) (E++vs) (J++[L]):=⟨_,rfl⟩
                have ayp:eg F fuel (A.map (·.val E)++[.int .i64 ((dj.length:Int)-1)])=some r:=by
                 rw[hF];rw[List.map_append,map_cons,map_nil,hi0] at hfu;exact hfu
                have turn:∀ (vals:List D) (fu:Nat) (i:Int),vals.length=j.n→eg F (fu+1) (vals++[.int .i64 i])=some r→
                 den R (if i≥0 then .op (.row sz) [q,.v (E.length+j.n)] p else rr) (E++vals++[.int .i64 i,.bool (decide (i≥0))]) (J++[eg F fu])=some r:=fun vals fu i ry s9=>by
                 simp only[eg] at s9;have hh:=congrFun (congrFun hF (eg F fu)) (vals++[D.int .i64 i]);rw[hh] at s9;simp only[den] at s9
                 have v1:SA.val (E++(vals++[.int .i64 i])) (.v (E.length+j.n)) = .int .i64 i:=by
                  show (E++(vals++[D.int .i64 i])).getD (E.length+j.n) dfl=_
                  rw[getD_eq_getElem?_getD,getElem?_append_right (by omega),show E.length+j.n-E.length=vals.length by omega]
                  simp
                 have v2:∀ d,SA.val (E++(vals++[.int .i64 i])) (.c d)=d:=fun _=>rfl
                 have e4:PO.eval (.bin .geq false) [.int .i64 i,.int .i64 0]=some [.bool (decide (i≥0))]:=rfl;simp only[map_cons,map_nil,v1,v2,e4] at s9
                 have v3:SA.val (E++(vals++[.int .i64 i])++[.bool (decide (i≥0))]) (.v (E.length+j.n+1)) = .bool (decide (i≥0)):=by
                  show (E++(vals++[D.int .i64 i])++[D.bool (decide (i≥0))]).getD (E.length+j.n+1) dfl=_
                  have hll:(E++(vals++[D.int .i64 i])).length=E.length+j.n+1:=by simp[ry];omega
                  rw[getD_eq_getElem?_getD,getElem?_append_right (by omega),hll,Nat.sub_self]
                  rfl
                 rw[v3] at s9;have hee:E++(vals++[.int .i64 i])++[.bool (decide (i≥0))]=E++vals++[.int .i64 i,.bool (decide (i≥0))]:=by simp
                 rw[hee] at s9
                 by_cases hi:i≥0
                 · rw[if_pos hi];rw[decide_eq_true hi] at s9 ⊢;simpa [den] using s9
                 · rw[if_neg hi];rw[decide_eq_false hi] at s9 ⊢;simpa using s9
                refine fun B a w hk hi=>arf (k:=kk) (Q:=Q) (s:=s3) (rows:=kj dj) (K:=fun _=>False) hxy (vd f sz hbo s3.H b' blk dj lr cx kz h3c an) ?_ ?_ ?_ c5 c6
                 (fun jx h=>∃ (vals:List D) (fu:Nat),vals.length=j.n∧eg F fu (vals++[.int .i64 ((dj.length:Int)-1-jx)])=some r∧Sat (E++vals) { σL with tm:=[] } (o6 h s3.nx s3.n)) ?_ (fun _ _ _ _ hf=>hf.elim) ?_ ?_ B a w hk (((g1.trans g2).trans g3) G B a w hk hi)
                · intro row ak;unfold kj at ak;obtain ⟨kx,_,rfl⟩:=List.mem_map.1 ak;simp[amx]
                · intro px hpx;rw[hn3];have:=List.all_eq_true.1 c8 px hpx
                  simpa using this
                · intro bx hbx;rw[acg] at hbx;have h1:=List.all_eq_true.1 c4 bx (by simpa using hbx)
                  obtain ⟨kx,hkx⟩:=Option.isSome_iff_exists.1 h1;obtain ⟨x,hx,_⟩:=hS4.blk hkx;rw[hx];rfl
                · exact ⟨A.map (·.val E),fuel,by simp[a1],by simpa using ayp,hS4.bare rfl rfl rfl⟩
                · rintro jx h hj ⟨vals,fu,ry,s9,hSv⟩;have hjr:jx<dj.length:=by simpa [kj] using hj
                  cases fu with
                  | zero=>simp[eg] at s9
                  | succ fu=>
                   have ue:(dj.length:Int)-1-jx≥0:=by omega
                   have ht:=turn vals fu _ ry s9;rw[if_pos ue,decide_eq_true ue] at ht;have vm:dj.length-1-jx<dj.length:=by omega
                   have a6w:(dj.length:Int)-1-jx=((dj.length-1-jx:Nat):Int):=by omega
                   obtain ⟨cells,kr⟩:∃ cells,cells=dj[dj.length-1-jx]:=⟨_,rfl⟩;have su:cells.length=sz:=by rw[kr];exact h3c _ (List.getElem_mem vm)
                   obtain ⟨ix,afe⟩:∃ ix:Int,ix=(dj.length:Int)-1-jx:=⟨_,rfl⟩;rw[← afe] at ht
                   have v1:SA.val (E++vals++[D.int .i64 ix,D.bool true]) (.v (E.length+j.n)) = .int .i64 ix:=by
                    show (E++vals++[D.int .i64 ix,D.bool true]).getD (E.length+j.n) dfl=_
                    rw[getD_eq_getElem?_getD,getElem?_append_right (by simp[ry])]
                    simp[ry]
                   have v2:q.val (E++vals++[D.int .i64 ix,D.bool true]) = .sl dj:=by
                    rw[append_assoc,SA.val_ext _ (by rw[hEl];exact SA.ok_mono (by omega) c2)];exact hqE
                   have e5:PO.eval (.row sz) [.sl dj,.int .i64 ix]=some cells:=by
                    simp only[PO.eval];rw[if_pos (by omega),show ix.toNat=dj.length-1-jx by omega,List.getElem?_eq_getElem vm,← kr]
                    simp[su]
                   simp only[den,map_cons,map_nil,v1,v2,e5] at ht
                   have age:EWF ([D.int .i64 ix,D.bool true]++cells):=fun d hd=>by
                    rcases List.mem_append.1 hd with hd|hd
                    · simp only[mem_cons,not_mem_nil,or_false] at hd;rcases hd with rfl|rfl
                      · exact .int _ _
                      · exact .bool _
                    · exact hrw _ (List.getElem_mem vm) d (by rw[← kr];exact hd)
                   have hSx:=hSv.ext age;rw[append_assoc] at hSx;have hSy:=hStab.sat hSx;have heE:E++vals++[D.int .i64 ix,D.bool true]++cells=E++(vals++([D.int .i64 ix,D.bool true]++cells)):=by simp
                   rw[heE] at ht;have hlE:(E++(vals++([D.int .i64 ix,D.bool true]++cells))).length=E.length+j.n+2+sz:=by simp[ry,su];omega
                   have ak:(kj dj)[jx]=[.d (.int .i64 ix),.agg (cells.map .d)]:=by
                    simp only[kj,List.getElem_map,List.getElem_range];rw[getD_eq_getElem?_getD,List.getElem?_eq_getElem vm,← kr,afe];rfl
                   have a25:σL.nx=s3.nx:=acg.symm
                   have yv:(vars (E.length+j.n+2) sz).map (fun x=>SA.val (E++(vals++([D.int .i64 ix,D.bool true]++cells))) x)=cells:=by
                    have:=qmn (E++vals++[D.int .i64 ix,D.bool true]) cells [] _ rfl;rw[append_nil,heE,su,show (E++vals++[D.int .i64 ix,D.bool true]).length=E.length+j.n+2 by simp[ry];omega] at this
                    exact this
                   have hSr:Sat (E++(vals++([D.int .i64 ix,D.bool true]++cells))) (ac1 σL ps.toList (.v (E.length+j.n)) (vars (E.length+j.n+2) sz)) { s3 with tm:=ut s3.tm ps.toList (kj dj)[jx],H:=h }:=by
                    rw[ak,hps]
                    have w1:Wk (AV.d (.int .i64 ix)) ((SV.atm (.v (E.length+j.n))).inst (E++(vals++([D.int .i64 ix,D.bool true]++cells))) (ae (E++(vals++([D.int .i64 ix,D.bool true]++cells))) σL.H)):=by
                     have:=SA.val_ext cells (x:=.v (E.length+j.n)) (e:=E++vals++[D.int .i64 ix,D.bool true]) (by simp[SA.ok,ry]<;>omega)
                     rw[heE] at this;simp only[SV.inst,this,v1];exact .refl _
                    have w2:Wk (AV.agg (cells.map .d)) ((SV.agg ((vars (E.length+j.n+2) sz).map .atm)).inst (E++(vals++([D.int .i64 ix,D.bool true]++cells))) (ae (E++(vals++([D.int .i64 ix,D.bool true]++cells))) σL.H)):=by
                     simp only[SV.inst,SV.instL_map,List.map_map];rw[show (vars (E.length+j.n+2) sz).map ((fun v=>SV.inst (E++(vals++([D.int .i64 ix,D.bool true]++cells))) (ae (E++(vals++([D.int .i64 ix,D.bool true]++cells))) σL.H) v)∘SV.atm)=((vars (E.length+j.n+2) sz).map (fun x=>SA.val (E++(vals++([D.int .i64 ix,D.bool true]++cells))) x)).map AV.d by rw[List.map_map];rfl]
                     rw[yv];exact .refl _
                    have s4:=hSy.put p0 (v:=.atm (.v (E.length+j.n))) (x:=.d (.int .i64 ix)) (by rw[hlE];simp[SV.ok];omega) w1
                    have s5:=s4.put p1 (v:=.agg ((vars (E.length+j.n+2) sz).map .atm)) (x:=.agg (cells.map .d)) (by rw[hlE];exact aka _ _ (by omega)) w2
                    exact s5
                   have a1a:p8 P G gi r σL.nx (.rnd kk jd E.length j.n σL::fr) (E++(vals++([D.int .i64 ix,D.bool true]++cells))) (J++[eg F fu]) (ae8 (fun jx h=>∃ (vals:List D) (fu:Nat),vals.length=j.n∧eg F fu (vals++[.int .i64 ((dj.length:Int)-1-jx)])=some r∧Sat (E++vals) { σL with tm:=[] } (o6 h s3.nx s3.n)) jx Q s3):=by
                    have h2:=aoe.mono (vals++([D.int .i64 ix,D.bool true]++cells)) [eg F fu];refine ⟨Q,_,jx,eg F fu,s3,ix,h2,rfl,a25,?_,by rw[hlE];omega,c3,acg,?_,?_,fun vals' s' sa hf' hs'=>?_⟩
                    · rw[getElem?_append_right (by omega)];simp[ji]
                    · have:=SA.val_ext cells (x:=.v (E.length+j.n)) (e:=E++vals++[D.int .i64 ix,D.bool true]) (by simp[SA.ok,ry]<;>omega)
                      rw[heE] at this;rw[this];exact v1
                    · rw[take_left' rfl];exact hStab
                    · rw[take_left' rfl] at hs';have ox:IntKind.i64.wrap (ix-1)=(dj.length:Int)-1-((jx+1:Nat):Int):=by rw[wrapI64 (by omega) (by omega),afe];omega
                      rw[ox] at hf';exact ⟨vals',fu,sa,hf',hs'.bare rfl (by rw[acg];exact hs'.wk.nx) (by rw[hn3];exact hs'.wk.n)⟩
                   have hgo:=ih σL.nx (.code (.seq as bd) x) _ _ (jd+1) _ p hp _ (J++[eg F fu]) _ r _ hlE (by simp[ji]) ht hSr a1a
                   have ar8:∀ (kx:Nat) (Qx:Exit→Sta→Prop) (sx:Sta),kx=σL.nx→awp P G σL.nx (.seq as bd) Qx sx→awp P G kx as (fun e s1=>e = .normal∧∃ s2,Ent kx s1 s2∧awp P G kx bd Qx s2) sx:=fun kx Qx sx hk h=>by
                    subst hk;exact qyg (fun e s hh=>⟨hh.1,hh.2⟩) (qkt as c7 h)
                   exact ar8 _ _ _ acg hgo
                · rintro h ⟨vals,fu,ry,s9,hSv⟩;have hbl:(kj dj).length=dj.length:=by simp[kj]
                  rw[hbl] at s9;cases fu with
                  | zero=>simp[eg] at s9
                  | succ fu=>
                   have ht:=turn vals fu _ ry s9;rw[if_neg (by omega),decide_eq_false (by omega)] at ht
                   have age:EWF [D.int .i64 ((dj.length:Int)-1-dj.length),.bool false]:=fun d hd=>by
                    simp only[mem_cons,not_mem_nil,or_false] at hd;rcases hd with rfl|rfl
                    · exact .int _ _
                    · exact .bool _
                   have hSx:=hSv.ext age;rw[append_assoc] at hSx;have hSy:=hStab.sat hSx;rw[← append_assoc] at hSy;have h2:=(aoe.mono vals []).mono [D.int .i64 ((dj.length:Int)-1-dj.length),.bool false] [eg F fu];rw[append_nil] at h2;have:=ih kk .norm σL (E.length+j.n+2) (jd+1) fr rr hrr _ (J++[eg F fu]) _ r Q (by simp[ry]<;>omega) (by simp[ji]) ht hSy h2
                   exact this
              · simp at h
            · simp at h
          · simp at h
        · simp at h
      · simp at h
    · simp at h
   | exit id=>exact (ih kk (.exit id) σ m jd fr ir h e J s r Q hm ji b8 hS f9:Q (.exit id) s)
   | scope b=>exact ih kk (.code b ann) σ m jd (.scope::fr) ir h e J s r (act Q) hm ji b8 hS ⟨Q,f9,rfl⟩
   | ret=>exact (ih kk .ret σ m jd fr ir h e J s r Q hm ji b8 hS f9:Q .ret s)
   | _=>simp at h
  | ops l=>
   simp only[gen] at h;cases l with
   | nil=>exact ⟨s,.refl _ _,ih kk .norm σ m jd fr ir h e J s r Q hm ji b8 hS f9⟩
   | cons o rest=>
    simp only at h
    split at h
    · rename_i hd
      have zu:lc s.n o.dst:=by
       have hn:s.n=σ.n:=hS.wk.n;rw[hn];exact agm hd
      split at h
      · rename_i x hw
        split at h
        · split at h
          · rename_i p p' hp xy;cases h;simp only[den] at b8
            split at b8
            · rename_i hv;exact ih kk (.ops (o::rest)) _ m jd fr p hp e J s r Q hm ji b8 (hS.subst hv) f9
            · rename_i hv;exact ih kk (.ops (o::rest)) _ m jd fr p' xy e J s r Q hm ji b8 (hS.subst hv) f9
            · simp at b8
          · simp at h
        · simp at h
      · rename_i q hw;have wv:=hS.wanted hw;refine ⟨s,.refl _ _,zu,?_⟩;rw[wv];exact ih kk (.ops rest) _ m jd fr ir h e J _ r Q hm ji b8 (hS.skip o.dst) f9
      · rename_i q hw
        split at h
        · rename_i c args il z8
          split at h
          · rename_i f first caps acr
            split at h
            · rename_i i sc sl A k r1 σ1 pins om
              split at h
              · rename_i p hp;cases h;simp only[den] at b8
                split at b8
                · rename_i outs ho
                  split at b8
                  · rename_i hn;have wv:=hS.wanted hw;refine ⟨s,.refl _ _,zu,?_⟩;rw[wv,z8]
                    show opK P G s.nx (evA G s.tm) s.H _ _
                    unfold opK;obtain ⟨x,y,hce,r4⟩:=qiv (args:=args) hS hG acr;simp only[hce];have oq:s.nx=σ.nx:=hS.wk.nx;rw[oq];subst hm;refine qan hS om r4 aal ho hn o.dst fun res hSr acx adj a5b=>?_
                    have hS2:=hSr.nx' (p5 σ1.nx r1.up)
                    have anh:{ s.appD o.dst res with nx:=p5 σ1.nx r1.up } = s.app o.dst res:=by
                     unfold Sta.appD Sta.app;rw[oq,a5b];have:=congrArg Prod.fst acx;simp only[Res.log] at this;rw[avt this adj rfl]
                    rw[anh] at hS2;have h2:=f9.mono outs [];rw[append_nil] at h2;exact ih kk (.ops rest) _ (e.length+k) jd fr p hp (e++outs) J _ r Q (by simp[hn.1]) ji b8 hS2 h2
                  · simp at b8
                · simp at b8
              · simp at h
            · simp at h
          · split at h
            · split at h
              · simp at h
              · obtain ⟨f,p,hp,tp,hfn⟩:=qps h b8;exact ih kk (.ops (o::rest)) _ m jd fr p hp e J s r Q hm ji tp (hS.substF (akk hfn)) f9
            · simp at h
        · rename_i op z8;obtain ⟨s1,g1,hS1⟩:=hS.preFrz (kk:=kk) o.op
          have si:lc s1.n o.dst:=by
           have hn:s1.n=(preFrz σ o.op).n:=hS1.wk.n
           have hn2:(preFrz σ o.op).n=σ.n:=by
            unfold preFrz SS.frz
            repeat' split
            all_goals rfl
           rw[hn,hn2];exact agm hd
          split at h
          · rename_i q2 r1 tq om
            split at h
            · rename_i em σ2 m2 rh
              split at h
              · rename_i p hp;cases h;obtain ⟨e1,py,tp⟩:=qhe r1.em e b8;obtain ⟨e2,um,hd3⟩:=qhe em e1 tp;subst hm;obtain ⟨o1,res,rfl,jb,o5,hk,hu⟩:=qns hS1 hG hT om py;have oq:s1.nx=(preFrz σ o.op).nx:=hS1.wk.nx;refine ⟨s1,g1,si,?_⟩;rw[hS1.wanted tq];have ip:=hu.ex;rw[← oq] at ip;refine qml (qgm ip) ip ?_;have hS2:=hS1.upd jb hk hu o.dst
                have apz:gk { (preFrz σ o.op).upd o.dst r1 with nx:=p5 (preFrz σ o.op).nx r1.up } (e++o1).length (waiting 0 ((preFrz σ o.op).upd o.dst r1).H)=some (em,σ2,m2):=by
                 rw[List.length_append,o5];exact rh
                obtain ⟨hm2,s2,g2,hS3⟩:=qle (kk:=kk) hS2 apz um;obtain ⟨o2,rfl,_⟩:=qje um;refine qdz g2 ?_;have h2:=f9.mono (o1++o2) [];rw[append_nil,← append_assoc] at h2;exact ih kk (.ops rest) σ2 m2 jd fr p hp (e++o1++o2) J s2 r Q hm2 ji hd3 hS3 h2
              · simp at h
            · simp at h
          · split at h
            · cases h;simp[den] at b8
            · split at h
              · split at h
                · rename_i x len vm hxm;obtain ⟨c,p,o',hp,tp,hxv,jb⟩:=qus hm (by simpa using hxm) h b8
                  have h2:=f9.mono o' [];rw[append_nil] at h2;exact qdz g1 (ih kk (.ops (o::rest)) _ _ jd fr p hp (e++o') J s1 r Q (by simp[hm]) ji tp ((hS1.ext jb).substI hxv) h2)
                · simp at h
              · simp at h
      · simp at h
    · simp at h
  | opsD ops l id log=>
   simp only[gen] at h;have oq:s.nx=σ.nx:=hS.wk.nx;cases l with
   | nil=>
    simp only at h;generalize hm':(List.range (id+1)).foldl (fun k i=>match am σ.H i with|some _=>Nat.max k (i+1)|none=>k) σ.nx=m' at h
    split at h
    · rename_i hok
      split at h
      · rename_i em σ2 m2 rh
        split at h
        · rename_i p hp;cases h;obtain ⟨e1,py,si⟩:=qhe em e b8;subst hm;obtain ⟨hm2,s2,g2,hS2⟩:=qle (kk:=kk) (hS.nx' m') rh py;obtain ⟨o,rfl,_⟩:=qje py;have h2:=f9.mono o [];rw[append_nil] at h2;refine ⟨m',by rw[oq];exact hok,?_⟩
          exact f9.cl .normal _ s2 g2 (ih kk .norm σ2 m2 jd fr p hp (e++o) J s2 r Q hm2 ji si hS2 h2)
        · simp at h
      · simp at h
    · simp at h
   | cons o rest=>
    simp only at h
    split at h
    · rename_i hd
      have zu:lc s.n o.dst:=by
       have hn:s.n=σ.n:=hS.wk.n;rw[hn];exact agm hd
      split at h
      · rename_i x hw
        split at h
        · split at h
          · rename_i p p' hp xy;cases h;simp only[den] at b8
            split at b8
            · rename_i hv;exact ih kk (.opsD ops (o::rest) id log) _ m jd fr p hp e J s r Q hm ji b8 (hS.subst hv) f9
            · rename_i hv;exact ih kk (.opsD ops (o::rest) id log) _ m jd fr p' xy e J s r Q hm ji b8 (hS.subst hv) f9
            · simp at b8
          · simp at h
        · simp at h
      · rename_i q hw;have wv:=hS.wanted hw;refine ⟨zu,?_⟩;rw[wv];exact ih kk (.opsD ops rest (id+1) (log++[([],[])])) _ m jd fr ir h e J _ r Q hm ji b8 (hS.skip o.dst) f9
      · rename_i q hw;have wv:=hS.wanted hw
        split at h
        · rename_i c args il z8
          split at h
          · rename_i f first caps acr
            split at h
            · rename_i i sc sl A k r1 σ1 pins om
              split at h
              · rename_i p hp;cases h;simp only[den] at b8
                split at b8
                · rename_i outs ho
                  split at b8
                  · rename_i hn;refine ⟨zu,?_⟩;rw[wv,z8]
                    show opK P G id (evA G s.tm) s.H _ _
                    unfold opK;obtain ⟨x,y,hce,r4⟩:=qiv (args:=args) hS hG acr;simp only[hce];subst hm;refine qan hS om r4 aal ho hn o.dst fun res hSr acx _ _=>?_
                    rw[acx];have h2:=f9.mono outs [];rw[append_nil] at h2;exact ih kk (.opsD ops rest (id+1) _) _ (e.length+k) jd fr p hp (e++outs) J _ r Q (by simp[hn.1]) ji b8 hSr h2
                  · simp at b8
                · simp at b8
              · simp at h
            · simp at h
          · split at h
            · split at h
              · simp at h
              · obtain ⟨f,p,hp,tp,hfn⟩:=qps h b8;exact ih kk (.opsD ops (o::rest) id log) _ m jd fr p hp e J s r Q hm ji tp (hS.substF (akk hfn)) f9
            · simp at h
        · rename_i op z8
          split at h
          · rename_i r1 om
            split at h
            · rename_i p hp;cases h;obtain ⟨e1,py,tp⟩:=qhe r1.em e b8;subst hm;obtain ⟨o1,res,rfl,jb,o5,hk,hu⟩:=qns hS hG hT om py;refine ⟨zu,?_⟩;rw[wv];refine qml (qgm hu.ex) hu.ex ?_;have hS2:=hS.updD jb hk hu o.dst
              have acx:res.log=(r1.up.map (·.1),r1.rb):=by
               simp only[Res.log];rw[aym hu.hs,hu.rb]
              rw[acx];have h2:=f9.mono o1 [];rw[append_nil] at h2;exact ih kk (.opsD ops rest (id+1) _) _ (e.length+li r1.em) jd fr p hp (e++o1) J _ r Q (by simp[o5]) ji tp hS2 h2
            · simp at h
          · split at h
            · cases h;simp[den] at b8
            · split at h
              · split at h
                · rename_i x len vm hxm;obtain ⟨c,p,o',hp,tp,hxv,jb⟩:=qus hm (by simpa using hxm) h b8
                  have h2:=f9.mono o' [];rw[append_nil] at h2;exact ih kk (.opsD ops (o::rest) id log) _ _ jd fr p hp (e++o') J s r Q (by simp[hm]) ji tp ((hS.ext jb).substI hxv) h2
                · simp at h
              · simp at h
      · simp at h
    · simp at h
  | norm=>
   simp only[gen] at h;cases fr with
   | nil=>
    simp only[Option.map_eq_some_iff] at h;obtain ⟨A,hA,rfl⟩:=h;simp only[den] at b8;cases b8;subst hm;obtain ⟨_,_,h3⟩:=qcs hS hT hA;obtain ⟨rfl,_,f9⟩:=f9;exact f9 _ _ (h3 .normal (.inl rfl))
   | cons f fr=>
    cases f with
    | seq c ann=>
     obtain ⟨Q',h1,rfl⟩:=f9;simp only at h
     split at h
     · rename_i l a;obtain ⟨s',he,hS'⟩:=Sat.frzs (kk:=kk) l hS;exact ⟨s',he,ih kk (.code c a) _ m jd fr ir h e J s' r Q' hm ji b8 hS' h1⟩
     · exact ⟨s,.refl _ _,ih kk (.code c ann) σ m jd fr ir h e J s r Q' hm ji b8 hS h1⟩
    | block id=>
     obtain ⟨Q',h1,rfl⟩:=f9;exact ih kk .norm σ m jd fr ir h e J s r Q' hm ji b8 hS h1
    | scope=>
     obtain ⟨Q',h1,rfl⟩:=f9;exact ih kk .norm σ m jd fr ir h e J s r Q' hm ji b8 hS h1
    | jmp lv base k σ2=>
     obtain ⟨Q',K,f,h1,rfl,h3,h4,h5,h6⟩:=f9;simp only at h
     split at h
     · rename_i em σ1 m1 rh
       split at h
       · rename_i A hA;cases h;obtain ⟨e1,py,si⟩:=qhe em e b8;subst hm;obtain ⟨hm1,s1,g1,hS1⟩:=qle (kk:=kk) hS rh py;rw[← hm1] at hA;obtain ⟨a1,a2,a3,s2,g2,hS2⟩:=qrl hS1 h5 hA;obtain ⟨o,rfl,_⟩:=qje py;simp only[den,h3] at si;refine ⟨s2,g1.trans g2,h6 _ s2 (by simp[a1]) si ?_⟩
         rw[show b7 (e++o) base A=e.take base++A.map (·.val (e++o)) by rw[b7,List.take_append_of_le_length h4]] at hS2
         exact hS2
       · simp at h
     · simp at h
    | rnd kko lv base k σ2=>
     obtain ⟨Q',I,j,f,s0,i,h1,rfl,hkk,h3,h4,h5,h6,h7,h8,h9⟩:=f9;simp only at h
     split at h
     · rename_i em σ1 m1 rh
       split at h
       · rename_i A hA;cases h;obtain ⟨e1,py,si⟩:=qhe em e b8;subst hm;obtain ⟨hm1,s1,g1,hS1⟩:=qle (kk:=kk) hS rh py;rw[← hm1] at hA
         have h5':({ σ2 with tm:=[] }:SS).okB (base+k)=true:=by
          simp only[SS.okB,and_eq_true] at h5 ⊢;exact ⟨rfl,h5.2⟩
         obtain ⟨a1,a2,a3,s2,g2,hS2⟩:=qrl hS1 h5' hA;obtain ⟨o,rfl,_⟩:=qje py;have hv:SA.val (e++o) (.v (base+k)) = .int .i64 i:=by rw[SA.val_ext o (x:=.v (base+k)) (by simpa [SA.ok] using h4)];exact h7
         have e4:PO.eval (.bin .sub false) [.int .i64 i,.int .i64 1]=some [.int .i64 (IntKind.i64.wrap (i-1))]:=rfl;have zm:∀ d,SA.val (e++o) (.c d)=d:=fun _=>rfl
         simp only[den,map_cons,map_nil,hv,zm,e4,h3] at si
         have avp:(A++[SA.v m1]).map (·.val (e++o++[.int .i64 (IntKind.i64.wrap (i-1))]))=A.map (·.val (e++o))++[.int .i64 (IntKind.i64.wrap (i-1))]:=by
          rw[List.map_append]
          congr 1
          · exact List.map_congr_left fun x hx=>SA.val_ext _ (List.all_eq_true.1 a3 x hx)
          · simp[SA.val,← hm1]
         rw[avp] at si
         rw[show b7 (e++o) base A=e.take base++A.map (·.val (e++o)) by rw[b7,List.take_append_of_le_length (by omega)]] at hS2
         subst hkk;exact ⟨s2,g1.trans g2,(show s2.nx=s0.nx by rw[h6];exact hS2.wk.nx),h9 _ s2 (by simp[a1]) si hS2⟩
       · simp at h
     · simp at h
  | exit id=>
   simp only[gen] at h;cases fr with
   | nil=>simp at h
   | cons f fr=>
    cases f with
    | seq c ann=>
     obtain ⟨Q',h1,rfl⟩:=f9;exact ih kk (.exit id) σ m jd fr ir h e J s r Q' hm ji b8 hS h1
    | scope=>
     obtain ⟨Q',h1,rfl⟩:=f9;exact ih kk (.exit id) σ m jd fr ir h e J s r Q' hm ji b8 hS h1
    | block i=>
     obtain ⟨Q',h1,rfl⟩:=f9;simp only at h
     show mb i Q' (.exit id) s
     unfold mb;simp only
     split at h
     · rename_i hi;have bn:i=id:=by simpa using hi
       rw[if_pos bn.symm];exact ih kk .norm σ m jd fr ir h e J s r Q' hm ji b8 hS h1
     · rename_i hi;have bn:¬ i=id:=by simpa using hi
       rw[if_neg (fun he=>bn he.symm)]
       exact ih kk (.exit id) σ m jd fr ir h e J s r Q' hm ji b8 hS h1
    | jmp lv base k σ2=>
     obtain ⟨Q',K,f,h1,rfl,h3,h4,h5,h6⟩:=f9;exact ih kk (.exit id) σ m jd fr ir h e J s r Q' hm ji b8 hS h1
    | rnd kko lv base k σ2=>
     obtain ⟨Q',I,j,f,s0,i,h1,rfl,hkk,h3,h4,h5,h6,h7,h8,h9⟩:=f9;have hS':=vk.rest (o:=e.drop base) h8 (by rw[take_append_drop];exact hS)
     rw[take_append_drop] at hS';exact ⟨s,.refl _ _,ih kko (.exit id) (σ2.rest σ) m jd fr ir h e J _ r Q' hm ji b8 hS' h1⟩
  | ret=>
   simp only[gen] at h;cases fr with
   | nil=>
    simp only[Option.map_eq_some_iff] at h;obtain ⟨A,hA,rfl⟩:=h;simp only[den] at b8;cases b8;subst hm;obtain ⟨_,_,h3⟩:=qcs hS hT hA;obtain ⟨rfl,_,f9⟩:=f9;exact f9 _ _ (h3 .ret (.inr rfl))
   | cons f fr=>
    cases f with
    | seq c ann=>
     obtain ⟨Q',h1,rfl⟩:=f9;exact ih kk .ret σ m jd fr ir h e J s r Q' hm ji b8 hS h1
    | block i=>
     obtain ⟨Q',h1,rfl⟩:=f9;exact ih kk .ret σ m jd fr ir h e J s r Q' hm ji b8 hS h1
    | scope=>
     obtain ⟨Q',h1,rfl⟩:=f9;exact ih kk .ret σ m jd fr ir h e J s r Q' hm ji b8 hS h1
    | jmp lv base k σ2=>
     obtain ⟨Q',K,f,h1,rfl,h3,h4,h5,h6⟩:=f9;exact ih kk .ret σ m jd fr ir h e J s r Q' hm ji b8 hS h1
    | rnd kko lv base k σ2=>
     obtain ⟨Q',I,j,f,s0,i,h1,rfl,hkk,h3,h4,h5,h6,h7,h8,h9⟩:=f9;have hS':=vk.rest (o:=e.drop base) h8 (by rw[take_append_drop];exact hS)
     rw[take_append_drop] at hS';exact ⟨s,.refl _ _,ih kko .ret (σ2.rest σ) m jd fr ir h e J _ r Q' hm ji b8 hS' h1⟩
end
end Am

namespace Am
open Go
variable {P:Program}{G:bl}
def aax(sg:Sig)(n:Nat):SS:={ tm:=sg.args,H:=sg.Hin.map some,nx:=sg.Hin.length,n:=n }
def IR.ok(ns:Nat→Nat)(m:Nat)(ar:List Nat):IR→Bool
 | .op p args k=>p.okP&&args.all (SA.ok m)&&k.ok ns (m+p.nout) ar
 | .ite _ a b=>a.ok ns m ar&&b.ok ns m ar
 | .isf _ _ a b=>a.ok ns m ar&&b.ok ns m ar
 | .call i n _ _ args k=>args.all (SA.ok m)&&args.length == ns i&&k.ok ns (m+n) ar
 | .letj n body rest=>body.ok ns m (ar++[n])&&rest.ok ns (m+n) ar
 | .loop n init body=>init.all (SA.ok m)&&init.length == n&&body.ok ns (m+n) (ar++[n])
 | .jump j args=>args.all (SA.ok m)&&(match ar[j]? with|some n=>args.length == n|none=>false)
 | .ret args=>args.all (SA.ok m)
 | .fail=>true
def JWF(ar:List Nat)(J:List PF):Prop:=ar.length=J.length∧∀ (j:Nat) (f:PF) (n:Nat),J[j]? = some f→ar[j]? = some n→∀ vs r,vs.length=n→EWF vs→f vs=some r→EWF r
theorem JWF.snoc{ar:List Nat}{J:List PF}(h:JWF ar J){f:PF}{n:Nat}(hf:∀ vs r,vs.length=n→EWF vs→f vs=some r→EWF r):JWF (ar++[n]) (J++[f]):=by
 obtain ⟨h1,h2⟩:=h;refine ⟨by simp[h1],fun j g k hg hk=>?_⟩
 by_cases hj:j<J.length
 · rw[getElem?_append_left hj] at hg;rw[getElem?_append_left (by omega)] at hk
   exact h2 j g k hg hk
 · rw[getElem?_append_right (by omega)] at hg
   rw[getElem?_append_right (by omega)] at hk
   by_cases h0:j-J.length=0
   · rw[h1,h0] at hk;rw[h0] at hg;simp at hg hk;subst hg;subst hk;exact hf
   · rw[List.getElem?_eq_none (by simp;omega)] at hg;simp at hg
theorem ahb{R:Nat→PF}{ns:Nat→Nat}(hR:∀ i a o,a.length=ns i→EWF a→R i a=some o→EWF o):∀ (ir:IR) {e:Env} {J:List PF} {ar:List Nat} {r:List D},ir.ok ns e.length ar=true→EWF e→JWF ar J→den R ir e J=some r→EWF r:=by
 intro ir
 induction ir with
 | op p args k ih=>
  intro e J ar r hok he hJ h;simp only[IR.ok,and_eq_true] at hok;simp only[den] at h
  split at h
  · rename_i o ho;exact ih (by simp[PO.eval_len ho];exact hok.2) (he.append (PO.eval_wf hok.1.1 (he.map hok.1.2) ho)) hJ h
  · simp at h
 | ite c a b iha ihb=>
  intro e J ar r hok he hJ h;simp only[IR.ok,and_eq_true] at hok;simp only[den] at h
  split at h
  · exact iha hok.1 he hJ h
  · exact ihb hok.2 he hJ h
  · simp at h
 | isf c f a b iha ihb=>
  intro e J ar r hok he hJ h;simp only[IR.ok,and_eq_true] at hok;simp only[den] at h
  split at h
  · exact iha hok.1 he hJ h
  · exact ihb hok.2 he hJ h
 | call i n sc sl args k ih=>
  intro e J ar r hok he hJ h;simp only[IR.ok,and_eq_true] at hok;simp only[den] at h
  split at h
  · rename_i o ho
    split at h
    · rename_i hn;exact ih (by simp[hn.1];exact hok.2) (he.append (hR i _ o (by simpa using hok.1.2) (he.map hok.1.1) ho)) hJ h
    · simp at h
  · simp at h
 | letj n body rest ihb ihr=>
  intro e J ar r hok he hJ h;simp only[IR.ok,and_eq_true] at hok;simp only[den] at h;exact ihb hok.1 he (hJ.snoc fun vs r hl hv hr=>ihr (by simp[hl];exact hok.2) (he.append hv) hJ hr) h
 | loop n init body ih=>
  intro e J ar r hok he hJ h;simp only[IR.ok,and_eq_true,beq_iff_eq] at hok;simp only[den] at h;obtain ⟨k,hk⟩:=qtf h
  have key:∀ k vs r,vs.length=n→EWF vs→eg (fun L vs=>den R body (e++vs) (J++[L])) k vs=some r→EWF r:=by
   intro k
   induction k with
   | zero=>intro vs r _ _ h;simp[eg] at h
   | succ k ihk=>
    intro vs r hl hv h;simp only[eg] at h;exact ih (by simp[hl];exact hok.2) (he.append hv) (hJ.snoc ihk) h
  exact key k _ _ (by simp[hok.1.2]) (he.map hok.1.1) hk
 | jump j args=>
  intro e J ar r hok he hJ h;simp only[IR.ok,and_eq_true] at hok;simp only[den] at h
  split at h
  · rename_i f hf;have h2:=hok.2
    split at h2
    · rename_i n hn;exact hJ.2 j f n hf hn _ _ (by simpa using h2) (he.map hok.1) h
    · simp at h2
  · simp at h
 | ret args=>
  intro e J ar r hok he hJ h;simp only[den] at h;cases h;exact he.map hok
 | fail=>intro e J ar r _ _ _ h;simp[den] at h
def vy(sigs:List Sig)(i:Nat):Nat:=match sigs[i]? with|some s=>s.nin|none=>0
def Ann.txt0:Ann→Ann
 | .g _ x=>x
 | x=>x
def Ann.backs:Ann→List (FuncId × Nat)
 | .g ps _=>ps
 | _=>[]
def Ann.fns(a:Ann):List Nat:=match a.txt0 with
 | .f xs _=>xs
 | _=>[]
def Ann.txt(a:Ann):Ann:=match a.txt0 with
 | .f _ x=>x
 | x=>x
def wc(P:Program)(a:Ann):Prop:=∀ p∈a.backs,aad P p.1 p.2
theorem wc.nil{P:Program}{a:Ann}(h:a.backs=[]:=by rfl):wc P a:=fun p hp=>by rw[h] at hp;cases hp
theorem qso:∀ {l:List (FuncId × Nat)} {f:FuncId} {sz:Nat},pj l f=some sz→(f,sz)∈l
 | [],_,_,h=>by simp[pj] at h
 | p::l,f,sz,h=>by
  simp only[pj] at h
  split at h
  · rename_i hp;simp only[Option.some.injEq] at h;have:p.1=f:=by simpa using hp
    subst h;subst this;exact List.mem_cons_self
  · exact List.mem_cons_of_mem _ (qso h)
def ai(T:Tab)(SG:ef)(sigs:List Sig)(fuel:Nat)(sg:Sig)(fn:Func)(ann:Ann):Option IR:=match fn.body with
 | none=>none
 | some body=>
  if SS.okB sg.nin (aax sg fn.ntmps)&&Nat.ble sg.args.length fn.ntmps && !(fn.name == "runtime.NumGoroutine")&&sg.kp.isEmpty then
   (match gen { T,SG,sigs,sig:=sg,fn,fns:=ann.fns,mixed:=true,backs:=ann.backs } sg.Hin.length fuel (.code body ann.txt) (aax sg fn.ntmps) sg.nin 0 [] with
   | some x=>if x.ok (vy sigs) sg.nin [] then some x else none
   | none=>none)
  else none
theorem a58(l:List SV):∀ t,bo l t=l.getD t .junk:=by
 induction l with
 | nil=>intro t;cases t<;>rfl
 | cons a l ih=>intro t;cases t with
  | zero=>rfl
  | succ t=>simpa [bo] using ih t
theorem aqd{T:Tab}{SG:ef}{sigs:List Sig}{fuel:Nat}{sg:Sig}{fn:Func}{ann:Ann}{x:IR}(hT:TOK P T)(hG:GOK G SG)(yo:P.follows .mixedOrders=true){R:Nat→PF}(hR:∀ i a o,a.length=vy sigs i→EWF a→R i a=some o→EWF o)
 (aal:∀ (i:Nat) (s:Sig),sigs[i]? = some s→jh P G (R i) s) (hf:P.funcs[sg.f]? = some fn) (aqs:wc P ann) (h:ai T SG sigs fuel sg fn ann=some x):jh P G (fun a=>den R x a []) sg:=by
 unfold ai at h
 split at h
 · simp at h
 · rename_i body hb
   split at h
   · rename_i hc;simp only[and_eq_true,Bool.not_eq_true'] at hc;obtain ⟨⟨⟨c1,c2⟩,c3⟩,c4⟩:=hc
     split at h
     · rename_i x' hx
       split at h
       · rename_i hok;cases h;intro ins outs jb hl m9 hr i6
         have hS:Sat ins (aax sg fn.ntmps) ⟨yf (SV.instL ins (lnL ins sg.Hin) sg.args) fn.ntmps,hOf (hIn ins sg.Hin),(hIn ins sg.Hin).length,fn.ntmps⟩:=by
          refine ⟨jb,fun t=>by rw[hl];exact afl c1 t,fun b k hk=>by rw[hl];exact aoh c1 hk,fun b k hk=>?_,⟨rfl,by simp[aax,SS.inst,hIn],fun t=>?_,fun b=>?_⟩⟩
          · have lu:am (sg.Hin.map some) b=some k:=hk;rw[qxm] at lu;exact m9 k (List.mem_of_getElem? lu)
          · show Wk (yf _ _ t) ((bo sg.args t).inst ins (ae ins (sg.Hin.map some)))
            rw[a58,getD_eq_getElem?_getD]
            by_cases ht:t<sg.args.length
            · rw[List.getElem?_eq_getElem ht];unfold yf;rw[getD_eq_getElem?_getD,getElem?_append_left (by rw[qgb];exact ht),SV.instL_map,List.getElem?_map,List.getElem?_eq_getElem ht]
              exact .refl _
            · rw[List.getElem?_eq_none (by omega)];exact .junk _
          · show WkO (hOf (hIn ins sg.Hin) b) ((am (sg.Hin.map some) b).map (·.inst ins (ae ins (sg.Hin.map some))))
            rw[qxm];unfold hOf hIn;rw[List.getElem?_map];cases sg.Hin[b]? with
            | none=>trivial
            | some k=>exact ⟨rfl,rfl,rfl,rfl,.refl _⟩
         have hk:(hIn ins sg.Hin).length=sg.Hin.length:=by simp[hIn]
         refine ⟨ahb hR x (ar:=[]) (by rw[hl];exact hok) jb ⟨rfl,fun j f n hj=>by simp at hj⟩ hr,CC.intro hf hb c3 (by rw[qgb];exact Nat.le_of_ble_eq_true c2) ?_,fun i hi=>by rw[List.isEmpty_iff.1 c4] at hi;simp[inL] at hi⟩
         have:=a5x (P:=P) (G:=G) hT hG (fun _=>yo) aal (fun f sz hb=>aqs _ (qso hb)) fuel _ (.code body ann.txt) _ _ _ [] x hx ins [] _ outs
          (fun e s=>∃ s',Ent sg.Hin.length s s'∧Fin P fn sg.Hin.length (hIn outs sg.Hout) (sg.res.inst outs (lnL outs sg.Hout)) e s') hl rfl hr hS
          ⟨rfl,fun ex s s' he ⟨s2,h1,h2⟩=>⟨s2,he.trans h1,h2⟩,fun ex s zg=>⟨s,.refl _ _,zg⟩⟩
         rw[hk] at this ⊢;exact this
       · simp at h
     · simp at h
   · simp at h
structure uu(P:Program)(G:bl)(T:Tab)(SG:ef)(sigs:List Sig)(tb:Nat→TE):Prop where
 ir:∀ (i:Nat) (x:IR),tb i = .ir x→∃ sg fn ann fuel,sigs[i]? = some sg∧P.funcs[sg.f]? = some fn∧ai T SG sigs fuel sg fn ann=some x∧wc P ann
 ext:∀ (i:Nat) (E:PF),tb i = .ext E→(∀ a o,a.length=vy sigs i→EWF a→E a=some o→EWF o)∧∀ sg,sigs[i]? = some sg→jh P G E sg
theorem at1{T:Tab}{SG:ef}{sigs:List Sig}{tb:Nat→TE}(hT:TOK P T)(hG:GOK G SG)(yo:P.follows .mixedOrders=true)(h:uu P G T SG sigs tb) :
 ∀ n,(∀ i a o,a.length=vy sigs i→EWF a→runN tb n i a=some o→EWF o)∧∀ (i:Nat) (sg:Sig),sigs[i]? = some sg→jh P G (runN tb n i) sg:=by
 intro n
 induction n with
 | zero=>exact ⟨fun i a o _ _ hr=>by simp[runN] at hr,fun i sg _ ins outs _ _ _ hr=>by simp[runN] at hr⟩
 | succ n ih=>
  obtain ⟨ih1,ih2⟩:=ih;refine ⟨fun i a o hl ha hr=>?_,fun i sg hsg=>?_⟩
  · simp only[runN] at hr;cases ht:tb i with
    | ext E=>rw[ht] at hr;exact (h.ext i E ht).1 a o hl ha hr
    | ir x=>
     rw[ht] at hr;obtain ⟨sg,fn,ann,fuel,h1,h2,h3,_⟩:=h.ir i x ht;unfold ai at h3
     split at h3
     · simp at h3
     · split at h3
       · split at h3
         · split at h3
           · rename_i hok;cases h3;have sa:a.length=sg.nin:=by rw[hl];simp[vy,h1]
             exact ahb ih1 x (ar:=[]) (by rw[sa];exact hok) ha ⟨rfl,fun j f n hj=>by simp at hj⟩ hr
           · simp at h3
         · simp at h3
       · simp at h3
  · cases ht:tb i with
    | ext E=>
     have:runN tb (n+1) i=E:=by simp only[runN,ht]
     rw[this];exact (h.ext i E ht).2 sg hsg
    | ir x=>
     have:runN tb (n+1) i=fun a=>den (runN tb n) x a []:=by simp only[runN,ht]
     rw[this];obtain ⟨sg',fn,ann,fuel,h1,h2,h3,h4⟩:=h.ir i x ht;rw[hsg] at h1;cases h1;exact aqd hT hG yo ih1 ih2 h2 h4 h3
def abg(P:Program)(t:TypeId):TF:=
 { sz:=tsz P t,bt:=tby P t,ti:=tin P t,tu:=tun P t,agg:=gc P t,elem:=cb P t,arr:=iu P t,int:=ia P t,str:=gj P t,bool:=d9 P t,zero:=dn P t,
   flds:=(match P.underlying t with|some (.struct fs)=>fs.toList.map (fun f=>(f.offset,f.type))|_=>[]),
   place:=(match P.underlying t with|some (.struct _)=>lh P t|some (.array n _)=>if Nat.ble n 16 then lh P t else none|_=>none) }
theorem ar1(P:Program)(t:TypeId):agj P t (abg P t):=by
 refine ⟨rfl,rfl,rfl,rfl,rfl,rfl,rfl,rfl,rfl,rfl,rfl,fun f x h=>?_,fun pl h=>?_⟩
 · simp only[abg] at h;unfold gt
   split at h
   · rename_i fs hu;simp only[hu];rw[List.getElem?_map,Array.getElem?_toList] at h;exact h
   · simp at h
 · simp only[abg] at h
   split at h
   · exact h
   · split at h
     · exact h
     · simp at h
   · simp at h
theorem agz{T:Tab}(h:T.map (fun p=>abg P p.1)=T.map (·.2)):TOK P T:=by
 intro t tf ht
 have key:∀ {T:Tab},T.map (fun p=>abg P p.1)=T.map (·.2)→T.get t=some tf→abg P t=tf:=by
  intro T
  induction T with
  | nil=>intro _ h;simp[Tab.get] at h
  | cons p T ih=>
   intro h h';simp only[map_cons,List.cons.injEq] at h;simp only[Tab.get] at h'
   split at h'
   · rename_i hp;have xy:p.1=t:=by simpa using hp
     simp only[Option.some.injEq] at h';rw[← xy,h.1,h']
   · exact ih h.2 h'
 rw[← key h ht];exact ar1 P t
theorem qtm{T:Tab}{SG:ef}{sigs:List Sig}{tb:Nat→TE}(hT:TOK P T)(hG:GOK G SG)(yo:P.follows .mixedOrders=true)(h:uu P G T SG sigs tb){i:Nat}{sg:Sig}(hsg:sigs[i]? = some sg)
 {ins outs:Env} (jb:EWF ins) (hl:ins.length=sg.nin) (m9:∀ k∈sg.Hin,∃ xs,k.d.val ins = .sl xs) (hr:run tb i ins=some outs) (hn:outs.length=sg.nout) :
 CC P G sg.f (hIn ins sg.Hin) (SV.instL ins (lnL ins sg.Hin) sg.args) (hIn outs sg.Hout) (sg.res.inst outs (lnL outs sg.Hout)):=by
 obtain ⟨n,hn'⟩:=agq hr;exact ((at1 hT hG yo h n).2 i sg hsg ins outs jb hl m9 hn' hn).2.1
end Am
namespace Am
open Go
abbrev ik(n : Int) : SA := .c (.int .i64 n)
abbrev nl : SA := .c (.sl [])
abbrev bk(b : Bool) : SA := .c (.bool b)
abbrev pb(o : BinOp) : PO := .bin o false
def jk(l : List Nat) : List (Nat × SV) := l.map fun n => (n, .junk)
end Am
