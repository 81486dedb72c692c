/- The abstract machine and its reader: lemmas. -/
import Derived.Test.YtoalfckdmoahoaaGreatDoorSe7
import Derived.Test.YtoalfckdmoahoaaGreatDoorRng
set_option linter.unusedSimpArgs false
set_option linter.unusedVariables false
set_option linter.unusedSectionVars false
namespace Am
open Go
variable {P:Program} {G:Glob} {kk:Nat}
theorem qxeb {b:Code} {Q:Exit→Sta→Prop} {s:Sta} (R:Nat→Sta→Prop) (k0:Nat) (s':Sta) (he:Ent kk s s') (h0:R k0 s')
 (h:∀ k s,R k s→awp P G kk b (seqK kk (fun s1=>∃ k1,k1<k∧R k1 s1) Q) s):awp P G kk (.loop b) Q s:=by
 classical
 have least:∀ s,(∃ n,R n s)→∃ n,R n s∧∀ m,R m s→n≤m:=by
  rintro s ⟨n,hn⟩
  induction n using Nat.strongRecOn with
  | _ n ih=>
   by_cases hex:∃ m,m<n∧R m s
   · obtain ⟨m,hm,hms⟩:=hex;exact ih m hm hms
   · exact ⟨n,hn,fun m hm=>Nat.le_of_not_lt fun hlt=>hex ⟨m,hlt,hm⟩⟩
 refine qkx (fun s=>∃ n,R n s) (fun s=>if hs:∃ n,R n s∧∀ m,R m s→n≤m then hs.choose else 0) s' he ⟨k0,h0⟩ fun s hs=>?_
 have hex:=least s hs;simp only[dif_pos hex];obtain ⟨h1,_⟩:=hex.choose_spec;refine qtg (fun e s1 hh=>?_) (h _ s h1)
 cases e with
 | normal=>
  obtain ⟨s2,g1,k1,g2,g3⟩:=hh;have hex':=least s2 ⟨k1,g3⟩;refine ⟨s2,g1,⟨k1,g3⟩,?_⟩;simp only[dif_pos hex'];exact Nat.lt_of_le_of_lt (hex'.choose_spec.2 _ g3) g2
 | _=>exact hh
theorem qcmb {gi:GI} {σ σ2:SS} {e o1 o2:Env} {s2:Sta} {id:Nat} {op:Op} {r1:SR} (hst:stepOp gi (preFrz σ op) e.length id op=some r1) (hr1:runE r1.em e=some (e++o1)) (hS:Sat (e++o1++o2) σ2 s2) :
 Sat (e++o1++o2) (foldN (sev gi.SG (preFrz σ op)) op e.length σ2) s2:=by
 unfold foldN
 split
 · rename_i t x
   split
   · rename_i b hb;have hp:preFrz σ (.unOp .not t x)=σ:=rfl;rw[hp] at hst hb
     have hem:r1.em=[(.un .not,[.c (.bool b)])]:=by
      unfold stepOp at hst
      split at hst
      · rename_i r hr
        split at hst
        · cases hst;simp only[symOp,hb] at hr;cases hr;rfl
        · cases hst
      · cases hst
     rw[hem] at hr1;have h1:runE [(PO.un .not,[SA.c (.bool b)])] e=some (e++[.bool (!b)]):=by cases b<;>rfl
     rw[h1] at hr1
     have ho:o1=[.bool (!b)]:=by
      have:=Option.some.inj hr1;exact (List.append_cancel_left this).symm
     subst ho;refine hS.subst ?_
     show (e++[D.bool (!b)]++o2).getD e.length dfl=_
     simp
   · exact hS
 · exact hS
def EntCl (kk:Nat) (Q:Exit→Sta→Prop):Prop:=∀ ex s s',Ent kk s s'→Q ex s'→Q ex s
def scopeK (Q:Exit→Sta→Prop):Exit→Sta→Prop:=fun e s=>match e with | .goto _=>False|e=>Q e s
def FrOK (P:Program) (G:Glob) (gi:GI) (r:List D):Nat→List Fr→Env→List PF→(Exit→Sta→Prop)→Prop
 | kk,[],_,_,Q=>kk=gi.sig.Hin.length∧EntCl kk Q∧∀ ex s,Fin P gi.fn kk (hIn r gi.sig.Hout) (gi.sig.res.inst r (lnL r gi.sig.Hout)) ex s→Q ex s
 | kk,.seq c _::fr,e,J,Q=>∃ Q',FrOK P G gi r kk fr e J Q'∧Q=seqK kk (awp P G kk c Q') Q'
 | kk,.block id::fr,e,J,Q=>∃ Q',FrOK P G gi r kk fr e J Q'∧Q=blockK id Q'
 | kk,.scope::fr,e,J,Q=>∃ Q',FrOK P G gi r kk fr e J Q'∧Q=scopeK Q'
 | kk,.jmp lv base n σ2::fr,e,J,Q=>∃ Q' K f,FrOK P G gi r kk fr e J Q'∧Q=seqK kk K Q'∧J[lv]? = some f∧base≤e.length∧σ2.okB (base+n)=true∧
  ∀ vals s,vals.length=n→f vals=some r→Sat (e.take base++vals) σ2 s→K s
 | kk,.rnd kko lv base n σ2::fr,e,J,Q=>∃ (Q':Exit→Sta→Prop) (I:Nat→Heap→Prop) (j:Nat) (f:PF) (s0:Sta) (i:Int),FrOK P G gi r kko fr e J Q'∧Q=rndQ I j Q' s0∧kk=s0.nx∧J[lv]? = some f∧base+n<e.length∧σ2.okB (base+n)=true∧s0.nx=σ2.nx∧
  (SA.v (base+n)).val e = .int .i64 i∧Stab (e.take base) σ2 s0∧
  ∀ vals s,vals.length=n→f (vals++[.int .i64 (IntKind.i64.wrap (i-1))])=some r→Sat (e.take base++vals) { σ2 with tm:=[] } s→I (j+1) s.H
theorem FrOK.mono {gi:GI} {r:List D}:∀ {fr:List Fr} {kk:Nat} {e:Env} {J:List PF} {Q:Exit→Sta→Prop},FrOK P G gi r kk fr e J Q→∀ (o:Env) (J':List PF),FrOK P G gi r kk fr (e++o) (J++J') Q:=by
 intro fr
 induction fr with
 | nil=>intro kk e J Q h o J';exact h
 | cons f fr ih=>
  intro kk e J Q h o J';cases f with
  | seq c ann=>obtain ⟨Q',h1,h2⟩:=h;exact ⟨Q',ih h1 o J',h2⟩
  | block id=>obtain ⟨Q',h1,h2⟩:=h;exact ⟨Q',ih h1 o J',h2⟩
  | scope=>obtain ⟨Q',h1,h2⟩:=h;exact ⟨Q',ih h1 o J',h2⟩
  | jmp lv base n σ2=>
   obtain ⟨Q',K,f,h1,h2,h3,h4,h5,h6⟩:=h;refine ⟨Q',K,f,ih h1 o J',h2,?_,by simp;omega,h5,fun vals s hl hf hs=>h6 vals s hl hf (by rwa [List.take_append_of_le_length h4] at hs)⟩
   rw[List.getElem?_append_left (List.getElem?_eq_some_iff.1 h3).1];exact h3
  | rnd kko lv base n σ2=>
   obtain ⟨Q',I,j,f,s0,i,h1,h2,h3,h4,h5,h6,h7,h8,h9,h10⟩:=h;have ht:(e++o).take base=e.take base:=List.take_append_of_le_length (by omega)
   refine ⟨Q',I,j,f,s0,i,ih h1 o J',h2,h3,?_,by simp;omega,h6,h7,?_,by rw[ht];exact h9,fun vals s hl hf hs=>h10 vals s hl hf (by rwa [ht] at hs)⟩
   · rw[List.getElem?_append_left (List.getElem?_eq_some_iff.1 h4).1];exact h4
   · rw[SA.val_ext o (x:=.v (base+n)) (by simpa [SA.ok] using h5)];exact h8
theorem FrOK.cl {gi:GI} {r:List D}:∀ {fr:List Fr} {kk:Nat} {e:Env} {J:List PF} {Q:Exit→Sta→Prop},FrOK P G gi r kk fr e J Q→EntCl kk Q:=by
 have sq:∀ {kk:Nat} {K:Sta→Prop} {Q':Exit→Sta→Prop},EntCl kk Q'→EntCl kk (seqK kk K Q'):=by
  intro kk K Q' h ex s s' he hq;cases ex with
  | normal=>obtain ⟨s2,h1,h2⟩:=hq;exact ⟨s2,he.trans h1,h2⟩
  | exit i=>exact h (.exit i) s s' he hq
  | goto i=>exact h (.goto i) s s' he hq
  | ret=>exact h .ret s s' he hq
  | panic c=>exact h (.panic c) s s' he hq
  | outgrown=>exact h .outgrown s s' he hq
 intro fr
 induction fr with
 | nil=>intro kk e J Q h;exact h.2.1
 | cons f fr ih=>
  intro kk e J Q h;cases f with
  | seq c ann=>obtain ⟨Q',h1,rfl⟩:=h;exact sq (ih h1)
  | scope=>
   obtain ⟨Q',h1,rfl⟩:=h;have hc:=ih h1;intro ex s s' he hq;cases ex with
   | goto i=>exact hq.elim
   | normal=>exact hc .normal s s' he hq
   | exit i=>exact hc (.exit i) s s' he hq
   | ret=>exact hc .ret s s' he hq
   | panic c=>exact hc (.panic c) s s' he hq
   | outgrown=>exact hc .outgrown s s' he hq
  | block id=>
   obtain ⟨Q',h1,rfl⟩:=h;have hc:=ih h1;intro ex s s' he hq;cases ex with
   | exit i=>
    simp only[blockK] at hq ⊢
    split at hq
    · rename_i h;rw[if_pos h];exact hc _ s s' he hq
    · rename_i h;rw[if_neg h];exact hc _ s s' he hq
   | normal=>exact hc .normal s s' he hq
   | goto i=>exact hc (.goto i) s s' he hq
   | ret=>exact hc .ret s s' he hq
   | panic c=>exact hc (.panic c) s s' he hq
   | outgrown=>exact hc .outgrown s s' he hq
  | jmp lv base n σ2=>obtain ⟨Q',K,f,h1,rfl,_⟩:=h;exact sq (ih h1)
  | rnd kko lv base n σ2=>
   obtain ⟨Q',I,j,f,s0,i,h1,rfl,rfl,_⟩:=h;intro ex s s' he hq;cases ex with
   | normal=>obtain ⟨s2,g1,g2⟩:=hq;exact ⟨s2,he.trans g1,g2⟩
   | ret=>obtain ⟨s2,g1,g2⟩:=hq;exact ⟨s2,he.trans g1,g2⟩
   | exit id=>obtain ⟨s2,g1,g2⟩:=hq;exact ⟨s2,he.trans g1,g2⟩
   | goto t=>exact hq.elim
   | panic c=>exact hq.elim
   | outgrown=>exact hq.elim
theorem qxgb {f:FuncId} {d:D} (h:isFn f d=true):d = .raw (.func (.func f) #[] #[]):=by
 unfold isFn at h
 split at h
 · rename_i g;have:f=g:=by simpa using h
   rw[this]
 · simp at h
theorem qzq {R:Nat→PF} {e:Env} {J:List PF} {r:List D} {x:Nat} {g:FuncId→Option IR}:∀ {l:List FuncId} {ir:IR},chainF x g l=some ir→den R ir e J=some r→∃ f p,g f=some p∧den R p e J=some r∧isFn f ((SA.v x).val e)=true:=by
 intro l
 induction l with
 | nil=>intro ir h hd;simp only[chainF,Option.some.injEq] at h;subst h;simp[den] at hd
 | cons f l ih=>
  intro ir h hd;simp only[chainF] at h
  split at h
  · rename_i p q hp hq;cases h;simp only[den] at hd
    split at hd
    · rename_i hf;exact ⟨f,p,hp,hd,hf⟩
    · exact ih hq hd
  · exact ih h hd
  · simp at h
theorem qls {R:Nat→PF} {J:List PF} {r:List D} {x:Nat} {g:Nat→Nat→Option IR}:∀ {l:List Nat} {m:Nat} {e:Env} {ir:IR},e.length=m→x<m→chainI x m g l=some ir→den R ir e J=some r→
 ∃ (c:Nat) (p:IR) (o:Env),g c (m+o.length)=some p∧den R p (e++o) J=some r∧(SA.v x).val (e++o) = .int .i64 c∧EWF o:=by
 intro l
 induction l with
 | nil=>intro m e ir _ _ h hd;simp only[chainI,Option.some.injEq] at h;subst h;simp[den] at hd
 | cons c l ih=>
  intro m e ir hm hx h hd;simp only[chainI] at h
  split at h
  · rename_i p hp
    split at h
    · rename_i q hq;cases h;simp only[den] at hd
      split at hd
      · rename_i outs ho;simp only[List.map_cons,List.map_nil,SA.val,PO.eval] at ho;have hxv:(SA.v x).val (e++outs)=(SA.v x).val e:=SA.val_ext outs (x:=.v x) (by simp[SA.ok,hm,hx])
        have hb:∃ b:Bool,outs=[.bool b]∧(b=true→(SA.v x).val e = .int .i64 c):=by
         simp only[SA.val]
         split at ho
         · simp at *
         · rename_i a b hno;generalize e.getD x dfl=d at *;cases d with
           | int k n=>
            simp only[one1,aBin] at ho
            split at ho
            · rename_i hk;simp only[Option.map_some,Option.some.injEq] at ho;refine ⟨_,ho.symm,fun hb=>?_⟩
              have:n=(c:Int):=by simpa using hb
              rw[this,hk]
            · simp at ho
           | _=>simp[one1,aBin] at ho
        obtain ⟨b,rfl,hbv⟩:=hb;have hmv:(SA.v m).val (e++[.bool b]) = .bool b:=by simp[SA.val,← hm]
        rw[hmv] at hd
        have hwf:EWF [D.bool b]:=fun d hd=>by
         simp only[List.mem_cons,List.not_mem_nil,or_false] at hd;subst hd;exact .bool _
        cases b with
        | true=>exact ⟨c,p,[.bool true],hp,hd,by rw[hxv];exact hbv rfl,hwf⟩
        | false=>
         obtain ⟨c',p',o,h1,h2,h3,h4⟩:=ih (m:=m+1) (e:=e++[.bool false]) (by simp[hm]) (by omega) hq hd
         exact ⟨c',p',.bool false::o,by rw[List.length_cons,Nat.add_comm o.length 1,← Nat.add_assoc];exact h1,by simpa using h2,by simpa using h3,EWF.append (e:=[.bool false]) hwf h4⟩
      · simp at hd
    · simp at h
  · exact ih hm hx h hd
def Goal (P:Program) (G:Glob) (kk:Nat) (Q:Exit→Sta→Prop):Work→Sta→Prop
 | .code c _,s=>awp P G kk c Q s
 | .ops l,s=>regE P G kk (Q .normal) l s
 | .opsD ops l id log,s=>regD P G (fun s1 log=>∃ m,okD ops s.nx log m=true∧Q .normal { s1 with nx:=m }) l id s log
 | .norm,s=>Q .normal s
 | .exit id,s=>Q (.exit id) s
 | .ret,s=>Q .ret s
theorem quq {σ:SS} {e:Env} {s:Sta} {SG:SGlob} (hS:Sat e σ s) (hG:GOK G SG) {c:Operand} {args:Array Operand} {f:FuncId} {first caps:List SV} (h:sCallee (sev SG σ c)=some (f,first,caps)) :
 ∃ x y,calleeOf (evA G s.tm c)=some (f,x,y)∧WkL (x++args.toList.map (evA G s.tm)++y) (SV.instL e (lnOf e σ.H) (avsOf (sev SG σ) args first caps)):=by
 have hw:=hev hS hG c;have ha:=qyw hS hG args.toList;have app:∀ a b:List SV,SV.instL e (lnOf e σ.H) (a++b)=SV.instL e (lnOf e σ.H) a++SV.instL e (lnOf e σ.H) b:=fun a b=>by simp[SV.instL_map]
 unfold sCallee at h
 split at h
 · rename_i f' hc;cases h;rw[hc] at hw;have:=qjzb hw;refine ⟨[],[],by simp only[this,SA.val,calleeOf],?_⟩
   simp only[avsOf,List.nil_append,List.append_nil];exact ha
 · rename_i f' a b hc;cases h;rw[hc] at hw;obtain ⟨x,y,hxy,h1,h2⟩:=qos hw;refine ⟨x,y,by simp only[hxy,calleeOf],?_⟩
   simp only[avsOf,app];exact (h1.append ha).append h2
 · simp at h
theorem qxm {id:Nat} {ev:Operand→AV} {H:Heap} {op:Op} {r:Res} (h:execA P id ev H op=some r):isCall op=false:=by
 cases op with
 | call c=>
  obtain ⟨callee,args,ats⟩:=c;cases callee with
  | value f=>simp[execA] at h
  | invoke r m=>simp[execA] at h
  | builtin b=>rfl
 | _=>rfl
theorem qqxb:∀ {ps:List Nat} {nx:Nat} {l:List (Nat × Blk)} {up:List Nat},l.map (·.1)=ps++up→(∀ b∈ps,b<nx)→∀ {up':List (Nat × SB)},up'.map (·.1)=up→nxAfter nx l=nxUp nx up':=by
 have key:∀ {l:List (Nat × Blk)} {up':List (Nat × SB)} (nx:Nat),l.map (·.1)=up'.map (·.1)→nxAfter nx l=nxUp nx up':=by
  intro l
  induction l with
  | nil=>intro up' nx h;cases up' with
   | nil=>rfl
   | cons=>simp at h
  | cons p l ih=>intro up' nx h;cases up' with
   | nil=>simp at h
   | cons q up'=>
    simp only[List.map_cons,List.cons.injEq] at h;simp only[nxAfter,nxUp,h.1];exact ih _ h.2
 intro ps
 induction ps with
 | nil=>intro nx l up h _ up' hu;exact key nx (by rw[h,hu];rfl)
 | cons b ps ih=>
  intro nx l up h hb up' hu;cases l with
  | nil=>simp at h
  | cons p l=>
   simp only[List.map_cons,List.cons_append,List.cons.injEq] at h;have hlt:=hb b (by simp)
   simp only[nxAfter];rw[h.1,Nat.max_eq_left (by omega)]
   exact ih h.2 (fun c hc=>hb c (by simp[hc])) hu
section
variable {gi:GI} {R:Nat→PF} (hT:TOK P gi.T) (hG:GOK G gi.SG) (hmix:gi.mixed=true→P.follows .mixedOrders=true) (hsig:∀ (i:Nat) (sg:Sig),gi.sigs[i]? = some sg→SigOK P G (R i) sg)
 (hbk:∀ (f:FuncId) (sz:Nat),backOf gi.backs f=some sz→BackOK P f sz)
include hT hG hmix hsig hbk
theorem qdfb:∀ (n kk:Nat) (w:Work) (σ:SS) (m jd:Nat) (fr:List Fr) (ir:IR),gen gi kk n w σ m jd fr=some ir→∀ (e:Env) (J:List PF) (s:Sta) (r:List D) (Q:Exit→Sta→Prop),e.length=m→J.length=jd→
 den R ir e J=some r→Sat e σ s→FrOK P G gi r kk fr e J Q→Goal P G kk Q w s:=by
 intro n
 induction n with
 | zero=>intro kk w σ m jd fr ir h;simp[gen] at h
 | succ n ih=>
  intro kk w σ m jd fr ir h e J s r Q hm hjd hden hS hfr;cases w with
  | code c ann=>
   simp only[gen,qqu] at h;cases c with
   | skip=>exact (ih kk .norm σ m jd fr ir h e J s r Q hm hjd hden hS hfr:Q .normal s)
   | label l=>exact (ih kk .norm σ m jd fr ir h e J s r Q hm hjd hden hS hfr:Q .normal s)
   | region id ops draw=>
    cases draw with
    | false=>exact ih kk (.ops (slimL ops)) σ m jd fr ir h e J s r Q hm hjd hden hS hfr
    | true=>
     simp only at h
     split at h
     · rename_i hmx;refine ⟨hmix hmx,?_⟩;have hnx:s.nx=σ.nx:=hS.wk.nx;have:=ih kk (.opsD ops (slimL ops) σ.nx []) σ m jd fr ir h e J s r Q hm hjd hden hS hfr;rw[← hnx] at this;exact this
     · simp at h
   | seq a b=>
    simp only at h
    split at h
    · rename_i x y;exact qh (ih kk (.code a x) σ m jd (.seq b y::fr) ir h e J s r _ hm hjd hden hS ⟨Q,hfr,rfl⟩)
    · rename_i j x y
      split at h
      · rename_i hokB
        split at h
        · rename_i p q hp hq;cases h;simp only[den] at hden
          refine qh (ih kk (.code a x) σ m (jd+1) (.jmp jd m j.n (j.state σ m)::fr) p hp e (J++[fun vs=>den R q (e++vs) J]) s r _ hm (by simp[hjd]) hden hS
           ⟨Q,awp P G kk b Q,fun vs=>den R q (e++vs) J,?_,rfl,?_,by omega,hokB,fun vals s' hl hf hs=>?_⟩)
          · have:=hfr.mono (o:=[]) [fun vs=>den R q (e++vs) J]
            rwa [List.append_nil] at this
          · rw[List.getElem?_append_right (by omega)];simp[hjd]
          · have ht:e.take m=e:=by rw[← hm,List.take_length]
            rw[ht] at hs;have h2:=hfr.mono vals [];rw[List.append_nil] at h2;exact ih kk (.code b y) _ (m+j.n) jd fr q hq (e++vals) J s' r Q (by simp[hm,hl]) hjd hf hs h2
        · simp at h
      · simp at h
    · exact qh (ih kk (.code a .z) σ m jd (.seq b .z::fr) ir h e J s r _ hm hjd hden hS ⟨Q,hfr,rfl⟩)
    · simp at h
   | cond c a b=>
    simp only at h;have hw:=hev hS hG c
    split at h
    · rename_i hc;rw[hc] at hw;exact qye (qhh hw) (ih kk (.code a _) σ m jd fr ir h e J s r Q hm hjd hden hS hfr)
    · rename_i hc;rw[hc] at hw;exact qbd (qhh hw) (ih kk (.code b _) σ m jd fr ir h e J s r Q hm hjd hden hS hfr)
    · rename_i q hc;rw[hc] at hw
      split at h
      · split at h
        · rename_i p p' hp hp';cases h;simp only[den] at hden
          split at hden
          · rename_i hv;simp only[SV.inst,hv] at hw;exact qye (qhh hw) (ih kk (.code a _) _ m jd fr p hp e J s r Q hm hjd hden (hS.subst hv) hfr)
          · rename_i hv;simp only[SV.inst,hv] at hw;exact qbd (qhh hw) (ih kk (.code b _) _ m jd fr p' hp' e J s r Q hm hjd hden (hS.subst hv) hfr)
          · simp at hden
        · simp at h
      · simp at h
    · simp at h
   | block id b=>
    exact qfb (ih kk (.code b _) σ m jd (.block id::fr) ir h e J s r _ hm hjd hden hS ⟨Q,hfr,rfl⟩)
   | loop b=>
    simp only at h
    split at h
    · rename_i j x
      split at h
      · rename_i em σ0 m0 hfl
        split at h
        · rename_i σ1 hgh
          split at h
          · rename_i hokB
            split at h
            · rename_i A p hA hp;cases h;obtain ⟨e1,hr1,hd1⟩:=qsd em e hden;subst hm;obtain ⟨hm0,s1,g1,hS1⟩:=qzd (kk:=kk) hS hfl hr1;obtain ⟨s2,g2,hS2⟩:=qgfb (kk:=kk) hS1 hgh;rw[← hm0] at hA hokB hp;obtain ⟨a1,a2,a3,s3,g3,hS3⟩:=qtk hS2 hokB hA;obtain ⟨o,rfl,_⟩:=qvd hr1;simp only[den] at hd1;obtain ⟨k,hk⟩:=qlf hd1
              have hfr1:FrOK P G gi r kk fr (e++o) J Q:=by
               have:=hfr.mono o []
               rwa [List.append_nil] at this
              rw[show e2Of (e++o) (e++o).length A=(e++o)++A.map (·.val (e++o)) by rw[e2Of,List.take_length]] at hS3
              refine qxeb (fun k s'=>∃ vals:List D,vals.length=j.n∧iter (fun L vs=>den R p ((e++o)++vs) (J++[L])) k vals=some r∧Sat ((e++o)++vals) (j.state σ1 (e++o).length) s') k s3 ((g1.trans g2).trans g3)
               ⟨A.map (·.val (e++o)),by simp[a1],hk,hS3⟩ fun k s' ⟨vals,hvl,hit,hSv⟩=>?_
              cases k with
              | zero=>simp[iter] at hit
              | succ k=>
               simp only[iter] at hit
               refine ih kk (.code b x) _ _ (jd+1) (.jmp jd (e++o).length j.n (j.state σ1 (e++o).length)::fr) p hp ((e++o)++vals) (J++[iter (fun L vs=>den R p ((e++o)++vs) (J++[L])) k]) s' r _ (by rw[List.length_append,hvl]) (by simp[hjd]) hit hSv
                ⟨Q,_,iter (fun L vs=>den R p ((e++o)++vs) (J++[L])) k,?_,rfl,?_,by simp,hokB,fun vals' s1 hl' hf' hs'=>⟨k,by omega,vals',hl',hf',?_⟩⟩
               · exact hfr1.mono vals _
               · rw[List.getElem?_append_right (by omega)];simp[hjd]
               · rwa [List.take_left' rfl] at hs'
            · simp at h
          · simp at h
        · simp at h
      · simp at h
    · simp at h
   | rangeFunc g ps as bd=>
    simp only at h
    split at h
    · rename_i j x
      split at h
      · rename_i b _ _ hb0
        split at h
        · rename_i em σ0 m0 hfl
          split at h
          · rename_i b' sz q hb1
            split at h
            · rename_i hc;simp only[Bool.and_eq_true] at hc;obtain ⟨⟨⟨⟨⟨⟨⟨⟨⟨c1,c2⟩,c3⟩,c4⟩,c5⟩,c6⟩,c7⟩,c8⟩,c9⟩,c10⟩:=hc
              split at h
              · rename_i A p rr hA hp hrr;cases h;subst hm;obtain ⟨s1,g1,_,hS1⟩:=hS.pin (kk:=kk) [b]
                have hS1':Sat e { σ with H:=pinS (· == b) 0 σ.H } s1:=by rw[qyv];exact hS1
                obtain ⟨e1,hr1,hd1⟩:=qsd em e hden;obtain ⟨hm0,s2,g2,hS2⟩:=qzd (kk:=kk) hS1' hfl hr1;obtain ⟨o,rfl,_⟩:=qvd hr1;obtain ⟨e2,hr2,hd2⟩:=qsd _ _ hd1;obtain ⟨rws,o2,hq,hrw,rfl,ho2l,hwf2,hidx,h3c,hlen⟩:=qndb hm0 c2 hS2.wf hr2;have hS3:=hS2.ext hwf2;have hqE:q.val ((e++o)++o2) = .sl rws:=by rw[SA.val_ext o2 (by rw[hm0];exact c2)];exact hq
                have hfrE:FrOK P G gi r kk fr ((e++o)++o2) J Q:=by
                 have:=(hfr.mono o []).mono o2 []
                 rwa [List.append_nil,List.append_nil] at this
                have hEl:((e++o)++o2).length=m0+3:=by rw[List.length_append,hm0,ho2l]
                have hi0:(SA.v (m0+2)).val ((e++o)++o2) = .int .i64 ((rws.length:Int)-1):=by
                 show (((e++o)++o2).getD (m0+2) dfl)=_
                 rw[List.getD_eq_getElem?_getD,List.getElem?_append_right (by omega),hm0,show m0+2-m0=2 by omega,hidx];rfl
                generalize (e++o)++o2=E at *;rw[← hEl] at hA hb1 c1 c3 c4 c8 c10 hp hrr hd2;obtain ⟨a1,a2,a3,s3,g3,hS4⟩:=qtk hS3 c3 hA
                rw[show e2Of E E.length A=E++A.map (·.val E) by rw[e2Of,List.take_length]] at hS4
                simp only[den] at hd2;obtain ⟨fuel,hfu⟩:=qlf hd2;generalize hσL:backL j σ0 E.length=σL at *
                have hstm:∀ t,getS σL.tm t = .junk∨stabV σL.H (getS σL.tm t)=true:=fun t=>by
                 rw[← hσL];simp only[backL];rw[qjd (qoa _)];exact qqcb _ _
                have hokt:∀ t,(getS σL.tm t).ok E.length=true:=fun t=>qqib (σ:={ σL with H:=[] }) (by simp only[SS.okB,List.all_nil,Bool.and_true];exact c10) t
                have hStab:Stab E σL s3:=⟨hS4.wk.n,hokt,hstm,fun t=>by
                 have h1:=hS4.get t;rcases hstm t with hj|hs
                 · rw[hj];exact .junk _
                 · have h2:=qqt hs (e:=E) (a:=A.map (·.val E)) (b:=[]) (hokt t);rw[List.append_nil] at h2;rw[← h2];exact h1⟩
                obtain ⟨f,kb,hsev,hbo,hkb,htl,hnl⟩:=qsu hb1;have hgw:=hev hS4 hG g;rw[hsev] at hgw;obtain ⟨ax,ay,hxy,hax,hay⟩:=qos hgw;obtain rfl:ax=[]:=qalb hax
                have hln:lnOf (E++A.map (·.val E)) σL.H b' = 1:=by rw[qkf hkb hnl,htl];rfl
                obtain rfl:ay=[.ptr b' 1 0 0]:=by
                 have hay:WkL ay [.ptr b' (lnOf (E++A.map (·.val E)) σL.H b') 0 0]:=hay;rw[hln] at hay;obtain ⟨hl1,hw1⟩:=hay
                 match ay,hl1,hw1 with
                 | [y],_,hw1=>
                  have h:=qqd (hw1 0 (by simp) (by simp))
                  simpa using h
                obtain ⟨blk,hblk,hwb1,_,_,_,hwb5⟩:=hS4.blk hkb
                have hfz:blk.fz=true:=by
                 rw[hwb1];unfold fzAt at c1;rw[hkb] at c1;exact c1
                have hrows:blk.rows=[[.d (.sl rws)]]:=by
                 have hq4:q.val (E++A.map (·.val E)) = .sl rws:=by rw[SA.val_ext _ (by rw[hEl];exact SA.ok_mono (by omega) c2)];exact hqE
                 have h1:(kb.inst (E++A.map (·.val E)) (lnOf (E++A.map (·.val E)) σL.H)).rows=([[D.sl rws]]:List (List D)).map (·.map .d):=by
                  simp only[SB.inst,SB.rows,qzrb hnl,D.rows,htl,List.map_nil,List.nil_append,List.map_cons,SV.instL,SV.inst,hq4]
                 rw[h1] at hwb5;exact qjh hwb5
                have hnx3:s3.nx=σL.nx:=hS4.wk.nx;have hn3:s3.n=σL.n:=hS4.wk.n;have hps2:ps.size=2:=by simpa using c9
                obtain ⟨p0,p1,hps⟩:∃ p0 p1,ps.toList=[p0,p1]:=by
                 have:ps.toList.length=2:=by simpa using hps2
                 match h:ps.toList,this with
                 | [p0,p1],_=>exact ⟨p0,p1,rfl⟩
                obtain ⟨F,hF⟩:∃ F:PF→PF,F=fun L vs=>den R (.op (.bin .geq false) [.v (E.length+j.n),.c (.int .i64 0)] (.ite (.v (E.length+j.n+1)) (.op (.row sz) [q,.v (E.length+j.n)] p) rr)) (E++vs) (J++[L]):=⟨_,rfl⟩
                have hfu':iter F fuel (A.map (·.val E)++[.int .i64 ((rws.length:Int)-1)])=some r:=by
                 rw[hF];rw[List.map_append,List.map_cons,List.map_nil,hi0] at hfu;exact hfu
                have turn:∀ (vals:List D) (fu:Nat) (i:Int),vals.length=j.n→iter F (fu+1) (vals++[.int .i64 i])=some r→
                 den R (if i≥0 then .op (.row sz) [q,.v (E.length+j.n)] p else rr) (E++vals++[.int .i64 i,.bool (decide (i≥0))]) (J++[iter F fu])=some r:=fun vals fu i hvl hit=>by
                 simp only[iter] at hit;have hh:=congrFun (congrFun hF (iter F fu)) (vals++[D.int .i64 i]);rw[hh] at hit;simp only[den] at hit
                 have v1:SA.val (E++(vals++[.int .i64 i])) (.v (E.length+j.n)) = .int .i64 i:=by
                  show (E++(vals++[D.int .i64 i])).getD (E.length+j.n) dfl=_
                  rw[List.getD_eq_getElem?_getD,List.getElem?_append_right (by omega),show E.length+j.n-E.length=vals.length by omega]
                  simp
                 have v2:∀ d,SA.val (E++(vals++[.int .i64 i])) (.c d)=d:=fun _=>rfl
                 have e4:PO.eval (.bin .geq false) [.int .i64 i,.int .i64 0]=some [.bool (decide (i≥0))]:=rfl;simp only[List.map_cons,List.map_nil,v1,v2,e4] at hit
                 have v3:SA.val (E++(vals++[.int .i64 i])++[.bool (decide (i≥0))]) (.v (E.length+j.n+1)) = .bool (decide (i≥0)):=by
                  show (E++(vals++[D.int .i64 i])++[D.bool (decide (i≥0))]).getD (E.length+j.n+1) dfl=_
                  have hll:(E++(vals++[D.int .i64 i])).length=E.length+j.n+1:=by simp[hvl];omega
                  rw[List.getD_eq_getElem?_getD,List.getElem?_append_right (by omega),hll,Nat.sub_self]
                  rfl
                 rw[v3] at hit;have hee:E++(vals++[.int .i64 i])++[.bool (decide (i≥0))]=E++vals++[.int .i64 i,.bool (decide (i≥0))]:=by simp
                 rw[hee] at hit
                 by_cases hi:i≥0
                 · rw[if_pos hi];rw[decide_eq_true hi] at hit ⊢;simpa [den] using hit
                 · rw[if_neg hi];rw[decide_eq_false hi] at hit ⊢;simpa using hit
                refine fun B a w hk hnm hi=>qgm (k:=kk) (Q:=Q) (s:=s3) (rows:=backR rws) hxy (hbk f sz hbo s3.H b' blk rws hblk hrows hfz h3c hlen) ?_ ?_ ?_ c5 c6
                 (fun jx h=>∃ (vals:List D) (fu:Nat),vals.length=j.n∧iter F fu (vals++[.int .i64 ((rws.length:Int)-1-jx)])=some r∧Sat (E++vals) { σL with tm:=[] } (junkS h s3.nx s3.n)) ?_ ?_ ?_ B a w hk hnm (((g1.trans g2).trans g3) G B a w hk hi)
                · intro row hrow;unfold backR at hrow;obtain ⟨kx,_,rfl⟩:=List.mem_map.1 hrow;simp[hps2]
                · intro px hpx;rw[hn3];have:=List.all_eq_true.1 c8 px hpx
                  simpa using this
                · intro bx hbx;rw[hnx3] at hbx;have h1:=List.all_eq_true.1 c4 bx (by simpa using hbx)
                  obtain ⟨kx,hkx⟩:=Option.isSome_iff_exists.1 h1;obtain ⟨x,hx,_⟩:=hS4.blk hkx;rw[hx];rfl
                · exact ⟨A.map (·.val E),fuel,by simp[a1],by simpa using hfu',hS4.bare rfl rfl rfl⟩
                · rintro jx h hj ⟨vals,fu,hvl,hit,hSv⟩;have hjr:jx<rws.length:=by simpa [backR] using hj
                  cases fu with
                  | zero=>simp[iter] at hit
                  | succ fu=>
                   have hge:(rws.length:Int)-1-jx≥0:=by omega
                   have ht:=turn vals fu _ hvl hit;rw[if_pos hge,decide_eq_true hge] at ht;have hix:rws.length-1-jx<rws.length:=by omega
                   have hirow:(rws.length:Int)-1-jx=((rws.length-1-jx:Nat):Int):=by omega
                   obtain ⟨cells,hcs⟩:∃ cells,cells=rws[rws.length-1-jx]:=⟨_,rfl⟩;have hcl:cells.length=sz:=by rw[hcs];exact h3c _ (List.getElem_mem hix)
                   obtain ⟨ix,hixv⟩:∃ ix:Int,ix=(rws.length:Int)-1-jx:=⟨_,rfl⟩;rw[← hixv] at ht
                   have v1:SA.val (E++vals++[D.int .i64 ix,D.bool true]) (.v (E.length+j.n)) = .int .i64 ix:=by
                    show (E++vals++[D.int .i64 ix,D.bool true]).getD (E.length+j.n) dfl=_
                    rw[List.getD_eq_getElem?_getD,List.getElem?_append_right (by simp[hvl])]
                    simp[hvl]
                   have v2:q.val (E++vals++[D.int .i64 ix,D.bool true]) = .sl rws:=by
                    rw[List.append_assoc,SA.val_ext _ (by rw[hEl];exact SA.ok_mono (by omega) c2)];exact hqE
                   have e5:PO.eval (.row sz) [.sl rws,.int .i64 ix]=some cells:=by
                    simp only[PO.eval];rw[if_pos (by omega),show ix.toNat=rws.length-1-jx by omega,List.getElem?_eq_getElem hix,← hcs]
                    simp[hcl]
                   simp only[den,List.map_cons,List.map_nil,v1,v2,e5] at ht
                   have hwfx:EWF ([D.int .i64 ix,D.bool true]++cells):=fun d hd=>by
                    rcases List.mem_append.1 hd with hd|hd
                    · simp only[List.mem_cons,List.not_mem_nil,or_false] at hd;rcases hd with rfl|rfl
                      · exact .int _ _
                      · exact .bool _
                    · exact hrw _ (List.getElem_mem hix) d (by rw[← hcs];exact hd)
                   have hSx:=hSv.ext hwfx;rw[List.append_assoc] at hSx;have hSy:=hStab.sat hSx;have heE:E++vals++[D.int .i64 ix,D.bool true]++cells=E++(vals++([D.int .i64 ix,D.bool true]++cells)):=by simp
                   rw[heE] at ht;have hlE:(E++(vals++([D.int .i64 ix,D.bool true]++cells))).length=E.length+j.n+2+sz:=by simp[hvl,hcl];omega
                   have hrow:(backR rws)[jx]=[.d (.int .i64 ix),.agg (cells.map .d)]:=by
                    simp only[backR,List.getElem_map,List.getElem_range];rw[List.getD_eq_getElem?_getD,List.getElem?_eq_getElem hix,← hcs,hixv];rfl
                   have hsz0:σL.nx=s3.nx:=hnx3.symm
                   have hvars:(vars (E.length+j.n+2) sz).map (fun x=>SA.val (E++(vals++([D.int .i64 ix,D.bool true]++cells))) x)=cells:=by
                    have:=qhm (E++vals++[D.int .i64 ix,D.bool true]) cells [] _ rfl;rw[List.append_nil,heE,hcl,show (E++vals++[D.int .i64 ix,D.bool true]).length=E.length+j.n+2 by simp[hvl];omega] at this
                    exact this
                   have hSr:Sat (E++(vals++([D.int .i64 ix,D.bool true]++cells))) (backR' σL ps.toList (.v (E.length+j.n)) (vars (E.length+j.n+2) sz)) { s3 with tm:=putTs s3.tm ps.toList (backR rws)[jx],H:=h }:=by
                    rw[hrow,hps]
                    have w1:Wk (AV.d (.int .i64 ix)) ((SV.atm (.v (E.length+j.n))).inst (E++(vals++([D.int .i64 ix,D.bool true]++cells))) (lnOf (E++(vals++([D.int .i64 ix,D.bool true]++cells))) σL.H)):=by
                     have:=SA.val_ext cells (x:=.v (E.length+j.n)) (e:=E++vals++[D.int .i64 ix,D.bool true]) (by simp[SA.ok,hvl]<;>omega)
                     rw[heE] at this;simp only[SV.inst,this,v1];exact .refl _
                    have w2:Wk (AV.agg (cells.map .d)) ((SV.agg ((vars (E.length+j.n+2) sz).map .atm)).inst (E++(vals++([D.int .i64 ix,D.bool true]++cells))) (lnOf (E++(vals++([D.int .i64 ix,D.bool true]++cells))) σL.H)):=by
                     simp only[SV.inst,SV.instL_map,List.map_map];rw[show (vars (E.length+j.n+2) sz).map ((fun v=>SV.inst (E++(vals++([D.int .i64 ix,D.bool true]++cells))) (lnOf (E++(vals++([D.int .i64 ix,D.bool true]++cells))) σL.H) v)∘SV.atm)=((vars (E.length+j.n+2) sz).map (fun x=>SA.val (E++(vals++([D.int .i64 ix,D.bool true]++cells))) x)).map AV.d by rw[List.map_map];rfl]
                     rw[hvars];exact .refl _
                    have s4:=hSy.put p0 (v:=.atm (.v (E.length+j.n))) (x:=.d (.int .i64 ix)) (by rw[hlE];simp[SV.ok];omega) w1
                    have s5:=s4.put p1 (v:=.agg ((vars (E.length+j.n+2) sz).map .atm)) (x:=.agg (cells.map .d)) (by rw[hlE];exact qty _ _ (by omega)) w2
                    exact s5
                   have hfr2:FrOK P G gi r σL.nx (.rnd kk jd E.length j.n σL::fr) (E++(vals++([D.int .i64 ix,D.bool true]++cells))) (J++[iter F fu]) (rndQ (fun jx h=>∃ (vals:List D) (fu:Nat),vals.length=j.n∧iter F fu (vals++[.int .i64 ((rws.length:Int)-1-jx)])=some r∧Sat (E++vals) { σL with tm:=[] } (junkS h s3.nx s3.n)) jx Q s3):=by
                    have h2:=hfrE.mono (vals++([D.int .i64 ix,D.bool true]++cells)) [iter F fu];refine ⟨Q,_,jx,iter F fu,s3,ix,h2,rfl,hsz0,?_,by rw[hlE];omega,c3,hnx3,?_,?_,fun vals' s' hl' hf' hs'=>?_⟩
                    · rw[List.getElem?_append_right (by omega)];simp[hjd]
                    · have:=SA.val_ext cells (x:=.v (E.length+j.n)) (e:=E++vals++[D.int .i64 ix,D.bool true]) (by simp[SA.ok,hvl]<;>omega)
                      rw[heE] at this;rw[this];exact v1
                    · rw[List.take_left' rfl];exact hStab
                    · rw[List.take_left' rfl] at hs';have hwr:IntKind.i64.wrap (ix-1)=(rws.length:Int)-1-((jx+1:Nat):Int):=by rw[wrapI64 (by omega) (by omega),hixv];omega
                      rw[hwr] at hf';exact ⟨vals',fu,hl',hf',hs'.bare rfl (by rw[hnx3];exact hs'.wk.nx) (by rw[hn3];exact hs'.wk.n)⟩
                   have hgo:=ih σL.nx (.code (.seq as bd) x) _ _ (jd+1) _ p hp _ (J++[iter F fu]) _ r _ hlE (by simp[hjd]) ht hSr hfr2
                   have hgo2:∀ (kx:Nat) (Qx:Exit→Sta→Prop) (sx:Sta),kx=σL.nx→awp P G σL.nx (.seq as bd) Qx sx→awp P G kx as (fun e s1=>e = .normal∧∃ s2,Ent kx s1 s2∧awp P G kx bd Qx s2) sx:=fun kx Qx sx hk h=>by
                    subst hk;exact qtg (fun e s hh=>⟨hh.1,hh.2⟩) (qts as c7 h)
                   exact hgo2 _ _ _ hnx3 hgo
                · rintro h ⟨vals,fu,hvl,hit,hSv⟩;have hbl:(backR rws).length=rws.length:=by simp[backR]
                  rw[hbl] at hit;cases fu with
                  | zero=>simp[iter] at hit
                  | succ fu=>
                   have ht:=turn vals fu _ hvl hit;rw[if_neg (by omega),decide_eq_false (by omega)] at ht
                   have hwfx:EWF [D.int .i64 ((rws.length:Int)-1-rws.length),.bool false]:=fun d hd=>by
                    simp only[List.mem_cons,List.not_mem_nil,or_false] at hd;rcases hd with rfl|rfl
                    · exact .int _ _
                    · exact .bool _
                   have hSx:=hSv.ext hwfx;rw[List.append_assoc] at hSx;have hSy:=hStab.sat hSx;rw[← List.append_assoc] at hSy;have h2:=(hfrE.mono vals []).mono [D.int .i64 ((rws.length:Int)-1-rws.length),.bool false] [iter F fu];rw[List.append_nil] at h2;have:=ih kk .norm σL (E.length+j.n+2) (jd+1) fr rr hrr _ (J++[iter F fu]) _ r Q (by simp[hvl]<;>omega) (by simp[hjd]) ht hSy h2
                   exact this
              · simp at h
            · simp at h
          · simp at h
        · simp at h
      · simp at h
    · simp at h
   | exit id=>exact (ih kk (.exit id) σ m jd fr ir h e J s r Q hm hjd hden hS hfr:Q (.exit id) s)
   | scope b=>exact ih kk (.code b ann) σ m jd (.scope::fr) ir h e J s r (scopeK Q) hm hjd hden hS ⟨Q,hfr,rfl⟩
   | ret=>exact (ih kk .ret σ m jd fr ir h e J s r Q hm hjd hden hS hfr:Q .ret s)
   | _=>simp at h
  | ops l=>
   simp only[gen,qqu] at h;cases l with
   | nil=>exact ⟨s,.refl _ _,ih kk .norm σ m jd fr ir h e J s r Q hm hjd hden hS hfr⟩
   | cons o rest=>
    simp only at h
    split at h
    · rename_i hd
      have hd':dstOK s.n o.dst:=by
       have hn:s.n=σ.n:=hS.wk.n;rw[hn];exact qbhb hd
      split at h
      · rename_i x hw
        split at h
        · split at h
          · rename_i p p' hp hp';cases h;simp only[den] at hden
            split at hden
            · rename_i hv;exact ih kk (.ops (o::rest)) _ m jd fr p hp e J s r Q hm hjd hden (hS.subst hv) hfr
            · rename_i hv;exact ih kk (.ops (o::rest)) _ m jd fr p' hp' e J s r Q hm hjd hden (hS.subst hv) hfr
            · simp at hden
          · simp at h
        · simp at h
      · rename_i q hw;have hw':=hS.wanted hw;refine ⟨s,.refl _ _,hd',?_⟩;rw[hw'];exact ih kk (.ops rest) _ m jd fr ir h e J _ r Q hm hjd hden (hS.skip o.dst) hfr
      · rename_i q hw
        split at h
        · rename_i x hnq
          split at h
          · split at h
            · rename_i p p' hp hp';cases h;simp only[den] at hden
              split at hden
              · rename_i hv;exact ih kk (.ops (o::rest)) _ m jd fr p hp e J s r Q hm hjd hden (hS.subst hv) hfr
              · rename_i hv;exact ih kk (.ops (o::rest)) _ m jd fr p' hp' e J s r Q hm hjd hden (hS.subst hv) hfr
              · simp at hden
            · simp at h
          · simp at h
        split at h
        · rename_i c args ats hop
          split at h
          · rename_i f first caps hcal
            split at h
            · rename_i i sc sl A k r1 σ1 pins hst
              split at h
              · rename_i p hp;cases h;simp only[den] at hden
                split at hden
                · rename_i outs ho
                  split at hden
                  · rename_i hn;have hw':=hS.wanted hw;refine ⟨s,.refl _ _,hd',?_⟩;rw[hw',hop]
                    show opK P G s.nx (evA G s.tm) s.H _ _
                    unfold opK;obtain ⟨x,y,hce,hwl⟩:=quq (args:=args) hS hG hcal;simp only[hce];have hnx:s.nx=σ.nx:=hS.wk.nx;rw[hnx];subst hm;refine qhl hS hst hwl hsig ho hn o.dst fun res hSr hlog hpin hnx1=>?_
                    have hS2:=hSr.nx' (nxUp σ1.nx r1.up)
                    have hst2:{ s.appD o.dst res with nx:=nxUp σ1.nx r1.up } = s.app o.dst res:=by
                     unfold Sta.appD Sta.app;rw[hnx,hnx1];have:=congrArg Prod.fst hlog;simp only[Res.log] at this;rw[qqxb this hpin rfl]
                    rw[hst2] at hS2;have h2:=hfr.mono outs [];rw[List.append_nil] at h2;exact ih kk (.ops rest) _ (e.length+k) jd fr p hp (e++outs) J _ r Q (by simp[hn.1]) hjd hden hS2 h2
                  · simp at hden
                · simp at hden
              · simp at h
            · simp at h
          · split at h
            · split at h
              · simp at h
              · obtain ⟨f,p,hp,hd2,hfn⟩:=qzq h hden;exact ih kk (.ops (o::rest)) _ m jd fr p hp e J s r Q hm hjd hd2 (hS.substF (qxgb hfn)) hfr
            · simp at h
        · rename_i op hop;obtain ⟨s1,g1,hS1⟩:=hS.preFrz (kk:=kk) o.op
          have hd1:dstOK s1.n o.dst:=by
           have hn:s1.n=(preFrz σ o.op).n:=hS1.wk.n
           have hn2:(preFrz σ o.op).n=σ.n:=by
            unfold preFrz SS.frz
            repeat' split
            all_goals rfl
           rw[hn,hn2];exact qbhb hd
          split at h
          · rename_i q2 r1 hw2 hst
            split at h
            · rename_i em σ2 m2 hfl
              split at h
              · rename_i p hp;cases h;obtain ⟨e1,hr1,hd2⟩:=qsd r1.em e hden;obtain ⟨e2,hr2,hd3⟩:=qsd em e1 hd2;subst hm;obtain ⟨o1,res,rfl,hwf,hlo,hk,hu⟩:=qor hS1 hG hT hst hr1;have hnx:s1.nx=(preFrz σ o.op).nx:=hS1.wk.nx;refine ⟨s1,g1,hd1,?_⟩;rw[hS1.wanted hw2];have hex:=hu.ex;rw[← hnx] at hex;refine qxk (qxm hex) hex ?_;have hS2:=hS1.upd hwf hk hu o.dst
                have hfl':flushes { (preFrz σ o.op).upd o.dst r1 with nx:=nxUp (preFrz σ o.op).nx r1.up } (e++o1).length (waiting 0 ((preFrz σ o.op).upd o.dst r1).H)=some (em,σ2,m2):=by
                 rw[List.length_append,hlo];exact hfl
                obtain ⟨hm2,s2,g2,hS3⟩:=qzd (kk:=kk) hS2 hfl' hr2;obtain ⟨o2,rfl,_⟩:=qvd hr2;refine qxz g2 ?_;have h2:=hfr.mono (o1++o2) [];rw[List.append_nil,← List.append_assoc] at h2;have hS4:Sat (e++o1++o2) (foldN (sev gi.SG (preFrz σ o.op)) o.op e.length σ2) s2:=qcmb hst hr1 hS3;exact ih kk (.ops rest) _ m2 jd fr p hp (e++o1++o2) J s2 r Q hm2 hjd hd3 hS4 h2
              · simp at h
            · simp at h
          · split at h
            · cases h;simp[den] at hden
            · split at h
              · split at h
                · rename_i x len hix hxm;obtain ⟨c,p,o',hp,hd2,hxv,hwf⟩:=qls hm (by simpa using hxm) h hden
                  have h2:=hfr.mono o' [];rw[List.append_nil] at h2;exact qxz g1 (ih kk (.ops (o::rest)) _ _ jd fr p hp (e++o') J s1 r Q (by simp[hm]) hjd hd2 ((hS1.ext hwf).substI hxv) h2)
                · simp at h
              · simp at h
      · simp at h
    · simp at h
  | opsD ops l id log=>
   simp only[gen,qqu] at h;have hnx:s.nx=σ.nx:=hS.wk.nx;cases l with
   | nil=>
    simp only at h;generalize hm':(List.range (id+1)).foldl (fun k i=>match getB σ.H i with|some _=>Nat.max k (i+1)|none=>k) σ.nx=m' at h
    split at h
    · rename_i hok
      split at h
      · rename_i em σ2 m2 hfl
        split at h
        · rename_i p hp;cases h;obtain ⟨e1,hr1,hd1⟩:=qsd em e hden;subst hm;obtain ⟨hm2,s2,g2,hS2⟩:=qzd (kk:=kk) (hS.nx' m') hfl hr1;obtain ⟨o,rfl,_⟩:=qvd hr1;have h2:=hfr.mono o [];rw[List.append_nil] at h2;refine ⟨m',by rw[hnx];exact hok,?_⟩
          exact hfr.cl .normal _ s2 g2 (ih kk .norm σ2 m2 jd fr p hp (e++o) J s2 r Q hm2 hjd hd1 hS2 h2)
        · simp at h
      · simp at h
    · simp at h
   | cons o rest=>
    simp only at h
    split at h
    · rename_i hd
      have hd':dstOK s.n o.dst:=by
       have hn:s.n=σ.n:=hS.wk.n;rw[hn];exact qbhb hd
      split at h
      · rename_i x hw
        split at h
        · split at h
          · rename_i p p' hp hp';cases h;simp only[den] at hden
            split at hden
            · rename_i hv;exact ih kk (.opsD ops (o::rest) id log) _ m jd fr p hp e J s r Q hm hjd hden (hS.subst hv) hfr
            · rename_i hv;exact ih kk (.opsD ops (o::rest) id log) _ m jd fr p' hp' e J s r Q hm hjd hden (hS.subst hv) hfr
            · simp at hden
          · simp at h
        · simp at h
      · rename_i q hw;have hw':=hS.wanted hw;refine ⟨hd',?_⟩;rw[hw'];exact ih kk (.opsD ops rest (id+1) (log++[([],[])])) _ m jd fr ir h e J _ r Q hm hjd hden (hS.skip o.dst) hfr
      · rename_i q hw;have hw':=hS.wanted hw
        split at h
        · rename_i c args ats hop
          split at h
          · rename_i f first caps hcal
            split at h
            · rename_i i sc sl A k r1 σ1 pins hst
              split at h
              · rename_i p hp;cases h;simp only[den] at hden
                split at hden
                · rename_i outs ho
                  split at hden
                  · rename_i hn;refine ⟨hd',?_⟩;rw[hw',hop]
                    show opK P G id (evA G s.tm) s.H _ _
                    unfold opK;obtain ⟨x,y,hce,hwl⟩:=quq (args:=args) hS hG hcal;simp only[hce];subst hm;refine qhl hS hst hwl hsig ho hn o.dst fun res hSr hlog _ _=>?_
                    rw[hlog];have h2:=hfr.mono outs [];rw[List.append_nil] at h2;exact ih kk (.opsD ops rest (id+1) _) _ (e.length+k) jd fr p hp (e++outs) J _ r Q (by simp[hn.1]) hjd hden hSr h2
                  · simp at hden
                · simp at hden
              · simp at h
            · simp at h
          · split at h
            · split at h
              · simp at h
              · obtain ⟨f,p,hp,hd2,hfn⟩:=qzq h hden;exact ih kk (.opsD ops (o::rest) id log) _ m jd fr p hp e J s r Q hm hjd hd2 (hS.substF (qxgb hfn)) hfr
            · simp at h
        · rename_i op hop
          split at h
          · rename_i r1 hst
            split at h
            · rename_i p hp;cases h;obtain ⟨e1,hr1,hd2⟩:=qsd r1.em e hden;subst hm;obtain ⟨o1,res,rfl,hwf,hlo,hk,hu⟩:=qor hS hG hT hst hr1;refine ⟨hd',?_⟩;rw[hw'];refine qxk (qxm hu.ex) hu.ex ?_;have hS2:=hS.updD hwf hk hu o.dst
              have hlog:res.log=(r1.up.map (·.1),r1.rb):=by
               simp only[Res.log];rw[qfwb hu.hs,hu.rb]
              rw[hlog];have h2:=hfr.mono o1 [];rw[List.append_nil] at h2;exact ih kk (.opsD ops rest (id+1) _) _ (e.length+outsOf r1.em) jd fr p hp (e++o1) J _ r Q (by simp[hlo]) hjd hd2 hS2 h2
            · simp at h
          · split at h
            · cases h;simp[den] at hden
            · split at h
              · split at h
                · rename_i x len hix hxm;obtain ⟨c,p,o',hp,hd2,hxv,hwf⟩:=qls hm (by simpa using hxm) h hden
                  have h2:=hfr.mono o' [];rw[List.append_nil] at h2;exact ih kk (.opsD ops (o::rest) id log) _ _ jd fr p hp (e++o') J s r Q (by simp[hm]) hjd hd2 ((hS.ext hwf).substI hxv) h2
                · simp at h
              · simp at h
      · simp at h
    · simp at h
  | norm=>
   simp only[gen] at h;cases fr with
   | nil=>
    simp only[Option.map_eq_some_iff] at h;obtain ⟨A,hA,rfl⟩:=h;simp only[den] at hden;cases hden;subst hm;obtain ⟨_,_,h3⟩:=qot hS hT hA;obtain ⟨rfl,_,hfr⟩:=hfr;exact hfr _ _ (h3 .normal (.inl rfl))
   | cons f fr=>
    cases f with
    | seq c ann=>
     obtain ⟨Q',h1,rfl⟩:=hfr;simp only at h
     split at h
     · rename_i l a;obtain ⟨s',he,hS'⟩:=Sat.frzs (kk:=kk) l hS;exact ⟨s',he,ih kk (.code c a) _ m jd fr ir h e J s' r Q' hm hjd hden hS' h1⟩
     · exact ⟨s,.refl _ _,ih kk (.code c ann) σ m jd fr ir h e J s r Q' hm hjd hden hS h1⟩
    | block id=>
     obtain ⟨Q',h1,rfl⟩:=hfr;exact ih kk .norm σ m jd fr ir h e J s r Q' hm hjd hden hS h1
    | scope=>
     obtain ⟨Q',h1,rfl⟩:=hfr;exact ih kk .norm σ m jd fr ir h e J s r Q' hm hjd hden hS h1
    | jmp lv base k σ2=>
     obtain ⟨Q',K,f,h1,rfl,h3,h4,h5,h6⟩:=hfr;simp only at h
     split at h
     · rename_i em σ1 m1 hfl
       split at h
       · rename_i A hA;cases h;obtain ⟨e1,hr1,hd1⟩:=qsd em e hden;subst hm;obtain ⟨hm1,s1,g1,hS1⟩:=qzd (kk:=kk) hS hfl hr1;rw[← hm1] at hA;obtain ⟨a1,a2,a3,s2,g2,hS2⟩:=qtk hS1 h5 hA;obtain ⟨o,rfl,_⟩:=qvd hr1;simp only[den,h3] at hd1;refine ⟨s2,g1.trans g2,h6 _ s2 (by simp[a1]) hd1 ?_⟩
         rw[show e2Of (e++o) base A=e.take base++A.map (·.val (e++o)) by rw[e2Of,List.take_append_of_le_length h4]] at hS2
         exact hS2
       · simp at h
     · simp at h
    | rnd kko lv base k σ2=>
     obtain ⟨Q',I,j,f,s0,i,h1,rfl,hkk,h3,h4,h5,h6,h7,h8,h9⟩:=hfr;simp only at h
     split at h
     · rename_i em σ1 m1 hfl
       split at h
       · rename_i A hA;cases h;obtain ⟨e1,hr1,hd1⟩:=qsd em e hden;subst hm;obtain ⟨hm1,s1,g1,hS1⟩:=qzd (kk:=kk) hS hfl hr1;rw[← hm1] at hA
         have h5':({ σ2 with tm:=[] }:SS).okB (base+k)=true:=by
          simp only[SS.okB,Bool.and_eq_true] at h5 ⊢;exact ⟨rfl,h5.2⟩
         obtain ⟨a1,a2,a3,s2,g2,hS2⟩:=qtk hS1 h5' hA;obtain ⟨o,rfl,_⟩:=qvd hr1;have hv:SA.val (e++o) (.v (base+k)) = .int .i64 i:=by rw[SA.val_ext o (x:=.v (base+k)) (by simpa [SA.ok] using h4)];exact h7
         have e4:PO.eval (.bin .sub false) [.int .i64 i,.int .i64 1]=some [.int .i64 (IntKind.i64.wrap (i-1))]:=rfl;have hc1:∀ d,SA.val (e++o) (.c d)=d:=fun _=>rfl
         simp only[den,List.map_cons,List.map_nil,hv,hc1,e4,h3] at hd1
         have hmap:(A++[SA.v m1]).map (·.val (e++o++[.int .i64 (IntKind.i64.wrap (i-1))]))=A.map (·.val (e++o))++[.int .i64 (IntKind.i64.wrap (i-1))]:=by
          rw[List.map_append]
          congr 1
          · exact List.map_congr_left fun x hx=>SA.val_ext _ (List.all_eq_true.1 a3 x hx)
          · simp[SA.val,← hm1]
         rw[hmap] at hd1
         rw[show e2Of (e++o) base A=e.take base++A.map (·.val (e++o)) by rw[e2Of,List.take_append_of_le_length (by omega)]] at hS2
         subst hkk;exact ⟨s2,g1.trans g2,(show s2.nx=s0.nx by rw[h6];exact hS2.wk.nx),h9 _ s2 (by simp[a1]) hd1 hS2⟩
       · simp at h
     · simp at h
  | exit id=>
   simp only[gen] at h;cases fr with
   | nil=>simp at h
   | cons f fr=>
    cases f with
    | seq c ann=>
     obtain ⟨Q',h1,rfl⟩:=hfr;exact ih kk (.exit id) σ m jd fr ir h e J s r Q' hm hjd hden hS h1
    | scope=>
     obtain ⟨Q',h1,rfl⟩:=hfr;exact ih kk (.exit id) σ m jd fr ir h e J s r Q' hm hjd hden hS h1
    | block i=>
     obtain ⟨Q',h1,rfl⟩:=hfr;simp only at h
     show blockK i Q' (.exit id) s
     unfold blockK;simp only
     split at h
     · rename_i hi;have hi':i=id:=by simpa using hi
       rw[if_pos hi'.symm];exact ih kk .norm σ m jd fr ir h e J s r Q' hm hjd hden hS h1
     · rename_i hi;have hi':¬ i=id:=by simpa using hi
       rw[if_neg (fun he=>hi' he.symm)]
       exact ih kk (.exit id) σ m jd fr ir h e J s r Q' hm hjd hden hS h1
    | jmp lv base k σ2=>
     obtain ⟨Q',K,f,h1,rfl,h3,h4,h5,h6⟩:=hfr;exact ih kk (.exit id) σ m jd fr ir h e J s r Q' hm hjd hden hS h1
    | rnd kko lv base k σ2=>
     obtain ⟨Q',I,j,f,s0,i,h1,rfl,hkk,h3,h4,h5,h6,h7,h8,h9⟩:=hfr;have hS':=Stab.rest (o:=e.drop base) h8 (by rw[List.take_append_drop];exact hS)
     rw[List.take_append_drop] at hS';exact ⟨s,.refl _ _,ih kko (.exit id) (σ2.rest σ) m jd fr ir h e J _ r Q' hm hjd hden hS' h1⟩
  | ret=>
   simp only[gen] at h;cases fr with
   | nil=>
    simp only[Option.map_eq_some_iff] at h;obtain ⟨A,hA,rfl⟩:=h;simp only[den] at hden;cases hden;subst hm;obtain ⟨_,_,h3⟩:=qot hS hT hA;obtain ⟨rfl,_,hfr⟩:=hfr;exact hfr _ _ (h3 .ret (.inr rfl))
   | cons f fr=>
    cases f with
    | seq c ann=>
     obtain ⟨Q',h1,rfl⟩:=hfr;exact ih kk .ret σ m jd fr ir h e J s r Q' hm hjd hden hS h1
    | block i=>
     obtain ⟨Q',h1,rfl⟩:=hfr;exact ih kk .ret σ m jd fr ir h e J s r Q' hm hjd hden hS h1
    | scope=>
     obtain ⟨Q',h1,rfl⟩:=hfr;exact ih kk .ret σ m jd fr ir h e J s r Q' hm hjd hden hS h1
    | jmp lv base k σ2=>
     obtain ⟨Q',K,f,h1,rfl,h3,h4,h5,h6⟩:=hfr;exact ih kk .ret σ m jd fr ir h e J s r Q' hm hjd hden hS h1
    | rnd kko lv base k σ2=>
     obtain ⟨Q',I,j,f,s0,i,h1,rfl,hkk,h3,h4,h5,h6,h7,h8,h9⟩:=hfr;have hS':=Stab.rest (o:=e.drop base) h8 (by rw[List.take_append_drop];exact hS)
     rw[List.take_append_drop] at hS';exact ⟨s,.refl _ _,ih kko .ret (σ2.rest σ) m jd fr ir h e J _ r Q' hm hjd hden hS' h1⟩
end
end Am

namespace Am
open Go
variable {P:Program} {G:Glob}
def iniSS (sg:Sig) (n:Nat):SS:={ tm:=sg.args,H:=sg.Hin.map some,nx:=sg.Hin.length,n:=n }
def IR.ok (ns:Nat→Nat) (m:Nat) (ar:List Nat):IR→Bool
 | .op p args k=>p.okP&&args.all (SA.ok m)&&k.ok ns (m+p.nout) ar
 | .ite _ a b=>a.ok ns m ar&&b.ok ns m ar
 | .isf _ _ a b=>a.ok ns m ar&&b.ok ns m ar
 | .call i n _ _ args k=>args.all (SA.ok m)&&args.length == ns i&&k.ok ns (m+n) ar
 | .letj n body rest=>body.ok ns m (ar++[n])&&rest.ok ns (m+n) ar
 | .loop n init body=>init.all (SA.ok m)&&init.length == n&&body.ok ns (m+n) (ar++[n])
 | .jump j args=>args.all (SA.ok m)&&(match ar[j]? with|some n=>args.length == n|none=>false)
 | .ret args=>args.all (SA.ok m)
 | .fail=>true
def JWF (ar:List Nat) (J:List PF):Prop:=ar.length=J.length∧∀ (j:Nat) (f:PF) (n:Nat),J[j]? = some f→ar[j]? = some n→∀ vs r,vs.length=n→EWF vs→f vs=some r→EWF r
theorem JWF.snoc {ar:List Nat} {J:List PF} (h:JWF ar J) {f:PF} {n:Nat} (hf:∀ vs r,vs.length=n→EWF vs→f vs=some r→EWF r):JWF (ar++[n]) (J++[f]):=by
 obtain ⟨h1,h2⟩:=h;refine ⟨by simp[h1],fun j g k hg hk=>?_⟩
 by_cases hj:j<J.length
 · rw[List.getElem?_append_left hj] at hg;rw[List.getElem?_append_left (by omega)] at hk
   exact h2 j g k hg hk
 · rw[List.getElem?_append_right (by omega)] at hg
   rw[List.getElem?_append_right (by omega)] at hk
   by_cases h0:j-J.length=0
   · rw[h1,h0] at hk;rw[h0] at hg;simp at hg hk;subst hg;subst hk;exact hf
   · rw[List.getElem?_eq_none (by simp;omega)] at hg;simp at hg
theorem qteb {R:Nat→PF} {ns:Nat→Nat} (hR:∀ i a o,a.length=ns i→EWF a→R i a=some o→EWF o):∀ (ir:IR) {e:Env} {J:List PF} {ar:List Nat} {r:List D},ir.ok ns e.length ar=true→EWF e→JWF ar J→den R ir e J=some r→EWF r:=by
 intro ir
 induction ir with
 | op p args k ih=>
  intro e J ar r hok he hJ h;simp only[IR.ok,Bool.and_eq_true] at hok;simp only[den] at h
  split at h
  · rename_i o ho;exact ih (by simp[PO.eval_len ho];exact hok.2) (he.append (PO.eval_wf hok.1.1 (he.map hok.1.2) ho)) hJ h
  · simp at h
 | ite c a b iha ihb=>
  intro e J ar r hok he hJ h;simp only[IR.ok,Bool.and_eq_true] at hok;simp only[den] at h
  split at h
  · exact iha hok.1 he hJ h
  · exact ihb hok.2 he hJ h
  · simp at h
 | isf c f a b iha ihb=>
  intro e J ar r hok he hJ h;simp only[IR.ok,Bool.and_eq_true] at hok;simp only[den] at h
  split at h
  · exact iha hok.1 he hJ h
  · exact ihb hok.2 he hJ h
 | call i n sc sl args k ih=>
  intro e J ar r hok he hJ h;simp only[IR.ok,Bool.and_eq_true] at hok;simp only[den] at h
  split at h
  · rename_i o ho
    split at h
    · rename_i hn;exact ih (by simp[hn.1];exact hok.2) (he.append (hR i _ o (by simpa using hok.1.2) (he.map hok.1.1) ho)) hJ h
    · simp at h
  · simp at h
 | letj n body rest ihb ihr=>
  intro e J ar r hok he hJ h;simp only[IR.ok,Bool.and_eq_true] at hok;simp only[den] at h;exact ihb hok.1 he (hJ.snoc fun vs r hl hv hr=>ihr (by simp[hl];exact hok.2) (he.append hv) hJ hr) h
 | loop n init body ih=>
  intro e J ar r hok he hJ h;simp only[IR.ok,Bool.and_eq_true,beq_iff_eq] at hok;simp only[den] at h;obtain ⟨k,hk⟩:=qlf h
  have key:∀ k vs r,vs.length=n→EWF vs→iter (fun L vs=>den R body (e++vs) (J++[L])) k vs=some r→EWF r:=by
   intro k
   induction k with
   | zero=>intro vs r _ _ h;simp[iter] at h
   | succ k ihk=>
    intro vs r hl hv h;simp only[iter] at h;exact ih (by simp[hl];exact hok.2) (he.append hv) (hJ.snoc ihk) h
  exact key k _ _ (by simp[hok.1.2]) (he.map hok.1.1) hk
 | jump j args=>
  intro e J ar r hok he hJ h;simp only[IR.ok,Bool.and_eq_true] at hok;simp only[den] at h
  split at h
  · rename_i f hf;have h2:=hok.2
    split at h2
    · rename_i n hn;exact hJ.2 j f n hf hn _ _ (by simpa using h2) (he.map hok.1) h
    · simp at h2
  · simp at h
 | ret args=>
  intro e J ar r hok he hJ h;simp only[den] at h;cases h;exact he.map hok
 | fail=>intro e J ar r _ _ _ h;simp[den] at h
def ninOf (sigs:List Sig) (i:Nat):Nat:=match sigs[i]? with|some s=>s.nin|none=>0
def Ann.txt0:Ann→Ann
 | .g _ x=>x
 | x=>x
def Ann.backs:Ann→List (FuncId × Nat)
 | .g ps _=>ps
 | _=>[]
def Ann.fns (a:Ann):List Nat:=match a.txt0 with
 | .f xs _=>xs
 | _=>[]
def Ann.txt (a:Ann):Ann:=match a.txt0 with
 | .f _ x=>x
 | x=>x
def AnnOK (P:Program) (a:Ann):Prop:=∀ p∈a.backs,BackOK P p.1 p.2
theorem AnnOK.nil {P:Program} {a:Ann} (h:a.backs=[]:=by rfl):AnnOK P a:=fun p hp=>by rw[h] at hp;cases hp
theorem qbo:∀ {l:List (FuncId × Nat)} {f:FuncId} {sz:Nat},backOf l f=some sz→(f,sz)∈l
 | [],_,_,h=>by simp[backOf] at h
 | p::l,f,sz,h=>by
  simp only[backOf] at h
  split at h
  · rename_i hp;simp only[Option.some.injEq] at h;have:p.1=f:=by simpa using hp
    subst h;subst this;exact List.mem_cons_self
  · exact List.mem_cons_of_mem _ (qbo h)
def readFn (T:Tab) (SG:SGlob) (sigs:List Sig) (fuel:Nat) (sg:Sig) (fn:Func) (ann:Ann):Option IR:=match fn.body with
 | none=>none
 | some body=>
  if SS.okB sg.nin (iniSS sg fn.ntmps)&&Nat.ble sg.args.length fn.ntmps && !(fn.name == "runtime.NumGoroutine")&&sg.kp.isEmpty then
   (match gen { T,SG,sigs,sig:=sg,fn,fns:=ann.fns,mixed:=true,backs:=ann.backs } sg.Hin.length fuel (.code body ann.txt) (iniSS sg fn.ntmps) sg.nin 0 [] with
   | some x=>if x.ok (ninOf sigs) sg.nin [] then some x else none
   | none=>none)
  else none
theorem qjnb (l:List SV):∀ t,getS l t=l.getD t .junk:=by
 induction l with
 | nil=>intro t;cases t<;>rfl
 | cons a l ih=>intro t;cases t with
  | zero=>rfl
  | succ t=>simpa [getS] using ih t
theorem qvdb {T:Tab} {SG:SGlob} {sigs:List Sig} {fuel:Nat} {sg:Sig} {fn:Func} {ann:Ann} {x:IR} (hT:TOK P T) (hG:GOK G SG) (hmix:P.follows .mixedOrders=true) {R:Nat→PF} (hR:∀ i a o,a.length=ninOf sigs i→EWF a→R i a=some o→EWF o)
 (hsig:∀ (i:Nat) (s:Sig),sigs[i]? = some s→SigOK P G (R i) s) (hf:P.funcs[sg.f]? = some fn) (hann:AnnOK P ann) (h:readFn T SG sigs fuel sg fn ann=some x):SigOK P G (fun a=>den R x a []) sg:=by
 unfold readFn at h
 split at h
 · simp at h
 · rename_i body hb
   split at h
   · rename_i hc;simp only[Bool.and_eq_true,Bool.not_eq_true'] at hc;obtain ⟨⟨⟨c1,c2⟩,c3⟩,c4⟩:=hc
     split at h
     · rename_i x' hx
       split at h
       · rename_i hok;cases h;intro ins outs hwf hl hsl hr hno
         have hS:Sat ins (iniSS sg fn.ntmps) ⟨iniA (SV.instL ins (lnL ins sg.Hin) sg.args) fn.ntmps,hOf (hIn ins sg.Hin),(hIn ins sg.Hin).length,fn.ntmps⟩:=by
          refine ⟨hwf,fun t=>by rw[hl];exact qqib c1 t,fun b k hk=>by rw[hl];exact qfac c1 hk,fun b k hk=>?_,⟨rfl,by simp[iniSS,SS.inst,hIn],fun t=>?_,fun b=>?_⟩⟩
          · have hk':getB (sg.Hin.map some) b=some k:=hk;rw[qal] at hk';exact hsl k (List.mem_of_getElem? hk')
          · show Wk (iniA _ _ t) ((getS sg.args t).inst ins (lnOf ins (sg.Hin.map some)))
            rw[qjnb,List.getD_eq_getElem?_getD]
            by_cases ht:t<sg.args.length
            · rw[List.getElem?_eq_getElem ht];unfold iniA;rw[List.getD_eq_getElem?_getD,List.getElem?_append_left (by rw[qx];exact ht),SV.instL_map,List.getElem?_map,List.getElem?_eq_getElem ht]
              exact .refl _
            · rw[List.getElem?_eq_none (by omega)];exact .junk _
          · show WkO (hOf (hIn ins sg.Hin) b) ((getB (sg.Hin.map some) b).map (·.inst ins (lnOf ins (sg.Hin.map some))))
            rw[qal];unfold hOf hIn;rw[List.getElem?_map];cases sg.Hin[b]? with
            | none=>trivial
            | some k=>exact ⟨rfl,rfl,rfl,rfl,.refl _⟩
         have hk:(hIn ins sg.Hin).length=sg.Hin.length:=by simp[hIn]
         refine ⟨qteb hR x (ar:=[]) (by rw[hl];exact hok) hwf ⟨rfl,fun j f n hj=>by simp at hj⟩ hr,CC.intro hf hb c3 (by rw[qx];exact Nat.le_of_ble_eq_true c2) ?_,fun i hi=>by rw[List.isEmpty_iff.1 c4] at hi;simp[inL] at hi⟩
         have:=qdfb (P:=P) (G:=G) hT hG (fun _=>hmix) hsig (fun f sz hb=>hann _ (qbo hb)) fuel _ (.code body ann.txt) _ _ _ [] x hx ins [] _ outs
          (fun e s=>∃ s',Ent sg.Hin.length s s'∧Fin P fn sg.Hin.length (hIn outs sg.Hout) (sg.res.inst outs (lnL outs sg.Hout)) e s') hl rfl hr hS
          ⟨rfl,fun ex s s' he ⟨s2,h1,h2⟩=>⟨s2,he.trans h1,h2⟩,fun ex s hfin=>⟨s,.refl _ _,hfin⟩⟩
         rw[hk] at this ⊢;exact this
       · simp at h
     · simp at h
   · simp at h
structure TabOK (P:Program) (G:Glob) (T:Tab) (SG:SGlob) (sigs:List Sig) (tb:Nat→TE):Prop where
 ir:∀ (i:Nat) (x:IR),tb i = .ir x→∃ sg fn ann fuel,sigs[i]? = some sg∧P.funcs[sg.f]? = some fn∧readFn T SG sigs fuel sg fn ann=some x∧AnnOK P ann
 ext:∀ (i:Nat) (E:PF),tb i = .ext E→(∀ a o,a.length=ninOf sigs i→EWF a→E a=some o→EWF o)∧∀ sg,sigs[i]? = some sg→SigOK P G E sg
theorem qcac {T:Tab} {SG:SGlob} {sigs:List Sig} {tb:Nat→TE} (hT:TOK P T) (hG:GOK G SG) (hmix:P.follows .mixedOrders=true) (h:TabOK P G T SG sigs tb) :
 ∀ n,(∀ i a o,a.length=ninOf sigs i→EWF a→runN tb n i a=some o→EWF o)∧∀ (i:Nat) (sg:Sig),sigs[i]? = some sg→SigOK P G (runN tb n i) sg:=by
 intro n
 induction n with
 | zero=>exact ⟨fun i a o _ _ hr=>by simp[runN] at hr,fun i sg _ ins outs _ _ _ hr=>by simp[runN] at hr⟩
 | succ n ih=>
  obtain ⟨ih1,ih2⟩:=ih;refine ⟨fun i a o hl ha hr=>?_,fun i sg hsg=>?_⟩
  · simp only[runN] at hr;cases ht:tb i with
    | ext E=>rw[ht] at hr;exact (h.ext i E ht).1 a o hl ha hr
    | ir x=>
     rw[ht] at hr;obtain ⟨sg,fn,ann,fuel,h1,h2,h3,_⟩:=h.ir i x ht;unfold readFn at h3
     split at h3
     · simp at h3
     · split at h3
       · split at h3
         · split at h3
           · rename_i hok;cases h3;have hl':a.length=sg.nin:=by rw[hl];simp[ninOf,h1]
             exact qteb ih1 x (ar:=[]) (by rw[hl'];exact hok) ha ⟨rfl,fun j f n hj=>by simp at hj⟩ hr
           · simp at h3
         · simp at h3
       · simp at h3
  · cases ht:tb i with
    | ext E=>
     have:runN tb (n+1) i=E:=by simp only[runN,ht]
     rw[this];exact (h.ext i E ht).2 sg hsg
    | ir x=>
     have:runN tb (n+1) i=fun a=>den (runN tb n) x a []:=by simp only[runN,ht]
     rw[this];obtain ⟨sg',fn,ann,fuel,h1,h2,h3,h4⟩:=h.ir i x ht;rw[hsg] at h1;cases h1;exact qvdb hT hG hmix ih1 ih2 h2 h4 h3
def tfOf (P:Program) (t:TypeId):TF:=
 { sz:=tsz P t,bt:=tby P t,ti:=tin P t,tu:=tun P t,agg:=tagg P t,elem:=telem P t,arr:=tarr P t,int:=tint P t,str:=tstr P t,bool:=tbool P t,zero:=tzero P t,
   flds:=(match P.underlying t with|some (.struct fs)=>fs.toList.map (fun f=>(f.offset,f.type))|_=>[]),
   place:=(match P.underlying t with|some (.struct _)=>tplace P t|some (.array n _)=>if Nat.ble n 16 then tplace P t else none|_=>none),eqn:=teqn P t }
theorem qxub (P:Program) (t:TypeId):TFok P t (tfOf P t):=by
 refine ⟨rfl,rfl,rfl,rfl,rfl,rfl,rfl,rfl,rfl,rfl,rfl,fun f x h=>?_,fun pl h=>?_,rfl⟩
 · simp only[tfOf] at h;unfold tfield
   split at h
   · rename_i fs hu;simp only[hu];rw[List.getElem?_map,Array.getElem?_toList] at h;exact h
   · simp at h
 · simp only[tfOf] at h
   split at h
   · exact h
   · split at h
     · exact h
     · simp at h
   · simp at h
theorem qtdb {T:Tab} (h:T.map (fun p=>tfOf P p.1)=T.map (·.2)):TOK P T:=by
 intro t tf ht
 have key:∀ {T:Tab},T.map (fun p=>tfOf P p.1)=T.map (·.2)→T.get t=some tf→tfOf P t=tf:=by
  intro T
  induction T with
  | nil=>intro _ h;simp[Tab.get] at h
  | cons p T ih=>
   intro h h';simp only[List.map_cons,List.cons.injEq] at h;simp only[Tab.get] at h'
   split at h'
   · rename_i hp;have hp':p.1=t:=by simpa using hp
     simp only[Option.some.injEq] at h';rw[← hp',h.1,h']
   · exact ih h.2 h'
 rw[← key h ht];exact qxub P t
theorem qnd {T:Tab} {SG:SGlob} {sigs:List Sig} {tb:Nat→TE} (hT:TOK P T) (hG:GOK G SG) (hmix:P.follows .mixedOrders=true) (h:TabOK P G T SG sigs tb) {i:Nat} {sg:Sig} (hsg:sigs[i]? = some sg)
 {ins outs:Env} (hwf:EWF ins) (hl:ins.length=sg.nin) (hsl:∀ k∈sg.Hin,∃ xs,k.d.val ins = .sl xs) (hr:run tb i ins=some outs) (hn:outs.length=sg.nout) :
 CC P G sg.f (hIn ins sg.Hin) (SV.instL ins (lnL ins sg.Hin) sg.args) (hIn outs sg.Hout) (sg.res.inst outs (lnL outs sg.Hout)):=by
 obtain ⟨n,hn'⟩:=qgyb hr;exact ((qcac hT hG hmix h n).2 i sg hsg ins outs hwf hl hsl hn' hn).2.1
end Am
