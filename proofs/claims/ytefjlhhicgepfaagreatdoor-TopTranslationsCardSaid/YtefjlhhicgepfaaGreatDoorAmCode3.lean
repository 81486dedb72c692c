/- Lemmas. -/
import Derived.Test.YtefjlhhicgepfaaGreatDoorAmDraw3
set_option linter.unusedSimpArgs false
set_option linter.unusedVariables false
set_option linter.unusedSectionVars false
namespace Am
open Go
variable {P:Program}{G:bl}{w w':World}{C C':Com}{ρ ρ':Rho}{H H':ba}
def r7(P:Program)(G:bl)(k:Nat)(K:Sta→Prop):List SO→Sta→Prop
 | [],s=>∃ s',Ent k s s'∧K s'
 | o::rest,s=>∃ s',Ent k s s'∧lc s'.n o.dst∧
  match ed s'.tm o.g with
  | some true=>opK P G s'.nx (evA G s'.tm) s'.H o.op fun r=>r7 P G k K rest (s'.app o.dst r)
  | some false=>r7 P G k K rest (s'.skip o.dst)
  | none=>False
theorem qdz{k:Nat}{K:Sta→Prop}{l:List SO}{s s':Sta}(he:Ent k s s')(h:r7 P G k K l s'):r7 P G k K l s:=by
 cases l with
 | nil=>obtain ⟨s1,h1,h2⟩:=h;exact ⟨s1,he.trans h1,h2⟩
 | cons o l=>obtain ⟨s1,h1,h2⟩:=h;exact ⟨s1,he.trans h1,h2⟩
theorem atg{rd:Option Nat}{n:Nat}{B:Beg}{ops:Array Oper}{K:Sta→Prop}{Q:Exit→Act→World→Prop}(hQ:∀ s a w,K s→md G B s a w→Q .normal a w) :
 ∀ (l:List Oper) (s:Sta) (a:Act) (w:World),md G B s a w→r7 P G B.Hin.length K (l.map (t7 ops)) s→wpListIn (Fe rd) n P ops Q l a w:=by
 intro l
 induction l with
 | nil=>
  intro s a w hi h;obtain ⟨s',he,hk⟩:=h;exact hQ s' a w hk (he G B a w rfl hi)
 | cons o rest ih=>
  intro s a w hi h;obtain ⟨s',he,hd,h⟩:=h;have bn:=he G B a w rfl hi;obtain ⟨C,ρ,bn⟩:=bn;unfold wpListIn;refine a5d (K:=r7 P G B.Hin.length K (rest.map (t7 ops))) bn ⟨hd,?_⟩ fun s1 a' w' hk v6=>ih s1 a' w' v6 hk
  rw[qyn];exact h
def post(G:bl)(B:Beg)(Q:Exit→Sta→Prop):Exit→Act→World→Prop:=fun e a w=>∃ s,Q e s∧md G B s a w
def dx:Code→Bool
 | .seq a b=>dx a&&dx b
 | .cond _ a b=>dx a&&dx b
 | .block _ b=>dx b
 | .loop b=>dx b
 | .scope b=>dx b
 | .rangeFunc ..=>false
 | _=>true
def awp(P:Program)(G:bl)(k:Nat):Code→(Exit→Sta→Prop)→Sta→Prop
 | .skip,Q,s=>Q .normal s
 | .label _,Q,s=>Q .normal s
 | .region _ ops false,Q,s=>r7 P G k (Q .normal) (ow ops) s
 | .region _ ops true,Q,s=>P.follows .mixedOrders=true∧oh P G (fun s1 log=>∃ m,okD ops s.nx log m=true∧Q .normal { s1 with nx:=m }) (ow ops) s.nx s []
 | .seq a b,Q,s=>awp P G k a (fun e s=>match e with | .normal=>∃ s',Ent k s s'∧awp P G k b Q s'|e=>Q e s) s
 | .cond c a b,Q,s=>match evA G s.tm c with
  | .d (.bool true)=>awp P G k a Q s
  | .d (.bool false)=>awp P G k b Q s
  | _=>False
 | .block id b,Q,s=>awp P G k b (fun e s=>match e with | .exit i=>if i=id then Q .normal s else Q (.exit i) s|e=>Q e s) s
 | .loop b,Q,s=>∃ (I:Sta→Prop) (μ:Sta→Nat),(∃ s',Ent k s s'∧I s')∧
  ∀ s,I s→awp P G k b (fun e s1=>match e with | .normal=>∃ s',Ent k s1 s'∧I s'∧μ s' < μ s|e=>Q e s1) s
 | .exit id,Q,s=>Q (.exit id) s
 | .ret,Q,s=>Q .ret s
 | .scope b,Q,s=>awp P G k b (fun e s=>match e with | .goto _=>False|e=>Q e s) s
 | .rangeFunc g ps x y,Q,s=>∀ (B:Beg) (a:Act) (w:World),B.Hin.length=k→md G B s a w→(Code.rangeFunc g ps x y).wpIn (Fe none) 5 P (post G B Q) a w
 | _,_,_=>False
theorem qud{b:Frame}{a:Act}{k:List Item}{cs:List Frame}{w:World}{c:Code}:step P (lone (b.atR a (.code (.scope c)::k)) cs w) = .next (lone (b.atR a (.code c :: .inScope c::k)) cs w):=
 step_lone_go (by simp[stepG,stepG.exec,Frame.atR])
theorem quq{b:Frame}{a:Act}{k:List Item}{cs:List Frame}{w:World}{c:Code}:step P (lone (b.atR a (.inScope c::k)) cs w) = .next (lone (b.atR a k) cs w):=
 step_lone_go (by simp[stepG,stepG.exec,Frame.atR])
theorem qei{F:Fence}{n:Nat}{c:Code}{Q:Exit→Act→World→Prop}{a:Act}{w:World}(h:c.wpIn F n P (Exit.noGoto Q) a w):(Code.scope c).wpIn F n P Q a w:=by
 intro b k cs mn hb hr;have h0:(lone (b.atR a (.code (.scope c)::k)) cs w).fenced P F:=fenced_calm hb hr rfl;obtain ⟨e,a₁,w₁,hq,pn⟩:=h b (.inScope c::k) cs mn hb hr;cases e with
 | normal=>exact ⟨.normal,a₁,w₁,hq,.head h0 qud (StepsIn.trans pn (.one (fenced_calm hb hr rfl) quq))⟩
 | exit id=>exact ⟨.exit id,a₁,w₁,hq,fun k' hk=>.head h0 qud (pn.1 k' (by simpa [exitTo] using hk)),fun ei hk=>let ⟨k₁,h1,h2⟩:=pn.2 ei (by simpa [exitTo] using hk);⟨k₁,h1,.head h0 qud h2⟩⟩
 | goto l=>exact hq.elim
 | ret=>exact ⟨_,a₁,w₁,hq,.of_steps (.one h0 qud) pn⟩
 | panic ch=>exact ⟨_,a₁,w₁,hq,.of_steps (.one h0 qud) pn⟩
 | outgrown=>exact ⟨_,a₁,w₁,hq,.of_steps (.one h0 qud) pn⟩
theorem qzm{rd:Option Nat}{n:Nat}{B:Beg}:∀ (c:Code),(dx c=true∨(rd=none∧n=5))→∀ (Q:Exit→Sta→Prop) (s:Sta) (a:Act) (w:World),md G B s a w→awp P G B.Hin.length c Q s→c.wpIn (Fe rd) n P (post G B Q) a w:=by
 intro c
 induction c with
 | skip=>intro _ Q s a w hi h;exact wpIn_skip ⟨s,h,hi⟩
 | label l=>intro _ Q s a w hi h;exact wpIn_label ⟨s,h,hi⟩
 | region id ops draw=>
  intro _ Q s a w hi h;cases draw with
  | false=>
   refine wpIn_region_list ?_;exact atg (fun s a w hk hi=>⟨s,hk,hi⟩) _ _ _ _ hi h
  | true=>exact aqo h.1 hi h.2 fun s a w hk hi=>⟨s,hk,hi⟩
 | seq x y ihx ihy=>
  intro hr Q s a w hi h
  have ei:(dx x=true∨(rd=none∧n=5))∧(dx y=true∨(rd=none∧n=5)):=by
   rcases hr with hr|hr
   · simp only[dx,Bool.and_eq_true] at hr;exact ⟨.inl hr.1,.inl hr.2⟩
   · exact ⟨.inr hr,.inr hr⟩
  refine wpIn_seq (wpIn_mono (ihx ei.1 _ s a w hi h) ?_);rintro e a w ⟨s,hq,hi⟩;cases e with
  | normal=>
   obtain ⟨s',he,hq⟩:=hq;exact ihy ei.2 Q s' a w (he G B a w rfl hi) hq
  | _=>exact ⟨s,hq,hi⟩
 | cond c x y ihx ihy=>
  intro hr Q s a w hi h
  have ei:(dx x=true∨(rd=none∧n=5))∧(dx y=true∨(rd=none∧n=5)):=by
   rcases hr with hr|hr
   · simp only[dx,Bool.and_eq_true] at hr;exact ⟨.inl hr.1,.inl hr.2⟩
   · exact ⟨.inr hr,.inr hr⟩
  obtain ⟨C,ρ,bn⟩:=hi;have hc:=bn.rel.ev bn.glob c;simp only[awp] at h
  split at h
  · rename_i he;rw[he] at hc;exact wpIn_cond_true (qlj hc) (ihx ei.1 Q s a w ⟨C,ρ,bn⟩ h)
  · rename_i he;rw[he] at hc;exact wpIn_cond_false (qlj hc) (ihy ei.2 Q s a w ⟨C,ρ,bn⟩ h)
  · exact h.elim
 | block id b ih=>
  intro hr Q s a w hi h;refine wpIn_block (wpIn_mono (ih hr _ s a w hi h) ?_);rintro e a w ⟨s,hq,hi⟩;cases e with
  | exit i=>
   simp only[Exit.inBlock];simp only at hq
   split at hq
   · rename_i h;rw[if_pos h];exact ⟨s,hq,hi⟩
   · rename_i h;rw[if_neg h];exact ⟨s,hq,hi⟩
  | _=>exact ⟨s,hq,hi⟩
 | loop b ih=>
  intro a2f Q s a w hi h;obtain ⟨I,μ,⟨s0,ve,hI0⟩,aac⟩:=h
  have key:∀ (j:Nat) (a:Act) (w:World) (s:Sta),I s→md G B s a w→μ s=j→∀ (bb:Frame) (kk:List Item) (cs:List Frame),
   bb.roundOf=(Fe rd).round→(Fe rd).fn bb.fn→(Fe rd).room (cs.length+1+n)→∃ e a' w',post G B Q e a' w'∧ArrivesIn (Machine.fenced P (Fe rd)) P (lone (bb.atR a (.code b :: .inLoop b::kk)) cs w) bb kk cs e a' w':=by
   intro j
   induction j using Nat.strongRecOn with
   | _ j ihn=>
    intro a w s hI hi hn bb kk cs mn hb hr;obtain ⟨e,a1,w1,hq,pn⟩:=ih a2f _ s a w hi (aac s hI) bb (.inLoop b::kk) cs mn hb hr;obtain ⟨s1,hq,v6⟩:=hq;cases e with
    | normal=>
     obtain ⟨s2,he2,hI2,cf⟩:=hq;have hi2:=he2 G B a1 w1 rfl v6;obtain ⟨e2,a2,w2,hq2,aof⟩:=ihn (μ s2) (by omega) a1 w1 s2 hI2 hi2 rfl bb kk cs mn hb hr
     exact ⟨e2,a2,w2,hq2,.of_steps (StepsIn.trans pn (.one (fenced_calm hb hr rfl) stepR_inLoop)) aof⟩
    | exit id=>exact ⟨_,a1,w1,⟨s1,hq,v6⟩,.pass (x:=.inLoop b) rfl (fun _ _=>.inl (by simp)) pn⟩
    | goto l=>exact ⟨_,a1,w1,⟨s1,hq,v6⟩,.pass (x:=.inLoop b) rfl (fun _ _=>.inl (by simp)) pn⟩
    | ret=>exact ⟨_,a1,w1,⟨s1,hq,v6⟩,.pass (x:=.inLoop b) rfl (fun _ _=>.inl (by simp)) pn⟩
    | panic ch=>exact ⟨_,a1,w1,⟨s1,hq,v6⟩,.pass (x:=.inLoop b) rfl (fun _ _=>.inl (by simp)) pn⟩
    | outgrown=>exact ⟨_,a1,w1,⟨s1,hq,v6⟩,.pass (x:=.inLoop b) rfl (fun _ _=>.inl (by simp)) pn⟩
  intro bb kk cs mn hb hr;obtain ⟨e,a',w',hq,pn⟩:=key _ a w s0 hI0 (ve G B a w rfl hi) rfl bb kk cs mn hb hr;exact ⟨e,a',w',hq,.of_steps (.one (fenced_calm hb hr rfl) stepR_loop) pn⟩
 | exit id=>intro _ Q s a w hi h;exact wpIn_exit ⟨s,h,hi⟩
 | ret=>intro _ Q s a w hi h;exact wpIn_ret ⟨s,h,hi⟩
 | scope b ih=>
  intro hr Q s a w hi h;refine qei (wpIn_mono (ih hr _ s a w hi h) ?_);rintro e a w ⟨s,hq,hi⟩;cases e with
  | goto l=>exact hq.elim
  | _=>exact ⟨s,hq,hi⟩
 | rangeFunc g ps x y=>
  intro hr Q s a w hi h;rcases hr with hr|⟨rfl,rfl⟩
  · cases hr
  · exact h B a w rfl hi
 | _=>intro _ Q s a w hi h;exact h.elim
end Am
