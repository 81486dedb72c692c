/- The abstract machine and its reader: lemmas. -/
import Derived.Test.YtoalfckdmoahoaaGreatDoorAmDraw3
set_option linter.unusedSimpArgs false
set_option linter.unusedVariables false
set_option linter.unusedSectionVars false
namespace Am
open Go
variable {P:Program} {G:Glob} {w w':World} {C C':Com} {ρ ρ':Rho} {H H':Heap}
def regE (P:Program) (G:Glob) (k:Nat) (K:Sta→Prop):List SO→Sta→Prop
 | [],s=>∃ s',Ent k s s'∧K s'
 | o::rest,s=>∃ s',Ent k s s'∧dstOK s'.n o.dst∧
  match wantedS s'.tm o.g with
  | some true=>opK P G s'.nx (evA G s'.tm) s'.H o.op fun r=>regE P G k K rest (s'.app o.dst r)
  | some false=>regE P G k K rest (s'.skip o.dst)
  | none=>False
theorem qxz {k:Nat} {K:Sta→Prop} {l:List SO} {s s':Sta} (he:Ent k s s') (h:regE P G k K l s'):regE P G k K l s:=by
 cases l with
 | nil=>obtain ⟨s1,h1,h2⟩:=h;exact ⟨s1,he.trans h1,h2⟩
 | cons o l=>obtain ⟨s1,h1,h2⟩:=h;exact ⟨s1,he.trans h1,h2⟩
theorem qwa {rd:Option Nat} {n:Nat} {B:Beg} {ops:Array Oper} {K:Sta→Prop} {Q:Exit→Act→World→Prop} (hQ:∀ s a w,K s→InvE G B s a w→Q .normal a w) :
 ∀ (l:List Oper) (s:Sta) (a:Act) (w:World),InvE G B s a w→regE P G B.Hin.length K (l.map (slim1 ops)) s→wpListIn (Fe rd) n P ops Q l a w:=by
 intro l
 induction l with
 | nil=>
  intro s a w hi h;obtain ⟨s',he,hk⟩:=h;exact hQ s' a w hk (he G B a w rfl hi)
 | cons o rest ih=>
  intro s a w hi h;obtain ⟨s',he,hd,h⟩:=h;have hi':=he G B a w rfl hi;obtain ⟨C,ρ,hi'⟩:=hi';unfold wpListIn;refine qqn (K:=regE P G B.Hin.length K (rest.map (slim1 ops))) hi' ⟨hd,?_⟩ fun s1 a' w' hk hi1=>ih s1 a' w' hi1 hk
  rw[qff];exact h
def post (G:Glob) (B:Beg) (Q:Exit→Sta→Prop):Exit→Act→World→Prop:=fun e a w=>∃ s,Q e s∧InvE G B s a w
def noRange:Code→Bool
 | .seq a b=>noRange a&&noRange b
 | .cond _ a b=>noRange a&&noRange b
 | .block _ b=>noRange b
 | .loop b=>noRange b
 | .scope b=>noRange b
 | .rangeFunc ..=>false
 | _=>true
def awp (P:Program) (G:Glob) (k:Nat):Code→(Exit→Sta→Prop)→Sta→Prop
 | .skip,Q,s=>Q .normal s
 | .label _,Q,s=>Q .normal s
 | .region _ ops false,Q,s=>regE P G k (Q .normal) (slimL ops) s
 | .region _ ops true,Q,s=>P.follows .mixedOrders=true∧regD P G (fun s1 log=>∃ m,okD ops s.nx log m=true∧Q .normal { s1 with nx:=m }) (slimL ops) s.nx s []
 | .seq a b,Q,s=>awp P G k a (fun e s=>match e with | .normal=>∃ s',Ent k s s'∧awp P G k b Q s'|e=>Q e s) s
 | .cond c a b,Q,s=>match evA G s.tm c with
  | .d (.bool true)=>awp P G k a Q s
  | .d (.bool false)=>awp P G k b Q s
  | _=>False
 | .block id b,Q,s=>awp P G k b (fun e s=>match e with | .exit i=>if i=id then Q .normal s else Q (.exit i) s|e=>Q e s) s
 | .loop b,Q,s=>∃ (I:Sta→Prop) (μ:Sta→Nat),(∃ s',Ent k s s'∧I s')∧
  ∀ s,I s→awp P G k b (fun e s1=>match e with | .normal=>∃ s',Ent k s1 s'∧I s'∧μ s' < μ s|e=>Q e s1) s
 | .exit id,Q,s=>Q (.exit id) s
 | .ret,Q,s=>Q .ret s
 | .scope b,Q,s=>awp P G k b (fun e s=>match e with | .goto _=>False|e=>Q e s) s
 | .rangeFunc g ps x y,Q,s=>∀ (B:Beg) (a:Act) (w:World),B.Hin.length=k→B.nm=false→InvE G B s a w→(Code.rangeFunc g ps x y).wpIn (Fe none) 5 P (post G B Q) a w
 | _,_,_=>False
theorem qdd {b:Frame} {a:Act} {k:List Item} {cs:List Frame} {w:World} {c:Code}:step P (lone (b.atR a (.code (.scope c)::k)) cs w) = .next (lone (b.atR a (.code c :: .inScope c::k)) cs w):=
 step_lone_go (by simp[stepG,stepG.exec,Frame.atR])
theorem qfq {b:Frame} {a:Act} {k:List Item} {cs:List Frame} {w:World} {c:Code}:step P (lone (b.atR a (.inScope c::k)) cs w) = .next (lone (b.atR a k) cs w):=
 step_lone_go (by simp[stepG,stepG.exec,Frame.atR])
theorem qih {F:Fence} {n:Nat} {c:Code} {Q:Exit→Act→World→Prop} {a:Act} {w:World} (h:c.wpIn F n P (Exit.noGoto Q) a w):(Code.scope c).wpIn F n P Q a w:=by
 intro b k cs hro hb hr;have h0:(lone (b.atR a (.code (.scope c)::k)) cs w).fenced P F:=fenced_calm hb hr rfl;obtain ⟨e,a₁,w₁,hq,harr⟩:=h b (.inScope c::k) cs hro hb hr;cases e with
 | normal=>exact ⟨.normal,a₁,w₁,hq,.head h0 qdd (StepsIn.trans harr (.one (fenced_calm hb hr rfl) qfq))⟩
 | exit id=>exact ⟨.exit id,a₁,w₁,hq,fun k' hk=>.head h0 qdd (harr.1 k' (by simpa [exitTo] using hk)),fun hr' hk=>let ⟨k₁,h1,h2⟩:=harr.2 hr' (by simpa [exitTo] using hk);⟨k₁,h1,.head h0 qdd h2⟩⟩
 | goto l=>exact hq.elim
 | ret=>exact ⟨_,a₁,w₁,hq,.of_steps (.one h0 qdd) harr⟩
 | panic ch=>exact ⟨_,a₁,w₁,hq,.of_steps (.one h0 qdd) harr⟩
 | outgrown=>exact ⟨_,a₁,w₁,hq,.of_steps (.one h0 qdd) harr⟩
theorem qei {rd:Option Nat} {n:Nat} {B:Beg}:∀ (c:Code),(noRange c=true∨(rd=none∧n=5∧B.nm=false))→∀ (Q:Exit→Sta→Prop) (s:Sta) (a:Act) (w:World),InvE G B s a w→awp P G B.Hin.length c Q s→c.wpIn (Fe rd) n P (post G B Q) a w:=by
 intro c
 induction c with
 | skip=>intro _ Q s a w hi h;exact wpIn_skip ⟨s,h,hi⟩
 | label l=>intro _ Q s a w hi h;exact wpIn_label ⟨s,h,hi⟩
 | region id ops draw=>
  intro _ Q s a w hi h;cases draw with
  | false=>
   refine wpIn_region_list ?_;exact qwa (fun s a w hk hi=>⟨s,hk,hi⟩) _ _ _ _ hi h
  | true=>exact qtkb h.1 hi h.2 fun s a w hk hi=>⟨s,hk,hi⟩
 | seq x y ihx ihy=>
  intro hr Q s a w hi h
  have hr':(noRange x=true∨(rd=none∧n=5∧B.nm=false))∧(noRange y=true∨(rd=none∧n=5∧B.nm=false)):=by
   rcases hr with hr|hr
   · simp only[noRange,Bool.and_eq_true] at hr;exact ⟨.inl hr.1,.inl hr.2⟩
   · exact ⟨.inr hr,.inr hr⟩
  refine wpIn_seq (wpIn_mono (ihx hr'.1 _ s a w hi h) ?_);rintro e a w ⟨s,hq,hi⟩;cases e with
  | normal=>
   obtain ⟨s',he,hq⟩:=hq;exact ihy hr'.2 Q s' a w (he G B a w rfl hi) hq
  | _=>exact ⟨s,hq,hi⟩
 | cond c x y ihx ihy=>
  intro hr Q s a w hi h
  have hr':(noRange x=true∨(rd=none∧n=5∧B.nm=false))∧(noRange y=true∨(rd=none∧n=5∧B.nm=false)):=by
   rcases hr with hr|hr
   · simp only[noRange,Bool.and_eq_true] at hr;exact ⟨.inl hr.1,.inl hr.2⟩
   · exact ⟨.inr hr,.inr hr⟩
  obtain ⟨C,ρ,hi'⟩:=hi;have hc:=hi'.rel.ev hi'.glob c;simp only[awp] at h
  split at h
  · rename_i he;rw[he] at hc;exact wpIn_cond_true (qcf hc) (ihx hr'.1 Q s a w ⟨C,ρ,hi'⟩ h)
  · rename_i he;rw[he] at hc;exact wpIn_cond_false (qcf hc) (ihy hr'.2 Q s a w ⟨C,ρ,hi'⟩ h)
  · exact h.elim
 | block id b ih=>
  intro hr Q s a w hi h;refine wpIn_block (wpIn_mono (ih hr _ s a w hi h) ?_);rintro e a w ⟨s,hq,hi⟩;cases e with
  | exit i=>
   simp only[Exit.inBlock];simp only at hq
   split at hq
   · rename_i h;rw[if_pos h];exact ⟨s,hq,hi⟩
   · rename_i h;rw[if_neg h];exact ⟨s,hq,hi⟩
  | _=>exact ⟨s,hq,hi⟩
 | loop b ih=>
  intro hrng Q s a w hi h;obtain ⟨I,μ,⟨s0,he0,hI0⟩,hround⟩:=h
  have key:∀ (j:Nat) (a:Act) (w:World) (s:Sta),I s→InvE G B s a w→μ s=j→∀ (bb:Frame) (kk:List Item) (cs:List Frame),
   bb.roundOf=(Fe rd).round→(Fe rd).fn bb.fn→(Fe rd).room (cs.length+1+n)→∃ e a' w',post G B Q e a' w'∧ArrivesIn (Machine.fenced P (Fe rd)) P (lone (bb.atR a (.code b :: .inLoop b::kk)) cs w) bb kk cs e a' w':=by
   intro j
   induction j using Nat.strongRecOn with
   | _ j ihn=>
    intro a w s hI hi hn bb kk cs hro hb hr;obtain ⟨e,a1,w1,hq,harr⟩:=ih hrng _ s a w hi (hround s hI) bb (.inLoop b::kk) cs hro hb hr;obtain ⟨s1,hq,hi1⟩:=hq;cases e with
    | normal=>
     obtain ⟨s2,he2,hI2,hlt⟩:=hq;have hi2:=he2 G B a1 w1 rfl hi1;obtain ⟨e2,a2,w2,hq2,harr2⟩:=ihn (μ s2) (by omega) a1 w1 s2 hI2 hi2 rfl bb kk cs hro hb hr
     exact ⟨e2,a2,w2,hq2,.of_steps (StepsIn.trans harr (.one (fenced_calm hb hr rfl) stepR_inLoop)) harr2⟩
    | exit id=>exact ⟨_,a1,w1,⟨s1,hq,hi1⟩,.pass (x:=.inLoop b) rfl (fun _ _=>.inl (by simp)) harr⟩
    | goto l=>exact ⟨_,a1,w1,⟨s1,hq,hi1⟩,.pass (x:=.inLoop b) rfl (fun _ _=>.inl (by simp)) harr⟩
    | ret=>exact ⟨_,a1,w1,⟨s1,hq,hi1⟩,.pass (x:=.inLoop b) rfl (fun _ _=>.inl (by simp)) harr⟩
    | panic ch=>exact ⟨_,a1,w1,⟨s1,hq,hi1⟩,.pass (x:=.inLoop b) rfl (fun _ _=>.inl (by simp)) harr⟩
    | outgrown=>exact ⟨_,a1,w1,⟨s1,hq,hi1⟩,.pass (x:=.inLoop b) rfl (fun _ _=>.inl (by simp)) harr⟩
  intro bb kk cs hro hb hr;obtain ⟨e,a',w',hq,harr⟩:=key _ a w s0 hI0 (he0 G B a w rfl hi) rfl bb kk cs hro hb hr;exact ⟨e,a',w',hq,.of_steps (.one (fenced_calm hb hr rfl) stepR_loop) harr⟩
 | exit id=>intro _ Q s a w hi h;exact wpIn_exit ⟨s,h,hi⟩
 | ret=>intro _ Q s a w hi h;exact wpIn_ret ⟨s,h,hi⟩
 | scope b ih=>
  intro hr Q s a w hi h;refine qih (wpIn_mono (ih hr _ s a w hi h) ?_);rintro e a w ⟨s,hq,hi⟩;cases e with
  | goto l=>exact hq.elim
  | _=>exact ⟨s,hq,hi⟩
 | rangeFunc g ps x y=>
  intro hr Q s a w hi h;rcases hr with hr|⟨rfl,rfl,hm⟩
  · cases hr
  · exact h B a w rfl hm hi
 | _=>intro _ Q s a w hi h;exact h.elim
end Am
