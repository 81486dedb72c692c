/- The abstract machine and its reader: lemmas. -/
import Derived.Test.YtnfecjmddbehiaaGreatRng
import Derived.Test.YtnfecjmddbehiaaGreatSe5
set_option linter.unusedSimpArgs false
set_option linter.unusedVariables false
set_option linter.unusedSectionVars false
namespace Am
open Go Go.RowKit
variable {P:Program} {G:Glob}
abbrev Wd:=(Nat→Prop)→World→Prop
structure InvY (G:Glob) (C0:Com) (J:Wd) (s:Sta) (C:Com) (ρ:Rho) (X:Nat→Prop) (a:Act) (W:World):Prop where
 inv:Inv G ⟨W,C,ρ,fullL s.H s.nx,fun _=>none,true⟩ s C ρ a W
 full:∀ b,b<s.nx→(s.H b).isSome=true
 j:J X W
 own:∀ r,OwnRow ρ s.H r→X r
 com:∀ r o,C r o→C0 r o∨X r
def InvYE (G:Glob) (C0:Com) (J:Wd) (s:Sta) (a:Act) (W:World):Prop:=∃ C ρ X,InvY G C0 J s C ρ X a W
def FullS (s:Sta):Prop:=∀ b,b<s.nx→(s.H b).isSome=true
theorem Le.cut {tm:Nat→AV} {H:Heap} {l':List AV} {h':List (Option Blk)} {nx nx' n:Nat} (hn:nx'≤nx) (ht:LeF nx' tm 0 l') (hl':h'.length=nx') (hh:HeapO 0 h' H)
 (hin:h'.all (fun b=>match b with|some b=>b.rows.all (·.all (AV.inK nx'))|none=>true)=true):Sta.Le 0 ⟨tm,H,nx,n⟩ ⟨tl l',hl h',nx',n⟩:=by
 have hg:∀ b (hb:b<nx'),H b=h'[b]'(by omega):=fun b hb=>by
  have:=hh.get b (by omega)
  rwa [Nat.zero_add] at this
 refine ⟨rfl,hn,Nat.zero_le _,fun t=>?_,?_,fun b blk hb hbb row hrow=>?_⟩
 · have:=ht.get t;rw[Nat.zero_add] at this;exact this
 · funext b
   show getO h' b=cutH nx' H b
   unfold cutH;rw[qqn]
   split
   · rename_i hb;rw[hg b hb,List.getElem?_eq_getElem (by omega)];rfl
   · rw[List.getElem?_eq_none (by omega)];rfl
 · have hbb':H b=some blk:=hbb;rw[hg b hb] at hbb';simp only[List.all_eq_true] at hin;have hb0:b<nx':=hb;have:=hin _ (List.getElem_mem (show b<h'.length by omega))
   rw[hbb'] at this;simp only[List.all_eq_true] at this ⊢;exact this row hrow
theorem FullS.hl {t:Nat→AV} {h:List (Option Blk)} {nx n:Nat} (h1:h.length=nx) (h2:h.all (·.isSome)=true):FullS ⟨t,hl h,nx,n⟩:=by
 intro b hb
 show (getO h b).isSome=true
 have hb':b<h.length:=by rw[h1];exact hb
 rw[qqn,List.getElem?_eq_getElem hb',Option.getD_some];exact List.all_eq_true.1 h2 _ (List.getElem_mem hb')
theorem Ent.box {k:Nat} {s:Sta} {t b:Nat} {blk:Blk} {row:List D} (ht:s.tm t = .ptr b 1 0 0) (hb:s.H b=some blk) (hr:blk.rows=[row.map .d]):Ent k s { s with tm:=putT s.tm t (.eptr row),H:=pinH [b] s.H }:=by
 refine (Ent.pin [b]).trans (Ent.wh ⟨rfl,rfl,fun x=>?_,fun x=>?_⟩)
 · show Wh (pinH [b] s.H) (s.tm x) (putT s.tm t (.eptr row) x)
   unfold putT
   split
   · rename_i h;subst h;rw[ht];exact Wh.ep (blk:=pinB blk) (by simp[pinH,hb]) rfl hr
   · exact .refl _
 · show (pinH [b] s.H x=none∧pinH [b] s.H x=none)∨∃ y y0,pinH [b] s.H x=some y∧pinH [b] s.H x=some y0∧WhB _ y y0
   cases h:pinH [b] s.H x with
   | none=>exact .inl ⟨rfl,rfl⟩
   | some y=>exact .inr ⟨y,y,rfl,rfl,WhB.refl _⟩
theorem Ent.frz {k:Nat} {s:Sta} {t b:Nat} {blk:Blk} {n:Nat} {xs:List (List D)} (ht:s.tm t = .own b n 0 n) (hb:s.H b=some blk) (hr:blk.rows=xs.map (·.map .d)) (hn:n=xs.length):Ent k s { s with tm:=putT s.tm t (.d (.sl xs)),H:=pinH [b] s.H }:=by
 subst hn;refine (Ent.pin [b]).trans (Ent.wh ⟨rfl,rfl,fun x=>?_,fun x=>?_⟩)
 · show Wh (pinH [b] s.H) (s.tm x) (putT s.tm t (.d (.sl xs)) x)
   unfold putT
   split
   · rename_i h;subst h;rw[ht];exact Wh.frz (blk:=pinB blk) (by simp[pinH,hb]) rfl hr
   · exact .refl _
 · show (pinH [b] s.H x=none∧pinH [b] s.H x=none)∨∃ y y0,pinH [b] s.H x=some y∧pinH [b] s.H x=some y0∧WhB _ y y0
   cases h:pinH [b] s.H x with
   | none=>exact .inl ⟨rfl,rfl⟩
   | some y=>exact .inr ⟨y,y,rfl,rfl,WhB.refl _⟩
theorem Ent.nil {k:Nat} {s:Sta} {t:Nat} (ht:s.tm t = .nils):Ent k s { s with tm:=putT s.tm t (.d (.sl [])) }:=by
 refine Ent.wh ⟨rfl,rfl,fun x=>?_,fun x=>?_⟩
 · show Wh s.H (s.tm x) (putT s.tm t (.d (.sl [])) x)
   unfold putT
   split
   · rename_i h;subst h;rw[ht];intro w C ρ v _ h;cases h;exact .d _ _ .nil
   · exact .refl _
 · show (s.H x=none∧s.H x=none)∨∃ y y0,s.H x=some y∧s.H x=some y0∧WhB _ y y0
   cases h:s.H x with
   | none=>exact .inl ⟨rfl,rfl⟩
   | some y=>exact .inr ⟨y,y,rfl,rfl,WhB.refl _⟩
abbrev yEnd (k:Nat) (K:Exit→Sta→Prop) (e:Exit) (s':Sta):Prop:=∃ s1,Ent k s' s1∧∃ s'',Sta.Le 0 s1 s''∧FullS s''∧K e s''
section
variable {C0:Com} {J:Wd} {s s' s'':Sta} {C C':Com} {ρ ρ':Rho} {X:Nat→Prop} {a a':Act} {W W':World}
theorem InvY.after (h:InvY G C0 J s C ρ X a W) (hg:∀ X W W',J X W→SameBut X W W'→J (newX X W W') W')
 (hi:Inv G ⟨W,C,ρ,fullL s.H s.nx,fun _=>none,true⟩ s' C' ρ' a' W') (hle:Sta.Le 0 s' s'') (hf:FullS s''):InvYE G C0 J s'' a' W':=by
 have e:Ext W C ρ s.H W' C' ρ' s'.H:=by
  have:=hi.ext;simp only at this
  rwa [qjh h.full h.inv.nx] at this
 have sb:SameBut X W W':=⟨fun r hr hx=>e.same r hr fun ho=>hx (h.own r ho),e.size,e.os,e.tape,e.output⟩
 have hnx:∀ b,s''.nx≤b→s''.H b=none:=fun b hb=>by rw[hle.H];unfold cutH;rw[if_neg (by omega)]
 refine ⟨C',ρ',newX X W W',⟨⟨⟨fun t=>?_,by rw[hle.n];exact hi.rel.size,by rw[hle.H];exact qbo hi.rel.h hle.inK,trivial,trivial⟩,hnx,?_,hi.glob,?_,fun _=>hi.nom rfl⟩,hf,hg _ _ _ h.j sb,fun r ho=>?_,fun r o hc=>?_⟩⟩
 · rcases hle.tm t with e|⟨e,hin⟩
   · rw[e];exact .junk _
   · rw[e,hle.H];exact qyn (hi.rel.tm t) hin
 · simp only;rw[qjh hf hnx];exact .refl _ _ _ _
 · rw[hi.nom rfl];exact Marks.nil _ _
 · have ho' : OwnRow ρ' s'.H r := by
    obtain ⟨b,z,hb,hr⟩:=ho;refine ⟨b,z,?_,hr⟩;rw[hle.H] at hb;unfold cutH at hb
    split at hb
    · exact hb
    · simp at hb
   rcases e.rows r ho' with h1|h1
   · exact .inl (h.own r h1)
   · exact .inr ⟨h1,hi.rel.h.row_lt ho'⟩
 · rcases e.grow r o hc with h1|h1|h1
   · rcases h.com r o h1 with h2|h2
     · exact .inl h2
     · exact .inr (.inl h2)
   · exact .inr (.inl (h.own r h1))
   · exact .inr (.inr ⟨h1,hi.rel.h.com_lt hc⟩)
theorem qee {c:Code} {n:Nat} {K:Exit→Sta→Prop} {Q:Exit→Act→World→Prop} (hc:noRange c=true) (hg:∀ X W W',J X W→SameBut X W W'→J (newX X W W') W') (hi:InvYE G C0 J s a W)
 (h:awp P G s.nx c (yEnd s.nx K) s) (hK:∀ e s'' a' W',K e s''→InvYE G C0 J s'' a' W'→Q e a' W'):c.wpIn (Fe none) n P Q a W:=by
 obtain ⟨C,ρ,X,hi⟩:=hi;have hw:=qkg (P:=P) (rd:=none) (n:=n) (B:=⟨W,C,ρ,fullL s.H s.nx,fun _=>none,true⟩) c (.inl hc) _ _ _ _ ⟨C,ρ,hi.inv⟩ (by simpa [fullL] using h)
 refine wpIn_mono hw ?_;rintro e a' W' ⟨s',⟨s1,h0,s'',h1,h2,h3⟩,hi'⟩;obtain ⟨C',ρ',hi'⟩:=h0 G ⟨W,C,ρ,fullL s.H s.nx,fun _=>none,true⟩ a' W' (by simp[fullL]) hi'
 exact hK _ _ _ _ h3 (hi.after hg hi' h1 h2)
theorem qdkb {rd:Option Nat} {n:Nat} {B:Beg} {ops:Array Oper} {K:Sta→Prop} {Q:Exit→Act→World→Prop} {post:List Oper} (hQ:∀ s a w,K s→InvE G B s a w→wpListIn (Fe rd) n P ops Q post a w) :
 ∀ (l:List Oper) (s:Sta) (a:Act) (w:World),InvE G B s a w→regA P G ops K l s→wpListIn (Fe rd) n P ops Q (l++post) a w:=by
 intro l
 induction l with
 | nil=>intro s a w hi h;exact hQ s a w h hi
 | cons o rest ih=>
  intro s a w hi h;obtain ⟨C,ρ,hi⟩:=hi;rw[List.cons_append];unfold wpListIn;exact qfm hi h fun s' a' w' hk hi'=>ih s' a' w' hi' hk
theorem yOps {ops:Array Oper} {n:Nat} {pre post:List Oper} {K:Sta→Prop} {Q:Exit→Act→World→Prop} (hg:∀ X W W',J X W→SameBut X W W'→J (newX X W W') W') (hi:InvYE G C0 J s a W)
 (h:regS P G (fun s'=>∃ s1,Ent s.nx s' s1∧∃ s'',Sta.Le 0 s1 s''∧FullS s''∧K s'') (pre.map (slim1 ops)) s) (hK:∀ s'' a' W',K s''→InvYE G C0 J s'' a' W'→wpListIn (Fe none) n P ops Q post a' W') :
 wpListIn (Fe none) n P ops Q (pre++post) a W:=by
 obtain ⟨C,ρ,X,hi⟩:=hi;refine qdkb (B:=⟨W,C,ρ,fullL s.H s.nx,fun _=>none,true⟩) (fun s' a' W' hk hi'=>?_) pre s a W ⟨C,ρ,hi.inv⟩ (qdr ops _ _ _ h)
 obtain ⟨s1,h0,s'',h1,h2,h3⟩:=hk;obtain ⟨C',ρ',hi'⟩:=h0 G ⟨W,C,ρ,fullL s.H s.nx,fun _=>none,true⟩ a' W' (by simp[fullL]) hi'
 exact hK _ _ _ h3 (hi.after hg hi' h1 h2)
theorem qpqb {ops:Array Oper} {id n:Nat} {K:Sta→Prop} {Q:Exit→Act→World→Prop} {sl:List SO} {post:List Oper} (m:Nat) (hsl:(ops.toList.take m).map (slim1 ops)=sl) (hpost:ops.toList.drop m=post)
 (hg:∀ X W W',J X W→SameBut X W W'→J (newX X W W') W') (hi:InvYE G C0 J s a W) (h:regS P G (fun s'=>∃ s1,Ent s.nx s' s1∧∃ s'',Sta.Le 0 s1 s''∧FullS s''∧K s'') sl s)
 (hK:∀ s'' a' W',K s''→InvYE G C0 J s'' a' W'→wpListIn (Fe none) n P ops Q post a' W'):(Code.region id ops false).wpIn (Fe none) n P Q a W:=by
 subst hsl hpost;have:=yOps (P:=P) (ops:=ops) (n:=n) (Q:=Q) hg hi h hK;rw[List.take_append_drop] at this;exact wpIn_region_list this
theorem qcxb {ops:Array Oper} {n:Nat} {K:Sta→Prop} {Q:Exit→Act→World→Prop} {sl:List SO} {rest:List Oper} (hsl:rest.map (slim1 ops)=sl)
 (hg:∀ X W W',J X W→SameBut X W W'→J (newX X W W') W') (hi:InvYE G C0 J s a W) (h:regS P G (fun s'=>∃ s1,Ent s.nx s' s1∧∃ s'',Sta.Le 0 s1 s''∧FullS s''∧K s'') sl s)
 (hK:∀ s'' a' W',K s''→InvYE G C0 J s'' a' W'→Q .normal a' W'):wpListIn (Fe none) n P ops Q rest a W:=by
 subst hsl;have:=yOps (P:=P) (ops:=ops) (n:=n) (post:=[]) (Q:=Q) hg hi h hK
 rwa [List.append_nil] at this
theorem qkgb {c:Operand} {x y:Code} {n:Nat} {Q:Exit→Act→World→Prop} {b:Bool} (hi:InvYE G C0 J s a W) (hc:evA G s.tm c = .d (.bool b)) (h1:b=true→x.wpIn (Fe none) n P Q a W) (h0:b=false→y.wpIn (Fe none) n P Q a W) :
 (Code.cond c x y).wpIn (Fe none) n P Q a W:=by
 obtain ⟨C,ρ,X,hi⟩:=hi;have hv:=hi.inv.rel.ev hi.inv.glob c;rw[hc] at hv;cases b with
 | true=>exact wpIn_cond_true (qce hv) (h1 rfl)
 | false=>exact wpIn_cond_false (qce hv) (h0 rfl)
theorem qewb {w0:World} {J1 Jx:Wd} {ops:Array Oper} {m l:Nat} {o:Oper} {rest:List Oper} {c:Operand} {args:Array Operand} {ats:Array TypeId} {Q:Exit→Act→World→Prop} {vs:List Value}
 (ab:Abide w0 C0 J) (ab1:Abide w0 C0 J1) (abx:Abide w0 C0 Jx) (ho:o.op = .call { callee:=.value c,args,argTypes:=ats }) (hw:wantedS s.tm (slim1 ops o).g=some true) (hd:dstOK s.n o.dst)
 (hc:evA G s.tm c = .d (.raw (.func (.yield l) #[] #[]))) (ha:∀ (W:World) (C:Com) (ρ:Rho) (xs:List Value),RepAll W C ρ s.H (args.toList.map (evA G s.tm)) xs→xs=vs)
 (hy:∀ X W,J X W→YieldAt (Fe none) m P l ⟨vs⟩ W fun e W'=>((e = .returned (.bool true)∧J1 X W')∨(e = .returned (.bool false)∧Jx X W'))∧∀ r,X r→W'.heap[r]? = W.heap[r]?)
 (hi:InvYE G C0 J s a W)
 (h1:∀ a' W',InvYE G C0 J1 { s with tm:=putO s.tm o.dst (.d (.bool true)) } a' W'→wpListIn (Fe none) (m+1) P ops Q rest a' W')
 (h2:∀ a' W',InvYE G C0 Jx { s with tm:=putO s.tm o.dst (.d (.bool false)) } a' W'→wpListIn (Fe none) (m+1) P ops Q rest a' W') :
 wpListIn (Fe none) (m+1) P ops Q (o::rest) a W:=by
 obtain ⟨C,ρ,X,hi⟩:=hi;have hrel:=hi.inv.rel;unfold wpListIn;rw[if_pos (qyc hrel (by rw[qie];exact hw))]
 have hv:a.eval c = .func (.yield l) #[] #[]:=by
  have:=hrel.ev hi.inv.glob c;rw[hc] at this;have:=qvd this;generalize a.eval c=v at this;cases this;rfl
 have hargs:args.toList.map a.eval=vs:=ha W C ρ _ ⟨by simp,fun i h h'=>by simp only[List.getElem_map];exact hrel.ev hi.inv.glob _⟩
 obtain ⟨fn,tmps,assign,body,hyr,hR⟩:=hy X W hi.j
 have hrun:(execOp a.eval o).run P W = .ok (.round l fn tmps assign body) W:=by
  have e1:(args.map a.eval)=⟨args.toList.map a.eval⟩:=qoe args a.eval;rw[← hargs] at hyr;simp only[execOp,ho,resolve,Deferred.ofValue,hv,Sem.run_bind,Sem.run_pure,Result.andThen_ok,invoke,e1];simp[hyr]
 unfold Oper.wpIn;refine ⟨fun _ _=>trivial,?_⟩
 rw[Oper.semAt_eq _ _ _ (fun c hc=>by rw[ho] at hc;cases hc),hrun,Oper.uponIn_round]
 refine ⟨fun h=>by simp[Fe,Fence.wide] at h,hR.mono ?_⟩
 have fin:∀ (J':Wd),Abide w0 C0 J'→∀ (b:Bool) (W':World),J' X W'→(∀ r,X r→W'.heap[r]? = W.heap[r]?)→InvYE G C0 J' { s with tm:=putO s.tm o.dst (.d (.bool b)) } (a.put o.dst (.bool b)) W':=by
  intro J' ab' b W' hj hx
  have hcl:∀ r o,C r o→W'.cell? ⟨r,o,none⟩ = W.cell? ⟨r,o,none⟩:=fun r o hc=>by
   rcases hi.com r o hc with h|h
   · rw[ab'.cell X W' hj r o h,ab.cell X W hi.j r o h]
   · exact qdb (hx r h)
  have e0:Ext0 W C ρ s.H W' C ρ s.H:=⟨fun _ _ h=>h,hcl,fun b blk h=>⟨blk,h,rfl,Nat.le_refl _,fun _=>rfl⟩⟩
  have hR':RelH W' C ρ s.H:=by
   refine ⟨fun b blk hb=>(hrel.h.blk b blk hb).ext0 e0 rfl (fun r z hr=>hx r (hi.own r ⟨b,z,by rw[hb];rfl,hr⟩)) fun _ _ _ _ _ h=>h,hrel.h.dis,fun r o hc=>?_⟩
   obtain ⟨v,hv⟩:=hrel.h.com r o hc;exact ⟨v,by rw[hcl r o hc];exact hv⟩
  refine ⟨C,ρ,X,⟨⟨⟨fun t=>?_,?_,hR',trivial,trivial⟩,hi.inv.nx,?_,hi.inv.glob.mono e0.com e0.cell,?_,fun _=>(Act.put_defers a o.dst _).trans (hi.inv.nom rfl)⟩,hi.full,hj,hi.own,hi.com⟩⟩
  · cases hdd:o.dst with
    | none=>exact (hrel.tm t).mono0 e0
    | some d=>
     rw[hdd] at hd;have hd':d<a.tmps.size:=by rw[hrel.size];exact hd
     rw[qdx hd'];simp only[putO,putT]
     split
     · exact .d _ _ (.bool _)
     · exact (hrel.tm t).mono0 e0
  · have:=hrel.size;cases o.dst with
    | none=>exact this
    | some d=>simpa [Act.put] using this
  · simp only;rw[qjh hi.full hi.inv.nx];exact .refl _ _ _ _
  · rw[(Act.put_defers a o.dst _).trans (hi.inv.nom rfl)];exact Marks.nil _ _
 rintro e W' ⟨⟨rfl,hj⟩|⟨rfl,hj⟩,hx⟩
 · exact h1 _ _ (fin J1 ab1 true W' hj hx)
 · exact h2 _ _ (fin Jx abx false W' hj hx)
end
theorem qql {ι:Type} {n:Nat} {b:Code} {Q:Exit→Act→World→Prop} (I:ι→Act→World→Prop) (μ:ι→Nat)
 (h:∀ i a w,I i a w→b.wpIn (Fe none) n P (fun e a w=>match e with | .normal=>∃ j,μ j<μ i∧I j a w|e=>Q e a w) a w):∀ i a w,I i a w→(Code.loop b).wpIn (Fe none) n P Q a w:=by
 have key:∀ (j:Nat) (i:ι) (a:Act) (w:World),I i a w→μ i=j→∀ (bb:Frame) (kk:List Item) (cs:List Frame),
  bb.roundOf=(Fe none).round→(Fe none).fn bb.fn→(Fe none).room (cs.length+1+n)→∃ e a' w',Q e a' w'∧ArrivesIn (Machine.fenced P (Fe none)) P (lone (bb.atR a (.code b :: .inLoop b::kk)) cs w) bb kk cs e a' w':=by
  intro j
  induction j using Nat.strongRecOn with
  | _ j ihn=>
   intro i a w hI hn bb kk cs hro hb hr;obtain ⟨e,a1,w1,hq,harr⟩:=h i a w hI bb (.inLoop b::kk) cs hro hb hr;cases e with
   | normal=>
    obtain ⟨i2,hlt,hI2⟩:=hq;obtain ⟨e2,a2,w2,hq2,harr2⟩:=ihn (μ i2) (by omega) i2 a1 w1 hI2 rfl bb kk cs hro hb hr
    exact ⟨e2,a2,w2,hq2,.of_steps (StepsIn.trans harr (.one (fenced_calm hb hr rfl) stepR_inLoop)) harr2⟩
   | exit id=>exact ⟨_,a1,w1,hq,.pass (x:=.inLoop b) rfl (fun _ _=>.inl (by simp)) harr⟩
   | goto l=>exact ⟨_,a1,w1,hq,.pass (x:=.inLoop b) rfl (fun _ _=>.inl (by simp)) harr⟩
   | ret=>exact ⟨_,a1,w1,hq,.pass (x:=.inLoop b) rfl (fun _ _=>.inl (by simp)) harr⟩
   | panic ch=>exact ⟨_,a1,w1,hq,.pass (x:=.inLoop b) rfl (fun _ _=>.inl (by simp)) harr⟩
   | outgrown=>exact ⟨_,a1,w1,hq,.pass (x:=.inLoop b) rfl (fun _ _=>.inl (by simp)) harr⟩
 intro i a w hI bb kk cs hro hb hr;obtain ⟨e,a',w',hq,harr⟩:=key _ i a w hI rfl bb kk cs hro hb hr;exact ⟨e,a',w',hq,.of_steps (.one (fenced_calm hb hr rfl) stepR_loop) harr⟩
theorem SeqAV.intro {gf:FuncId} {fn:Func} {c:Code} {caps:List (List D)} {H:Heap} {rows:List (List AV)} {ys:List (List Value)} {n0:Nat} {t0:List AV} (hf:P.funcs[gf]? = some fn) (hb:fn.body=some c) (hent:∀ args w,(callFunc gf args).run P w = .ok (.enter gf args) w)
 (hyl:ys.length=rows.length) (hyr:∀ (w:World) (C:Com) (ρ:Rho) k (h:k<rows.length) (h':k<ys.length),RepAll w C ρ H rows[k] ys[k]) (hn:fn.ntmps=n0) (hcl:caps.length<n0)
 (ht:caps.map .eptr=t0)
 (h:∀ (w:World) (C0:Com) (l:Nat) (J:Nat→Wd) (Jx:Wd),(∀ k,Abide w C0 (J k))→Abide w C0 Jx→
  (∀ k (hk:k<ys.length) X W,J k X W→YieldAt (Fe none) 3 P l ⟨ys[k]⟩ W fun e W'=>((e = .returned (.bool true)∧J (k+1) X W')∨(e = .returned (.bool false)∧Jx X W'))∧∀ r,X r→W'.heap[r]? = W.heap[r]?)→
  ∀ a W,InvYE (fun _=>none) C0 (J 0) ⟨tl (.d (.raw (.func (.yield l) #[] #[]))::t0),hl [],0,n0⟩ a W→c.wpIn (Fe none) 4 P (bodyPost P fn fun e W'=>(∃ v,e = .returned v)∧∃ X,J ys.length X W'∨Jx X W') a W):SeqAV P gf (caps.map .eptr) H rows:=by
 subst hn;refine ⟨hent,fun w C ρ lb hR hlb=>⟨ys.map fun y=>⟨y⟩,by simpa using hyl,fun k h1 h2=>?_,fun l J Jx W hab habx hy hJ0=>?_⟩⟩
 · simp only[List.getElem_map];exact hyr w C ρ k h1 (by simpa using h2)
 · obtain ⟨hl0,hl1⟩:=hlb;rw[List.length_map] at hl0;have hcell:=(hab 0).cell noX W hJ0;refine callsIn_of_wp hf hb trivial ?_ rfl
   have hh:=h w C l J Jx hab habx (fun k hk X W hj=>by
    have:=hy k (by simpa using hk) X W hj
    simpa using this) { tmps:=((#[Value.func (.yield l) #[] #[]]:Array Value)++(⟨lb⟩:Array Value))++Array.replicate (fn.ntmps-((#[Value.func (.yield l) #[] #[]]:Array Value)++(⟨lb⟩:Array Value)).size) undef,defers:=[] } W ?_
   · simpa using hh
   · refine ⟨C,fun _=>none,noX,⟨⟨⟨fun t=>?_,?_,⟨(fun b blk hb=>nomatch hb),(fun b b' r z z' _ hb=>nomatch hb),fun r o hc=>?_⟩,trivial,trivial⟩,fun b _=>rfl,?_,(fun g cells hg=>nomatch hg),Marks.nil _ _,fun _=>rfl⟩,(fun b hb=>nomatch hb),hJ0,fun r ho=>?_,fun r o hc=>.inl hc⟩⟩
     · have e1 : (((#[Value.func (.yield l) #[] #[]] : Array Value) ++ (⟨lb⟩ : Array Value)) ++ Array.replicate (fn.ntmps - ((#[Value.func (.yield l) #[] #[]] : Array Value) ++ (⟨lb⟩ : Array Value)).size) undef).getD t undef = ((Value.func (.yield l) #[] #[] :: lb) ++ List.replicate (fn.ntmps - (lb.length + 1)) undef).getD t undef := by
        rw[Array.getD_eq_getD_getElem?,List.getD_eq_getElem?_getD,← Array.getElem?_toList];simp[]
       show RepA W C (fun _=>none) (Am.hl []) (getP (.d (.raw (.func (.yield l) #[] #[]))::t0) t) _
       simp only;rw[e1,← ht,← qxp];rw[List.getD_eq_getElem?_getD,List.getD_eq_getElem?_getD];have hlt:(AV.d (.raw (.func (.yield l) #[] #[]))::caps.map .eptr).length=(Value.func (.yield l) #[] #[]::lb).length:=by simp[hl0]
       by_cases h1:t<(Value.func (.yield l) #[] #[]::lb).length
       · rw[List.getElem?_append_left h1,List.getElem?_eq_getElem (by omega),List.getElem?_eq_getElem h1,Option.getD_some,Option.getD_some]
         cases t with
         | zero=>exact .d _ _ (.raw _)
         | succ t=>
          simp only[List.getElem_cons_succ];have:=hl1 t (by simp at h1 ⊢;omega) (by simpa using h1)
          simp only[List.getElem_map] at this ⊢;exact this.eptr_mono (fun _ _ h=>h) hcell
       · rw[List.getElem?_eq_none (by omega)];exact .junk _
     · simp;omega
     · obtain ⟨v,hv⟩:=hR.com r o hc;exact ⟨v,by rw[hcell r o hc];exact hv⟩
     · simp only[fullL];have:hOf ([]:List Blk)=Am.hl []:=by funext b;rfl
       show Ext W C (fun _=>none) (hOf _) W C (fun _=>none) (Am.hl [])
       rw[List.range_zero,List.map_nil,this];exact .refl _ _ _ _
     · obtain ⟨b,z,hb,_⟩:=ho;cases hb
end Am
