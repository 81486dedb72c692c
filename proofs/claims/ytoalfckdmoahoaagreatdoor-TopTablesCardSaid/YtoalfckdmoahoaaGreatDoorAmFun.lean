/- The abstract machine and its reader: lemmas. -/
import Derived.Test.YtoalfckdmoahoaaGreatDoorAmCode3
set_option linter.unusedSimpArgs false
set_option linter.unusedVariables false
set_option linter.unusedSectionVars false
namespace Am
open Go
variable {P:Program} {G:Glob} {w w':World} {C C':Com} {ρ ρ':Rho} {H H':Heap}
def resA (P:Program) (s:Sta):ResultVar→Option AV
 | .tmp t=>some (s.tm t)
 | .cell a ty=>if tin P ty∧tun P ty then (match rdA (tagg P ty) (tsz P ty) s.H (s.tm a) with|some p=>some p.1|none=>none) else none
def resAll (P:Program) (s:Sta):List ResultVar→Option (List AV)
 | []=>some []
 | x::xs=>match resA P s x,resAll P s xs with
  | some a,some as=>some (a::as)
  | _,_=>none
def tupA:List AV→AV
 | [x]=>x
 | xs=>.tup xs
def finA (P:Program) (fn:Func) (s:Sta):Option AV:=match resAll P s fn.results.toList with|some xs=>some (tupA xs)|none=>none
def resList:AV→List AV
 | .tup l=>l
 | x=>[x]
def ofList (r0:AV) (l:List AV):AV:=match r0 with
 | .tup _=>.tup l
 | _=>l.getD 0 .junk
structure EndA (P:Program) (fn:Func) (k:Nat) (Hout:List Blk) (r:AV) (keep:Bool) (s:Sta) (r0:AV):Prop where
 fin:finA P fn s=some r0
 ok:avOk keep s.H (resList r0)=true
 res:r=ofList r0 (avs1 keep s.H (resList r0))
 len:k≤Hout.length
 H:∀ i (h:i<Hout.length),pinH (avIds keep s.H (resList r0)) s.H i=some Hout[i]
 inK:∀ b∈Hout,∀ row∈b.rows,row.all (AV.inK Hout.length)=true
 rK:r.inK Hout.length=true
theorem qppb (hR:RelH w C ρ H) {t:TypeId} (ht1:tin P t=true) (ht2:tun P t=true) {x:AV} {vx:Value} (hx:RepA w C ρ H x vx) {p:AV × List Nat}
 (hrd:rdA (tagg P t) (tsz P t) H x=some p):∃ ad v,vx = .pointer (some ad)∧(loadVar t ad).run P w = .ok v w∧RepA w C ρ H p.1 v:=by
 have key:∀ (r0 o0:Nat) (l:List AV),vx = .pointer (some ⟨r0,o0,none⟩)→
  (∀ j (hj:j<l.length),∃ v,w.cell? ⟨r0,o0+j,none⟩ = some v∧v.oneCell' = true∧RepA w C ρ H l[j] v)→
  (tagg P t=true→tsz P t≤l.length→∃ ad v,vx = .pointer (some ad)∧(loadVar t ad).run P w = .ok v w∧RepA w C ρ H (.agg (l.take (tsz P t))) v)∧
   (tagg P t=false→∀ c,l[0]? = some c→∃ ad v,vx = .pointer (some ad)∧(loadVar t ad).run P w = .ok v w∧RepA w C ρ H c v):=by
  intro r0 o0 l hv hl
  have hch:∀ j,∃ v,∀ (hj:j<l.length),w.cell? ⟨r0,o0+j,none⟩ = some v∧v.oneCell' = true∧RepA w C ρ H l[j] v:=by
   intro j
   by_cases hj:j<l.length
   · obtain ⟨v,hv⟩:=hl j hj;exact ⟨v,fun _=>hv⟩
   · exact ⟨undef,fun h=>absurd h hj⟩
  obtain ⟨f,hf⟩:=Classical.axiomOfChoice hch
  constructor
  · intro hagg hsz;refine ⟨_,.agg ⟨(List.range (tsz P t)).map f⟩,hv,?_,.agg _ _ (by simp;omega) ?_ ?_⟩
    · have := qch (P := P) (w := w) r0 o0 (tsz P t) ((List.range (tsz P t)).map f) (by simp) (fun j hj => by
       simp at hj;simp only[List.getElem_map,List.getElem_range];exact (hf j (by omega)).1)
      simp[loadVar,qpc ht2,hagg,ql ht1,this]
    · intro v hv;simp at hv;obtain ⟨j,hj,rfl⟩:=hv;exact (hf j (by omega)).2.1
    · intro i hi hi';simp at hi hi';simp only[List.getElem_take,List.getElem_map,List.getElem_range];exact (hf i (by omega)).2.2
  · intro hagg c hc;obtain ⟨h0,rfl⟩:=List.getElem?_eq_some_iff.1 hc;obtain ⟨g1,g2,g3⟩:=hf 0 h0;refine ⟨_,_,hv,?_,g3⟩;simp only[Nat.add_zero] at g1;simp[loadVar,qpc ht2,hagg,g1]
 unfold rdA at hrd
 split at hrd
 · rename_i b n i j;cases hx with
   | ptr _ _ _ _ _ blk hb hn h1 hp=>
   simp only[hb] at hrd
   split at hrd
   · rename_i hlen;obtain ⟨r0,s0,hr0,hv⟩:=hp hlen
     split at hrd
     · rename_i row hrow;obtain ⟨hi,rfl⟩:=List.getElem?_eq_some_iff.1 hrow
       have hl:∀ k (hk:k<((blk.rows[i]).drop j).length),∃ v,w.cell? ⟨r0,(i*blk.sz+j)+k,none⟩ = some v∧v.oneCell' = true∧RepA w C ρ H ((blk.rows[i]).drop j)[k] v:=by
        intro k hk;simp at hk;obtain ⟨v,g1,g2,g3⟩:=qox hR hb hr0 hi (j:=j+k) (by omega)
        refine ⟨v,by rw[Nat.add_assoc];exact g1,g2,?_⟩
        simp only[List.getElem_drop];exact g3
       obtain ⟨k1,k2⟩:=key r0 _ _ hv hl
       split at hrd
       · rename_i hagg
         split at hrd
         · rename_i hsz;cases hrd;exact k1 hagg (by simp;omega)
         · simp at hrd
       · rename_i hagg
         split at hrd
         · rename_i c hc;cases hrd;exact k2 (by simpa using hagg) _ (by simpa using hc)
         · simp at hrd
     · simp at hrd
   · simp at hrd
 · rename_i cs;cases hx with
   | eptr _ r0 o0 vs hC hcell hrec=>
   have hl:∀ k (hk:k<(cs.map AV.d).length),∃ v,w.cell? ⟨r0,o0+k,none⟩ = some v∧v.oneCell' = true∧RepA w C ρ H (cs.map AV.d)[k] v:=by
    intro k hk;simp at hk;refine ⟨vs k,(hcell k hk).1,(hcell k hk).2,?_⟩;simp only[List.getElem_map];exact .d _ _ (hrec k hk)
   obtain ⟨k1,k2⟩:=key r0 o0 _ rfl hl
   split at hrd
   · rename_i hagg
     split at hrd
     · rename_i hsz;cases hrd
       show ∃ ad v,_∧_∧RepA w C ρ H (.agg ((cs.take (tsz P t)).map .d)) v
       rw[List.map_take];exact k1 hagg (by simpa using hsz)
     · simp at hrd
   · rename_i hagg
     split at hrd
     · rename_i c hc;cases hrd;exact k2 (by simpa using hagg) _ (by simp[hc])
     · simp at hrd
 · simp at hrd
theorem qzib {s:Sta} {a:Act} (h:RelT s.tm s.n s.H C ρ a w) {x:ResultVar} {av:AV} (hx:resA P s x=some av) :
 ∃ v,(match x with | .tmp t=>pure (a.tmps.getD t undef) | .cell b t=>do loadVar t (← asAddr (a.tmps.getD b undef)):Sem Value).run P w = .ok v w∧RepA w C ρ s.H av v:=by
 cases x with
 | tmp t=>simp only[resA] at hx;cases hx;exact ⟨_,rfl,h.tm t⟩
 | cell b t=>
  simp only[resA] at hx
  split at hx
  · rename_i ht
    split at hx
    · rename_i p hp;cases hx;obtain ⟨ad,v,h1,h2,h3⟩:=qppb h.h ht.1 ht.2 (h.tm b) hp;exact ⟨v,by simp[h1,asAddr,h2],h3⟩
    · simp at hx
  · simp at hx
theorem qrr {s:Sta} {a:Act} (h:RelT s.tm s.n s.H C ρ a w):∀ (xs:List ResultVar) (as:List AV),resAll P s xs=some as→
 ∃ vs:List Value,(xs.mapM fun x=>(match x with | .tmp t=>pure (a.tmps.getD t undef) | .cell b t=>do loadVar t (← asAddr (a.tmps.getD b undef)):Sem Value)).run P w = .ok vs w∧RepAll w C ρ s.H as vs:=by
 intro xs
 induction xs with
 | nil=>intro as has;simp only[resAll] at has;cases has;exact ⟨[],by simp,rfl,fun i h=>by simp at h⟩
 | cons x xs ih=>
  intro as has;simp only[resAll] at has
  split at has
  · rename_i av as' hx hxs;cases has;obtain ⟨v,g1,g2⟩:=qzib h hx;obtain ⟨vs,k1,k2,k3⟩:=ih _ hxs;refine ⟨v::vs,?_,by simp[k2],fun i hi hi'=>?_⟩
    · rw[List.mapM_cons];simp only[Sem.run_bind,g1,Result.andThen_ok,k1,Sem.run_pure]
    · cases i with
      | zero=>exact g2
      | succ i=>exact k3 i (by simpa using hi) (by simpa using hi')
  · simp at has
theorem qweb {fn:Func} {s:Sta} {a:Act} (h:RelT s.tm s.n s.H C ρ a w) {r0:AV} (hf:finA P fn s=some r0) :
 ∃ v,(results fn a.tmps).run P w = .ok v w∧RepA w C ρ s.H r0 v:=by
 unfold finA at hf
 split at hf
 · rename_i xs hxs;cases hf;obtain ⟨vs,k1,k2,k3⟩:=qrr h _ _ hxs
   have hm:(fn.results.mapM fun x=>(match x with | .tmp t=>pure (a.tmps.getD t undef) | .cell b t=>do loadVar t (← asAddr (a.tmps.getD b undef)):Sem Value)).run P w = .ok ⟨vs⟩ w:=by
    rw[Array.mapM_eq_mapM_toList];simp only[Sem.run_map,k1,Result.andThen_ok]
   refine ⟨if h:(⟨vs⟩:Array Value).size=1 then (⟨vs⟩:Array Value)[0] else .tuple ⟨vs⟩,?_,?_⟩
   · unfold results;simp only[Sem.run_bind];exact congrArg (fun x=>Result.andThen x fun (a:Array Value) w'=>Sem.run P (pure (if h:a.size=1 then a[0] else Value.tuple a)) w') hm
   · have hsz:(⟨vs⟩:Array Value).size=xs.length:=by simpa using k2.symm
     split
     · rename_i h1;rw[hsz] at h1;obtain ⟨x,rfl⟩:=List.length_eq_one_iff.1 h1;simp only[tupA];exact k3 0 (by simp) (by omega)
     · rename_i h1
       have:tupA xs = .tup xs:=by
        match xs,h1 with
        | [],_=>rfl
        | [x],h1=>exact absurd hsz h1
        | x::y::l,_=>rfl
       rw[this];exact .tup xs vs k2 k3
 · simp at hf
theorem qpxb {l:List Blk} {H:Heap} (h:∀ i (hi:i<l.length),H i=some l[i]):cutH l.length H=hOf l:=by
 funext b
 unfold cutH hOf
 split
 · rename_i hb;rw[h b hb,List.getElem?_eq_getElem hb]
 · rename_i hb;rw[List.getElem?_eq_none (by omega)]
def iniA (args:List AV) (n:Nat):Nat→AV:=fun t=>(args++List.replicate (n-args.length) undefA).getD t .junk
theorem CC.intro {f:FuncId} {fn:Func} {c:Code} {Hin:List Blk} {args:List AV} {Hout:List Blk} {r:AV} (hf:P.funcs[f]? = some fn) (hb:fn.body=some c)
 (hn:(fn.name == "runtime.NumGoroutine")=false) (hargs:args.length≤fn.ntmps)
 (h:awp P G Hin.length c (fun e s=>∃ s',Ent Hin.length s s'∧(e = .normal∨e = .ret)∧∃ keep r0,EndA P fn Hin.length Hout r keep s' r0) ⟨iniA args fn.ntmps,hOf Hin,Hin.length,fn.ntmps⟩) :
 CC P G f Hin args Hout r:=by
 refine ⟨⟨fn,hf,by simp[hb],hn⟩,fun w C ρ vs hR hG hv=>?_⟩
 obtain ⟨hl,hv⟩:=hv
 have hinv:InvE G ⟨w,C,ρ,Hin,fun _=>none,false⟩ ⟨iniA args fn.ntmps,hOf Hin,Hin.length,fn.ntmps⟩ { tmps:=(⟨vs⟩:Array Value)++Array.replicate (fn.ntmps-(⟨vs⟩:Array Value).size) undef,defers:=[] } w:=by
  refine ⟨C,ρ,⟨fun t=>?_,?_,hR,trivial,trivial⟩,fun b hb=>?_,.refl _ _ _ _,hG,Marks.nil _ _,fun _=>rfl⟩
  · have e1 : ((⟨vs⟩ : Array Value) ++ Array.replicate (fn.ntmps - (⟨vs⟩ : Array Value).size) undef).getD t undef = (vs ++ List.replicate (fn.ntmps - vs.length) undef).getD t undef := by
     rw[Array.getD_eq_getD_getElem?,List.getD_eq_getElem?_getD,← Array.getElem?_toList];simp
    show RepA w C ρ (hOf Hin) (iniA args fn.ntmps t) (((⟨vs⟩:Array Value)++Array.replicate (fn.ntmps-(⟨vs⟩:Array Value).size) undef).getD t undef)
    rw[e1];unfold iniA;rw[List.getD_eq_getElem?_getD,List.getD_eq_getElem?_getD]
    by_cases ht:t<args.length
    · rw[List.getElem?_append_left ht,List.getElem?_append_left (by omega),List.getElem?_eq_getElem ht,List.getElem?_eq_getElem (by omega)]
      exact hv t ht (by omega)
    · rw[List.getElem?_append_right (by omega),List.getElem?_append_right (by omega)]
      simp only[hl,List.getElem?_replicate]
      split
      · exact .d _ _ (.raw _)
      · exact .junk _
  · simp;omega
  · show hOf Hin b=none
    unfold hOf;exact List.getElem?_eq_none (by simpa using hb)
 have hw:=qei (rd:=none) (n:=5) (B:=⟨w,C,ρ,Hin,fun _=>none,false⟩) c (.inr ⟨rfl,rfl,rfl⟩) _ _ _ _ hinv h
 refine callsIn_wide.1 (callsIn_of_wp_marks (F:=Fe none) (n:=5) hf hb trivial (wpIn_mono hw ?_));rintro e a w1 ⟨s0,⟨s,hent,he,keep,r0,hE⟩,hi0⟩;obtain ⟨C1,ρ1,hi⟩:=hent G ⟨w,C,ρ,Hin,fun _=>none,false⟩ a w1 rfl hi0
 have fin:∀ w1,Inv G ⟨w,C,ρ,Hin,fun _=>none,false⟩ s C1 ρ1 { a with defers:=[] } w1→∃ v,(results fn a.tmps).run P w1 = .ok v w1∧∃ v' C' ρ',Ending.returned v = .returned v'∧RelH w1 C' ρ' (hOf Hout)∧Ext w C ρ (hOf Hin) w1 C' ρ' (hOf Hout)∧RepA w1 C' ρ' (hOf Hout) r v':=by
  intro w1 hi;obtain ⟨v,hrun,hrep⟩:=qweb hi.rel hE.fin;refine ⟨v,hrun,v,pinC (avIds keep s.H (resList r0)) s.H ρ1 C1,ρ1,rfl,?_⟩;have hcut:=qpxb hE.H;have hpin:=qmq hi.rel.h (avIds keep s.H (resList r0));have hepin:=hi.ext.trans (ext_pin (avIds keep s.H (resList r0)))
  have hmem:∀ b blk,b<Hout.length→pinH (avIds keep s.H (resList r0)) s.H b=some blk→∀ row∈blk.rows,row.all (AV.inK Hout.length)=true:=by
   intro b blk hb hbb;rw[hE.H b hb] at hbb;cases hbb;exact hE.inK _ (List.getElem_mem _)
  refine ⟨?_,?_,?_⟩
  · rw[← hcut];exact qgp hpin hmem
  · rw[← hcut];exact ext_cut (B:=⟨w,C,ρ,Hin,fun _=>none,false⟩) hepin hE.len
  · rw[← hcut];refine qbp ?_ hE.rK;have hok:=hE.ok;rw[hE.res];cases keep with
    | true=>
     have e1:ofList r0 (avs1 true s.H (resList r0))=r0:=by
      cases r0<;>simp[ofList,avs1,resList]
     rw[e1];exact hrep.mono (ext_pin _)
    | false=>
     have one:∀ (x:AV) (v:Value),RepA w1 C1 ρ1 s.H x v→x∈resList r0→RepA w1 (pinC (avIds false s.H (resList r0)) s.H ρ1 C1) ρ1 (pinH (avIds false s.H (resList r0)) s.H) (frzA s.H x) v:=by
      intro x v hx hmem;simp only[avOk,Bool.false_or,List.all_eq_true] at hok;refine quz hi.rel.h hx (hok x hmem) fun b hb=>?_
      simp only[avIds,Bool.false_eq_true,if_false,List.mem_flatMap];exact ⟨x,hmem,hb⟩
     have other:∀ x:AV,(∀ l,x ≠ .tup l)→resList x=[x]∧∀ l,ofList x l=l.getD 0 .junk:=by
      intro x hx;cases x<;>simp[resList,ofList] at hx ⊢
     by_cases ht:∃ l,r0 = .tup l
     · obtain ⟨l,rfl⟩:=ht;cases hrep with
       | tup _ vs hl h=>
       refine .tup _ vs (by simpa [avs1,resList] using hl) fun i hi' hi''=>?_
       simp only[avs1,resList,Bool.false_eq_true,if_false,List.getElem_map];simp only[avs1,resList,Bool.false_eq_true,if_false,List.length_map] at hi';exact one _ _ (h i hi' hi'') (List.getElem_mem _)
     · obtain ⟨g1,g2⟩:=other r0 (fun l e=>ht ⟨l,e⟩)
       rw[g2];have:=one r0 v hrep (by rw[g1];simp)
       rw[g1] at this ⊢
       simpa [avs1] using this
 have lv:∀ (l:List Deferred) (w1:World),Marks (fun _=>none) w.heap.size w1 l→Inv G ⟨w,C,ρ,Hin,fun _=>none,false⟩ s C1 ρ1 { a with defers:=[] } w1→LeavesInM (Fe none) 5 P fn a.tmps (fun e w'=>∃ v C' ρ',e = .returned v∧RelH w' C' ρ' (hOf Hout)∧Ext w C ρ (hOf Hin) w' C' ρ' (hOf Hout)∧RepA w' C' ρ' (hOf Hout) r v) l .returning w1:=by
  intro l
  induction l with
  | nil=>
   intro w1 _ h;exact fin w1 h
  | cons d l ih=>
   intro w1 hm h;obtain ⟨D,h0,rfl,hD⟩:=hm.2.1 d List.mem_cons_self;refine ⟨by simp,.inl ⟨D,_,rfl,run_takeDeferred hD,ih _ ?_ ?_⟩⟩
   · obtain ⟨hnd,hall,_⟩:=hm;obtain ⟨hx,hnd⟩:=List.nodup_cons.1 hnd;refine ⟨hnd,fun d hd=>?_,fun _ _ h=>by cases h⟩
     obtain ⟨E,g0,rfl,hE⟩:=hall d (List.mem_cons_of_mem _ hd);have hne:E≠D:=fun e=>by subst e;exact hx hd
     exact ⟨E,g0,rfl,(World.putObj_heap_other hne).trans hE⟩
   · exact h.grown (grownBy_putObj' _ _ _) (fun r e=>by cases e;exact ⟨h0,_,hD,rfl⟩) (Marks.nil _ _)
 rcases he with rfl|rfl
 · exact lv _ _ hi.marks hi.bare
 · exact lv _ _ hi.marks hi.bare
end Am
