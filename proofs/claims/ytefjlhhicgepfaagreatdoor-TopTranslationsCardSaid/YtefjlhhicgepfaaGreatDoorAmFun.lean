/- Lemmas. -/
import Derived.Test.YtefjlhhicgepfaaGreatDoorAmCode3
set_option linter.unusedSimpArgs false
set_option linter.unusedVariables false
set_option linter.unusedSectionVars false
namespace Am
open Go
variable {P:Program}{G:bl}{w w':World}{C C':Com}{ρ ρ':Rho}{H H':ba}
def aam(P:Program)(s:Sta):ResultVar→Option AV
 | .tmp t=>some (s.tm t)
 | .cell a ty=>if tin P ty∧tun P ty then (match rdA (gc P ty) (tsz P ty) s.H (s.tm a) with|some p=>some p.1|none=>none) else none
def kg(P:Program)(s:Sta):List ResultVar→Option (List AV)
 | []=>some []
 | x::xs=>match aam P s x,kg P s xs with
  | some a,some as=>some (a::as)
  | _,_=>none
def wo:List AV→AV
 | [x]=>x
 | xs=>.tup xs
def zi(P:Program)(fn:Func)(s:Sta):Option AV:=match kg P s fn.results.toList with|some xs=>some (wo xs)|none=>none
def df:AV→List AV
 | .tup l=>l
 | x=>[x]
def pv(r0:AV)(l:List AV):AV:=match r0 with
 | .tup _=>.tup l
 | _=>l.getD 0 .junk
structure ae9(P:Program)(fn:Func)(k:Nat)(Hout:List Blk)(r:AV)(keep:Bool)(s:Sta)(r0:AV):Prop where
 fin:zi P fn s=some r0
 ok:w9 keep s.H (df r0)=true
 res:r=pv r0 (n9 keep s.H (df r0))
 len:k≤Hout.length
 H:∀ i (h:i<Hout.length),dl (cn keep s.H (df r0)) s.H i=some Hout[i]
 inK:∀ b∈Hout,∀ row∈b.rows,row.all (AV.inK Hout.length)=true
 rK:r.inK Hout.length=true
theorem a5m(hR:bh w C ρ H){t:TypeId}(ht1:tin P t=true)(ht2:tun P t=true){x:AV}{vx:Value}(hx:ao w C ρ H x vx){p:AV × List Nat}
 (jn:rdA (gc P t) (tsz P t) H x=some p):∃ ad v,vx = .pointer (some ad)∧(loadVar t ad).run P w = .ok v w∧ao w C ρ H p.1 v:=by
 have key:∀ (r0 o0:Nat) (l:List AV),vx = .pointer (some ⟨r0,o0,none⟩)→
  (∀ j (hj:j<l.length),∃ v,w.cell? ⟨r0,o0+j,none⟩ = some v∧v.oneCell' = true∧ao w C ρ H l[j] v)→
  (gc P t=true→tsz P t≤l.length→∃ ad v,vx = .pointer (some ad)∧(loadVar t ad).run P w = .ok v w∧ao w C ρ H (.agg (l.take (tsz P t))) v)∧
   (gc P t=false→∀ c,l[0]? = some c→∃ ad v,vx = .pointer (some ad)∧(loadVar t ad).run P w = .ok v w∧ao w C ρ H c v):=by
  intro r0 o0 l hv hl
  have hch:∀ j,∃ v,∀ (hj:j<l.length),w.cell? ⟨r0,o0+j,none⟩ = some v∧v.oneCell' = true∧ao w C ρ H l[j] v:=by
   intro j
   by_cases hj:j<l.length
   · obtain ⟨v,hv⟩:=hl j hj;exact ⟨v,fun _=>hv⟩
   · exact ⟨undef,fun h=>absurd h hj⟩
  obtain ⟨f,hf⟩:=Classical.axiomOfChoice hch
  constructor
  · intro du de;refine ⟨_,.agg ⟨(List.range (tsz P t)).map f⟩,hv,?_,.agg _ _ (by simp;omega) ?_ ?_⟩
    · have := qqh (P := P) (w := w) r0 o0 (tsz P t) ((List.range (tsz P t)).map f) (by simp) (fun j hj => by
       simp at hj;simp only[List.getElem_map,List.getElem_range];exact (hf j (by omega)).1)
      simp[loadVar,qye ht2,du,run_sizeOf ht1,this]
    · intro v hv;simp at hv;obtain ⟨j,hj,rfl⟩:=hv;exact (hf j (by omega)).2.1
    · intro i hi bn;simp at hi bn;simp only[List.getElem_take,List.getElem_map,List.getElem_range];exact (hf i (by omega)).2.2
  · intro du c hc;obtain ⟨h0,rfl⟩:=List.getElem?_eq_some_iff.1 hc;obtain ⟨g1,g2,g3⟩:=hf 0 h0;refine ⟨_,_,hv,?_,g3⟩;simp only[Nat.add_zero] at g1;simp[loadVar,qye ht2,du,g1]
 unfold rdA at jn
 split at jn
 · rename_i b n i j;cases hx with
   | ptr _ _ _ _ _ blk hb hn h1 hp=>
   simp only[hb] at jn
   split at jn
   · rename_i an;obtain ⟨r0,s0,fp,hv⟩:=hp an
     split at jn
     · rename_i row ak;obtain ⟨hi,rfl⟩:=List.getElem?_eq_some_iff.1 ak
       have hl:∀ k (hk:k<((blk.rows[i]).drop j).length),∃ v,w.cell? ⟨r0,(i*blk.sz+j)+k,none⟩ = some v∧v.oneCell' = true∧ao w C ρ H ((blk.rows[i]).drop j)[k] v:=by
        intro k hk;simp at hk;obtain ⟨v,g1,g2,g3⟩:=adq hR hb fp hi (j:=j+k) (by omega)
        refine ⟨v,by rw[Nat.add_assoc];exact g1,g2,?_⟩
        simp only[List.getElem_drop];exact g3
       obtain ⟨k1,k2⟩:=key r0 _ _ hv hl
       split at jn
       · rename_i du
         split at jn
         · rename_i de;cases jn;exact k1 du (by simp;omega)
         · simp at jn
       · rename_i du
         split at jn
         · rename_i c hc;cases jn;exact k2 (by simpa using du) _ (by simpa using hc)
         · simp at jn
     · simp at jn
   · simp at jn
 · rename_i cs;cases hx with
   | eptr _ r0 o0 vs hC bp hrec=>
   have hl:∀ k (hk:k<(cs.map AV.d).length),∃ v,w.cell? ⟨r0,o0+k,none⟩ = some v∧v.oneCell' = true∧ao w C ρ H (cs.map AV.d)[k] v:=by
    intro k hk;simp at hk;refine ⟨vs k,(bp k hk).1,(bp k hk).2,?_⟩;simp only[List.getElem_map];exact .d _ _ (hrec k hk)
   obtain ⟨k1,k2⟩:=key r0 o0 _ rfl hl
   split at jn
   · rename_i du
     split at jn
     · rename_i de;cases jn
       show ∃ ad v,_∧_∧ao w C ρ H (.agg ((cs.take (tsz P t)).map .d)) v
       rw[List.map_take];exact k1 du (by simpa using de)
     · simp at jn
   · rename_i du
     split at jn
     · rename_i c hc;cases jn;exact k2 (by simpa using du) _ (by simp[hc])
     · simp at jn
 · simp at jn
theorem awi{s:Sta}{a:Act}(h:pi s.tm s.n s.H C ρ a w){x:ResultVar}{av:AV}(hx:aam P s x=some av) :
 ∃ v,(match x with | .tmp t=>pure (a.tmps.getD t undef) | .cell b t=>do loadVar t (← asAddr (a.tmps.getD b undef)):Sem Value).run P w = .ok v w∧ao w C ρ s.H av v:=by
 cases x with
 | tmp t=>simp only[aam] at hx;cases hx;exact ⟨_,rfl,h.tm t⟩
 | cell b t=>
  simp only[aam] at hx
  split at hx
  · rename_i ht
    split at hx
    · rename_i p hp;cases hx;obtain ⟨ad,v,h1,h2,h3⟩:=a5m h.h ht.1 ht.2 (h.tm b) hp;exact ⟨v,by simp[h1,asAddr,h2],h3⟩
    · simp at hx
  · simp at hx
theorem qyu{s:Sta}{a:Act}(h:pi s.tm s.n s.H C ρ a w):∀ (xs:List ResultVar) (as:List AV),kg P s xs=some as→
 ∃ vs:List Value,(xs.mapM fun x=>(match x with | .tmp t=>pure (a.tmps.getD t undef) | .cell b t=>do loadVar t (← asAddr (a.tmps.getD b undef)):Sem Value)).run P w = .ok vs w∧dy w C ρ s.H as vs:=by
 intro xs
 induction xs with
 | nil=>intro as has;simp only[kg] at has;cases has;exact ⟨[],by simp,rfl,fun i h=>by simp at h⟩
 | cons x xs ih=>
  intro as has;simp only[kg] at has
  split at has
  · rename_i av as' hx l4;cases has;obtain ⟨v,g1,g2⟩:=awi h hx;obtain ⟨vs,k1,k2,k3⟩:=ih _ l4;refine ⟨v::vs,?_,by simp[k2],fun i hi bn=>?_⟩
    · rw[List.mapM_cons];simp only[Sem.run_bind,g1,Result.andThen_ok,k1,Sem.run_pure]
    · cases i with
      | zero=>exact g2
      | succ i=>exact k3 i (by simpa using hi) (by simpa using bn)
  · simp at has
theorem aue{fn:Func}{s:Sta}{a:Act}(h:pi s.tm s.n s.H C ρ a w){r0:AV}(hf:zi P fn s=some r0) :
 ∃ v,(results fn a.tmps).run P w = .ok v w∧ao w C ρ s.H r0 v:=by
 unfold zi at hf
 split at hf
 · rename_i xs l4;cases hf;obtain ⟨vs,k1,k2,k3⟩:=qyu h _ _ l4
   have hm:(fn.results.mapM fun x=>(match x with | .tmp t=>pure (a.tmps.getD t undef) | .cell b t=>do loadVar t (← asAddr (a.tmps.getD b undef)):Sem Value)).run P w = .ok ⟨vs⟩ w:=by
    rw[Array.mapM_eq_mapM_toList];simp only[Sem.run_map,k1,Result.andThen_ok]
   refine ⟨if h:(⟨vs⟩:Array Value).size=1 then (⟨vs⟩:Array Value)[0] else .tuple ⟨vs⟩,?_,?_⟩
   · unfold results;simp only[Sem.run_bind];exact congrArg (fun x=>Result.andThen x fun (a:Array Value) w'=>Sem.run P (pure (if h:a.size=1 then a[0] else Value.tuple a)) w') hm
   · have de:(⟨vs⟩:Array Value).size=xs.length:=by simpa using k2.symm
     split
     · rename_i h1;rw[de] at h1;obtain ⟨x,rfl⟩:=List.length_eq_one_iff.1 h1;simp only[wo];exact k3 0 (by simp) (by omega)
     · rename_i h1
       have:wo xs = .tup xs:=by
        match xs,h1 with
        | [],_=>rfl
        | [x],h1=>exact absurd de h1
        | x::y::l,_=>rfl
       rw[this];exact .tup xs vs k2 k3
 · simp at hf
theorem a4y{l:List Blk}{H:ba}(h:∀ i (hi:i<l.length),H i=some l[i]):m8 l.length H=hOf l:=by
 funext b
 unfold m8 hOf
 split
 · rename_i hb;rw[h b hb,List.getElem?_eq_getElem hb]
 · rename_i hb;rw[List.getElem?_eq_none (by omega)]
def yf(args:List AV)(n:Nat):Nat→AV:=fun t=>(args++List.replicate (n-args.length) nb).getD t .junk
theorem CC.intro{f:FuncId}{fn:Func}{c:Code}{Hin:List Blk}{args:List AV}{Hout:List Blk}{r:AV}(hf:P.funcs[f]? = some fn)(hb:fn.body=some c)
 (hn:(fn.name == "runtime.NumGoroutine")=false) (ck:args.length≤fn.ntmps)
 (h:awp P G Hin.length c (fun e s=>∃ s',Ent Hin.length s s'∧(e = .normal∨e = .ret)∧∃ keep r0,ae9 P fn Hin.length Hout r keep s' r0) ⟨yf args fn.ntmps,hOf Hin,Hin.length,fn.ntmps⟩) :
 CC P G f Hin args Hout r:=by
 refine ⟨⟨fn,hf,by simp[hb],hn⟩,fun w C ρ vs hR hG hv=>?_⟩
 obtain ⟨hl,hv⟩:=hv
 have fg:md G ⟨w,C,ρ,Hin,fun _=>none⟩ ⟨yf args fn.ntmps,hOf Hin,Hin.length,fn.ntmps⟩ { tmps:=(⟨vs⟩:Array Value)++Array.replicate (fn.ntmps-(⟨vs⟩:Array Value).size) undef,defers:=[] } w:=by
  refine ⟨C,ρ,⟨fun t=>?_,?_,hR,trivial,trivial⟩,fun b hb=>?_,.refl _ _ _ _,hG,kf.nil _ _⟩
  · have e1 : ((⟨vs⟩ : Array Value) ++ Array.replicate (fn.ntmps - (⟨vs⟩ : Array Value).size) undef).getD t undef = (vs ++ List.replicate (fn.ntmps - vs.length) undef).getD t undef := by
     rw[Array.getD_eq_getD_getElem?,List.getD_eq_getElem?_getD,← Array.getElem?_toList];simp
    show ao w C ρ (hOf Hin) (yf args fn.ntmps t) (((⟨vs⟩:Array Value)++Array.replicate (fn.ntmps-(⟨vs⟩:Array Value).size) undef).getD t undef)
    rw[e1];unfold yf;rw[List.getD_eq_getElem?_getD,List.getD_eq_getElem?_getD]
    by_cases ht:t<args.length
    · rw[List.getElem?_append_left ht,List.getElem?_append_left (by omega),List.getElem?_eq_getElem ht,List.getElem?_eq_getElem (by omega)]
      exact hv t ht (by omega)
    · rw[List.getElem?_append_right (by omega),List.getElem?_append_right (by omega)]
      simp only[hl,List.getElem?_replicate]
      split
      · exact .d _ _ (.raw _)
      · exact .junk _
  · simp;omega
  · show hOf Hin b=none
    unfold hOf;exact List.getElem?_eq_none (by simpa using hb)
 have hw:=qzm (rd:=none) (n:=5) (B:=⟨w,C,ρ,Hin,fun _=>none⟩) c (.inr ⟨rfl,rfl⟩) _ _ _ _ fg h
 refine callsIn_wide.1 (callsIn_of_wp_marks (F:=Fe none) (n:=5) hf hb trivial (wpIn_mono hw ?_));rintro e a w1 ⟨s0,⟨s,agr,he,keep,r0,hE⟩,hi0⟩;obtain ⟨C1,ρ1,hi⟩:=agr G ⟨w,C,ρ,Hin,fun _=>none⟩ a w1 rfl hi0
 have fin:∀ w1,Inv G ⟨w,C,ρ,Hin,fun _=>none⟩ s C1 ρ1 { a with defers:=[] } w1→∃ v,(results fn a.tmps).run P w1 = .ok v w1∧∃ v' C' ρ',Ending.returned v = .returned v'∧bh w1 C' ρ' (hOf Hout)∧Ext w C ρ (hOf Hin) w1 C' ρ' (hOf Hout)∧ao w1 C' ρ' (hOf Hout) r v':=by
  intro w1 hi;obtain ⟨v,iv,rj⟩:=aue hi.rel hE.fin;refine ⟨v,iv,v,u6 (cn keep s.H (df r0)) s.H ρ1 C1,ρ1,rfl,?_⟩;have ab1:=a4y hE.H;have adj:=qwp hi.rel.h (cn keep s.H (df r0));have al7:=hi.ext.trans (ma (cn keep s.H (df r0)))
  have fq:∀ b blk,b<Hout.length→dl (cn keep s.H (df r0)) s.H b=some blk→∀ row∈blk.rows,row.all (AV.inK Hout.length)=true:=by
   intro b blk hb yc;rw[hE.H b hb] at yc;cases yc;exact hE.inK _ (List.getElem_mem _)
  refine ⟨?_,?_,?_⟩
  · rw[← ab1];exact ao6 adj fq
  · rw[← ab1];exact aat (B:=⟨w,C,ρ,Hin,fun _=>none⟩) al7 hE.len
  · rw[← ab1];refine qlw ?_ hE.rK;have hok:=hE.ok;rw[hE.res];cases keep with
    | true=>
     have e1:pv r0 (n9 true s.H (df r0))=r0:=by
      cases r0<;>simp[pv,n9,df]
     rw[e1];exact rj.mono (ma _)
    | false=>
     have one:∀ (x:AV) (v:Value),ao w1 C1 ρ1 s.H x v→x∈df r0→ao w1 (u6 (cn false s.H (df r0)) s.H ρ1 C1) ρ1 (dl (cn false s.H (df r0)) s.H) (xl s.H x) v:=by
      intro x v hx fq;simp only[w9,Bool.false_or,List.all_eq_true] at hok;refine als hi.rel.h hx (hok x fq) fun b hb=>?_
      simp only[cn,Bool.false_eq_true,if_false,List.mem_flatMap];exact ⟨x,fq,hb⟩
     have other:∀ x:AV,(∀ l,x ≠ .tup l)→df x=[x]∧∀ l,pv x l=l.getD 0 .junk:=by
      intro x hx;cases x<;>simp[df,pv] at hx ⊢
     by_cases ht:∃ l,r0 = .tup l
     · obtain ⟨l,rfl⟩:=ht;cases rj with
       | tup _ vs hl h=>
       refine .tup _ vs (by simpa [n9,df] using hl) fun i bn ayy=>?_
       simp only[n9,df,Bool.false_eq_true,if_false,List.getElem_map];simp only[n9,df,Bool.false_eq_true,if_false,List.length_map] at bn;exact one _ _ (h i bn ayy) (List.getElem_mem _)
     · obtain ⟨g1,g2⟩:=other r0 (fun l e=>ht ⟨l,e⟩)
       rw[g2];have:=one r0 v rj (by rw[g1];simp)
       rw[g1] at this ⊢
       simpa [n9] using this
 have lv:∀ (l:List Deferred) (w1:World),kf (fun _=>none) w.heap.size w1 l→Inv G ⟨w,C,ρ,Hin,fun _=>none⟩ s C1 ρ1 { a with defers:=[] } w1→LeavesInM (Fe none) 5 P fn a.tmps (fun e w'=>∃ v C' ρ',e = .returned v∧bh w' C' ρ' (hOf Hout)∧Ext w C ρ (hOf Hin) w' C' ρ' (hOf Hout)∧ao w' C' ρ' (hOf Hout) r v) l .returning w1:=by
  intro l
  induction l with
  | nil=>
   intro w1 _ h;exact fin w1 h
  | cons d l ih=>
   intro w1 hm h;obtain ⟨D,h0,rfl,hD⟩:=hm.2.1 d List.mem_cons_self;refine ⟨by simp,.inl ⟨D,_,rfl,run_takeDeferred hD,ih _ ?_ ?_⟩⟩
   · obtain ⟨xw,eu,_⟩:=hm;obtain ⟨hx,xw⟩:=List.nodup_cons.1 xw;refine ⟨xw,fun d hd=>?_,fun _ _ h=>by cases h⟩
     obtain ⟨E,g0,rfl,hE⟩:=eu d (List.mem_cons_of_mem _ hd);have dc:E≠D:=fun e=>by subst e;exact hx hd
     exact ⟨E,g0,rfl,(World.putObj_heap_other dc).trans hE⟩
   · exact h.grown (grownBy_putObj' _ _ _) (fun r e=>by cases e;exact ⟨h0,_,hD,rfl⟩) (kf.nil _ _)
 rcases he with rfl|rfl
 · exact lv _ _ hi.marks hi.bare
 · exact lv _ _ hi.marks hi.bare
end Am
