/- Lemmas. -/
import Derived.Test.YtefjlhhicgepfaaGreatDoorAm2
set_option linter.unusedSimpArgs false
set_option linter.unusedVariables false
set_option linter.unusedSectionVars false
open List (filter_cons getElem?_map map_cons map_take mem_map mem_range range)
open Nat (blt zero_add)
open Array (getElem?_eq_getElem replicate)
namespace Am
open Go
variable {P:Program}{G:bl}
structure Upd where
 dst:Option Nat
 v:AV
 hs:List (Nat × Blk)
 rb:List Nat
def xi:List (Nat × Blk)→Nat→Option (Option Blk)
 | [],_=>none
 | q::hs,b=>match xi hs b with
  | some x=>some x
  | none=>if b=q.1 then some (some q.2) else none
def Upd.uT(u:Upd)(t:Nat):Option AV:=match u.dst with
 | some d=>if t=d then some u.v else none
 | none=>none
def Upd.uH(u:Upd)(b:Nat):Option (Option Blk):=xi u.hs b
theorem adi(u:Upd)(tm:Nat→AV):ap u.uT tm=mw tm u.dst u.v:=by
 funext t
 unfold ap Upd.uT mw;cases u.dst with
 | none=>rfl
 | some d=>simp only[nr];split<;>rfl
theorem ap7(hs:List (Nat × Blk)):∀ (H:ba) (b:Nat),(xi hs b).getD (H b)=cd H hs b:=by
 induction hs with
 | nil=>intro H b;rfl
 | cons q hs ih=>
  intro H b;simp only[xi,cd,← ih];cases h:xi hs b with
  | some x=>rfl
  | none=>
   simp only[Option.getD_none,co]
   split<;>rfl
theorem aby(u:Upd)(H:ba):ap u.uH H=cd H u.hs:=by
 funext b;exact ap7 u.hs H b
theorem qij{hs:List (Nat × Blk)}{b:Nat}(h:xi hs b≠none):b∈hs.map (·.1):=by
 induction hs with
 | nil=>simp[xi] at h
 | cons q hs ih=>
  simp only[xi] at h;simp only[map_cons,List.mem_cons];cases hh:xi hs b with
  | some x=>exact .inr (ih (by simp[hh]))
  | none=>
   rw[hh] at h;simp only at h
   split at h
   · exact .inl (by assumption)
   · simp at h
section fold
variable {L V:Type}
theorem qck{D E:Nat→Bool}:∀ (us:List (L→Option V)) (i:Nat) (σ:L→V),(∀ j,j<us.length→D (i+j)=E (i+j))→cr D us i σ=cr E us i σ:=by
 intro us
 induction us with
 | nil=>intro i σ _;rfl
 | cons u us ih=>
  intro i σ h;simp only[cr];rw[show D i=E i from by simpa using h 0 (by simp)]
  exact ih (i+1) _ fun j hj=>by
   have:=h (j+1) (by simp;omega)
   rw[show i+1+j=i+(j+1) from by omega];exact this
theorem qbn{D:Nat→Bool}:∀ (us:List (L→Option V)) (i:Nat) (σ:L→V),(∀ j,j<us.length→D (i+j)=false)→cr D us i σ=σ:=by
 intro us
 induction us with
 | nil=>intro i σ _;rfl
 | cons u us ih=>
  intro i σ h;simp only[cr];rw[show D i=false from by simpa using h 0 (by simp)]
  exact ih (i+1) _ fun j hj=>by
   have:=h (j+1) (by simp;omega)
   rw[show i+1+j=i+(j+1) from by omega];exact this
def jm(us:List (L→Option V))(σ:L→V):L→V:=cr (fun _=>true) us 0 σ
theorem qdj(us:List (L→Option V))(k:Nat)(σ:L→V):cr (fun j=>decide (j<k)) us 0 σ=jm (us.take k) σ:=by
 conv=>lhs;rw[← List.take_append_drop k us]
 rw[qfi,qbn]
 · unfold jm;exact qck _ _ _ fun j hj=>by simp at hj ⊢;omega
 · intro j hj;simp at hj;simp;omega
theorem apc(D E:Nat→Bool)(x:L):∀ (us:List (L→Option V)) (i:Nat) (σ τ:L→V),σ x=τ x→(∀ j u,us[j]? = some u→u x≠none→D (i+j)=E (i+j))→
 cr D us i σ x=cr E us i τ x:=by
 intro us
 induction us with
 | nil=>intro i σ τ h _;exact h
 | cons u us ih=>
  intro i σ τ hστ h;simp only[cr]
  refine ih (i+1) _ _ ?_ fun j v hv hn=>by
   have:=h (j+1) v (by simpa using hv) hn
   rw[show i+1+j=i+(j+1) from by omega];exact this
  cases hu:u x with
  | none=>
   have e:∀ (b:Bool) (ξ:L→V),(if b then ap u ξ else ξ) x=ξ x:=fun b ξ=>by cases b<;>simp[ap,hu]
   rw[e,e];exact hστ
  | some v=>
   have h1:=h 0 u rfl (by simp[hu])
   simp only[Nat.add_zero] at h1;rw[h1];cases E i<;>simp[ap,hu,hστ]
end fold
def ab2(P:Program)(G:bl)(ops:Array Oper)(n0 n i:Nat)(o:Oper)(u:Upd)(tm:Nat→AV)(H:ba):Prop:=
 u.dst=o.dst∧lc n o.dst∧
 ((jf ops tm o=some true∧pp P G (n0+i) (evA G tm) H o.op ⟨u.v,u.hs,u.rb⟩)∨
  (jf ops tm o=some false∧u.v=nb∧u.hs=[]∧u.rb=[]))
abbrev Log:=List (List Nat × List Nat)
def Upd.log(u:Upd):List Nat × List Nat:=(u.hs.map (·.1),u.rb)
def Sta.appD(s:Sta)(d:Option Nat)(r:Res):Sta:={ s with tm:=mw s.tm d r.v,H:=cd s.H r.hs }
def Res.log(r:Res):List Nat × List Nat:=(r.hs.map (·.1),r.rb)
def oh(P:Program)(G:bl)(K:Sta→Log→Prop):List SO→Nat→Sta→Log→Prop
 | [],_,s,log=>K s log
 | o::rest,id,s,log=>lc s.n o.dst∧
  match ed s.tm o.g with
  | some true=>opK P G id (evA G s.tm) s.H o.op fun r=>oh P G K rest (id+1) (s.appD o.dst r) (log++[r.log])
  | some false=>oh P G K rest (id+1) (s.skip o.dst) (log++[([],[])])
  | none=>False
theorem at6{ops:Array Oper}{K:Sta→Log→Prop}(n0:Nat):∀ (l:List Oper) (i:Nat) (s:Sta) (log:Log),oh P G K (l.map (t7 ops)) (n0+i) s log→
 ∃ us:List Upd,us.length=l.length∧
  (∀ j o u,l[j]? = some o→us[j]? = some u→ab2 P G ops n0 s.n (i+j) o u (jm ((us.take j).map Upd.uT) s.tm) (jm ((us.take j).map Upd.uH) s.H))∧
  K ⟨jm (us.map Upd.uT) s.tm,jm (us.map Upd.uH) s.H,s.nx,s.n⟩ (log++us.map Upd.log):=by
 intro l
 induction l with
 | nil=>intro i s log h;exact ⟨[],rfl,fun j o u h=>by simp at h,by simpa [jm,cr,oh] using h⟩
 | cons o rest ih=>
  intro i s log h;simp only[map_cons,oh] at h;obtain ⟨hd,h⟩:=h;rw[← qyn] at h
  have fin:∀ (u:Upd) (_hf:ab2 P G ops n0 s.n i o u s.tm s.H) (us:List Upd) (_hl:us.length=rest.length)
   (_hfs:∀ j o' u',rest[j]? = some o'→us[j]? = some u'→ab2 P G ops n0 s.n (i+1+j) o' u' (jm ((us.take j).map Upd.uT) (ap u.uT s.tm)) (jm ((us.take j).map Upd.uH) (ap u.uH s.H)))
   (_hk:K ⟨jm (us.map Upd.uT) (ap u.uT s.tm),jm (us.map Upd.uH) (ap u.uH s.H),s.nx,s.n⟩ ((log++[u.log])++us.map Upd.log)),
   ∃ us:List Upd,us.length=(o::rest).length∧
    (∀ j o' u,(o::rest)[j]? = some o'→us[j]? = some u→ab2 P G ops n0 s.n (i+j) o' u (jm ((us.take j).map Upd.uT) s.tm) (jm ((us.take j).map Upd.uH) s.H))∧
    K ⟨jm (us.map Upd.uT) s.tm,jm (us.map Upd.uH) s.H,s.nx,s.n⟩ (log++us.map Upd.log):=by
   intro u hf us hl hfs hk
   have shift:∀ {L V:Type} (u:L→Option V) (us:List (L→Option V)) (σ:L→V),jm (u::us) σ=jm us (ap u σ):=by
    intro L V u us σ;unfold jm;simp only[cr,if_true]
    have key:∀ (us:List (L→Option V)) (i k:Nat) (σ:L→V),cr (fun _=>true) us i σ=cr (fun _=>true) us k σ:=by
     intro us
     induction us with
     | nil=>intro i k σ;rfl
     | cons u us ih=>intro i k σ;simp only[cr];exact ih _ _ _
    exact key _ _ _ _
   refine ⟨u::us,by simp[hl],fun j o' u' ho hu=>?_,?_⟩
   · cases j with
     | zero=>
      simp at ho hu;subst ho;subst hu
      simpa [jm,cr] using hf
     | succ j=>
      have:=hfs j o' u' (by simpa using ho) (by simpa using hu)
      rw[show i+(j+1)=i+1+j from by omega]
      simpa only[List.take_succ_cons,map_cons,shift] using this
   · simpa only[map_cons,shift,List.append_assoc,List.singleton_append] using hk
  split at h
  · rename_i hw;obtain ⟨r,hs,hk⟩:=qga h;rw[Nat.add_assoc] at hk;obtain ⟨us,h1,h2,h3⟩:=ih (i+1) _ _ hk;refine fin ⟨o.dst,r.v,r.hs,r.rb⟩ ⟨rfl,hd,.inl ⟨hw,hs⟩⟩ us h1 (fun j o' u' ho hu=>?_) ?_
    · rw[adi,aby];exact h2 j o' u' ho hu
    · rw[adi,aby];exact h3
  · rename_i hw;rw[Nat.add_assoc] at h;obtain ⟨us,h1,h2,h3⟩:=ih (i+1) _ _ h;refine fin ⟨o.dst,nb,[],[]⟩ ⟨rfl,hd,.inr ⟨hw,rfl,rfl,rfl⟩⟩ us h1 (fun j o' u' ho hu=>?_) ?_
    · rw[adi,aby];exact h2 j o' u' ho hu
    · rw[adi,aby];exact h3
  · exact h.elim
def abu(ops:Array Oper)(n0:Nat)(log:Log)(i j:Nat)(oi oj:Oper):Bool:=
 (match oi.dst with|some d=>(oj.looksAt ops).contains d || (match oj.dst with|some e=>Nat.beq d e|none=>false)|none=>false) ||
 (match oj.dst with|some d=>(oi.looksAt ops).contains d|none=>false) ||
 (log.getD i ([],[])).1.any (fun b=>(log.getD j ([],[])).2.contains b) ||
 (log.getD j ([],[])).1.any (fun b=>(log.getD i ([],[])).2.contains b) ||
 (log.getD i ([],[])).1.any (fun b=>(log.getD j ([],[])).1.contains b) ||
 (log.getD j ([],[])).1.contains (n0+i) || (log.getD i ([],[])).1.contains (n0+j)
def acv(ops:Array Oper)(n0:Nat)(log:Log)(m:Nat)(i j:Nat):Bool:=
 m.testBit i || match ops[i]?,ops[j]? with
  | some oi,some oj=>!abu ops n0 log i j oi oj
  | _,_=>true
def okD(ops:Array Oper)(n0:Nat)(log:Log)(m:Nat):Bool:=
 Nat.ble n0 m&&log.all (fun p=>p.1.all fun k=>blt k m) &&
 (range ops.size).all fun j=>(match ops[j]? with|some o=>o.after.toList.all (fun e=>!Region.binds .any e || blt e.on j)|none=>true) &&
  (range j).all fun i=>acv ops n0 log ((aau ops).getD j 0) i j
structure OkD(ops:Array Oper)(n0:Nat)(log:Log)(m:Nat):Prop where
 le:n0≤m
 key:∀ p∈log,∀ k∈p.1,k<m
 edge:∀ (j:Nat) (o:Oper),ops[j]? = some o→∀ e∈o.after,Region.binds .any e=true→e.on<j
 pair:∀ (i j:Nat) (oi oj:Oper),i<j→ops[i]? = some oi→ops[j]? = some oj→abu ops n0 log i j oi oj=true→((aau ops).getD j 0).testBit i=true
theorem apx{ops:Array Oper}{n0:Nat}{log:Log}{m:Nat}(h:okD ops n0 log m=true):OkD ops n0 log m:=by
 simp only[okD,Bool.and_eq_true,List.all_eq_true,mem_range] at h;obtain ⟨⟨h1,h2⟩,h3⟩:=h;refine ⟨Nat.le_of_ble_eq_true h1,fun p hp k hk=>by simpa [blt,Nat.succ_le_iff] using h2 p hp k hk,fun j o ho e he hbd=>?_,fun i j oi oj hij hi hj hc=>?_⟩
 · have cf:=(Array.getElem?_eq_some_iff.1 ho).1;have:=(h3 j cf).1;rw[ho] at this;simp only[List.all_eq_true] at this
   simpa [blt,Nat.succ_le_iff,hbd] using this e (by simpa using he)
 · have cf:=(Array.getElem?_eq_some_iff.1 hj).1;have:=(h3 j cf).2 i hij;simp only[acv,hi,hj,hc,Bool.not_true,Bool.or_false] at this;exact this
section sound
variable {B:Beg}{ops:Array Oper}{us:List Upd}{m:Nat}{s0:Sta}{D:Nat→Bool}
def stD(us:List Upd)(D:Nat→Bool)(s0:Sta)(m:Nat):Sta:=
 ⟨cr D (us.map Upd.uT) 0 s0.tm,cr D (us.map Upd.uH) 0 s0.H,m,s0.n⟩
structure Run(P:Program)(G:bl)(ops:Array Oper)(us:List Upd)(s0:Sta)(m:Nat):Prop where
 len:us.length=ops.size
 fact:∀ (j:Nat) (o:Oper) (u:Upd),ops[j]? = some o→us[j]? = some u→ab2 P G ops s0.nx s0.n j o u (jm ((us.take j).map Upd.uT) s0.tm) (jm ((us.take j).map Upd.uH) s0.H)
 ok:OkD ops s0.nx (us.map Upd.log) m
 empty:∀ b,s0.nx≤b→s0.H b=none
def aag(ops:Array Oper)(D:Nat→Bool):Prop:=∀ (j:Nat) (o:Oper),ops[j]? = some o→D j=true→∀ e∈o.after,Region.binds .any e=true→D e.on=true
theorem qlg{n0:Nat}{log:Log}{i j:Nat}{oi oj:Oper}
 (h:(∃ d,oi.dst=some d∧(d∈oj.looksAt ops∨oj.dst=some d))∨(∃ d,oj.dst=some d∧d∈oi.looksAt ops)∨
  (∃ b,b∈(log.getD i ([],[])).1∧(b∈(log.getD j ([],[])).2∨b∈(log.getD j ([],[])).1))∨(∃ b,b∈(log.getD j ([],[])).1∧b∈(log.getD i ([],[])).2)∨
  n0+i∈(log.getD j ([],[])).1∨n0+j∈(log.getD i ([],[])).1):abu ops n0 log i j oi oj=true:=by
 unfold abu;simp only[Bool.or_eq_true,List.any_eq_true,List.contains_iff_mem];rcases h with ⟨d,hd,h|h⟩|⟨d,hd,h⟩|⟨b,hb,h|h⟩|⟨b,hb,h⟩|h|h
 · refine .inl (.inl (.inl (.inl (.inl (.inl ?_)))));rw[hd];simp[h]
 · refine .inl (.inl (.inl (.inl (.inl (.inl ?_)))));rw[hd,h];simp
 · refine .inl (.inl (.inl (.inl (.inl (.inr ?_)))));rw[hd];simp[h]
 · exact .inl (.inl (.inl (.inl (.inr ⟨b,hb,h⟩))))
 · exact .inl (.inl (.inr ⟨b,hb,h⟩))
 · exact .inl (.inl (.inl (.inr ⟨b,hb,h⟩)))
 · exact .inl (.inr h)
 · exact .inr h
variable (hr:Run P G ops us s0 m)
include hr
theorem Run.logAt{j:Nat}{u:Upd}(hu:us[j]? = some u):(us.map Upd.log).getD j ([],[])=u.log:=by
 rw[List.getD_eq_getElem?_getD,getElem?_map,hu];rfl
theorem Run.op{j:Nat}{u:Upd}(hu:us[j]? = some u):∃ o,ops[j]? = some o∧u.dst=o.dst:=by
 have cf:=(List.getElem?_eq_some_iff.1 hu).1;rw[hr.len] at cf;refine ⟨ops[j],getElem?_eq_getElem cf,?_⟩;exact (hr.fact j _ u (getElem?_eq_getElem cf) hu).1
theorem Run.side(hD:aag ops D){i:Nat}{o:Oper}(ho:ops[i]? = some o)(hi:D i=false)(oa:∀ e∈o.after,Region.binds .any e=true→D e.on=true)
 {j:Nat} {oj:Oper} (hoj:ops[j]? = some oj) (hc:i<j→abu ops s0.nx (us.map Upd.log) i j o oj=true) (hc':j<i→abu ops s0.nx (us.map Upd.log) j i oj o=true) :
 D j=decide (j<i):=by
 rcases Nat.lt_trichotomy i j with h|h|h
 · have hb:=hr.ok.pair i j o oj h ho hoj (hc h);rw[decide_eq_false (by omega)]
   cases hDj:D j with
   | false=>rfl
   | true=>rw[qws hD j i hb hDj] at hi;simp at hi
 · subst h;rw[hi];simp
 · have hb:=hr.ok.pair j i oj o h hoj ho (hc' h);rw[decide_eq_true h]
   have hD':aag ops (fun k=>if k=i then true else D k):=by
    intro k ok hk hDk e he hbd;have cf:=hr.ok.edge k ok hk e he hbd
    by_cases hki:k=i
    · subst hki;rw[ho] at hk;cases hk;have:=oa e he hbd;simp[this]
    · simp only[hki,if_false] at hDk;have:=hD k ok hk hDk e he hbd;simp[this]
   have:=qws hD' i j hb (by simp)
   rwa [if_neg (by omega)] at this
theorem Run.tmAt(hD:aag ops D){i:Nat}{o:Oper}(ho:ops[i]? = some o)(hi:D i=false)(oa:∀ e∈o.after,Region.binds .any e=true→D e.on=true)
 {t:Nat} (ht:t∈o.looksAt ops):cr D (us.map Upd.uT) 0 s0.tm t=jm ((us.take i).map Upd.uT) s0.tm t:=by
 rw[map_take,← qdj];refine apc _ _ t _ _ _ _ rfl fun j v hv hn=>?_
 rw[getElem?_map] at hv;cases hu:us[j]? with
 | none=>rw[hu] at hv;simp at hv
 | some u=>
  rw[hu] at hv;simp at hv;subst hv;obtain ⟨oj,hoj,ac2⟩:=hr.op hu;rw[zero_add]
  have hd:oj.dst=some t:=by
   unfold Upd.uT at hn;rw[ac2] at hn;cases hd:oj.dst with
   | none=>rw[hd] at hn;simp at hn
   | some d=>
    rw[hd] at hn;simp only at hn
    split at hn
    · rename_i e;rw[e]
    · simp at hn
  exact hr.side hD ho hi oa hoj (fun _=>qlg (.inr (.inl ⟨t,hd,ht⟩))) fun _=>qlg (.inl ⟨t,hd,.inl ht⟩)
theorem Run.HAt(hD:aag ops D){i:Nat}{o:Oper}{u:Upd}(ho:ops[i]? = some o)(hui:us[i]? = some u)(hi:D i=false)(oa:∀ e∈o.after,Region.binds .any e=true→D e.on=true)
 {b:Nat} (hb:b∈u.rb):cr D (us.map Upd.uH) 0 s0.H b=jm ((us.take i).map Upd.uH) s0.H b:=by
 rw[map_take,← qdj];refine apc _ _ b _ _ _ _ rfl fun j v hv hn=>?_
 rw[getElem?_map] at hv;cases hu:us[j]? with
 | none=>rw[hu] at hv;simp at hv
 | some uj=>
  rw[hu] at hv;simp at hv;subst hv;obtain ⟨oj,hoj,ac2⟩:=hr.op hu;rw[zero_add];have hk:b∈uj.log.1:=qij hn;refine hr.side hD ho hi oa hoj (fun _=>qlg (.inr (.inr (.inr (.inl ⟨b,?_,?_⟩))))) fun _=>qlg (.inr (.inr (.inl ⟨b,?_,.inl ?_⟩)))
  · rw[hr.logAt hu];exact hk
  · rw[hr.logAt hui];exact hb
  · rw[hr.logAt hu];exact hk
  · rw[hr.logAt hui];exact hb
theorem Run.idAt(hD:aag ops D){i:Nat}{o:Oper}{u:Upd}(ho:ops[i]? = some o)(hui:us[i]? = some u)(hi:D i=false)(oa:∀ e∈o.after,Region.binds .any e=true→D e.on=true) :
 cr D (us.map Upd.uH) 0 s0.H (s0.nx+i)=none∧jm ((us.take i).map Upd.uH) s0.H (s0.nx+i)=none:=by
 have key:∀ (E:Nat→Bool),(∀ j uj,us[j]? = some uj→s0.nx+i∈uj.log.1→E j=false)→cr E (us.map Upd.uH) 0 s0.H (s0.nx+i)=none:=by
  intro E hE;rw[qmr]
  · exact hr.empty _ (by omega)
  · intro j v hv hEj;rw[zero_add] at hEj;rw[getElem?_map] at hv;cases hu:us[j]? with
    | none=>rw[hu] at hv;simp at hv
    | some uj=>
     rw[hu] at hv;simp at hv;subst hv;cases hh:uj.uH (s0.nx+i) with
     | none=>rfl
     | some x=>
      rw[hE j uj hu (qij (by unfold Upd.uH at hh;rw[hh];simp))] at hEj
      simp at hEj
 have later:∀ j uj,us[j]? = some uj→s0.nx+i∈uj.log.1→i≤j∧D j=false:=by
  intro j uj hu hk;obtain ⟨oj,hoj,_⟩:=hr.op hu;have hs:=hr.side hD ho hi oa hoj (fun _=>qlg (.inr (.inr (.inr (.inr (.inl (by rw[hr.logAt hu];exact hk))))))) fun _=>qlg (.inr (.inr (.inr (.inr (.inr (by rw[hr.logAt hu];exact hk))))))
  by_cases cf:j<i
  · exfalso
    have:∀ (n:Nat) (j:Nat) (uj:Upd),j<n→us[j]? = some uj→∀ b∈uj.log.1,b<s0.nx+j+1:=by
     intro n
     induction n with
     | zero=>intro j uj h;omega
     | succ n ih=>
      intro j uj hj hu b hb;obtain ⟨oj,hoj,_⟩:=hr.op hu;rcases (hr.fact j oj uj hoj hu).2.2 with ⟨_,hs⟩|⟨_,_,hs,_⟩
      · obtain ⟨p,hp,rfl⟩:=List.mem_map.1 hb;rcases au6 hs p hp with e|e
        · omega
        · by_cases ue:s0.nx+j+1≤p.1
          · rw[map_take,← qdj] at e;rw[qmr] at e
            · rw[hr.empty _ (by omega)] at e;simp at e
            · intro k v hv hk;simp at hk;rw[getElem?_map] at hv;cases huk:us[k]? with
              | none=>rw[huk] at hv;simp at hv
              | some uk=>
               rw[huk] at hv;simp at hv;subst hv;cases hh:uk.uH p.1 with
               | none=>rfl
               | some x=>
                have:=ih k uk (by omega) huk p.1 (qij (by unfold Upd.uH at hh;rw[hh];simp))
                omega
          · omega
      · have:uj.log.1=[]:=by simp[Upd.log,hs]
        rw[this] at hb;simp at hb
    have:=this (j+1) j uj (by omega) hu _ hk
    omega
  · exact ⟨by omega,by rw[hs];simp;omega⟩
 refine ⟨key D fun j uj hu hk=>(later j uj hu hk).2,?_⟩
 rw[map_take,← qdj];exact key _ fun j uj hu hk=>by have:=(later j uj hu hk).1;simp;omega
theorem Run.step{rd:Option Nat}{n:Nat}(hD:aag ops D){i:Nat}{o:Oper}(ho:ops[i]? = some o)(hi:D i=false)(oa:∀ e∈o.after,Region.binds .any e=true→D e.on=true)
 {a:Act} {w:World} (fg:md G B (stD us D s0 m) a w) {K:Act→World→Prop} {Q:Exit→Act→World→Prop}
 (hk:∀ a' w',md G B (stD us (fun k=>if k=i then true else D k) s0 m) a' w'→K a' w'):wpOpIn (Fe rd) n P ops Q i K a w:=by
 obtain ⟨C,ρ,fg⟩:=fg;have cf:i<us.length:=by rw[hr.len];exact (Array.getElem?_eq_some_iff.1 ho).1
 have hui:us[i]? = some us[i]:=List.getElem?_eq_getElem cf;generalize us[i]=u at hui;obtain ⟨ac2,hd,hf⟩:=hr.fact i o u ho hui;have hT:∀ t∈o.looksAt ops,cr D (us.map Upd.uT) 0 s0.tm t=jm ((us.take i).map Upd.uT) s0.tm t:=fun t ht=>hr.tmAt hD ho hi oa ht
 have hw:jf ops (cr D (us.map Upd.uT) 0 s0.tm) o=jf ops (jm ((us.take i).map Upd.uT) s0.tm) o:=by
  unfold jf;cases hg:o.guard with
  | none=>rfl
  | some p=>
   obtain ⟨j,want⟩:=p;simp only
   cases hdd:(ops[j]?).bind (·.dst) with
   | none=>rfl
   | some d=>
    simp only;rw[hT d (by simp[Oper.looksAt,hg,hdd])]
 have xf:∀ s1:Sta,s1 = { stD us D s0 m with tm:=mw (stD us D s0 m).tm o.dst u.v,H:=cd (stD us D s0 m).H u.hs }→s1=stD us (fun k=>if k=i then true else D k) s0 m:=by
  rintro _ rfl
  have e1:mw (stD us D s0 m).tm o.dst u.v=(stD us (fun k=>if k=i then true else D k) s0 m).tm:=by
   show mw (cr D (us.map Upd.uT) 0 s0.tm) o.dst u.v=cr _ (us.map Upd.uT) 0 s0.tm
   rw[← ac2,← adi];refine qaa D _ _ (by rw[getElem?_map,hui];rfl) hi fun t hn j v hij hv hDj=>?_
   rw[getElem?_map] at hv;cases huj:us[j]? with
   | none=>rw[huj] at hv;simp at hv
   | some uj=>
    rw[huj] at hv;simp at hv;subst hv;obtain ⟨oj,hoj,hdj⟩:=hr.op huj;cases hh:uj.uT t with
    | none=>rfl
    | some x=>
     exfalso
     have get:∀ (u:Upd),u.uT t≠none→u.dst=some t:=fun u hn=>by
      unfold Upd.uT at hn;cases hd:u.dst with
      | none=>rw[hd] at hn;simp at hn
      | some d => rw [hd] at hn; simp only at hn; split at hn
                  · rename_i e;rw[e]
                  · simp at hn
     have:=hr.side hD ho hi oa hoj (fun _=>qlg (.inl ⟨t,by rw[← ac2];exact get _ hn,.inr (by rw[← hdj];exact get _ (by simp[hh]))⟩)) fun h=>by omega
     rw[hDj] at this;simp at this;omega
  have e2:cd (stD us D s0 m).H u.hs=(stD us (fun k=>if k=i then true else D k) s0 m).H:=by
   show cd (cr D (us.map Upd.uH) 0 s0.H) u.hs=cr _ (us.map Upd.uH) 0 s0.H
   rw[← aby];refine qaa D _ _ (by rw[getElem?_map,hui];rfl) hi fun b hn j v hij hv hDj=>?_
   rw[getElem?_map] at hv;cases huj:us[j]? with
   | none=>rw[huj] at hv;simp at hv
   | some uj=>
    rw[huj] at hv;simp at hv;subst hv;obtain ⟨oj,hoj,hdj⟩:=hr.op huj;cases hh:uj.uH b with
    | none=>rfl
    | some x=>
     exfalso
     have:=hr.side hD ho hi oa hoj (fun _=>qlg (.inr (.inr (.inl ⟨b,by rw[hr.logAt hui];exact qij hn,.inr (by rw[hr.logAt huj];exact qij (by unfold Upd.uH at hh;rw[hh];simp))⟩)))) fun h=>by omega
     rw[hDj] at this;simp at this;omega
  rw[e1,e2];rfl
 unfold wpOpIn;simp only[ho];rcases hf with ⟨sw,hs⟩|⟨sw,hv,hhs,v7⟩
 · rw[if_pos (qaf fg.rel (by rw[← hw] at sw;exact sw))]
   obtain ⟨aii,a63⟩:=hr.idAt hD ho hui hi oa
   have hs':pp P G (s0.nx+i) (evA G (stD us D s0 m).tm) (stD us D s0 m).H o.op ⟨u.v,u.hs,u.rb⟩:=by
    refine qls hs (fun x hx=>?_) (fun b hb=>hr.HAt hD ho hui hi oa hb) aii
    cases x with
    | tmp t=>exact hT t (by
     unfold Oper.looksAt;exact List.mem_append_left _ (List.mem_filterMap.2 ⟨.tmp t,by simpa using hx,rfl⟩))
    | _=>rfl
   refine (qal fg.glob fg.rel.h aii (fg.rel.ev fg.glob) hs' fun w1 C1 ρ1 v g1 g2 g3=>?_)
   refine hk _ _ ⟨C1,ρ1,?_⟩;rw[← xf _ rfl];refine ⟨fg.rel.put g1 g2 hd g3,fun b hb=>?_,fg.ext.trans g2,fg.glob.mono g2.com g2.cell,(Act.put_defers a o.dst v).symm ▸ fg.marks.ext fg.rel.h g2⟩
   show cd (stD us D s0 m).H u.hs b=none
   rw[qip]
   · exact fg.nx b hb
   · intro p hp e;have:=hr.ok.key u.log (List.mem_map.2 ⟨u,List.mem_of_getElem? hui,rfl⟩) p.1 (List.mem_map.2 ⟨p,hp,rfl⟩);have et:m≤b:=hb;omega
 · rw[if_neg (by rw[qaf fg.rel (by rw[← hw] at sw;exact sw)];simp)]
   refine ⟨fun _ _=>trivial,hk _ _ ⟨C,ρ,?_⟩⟩
   rw[← xf _ rfl,hhs,hv];exact ⟨fg.rel.put fg.rel.h (.refl _ _ _ _) hd (.d _ _ (.raw _)),fg.nx,fg.ext,fg.glob,(Act.put_defers a o.dst undef).symm ▸ fg.marks⟩
theorem Run.any{rd:Option Nat}{n:Nat}{Q:Exit→Act→World→Prop}(hQ:∀ a w,md G B (stD us (fun _=>true) s0 m) a w→Q .normal a w) :
 ∀ (fuel:Nat) (b6:Array Bool) (a:Act) (w:World),b6.size=ops.size→aag ops (fun j=>b6.getD j false)→
  ((range ops.size).filter fun j=>!b6.getD j false).length≤fuel→md G B (stD us (fun j=>b6.getD j false) s0 m) a w→wpAnyIn (Fe rd) n P .any ops Q fuel b6 a w:=by
 have getTF:∀ (b6:Array Bool) (j:Nat),j<b6.size→b6.getD j true=b6.getD j false:=fun b6 j h=>by
  simp[Array.getD,h]
 have done:∀ (b6:Array Bool) (a:Act) (w:World),b6.size=ops.size→(∀ j,j<ops.size→b6.getD j false=true)→md G B (stD us (fun j=>b6.getD j false) s0 m) a w→Q .normal a w:=by
  intro b6 a w _ eu hi;refine hQ a w ?_
  have:stD us (fun j=>b6.getD j false) s0 m=stD us (fun _=>true) s0 m:=by
   unfold stD
   rw[qck (E:=fun _=>true) (us.map Upd.uT) 0 s0.tm fun j hj=>by
    rw [zero_add]; exact eu j (by simp at hj; rw [← hr.len]; exact hj),
       qck (E:=fun _=>true) (us.map Upd.uH) 0 s0.H fun j hj=>by
        rw[zero_add];exact eu j (by simp at hj;rw[← hr.len];exact hj)]
  rw[← this];exact hi
 intro fuel
 induction fuel with
 | zero=>
  intro b6 a w de hD axc hi
  have eu:∀ j,j<ops.size→b6.getD j false=true:=by
   intro j hj;have:((range ops.size).filter fun j=>!b6.getD j false)=[]:=List.eq_nil_of_length_eq_zero (by omega)
   rw[List.filter_eq_nil_iff] at this
   simpa using this j (List.mem_range.2 hj)
  refine ⟨?_,done b6 a w de eu hi⟩;rw[List.eq_nil_iff_forall_not_mem];intro j hj;obtain ⟨h1,o,ho,_⟩:=mem_ready.1 hj;have cf:=(Array.getElem?_eq_some_iff.1 ho).1;rw[getTF b6 j (by omega),eu j cf] at h1
  simp at h1
 | succ fuel ih=>
  intro b6 a w de hD axc hi;refine ⟨fun ob=>?_,fun i hir=>?_⟩
  · refine done b6 a w de (fun j=>?_) hi
    induction j using Nat.strongRecOn with
    | _ j ihj=>
     intro hj;cases hl:b6.getD j false with
     | true=>rfl
     | false=>
      exfalso
      have:j∈Region.ready .any ops b6:=by
       refine mem_ready.2 ⟨by rw[getTF b6 j (by omega)];exact hl,ops[j],getElem?_eq_getElem hj,fun e he hb=>?_⟩
       have cf:=hr.ok.edge j _ (getElem?_eq_getElem hj) e he hb;exact ihj e.on cf (by omega)
      rw[ob] at this;simp at this
  · obtain ⟨h1,o,ho,oa⟩:=mem_ready.1 hir;have cf:=(Array.getElem?_eq_some_iff.1 ho).1;rw[getTF b6 i (by omega)] at h1
    refine hr.step (D:=fun j=>b6.getD j false) hD ho h1 oa hi fun a' w' bn=>?_
    have eD:(fun j=>(b6.setIfInBounds i true).getD j false)=fun k=>if k=i then true else b6.getD k false:=by
     funext k
     by_cases hk:k=i
     · subst hk;simp[Array.getD_eq_getD_getElem?,show k<b6.size from by omega]
     · rw[getD_set_ne false (fun e=>hk e.symm),if_neg hk]
    refine ih _ a' w' (by simpa using de) ?_ ?_ (by rw[eD];exact bn)
    · rw[eD];intro k ok hk hDk e he hbd
      by_cases hki:k=i
      · subst hki;rw[ho] at hk;cases hk;simp[oa e he hbd]
      · simp only[hki,if_false] at hDk;simp[hD k ok hk hDk e he hbd]
    · have agd : ∀ (l : List Nat),l.Nodup → i ∈ l → (l.filter fun j => !(b6.setIfInBounds i true).getD j false).length + 1 ≤ (l.filter fun j => !b6.getD j false).length := by
       intro l xw fq
       induction l with
       | nil=>simp at fq
       | cons x l ihl=>
        obtain ⟨hx,xw⟩:=List.nodup_cons.1 xw
        by_cases zk:x=i
        · subst zk
          have e:(l.filter fun j=>!(b6.setIfInBounds x true).getD j false)=l.filter fun j=>!b6.getD j false:=by
           refine List.filter_congr fun y hy=>?_
           have dc:x≠y:=fun e=>hx (by rw[e];exact hy)
           rw[getD_set_ne false dc]
          have hs:(b6.setIfInBounds x true).getD x false=true:=by
           have:=congrFun eD x
           simpa using this
          simp only[filter_cons,hs,h1,Bool.not_true,Bool.not_false,if_true,Bool.false_eq_true,if_false,e,List.length_cons];omega
        · have:=ihl xw ((List.mem_cons.1 fq).resolve_left (fun e=>zk e.symm))
          have e:(b6.setIfInBounds i true).getD x false=b6.getD x false:=getD_set_ne false (fun e=>zk e.symm)
          rw[filter_cons,filter_cons,e]
          split<;>(try simp only[List.length_cons])<;>omega
      have:=agd (range ops.size) List.nodup_range (List.mem_range.2 cf);omega
end sound
theorem atu{B:Beg}{s:Sta}{a:Act}{w:World}(hi:md G B s a w){m:Nat}(hm:s.nx≤m)(d:Nat):md G B { s with nx:=m } a { w with drawn:=d }:=by
 obtain ⟨C,ρ,hi⟩:=hi;have e:Ext w C ρ s.H { w with drawn:=d } C ρ s.H:=⟨fun _ _ h=>h,fun _ _ _=>rfl,fun b blk h=>⟨blk,h,rfl,Nat.le_refl _,fun _=>rfl⟩,rfl,rfl,rfl,Nat.le_refl _,fun _ _ _=>rfl,fun _ h=>.inl h,fun _ _ h=>.inl h⟩
 refine ⟨C,ρ,⟨fun t=>(hi.rel.tm t).mono e,hi.rel.size,⟨fun b blk hb=>?_,hi.rel.h.dis,fun r o h=>hi.rel.h.com r o h⟩,trivial,hi.rel.defers⟩,fun b hb=>hi.nx b (Nat.le_trans hm hb),hi.ext.trans e,hi.glob.mono e.com e.cell,hi.marks.ext hi.rel.h e⟩
 exact (hi.rel.h.blk b blk hb).ext e rfl (fun _ _ _=>rfl) fun _ _ _ _ _ h=>h
theorem aqo{rd:Option Nat}{n:Nat}{B:Beg}{ops:Array Oper}{id:Nat}{Q:Exit→Act→World→Prop}{K:Sta→Prop}{s:Sta}{a:Act}{w:World}(hm:P.follows .mixedOrders=true)
 (hi:md G B s a w) (h:oh P G (fun s1 log=>∃ m,okD ops s.nx log m=true∧K { s1 with nx:=m }) (ow ops) s.nx s []) (hQ:∀ s a w,K s→md G B s a w→Q .normal a w) :
 (Code.region id ops true).wpIn (Fe rd) n P Q a w:=by
 obtain ⟨us,h1,h2,m,h3,h4⟩:=at6 (ops:=ops) s.nx ops.toList 0 s [] h;have bn:∀ b,s.nx≤b→s.H b=none:=by obtain ⟨C,ρ,hi⟩:=hi;exact hi.nx
 have hr:Run P G ops us s m:=⟨by simpa using h1,fun j o u ho hu=>by
  have:=h2 j o u (by simpa using ho) hu
  rwa [zero_add] at this,apx (by simpa using h3),bn⟩
 refine wpIn_region_any hm (hr.any (B:=B) (fun a w hi=>hQ _ a w h4 ?_) ops.size _ a _ (by simp) (fun j o _ hD=>?_) ?_ ?_)
 · exact hi
 · have e : (replicate ops.size false).getD j false = false := by
    rw[Array.getD_eq_getD_getElem?,Array.getElem?_replicate];split<;>rfl
   have hD':(replicate ops.size false).getD j false=true:=hD;rw[e] at hD';simp at hD'
 · refine Nat.le_trans (List.length_filter_le _ _) (by simp)
 · have e0 : ∀ j,(replicate ops.size false).getD j false = false := fun j => by
    rw[Array.getD_eq_getD_getElem?,Array.getElem?_replicate];split<;>rfl
   have e:stD us (fun j=>(replicate ops.size false).getD j false) s m = { s with nx:=m }:=by
    unfold stD;rw[qbn (D:=fun j=>(replicate ops.size false).getD j false) _ _ _ fun j _=>e0 _,qbn (D:=fun j=>(replicate ops.size false).getD j false) _ _ _ fun j _=>e0 _]
   rw[e];exact atu hi hr.ok.le _
end Am
