/- Lemmas. -/
import Derived.Test.YtefjlhhicgepfaaGreatDoorSe1
set_option linter.unusedSimpArgs false
set_option linter.unusedVariables false
set_option linter.unusedSectionVars false
open List (all_eq_true append_nil drop_zero getElem_map getElem_mem map map_cons map_id map_map map_nil mem_append mem_map mem_of_getElem?)
open Bool (and_eq_true)
open Option (map_eq_some_iff map_some)
namespace Am
open Go
variable {P:Program}{G:bl}{k:Nat}{w w':World}{C:Com}{ρ:Rho}{H H':ba}
inductive Wk:AV→AV→Prop
 | junk (a:AV):Wk a .junk
 | refl (a:AV):Wk a a
 | agg (l l0:List AV) (hl:l.length=l0.length) (h:∀ i (h:i<l.length) (h':i<l0.length),Wk l[i] l0[i]):Wk (.agg l) (.agg l0)
 | tup (l l0:List AV) (hl:l.length=l0.length) (h:∀ i (h:i<l.length) (h':i<l0.length),Wk l[i] l0[i]):Wk (.tup l) (.tup l0)
 | clo (f:Fn) (a a0 b b0:List AV) (hl:a.length=a0.length) (h:∀ i (h:i<a.length) (h':i<a0.length),Wk a[i] a0[i])
  (sa:b.length=b0.length) (h':∀ i (h:i<b.length) (h':i<b0.length),Wk b[i] b0[i]):Wk (.clo f a b) (.clo f a0 b0)
def Wh(H:ba)(a a':AV):Prop:=∀ (w:World) (C:Com) (ρ:Rho) (v:Value),bh w C ρ H→ao w C ρ H a v→ao w C ρ H a' v
theorem Wh.refl(a:AV):Wh H a a:=fun _ _ _ _ _ h=>h
theorem Wh.trans{a b c:AV}(h:Wh H a b)(h':Wh H b c):Wh H a c:=fun w C ρ v hR hr=>h' w C ρ v hR (h w C ρ v hR hr)
theorem Wh.junk(a:AV):Wh H a .junk:=fun _ _ _ v _ _=>.junk v
theorem Wh.agg{l l0:List AV}(hl:l.length=l0.length)(h:∀ i (h:i<l.length) (h':i<l0.length),Wh H l[i] l0[i]):Wh H (.agg l) (.agg l0):=by
 intro w C ρ v hR hr;cases hr with
 | agg _ vs h1 h2 h3=>exact .agg _ vs (by omega) h2 fun i hi bn=>h i (by omega) hi w C ρ _ hR (h3 i (by omega) bn)
theorem Wh.tup{l l0:List AV}(hl:l.length=l0.length)(h:∀ i (h:i<l.length) (h':i<l0.length),Wh H l[i] l0[i]):Wh H (.tup l) (.tup l0):=by
 intro w C ρ v hR hr;cases hr with
 | tup _ vs h1 h3=>exact .tup _ vs (by omega) fun i hi bn=>h i (by omega) hi w C ρ _ hR (h3 i (by omega) bn)
theorem Wh.clo{f:Fn}{a b a0 b0:List AV}(hl:a.length=a0.length)(h:∀ i (h:i<a.length) (h':i<a0.length),Wh H a[i] a0[i])
 (sa:b.length=b0.length) (h':∀ i (h:i<b.length) (h':i<b0.length),Wh H b[i] b0[i]):Wh H (.clo f a b) (.clo f a0 b0):=by
 intro w C ρ v hR hr;cases hr with
 | clo _ _ _ fv cv h1 h2 h3 h4=>exact .clo _ _ _ fv cv (by omega) (by omega) (fun i hi bn=>h i (by omega) hi w C ρ _ hR (h3 i (by omega) bn)) fun i hi bn=>h' i (by omega) hi w C ρ _ hR (h4 i (by omega) bn)
theorem Wk.wh{a a':AV}(h:Wk a a'):Wh H a a':=by
 induction h with
 | junk a=>exact .junk a
 | refl a=>exact .refl a
 | agg l l0 hl _ ih=>exact .agg hl ih
 | tup l l0 hl _ ih=>exact .tup hl ih
 | clo f a a0 b b0 hl _ sa _ ih ih'=>exact .clo hl ih sa ih'
theorem Wh.fn(f:FuncId):Wh H (.clo (.func f) [] []) (.d (.raw (.func (.func f) #[] #[]))):=by
 intro w C ρ v hR hr;cases hr with
 | clo _ _ _ fv cv h1 h2 h3 h4=>
  have e1:fv=[]:=List.eq_nil_of_length_eq_zero h1.symm;have e2:cv=[]:=List.eq_nil_of_length_eq_zero h2.symm;subst e1;subst e2;exact .d _ _ (.raw _)
theorem Wh.nils:Wh H .nils (.d (.sl [])):=by
 intro w C ρ v hR hr;cases hr;exact .d _ _ .nil
theorem vl{a:AV}{x:D}(h:Wk a (.d x)):a = .d x∨∃ f,a = .clo (.func f) [] []∧x = .raw (.func (.func f) #[] #[]):=by
 cases h with
 | refl=>exact .inl rfl
theorem qbe{a:AV}{kd:IntKind}{n:Int}(h:Wk a (.d (.int kd n))):a = .d (.int kd n):=by
 rcases vl h with h|⟨f,_,h⟩
 · exact h
 · simp at h
theorem qdi{a:AV}{b:Bool}(h:Wk a (.d (.bool b))):a = .d (.bool b):=by
 rcases vl h with h|⟨f,_,h⟩
 · exact h
 · simp at h
theorem qpm{a:AV}{l:List UInt8}(h:Wk a (.d (.str l))):a = .d (.str l):=by
 rcases vl h with h|⟨f,_,h⟩
 · exact h
 · simp at h
theorem abh{a:AV}{l:List (List D)}(h:Wk a (.d (.sl l))):a = .d (.sl l):=by
 rcases vl h with h|⟨f,_,h⟩
 · exact h
 · simp at h
theorem qri{a:AV}{b n o l:Nat}(h:Wk a (.own b n o l)):a = .own b n o l:=by cases h;rfl
theorem qde{a:AV}{b n i j:Nat}(h:Wk a (.ptr b n i j)):a = .ptr b n i j:=by cases h;rfl
theorem qgi{a:AV}{l:List D}(h:Wk a (.eptr l)):a = .eptr l:=by cases h;rfl
theorem qjk{a:AV}(h:Wk a .nils):a = .nils:=by cases h;rfl
def WkL(l l0:List AV):Prop:=l.length=l0.length∧∀ i (h:i<l.length) (h':i<l0.length),Wk l[i] l0[i]
theorem WkL.refl(l:List AV):WkL l l:=⟨rfl,fun _ _ _=>.refl _⟩
theorem qqa{a:AV}{l0:List AV}(h:Wk a (.agg l0)):∃ l,a = .agg l∧WkL l l0:=by
 cases h with
 | refl=>exact ⟨_,rfl,.refl _⟩
 | agg l _ hl h=>exact ⟨l,rfl,hl,h⟩
theorem ahv{a:AV}{l0:List AV}(h:Wk a (.tup l0)):∃ l,a = .tup l∧WkL l l0:=by
 cases h with
 | refl=>exact ⟨_,rfl,.refl _⟩
 | tup l _ hl h=>exact ⟨l,rfl,hl,h⟩
theorem qwr{a:AV}{f:Fn}{l l':List AV}(h:Wk a (.clo f l l')):∃ x y,a = .clo f x y∧WkL x l∧WkL y l':=by
 cases h with
 | refl=>exact ⟨_,_,rfl,.refl _,.refl _⟩
 | clo _ a _ b _ h1 h2 h3 h4=>exact ⟨a,b,rfl,⟨h1,h2⟩,⟨h3,h4⟩⟩
theorem WkL.nil:WkL [] []:=.refl _
theorem WkL.cons{a a0:AV}{l l0:List AV}(h:Wk a a0)(hl:WkL l l0):WkL (a::l) (a0::l0):=by
 refine ⟨by simp[hl.1],fun i h1 h2=>?_⟩
 cases i with
 | zero=>exact h
 | succ i=>exact hl.2 i (by simpa using h1) (by simpa using h2)
theorem WkL.inv_cons{a0:AV}{l l0:List AV}(h:WkL l (a0::l0)):∃ a l',l=a::l'∧Wk a a0∧WkL l' l0:=by
 cases l with
 | nil=>have:=h.1;simp at this
 | cons a l'=>
  refine ⟨a,l',rfl,h.2 0 (by simp) (by simp),by have:=h.1;simpa using this,fun i h1 h2=>?_⟩
  exact h.2 (i+1) (by simpa using h1) (by simpa using h2)
theorem WkL.inv_nil{l:List AV}(h:WkL l []):l=[]:=List.eq_nil_of_length_eq_zero (by simpa using h.1)
theorem WkL.append{a a0 b b0:List AV}(h:WkL a a0)(h':WkL b b0):WkL (a++b) (a0++b0):=by
 refine ⟨by simp[h.1,h'.1],fun i h1 h2=>?_⟩
 by_cases hi:i<a.length
 · rw[List.getElem_append_left hi,List.getElem_append_left (by rw[← h.1];exact hi)];exact h.2 _ _ _
 · have he:=h.1;rw[List.getElem_append_right (by omega),List.getElem_append_right (by omega)]
   simp only[he];exact h'.2 _ (by simp at h1;omega) (by simp at h2;omega)
theorem WkL.drop{l l0:List AV}(h:WkL l l0)(n:Nat):WkL (l.drop n) (l0.drop n):=
 ⟨by simp[h.1],fun i h1 h2=>by simp only[List.getElem_drop];exact h.2 _ _ _⟩
theorem WkL.take{l l0:List AV}(h:WkL l l0)(n:Nat):WkL (l.take n) (l0.take n):=
 ⟨by simp[h.1],fun i h1 h2=>by simp only[List.getElem_take];exact h.2 _ _ _⟩
theorem WkL.set{l l0:List AV}(h:WkL l l0){a a0:AV}(ha:Wk a a0)(n:Nat):WkL (l.set n a) (l0.set n a0):=by
 refine ⟨by simp[h.1],fun i h1 h2=>?_⟩
 by_cases hi:n=i
 · subst hi;simp only[List.getElem_set_self];exact ha
 · simp only[List.getElem_set_ne hi];exact h.2 _ _ _
theorem WkL.get{l l0:List AV}(h:WkL l l0){i:Nat}{a0:AV}(hi:l0[i]? = some a0):∃ a,l[i]? = some a∧Wk a a0:=by
 obtain ⟨h1,rfl⟩:=List.getElem?_eq_some_iff.1 hi;have h2:i<l.length:=by rw[h.1];exact h1
 exact ⟨l[i],List.getElem?_eq_getElem h2,h.2 _ _ _⟩
theorem WkL.setAt{cs cs0:List AV}:∀ {l l0:List AV} (_:WkL l l0) (_:WkL cs cs0) (j:Nat),WkL (setAt l j cs) (setAt l0 j cs0):=by
 induction cs0 generalizing cs with
 | nil=>intro l l0 h hc j;rw[hc.inv_nil];exact h
 | cons c0 cs0 ih=>
  intro l l0 h hc j;obtain ⟨c,cs',rfl,h1,h2⟩:=hc.inv_cons;exact ih (h.set h1 j) h2 (j+1)
def WkR(l l0:List (List AV)):Prop:=l.length=l0.length∧∀ i (h:i<l.length) (h':i<l0.length),WkL l[i] l0[i]
theorem WkR.refl(l:List (List AV)):WkR l l:=⟨rfl,fun _ _ _=>.refl _⟩
theorem WkR.nil:WkR [] []:=.refl _
theorem WkR.cons{a a0:List AV}{l l0:List (List AV)}(h:WkL a a0)(hl:WkR l l0):WkR (a::l) (a0::l0):=by
 refine ⟨by simp[hl.1],fun i h1 h2=>?_⟩
 cases i with
 | zero=>exact h
 | succ i=>exact hl.2 i (by simpa using h1) (by simpa using h2)
theorem WkR.append{a a0 b b0:List (List AV)}(h:WkR a a0)(h':WkR b b0):WkR (a++b) (a0++b0):=by
 refine ⟨by simp[h.1,h'.1],fun i h1 h2=>?_⟩
 by_cases hi:i<a.length
 · rw[List.getElem_append_left hi,List.getElem_append_left (by rw[← h.1];exact hi)];exact h.2 _ _ _
 · have he:=h.1;rw[List.getElem_append_right (by omega),List.getElem_append_right (by omega)]
   simp only[he];exact h'.2 _ (by simp at h1;omega) (by simp at h2;omega)
theorem WkR.get{l l0:List (List AV)}(h:WkR l l0){i:Nat}{a0:List AV}(hi:l0[i]? = some a0):∃ a,l[i]? = some a∧WkL a a0:=by
 obtain ⟨h1,rfl⟩:=List.getElem?_eq_some_iff.1 hi;have h2:i<l.length:=by rw[h.1];exact h1
 exact ⟨l[i],List.getElem?_eq_getElem h2,h.2 _ _ _⟩
theorem WkR.set{l l0:List (List AV)}(h:WkR l l0){a a0:List AV}(ha:WkL a a0)(n:Nat):WkR (l.set n a) (l0.set n a0):=by
 refine ⟨by simp[h.1],fun i h1 h2=>?_⟩
 by_cases hi:n=i
 · subst hi;simp only[List.getElem_set_self];exact ha
 · simp only[List.getElem_set_ne hi];exact h.2 _ _ _
theorem WkR.drop{l l0:List (List AV)}(h:WkR l l0)(n:Nat):WkR (l.drop n) (l0.drop n):=
 ⟨by simp[h.1],fun i h1 h2=>by simp only[List.getElem_drop];exact h.2 _ _ _⟩
theorem WkR.take{l l0:List (List AV)}(h:WkR l l0)(n:Nat):WkR (l.take n) (l0.take n):=
 ⟨by simp[h.1],fun i h1 h2=>by simp only[List.getElem_take];exact h.2 _ _ _⟩
def WkB(b b0:Blk):Prop:=b.fz=b0.fz∧b.ap=b0.ap∧b.ty=b0.ty∧b.sz=b0.sz∧WkR b.rows b0.rows
def WkO:Option Blk→Option Blk→Prop
 | none,none=>True
 | some b,some b0=>WkB b b0
 | _,_=>False
structure WkS(s s0:Sta):Prop where
 n:s.n=s0.n
 nx:s.nx=s0.nx
 tm:∀ t,Wk (s.tm t) (s0.tm t)
 H:∀ b,WkO (s.H b) (s0.H b)
theorem WkS.refl(s:Sta):WkS s s:=⟨rfl,rfl,fun _=>.refl _,fun b=>by cases h:s.H b with|none=>trivial|some x=>exact ⟨rfl,rfl,rfl,rfl,.refl _⟩⟩
structure WhB(H:ba)(b b0:Blk):Prop where
 fz:b0.fz=b.fz
 ap:b0.ap=b.ap
 ty:b0.ty=b.ty
 sz:b0.sz=b.sz
 len:b0.rows.length=b.rows.length
 row:∀ i (h:i<b.rows.length) (h':i<b0.rows.length),(b0.rows[i]).length=(b.rows[i]).length
 cell:∀ i (h:i<b.rows.length) (h':i<b0.rows.length) j (hj:j<(b.rows[i]).length) (gb:j<(b0.rows[i]).length),Wh H (b.rows[i])[j] (b0.rows[i])[j]
structure WhS(s s0:Sta):Prop where
 n:s0.n=s.n
 nx:s0.nx=s.nx
 tm:∀ t,Wh s.H (s.tm t) (s0.tm t)
 H:∀ b,(s.H b=none∧s0.H b=none)∨∃ x x0,s.H b=some x∧s0.H b=some x0∧WhB s.H x x0
theorem WkB.wh{b b0:Blk}(h:WkB b b0):WhB H b b0:=by
 obtain ⟨h1,h2,h3,h4,h5,h6⟩:=h;exact ⟨h1.symm,h2.symm,h3.symm,h4.symm,h5.symm,fun i hi bn=>(h6 i hi bn).1.symm,fun i hi bn j hj gb=>((h6 i hi bn).2 j hj gb).wh⟩
theorem WkS.wh{s s0:Sta}(h:WkS s s0):WhS s s0:=by
 refine ⟨h.n.symm,h.nx.symm,fun t=>(h.tm t).wh,fun b=>?_⟩
 have hb:=h.H b;cases h1:s.H b with
 | none=>
  cases h2:s0.H b with
  | none=>exact .inl ⟨rfl,rfl⟩
  | some y=>rw[h1,h2] at hb;exact hb.elim
 | some x=>
  cases h2:s0.H b with
  | none=>rw[h1,h2] at hb;exact hb.elim
  | some y=>rw[h1,h2] at hb;exact .inr ⟨x,y,rfl,rfl,WkB.wh hb⟩
theorem adf{s s0:Sta}(h:WhS s s0):Ext w C ρ s.H w C ρ s0.H:=by
 have hs:∀ b,(s0.H b).isSome=(s.H b).isSome:=fun b=>by
  rcases h.H b with ⟨h1,h2⟩|⟨x,x0,h1,h2,_⟩
  · rw[h1,h2]
  · rw[h1,h2];rfl
 refine ⟨fun _ _ h=>h,fun _ _ _=>rfl,fun b blk hb=>?_,rfl,rfl,rfl,Nat.le_refl _,fun _ _ _=>rfl,?_,fun _ _ h=>.inl h⟩
 · rcases h.H b with ⟨h1,_⟩|⟨x,x0,h1,h2,hx⟩
   · rw[h1] at hb;simp at hb
   · rw[h1] at hb;cases hb;exact ⟨x0,h2,hx.sz,by rw[hx.len];exact Nat.le_refl _,fun _=>rfl⟩
 · rintro r ⟨b,z,hb,hr⟩;rw[hs] at hb;exact .inl ⟨b,z,hb,hr⟩
theorem aph{s s0:Sta}(h:WhS s s0)(hR:bh w C ρ s.H):bh w C ρ s0.H:=by
 have e:=adf (w:=w) (C:=C) (ρ:=ρ) h
 have hs:∀ b,(s0.H b).isSome=(s.H b).isSome:=fun b=>by
  rcases h.H b with ⟨h1,h2⟩|⟨x,x0,h1,h2,_⟩
  · rw[h1,h2]
  · rw[h1,h2];rfl
 refine ⟨fun b blk hb=>?_,fun b b' r z z' dc hb et hr ei=>hR.dis b b' r z z' dc (by rw[← hs];exact hb) (by rw[← hs];exact et) hr ei,hR.com⟩
 rcases h.H b with ⟨_,h2⟩|⟨x,x0,h1,h2,hx⟩
 · rw[h2] at hb;simp at hb
 · rw[h2] at hb;cases hb;have h0:=hR.blk b x h1;unfold cw at h0 ⊢;cases hr:ρ b with
   | none=>
    rw[hr] at h0;simp only at h0 ⊢;exact ⟨by have:=hx.len;rw[h0.1] at this;exact List.eq_nil_of_length_eq_zero (by simpa using this),by rw[hx.ap];exact h0.2⟩
   | some p=>
    obtain ⟨r,z⟩:=p;rw[hr] at h0;simp only at h0 ⊢;obtain ⟨⟨cs,lo,hh,a1,a2,a3,a4,a5,a6,a7⟩,a8,a9⟩:=h0;refine ⟨⟨cs,lo,hh,by rw[hx.ty];exact a1,a2,by rw[hx.fz,hx.ap];exact a3,by rw[hx.fz];exact a4,by rw[hx.len,hx.sz];exact a5,fun i hi=>?_,fun i j hi hj=>?_⟩,by rw[hx.fz];exact a8,by rw[hx.fz,hx.len,hx.sz];exact a9⟩
    · have bn:i<x.rows.length:=by rw[← hx.len];exact hi
      rw[hx.row i bn hi,hx.sz];exact a6 i bn
    · have bn:i<x.rows.length:=by rw[← hx.len];exact hi
      have gb:j<(x.rows[i]).length:=by rw[← hx.row i bn hi];exact hj
      obtain ⟨v,v1,v2,v3⟩:=a7 i j bn gb;exact ⟨v,by rw[hx.sz];exact v1,v2,(hx.cell i bn hi j gb hj w C ρ v hR v3).mono e⟩
theorem Ent.wh{s s0:Sta}(h:WhS s s0):Ent k s s0:=by
 rintro G B a w hk ⟨C,ρ,hi⟩;have e:=adf (w:=w) (C:=C) (ρ:=ρ) h;refine ⟨C,ρ,⟨fun t=>?_,by rw[h.n];exact hi.rel.size,aph h hi.rel.h,trivial,hi.rel.defers⟩,fun b hb=>?_,hi.ext.trans e,hi.glob,hi.marks⟩
 · exact (h.tm t w C ρ _ hi.rel.h (hi.rel.tm t)).mono e
 · have et:s.H b=none:=hi.nx b (by rw[← h.nx];exact hb)
   rcases h.H b with ⟨_,h2⟩|⟨x,x0,h1,_⟩
   · exact h2
   · rw[h1] at et;simp at et
theorem Ent.wk{s s0:Sta}(h:WkS s s0):Ent k s s0:=.wh h.wh
theorem Ent.pin{s:Sta}(bs:List Nat):Ent k s { s with H:=dl bs s.H }:=by
 rintro G B a w hk ⟨C,ρ,hi⟩;have e:=ma (w:=w) (C:=C) (ρ:=ρ) (H:=s.H) bs;refine ⟨u6 bs s.H ρ C,ρ,⟨fun t=>(hi.rel.tm t).mono e,hi.rel.size,qwp hi.rel.h bs,trivial,hi.rel.defers⟩,fun b hb=>?_,hi.ext.trans e,hi.glob.mono e.com e.cell,hi.marks⟩
 have:s.H b=none:=hi.nx b hb
 show dl bs s.H b=none
 unfold dl
 split<;>simp[this]
theorem Wh.frz{b:Nat}{blk:Blk}{xs:List (List D)}(hb:H b=some blk)(hf:blk.fz=true)(hr:blk.rows=xs.map (·.map .d)):Wh H (.own b xs.length 0 xs.length) (.d (.sl xs)):=by
 intro w C ρ v hR h
 have ht:(xs.map (·.map AV.d)).take xs.length=xs.map (·.map AV.d):=List.take_of_length_le (by simp)
 have eu:∀ row∈xs.map (·.map AV.d),∃ y:List D,row=y.map .d:=fun row ak=>by
  obtain ⟨y,_,rfl⟩:=List.mem_map.1 ak;exact ⟨y,rfl⟩
 have h1:=ag4 hR (C1:=C) (fun _ _ h=>h) 1 _ v h (by
  simp only[j8,hb,hr,List.length_map,decide_true,Bool.true_and,Nat.zero_add,Nat.le_refl,drop_zero,ht,all_eq_true];intro row ak;obtain ⟨y,rfl⟩:=eu row ak;intro c hc;obtain ⟨z,_,rfl⟩:=List.mem_map.1 hc;rfl) (by
  intro b' blk' r s et hH hρ o ho;simp only[fh,hb,hr,drop_zero,ht,List.mem_cons] at et;rcases et with rfl|et
  · rw[hb] at hH;cases hH;have h0:=hR.blk b' blk hb;unfold cw at h0;rw[hρ] at h0;exact h0.2.2 hf o ho
  · exfalso
    obtain ⟨row,ak,et⟩:=List.mem_flatMap.1 et;obtain ⟨y,rfl⟩:=eu row ak;obtain ⟨c,hc,et⟩:=List.mem_flatMap.1 et;obtain ⟨z,_,rfl⟩:=List.mem_map.1 hc;simp[] at et)
 have h2:lw 1 H (.own b xs.length 0 xs.length) = .sl xs:=by
  simp only[lw,hb,hr,drop_zero,ht,map_map]
  congr 1
  have e1:(lw 0 H∘AV.d)=id:=by funext z;rfl
  have e2:((fun l=>map (lw 0 H) l)∘fun l=>map AV.d l)=id:=by
   funext y
   simp only[Function.comp,map_map,e1,map_id,id]
  rw[e2,map_id]
 rw[h2] at h1;exact .d _ _ h1
end Am

namespace Am
open Go
variable {P:Program}{G:bl}
inductive D.WF:D→Prop
 | int (k:IntKind) (n:Int):D.WF (.int k n)
 | bool (b:Bool):D.WF (.bool b)
 | str (l:List UInt8):D.WF (.str l)
 | raw (v:Value) (h:v.oneCell' = true):D.WF (.raw v)
 | sl (xs:List (List D)) (h:∀ r∈xs,∀ c∈r,D.WF c):D.WF (.sl xs)
def EWF(e:Env):Prop:=∀ d∈e,D.WF d
theorem D.one_wf{d:D}(h:d.one=true):d.WF:=by
 cases d with
 | int=>exact .int _ _
 | bool=>exact .bool _
 | str=>exact .str _
 | raw v=>exact .raw v h
 | sl xs=>cases xs with
  | nil=>exact .sl _ (fun r hr=>by simp at hr)
  | cons=>simp[D.one] at h
theorem SA.val_wf{e:Env}(he:EWF e){x:SA}(h:x.ok e.length=true):(x.val e).WF:=by
 cases x with
 | v x=>
  have hx:x<e.length:=by simpa [SA.ok,Nat.blt,Nat.succ_le_iff] using h
  simp only[SA.val,List.getD_eq_getElem?_getD,List.getElem?_eq_getElem hx,Option.getD_some];exact he _ (getElem_mem hx)
 | c d=>exact D.one_wf h
theorem EWF.append{e o:Env}(h:EWF e)(h':EWF o):EWF (e++o):=fun d hd=>(List.mem_append.1 hd).elim (h d) (h' d)
theorem EWF.map{e:Env}(he:EWF e){l:List SA}(h:l.all (SA.ok e.length)=true):EWF (l.map (·.val e)):=by
 intro d hd;obtain ⟨x,hx,rfl⟩:=List.mem_map.1 hd;exact SA.val_wf he (List.all_eq_true.1 h x hx)
theorem qrh{a b:Nat}:Nat.blt a b=true↔a<b:=by simp[Nat.blt,Nat.succ_le_iff]
theorem SA.ok_mono{m m':Nat}(h:m≤m'){x:SA}(hx:x.ok m=true):x.ok m' = true:=by
 cases x with
 | v x=>simp only[SA.ok,qrh] at hx ⊢;omega
 | c d=>exact hx
mutual
theorem SV.ok_mono{m m':Nat}(h:m≤m'):∀ {v:SV},v.ok m=true→v.ok m' = true
 | .atm (.v x),hv=>by simp only[SV.ok,qrh] at hv ⊢;omega
 | .atm (.c d),_=>rfl
 | .nils,_=>rfl
 | .agg cs,hv=>SV.okL_mono h (l:=cs) hv
 | .tup cs,hv=>SV.okL_mono h (l:=cs) hv
 | .own _,_=>rfl
 | .ptr _ _ _,_=>rfl
 | .px _ x _,hv=>SA.ok_mono h (x:=x) hv
 | .ep cs,hv=>by
  simp only[SV.ok,all_eq_true] at hv ⊢;exact fun x hx=>SA.ok_mono h (hv x hx)
 | .clo _ a b,hv=>by
  simp only[SV.ok,and_eq_true] at hv ⊢;exact ⟨SV.okL_mono h hv.1,SV.okL_mono h hv.2⟩
 | .junk,_=>rfl
theorem SV.okL_mono{m m':Nat}(h:m≤m'):∀ {l:List SV},SV.okL m l=true→SV.okL m' l=true
 | [],_=>rfl
 | c::cs,hv=>by
  simp only[SV.okL,and_eq_true] at hv ⊢;exact ⟨SV.ok_mono h hv.1,SV.okL_mono h hv.2⟩
end
theorem SV.okL_all{m:Nat}{l:List SV}:SV.okL m l=true↔∀ v∈l,v.ok m=true:=by
 induction l with
 | nil=>simp[SV.okL]
 | cons c l ih=>simp[SV.okL,ih]
theorem SB.ok_mono{m m':Nat}(h:m≤m'){b:SB}(hb:b.ok m=true):b.ok m' = true:=by
 simp only[SB.ok,and_eq_true,all_eq_true] at hb ⊢;exact ⟨SA.ok_mono h hb.1,fun r hr=>SV.okL_mono h (hb.2 r hr)⟩
theorem SA.val_ext{e:Env}(o:Env){x:SA}(h:x.ok e.length=true):x.val (e++o)=x.val e:=by
 cases x with
 | v x=>
  have hx:x<e.length:=by simpa [SA.ok,Nat.blt,Nat.succ_le_iff] using h
  simp only[SA.val,List.getD_eq_getElem?_getD,List.getElem?_append_left hx]
 | c d=>rfl
theorem SA.val_ext'{e:Env}(o:Env){x:SA}(h:(SV.atm x).ok e.length=true):x.val (e++o)=x.val e:=by
 cases x with
 | v x=>exact SA.val_ext o (x:=.v x) h
 | c d=>rfl
theorem apr{e:Env}(o:Env){l:List SA}(h:l.all (SA.ok e.length)=true):l.map (·.val (e++o))=l.map (·.val e):=by
 refine List.map_congr_left fun x hx=>SA.val_ext o (List.all_eq_true.1 h x hx)
mutual
theorem SV.inst_ext{e:Env}(o:Env)(ln:Nat→Nat):∀ {v:SV},v.ok e.length=true→v.inst (e++o) ln=v.inst e ln
 | .atm x,h=>by simp only[SV.inst];rw[SA.val_ext' o h]
 | .nils,_=>rfl
 | .agg cs,h=>by simp only[SV.inst];rw[SV.instL_ext o ln (l:=cs) h]
 | .tup cs,h=>by simp only[SV.inst];rw[SV.instL_ext o ln (l:=cs) h]
 | .own _,_=>rfl
 | .ptr _ _ _,_=>rfl
 | .px _ x _,h=>by simp only[SV.inst];rw[SA.val_ext o (x:=x) h]
 | .ep cs,h=>by simp only[SV.inst];rw[apr o h]
 | .clo _ a b,h=>by
  simp only[SV.ok,and_eq_true] at h;simp only[SV.inst];rw[SV.instL_ext o ln h.1,SV.instL_ext o ln h.2]
 | .junk,_=>rfl
theorem SV.instL_ext{e:Env}(o:Env)(ln:Nat→Nat):∀ {l:List SV},SV.okL e.length l=true→SV.instL (e++o) ln l=SV.instL e ln l
 | [],_=>rfl
 | c::cs,h=>by
  simp only[SV.okL,and_eq_true] at h;simp only[SV.instL];rw[SV.inst_ext o ln h.1,SV.instL_ext o ln h.2]
end
mutual
theorem SV.inst_ln{e:Env}{ln ln':Nat→Nat}{p:Nat→Bool}(hp:∀ b,p b=false→ln b=ln' b):∀ {v:SV},v.has p=false→v.inst e ln=v.inst e ln'
 | .atm x,_=>rfl
 | .nils,_=>rfl
 | .agg cs,h=>by simp only[SV.inst];rw[SV.instL_ln hp (l:=cs) h]
 | .tup cs,h=>by simp only[SV.inst];rw[SV.instL_ln hp (l:=cs) h]
 | .own b,h=>by simp only[SV.inst];rw[hp b h]
 | .ptr b _ _,h=>by simp only[SV.inst];rw[hp b h]
 | .px b _ _,h=>by simp only[SV.inst];rw[hp b h]
 | .ep _,_=>rfl
 | .clo _ a b,h=>by
  simp only[SV.has,Bool.or_eq_false_iff] at h;simp only[SV.inst];rw[SV.instL_ln hp h.1,SV.instL_ln hp h.2]
 | .junk,_=>rfl
theorem SV.instL_ln{e:Env}{ln ln':Nat→Nat}{p:Nat→Bool}(hp:∀ b,p b=false→ln b=ln' b):∀ {l:List SV},SV.hasL p l=false→SV.instL e ln l=SV.instL e ln' l
 | [],_=>rfl
 | c::cs,h=>by
  simp only[SV.hasL,Bool.or_eq_false_iff] at h;simp only[SV.instL];rw[SV.inst_ln hp h.1,SV.instL_ln hp h.2]
end
theorem SV.instL_map(e:Env)(ln:Nat→Nat)(l:List SV):SV.instL e ln l=l.map (SV.inst e ln):=by
 induction l with
 | nil=>rfl
 | cons c l ih=>simp[SV.instL,ih]
theorem qee(l:List SV):∀ (d:Nat) (v:SV) (t:Nat),bo (jc l d v) t=if t=d then v else bo l t:=by
 induction l with
 | nil=>
  intro d
  induction d with
  | zero=>intro v t;cases t<;>simp[jc,bo]
  | succ d ih=>intro v t;cases t<;>simp[jc,bo,ih]
 | cons a l ih=>
  intro d v t;cases d with
  | zero=>cases t<;>simp[jc,bo]
  | succ d=>cases t<;>simp[jc,bo,ih]
theorem qbc(l:List (Option SB)):∀ (d:Nat) (v:SB) (t:Nat),am (g9 l d v) t=if t=d then some v else am l t:=by
 induction l with
 | nil=>
  intro d
  induction d with
  | zero=>intro v t;cases t<;>simp[g9,am]
  | succ d ih=>intro v t;cases t<;>simp[g9,am,ih]
 | cons a l ih=>
  intro d v t;cases d with
  | zero=>cases t<;>simp[g9,am]
  | succ d=>cases t<;>simp[g9,am,ih]
theorem qwd{f:SV→SV}(hf:f .junk = .junk)(l:List SV):∀ t,bo (l.map f) t=f (bo l t):=by
 induction l with
 | nil=>intro t;simp[bo,hf]
 | cons a l ih=>intro t;cases t<;>simp[bo,ih]
theorem a1t{f:SB→SB}(l:List (Option SB)):∀ t,am (l.map (·.map f)) t=(am l t).map f:=by
 induction l with
 | nil=>intro t;simp[am]
 | cons a l ih=>intro t;cases t<;>simp[am,ih]
theorem ayo(p:Nat→Bool):SV.kill p .junk = .junk:=by simp[SV.kill]
theorem qoe(σ:SS)(p:Nat→Bool)(t:Nat):bo (σ.kill p).tm t=(bo σ.tm t).kill p:=qwd (ayo p) _ t
theorem qsc(σ:SS)(p:Nat→Bool)(b:Nat):am (σ.kill p).H b=(am σ.H b).map (SB.kill p):=a1t _ b
theorem a6q(e:Env)(p:Nat→Bool)(k:SB):(k.kill p).len e=k.len e:=by simp[SB.len,SB.kill]
theorem qzl(e:Env)(σ:SS)(p:Nat→Bool)(b:Nat):ae e (σ.kill p).H b=ae e σ.H b:=by
 unfold ae;rw[qsc];cases am σ.H b with
 | none=>rfl
 | some k=>exact a6q e p k
theorem qge(e:Env)(H:List (Option SB))(b:Nat)(k:SB)(x:Nat):ae e (g9 H b k) x=if x=b then k.len e else ae e H x:=by
 unfold ae;rw[qbc]
 by_cases h:x=b
 · rw[if_pos h,if_pos h]
 · rw[if_neg h,if_neg h]
theorem SB.len_ext{e:Env}(o:Env){k:SB}(h:k.ok e.length=true):k.len (e++o)=k.len e:=by
 simp only[SB.ok,and_eq_true] at h;simp only[SB.len];rw[SA.val_ext o h.1]
theorem qoj{e:Env}(o:Env){H:List (Option SB)}(h:∀ b k,am H b=some k→k.ok e.length=true)(b:Nat):ae (e++o) H b=ae e H b:=by
 unfold ae;cases hb:am H b with
 | none=>rfl
 | some k=>exact SB.len_ext o (h b k hb)
theorem SV.kill_wk{e:Env}{ln ln':Nat→Nat}{p:Nat→Bool}(hp:∀ b,p b=false→ln b=ln' b)(v:SV){a:AV}(h:Wk a (v.inst e ln)):Wk a ((v.kill p).inst e ln'):=by
 unfold SV.kill
 split
 · exact .junk a
 · rename_i hh;rw[← SV.inst_ln hp (by simpa using hh)];exact h
theorem SV.kill_ok{m:Nat}(p:Nat→Bool){v:SV}(h:v.ok m=true):(v.kill p).ok m=true:=by
 unfold SV.kill
 split
 · rfl
 · exact h
theorem SB.rows_len(e:Env)(ln:Nat→Nat)(k:SB):(k.rows e ln).length=k.len e:=by simp[SB.rows,SB.len]
theorem au3{e:Env}{ln ln':Nat→Nat}{p:Nat→Bool}(hp:∀ b,p b=false→ln b=ln' b){X:List (List AV)}{l:List (List SV)}(h:WkR X (l.map (SV.instL e ln))):WkR X ((l.map (·.map (SV.kill p))).map (SV.instL e ln')):=by
 obtain ⟨h1,h2⟩:=h;refine ⟨by simpa using h1,fun i hi bn=>?_⟩
 have hi2:i<(l.map (SV.instL e ln)).length:=by simpa using bn
 obtain ⟨g1,g2⟩:=h2 i hi hi2;simp only[getElem_map,SV.instL_map] at g1 g2 ⊢;refine ⟨by simpa using g1,fun j hj gb=>?_⟩
 simp only[getElem_map];have hj2:j<(map (SV.inst e ln) (l[i]'(by simpa using bn))).length:=by simpa using gb
 have:=g2 j hj hj2;exact SV.kill_wk hp _ (by simpa using this)
theorem qgv{X:List (List AV)}{a b:List (List AV)}(h:WkR X (a++b)):∃ x y,X=x++y∧WkR x a∧WkR y b:=by
 refine ⟨X.take a.length,X.drop a.length,(List.take_append_drop _ _).symm,?_,?_⟩
 · have:=h.take a.length
   rwa [List.take_left' rfl] at this
 · have:=h.drop a.length
   rwa [List.drop_left' rfl] at this
theorem qst{e:Env}{ln ln':Nat→Nat}{p:Nat→Bool}(hp:∀ b,p b=false→ln b=ln' b){k:SB}{X:List (List AV)}(h:WkR X (k.rows e ln)):WkR X ((k.kill p).rows e ln'):=by
 unfold SB.rows at h ⊢;obtain ⟨x,y,rfl,h1,h2⟩:=qgv h;exact h1.append (au3 hp h2)
structure Sat(e:Env)(σ:SS)(s:Sta):Prop where
 wf:EWF e
 tm:∀ t,(bo σ.tm t).ok e.length=true
 H:∀ b k,am σ.H b=some k→k.ok e.length=true
 sl:∀ b k,am σ.H b=some k→∃ xs,k.d.val e = .sl xs
 wk:WkS s (σ.inst e)
theorem Sat.get{e:Env}{σ:SS}{s:Sta}(h:Sat e σ s)(t:Nat):Wk (s.tm t) ((bo σ.tm t).inst e (ae e σ.H)):=h.wk.tm t
theorem Sat.blk{e:Env}{σ:SS}{s:Sta}(h:Sat e σ s){b:Nat}{k:SB}(hb:am σ.H b=some k):∃ x,s.H b=some x∧WkB x (k.inst e (ae e σ.H)):=by
 have:=h.wk.H b;simp only[SS.inst,hb,map_some] at this;cases hx:s.H b with
 | none=>rw[hx] at this;exact this.elim
 | some x=>rw[hx] at this;exact ⟨x,rfl,this⟩
theorem Sat.none{e:Env}{σ:SS}{s:Sta}(h:Sat e σ s){b:Nat}(hb:am σ.H b=none):s.H b=none:=by
 have:=h.wk.H b;simp only[SS.inst,hb,Option.map_none] at this;cases hx:s.H b with
 | none=>rfl
 | some x=>rw[hx] at this;exact this.elim
theorem qr{e:Env}{H:List (Option SB)}{b:Nat}{k:SB}(h:am H b=some k):ae e H b=k.len e:=by simp[ae,h]
def db:List (PO × List SA)→Env→Option Env
 | [],e=>some e
 | p::l,e=>match p.1.eval (p.2.map (·.val e)) with|some o=>db l (e++o)|none=>none
theorem qhe{run:Nat→PF}{k:IR}{J:List PF}{r:List D}:∀ (em:List (PO × List SA)) (e:Env),den run (s7 em k) e J=some r→∃ e',db em e=some e'∧den run k e' J=some r:=by
 intro em
 induction em with
 | nil=>intro e h;exact ⟨e,rfl,h⟩
 | cons p l ih=>
  intro e h;simp only[s7,den] at h
  split at h
  · rename_i o ho;obtain ⟨e',h1,h2⟩:=ih _ h;exact ⟨e',by simp only[db,ho];exact h1,h2⟩
  · simp at h
theorem qmk{sz:Nat}:∀ {n:Nat} {l:List D} {r:List D},r∈dp sz n l→∀ c∈r,c∈l:=by
 intro n
 induction n with
 | zero=>intro l r h;simp[dp] at h
 | succ n ih=>
  intro l r h c hc;simp only[dp,List.mem_cons] at h;rcases h with rfl|h
  · exact List.mem_of_mem_take hc
  · exact List.mem_of_mem_drop (ih h c hc)
theorem aru:∀ {cs:List D} {row:List D} {j:Nat} {c:D},c∈uc row j cs→c∈row∨c∈cs:=by
 intro cs
 induction cs with
 | nil=>intro row j c h;exact .inl h
 | cons x cs ih=>
  intro row j c h;rcases ih h with h|h
  · rcases List.mem_or_eq_of_mem_set h with h|rfl
    · exact .inl h
    · exact .inr (by simp)
  · exact .inr (by simp[h])
theorem are{op:BinOp}{a b c:D}(h:ac op a b=some c):c.WF:=by
 unfold ac at h
 repeat' split at h
 all_goals first
  | (simp at h;done)
  | (simp only[Option.some.injEq] at h;subst h;first|exact .int _ _|exact .bool _|exact .str _)
theorem a41{op:UnOp}{a c:D}(h:aUn op a=some c):c.WF:=by
 unfold aUn at h
 repeat' split at h
 all_goals first
  | (simp at h;done)
  | (simp only[Option.some.injEq] at h;subst h;first|exact .int _ _|exact .bool _|exact .str _)
theorem D.WF.rows{xs:List (List D)}(h:D.WF (.sl xs)):∀ r∈xs,∀ c∈r,D.WF c:=by cases h with|sl _ h=>exact h
theorem PO.eval_wf{p:PO}{args outs:List D}(hp:p.okP=true)(ha:EWF args)(h:p.eval args=some outs):EWF outs:=by
 have one:∀ {d:D},d.WF→EWF [d]:=fun hd d zu=>by simp at zu;subst zu;exact hd
 have h1:∀ {x:Option D} {o:List D},one1 x=some o→(∀ d,x=some d→d.WF)→EWF o:=by
  intro x o h hx;unfold one1 at h;simp only[map_eq_some_iff] at h;obtain ⟨d,hd,rfl⟩:=h;exact one (hx d hd)
 have bys:∀ (l:List UInt8),∀ r∈l.map (fun c=>[D.int .u8 c.toNat]),∀ c∈r,c.WF:=by
  intro l r hr c hc;obtain ⟨x,_,rfl⟩:=List.mem_map.1 hr;simp at hc;subst hc;exact .int _ _
 unfold PO.eval at h
 repeat' split at h
 all_goals first
  | (simp at h;done)
  | exact h1 h fun d hd=>are hd
  | exact h1 h fun d hd=>a41 hd
  | (simp only[Option.some.injEq] at h;subst h;first|exact one (.int _ _)|exact one (.str _)|exact one (.bool _)|(intro d hd;cases hd;done))
  | (simp only[Option.some.injEq] at h;subst h;refine one ?_;apply ha;simp;done)
  | skip
 ·
  rename_i xs kd n hn _ r hr hl;simp only[Option.some.injEq] at h;subst h;have l4:=ha (.sl xs) (by simp)
  exact fun c hc=>l4.rows _ (mem_of_getElem? hr) c hc
 · rename_i sz xs _ a _ b hc;simp only[Option.some.injEq] at h;subst h;have l4:=(ha (.sl xs) (by simp)).rows
   exact one (.sl _ fun r hr=>l4 r (List.mem_of_mem_take (List.mem_of_mem_drop hr)))
 · rename_i sz bt xs ys hc;simp only[Option.some.injEq] at h;subst h;have h1:=(ha (.sl xs) (by simp)).rows
   have h2:=(ha (.sl ys) (by simp)).rows
   exact one (.sl _ fun r hr=>(List.mem_append.1 hr).elim (h1 r) (h2 r))
 · rename_i bt xs l hc;simp only[Option.some.injEq] at h;subst h;have h1:=(ha (.sl xs) (by simp)).rows
   exact one (.sl _ fun r hr=>(List.mem_append.1 hr).elim (h1 r) (bys l r))
 · rename_i sz n l hc;simp only[Option.some.injEq] at h;subst h;exact one (.sl _ fun r hr c hc=>ha c (qmk hr c hc))
 · rename_i xs ys;simp only[Option.some.injEq] at h;subst h;have h1:=(ha (.sl xs) (by simp)).rows
   have h2:=(ha (.sl ys) (by simp)).rows
   exact one (.sl _ fun r hr=>(List.mem_append.1 hr).elim (h1 r) (h2 r))
 · rename_i bt z _ n hc;simp only[Option.some.injEq] at h;subst h;refine one (.sl _ fun r hr c hc=>?_)
   obtain ⟨_,rfl⟩:=List.mem_replicate.1 hr;exact D.one_wf (List.all_eq_true.1 hp c hc)
 · rename_i j k xs _ n hn _ r hr hl;simp only[Option.some.injEq] at h;subst h;have l4:=(ha (.sl xs) (by simp)).rows
   exact fun c hc=>l4 _ (mem_of_getElem? hr) c (List.mem_of_mem_drop (List.mem_of_mem_take hc))
 · rename_i j k xs _ n cs hn _ r hr hl;simp only[Option.some.injEq] at h;subst h;have l4:=(ha (.sl xs) (by simp)).rows
   refine one (.sl _ fun r' ei c hc=>?_)
   rcases List.mem_or_eq_of_mem_set ei with h|rfl
   · exact l4 _ h c hc
   · rcases aru hc with h|h
     · exact l4 _ (mem_of_getElem? hr) c h
     · exact ha c (by simp[h])
 · rename_i k _ n cs hc;exact h1 h fun d hd=>ha d (by simp[mem_of_getElem? hd])
 · simp only[map_eq_some_iff] at h;obtain ⟨_,_,rfl⟩:=h;exact one (.str _)
 · rename_i l;simp only[Option.some.injEq] at h;subst h;exact one (.sl _ (bys l))
theorem qje:∀ {em:List (PO × List SA)} {e e':Env},db em e=some e'→∃ o,e' = e++o∧o.length=li em:=by
 intro em
 induction em with
 | nil=>intro e e' h;simp only[db] at h;cases h;exact ⟨[],by simp,rfl⟩
 | cons p l ih=>
  intro e e' h;simp only[db] at h
  split at h
  · rename_i o ho;obtain ⟨o',rfl,h2⟩:=ih h;exact ⟨o++o',by simp,by simp[h2,li,PO.eval_len ho]⟩
  · simp at h
theorem a4d:∀ {em:List (PO × List SA)} {e e':Env},EWF e→r8 e.length em=true→db em e=some e'→EWF e':=by
 intro em
 induction em with
 | nil=>intro e e' he _ h;simp only[db] at h;cases h;exact he
 | cons p l ih=>
  intro e e' he hk h;simp only[r8,and_eq_true] at hk;simp only[db] at h
  split at h
  · rename_i o ho;exact ih (he.append (PO.eval_wf hk.1.1 (he.map hk.1.2) ho)) (by simp[PO.eval_len ho];exact hk.2) h
  · simp at h
end Am

namespace Am
open Go
variable {P:Program}{G:bl}
structure agj(P:Program)(t:Nat)(tf:TF):Prop where
 sz:tsz P t=tf.sz
 bt:tby P t=tf.bt
 ti:tin P t=tf.ti
 tu:tun P t=tf.tu
 agg:gc P t=tf.agg
 elem:cb P t=tf.elem
 arr:iu P t=tf.arr
 int:ia P t=tf.int
 str:gj P t=tf.str
 bool:d9 P t=tf.bool
 zero:dn P t=tf.zero
 flds:∀ (f:Nat) (x:Nat × Nat),tf.flds[f]? = some x→gt P t f=some x
 place:∀ pl,tf.place=some pl→lh P t=some pl
def TOK(P:Program)(T:Tab):Prop:=∀ t tf,T.get t=some tf→agj P t tf
structure GOK(G:bl)(SG:ef):Prop where
 g:∀ g cs,SG.get g=some cs→G g=some cs
 one:∀ g cs,SG.get g=some cs→cs.all D.one=true
def yp(e:Env)(ln:Nat→Nat):List (Nat × Blk)→List (Nat × SB)→Prop
 | [],[]=>True
 | p::l,q::l'=>p.1=q.1∧WkB p.2 (q.2.inst e ln)∧yp e ln l l'
 | _,_=>False
def lnU(e':Env)(σ:SS)(up:List (Nat × SB)):Nat→Nat:=ae e' (jz σ.H up)
structure au(P:Program)(G:bl)(id:Nat)(op:Op)(e e':Env)(σ:SS)(s:Sta)(r:SR)(res:Res):Prop where
 ex:ag P id (evA G s.tm) s.H op=some res
 v:Wk res.v (r.v.inst e' (lnU e' σ r.up))
 hs:yp e' (lnU e' σ r.up) res.hs r.up
 rb:res.rb=r.rb
 ln:∀ b,inL r.gr b=false→lnU e' σ r.up b=ae e σ.H b
 sl:∀ p∈r.up,∃ xs,p.2.d.val e' = .sl xs
theorem qwt{e:Env}{ln:Nat→Nat}(v:Value):(wg v).inst e ln=lg v:=by
 unfold wg
 split
 · rfl
 · rfl
 · rfl
 · rfl
 · unfold lg
   split<;>simp_all [SV.inst,SA.val]
theorem qfh{e:Env}{ln:Nat→Nat}(v:Value):(rq v).inst e ln=fe v:=by
 unfold rq
 split
 · rename_i cs
   show _=if cs.all (·.oneCell') then AV.agg (cs.toList.map lg) else .junk
   split
   · simp only[SV.inst,SV.instL_map,map_map]
     congr 1
     exact List.map_congr_left fun v _=>qwt v
   · rfl
 · rename_i dc;unfold fe
   split
   · rename_i cs;exact absurd rfl (dc cs)
   · exact qwt _
theorem ag9(m:Nat)(v:Value):(wg v).ok m=true:=by
 unfold wg
 split<;>rfl
theorem agt(m:Nat)(v:Value):(rq v).ok m=true:=by
 unfold rq
 split
 · split
   · simp only[SV.ok,SV.okL_all];intro x hx;obtain ⟨y,_,rfl⟩:=List.mem_map.1 hx;exact ag9 m y
   · rfl
 · exact ag9 _ _
theorem apv(e:Env)(cs:List D):(cs.map SA.c).map (·.val e)=cs:=by
 rw[map_map];have:((fun x=>SA.val e x)∘SA.c)=id:=rfl
 rw[this,map_id]
section
variable {T:Tab}{SG:ef}{σ:SS}{e e':Env}{s:Sta}{id:Nat}
theorem hev(hS:Sat e σ s)(hG:GOK G SG)(x:Operand):Wk (evA G s.tm x) ((sev SG σ x).inst e (ae e σ.H)):=by
 cases x with
 | tmp t=>exact hS.get t
 | const v=>simp only[evA,sev];rw[qfh];exact .refl _
 | global g=>
  simp only[evA,sev];cases hg:SG.get g with
  | none=>exact .junk _
  | some cs=>
   simp only[hG.g g cs hg,SV.inst,apv];exact .refl _
 | func f=>exact .refl _
theorem hok(hS:Sat e σ s)(hG:GOK G SG)(x:Operand):(sev SG σ x).ok e.length=true:=by
 cases x with
 | tmp t=>exact hS.tm t
 | const v=>exact agt _ v
 | global g=>
  simp only[sev];cases hg:SG.get g with
  | none=>rfl
  | some cs=>
   have:=hG.one g cs hg;simp only[all_eq_true] at this;simp only[SV.ok,all_eq_true];intro x hx;obtain ⟨d,hd,rfl⟩:=List.mem_map.1 hx;exact this d hd
 | func f=>rfl
theorem qvq(hS:Sat e σ s)(o:Env):lnU (e++o) σ []=ae e σ.H:=by
 funext b
 exact qoj o hS.H b
theorem au.pure(hS:Sat e σ s){op:Op}{o:Env}{v:SV}{em:List (PO × List SA)}{av:AV}{rb:List Nat}(ip:ag P id (evA G s.tm) s.H op=some { v:=av,hs:=[],rb })(hv:Wk av (v.inst (e++o) (ae e σ.H))) :
 ∃ res,au P G id op e (e++o) σ s { em,v,rb } res:=
 ⟨_,ip,by show Wk av (v.inst (e++o) (lnU (e++o) σ []));rw[qvq hS];exact hv,trivial,rfl,fun b _=>by show lnU (e++o) σ [] b=_;rw[qvq hS],fun p hp=>absurd hp List.not_mem_nil⟩
theorem au.pure0(hS:Sat e σ s){op:Op}{v:SV}{em:List (PO × List SA)}{av:AV}{rb:List Nat}(ip:ag P id (evA G s.tm) s.H op=some { v:=av,hs:=[],rb })(hv:Wk av (v.inst e (ae e σ.H))) :
 ∃ res,au P G id op e e σ s { em,v,rb } res:=by
 have:=au.pure (o:=[]) (em:=em) hS ip (by rw[append_nil];exact hv)
 rwa [append_nil] at this
theorem qok(hS:Sat e σ s)(o:Env)(b:Nat)(k:SB):lnU (e++o) σ [(b,k)]=fun x=>if x=b then k.len (e++o) else ae e σ.H x:=by
 funext x
 simp only[lnU,jz,qge]
 split
 · rfl
 · exact qoj o hS.H x
theorem au.one(hS:Sat e σ s){op:Op}{o:Env}{v:SV}{em:List (PO × List SA)}{av:AV}{rb gr:List Nat}{b:Nat}{k:SB}{blk:Blk}{ln:Nat→Nat}
 (ip:ag P id (evA G s.tm) s.H op=some { v:=av,hs:=[(b,blk)],rb }) (lx:ln=fun x=>if x=b then k.len (e++o) else ae e σ.H x)
 (hv:Wk av (v.inst (e++o) ln)) (hb:WkB blk (k.inst (e++o) ln)) (hg:inL gr b=false→k.len (e++o)=ae e σ.H b) (m9:∃ xs,k.d.val (e++o) = .sl xs) :
 ∃ res,au P G id op e (e++o) σ s { em,v,up:=[(b,k)],gr,rb } res:=by
 subst lx;refine ⟨_,ip,?_,?_,rfl,fun x hx=>?_,fun p hp=>by cases List.mem_singleton.1 hp;exact m9⟩
 · show Wk av (v.inst (e++o) (lnU (e++o) σ [(b,k)]));rw[qok hS];exact hv
 · show yp (e++o) (lnU (e++o) σ [(b,k)]) _ _;rw[qok hS];exact ⟨rfl,hb,trivial⟩
 · show lnU (e++o) σ [(b,k)] x=_
   rw[qok hS];simp only
   split
   · rename_i h;subst h;exact hg hx
   · rfl
theorem au.one0(hS:Sat e σ s){op:Op}{v:SV}{em:List (PO × List SA)}{av:AV}{rb gr:List Nat}{b:Nat}{k:SB}{blk:Blk}{ln:Nat→Nat}
 (ip:ag P id (evA G s.tm) s.H op=some { v:=av,hs:=[(b,blk)],rb }) (lx:ln=fun x=>if x=b then k.len e else ae e σ.H x)
 (hv:Wk av (v.inst e ln)) (hb:WkB blk (k.inst e ln)) (hg:inL gr b=false→k.len e=ae e σ.H b) (m9:∃ xs,k.d.val e = .sl xs) :
 ∃ res,au P G id op e e σ s { em,v,up:=[(b,k)],gr,rb } res:=by
 have:=au.one (o:=[]) (em:=em) hS ip (ln:=ln) (by rw[append_nil];exact lx) (by rw[append_nil];exact hv) (by rw[append_nil];exact hb) (by rw[append_nil];exact hg) (by rw[append_nil];exact m9)
 rwa [append_nil] at this
theorem qbb(e:Env)(c:D)(o:Env):(SA.v e.length).val (e++c::o)=c:=by
 simp[SA.val]
theorem qmn(e:Env):∀ (o o':Env) (m:Nat),m=e.length→(vars m o.length).map (·.val (e++(o++o')))=o:=by
 intro o
 induction o generalizing e with
 | nil=>intro o' m _;rfl
 | cons c o ih=>
  intro o' m hm;subst hm;simp only[List.length_cons,vars,map_cons,List.cons_append];rw[qbb]
  congr 1
  have:=ih (e++[c]) o' (e.length+1) (by simp)
  simpa using this
theorem qms(e:Env)(o:Env)(n:Nat)(ln:Nat→Nat)(hn:o.length=n):SV.instL (e++o) ln ((vars e.length n).map .atm)=o.map .d:=by
 subst hn;have:=qmn e o [] e.length rfl;rw[append_nil] at this;rw[SV.instL_map,map_map];have h2:(SV.inst (e++o) ln∘SV.atm)=(AV.d∘fun x=>x.val (e++o)):=rfl
 rw[h2,← map_map,this]
theorem qrc{p:PO}{args:List SA}(h:db [(p,args)] e=some e'):∃ o,p.eval (args.map (·.val e))=some o∧e' = e++o:=by
 simp only[db] at h
 split at h
 · rename_i o ho;simp only[Option.some.injEq] at h;exact ⟨o,ho,h.symm⟩
 · simp at h
theorem adx{p q:PO}{args d6:List SA}(h:db [(p,args),(q,d6)] e=some e'):∃ o o',p.eval (args.map (·.val e))=some o∧q.eval (d6.map (·.val (e++o)))=some o'∧e' = e++(o++o'):=by
 simp only[db] at h
 split at h
 · rename_i o ho
   split at h
   · rename_i o' u5;simp only[Option.some.injEq] at h;exact ⟨o,o',ho,u5,by rw[← h,List.append_assoc]⟩
   · simp at h
 · simp at h
theorem qdd(h:db [] e=some e'):e=e':=by simp only[db] at h;exact Option.some.inj h
theorem qiy(hS:Sat e σ s)(hG:GOK G SG)(l:List Operand):WkL (l.map (evA G s.tm)) (SV.instL e (ae e σ.H) (l.map (sev SG σ))):=by
 induction l with
 | nil=>exact .nil
 | cons x l ih=>exact .cons (hev hS hG x) ih
theorem qti{x:Option D}{o:List D}(h:one1 x=some o):∃ d,x=some d∧o=[d]:=by
 unfold one1 at h;simp only[map_eq_some_iff] at h;obtain ⟨d,hd,rfl⟩:=h;exact ⟨d,hd,rfl⟩
theorem qbh{a:AV}{v:SV}{ln:Nat→Nat}(h:Wk a (v.inst e ln))(hv:v.cells.all SV.one=true):WkL a.cells (SV.instL e ln v.cells):=by
 have one:∀ {x y:AV},Wk x y→x.cells=[x]→WkL x.cells [y]:=fun h hx=>by rw[hx];exact .cons h .nil
 cases v with
 | agg cs=>
  obtain ⟨l,rfl,hl⟩:=qqa h;exact hl
 | atm x=>
  simp only[SV.cells,SV.instL];rcases vl h with rfl|⟨f,rfl,_⟩
  · exact one h rfl
  · exact one h rfl
 | nils=>rw[qjk h];exact .refl _
 | tup cs=>simp[SV.cells,SV.one] at hv
 | own b=>rw[qri h];exact .refl _
 | ptr b i j=>rw[qde h];exact .refl _
 | px b x j=>rw[qde h];exact .refl _
 | ep cs=>rw[qgi h];exact .refl _
 | clo f a b=>obtain ⟨x,y,rfl,_⟩:=qwr h;exact one h rfl
 | junk=>simp[SV.cells,SV.one] at hv
theorem a4b{a:AV}{v:SV}{ln:Nat→Nat}(he:EWF e)(hk:v.ok e.length=true)(h:Wk a (v.inst e ln))(hv:v.one=true):a.one=true:=by
 cases v with
 | agg cs=>simp[SV.one] at hv
 | atm x=>
  rcases vl h with rfl|⟨f,rfl,_⟩
  · have hw : (x.val e).WF := by
     cases x with
     | v x=>exact SA.val_wf he (x:=.v x) hk
     | c d=>exact D.one_wf hv
    revert hw
    generalize x.val e=y;intro hw;cases hw with
    | raw v h=>exact h
    | _=>rfl
  · rfl
 | nils=>rw[qjk h];rfl
 | tup cs=>simp[SV.one] at hv
 | own b=>rw[qri h];rfl
 | ptr b i j=>rw[qde h];rfl
 | px b x j=>rw[qde h];rfl
 | ep cs=>rw[qgi h];rfl
 | clo f a b=>obtain ⟨x,y,rfl,_⟩:=qwr h;rfl
 | junk=>simp[SV.one] at hv
theorem ajt{l:List AV}{vs:List SV}{ln:Nat→Nat}(he:EWF e)(hk:SV.okL e.length vs=true)(h:WkL l (SV.instL e ln vs))(hv:vs.all SV.one=true):l.all AV.one=true:=by
 obtain ⟨h1,h2⟩:=h;rw[SV.instL_map] at h1 h2;simp only[all_eq_true];intro a ha;obtain ⟨i,hi,rfl⟩:=List.mem_iff_getElem.1 ha;have bn:i<vs.length:=by simpa [h1] using hi
 have:=h2 i hi (by simpa using bn)
 simp only[getElem_map] at this;exact a4b he (SV.okL_all.1 hk _ (getElem_mem bn)) this (List.all_eq_true.1 hv _ (getElem_mem bn))
theorem azf{m:Nat}{v:SV}(h:v.ok m=true):SV.okL m v.cells=true:=by
 cases v with
 | agg cs=>exact h
 | _=>simp only[SV.cells,SV.okL,Bool.and_true];exact h
theorem qgc{a:AV}{v:SV}{ln:Nat→Nat}(he:EWF e)(hk:v.ok e.length=true)(h:Wk a (v.inst e ln))(hv:v.cells.all SV.one=true):a.cells.all AV.one=true:=
 ajt he (azf hk) (qbh h hv) hv
end
end Am

namespace Am
open Go
variable {P:Program}{G:bl}
section
variable {T:Tab}{SG:ef}{σ:SS}{e e':Env}{s:Sta}{id:Nat}
theorem a5l{q a b:D}{o:List D}(h:PO.eval .pick [q,a,b]=some o):∃ t,q = .bool t∧o=[if t then a else b]:=by
 cases q<;>simp[PO.eval] at h
 exact ⟨_,rfl,h.symm⟩
theorem auu{op:UnOp}{a:D}{o:List D}(h:PO.eval (.un op) [a]=some o):∃ c,aUn op a=some c∧o=[c]:=by
 simp only[PO.eval] at h;exact qti h
theorem azw{op:BinOp}{tb:Bool}{a b:D}{o:List D}(h:PO.eval (.bin op tb) [a,b]=some o):∃ c,ac op a b=some c∧o=[c]∧(∀ x y,a = .bool x→b = .bool y→tb=true):=by
 have other:(∀ x y,a = .bool x→b = .bool y→False)→PO.eval (.bin op tb) [a,b]=one1 (ac op a b):=by
  intro dc;cases a<;>cases b<;>first|rfl|exact (dc _ _ rfl rfl).elim
 by_cases hb:∃ x y,a = .bool x∧b = .bool y
 · obtain ⟨x,y,rfl,rfl⟩:=hb;simp only[PO.eval] at h
   split at h
   · rename_i ht;obtain ⟨c,hc,ho⟩:=qti h;exact ⟨c,hc,ho,fun _ _ _ _=>ht⟩
   · simp at h
 · rw[other fun x y hx hy=>hb ⟨x,y,hx,hy⟩] at h
   obtain ⟨c,hc,ho⟩:=qti h;exact ⟨c,hc,ho,fun x y hx hy=>absurd ⟨x,y,hx,hy⟩ hb⟩
theorem az4{k:IntKind}{a:D}{o:List D}(h:PO.eval (.conv k) [a]=some o):∃ k' n,a = .int k' n∧o=[.int k (k.wrap n)]:=by
 cases a<;>simp[PO.eval] at h
 exact ⟨_,_,rfl,h.symm⟩
theorem aw0{a:D}{o:List D}(h:PO.eval .convS [a]=some o):∃ l,a = .str l∧o=[.str l]:=by
 cases a<;>simp[PO.eval] at h
 exact ⟨_,rfl,h.symm⟩
theorem qva{a:D}{o:List D}(h:PO.eval .lenS [a]=some o):∃ l,a = .str l∧o=[.int .i64 l.length]:=by
 cases a<;>simp[PO.eval] at h
 exact ⟨_,rfl,h.symm⟩
theorem qlr{a:D}{o:List D}(h:PO.eval .lenL [a]=some o):∃ l,a = .sl l∧o=[.int .i64 l.length]:=by
 cases a<;>simp[PO.eval] at h
 exact ⟨_,rfl,h.symm⟩
theorem a1q{a b:D}{o:List D}(h:PO.eval .idxS [a,b]=some o):∃ l k n c,a = .str l∧b = .int k n∧0≤n∧l[n.toNat]? = some c∧o=[.int .u8 c.toNat]:=by
 cases a<;>cases b<;>simp only[PO.eval,reduceCtorEq] at h
 rename_i l k n
 split at h
 · rename_i hn
   split at h
   · rename_i c hc;exact ⟨l,k,n,c,rfl,rfl,hn,hc,(Option.some.inj h).symm⟩
   · simp at h
 · simp at h
theorem a6n{sz:Nat}{a b:D}{o:List D}(h:PO.eval (.row sz) [a,b]=some o):∃ xs k n,a = .sl xs∧b = .int k n∧0≤n∧xs[n.toNat]? = some o∧o.length=sz:=by
 cases a<;>cases b<;>simp only[PO.eval,reduceCtorEq] at h
 rename_i xs k n
 split at h
 · rename_i hn
   split at h
   · rename_i r hr
     split at h
     · rename_i hl;cases h;exact ⟨xs,k,n,rfl,rfl,hn,hr,hl⟩
     · simp at h
   · simp at h
 · simp at h
theorem qwz{a b c:D}{o:List D}(h:PO.eval .subS [a,b,c]=some o):∃ l k n k' n',a = .str l∧b = .int k n∧c = .int k' n'∧(0≤n∧n≤n'∧n'≤l.length)∧o=[.str ((l.take n'.toNat).drop n.toNat)]:=by
 cases a<;>cases b<;>cases c<;>simp only[PO.eval,reduceCtorEq] at h
 split at h
 · rename_i hc;exact ⟨_,_,_,_,_,rfl,rfl,rfl,hc,(Option.some.inj h).symm⟩
 · simp at h
theorem qiz{sz:Nat}{a b c:D}{o:List D}(h:PO.eval (.subL sz) [a,b,c]=some o):∃ xs k n k' n',a = .sl xs∧b = .int k n∧c = .int k' n'∧(0≤n∧n≤n'∧n'≤xs.length∧xs.all (fun r=>r.length == sz)=true)∧o=[.sl ((xs.take n'.toNat).drop n.toNat)]:=by
 cases a<;>cases b<;>cases c<;>simp only[PO.eval,reduceCtorEq] at h
 split at h
 · rename_i hc;exact ⟨_,_,_,_,_,rfl,rfl,rfl,hc,(Option.some.inj h).symm⟩
 · simp at h
theorem aj5{sz bt:Nat}{a b:D}{o:List D}(h:PO.eval (.app sz bt) [a,b]=some o):∃ xs ys,a = .sl xs∧b = .sl ys∧((xs.length+ys.length)*bt≤140737488355328∧xs.length+ys.length≤9223372036854775807∧ys.all (fun r=>r.length == sz)=true)∧o=[.sl (xs++ys)]:=by
 cases a<;>cases b<;>simp only[PO.eval,reduceCtorEq] at h
 split at h
 · rename_i hc;exact ⟨_,_,rfl,rfl,hc,(Option.some.inj h).symm⟩
 · simp at h
theorem avh{bt:Nat}{a b:D}{o:List D}(h:PO.eval (.appS bt) [a,b]=some o):∃ xs l,a = .sl xs∧b = .str l∧((xs.length+l.length)*bt≤140737488355328∧xs.length+l.length≤9223372036854775807)∧o=[.sl (xs++l.map fun c=>[.int .u8 c.toNat])]:=by
 cases a<;>cases b<;>simp only[PO.eval,reduceCtorEq] at h
 split at h
 · rename_i hc;exact ⟨_,_,rfl,rfl,hc,(Option.some.inj h).symm⟩
 · simp at h
theorem a54{sz bt:Nat}{a:D}{o:List D}(h:PO.eval (.app1 sz bt) [a]=some o):∃ xs,a = .sl xs∧(xs≠[]∧xs.length*bt≤140737488355328∧xs.length≤9223372036854775807∧xs.all (fun r=>r.length == sz)=true)∧o=[.sl xs]:=by
 cases a<;>simp only[PO.eval,reduceCtorEq] at h
 split at h
 · rename_i hc;exact ⟨_,rfl,hc,(Option.some.inj h).symm⟩
 · simp at h
theorem azn{bt k:Nat}{a:D}{o:List D}(h:PO.eval (.room bt k) [a]=some o):∃ xs,a = .sl xs∧((xs.length+k)*bt≤140737488355328∧xs.length+k≤9223372036854775807)∧o=[]:=by
 cases a<;>simp only[PO.eval,reduceCtorEq] at h
 split at h
 · rename_i hc;exact ⟨_,rfl,hc,(Option.some.inj h).symm⟩
 · simp at h
theorem adv{sz n:Nat}{l:List D}{o:List D}(h:PO.eval (.mk sz n) l=some o):l.length=n*sz∧o=[.sl (dp sz n l)]:=by
 have:PO.eval (.mk sz n) l=if l.length=n*sz then some [.sl (dp sz n l)] else none:=by
  unfold PO.eval;split<;>simp_all
 rw[this] at h
 split at h
 · rename_i hc;exact ⟨hc,(Option.some.inj h).symm⟩
 · simp at h
theorem a1j{a b:D}{o:List D}(h:PO.eval .cat [a,b]=some o):∃ xs ys,a = .sl xs∧b = .sl ys∧o=[.sl (xs++ys)]:=by
 cases a<;>cases b<;>simp only[PO.eval,reduceCtorEq] at h
 exact ⟨_,_,rfl,rfl,(Option.some.inj h).symm⟩
theorem a5v{bt:Nat}{z:List D}{a:D}{o:List D}(h:PO.eval (.mkL bt z) [a]=some o):∃ k n,a = .int k n∧(0≤n∧(bt:Int)*n≤281474976710656∧n≤9223372036854775807)∧o=[.sl (List.replicate n.toNat z)]:=by
 cases a<;>simp only[PO.eval,reduceCtorEq] at h
 split at h
 · rename_i hc;exact ⟨_,_,rfl,hc,(Option.some.inj h).symm⟩
 · simp at h
theorem auc{a b:D}{o:List D}(h:PO.eval .chk [a,b]=some o):∃ xs k n,a = .sl xs∧b = .int k n∧(0≤n∧n<xs.length)∧o=[]:=by
 cases a<;>cases b<;>simp only[PO.eval,reduceCtorEq] at h
 split at h
 · rename_i hc;exact ⟨_,_,_,rfl,rfl,hc,(Option.some.inj h).symm⟩
 · simp at h
theorem ar3{j m:Nat}{a b:D}{o:List D}(h:PO.eval (.get j m) [a,b]=some o):∃ xs k n r,a = .sl xs∧b = .int k n∧0≤n∧xs[n.toNat]? = some r∧j+m≤r.length∧o=(r.drop j).take m:=by
 cases a<;>cases b<;>simp only[PO.eval,reduceCtorEq] at h
 rename_i xs k n
 split at h
 · rename_i hn
   split at h
   · rename_i r hr
     split at h
     · rename_i hl;exact ⟨xs,k,n,r,rfl,rfl,hn,hr,hl,(Option.some.inj h).symm⟩
     · simp at h
   · simp at h
 · simp at h
theorem asy{j m:Nat}{a b:D}{cs:List D}{o:List D}(h:PO.eval (.set j m) (a::b::cs)=some o):∃ xs k n r,a = .sl xs∧b = .int k n∧0≤n∧xs[n.toNat]? = some r∧j+m≤r.length∧cs.length=m∧o=[.sl (xs.set n.toNat (uc r j cs))]:=by
 cases a<;>cases b<;>simp only[PO.eval,reduceCtorEq] at h
 rename_i xs k n
 split at h
 · rename_i hn
   split at h
   · rename_i r hr
     split at h
     · rename_i hl;exact ⟨xs,k,n,r,rfl,rfl,hn,hr,hl.1,hl.2,(Option.some.inj h).symm⟩
     · simp at h
   · simp at h
 · simp at h
theorem azi{a b:D}{o:List D}(h:PO.eval .min [a,b]=some o):∃ k n k' n',a = .int k n∧b = .int k' n'∧o=[.int k (if n' < n then n' else n)]:=by
 cases a<;>cases b<;>simp only[PO.eval,reduceCtorEq] at h
 exact ⟨_,_,_,_,rfl,rfl,(Option.some.inj h).symm⟩
theorem ay4{a b:D}{o:List D}(h:PO.eval .max [a,b]=some o):∃ k n k' n',a = .int k n∧b = .int k' n'∧o=[.int k (if n'>n then n' else n)]:=by
 cases a<;>cases b<;>simp only[PO.eval,reduceCtorEq] at h
 exact ⟨_,_,_,_,rfl,rfl,(Option.some.inj h).symm⟩
theorem awb{k:Nat}{a:D}{cs:List D}{o:List D}(h:PO.eval (.sel k) (a::cs)=some o):∃ kd n c,a = .int kd n∧(0≤n∧n<k)∧cs[n.toNat]? = some c∧o=[c]:=by
 cases a<;>simp only[PO.eval,reduceCtorEq] at h
 rename_i kd n
 split at h
 · rename_i hc;obtain ⟨c,h1,h2⟩:=qti h;exact ⟨kd,n,c,rfl,hc,h1,h2⟩
 · simp at h
theorem a1k{op:BinOp}{a b c:D}(h:ac op a b=some c):(∀ v,a ≠ .raw v)∧(∀ v,b ≠ .raw v):=by
 cases a<;>cases b<;>simp[ac] at h<;>exact ⟨by simp,by simp⟩
theorem a3x{op:UnOp}{a c:D}(h:aUn op a=some c):∀ v,a ≠ .raw v:=by
 cases a<;>simp[aUn] at h<;>simp
theorem agw{a:AV}{x:D}(h:Wk a (.d x))(hn:∀ v,x ≠ .raw v):a = .d x:=by
 rcases vl h with h|⟨f,_,hx⟩
 · exact h
 · exact absurd hx (hn _)
variable (hS:Sat e σ s)(hG:GOK G SG)(hT:TOK P T)
include hS hG
theorem az5{x:Operand}:∃ res,au P G id (.move x) e e σ s { v:=sev SG σ x } res:=au.pure0 hS rfl (hev hS hG x)
theorem au5{x:Operand}:∃ res,au P G id (.assign x) e e σ s { v:=sev SG σ x } res:=au.pure0 hS rfl (hev hS hG x)
theorem a20{c a b:Operand}{r:SR}(h:br T SG σ e.length id (.pick c a b)=some r)(hr:db r.em e=some e'):∃ res,au P G id (.pick c a b) e e' σ s r res:=by
 have hc:=hev hS hG c;have ha:=hev hS hG a;have hb:=hev hS hG b;simp only[br] at h
 split at h
 · rename_i t ly;rw[ly] at hc;cases h;obtain rfl:=qdd hr;have:=qdi hc;refine au.pure0 hS (av:=if t then evA G s.tm a else evA G s.tm b) (by simp only[ag,this];rfl) ?_
   cases t
   · exact hb
   · exact ha
 · rename_i q hq ly
   split at h
   · rename_i x y hx hy;cases h;obtain ⟨o,ho,rfl⟩:=qrc hr;simp only[map_cons,map_nil] at ho;obtain ⟨t,ht,rfl⟩:=a5l ho;rw[ly] at hc;rw[hx] at ha;rw[hy] at hb;simp only[SV.inst,ht] at hc;refine au.pure hS (av:=if t then evA G s.tm a else evA G s.tm b) (by simp only[ag,qdi hc];rfl) ?_
     simp only[SV.inst,qbb];cases t
     · exact hb
     · exact ha
   · simp at h
 · simp at h
theorem ax8{op:BinOp}{t:TypeId}{x y:Operand}{ty:TypeId}{r:SR}(hT:TOK P T)(h:br T SG σ e.length id (.binOp op t x y ty)=some r)(hr:db r.em e=some e'):∃ res,au P G id (.binOp op t x y ty) e e' σ s r res:=by
 have hx:=hev hS hG x;have hy:=hev hS hG y;simp only[br] at h
 split at h
 · rename_i tf p q pw hpx hqy;cases h;obtain ⟨o,ho,rfl⟩:=qrc hr;simp only[map_cons,map_nil] at ho;obtain ⟨c,hc,rfl,hb⟩:=azw ho;rw[hpx] at hx;rw[hqy] at hy;obtain ⟨n1,n2⟩:=a1k hc;have h1:=agw hx n1;have h2:=agw hy n2;have htb:=(hT _ _ pw).bool;refine au.pure hS (av:=.d c) ?_ (by simp only[SV.inst,qbb];exact .refl _)
   simp only[ag,h1,h2]
   revert hc hb
   generalize p.val e=a;generalize q.val e=b;intro hc hb
   have key:∀ a b,ac op a b=some c→(∀ x y,a = .bool x→b = .bool y→d9 P t=true)→(match AV.d a,AV.d b with
    | .d (.bool a),.d (.bool b)=>if d9 P t then pure1 (ac op (.bool a) (.bool b)) else none
    | .d a,.d b=>pure1 (ac op a b)
    | _,_=>none)=some ({ v:=.d c,hs:=[],rb:=[] }:Res):=by
    intro a b h hb;cases a<;>cases b<;>first|(simp only[h,pure1,map_some];done)|(simp only[hb _ _ rfl rfl,if_true,h,pure1,map_some])
   exact key a b hc fun x y hx hy=>by rw[htb];exact hb x y hx hy
 · simp at h
theorem azh{op:UnOp}{t:TypeId}{x:Operand}{r:SR}(h:br T SG σ e.length id (.unOp op t x)=some r)(hr:db r.em e=some e'):∃ res,au P G id (.unOp op t x) e e' σ s r res:=by
 have hx:=hev hS hG x;simp only[br] at h
 split at h
 · rename_i p hp;cases h;obtain ⟨o,ho,rfl⟩:=qrc hr;simp only[map_cons,map_nil] at ho;obtain ⟨c,hc,rfl⟩:=auu ho;rw[hp] at hx;have h1:=agw hx (a3x hc);refine au.pure hS (av:=.d c) (by simp only[ag,h1,hc,pure1,map_some]) (by simp only[SV.inst,qbb];exact .refl _)
 · simp at h
theorem qmv{fn:Fn}{first caps:Array Operand}{r:SR}(h:br T SG σ e.length id (.makeFunc fn first caps)=some r)(hr:db r.em e=some e'):∃ res,au P G id (.makeFunc fn first caps) e e' σ s r res:=by
 cases fn with
 | func f=>
  simp only[br] at h;cases h;obtain rfl:=qdd hr;have h1:=qiy hS hG first.toList;have h2:=qiy hS hG caps.toList;exact au.pure0 hS rfl (.clo _ _ _ _ _ h1.1 h1.2 h2.1 h2.2)
 | _=>simp[br] at h
end
end Am
