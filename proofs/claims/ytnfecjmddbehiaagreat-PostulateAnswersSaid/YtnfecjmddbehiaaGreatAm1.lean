/- The abstract machine and its reader: lemmas. -/
import Derived.WalkKit
import Derived.RangeFuncOwn
import Derived.Laws.StructEq
set_option linter.unusedSimpArgs false
set_option linter.unusedVariables false
set_option linter.unusedSectionVars false
namespace Am
open Go
inductive D where
 | int (k:IntKind) (n:Int)
 | bool (b:Bool)
 | str (l:List UInt8)
 | raw (v:Value)
 | sl (xs:List (List D))
inductive AV where
 | d (x:D)
 | nils
 | agg (cs:List AV)
 | tup (cs:List AV)
 | ptr (b n i j:Nat)
 | own (b n off len:Nat)
 | eptr (cs:List D)
 | clo (f:Fn) (first caps:List AV)
 | junk
instance :Inhabited D:=⟨.bool false⟩
instance :Inhabited AV:=⟨.junk⟩
structure Blk where
 fz:Bool
 ap:Bool
 ty:TypeId
 sz:Nat
 rows:List (List AV)
abbrev Heap:=Nat→Option Blk
structure St where
 tm:Nat→AV
 H:Heap
 nx:Nat
theorem qib (w:World) (r o:Nat):w.cell? ⟨r,o,none⟩ = match w.heap[r]? with|some (.cells c _ _)=>c[o]?|_=>none:=by
 unfold World.cell?;cases w.heap[r]? with
 | none=>rfl
 | some x=>cases x<;>rfl
theorem qnb (r o n:Nat):(⟨r,o,none⟩:Addr).add n=⟨r,o+n,none⟩:=by
 unfold Addr.add
 split<;>simp_all
abbrev Com:=Nat→Nat→Prop
inductive RepD (w:World) (C:Com):D→Value→Prop
 | int (k:IntKind) (n:Int):RepD w C (.int k n) (.int k n)
 | bool (b:Bool):RepD w C (.bool b) (.bool b)
 | str (l:List UInt8):RepD w C (.str l) (.string ⟨⟨l⟩⟩)
 | raw (v:Value):RepD w C (.raw v) v
 | nil:RepD w C (.sl []) (.slice none 0 0)
 | nilA (a:Addr):RepD w C (.sl []) (.slice (some a) 0 0)
 | sl (xs:List (List D)) (r o cap sz:Nat) (vs:Nat→Nat→Value) (hcap:xs.length≤cap)
  (hsz:∀ i (h:i<xs.length),(xs[i]).length=sz)
  (hC:∀ i j,i<xs.length→j<sz→C r (o+i*sz+j))
  (hcell:∀ i j,i<xs.length→j<sz→w.cell? ⟨r,o+i*sz+j,none⟩ = some (vs i j)∧(vs i j).oneCell' = true)
  (hrec:∀ i j (hi:i<xs.length) (hj:j<(xs[i]).length),RepD w C ((xs[i])[j]) (vs i j)) :
  RepD w C (.sl xs) (.slice (some ⟨r,o,none⟩) xs.length cap)
theorem RepD.mono {w w':World} {C C':Com} (hc:∀ r o,C r o→C' r o)
 (hw:∀ r o,C r o→w'.cell? ⟨r,o,none⟩ = w.cell? ⟨r,o,none⟩) {x:D} {v:Value} (h:RepD w C x v):RepD w' C' x v:=by
 induction h with
 | int k n=>exact .int k n
 | bool b=>exact .bool b
 | str l=>exact .str l
 | raw v=>exact .raw v
 | nil=>exact .nil
 | nilA a=>exact .nilA a
 | sl xs r o cap sz vs hcap hsz hC hcell hrec ih=>
  exact .sl xs r o cap sz vs hcap hsz (fun i j hi hj=>hc _ _ (hC i j hi hj)) (fun i j hi hj=>by rw[hw _ _ (hC i j hi hj)];exact hcell i j hi hj) ih
abbrev Rho:=Nat→Option (Nat × Nat)
inductive RepA (w:World) (C:Com) (ρ:Rho) (H:Heap):AV→Value→Prop
 | d (x:D) (v:Value) (h:RepD w C x v):RepA w C ρ H (.d x) v
 | nils:RepA w C ρ H .nils (.slice none 0 0)
 | agg (cs:List AV) (vs:List Value) (hl:cs.length=vs.length) (h1:∀ v∈vs,v.oneCell' = true)
  (h:∀ i (h:i<cs.length) (h':i<vs.length),RepA w C ρ H cs[i] vs[i]):RepA w C ρ H (.agg cs) (.agg ⟨vs⟩)
 | tup (cs:List AV) (vs:List Value) (hl:cs.length=vs.length)
  (h:∀ i (h:i<cs.length) (h':i<vs.length),RepA w C ρ H cs[i] vs[i]):RepA w C ρ H (.tup cs) (.tuple ⟨vs⟩)
 | ptr (b n i j:Nat) (v:Value) (blk:Blk) (hb:H b=some blk) (hn:n≤blk.rows.length) (h1:v.oneCell' = true)
  (h:blk.rows.length=n→∃ r s,ρ b=some (r,s)∧v = .pointer (some ⟨r,i*blk.sz+j,none⟩)):RepA w C ρ H (.ptr b n i j) v
 | own (b n off len:Nat) (v:Value) (blk:Blk) (hb:H b=some blk) (hn:n≤blk.rows.length) (h1:v.oneCell' = true)
  (h:blk.rows.length=n→(∃ r s cap,ρ b=some (r,s)∧v = .slice (some ⟨r,off*blk.sz,none⟩) len cap∧len≤cap∧(off+cap)*blk.sz≤s∧off+len≤n)∨
   (ρ b=none∧off=0∧len=0∧v = .slice none 0 0)):RepA w C ρ H (.own b n off len) v
 | eptr (cs:List D) (r o:Nat) (vs:Nat→Value) (hC:∀ j,j<cs.length→C r (o+j))
  (hcell:∀ j,j<cs.length→w.cell? ⟨r,o+j,none⟩ = some (vs j)∧(vs j).oneCell' = true)
  (hrec:∀ j (hj:j<cs.length),RepD w C cs[j] (vs j)):RepA w C ρ H (.eptr cs) (.pointer (some ⟨r,o,none⟩))
 | clo (f:Fn) (first caps:List AV) (fv cv:List Value) (hf:first.length=fv.length) (hc:caps.length=cv.length)
  (h1:∀ i (h:i<first.length) (h':i<fv.length),RepA w C ρ H first[i] fv[i])
  (h2:∀ i (h:i<caps.length) (h':i<cv.length),RepA w C ρ H caps[i] cv[i]):RepA w C ρ H (.clo f first caps) (.func f ⟨fv⟩ ⟨cv⟩)
 | junk (v:Value):RepA w C ρ H .junk v
def OwnRow (ρ:Rho) (H:Heap) (r:Nat):Prop:=∃ b s,(H b).isSome=true∧ρ b=some (r,s)
structure Ext (w:World) (C:Com) (ρ:Rho) (H:Heap) (w':World) (C':Com) (ρ':Rho) (H':Heap):Prop where
 com:∀ r o,C r o→C' r o
 cell:∀ r o,C r o→w'.cell? ⟨r,o,none⟩ = w.cell? ⟨r,o,none⟩
 blk:∀ b blk,H b=some blk→∃ blk',H' b=some blk'∧blk'.sz=blk.sz∧blk.rows.length≤blk'.rows.length∧(blk'.rows.length=blk.rows.length→ρ' b=ρ b)
 os:w'.os=w.os
 tape:w'.tape=w.tape
 output:w'.output=w.output
 size:w.heap.size≤w'.heap.size
 same:∀ r,r<w.heap.size→¬ OwnRow ρ H r→w'.heap[r]? = w.heap[r]?
 rows:∀ r,OwnRow ρ' H' r→OwnRow ρ H r∨w.heap.size≤r
 grow:∀ r o,C' r o→C r o∨OwnRow ρ H r∨w.heap.size≤r
theorem Ext.refl (w:World) (C:Com) (ρ:Rho) (H:Heap):Ext w C ρ H w C ρ H:=
 ⟨fun _ _ h=>h,fun _ _ _=>rfl,fun _ blk h=>⟨blk,h,rfl,Nat.le_refl _,fun _=>rfl⟩,rfl,rfl,rfl,Nat.le_refl _,fun _ _ _=>rfl,fun _ h=>.inl h,fun _ _ h=>.inl h⟩
theorem Ext.trans {w w' w'':World} {C C' C'':Com} {ρ ρ' ρ'':Rho} {H H' H'':Heap}
 (h:Ext w C ρ H w' C' ρ' H') (h':Ext w' C' ρ' H' w'' C'' ρ'' H''):Ext w C ρ H w'' C'' ρ'' H'' where
 com r o c:=h'.com r o (h.com r o c)
 cell r o c:=(h'.cell r o (h.com r o c)).trans (h.cell r o c)
 blk b blk hb:=by
  obtain ⟨b1,h1,s1,l1,e1⟩:=h.blk b blk hb;obtain ⟨b2,h2,s2,l2,e2⟩:=h'.blk b b1 h1;exact ⟨b2,h2,s2.trans s1,Nat.le_trans l1 l2,fun e=>(e2 (by omega)).trans (e1 (by omega))⟩
 os:=h'.os.trans h.os
 tape:=h'.tape.trans h.tape
 output:=h'.output.trans h.output
 size:=Nat.le_trans h.size h'.size
 same r hr hn:=(h'.same r (Nat.lt_of_lt_of_le hr h.size) (fun ho=>(h.rows r ho).elim hn (by omega))).trans (h.same r hr hn)
 rows r hr:=(h'.rows r hr).elim (h.rows r) (fun hh=>.inr (Nat.le_trans h.size hh))
 grow r o hr:=by
  have hs:=h.size;rcases h'.grow r o hr with h1|h1|h1
  · exact h.grow r o h1
  · exact .inr (h.rows r h1)
  · exact .inr (.inr (by omega))
structure Ext0 (w:World) (C:Com) (ρ:Rho) (H:Heap) (w':World) (C':Com) (ρ':Rho) (H':Heap):Prop where
 com:∀ r o,C r o→C' r o
 cell:∀ r o,C r o→w'.cell? ⟨r,o,none⟩ = w.cell? ⟨r,o,none⟩
 blk:∀ b blk,H b=some blk→∃ blk',H' b=some blk'∧blk'.sz=blk.sz∧blk.rows.length≤blk'.rows.length∧(blk'.rows.length=blk.rows.length→ρ' b=ρ b)
theorem Ext.e0 {w w':World} {C C':Com} {ρ ρ':Rho} {H H':Heap} (e:Ext w C ρ H w' C' ρ' H'):Ext0 w C ρ H w' C' ρ' H':=⟨e.com,e.cell,e.blk⟩
theorem RepA.mono0 {w w':World} {C C':Com} {ρ ρ':Rho} {H H':Heap} (e:Ext0 w C ρ H w' C' ρ' H') {x:AV} {v:Value}
 (h:RepA w C ρ H x v):RepA w' C' ρ' H' x v:=by
 induction h with
 | d x v h=>exact .d x v (h.mono e.com e.cell)
 | nils=>exact .nils
 | agg cs vs hl h1 _ ih=>exact .agg cs vs hl h1 ih
 | tup cs vs hl _ ih=>exact .tup cs vs hl ih
 | ptr b n i j v blk hb hn h1 h=>
  obtain ⟨b1,h1',s1,l1,e1⟩:=e.blk b blk hb;refine .ptr b n i j v b1 h1' (Nat.le_trans hn l1) h1 fun hh=>?_
  have:blk.rows.length=n:=by omega
  obtain ⟨r,s,hr,hv⟩:=h this;exact ⟨r,s,by rw[e1 (by omega)];exact hr,by rw[s1];exact hv⟩
 | own b n off len v blk hb hn h1 h=>
  obtain ⟨b1,h1',s1,l1,e1⟩:=e.blk b blk hb;refine .own b n off len v b1 h1' (Nat.le_trans hn l1) h1 fun hh=>?_
  have:blk.rows.length=n:=by omega
  rw[s1,e1 (by omega)]
  exact h this
 | eptr cs r o vs hC hcell hrec=>
  exact .eptr cs r o vs (fun j hj=>e.com _ _ (hC j hj)) (fun j hj=>by rw[e.cell _ _ (hC j hj)];exact hcell j hj) (fun j hj=>(hrec j hj).mono e.com e.cell)
 | clo f first caps fv cv hf hc _ _ ih1 ih2=>exact .clo f first caps fv cv hf hc ih1 ih2
 | junk v=>exact .junk v
theorem RepA.mono {w w':World} {C C':Com} {ρ ρ':Rho} {H H':Heap} (e:Ext w C ρ H w' C' ρ' H') {x:AV} {v:Value}
 (h:RepA w C ρ H x v):RepA w' C' ρ' H' x v:=h.mono0 e.e0
def BlkOK (w:World) (C:Com) (ρ:Rho) (H:Heap) (b:Nat) (blk:Blk):Prop:=
 match ρ b with
 | none=>blk.rows=[]∧blk.ap=true
 | some (r,s)=>
  (∃ cs lo hi,w.heap[r]? = some (.cells cs blk.ty (lo,hi))∧cs.size=s∧(blk.fz=false→blk.ap=true→lo=0∧hi=0)∧(blk.fz=false→∀ o,o<s→¬(lo≤o∧o<hi))∧blk.rows.length*blk.sz≤s∧
   (∀ i (h:i<blk.rows.length),(blk.rows[i]).length=blk.sz)∧
   ∀ i j (hi:i<blk.rows.length) (hj:j<(blk.rows[i]).length),∃ v,cs[i*blk.sz+j]? = some v∧v.oneCell' = true∧RepA w C ρ H (blk.rows[i])[j] v)∧
  (blk.fz=false→∀ o,¬ C r o)∧(blk.fz=true→∀ o,o<blk.rows.length*blk.sz→C r o)
structure RelH (w:World) (C:Com) (ρ:Rho) (H:Heap):Prop where
 blk:∀ b blk,H b=some blk→BlkOK w C ρ H b blk
 dis:∀ b b' r s s',b≠b'→(H b).isSome=true→(H b').isSome=true→ρ b=some (r,s)→ρ b' = some (r,s')→False
 com:∀ r o,C r o→∃ v,w.cell? ⟨r,o,none⟩ = some v
structure Rel (st:St) (C:Com) (ρ:Rho) (a:Act) (w:World):Prop where
 tm:∀ t,RepA w C ρ st.H (st.tm t) (a.tmps.getD t undef)
 h:RelH w C ρ st.H
 nx:∀ b,st.nx≤b→st.H b=none
 defers:a.defers=[]
theorem RelH.row_lt {w:World} {C:Com} {ρ:Rho} {H:Heap} (h:RelH w C ρ H) {r:Nat} (ho:OwnRow ρ H r):r<w.heap.size:=by
 obtain ⟨b,s,hb,hr⟩:=ho;obtain ⟨blk,hblk⟩:=Option.isSome_iff_exists.1 hb;have:=h.blk b blk hblk;unfold BlkOK at this;rw[hr] at this;obtain ⟨⟨cs,lo,hi,hh,_⟩,_⟩:=this;exact (Array.getElem?_eq_some_iff.1 hh).1
theorem RelH.row_cells {w:World} {C:Com} {ρ:Rho} {H:Heap} (h:RelH w C ρ H) {r:Nat} (ho:OwnRow ρ H r):∃ cs t z,w.heap[r]? = some (.cells cs t z):=by
 obtain ⟨b,s,hb,hr⟩:=ho;obtain ⟨blk,hblk⟩:=Option.isSome_iff_exists.1 hb;have:=h.blk b blk hblk;unfold BlkOK at this;rw[hr] at this;obtain ⟨⟨cs,lo,hi,hh,_⟩,_⟩:=this;exact ⟨_,_,_,hh⟩
def Marks (O:Nat→Option Obj) (n0:Nat) (w:World) (l:List Deferred):Prop:=l.Nodup∧(∀ d∈l,∃ D,n0≤D∧d = { target:=.collected D,args:=#[] }∧w.heap[D]? = some (.deferred (some [])))∧∀ r o,O r=some o→w.heap[r]? = some o∧o.isCells=false
theorem Marks.nil (n0:Nat) (w:World):Marks (fun _=>none) n0 w []:=⟨List.nodup_nil,(fun _ h=>nomatch h),(fun _ _ h=>nomatch h)⟩
theorem Marks.bare {O:Nat→Option Obj} {n0:Nat} {w:World} {l:List Deferred} (h:Marks O n0 w l):Marks O n0 w []:=⟨List.nodup_nil,(fun _ h=>nomatch h),h.2.2⟩
theorem Marks.ext {w w':World} {C C':Com} {ρ ρ':Rho} {H H':Heap} {O:Nat→Option Obj} {n0:Nat} {l:List Deferred} (hR:RelH w C ρ H) (e:Ext w C ρ H w' C' ρ' H') (h:Marks O n0 w l):Marks O n0 w' l:=by
 refine ⟨h.1,fun d hd=>?_,fun r o ho=>?_⟩
 · obtain ⟨D,h0,rfl,hD⟩:=h.2.1 d hd;refine ⟨D,h0,rfl,?_⟩;rw[e.same D (Array.getElem?_eq_some_iff.1 hD).1 fun ho=>by obtain ⟨cs,t,z,hc⟩:=hR.row_cells ho;rw[hD] at hc;cases hc]
   exact hD
 · obtain ⟨h1,h2⟩:=h.2.2 r o ho;refine ⟨?_,h2⟩;rw[e.same r (Array.getElem?_eq_some_iff.1 h1).1 fun ho=>by obtain ⟨cs,t,z,hc⟩:=hR.row_cells ho;rw[h1] at hc;cases hc;simp[Obj.isCells] at h2]
   exact h1
theorem RelH.com_lt {w:World} {C:Com} {ρ:Rho} {H:Heap} (h:RelH w C ρ H) {r o:Nat} (hc:C r o):r<w.heap.size:=by
 obtain ⟨v,hv⟩:=h.com r o hc;exact World.block_lt_of_cell? w _ hv
end Am

namespace Am
open Go
section types
variable (P:Program)
def tsz (t:TypeId):Nat:=match P.info? t with|some i=>i.size|none=>0
def tby (t:TypeId):Nat:=match P.info? t with|some i=>i.bytes|none=>0
def tin (t:TypeId):Bool:=(P.info? t).isSome
def tzero (t:TypeId):Option Value:=match P.info? t with|some i=>i.zero|none=>none
def tagg (t:TypeId):Bool:=match P.underlying t with|some (.struct _)=>true|some (.array _ _)=>true|_=>false
def tun (t:TypeId):Bool:=(P.underlying t).isSome
def telem (t:TypeId):Option TypeId:=match P.underlying t with|some (.slice e)=>some e|_=>none
def tarr (t:TypeId):Option (Nat × TypeId):=match P.underlying t with|some (.array n e)=>some (n,e)|_=>none
def tint (t:TypeId):Option IntKind:=match P.underlying t with|some (.int k)=>some k|_=>none
def tstr (t:TypeId):Bool:=match P.underlying t with|some .string=>true|_=>false
def tbool (t:TypeId):Bool:=match P.underlying t with|some .bool=>true|_=>false
def tfield (t:TypeId) (f:Nat):Option (Nat × TypeId):=match P.underlying t with
 | some (.struct fs)=>(fs[f]?).map fun x=>(x.offset,x.type)
 | _=>none
def tplace (t:TypeId):Option (List (Nat × Nat)):=match P.underlying t with
 | some (.struct fs)=>if fs.all (fun f=>tin P f.type) then some (fs.toList.map fun f=>(f.offset,tsz P f.type)) else none
 | some (.array n e)=>if tin P e then some ((List.range n).map fun i=>(i*tsz P e,tsz P e)) else none
 | _=>none
def teqn (t:TypeId):Option Nat:=match P.underlying t with
 | some (.struct fs)=>if decide (fs.toList.map (·.offset)=List.range fs.size)&&fs.toList.all (fun f=>decide (f.name ≠ "_")&&(tint P f.type).isSome) && !P.stoodInHeld t && !P.eqGuardType P.depth t then some fs.size else none
 | _=>none
end types
def ofCell:Value→AV
 | .int k n=>.d (.int k n)
 | .bool b=>.d (.bool b)
 | .string s=>.d (.str s.data.toList)
 | .slice none 0 0=>.nils
 | v=>.d (.raw v)
def ofVal:Value→AV
 | .agg cs=>if cs.all (·.oneCell') then .agg (cs.toList.map ofCell) else .junk
 | v=>ofCell v
def AV.cells:AV→List AV
 | .agg cs=>cs
 | v=>[v]
structure Res where
 v:AV
 hs:List (Nat × Blk)
 rb:List Nat
def updH (H:Heap) (b:Nat) (blk:Blk):Heap:=fun x=>if x=b then some blk else H x
def updsH (H:Heap):List (Nat × Blk)→Heap
 | []=>H
 | p::r=>updsH (updH H p.1 p.2) r
def aBin (op:BinOp):D→D→Option D
 | .int k a,.int k' b=>
  match op with
  | .shl=>if 0≤b then some (.int k (k.wrap (a*2^(min b.toNat k.bits)))) else none
  | .shr=>if 0≤b then some (.int k (a.fdiv (2^(min b.toNat k.bits)))) else none
  | _=>
   if k=k' then
    match op with
    | .add=>some (.int k (k.wrap (a+b)))
    | .sub=>some (.int k (k.wrap (a-b)))
    | .mul=>some (.int k (k.wrap (a*b)))
    | .quo=>if b=0 then none else some (.int k (k.wrap (a.tdiv b)))
    | .rem=>if b=0 then none else some (.int k (a.tmod b))
    | .and=>some (.int k (k.wrap ((BitVec.ofInt k.bits a&&&BitVec.ofInt k.bits b).toNat:Int)))
    | .or=>some (.int k (k.wrap ((BitVec.ofInt k.bits a|||BitVec.ofInt k.bits b).toNat:Int)))
    | .xor=>some (.int k (k.wrap ((BitVec.ofInt k.bits a ^^^ BitVec.ofInt k.bits b).toNat:Int)))
    | .andNot=>some (.int k (k.wrap ((BitVec.ofInt k.bits a &&& ~~~ BitVec.ofInt k.bits b).toNat:Int)))
    | .eql=>some (.bool (a == b))
    | .neq=>some (.bool (a != b))
    | .lss=>some (.bool (decide (a<b)))
    | .leq=>some (.bool (decide (a≤b)))
    | .gtr=>some (.bool (decide (a>b)))
    | .geq=>some (.bool (decide (a≥b)))
    | _=>none
   else none
 | .str a,.str b=>
  match op with
  | .add=>if a.length+b.length≤9223372036854775807 then some (.str (a++b)) else none
  | .eql=>some (.bool (a == b))
  | .neq=>some (.bool (!(a == b)))
  | .lss=>some (.bool (Op.bytesLess a b))
  | .leq=>some (.bool (Op.bytesLess a b || a == b))
  | .gtr=>some (.bool (!(Op.bytesLess a b || a == b)))
  | .geq=>some (.bool (!Op.bytesLess a b))
  | _=>none
 | .bool a,.bool b=>
  match op with
  | .eql=>some (.bool (a == b))
  | .neq=>some (.bool (!(a == b)))
  | _=>none
 | _,_=>none
def aUn (op:UnOp):D→Option D
 | .int k n=>match op with
  | .neg=>some (.int k (k.wrap (0-n)))
  | .xor=>some (.int k (k.wrap ((BitVec.ofInt k.bits (if k.signed then -1 else k.max) ^^^ BitVec.ofInt k.bits n).toNat:Int)))
  | _=>none
 | .bool b=>match op with
  | .not=>some (.bool (!b))
  | _=>none
 | _=>none
def rdA (agg:Bool) (sz:Nat) (H:Heap):AV→Option (AV × List Nat)
 | .ptr b n i j=>
  match H b with
  | some blk=>
   if blk.rows.length=n then
    match blk.rows[i]? with
    | some row=>
     if agg then (if j+sz≤row.length then some (.agg ((row.drop j).take sz),[b]) else none)
     else (match row[j]? with|some c=>some (c,[b])|none=>none)
    | none=>none
   else none
  | none=>none
 | .eptr cs=>
  if agg then (if sz≤cs.length then some (.agg ((cs.take sz).map .d),[]) else none)
  else (match cs[0]? with|some c=>some (.d c,[])|none=>none)
 | _=>none
def AV.one:AV→Bool
 | .agg _ | .tup _ | .junk=>false
 | .d (.raw v)=>v.oneCell'
 | _=>true
def setAt (row:List AV) (j:Nat):List AV→List AV
 | []=>row
 | c::cs=>setAt (row.set j c) (j+1) cs
def wrA (sz:Nat) (H:Heap) (x:AV):AV→Option (Nat × Blk)
 | .ptr b n i j=>
  match H b with
  | some blk=>
   if blk.rows.length=n∧blk.fz=false∧x.cells.length=sz∧x.cells.all AV.one then
    match blk.rows[i]? with
    | some row=>if j+sz≤row.length then some (b,{ blk with rows:=blk.rows.set i (setAt row j x.cells) }) else none
    | none=>none
   else none
  | none=>none
 | _=>none
def rowsOf (H:Heap):AV→Option (List (List AV) × List Nat)
 | .own b n off len=>
  match H b with
  | some blk=>if blk.rows.length=n∧off+len≤n then some ((blk.rows.drop off).take len,[b]) else none
  | none=>none
 | .nils=>some ([],[])
 | .d (.sl xs)=>some (xs.map (·.map .d),[])
 | _=>none
def rowsX (P:Program) (t t':TypeId) (H:Heap) (x:AV):Option (List (List AV) × List Nat):=match x with
 | .d (.str l)=>if tstr P t' = true∧(telem P t).map (tsz P)=some 1 then some (l.map fun c=>[.d (.int .u8 c.toNat)],[]) else none
 | x=>if t=t' then rowsOf H x else none
def chg (v:AV):Option Res:=some { v,hs:=[],rb:=[] }
def eqInts:List AV→List AV→Option Bool
 | [],[]=>some true
 | .d (.int k a)::l,.d (.int k' b)::l'=>if k=k' then (match eqInts l l' with|some r=>some ((a == b)&&r)|none=>none) else none
 | _,_=>none
def aggBin (n:Option Nat) (op:BinOp) (ps qs:List AV):Option D:=match n with
 | some n=>if ps.length=n∧n<9000 then (match op,eqInts ps qs with
  | .eql,some r=>some (.bool r)
  | .neq,some r=>some (.bool (!r))
  | _,_=>none) else none
 | none=>none
def pure1 (x:Option D):Option Res:=x.map fun v=>{ v:=.d v,hs:=[],rb:=[] }
def intOf? : AV→Option Int
 | .d (.int _ n)=>some n
 | _=>none
def fillA (place:Nat→Option (Nat × Nat)) (cells:List AV):List (Nat × AV)→Option (List AV)
 | []=>some cells
 | (i,v)::rest=>
  match place i with
  | some (off,size)=>if v.cells.length=size∧off+size≤cells.length∧v.cells.all AV.one then fillA place (setAt cells off v.cells) rest else none
  | none=>none
def tptr (P:Program) (t:TypeId):Option TypeId:=match P.underlying t with|some (.pointer e)=>some e|_=>none
def bytesA:List (List AV)→Option (List UInt8)
 | []=>some []
 | [.d (.int .u8 c)]::rest=>if 0≤c∧c<256 then (match bytesA rest with|some l=>some (c.toNat.toUInt8::l)|none=>none) else none
 | _=>none
def execA (P:Program) (id:Nat) (ev:Operand→AV) (H:Heap):Op→Option Res
 | .move x | .assign x=>chg (ev x)
 | .pick c a b=>match ev c with
  | .d (.bool t)=>chg (if t then ev a else ev b)
  | _=>none
 | .alloc t=>match tzero P t with
  | some z=>if (ofVal z).cells.all AV.one then some { v:=.ptr id 1 0 0,hs:=[(id,{ fz:=false,ap:=false,ty:=t,sz:=(ofVal z).cells.length,rows:=[(ofVal z).cells] })],rb:=[] } else none
  | none=>none
 | .box t x=>if (ev x).cells.all AV.one then some { v:=.ptr id 1 0 0,hs:=[(id,{ fz:=false,ap:=false,ty:=t,sz:=(ev x).cells.length,rows:=[(ev x).cells] })],rb:=[] } else none
 | .build t parts=>match tzero P t,tplace P t with
  | some z,some pl=>
   match ofVal z with
   | .agg cs0=>match fillA (fun i=>pl[i]?) cs0 (parts.toList.map fun p=>(p.1,ev p.2)) with
    | some cs=>chg (.agg cs)
    | none=>none
   | _=>none
  | _,_=>none
 | .load t a=>if tin P t∧tun P t then (match rdA (tagg P t) (tsz P t) H (ev a) with
  | some (v,rb)=>some { v,hs:=[],rb }
  | none=>none) else none
 | .store t a x=>if tin P t then (match wrA (tsz P t) H (ev x) (ev a) with
  | some p=>some { v:=.junk,hs:=[p],rb:=[p.1] }
  | none=>none) else none
 | .nilCheck x=>match ev x with
  | .ptr b n i j=>match H b with
   | some blk=>if blk.rows.length=n then some { v:=.ptr b n i j,hs:=[],rb:=[b] } else none
   | none=>none
  | .eptr cs=>chg (.eptr cs)
  | _=>none
 | .binOp op t x y _=>match ev x,ev y with
  | .d (.bool a),.d (.bool b)=>if tbool P t then pure1 (aBin op (.bool a) (.bool b)) else none
  | .d a,.d b=>pure1 (aBin op a b)
  | .agg ps,.agg qs=>pure1 (aggBin (teqn P t) op ps qs)
  | _,_=>none
 | .unOp op _ x=>match ev x with
  | .d a=>pure1 (aUn op a)
  | _=>none
 | .convert s t x=>match ev x,tint P t,tstr P t with
  | .d (.int _ n),some k,_=>if tun P s then chg (.d (.int k (k.wrap n))) else none
  | .d (.str l),none,true=>if tun P s then chg (.d (.str l)) else none
  | v,none,true=>if (telem P s).bind (tint P)=some .u8 then (match rowsOf H v with
   | some (rows,rb)=>(match bytesA rows with
    | some l=>some { v:=.d (.str l),hs:=[],rb }
    | none=>none)
   | none=>none) else none
  | .d (.str l),none,false=>match telem P t with
   | some e=>if tun P s∧tstr P s=true∧tint P e=some .u8 then some { v:=.own id l.length 0 l.length,hs:=[(id,{ fz:=false,ap:=false,ty:=e,sz:=1,rows:=l.map fun c=>[.d (.int .u8 c.toNat)] })],rb:=[] } else none
   | none=>none
  | _,_,_=>none
 | .makeFunc f first caps=>chg (.clo f (first.toList.map ev) (caps.toList.map ev))
 | .slice t x lo hi mx=>match ev x,mx with
  | .d (.str l),none=>if tstr P t then
   match (lo.map ev).getD (.d (.int .i64 0)),(hi.map ev).getD (.d (.int .i64 l.length)) with
   | .d (.int _ a),.d (.int _ b)=>if 0≤a∧a≤b∧b≤l.length then chg (.d (.str ((l.take b.toNat).drop a.toNat))) else none
   | _,_=>none
   else none
  | .d (.sl xs),none=>match telem P t with
   | some e=>if tin P e∧0<tsz P e then
    match (lo.map ev).getD (.d (.int .i64 0)),(hi.map ev).getD (.d (.int .i64 xs.length)) with
    | .d (.int _ a),.d (.int _ b)=>if 0≤a∧a≤b∧b≤xs.length∧xs.all (fun r=>r.length == tsz P e) then chg (.d (.sl ((xs.take b.toNat).drop a.toNat))) else none
    | _,_=>none
    else none
   | none=>none
  | .own bb n off len,none=>match telem P t with
   | some e=>match H bb with
    | some blk=>if tin P e∧0<tsz P e∧blk.sz=tsz P e∧blk.rows.length=n then
     match (lo.map ev).getD (.d (.int .i64 0)),(hi.map ev).getD (.d (.int .i64 len)) with
     | .d (.int _ a),.d (.int _ b)=>if 0≤a∧a<b∧b≤len then some { v:=.own bb n (off+a.toNat) (b.toNat-a.toNat),hs:=[],rb:=[bb] }
      else if 0≤a∧a=b∧b≤len then some { v:=.d (.sl []),hs:=[],rb:=[bb] } else none
     | _,_=>none
     else none
    | none=>none
   | none=>none
  | _,_=>none
 | .fieldAddr s x f=>match tfield P s f with
  | some (o,ft)=>if tin P ft∧tsz P ft≠0 then (match ev x with
   | .ptr b n i j=>match H b with
    | some blk=>if blk.rows.length=n then some { v:=.ptr b n i (j+o),hs:=[],rb:=[b] } else none
    | none=>none
   | .eptr cs=>chg (.eptr (cs.drop o))
   | _=>none) else none
  | none=>none
 | .field s x f=>match tfield P s f with
  | some (o,ft)=>if tin P ft∧tun P ft then (match ev x with
   | .agg cs=>if tagg P ft then (if o+tsz P ft≤cs.length then chg (.agg ((cs.drop o).take (tsz P ft))) else none)
    else (match cs[o]? with|some c=>chg c|none=>none)
   | _=>none) else none
  | none=>none
 | .indexAddr t x ix=>match ev ix with
  | .d (.int _ n)=>match telem P t,tarr P t with
   | some e,_=>if tin P e then (match ev x with
    | .own b m off len=>match H b with
     | some blk=>if blk.rows.length=m∧blk.sz=tsz P e∧0≤n∧n<len then some { v:=.ptr b m (off+n.toNat) 0,hs:=[],rb:=[b] } else none
     | none=>none
    | .d (.sl xs)=>if 0≤n then (match xs[n.toNat]? with|some row=>if row.length=tsz P e then chg (.eptr row) else none|none=>none) else none
    | _=>none) else none
   | none,some (len,e)=>if tin P e∧0≤n∧n<len then (match ev x with
    | .ptr b m i j=>match H b with
     | some blk=>if blk.rows.length=m then some { v:=.ptr b m i (j+n.toNat*tsz P e),hs:=[],rb:=[b] } else none
     | none=>none
    | .eptr cs=>chg (.eptr (cs.drop (n.toNat*tsz P e)))
    | _=>none) else none
   | _,_=>none
  | _=>none
 | .index t x ix=>match ev x,ev ix with
  | .d (.str l),.d (.int _ n)=>if tstr P t∧0≤n then (match l[n.toNat]? with|some c=>chg (.d (.int .u8 c.toNat))|none=>none) else none
  | .agg cs,.d (.int _ n)=>match tarr P t with
   | some (len,e)=>if tin P e∧tun P e∧tagg P e=false∧tsz P e=1∧0≤n∧n<len then (match cs[n.toNat]? with|some c=>chg c|none=>none) else none
   | none=>none
  | _,_=>none
 | .extract x i=>match ev x with
  | .tup cs=>match cs[i]? with|some c=>chg c|none=>none
  | _=>none
 | .buildSlice t len parts=>match telem P t with
  | some e=>match tzero P e with
   | some z=>if tin P e∧z.cells.size=tsz P e∧0<tsz P e∧len*tsz P e≤16777216∧parts.toList.map (·.1)=List.range len∧parts.all (fun p=>(ev p.2).cells.length == tsz P e&&(ev p.2).cells.all AV.one) then
    some { v:=.own id len 0 len,hs:=[(id,{ fz:=false,ap:=true,ty:=e,sz:=tsz P e,rows:=parts.toList.map fun p=>(ev p.2).cells })],rb:=[] } else none
   | none=>none
  | none=>none
 | .makeSlice t l c=>match telem P t with
  | some e=>match tzero P e with
   | some z=>match ev l,ev c with
    | .d (.int _ n),.d (.int _ m)=>if tin P e∧(ofVal z).cells.all AV.one∧(ofVal z).cells.length=tsz P e∧0<tsz P e∧n=m∧0≤n∧(tby P e:Int)*n≤281474976710656∧n≤9223372036854775807 then
     some { v:=.own id n.toNat 0 n.toNat,hs:=[(id,{ fz:=false,ap:=true,ty:=e,sz:=tsz P e,rows:=List.replicate n.toNat (ofVal z).cells })],rb:=[] } else none
    | _,_=>none
   | none=>none
  | none=>none
 | .call { callee:=.builtin .len,args,argTypes }=>match args.toList,argTypes.toList with
  | [x],[t]=>match ev x with
   | .d (.str l)=>if tstr P t then chg (.d (.int .i64 l.length)) else none
   | .d (.sl xs)=>if (telem P t).isSome then chg (.d (.int .i64 xs.length)) else none
   | .nils=>if (telem P t).isSome then chg (.d (.int .i64 0)) else none
   | .own b n _ len=>match H b with
    | some blk=>if (telem P t).isSome∧blk.rows.length=n then some { v:=.d (.int .i64 len),hs:=[],rb:=[b] } else none
    | none=>none
   | _=>none
  | _,_=>none
 | .call { callee:=.builtin .min,args,.. }=>match args.toList with
  | [x,y]=>match ev x,ev y with
   | .d (.int k a),.d (.int _ b)=>chg (.d (.int k (if b<a then b else a)))
   | _,_=>none
  | _=>none
 | .call { callee:=.builtin .max,args,.. }=>match args.toList with
  | [x,y]=>match ev x,ev y with
   | .d (.int k a),.d (.int _ b)=>chg (.d (.int k (if b>a then b else a)))
   | _,_=>none
  | _=>none
 | .call { callee:=.builtin .append,args,argTypes }=>match args.toList,argTypes.toList with
  | [s,x],[t,t']=>match telem P t,rowsX P t t' H (ev x) with
   | some e,some (rows,rb)=>match tzero P e with
    | none=>none
    | some z=>
    if tin P e∧z.cells.size=tsz P e∧0<tsz P e∧rows.all (fun r=>r.length == tsz P e&&r.all AV.one) then
     match ev s with
     | .nils=>if rows.length*tby P e≤140737488355328∧rows.length≤9223372036854775807 then
      some (if rows=[] then { v:=.nils,hs:=[],rb } else { v:=.own id rows.length 0 rows.length,hs:=[(id,{ fz:=false,ap:=true,ty:=e,sz:=tsz P e,rows })],rb }) else none
     | .own b n off len=>match H b with
      | some blk=>
       if blk.rows.length=n∧off=0∧len=n∧blk.fz=false∧blk.ap=true∧blk.ty=e∧blk.sz=tsz P e∧(n+rows.length)*tby P e≤140737488355328∧n+rows.length≤9223372036854775807 then
        some { v:=.own b (n+rows.length) 0 (n+rows.length),hs:=[(b,{ blk with rows:=blk.rows++rows })],rb:=b::rb }
       else none
      | none=>none
     | _=>none
    else none
   | _,_=>none
  | _,_=>none
 | .call { callee:=.builtin .unsafeSliceData,args,.. }=>match args.toList with
  | [x]=>match ev x with
   | .own b n off len=>match H b with
    | some blk=>if blk.rows.length=n∧off=0∧0<len then some { v:=.ptr b n 0 0,hs:=[],rb:=[b] } else none
    | none=>none
   | _=>none
  | _=>none
 | .call { callee:=.builtin .unsafeString,args,argTypes }=>match args.toList,argTypes.toList with
  | [x,y],[t,_]=>match ev x,ev y with
   | .ptr b n 0 0,.d (.int .i64 len)=>match H b,tptr P t with
    | some blk,some e=>if blk.rows.length=n∧0<len∧len.toNat≤n∧len≤9223372036854775807∧blk.ty=e∧P.cellsOf e=1∧blk.sz=1∧blk.ap=true then
     (match bytesA (blk.rows.take len.toNat) with
     | some l=>some { v:=.d (.str l),hs:=[(b,{ blk with fz:=true })],rb:=[b] }
     | none=>none) else none
    | _,_=>none
   | _,_=>none
  | _,_=>none
 | _=>none
end Am

namespace Am
open Go
variable {w w':World} {C C':Com} {ρ ρ':Rho} {H H':Heap}
theorem qdb {r o:Nat} (h:w'.heap[r]? = w.heap[r]?):w'.cell? ⟨r,o,none⟩ = w.cell? ⟨r,o,none⟩:=by
 rw[qib,qib,h]
theorem qr (H:Heap) (b:Nat) (blk:Blk):updH H b blk b=some blk:=by simp[updH]
theorem qj (H:Heap) {b x:Nat} (blk:Blk) (h:x≠b):updH H b blk x=H x:=by simp[updH,h]
theorem ext_drew (w:World) (C:Com) (ρ:Rho) (H:Heap):Ext w C ρ H w.drew C ρ H:=
 ⟨fun _ _ h=>h,fun _ _ _=>rfl,fun _ blk h=>⟨blk,h,rfl,Nat.le_refl _,fun _=>rfl⟩,rfl,rfl,rfl,Nat.le_refl _,fun _ _ _=>rfl,fun _ h=>.inl h,fun _ _ h=>.inl h⟩
theorem BlkOK.ext0 {b:Nat} {blk:Blk} (h:BlkOK w C ρ H b blk) (e:Ext0 w C ρ H w' C' ρ' H') (hρ:ρ' b=ρ b)
 (hh:∀ r s,ρ b=some (r,s)→w'.heap[r]? = w.heap[r]?) (hC:∀ r s,ρ b=some (r,s)→blk.fz=false→∀ o,C' r o→C r o):BlkOK w' C' ρ' H' b blk:=by
 unfold BlkOK at h ⊢;rw[hρ];cases hb:ρ b with
 | none=>rw[hb] at h;exact h
 | some p=>
  obtain ⟨r,s⟩:=p;rw[hb] at h;obtain ⟨⟨cs,lo,hi,h1,h2,h3,h4,h5,h6,h7⟩,h8,h9⟩:=h;refine ⟨⟨cs,lo,hi,by rw[hh r s hb];exact h1,h2,h3,h4,h5,h6,fun i j hi hj=>?_⟩,fun hf o hc=>h8 hf o (hC r s hb hf o hc),fun hf o ho=>e.com _ _ (h9 hf o ho)⟩
  obtain ⟨v,g1,g2,g3⟩:=h7 i j hi hj;exact ⟨v,g1,g2,g3.mono0 e⟩
theorem BlkOK.ext {b:Nat} {blk:Blk} (h:BlkOK w C ρ H b blk) (e:Ext w C ρ H w' C' ρ' H') (hρ:ρ' b=ρ b)
 (hh:∀ r s,ρ b=some (r,s)→w'.heap[r]? = w.heap[r]?) (hC:∀ r s,ρ b=some (r,s)→blk.fz=false→∀ o,C' r o→C r o):BlkOK w' C' ρ' H' b blk:=h.ext0 e.e0 hρ hh hC
theorem RelH.drew (h:RelH w C ρ H):RelH w.drew C ρ H where
 blk b blk hb:=(h.blk b blk hb).ext (ext_drew w C ρ H) rfl (fun _ _ _=>rfl) (fun _ _ _ _ _ hc=>hc)
 dis:=h.dis
 com r o hc:=h.com r o hc
def rhoSet (ρ:Rho) (b:Nat) (p:Nat × Nat):Rho:=fun x=>if x=b then some p else ρ x
theorem qn (ρ:Rho) (b:Nat) (p:Nat × Nat):rhoSet ρ b p b=some p:=by simp[rhoSet]
theorem qo (ρ:Rho) {b x:Nat} (p:Nat × Nat) (h:x≠b):rhoSet ρ b p x=ρ x:=by simp[rhoSet,h]
theorem qby (w:World) (o:Obj):(w.alloc o).heap[w.heap.size]? = some o:=by
 show (w.heap.push o)[w.heap.size]? = _
 simp
theorem qmf (w:World) (o:Obj) {k:Nat} (h:k<w.heap.size):(w.alloc o).heap[k]? = w.heap[k]?:=by
 show (w.heap.push o)[k]? = _
 rw[Array.getElem?_push,if_neg (by omega)]
def Fits (w:World) (C:Com) (ρ:Rho) (H:Heap) (blk:Blk) (cs:Array Value):Prop:=
 blk.rows.length*blk.sz≤cs.size∧(∀ i (h:i<blk.rows.length),(blk.rows[i]).length=blk.sz)∧
 ∀ i j (hi:i<blk.rows.length) (hj:j<(blk.rows[i]).length),∃ v,cs[i*blk.sz+j]? = some v∧v.oneCell' = true∧RepA w C ρ H (blk.rows[i])[j] v
theorem ext_new (hR:RelH w C ρ H) {b:Nat} {blk:Blk} {cs:Array Value}
 (hold:∀ blk0,H b=some blk0→blk.sz=blk0.sz∧blk0.rows.length<blk.rows.length) :
 Ext w C ρ H (w.alloc (.cells cs blk.ty (0,0))) C (rhoSet ρ b (w.heap.size,cs.size)) (updH H b blk) where
 com _ _ h:=h
 cell r o hc:=qdb (qmf w _ (hR.com_lt hc))
 blk x blk0 hx:=by
  by_cases hxb:x=b
  · subst hxb;obtain ⟨h1,h2⟩:=hold blk0 hx;exact ⟨blk,qr ..,h1,by omega,fun e=>by omega⟩
  · exact ⟨blk0,by rw[qj _ _ hxb];exact hx,rfl,Nat.le_refl _,fun _=>qo _ _ hxb⟩
 os:=rfl
 tape:=rfl
 output:=rfl
 size:=by simp
 same r hr _:=qmf w _ hr
 rows r ho:=by
  obtain ⟨x,s,hx,hr⟩:=ho
  by_cases hxb:x=b
  · subst hxb;rw[qn] at hr;simp at hr;exact .inr (by omega)
  · rw[qj _ _ hxb] at hx;rw[qo _ _ hxb] at hr;exact .inl ⟨x,s,hx,hr⟩
 grow _ _ h:=.inl h
theorem qng (hR:RelH w C ρ H) {b:Nat} {blk:Blk} {cs:Array Value}
 (hold:∀ blk0,H b=some blk0→blk.sz=blk0.sz∧blk0.rows.length<blk.rows.length)
 (hf:Fits w C ρ H blk cs) (hfz:blk.fz=false) :
 RelH (w.alloc (.cells cs blk.ty (0,0))) C (rhoSet ρ b (w.heap.size,cs.size)) (updH H b blk):=by
 have e:=ext_new (cs:=cs) hR hold;have hlt:∀ x r s,(H x).isSome=true→ρ x=some (r,s)→r<w.heap.size:=fun x r s hx hr=>hR.row_lt ⟨x,s,hx,hr⟩
 constructor
 · intro x blk0 hx
   by_cases hxb:x=b
   · subst hxb;rw[qr] at hx;obtain rfl:blk=blk0:=by simpa using hx
     unfold BlkOK;rw[qn];obtain ⟨f1,f2,f3⟩:=hf;refine ⟨⟨cs,0,0,qby w _,rfl,fun _ _=>⟨rfl,rfl⟩,fun _ o _=>by omega,f1,f2,fun i j hi hj=>?_⟩,fun _ o hc=>?_,fun h=>by simp[hfz] at h⟩
     · obtain ⟨v,g1,g2,g3⟩:=f3 i j hi hj;exact ⟨v,g1,g2,g3.mono e⟩
     · have:=hR.com_lt hc;omega
   · rw[qj _ _ hxb] at hx;refine (hR.blk x blk0 hx).ext e (qo _ _ hxb) (fun r s hr=>qmf w _ (hlt x r s (by simp[hx]) hr)) (fun _ _ _ _ _ hc=>hc)
 · intro x y r s s' hne hx hy hrx hry
   by_cases hxb:x=b
   · subst hxb;have hyb:y≠x:=fun e=>hne e.symm
     rw[qn] at hrx;rw[qj _ _ hyb] at hy;rw[qo _ _ hyb] at hry;have:=hlt y r s' hy hry;simp at hrx;omega
   · by_cases hyb:y=b
     · subst hyb;rw[qn] at hry;rw[qj _ _ hxb] at hx;rw[qo _ _ hxb] at hrx;have:=hlt x r s hx hrx;simp at hry;omega
     · rw[qj _ _ hxb] at hx;rw[qj _ _ hyb] at hy;rw[qo _ _ hxb] at hrx;rw[qo _ _ hyb] at hry;exact hR.dis x y r s s' hne hx hy hrx hry
 · intro r o hc;obtain ⟨v,hv⟩:=hR.com r o hc;exact ⟨v,by rw[e.cell r o hc];exact hv⟩
theorem ext_newG (reg:Nat × Nat) (hR:RelH w C ρ H) {b:Nat} {blk:Blk} {cs:Array Value}
 (hold:∀ blk0,H b=some blk0→blk.sz=blk0.sz∧blk0.rows.length<blk.rows.length) :
 Ext w C ρ H (w.alloc (.cells cs blk.ty reg)) C (rhoSet ρ b (w.heap.size,cs.size)) (updH H b blk) where
 com _ _ h:=h
 cell r o hc:=qdb (qmf w _ (hR.com_lt hc))
 blk x blk0 hx:=by
  by_cases hxb:x=b
  · subst hxb;obtain ⟨h1,h2⟩:=hold blk0 hx;exact ⟨blk,qr ..,h1,by omega,fun e=>by omega⟩
  · exact ⟨blk0,by rw[qj _ _ hxb];exact hx,rfl,Nat.le_refl _,fun _=>qo _ _ hxb⟩
 os:=rfl
 tape:=rfl
 output:=rfl
 size:=by simp
 same r hr _:=qmf w _ hr
 rows r ho:=by
  obtain ⟨x,s,hx,hr⟩:=ho
  by_cases hxb:x=b
  · subst hxb;rw[qn] at hr;simp at hr;exact .inr (by omega)
  · rw[qj _ _ hxb] at hx;rw[qo _ _ hxb] at hr;exact .inl ⟨x,s,hx,hr⟩
 grow _ _ h:=.inl h
theorem qveb (reg:Nat × Nat) (hR:RelH w C ρ H) {b:Nat} {blk:Blk} {cs:Array Value}
 (hold:∀ blk0,H b=some blk0→blk.sz=blk0.sz∧blk0.rows.length<blk.rows.length)
 (hf:Fits w C ρ H blk cs) (hfz:blk.fz=false) (hap:blk.ap=false) (hreg:∀ o,o<cs.size→¬(reg.1≤o∧o<reg.2)) :
 RelH (w.alloc (.cells cs blk.ty reg)) C (rhoSet ρ b (w.heap.size,cs.size)) (updH H b blk):=by
 have e:=ext_newG reg (cs:=cs) hR hold;have hlt:∀ x r s,(H x).isSome=true→ρ x=some (r,s)→r<w.heap.size:=fun x r s hx hr=>hR.row_lt ⟨x,s,hx,hr⟩
 constructor
 · intro x blk0 hx
   by_cases hxb:x=b
   · subst hxb;rw[qr] at hx;obtain rfl:blk=blk0:=by simpa using hx
     unfold BlkOK;rw[qn];obtain ⟨f1,f2,f3⟩:=hf;refine ⟨⟨cs,reg.1,reg.2,qby w _,rfl,fun _ h=>by simp[hap] at h,fun _ o ho=>hreg o ho,f1,f2,fun i j hi hj=>?_⟩,fun _ o hc=>?_,fun h=>by simp[hfz] at h⟩
     · obtain ⟨v,g1,g2,g3⟩:=f3 i j hi hj;exact ⟨v,g1,g2,g3.mono e⟩
     · have:=hR.com_lt hc;omega
   · rw[qj _ _ hxb] at hx;refine (hR.blk x blk0 hx).ext e (qo _ _ hxb) (fun r s hr=>qmf w _ (hlt x r s (by simp[hx]) hr)) (fun _ _ _ _ _ hc=>hc)
 · intro x y r s s' hne hx hy hrx hry
   by_cases hxb:x=b
   · subst hxb;have hyb:y≠x:=fun e=>hne e.symm
     rw[qn] at hrx;rw[qj _ _ hyb] at hy;rw[qo _ _ hyb] at hry;have:=hlt y r s' hy hry;simp at hrx;omega
   · by_cases hyb:y=b
     · subst hyb;rw[qn] at hry;rw[qj _ _ hxb] at hx;rw[qo _ _ hxb] at hrx;have:=hlt x r s hx hrx;simp at hry;omega
     · rw[qj _ _ hxb] at hx;rw[qj _ _ hyb] at hy;rw[qo _ _ hxb] at hrx;rw[qo _ _ hyb] at hry;exact hR.dis x y r s s' hne hx hy hrx hry
 · intro r o hc;obtain ⟨v,hv⟩:=hR.com r o hc;exact ⟨v,by rw[e.cell r o hc];exact hv⟩
structure Wrote (w w':World) (r:Nat) (cs':Array Value) (ty:TypeId) (lo hi:Nat):Prop where
 os:w'.os=w.os
 tape:w'.tape=w.tape
 output:w'.output=w.output
 size:w'.heap.size=w.heap.size
 other:∀ k,k≠r→w'.heap[k]? = w.heap[k]?
 row:w'.heap[r]? = some (.cells cs' ty (lo,hi))
theorem ext_row (hR:RelH w C ρ H) {b r s lo hi:Nat} {blk0 blk:Blk} {cs':Array Value} (hb:H b=some blk0) (hfz:blk0.fz=false)
 (hr:ρ b=some (r,s)) (hw:Wrote w w' r cs' blk.ty lo hi) (hsz:blk.sz=blk0.sz) (hlen:blk0.rows.length≤blk.rows.length) :
 Ext w C ρ H w' C ρ (updH H b blk) where
 com _ _ h:=h
 cell r' o hc:=by
  refine qdb (hw.other r' fun e=>?_)
  subst e;have:=hR.blk b blk0 hb;unfold BlkOK at this;rw[hr] at this;exact this.2.1 hfz o hc
 blk x blk1 hx:=by
  by_cases hxb:x=b
  · subst hxb;rw[hb] at hx;obtain rfl:blk0=blk1:=by simpa using hx
    exact ⟨blk,qr ..,hsz,hlen,fun _=>rfl⟩
  · exact ⟨blk1,by rw[qj _ _ hxb];exact hx,rfl,Nat.le_refl _,fun _=>rfl⟩
 os:=hw.os
 tape:=hw.tape
 output:=hw.output
 size:=by rw[hw.size];exact Nat.le_refl _
 same k hk hno:=hw.other k fun e=>hno ⟨b,s,by simp[hb],by rw[e];exact hr⟩
 rows k ho:=by
  obtain ⟨x,s',hx,hr'⟩:=ho;refine .inl ⟨x,s',?_,hr'⟩
  by_cases hxb:x=b
  · subst hxb;simp[hb]
  · rwa [qj _ _ hxb] at hx
 grow _ _ h:=.inl h
theorem qcx (hR:RelH w C ρ H) {b r s lo hi:Nat} {blk0 blk:Blk} {cs':Array Value} (hb:H b=some blk0) (hfz:blk0.fz=false)
 (hr:ρ b=some (r,s)) (hw:Wrote w w' r cs' blk.ty lo hi) (hsz:blk.sz=blk0.sz) (hlen:blk0.rows.length≤blk.rows.length)
 (hfz':blk.fz=false) (hs:cs'.size=s) (hap:blk.ap=true→lo=0∧hi=0) (hfr:∀ o,o<s→¬(lo≤o∧o<hi)) (hf:Fits w C ρ H blk cs') :
 RelH w' C ρ (updH H b blk):=by
 have e:=ext_row hR hb hfz hr hw hsz hlen
 have hC:∀ o,¬ C r o:=by
  have:=hR.blk b blk0 hb;unfold BlkOK at this;rw[hr] at this;exact this.2.1 hfz
 constructor
 · intro x blk1 hx
   by_cases hxb:x=b
   · subst hxb;rw[qr] at hx;obtain rfl:blk=blk1:=by simpa using hx
     unfold BlkOK;rw[hr];obtain ⟨f1,f2,f3⟩:=hf;refine ⟨⟨cs',lo,hi,hw.row,hs,fun _=>hap,fun _=>hfr,by omega,f2,fun i j hi hj=>?_⟩,fun _=>hC,fun h=>by simp[hfz'] at h⟩
     obtain ⟨v,g1,g2,g3⟩:=f3 i j hi hj;exact ⟨v,g1,g2,g3.mono e⟩
   · rw[qj _ _ hxb] at hx;refine (hR.blk x blk1 hx).ext e rfl (fun r' s' hr'=>hw.other r' fun e=>?_) (fun _ _ _ _ _ hc=>hc)
     subst e;exact hR.dis x b r' s' s hxb (by simp[hx]) (by simp[hb]) hr' hr
 · intro x y r1 s1 s2 hne hx hy hrx hry;refine hR.dis x y r1 s1 s2 hne ?_ ?_ hrx hry
   · by_cases hxb:x=b
     · subst hxb;simp[hb]
     · rwa [qj _ _ hxb] at hx
   · by_cases hyb:y=b
     · subst hyb;simp[hb]
     · rwa [qj _ _ hyb] at hy
 · intro r1 o hc;obtain ⟨v,hv⟩:=hR.com r1 o hc;exact ⟨v,by rw[e.cell r1 o hc];exact hv⟩
def putL (cs:Array Value) (o:Nat):List Value→Array Value
 | []=>cs
 | v::vs=>putL (cs.setIfInBounds o v) (o+1) vs
theorem qre (vs:List Value):∀ (cs:Array Value) (o:Nat),(putL cs o vs).size=cs.size:=by
 induction vs with
 | nil=>intro cs o;rfl
 | cons v vs ih=>intro cs o;simp[putL,ih]
theorem qeh (vs:List Value):∀ (cs:Array Value) (o k:Nat),o+vs.length≤cs.size→
 (putL cs o vs)[k]? = if o≤k∧k<o+vs.length then vs[k-o]? else cs[k]?:=by
 induction vs with
 | nil=>intro cs o k _;simp only[putL,List.length_nil];rw[if_neg (by omega)]
 | cons v vs ih=>
  intro cs o k h;simp only[List.length_cons] at h ⊢;rw[putL,ih _ _ _ (by simp;omega)]
  by_cases hk:o+1≤k∧k<o+1+vs.length
  · rw[if_pos hk,if_pos (by omega)]
    obtain ⟨m,hm⟩:∃ m,k-o=m+1:=⟨k-o-1,by omega⟩
    have:k-(o+1)=m:=by omega
    rw[hm,this];simp
  · rw[if_neg hk,Array.getElem?_setIfInBounds]
    by_cases hk':o=k
    · subst hk';rw[if_pos rfl,if_pos (by omega),if_pos (by omega)]
      simp
    · rw[if_neg hk',if_neg (by omega)]
theorem qvp (w:World) (r o:Nat) {cs:Array Value} {ty:TypeId} {lo hi:Nat} (h:w.heap[r]? = some (.cells cs ty (lo,hi))) :
 w.frozen? ⟨r,o,none⟩ = (decide (lo≤o)&&decide (o<hi)):=by
 unfold World.frozen?;rw[h]
theorem qml (P:Program) (r:Nat) (ty:TypeId) (lo hi o:Nat):∀ (vs:List Value) (i:Nat) (cs:Array Value) (w:World),
 w.heap[r]? = some (.cells cs ty (lo,hi))→o+i+vs.length≤cs.size→(∀ k,k<cs.size→¬(lo≤k∧k<hi))→(∀ v∈vs,v.oneCell' = true)→
 ∃ w',(storeCells ⟨r,o,none⟩ vs i).run P w = .ok () w'∧Wrote w w' r (putL cs (o+i) vs) ty lo hi:=by
 intro vs
 induction vs with
 | nil=>intro i cs w h _ _ _;exact ⟨w,rfl,rfl,rfl,rfl,rfl,fun _ _=>rfl,h⟩
 | cons v vs ih=>
  intro i cs w h hs hfr h1;simp only[List.length_cons] at hs;have hc:w.cell? ⟨r,o+i,none⟩ = some (cs[o+i]'(by omega)):=by rw[qib,h];simp
  have hfz:w.frozen? ⟨r,o+i,none⟩ = false:=by
   rw[qvp w r (o+i) h];have:=hfr (o+i) (by omega)
   simp;omega
  have hset:(w.setCell ⟨r,o+i,none⟩ v).heap[r]? = some (.cells (cs.setIfInBounds (o+i) v) ty (lo,hi)):=by
   simp[World.setCell,Array.getElem?_modify,h]
  obtain ⟨w',hr,hw⟩:=ih (i+1) (cs.setIfInBounds (o+i) v) (w.setCell ⟨r,o+i,none⟩ v) hset (by simp;omega) (by simpa using hfr) (fun x hx=>h1 x (List.mem_cons_of_mem _ hx))
  refine ⟨w',?_,?_⟩
  · simp only[storeCells,Sem.run_bind,qnb];rw[run_store P w _ v .plain (h1 v (List.mem_cons_self ..)),hc];simp only[hfz,Bool.false_eq_true,if_false,Result.andThen_ok];exact hr
  · refine ⟨by rw[hw.os];rfl,by rw[hw.tape];rfl,by rw[hw.output];rfl,by rw[hw.size];simp,fun k hk=>?_,?_⟩
    · rw[hw.other k hk];simp only[World.setCell,Array.getElem?_modify];rw[if_neg (by omega)]
    · rw[hw.row];rfl
end Am

namespace Am
open Go
variable {P:Program} {w:World} {C:Com} {ρ:Rho} {H:Heap}
def Out (w:World) (C:Com) (ρ:Rho) (H:Heap) (r:Res) (run:Result Next):Prop:=
 ∃ w' C' ρ' v,(run = .ok (.value v) w'∨(run = .ok .skip w'∧v=undef))∧RelH w' C' ρ' (updsH H r.hs)∧
  Ext w C ρ H w' C' ρ' (updsH H r.hs)∧RepA w' C' ρ' (updsH H r.hs) r.v v
theorem Out.same {v:Value} {av:AV} {rb:List Nat} (hR:RelH w C ρ H) (h:RepA w C ρ H av v) {run:Result Next} (hr:run = .ok (.value v) w) :
 Out w C ρ H { v:=av,hs:=[],rb } run:=
 ⟨w,C,ρ,v,.inl hr,hR,.refl _ _ _ _,h⟩
theorem Out.rb {r:Res} {run:Result Next} (h:Out w C ρ H r run) (rb:List Nat):Out w C ρ H { r with rb } run:=h
theorem qm {t:TypeId} (h:tin P t=true):(Go.sizeOf t).run P w = .ok (tsz P t) w:=by
 unfold tin at h;unfold tsz;cases hi:P.info? t with
 | none=>simp[hi] at h
 | some i=>simp[Go.sizeOf,typeInfo,hi]
theorem qgc {t:TypeId} (h:tun P t=true):(isAgg t).run P w = .ok (tagg P t) w:=by
 unfold tun at h;unfold tagg;cases hi:P.underlying t with
 | none=>simp[hi] at h
 | some i=>simp[isAgg,underlying,hi];cases i<;>rfl
theorem qbj {t:TypeId} {z:Value} (h:tzero P t=some z):(zeroValue t).run P w = .ok z w:=by
 unfold tzero at h;cases hi:P.info? t with
 | none=>simp[hi] at h
 | some i=>simp[hi] at h;simp[zeroValue,typeInfo,hi,h]
theorem qci (v:Value):RepA w C ρ H (ofCell v) v:=by
 unfold ofCell
 split
 · exact .d _ _ (.int _ _)
 · exact .d _ _ (.bool _)
 · rename_i s;exact .d _ _ (.str _)
 · exact .nils
 · exact .d _ _ (.raw _)
theorem qzg (v:Value):RepA w C ρ H (ofVal v) v:=by
 unfold ofVal
 split
 · rename_i cs
   split
   · rename_i h1;obtain ⟨l⟩:=cs;refine .agg _ l (by simp) (fun v hv=>by simp at h1;exact h1 v hv) fun i h h'=>?_
     simp only[List.getElem_map];exact qci _
   · exact .junk _
 · exact qci _
theorem qzj {v:Value} (ho:v.oneCell' = true):v.cells = #[v]:=by
 cases v<;>first|rfl|(simp[Value.oneCell'] at ho)
theorem RepA.cellsOf {x:AV} {v:Value} (h:RepA w C ρ H x v) (h1:x.cells.all AV.one=true) :
 x.cells.length=v.cells.size∧(∀ u∈v.cells.toList,u.oneCell' = true)∧
 ∀ i (h:i<x.cells.length) (h':i<v.cells.toList.length),RepA w C ρ H x.cells[i] v.cells.toList[i]:=by
 have single:∀ (x:AV) (v:Value),RepA w C ρ H x v→x.cells=[x]→v.cells = #[v]→v.oneCell' = true→
  x.cells.length=v.cells.size∧(∀ u∈v.cells.toList,u.oneCell' = true)∧
  ∀ i (h:i<x.cells.length) (h':i<v.cells.toList.length),RepA w C ρ H x.cells[i] v.cells.toList[i]:=by
  intro x v h hx hv ho;rw[hx,hv];refine ⟨rfl,by simpa using ho,fun i hi _=>?_⟩
  have:i=0:=by simp at hi;exact hi
  subst this;exact h
 cases h with
 | agg cs vs hl ho h=>exact ⟨by simpa [AV.cells,Value.cells] using hl,by simpa [Value.cells] using ho,fun i h2 h3=>h i h2 (by simpa [Value.cells] using h3)⟩
 | d y v h=>
  cases h with
  | raw v=>
   have ho:v.oneCell' = true:=by simpa [AV.cells,AV.one] using h1
   exact single _ _ (.d _ _ (.raw v)) rfl (qzj ho) ho
  | int k n=>exact single _ _ (.d _ _ (.int k n)) rfl rfl rfl
  | bool b=>exact single _ _ (.d _ _ (.bool b)) rfl rfl rfl
  | str l=>exact single _ _ (.d _ _ (.str l)) rfl rfl rfl
  | nil=>exact single _ _ (.d _ _ .nil) rfl rfl rfl
  | nilA a=>exact single _ _ (.d _ _ (.nilA a)) rfl rfl rfl
  | sl xs r o cap sz vs a b c d e=>exact single _ _ (.d _ _ (.sl xs r o cap sz vs a b c d e)) rfl rfl rfl
 | nils=>exact single _ _ .nils rfl rfl rfl
 | tup cs vs hl h=>simp[AV.cells,AV.one] at h1
 | junk v=>simp[AV.cells,AV.one] at h1
 | ptr b n i j v blk hb hn ho h=>exact single _ _ (.ptr b n i j v blk hb hn ho h) rfl (qzj ho) ho
 | own b n off len v blk hb hn ho h=>exact single _ _ (.own b n off len v blk hb hn ho h) rfl (qzj ho) ho
 | eptr cs r o vs hC hcell hrec=>exact single _ _ (.eptr cs r o vs hC hcell hrec) rfl rfl rfl
 | clo f first caps fv cv hf hc h1' h2'=>exact single _ _ (.clo f first caps fv cv hf hc h1' h2') rfl rfl rfl
section ops
variable {ev:Operand→AV} {rv:Operand→Value} {id:Nat} {r:Res} {o:Oper}
theorem qsl (hR:RelH w C ρ H) (hev:∀ x,RepA w C ρ H (ev x) (rv x)) {x:Operand} (ho:o.op = .move x∨o.op = .assign x)
 (h:chg (ev x)=some r):Out w C ρ H r ((execOp rv o).run P w):=by
 obtain rfl:_=r:=by simpa [chg] using h
 refine Out.same hR (hev x) ?_;rcases ho with ho|ho<;>simp[execOp,ho]
theorem qce {b:Bool} {v:Value} (h:RepA w C ρ H (.d (.bool b)) v):v = .bool b:=by
 cases h with|d _ _ h=>cases h;rfl
theorem qmb {k:IntKind} {n:Int} {v:Value} (h:RepA w C ρ H (.d (.int k n)) v):v = .int k n:=by
 cases h with|d _ _ h=>cases h;rfl
theorem qsg {l:List UInt8} {v:Value} (h:RepA w C ρ H (.d (.str l)) v):v = .string ⟨⟨l⟩⟩:=by
 cases h with|d _ _ h=>cases h;rfl
theorem qzy (hR:RelH w C ρ H) (hev:∀ x,RepA w C ρ H (ev x) (rv x)) {c a b:Operand} (ho:o.op = .pick c a b)
 (h:execA P id ev H (.pick c a b)=some r):Out w C ρ H r ((execOp rv o).run P w):=by
 simp only[execA] at h;have hc:=hev c
 split at h
 · rename_i t ht;rw[ht] at hc;obtain rfl:_=r:=by simpa [chg] using h
   refine Out.same hR (v:=if t then rv a else rv b) ?_ ?_
   · cases t<;>simp<;>exact hev _
   · simp[execOp,ho,qce hc,asBool]
 · simp at h
theorem qrjb {x:AV} {v:Value} (h:RepA w C ρ H x v) (h1:x.cells.all AV.one=true) (ty:TypeId) (fz ap:Bool) :
 Fits w C ρ H { fz,ap,ty,sz:=x.cells.length,rows:=[x.cells] } v.cells:=by
 obtain ⟨g1,g2,g3⟩:=h.cellsOf h1;refine ⟨by simp[g1],fun i hi=>?_,fun i j hi hj=>?_⟩
 · have:i=0:=by simp at hi;exact hi
   subst this;simp
 · have:i=0:=by simp at hi;exact hi
   subst this;have hj':j<v.cells.toList.length:=by simp only[Array.length_toList];rw[← g1];simpa using hj
   refine ⟨v.cells.toList[j],?_,g2 _ (List.getElem_mem _),?_⟩
   · simp at hj' ⊢
   · exact g3 j (by simpa using hj) hj'
theorem qnbb (hR:RelH w C ρ H) (hid:H id=none) {x:AV} {v:Value} (h:RepA w C ρ H x v) (h1:x.cells.all AV.one=true) (t:TypeId)
 {run:Result Next} (hr:run = .ok (.value (.pointer (some ⟨w.heap.size,0,none⟩))) (w.alloc (.cells v.cells t))) :
 Out w C ρ H { v:=.ptr id 1 0 0,hs:=[(id,{ fz:=false,ap:=false,ty:=t,sz:=x.cells.length,rows:=[x.cells] })],rb:=[] } run:=by
 have hold:∀ blk0,H id=some blk0→x.cells.length=blk0.sz∧blk0.rows.length<[x.cells].length:=fun _ hb=>by simp[hid] at hb
 refine ⟨_,_,_,_,.inl hr,qng hR (blk:={ fz:=false,ap:=false,ty:=t,sz:=x.cells.length,rows:=[x.cells] }) hold (qrjb h h1 t false false) rfl,ext_new (blk:={ fz:=false,ap:=false,ty:=t,sz:=x.cells.length,rows:=[x.cells] }) hR hold,?_⟩;exact .ptr id 1 0 0 _ _ (qr ..) (by simp) rfl fun _=>⟨w.heap.size,v.cells.size,qn ..,by simp⟩
theorem qzu (hR:RelH w C ρ H) (hid:H id=none) {t:TypeId} (ho:o.op = .alloc t)
 (h:execA P id ev H (.alloc t)=some r):Out w C ρ H r ((execOp rv o).run P w):=by
 simp only[execA] at h
 split at h
 · rename_i z hz
   split at h
   · rename_i h1;obtain rfl:_=r:=by simpa using h
     refine qnbb hR hid (qzg z) h1 t ?_;simp[execOp,ho,Instr.alloc,qbj hz,newVar,newRow]
   · simp at h
 · simp at h
theorem qvgb (hR:RelH w C ρ H) (hid:H id=none) (hev:∀ x,RepA w C ρ H (ev x) (rv x)) {t:TypeId} {x:Operand} (ho:o.op = .box t x)
 (h:execA P id ev H (.box t x)=some r):Out w C ρ H r ((execOp rv o).run P w):=by
 simp only[execA] at h
 split at h
 · rename_i h1;obtain rfl:_=r:=by simpa using h
   refine qnbb hR hid (hev x) h1 t ?_;simp[execOp,ho,Instr.box,newVar,newRow]
 · simp at h
theorem Out.chg {v:Value} {av:AV} (hR:RelH w C ρ H) {r:Res} (h:chg av=some r) (hv:RepA w C ρ H av v) {run:Result Next}
 (hr:run = .ok (.value v) w):Out w C ρ H r run:=by
 obtain rfl:_=r:=by simpa [Am.chg] using h
 exact .same hR hv hr
theorem qqf (r o n:Nat) (vs:List Value) (hn:vs.length=n) (h:∀ j (hj:j<vs.length),w.cell? ⟨r,o+j,none⟩ = some vs[j]) :
 (loadCells ⟨r,o,none⟩ n).run P w = .ok ⟨vs⟩ w:=by
 subst hn;refine run_loadCells_list w ⟨r,o,none⟩ vs fun j v hj=>?_
 rw[qnb];obtain ⟨hj',rfl⟩:=List.getElem?_eq_some_iff.1 hj;exact h j hj'
theorem qow (hR:RelH w C ρ H) {b r s:Nat} {blk:Blk} (hb:H b=some blk) (hr:ρ b=some (r,s)) {i j:Nat} (hi:i<blk.rows.length) (hj:j<(blk.rows[i]).length) :
 ∃ v,w.cell? ⟨r,i*blk.sz+j,none⟩ = some v∧v.oneCell' = true∧RepA w C ρ H (blk.rows[i])[j] v:=by
 have:=hR.blk b blk hb;unfold BlkOK at this;rw[hr] at this;obtain ⟨⟨cs,lo,hi',h1,h2,h3,h4,h5,h6,h7⟩,_⟩:=this;obtain ⟨v,g1,g2,g3⟩:=h7 i j hi hj;exact ⟨v,by rw[qib,h1];exact g1,g2,g3⟩
theorem qsa (hR:RelH w C ρ H) (hev:∀ x,RepA w C ρ H (ev x) (rv x)) {t:TypeId} {x:Operand} (ho:o.op = .load t x)
 (h:execA P id ev H (.load t x)=some r):Out w C ρ H r ((execOp rv o).run P w):=by
 simp only[execA] at h
 split at h
 · rename_i ht;obtain ⟨ht1,ht2⟩:=ht;have hx:=hev x;generalize hvx:rv x=vx at hx
   have key:∀ (r0 o0:Nat) (l:List AV),vx = .pointer (some ⟨r0,o0,none⟩)→
    (∀ j (hj:j<l.length),∃ v,w.cell? ⟨r0,o0+j,none⟩ = some v∧v.oneCell' = true∧RepA w C ρ H l[j] v)→
    ∀ rb,(tagg P t=true→tsz P t≤l.length→Out w C ρ H { v:=.agg (l.take (tsz P t)),hs:=[],rb } ((execOp rv o).run P w))∧
     (tagg P t=false→∀ c,l[0]? = some c→Out w C ρ H { v:=c,hs:=[],rb } ((execOp rv o).run P w)):=by
    intro r0 o0 l hv hl rb;subst hv
    have hch:∀ j,∃ v,∀ (hj:j<l.length),w.cell? ⟨r0,o0+j,none⟩ = some v∧v.oneCell' = true∧RepA w C ρ H l[j] v:=by
     intro j
     by_cases hj:j<l.length
     · obtain ⟨v,hv⟩:=hl j hj;exact ⟨v,fun _=>hv⟩
     · exact ⟨undef,fun h=>absurd h hj⟩
    obtain ⟨f,hf⟩:=Classical.axiomOfChoice hch
    constructor
    · intro hagg hsz;refine Out.same hR (v:=.agg ⟨(List.range (tsz P t)).map f⟩) (.agg _ _ (by simp;omega) ?_ ?_) ?_
      · intro v hv;simp at hv;obtain ⟨j,hj,rfl⟩:=hv;exact (hf j (by omega)).2.1
      · intro i hi hi';simp at hi hi';simp only[List.getElem_take,List.getElem_map,List.getElem_range];exact (hf i (by omega)).2.2
      · have := qqf (P := P) (w := w) r0 o0 (tsz P t) ((List.range (tsz P t)).map f) (by simp) (fun j hj => by
         simp at hj;simp only[List.getElem_map,List.getElem_range];exact (hf j (by omega)).1)
        simp[execOp,ho,Instr.loadAt,hvx,Instr.sureAddr,loadVar,qgc ht2,hagg,qm ht1,this]
    · intro hagg c hc;obtain ⟨h0,rfl⟩:=List.getElem?_eq_some_iff.1 hc;obtain ⟨g1,g2,g3⟩:=hf 0 h0;refine Out.same hR g3 ?_;simp only[Nat.add_zero] at g1;simp[execOp,ho,Instr.loadAt,hvx,Instr.sureAddr,loadVar,qgc ht2,hagg,g1]
   split at h
   · rename_i v rb hrd;obtain rfl:_=r:=by simpa using h
     unfold rdA at hrd
     split at hrd
     · rename_i b n i j hxe;rw[hxe] at hx;cases hx with
       | ptr _ _ _ _ _ blk hb hn h1 hp=>
       simp only[hb] at hrd
       split at hrd
       · rename_i hlen;obtain ⟨r0,s0,hr0,hv⟩:=hp hlen
         split at hrd
         · rename_i row hrow;obtain ⟨hi,rfl⟩:=List.getElem?_eq_some_iff.1 hrow
           have hl:∀ k (hk:k<((blk.rows[i]).drop j).length),∃ v,w.cell? ⟨r0,(i*blk.sz+j)+k,none⟩ = some v∧v.oneCell' = true∧RepA w C ρ H ((blk.rows[i]).drop j)[k] v:=by
            intro k hk;simp at hk;obtain ⟨v,g1,g2,g3⟩:=qow hR hb hr0 hi (j:=j+k) (by omega)
            refine ⟨v,by rw[Nat.add_assoc];exact g1,g2,?_⟩
            simp only[List.getElem_drop];exact g3
           obtain ⟨k1,k2⟩:=key r0 _ _ hv hl rb
           split at hrd
           · rename_i hagg
             split at hrd
             · rename_i hsz;cases hrd;exact k1 hagg (by simp;omega)
             · simp at hrd
           · rename_i hagg
             split at hrd
             · rename_i c hc;cases hrd;exact k2 (by simpa using hagg) _ (by simpa using hc)
             · simp at hrd
         · simp at hrd
       · simp at hrd
     · rename_i cs hxe;rw[hxe] at hx;cases hx with
       | eptr _ r0 o0 vs hC hcell hrec=>
       have hl:∀ k (hk:k<(cs.map AV.d).length),∃ v,w.cell? ⟨r0,o0+k,none⟩ = some v∧v.oneCell' = true∧RepA w C ρ H (cs.map AV.d)[k] v:=by
        intro k hk;simp at hk;refine ⟨vs k,(hcell k hk).1,(hcell k hk).2,?_⟩;simp only[List.getElem_map];exact .d _ _ (hrec k hk)
       obtain ⟨k1,k2⟩:=key r0 o0 _ rfl hl rb
       split at hrd
       · rename_i hagg
         split at hrd
         · rename_i hsz;cases hrd;rw[List.map_take];exact k1 hagg (by simpa using hsz)
         · simp at hrd
       · rename_i hagg
         split at hrd
         · rename_i c hc;cases hrd;exact k2 (by simpa using hagg) _ (by simp[hc])
         · simp at hrd
     · simp at hrd
   · simp at h
 · simp at h
end ops
end Am

namespace Am
open Go
variable {P:Program} {w:World} {C:Com} {ρ:Rho} {H:Heap}
variable {ev:Operand→AV} {rv:Operand→Value} {id:Nat} {r:Res} {o:Oper}
theorem qcf (l:List AV):∀ (row:List AV) (j:Nat),(setAt row j l).length=row.length:=by
 induction l with
 | nil=>intro row j;rfl
 | cons c cs ih=>intro row j;simp[setAt,ih]
theorem qdk (l:List AV):∀ (row:List AV) (j k:Nat),j+l.length≤row.length→
 (setAt row j l)[k]? = if j≤k∧k<j+l.length then l[k-j]? else row[k]?:=by
 induction l with
 | nil=>intro row j k _;simp only[setAt,List.length_nil];rw[if_neg (by omega)]
 | cons c cs ih=>
  intro row j k h;simp only[List.length_cons] at h ⊢;rw[setAt,ih _ _ _ (by simp;omega)]
  by_cases hk:j+1≤k∧k<j+1+cs.length
  · rw[if_pos hk,if_pos (by omega)]
    obtain ⟨m,hm⟩:∃ m,k-j=m+1:=⟨k-j-1,by omega⟩
    have:k-(j+1)=m:=by omega
    rw[hm,this];simp
  · rw[if_neg hk,List.getElem?_set]
    by_cases hk':j=k
    · subst hk';rw[if_pos rfl,if_pos (by omega),if_pos (by omega)]
      simp
    · rw[if_neg hk',if_neg (by omega)]
theorem qpe (hR:RelH w C ρ H) {b r s:Nat} {blk:Blk} (hb:H b=some blk) (hr:ρ b=some (r,s)) :
 ∃ cs lo hi,w.heap[r]? = some (.cells cs blk.ty (lo,hi))∧cs.size=s∧(blk.fz=false→blk.ap=true→lo=0∧hi=0)∧(blk.fz=false→∀ o,o<s→¬(lo≤o∧o<hi))∧Fits w C ρ H blk cs:=by
 have:=hR.blk b blk hb;unfold BlkOK at this;rw[hr] at this;obtain ⟨⟨cs,lo,hi',h1,h2,h3,h4,h5,h6,h7⟩,_⟩:=this;exact ⟨cs,lo,hi',h1,h2,h3,h4,by omega,h6,h7⟩
theorem qut (hR:RelH w C ρ H) (hev:∀ x,RepA w C ρ H (ev x) (rv x)) {t:TypeId} {a x:Operand} (ho:o.op = .store t a x)
 (h:execA P id ev H (.store t a x)=some r):Out w C ρ H r ((execOp rv o).run P w):=by
 simp only[execA] at h
 split at h
 · rename_i ht
   split at h
   · rename_i p hwr;obtain rfl:_=r:=by simpa using h
     unfold wrA at hwr;have ha:=hev a;generalize hva:rv a=va at ha
     split at hwr
     · rename_i b n i j hae;rw[hae] at ha;cases ha with
       | ptr _ _ _ _ _ blk hb hn h1 hp=>
       simp only[hb] at hwr
       split at hwr
       · rename_i hc;obtain ⟨c1,c2,c3,c4⟩:=hc;obtain ⟨r0,s0,hr0,rfl⟩:=hp c1
         split at hwr
         · rename_i row hrow;obtain ⟨hi,rfl⟩:=List.getElem?_eq_some_iff.1 hrow
           split at hwr
           · rename_i hjs;cases hwr;obtain ⟨cs,lo,hh,m1,m2,m3,m4,f1,f2,f3⟩:=qpe hR hb hr0;obtain ⟨g1,g2,g3⟩:=(hev x).cellsOf c4;have hsz:=f2 i hi
             have hib:i*blk.sz+blk.sz≤blk.rows.length*blk.sz:=by
              have:(i+1)*blk.sz≤blk.rows.length*blk.sz:=Nat.mul_le_mul_right _ hi
              rwa [Nat.add_mul,Nat.one_mul] at this
             have hlen:(rv x).cells.toList.length=tsz P t:=by simp only[Array.length_toList];rw[← g1,c3]
             obtain ⟨w',hrun,hw⟩:=qml P r0 blk.ty lo hh (i*blk.sz+j) (rv x).cells.toList 0 cs w m1 (by omega) (by rw[m2];exact m4 c2) g2
             refine ⟨w',C,ρ,undef,.inr ⟨?_,rfl⟩,qcx (blk:={ blk with rows:=blk.rows.set i (setAt blk.rows[i] j (ev x).cells) }) hR hb c2 hr0 hw rfl (by simp) c2 (by rw[qre];exact m2) (m3 c2) (m4 c2) ⟨?_,?_,?_⟩,
              ext_row (blk:={ blk with rows:=blk.rows.set i (setAt blk.rows[i] j (ev x).cells) }) hR hb c2 hr0 hw rfl (by simp),.junk _⟩
             · have hs:¬ ((rv x).cells.size≠tsz P t):=by rw[← g1,c3];simp
               simp only[execOp,ho,Instr.storeAt,hva,Instr.sureAddr,storeVar,Sem.run_bind,Sem.run_pure,Result.andThen_ok,qm ht,hs,if_false,hrun]
             · rw[qre];simpa using f1
             · intro k hk;simp at hk
               by_cases hki:i=k
               · subst hki;simp[qcf];exact hsz
               · simp[hki];exact f2 k hk
             · intro k l hk hl;simp at hk;simp only[Nat.add_zero]
               by_cases hki:i=k
               · subst hki;simp at hl ⊢;have hl':l<blk.sz:=by rw[qcf] at hl;omega
                 rw[qeh _ _ _ _ (by omega)]
                 by_cases hjl:j≤l∧l<j+tsz P t
                 · rw[if_pos (by omega)]
                   have e1:i*blk.sz+l-(i*blk.sz+j)=l-j:=by omega
                   rw[e1];have hlt:l-j<(rv x).cells.toList.length:=by omega
                   refine ⟨_,List.getElem?_eq_getElem hlt,g2 _ (List.getElem_mem _),?_⟩
                   have hq:(setAt blk.rows[i] j (ev x).cells)[l]? = (ev x).cells[l-j]?:=by
                    rw[qdk _ _ _ _ (by omega),if_pos (by omega)]
                   have hlt2:l-j<(ev x).cells.length:=by omega
                   rw[List.getElem?_eq_getElem hlt2,List.getElem?_eq_getElem hl] at hq;rw[Option.some.inj hq];exact g3 (l-j) hlt2 hlt
                 · rw[if_neg (by omega)]
                   obtain ⟨v,v1,v2,v3⟩:=f3 i l hi (by omega)
                   refine ⟨v,v1,v2,?_⟩
                   have hq:(setAt blk.rows[i] j (ev x).cells)[l]? = blk.rows[i][l]?:=by
                    rw[qdk _ _ _ _ (by omega),if_neg (by omega)]
                   rw[List.getElem?_eq_getElem hl,List.getElem?_eq_getElem (by omega)] at hq
                   rw[Option.some.inj hq];exact v3
               · simp[hki] at hl ⊢;obtain ⟨v,v1,v2,v3⟩:=f3 k l hk hl;refine ⟨v,?_,v2,v3⟩;have hkl:=f2 k hk;rw[qeh _ _ _ _ (by omega),if_neg ?_]
                 · exact v1
                 · intro hc;rcases Nat.lt_or_gt_of_ne hki with hlt|hlt
                   · have:(i+1)*blk.sz≤k*blk.sz:=Nat.mul_le_mul_right _ hlt;rw[Nat.add_mul,Nat.one_mul] at this;omega
                   · have:(k+1)*blk.sz≤i*blk.sz:=Nat.mul_le_mul_right _ hlt;rw[Nat.add_mul,Nat.one_mul] at this;omega
           · simp at hwr
         · simp at hwr
       · simp at hwr
     · simp at hwr
   · simp at h
 · simp at h
theorem qfl (hR:RelH w C ρ H) (hev:∀ x,RepA w C ρ H (ev x) (rv x)) {x:Operand} (ho:o.op = .nilCheck x)
 (h:execA P id ev H (.nilCheck x)=some r):Out w C ρ H r ((execOp rv o).run P w):=by
 simp only[execA] at h;have hx:=hev x
 split at h
 · rename_i b n i j hxe;rw[hxe] at hx;generalize hv:rv x=vx at hx;have hx':=hx;cases hx with
   | ptr _ _ _ _ _ blk hb hn h1 hp=>
   simp only[hb] at h
   split at h
   · rename_i hc;cases h;obtain ⟨r0,s0,hr0,rfl⟩:=hp hc;refine Out.same hR hx' ?_;simp[execOp,ho,hv]
   · simp at h
 · rename_i cs hxe;rw[hxe] at hx;refine Out.chg hR h hx ?_;generalize hv:rv x=vx at hx;cases hx with
   | eptr _ r0 o0 vs _ _ _=>simp[execOp,ho,hv]
 · simp at h
theorem qco (hR:RelH w C ρ H) (hev:∀ x,RepA w C ρ H (ev x) (rv x)) {x:Operand} {i:Nat} (ho:o.op = .extract x i)
 (h:execA P id ev H (.extract x i)=some r):Out w C ρ H r ((execOp rv o).run P w):=by
 simp only[execA] at h;have hx:=hev x
 split at h
 · rename_i cs hxe;rw[hxe] at hx;generalize hv:rv x=vx at hx;cases hx with
   | tup _ vs hl hh=>
   split at h
   · rename_i c hc;obtain ⟨hi,rfl⟩:=List.getElem?_eq_some_iff.1 hc;refine Out.chg hR h (hh i hi (by omega)) ?_
     simp[execOp,ho,hv,Instr.extract,List.getElem?_eq_getElem (show i<vs.length by omega)]
   · simp at h
 · simp at h
theorem qkl (hR:RelH w C ρ H) (hev:∀ x,RepA w C ρ H (ev x) (rv x)) {f:Fn} {fs cs:Array Operand} (ho:o.op = .makeFunc f fs cs)
 (h:execA P id ev H (.makeFunc f fs cs)=some r):Out w C ρ H r ((execOp rv o).run P w):=by
 simp only[execA] at h;refine Out.chg hR h (v:=.func f ⟨fs.toList.map rv⟩ ⟨cs.toList.map rv⟩) (.clo _ _ _ _ _ (by simp) (by simp) ?_ ?_) ?_
 · intro i h1 h2;simp only[List.getElem_map];exact hev _
 · intro i h1 h2;simp only[List.getElem_map];exact hev _
 · have e:∀ (a:Array Operand),a.map rv=⟨a.toList.map rv⟩:=fun a=>by cases a;simp
   simp[execOp,ho,Instr.makeFunc,e]
end Am

namespace Am
open Go
variable {P:Program} {w:World} {C:Com} {ρ:Rho} {H:Heap}
variable {ev:Operand→AV} {rv:Operand→Value} {id:Nat} {r:Res} {o:Oper}
theorem qvd {x:D} {v:Value} (h:RepA w C ρ H (.d x) v):RepD w C x v:=by
 cases h with|d _ _ h=>exact h
theorem Out.pure1 {x:Option D} (hR:RelH w C ρ H) {r:Res} (h:pure1 x=some r) {run:Result Next}
 (hr:∀ y,x=some y→∃ v,run = .ok (.value v) w∧RepD w C y v):Out w C ρ H r run:=by
 unfold Am.pure1 at h;cases x with
 | none=>simp at h
 | some y=>
  obtain rfl:_=r:=by simpa using h
  obtain ⟨v,hv,hy⟩:=hr y rfl;exact .same hR (.d _ _ hy) hv
theorem qqa (op:BinOp) (t:TypeId) (k k':IntKind) (a b:Int) {y:D} (h:aBin op (.int k a) (.int k' b)=some y) :
 ∃ v,(binOp op t (.int k a) (.int k' b)).run P w = .ok v w∧RepD w C y v:=by
 unfold aBin at h;simp only at h
 by_cases hs:op = .shl∨op = .shr
 · rcases hs with rfl|rfl
   all_goals
    simp only at h
    split at h
    · cases h;refine ⟨_,?_,.int _ _⟩;rename_i hb;have:¬ b<0:=by omega
      simp[binOp,Op.shift,this]
    · simp at h
 · by_cases hk:k=k'
   · subst hk
     cases op<;>simp only[if_true,reduceCtorEq] at h hs<;>first
      | (simp at hs;done)
      | (cases h;refine ⟨_,?_,by first|exact .int _ _|exact .bool _⟩;simp[binOp,Op.intArith,Op.intBits,Op.intCmp];done)
      | (split at h
         · simp at h
         · rename_i hb;cases h;exact ⟨_,by simp[binOp,Op.intDiv,hb],.int _ _⟩)
      | (simp at h)
   · cases op<;>simp[hk] at h hs
theorem qxz (op:BinOp) (t:TypeId) (a b:List UInt8) {y:D} (h:aBin op (.str a) (.str b)=some y) :
 ∃ v,(binOp op t (.string ⟨⟨a⟩⟩) (.string ⟨⟨b⟩⟩)).run P w = .ok v w∧RepD w C y v:=by
 unfold aBin at h
 cases op<;>simp only[reduceCtorEq] at h<;>first
  | (cases h;refine ⟨_,?_,.bool _⟩;simp[binOp,Op.stringOp];done)
  | (split at h
     · rename_i hl;cases h;refine ⟨.string ⟨⟨a++b⟩⟩,?_,.str _⟩;have h1:(ByteArray.size ⟨⟨a⟩⟩)=a.length:=rfl;have h2:(ByteArray.size ⟨⟨b⟩⟩)=b.length:=rfl;have h3:¬ (9223372036854775807<((a.length:Int)+(b.length:Int))):=by omega
       have h4:(⟨⟨a⟩⟩:ByteArray)++⟨⟨b⟩⟩ = ⟨⟨a++b⟩⟩:=by
        apply ByteArray.ext
        simp
       simp[binOp,Op.stringOp,h1,h2,h3,h4]
     · simp at h)
  | (simp at h)
theorem qkt (op:BinOp) (t:TypeId) (ht:tbool P t=true) (a b:Bool) {y:D} (h:aBin op (.bool a) (.bool b)=some y) :
 ∃ v,(binOp op t (.bool a) (.bool b)).run P w = .ok v w∧RepD w C y v:=by
 have hu:P.underlying t=some .bool:=by
  unfold tbool at ht
  split at ht<;>first|assumption|simp at ht
 unfold aBin at h;cases op<;>simp only[reduceCtorEq] at h
 · cases h;exact ⟨_,run_eql_bool w t a b hu,.bool _⟩
 · cases h;exact ⟨_,run_neq_bool w t a b hu,.bool _⟩
theorem qss (op:BinOp) (t:TypeId) (x y:Operand) (a b:Value) (ha:a ≠ .nilIface) (h1:a.oneCell' = true) :
 (eqGuard op t x y a b).run P w = .ok () w:=by
 unfold eqGuard;cases op<;>cases a<;>simp_all [Value.oneCell']
theorem qehb (op:BinOp) (t:TypeId) (x y:Operand) {a b:D} {va vb:Value} (hb:∀ p q,a = .bool p→b = .bool q→tbool P t=true)
 (ha:RepD w C a va) (hv:RepD w C b vb) {z:D} (h:aBin op a b=some z) :
 ∃ v,(do eqGuard op t x y va vb;binOp op t va vb:Sem Value).run P w = .ok v w∧RepD w C z v:=by
 have main:∃ v,(binOp op t va vb).run P w = .ok v w∧RepD w C z v:=by
  unfold aBin at h
  split at h
  · cases ha;cases hv;exact qqa op t _ _ _ _ (by unfold aBin;exact h)
  · cases ha;cases hv;exact qxz op t _ _ (by unfold aBin;exact h)
  · cases ha;cases hv;exact qkt op t (hb _ _ rfl rfl) _ _ (by unfold aBin;exact h)
  · simp at h
 have hg:(eqGuard op t x y va vb).run P w = .ok () w:=by
  have hone:va ≠ .nilIface∧va.oneCell' = true:=by
   unfold aBin at h
   split at h
   · cases ha;exact ⟨by simp,rfl⟩
   · cases ha;exact ⟨by simp,rfl⟩
   · cases ha;exact ⟨by simp,rfl⟩
   · simp at h
  exact qss op t x y va vb hone.1 hone.2
 obtain ⟨v,h1,h2⟩:=main;exact ⟨v,by simp[hg,h1],h2⟩
theorem qdj {a:AV} {l l':List AV} {b:Bool} (h:eqInts (a::l) l' = some b):∃ k x y m r,a = .d (.int k x)∧l' = .d (.int k y)::m∧eqInts l m=some r∧b=((x == y)&&r):=by
 cases l' with
 | nil=>cases a<;>first|(simp[eqInts] at h;done)|(rename_i d;cases d<;>simp[eqInts] at h)
 | cons c m=>
  cases a with
  | d x=>
   cases x with
   | int k x=>
    cases c with
    | d y=>
     cases y with
     | int k' y=>
      simp only[eqInts] at h
      split at h
      · rename_i hk;subst hk;cases hr:eqInts l m with
        | none=>rw[hr] at h;cases h
        | some r=>
         rw[hr] at h;cases h;exact ⟨k,x,y,m,r,rfl,rfl,hr,rfl⟩
      · cases h
     | _=>simp[eqInts] at h
    | _=>simp[eqInts] at h
   | _=>simp[eqInts] at h
  | _=>simp[eqInts] at h
theorem qgz:∀ {l l':List AV} {b:Bool},eqInts l l' = some b→l.length=l'.length:=by
 intro l
 induction l with
 | nil=>
  intro l' b h;cases l' with
  | nil=>rfl
  | cons=>simp[eqInts] at h
 | cons a l ih=>
  intro l' b h;obtain ⟨k,x,y,m,r,rfl,rfl,hr,rfl⟩:=qdj h;simp[ih hr]
theorem qks {d:Nat}:∀ (fs:List Field) (i:Nat) (ps qs:List AV) (xs ys:List Value) {b:Bool},fs.map (·.offset)=List.range' i fs.length→(∀ f∈fs,f.name ≠ "_" ∧ (tint P f.type).isSome=true)→
 i+fs.length=xs.length→i+fs.length=ys.length→ps.length=fs.length→qs.length=fs.length→(∀ j (h:j<ps.length) (h':i+j<xs.length),RepA w C ρ H ps[j] xs[i+j])→(∀ j (h:j<qs.length) (h':i+j<ys.length),RepA w C ρ H qs[j] ys[i+j])→
 eqInts ps qs=some b→(Op.eqFields (d+1) ⟨xs⟩ ⟨ys⟩ fs).run P w = .ok b w:=by
 intro fs
 induction fs with
 | nil=>
  intro i ps qs xs ys b _ _ _ _ hp hq _ _ hb;obtain rfl:=List.eq_nil_of_length_eq_zero hp;obtain rfl:=List.eq_nil_of_length_eq_zero hq;simp only[eqInts,Option.some.injEq] at hb;subst hb;simp[Op.eqFields]
 | cons f fs ih=>
  intro i ps qs xs ys b ho hn hx hy hp hq hP hQ hb
  match ps,qs,hp,hq with
  | p::ps,q::qs,hp,hq=>
  simp only[List.map_cons,List.length_cons,List.range'_succ,List.cons.injEq] at ho;obtain ⟨ho1,ho2⟩:=ho;simp only[List.length_cons] at hx hy hp hq;have hi1:i<xs.length:=by omega
  have hi2:i<ys.length:=by omega
  have r1:=hP 0 (by simp) hi1
  have r2:=hQ 0 (by simp) hi2
  simp only[List.getElem_cons_zero,Nat.add_zero] at r1 r2;obtain ⟨k1,a,a',m,r,rfl,e2,hr,rfl⟩:=qdj hb;cases e2;obtain ⟨n1,n2⟩:=hn f List.mem_cons_self;obtain ⟨kk,hkk⟩:=Option.isSome_iff_exists.1 n2
  have hu:P.underlying f.type=some (.int kk):=by
   unfold tint at hkk
   split at hkk<;>simp_all
  have g1:xs[i] = .int k1 a:=by
   generalize xs[i]=v at r1;have:=qvd r1;cases this;rfl
  have g2:ys[i] = .int k1 a':=by
   generalize ys[i]=v at r2;have:=qvd r2;cases this;rfl
  have hu':tun P f.type=true:=by simp[tun,hu]
  have hag:tagg P f.type=false:=by simp[tagg,hu]
  have p1:(part f.type ⟨xs⟩ f.offset).run P w = .ok (.int k1 a) w:=by
   rw[ho1];simp[part,qgc hu',hag,List.getElem?_eq_getElem hi1,g1]
  have p2:(part f.type ⟨ys⟩ f.offset).run P w = .ok (.int k1 a') w:=by
   rw[ho1];simp[part,qgc hu',hag,List.getElem?_eq_getElem hi2,g2]
  have ih':=ih (i+1) ps qs xs ys ho2 (fun f hf=>hn f (List.mem_cons_of_mem _ hf)) (by omega) (by omega) (by omega) (by omega)
   (fun j h h'=>by have:=hP (j+1) (by simp;omega) (by omega);simp only[List.getElem_cons_succ] at this;simpa [Nat.add_assoc,Nat.add_comm 1 j] using this)
   (fun j h h'=>by have:=hQ (j+1) (by simp;omega) (by omega);simp only[List.getElem_cons_succ] at this;simpa [Nat.add_assoc,Nat.add_comm 1 j] using this) hr
  have p3:(Op.equalIn (d+1) f.type (.int k1 a) (.int k1 a')).run P w = .ok (a == a') w:=by simp[Op.equalIn,run_underlying hu]
  simp only[Op.eqFields,if_pos n1,Sem.run_bind,p1,Result.andThen_ok,p2,p3];cases hab:(a == a') with
  | false=>simp
  | true=>simp[ih']
theorem quy (op:BinOp) (t:TypeId) (x y:Operand) {ps qs:List AV} {va vb:Value} (hx:RepA w C ρ H (.agg ps) va) (hy:RepA w C ρ H (.agg qs) vb) {z:D} (h:aggBin (teqn P t) op ps qs=some z) :
 ∃ v,(do eqGuard op t x y va vb;binOp op t va vb:Sem Value).run P w = .ok v w∧RepD w C z v:=by
 unfold aggBin at h;cases hn:teqn P t with
 | none=>rw[hn] at h;simp at h
 | some n=>
 rw[hn] at h;simp only at h
 split at h
 · rename_i hl;unfold teqn at hn
   split at hn
   · rename_i fs hu
     split at hn
     · rename_i hc;simp only[Bool.and_eq_true,decide_eq_true_eq,List.all_eq_true,Bool.not_eq_true'] at hc;obtain ⟨⟨⟨c1,c2⟩,c3⟩,c4⟩:=hc;simp only[Option.some.injEq] at hn;cases hx with
       | agg _ xs hlx _ hxs=>
       cases hy with
       | agg _ ys hly _ hys=>
       have hf:P.fieldsOf t=fs:=by simp[Program.fieldsOf,hu]
       have main:∀ b,eqInts ps qs=some b→(Op.equalIn 10000 t (.agg ⟨xs⟩) (.agg ⟨ys⟩)).run P w = .ok b w:=by
        intro b hb;rw[run_equalIn_agg w 9999 t ⟨xs⟩ ⟨ys⟩ (by rw[hf];exact hu) c3,hf]
        have hq:qs.length=ps.length:=(qgz hb).symm;have hfl:fs.toList.length=fs.size:=by simp
        refine qks (C:=C) (ρ:=ρ) (H:=H) (d:=9998) fs.toList 0 ps qs xs ys (by rw[c1,hfl,List.range_eq_range']) c2 (by omega) (by omega) (by omega) (by omega) (fun j h h'=>?_) (fun j h h'=>?_) hb
        · have:=hxs j h (by omega);simpa using this
        · have:=hys j h (by omega);simpa using this
       have hg:(eqGuard op t x y (.agg ⟨xs⟩) (.agg ⟨ys⟩)).run P w = .ok () w:=run_eqGuard_agg w op t x y ⟨xs⟩ ⟨ys⟩ c4
       split at h
       · rename_i r hr;cases h;refine ⟨.bool r,?_,.bool _⟩;simp only[Sem.run_bind,hg,Result.andThen_ok];rw[run_eql_struct,main r hr];rfl
       · rename_i r hr;cases h;refine ⟨.bool (!r),?_,.bool _⟩;simp only[Sem.run_bind,hg,Result.andThen_ok];rw[run_neq_struct,main r hr];rfl
       · cases h
     · cases hn
   · cases hn
 · cases h
theorem qbv (hR:RelH w C ρ H) (hev:∀ x,RepA w C ρ H (ev x) (rv x)) {op:BinOp} {t yt:TypeId} {x y:Operand} (ho:o.op = .binOp op t x y yt)
 (h:execA P id ev H (.binOp op t x y yt)=some r):Out w C ρ H r ((execOp rv o).run P w):=by
 simp only[execA] at h;have hx:=hev x;have hy:=hev y
 split at h
 · rename_i a b hxe hye;rw[hxe] at hx;rw[hye] at hy
   split at h
   · rename_i ht;refine Out.pure1 hR h fun z hz=>?_
     obtain ⟨v,h1,h2⟩:=qehb (P:=P) op t x y (fun _ _ _ _=>ht) (qvd hx) (qvd hy) hz
     refine ⟨v,?_,h2⟩;simp only[execOp,ho,Sem.run_bind] at h1 ⊢;rw[h1];rfl
   · simp at h
 · rename_i a b hnb hxe hye;rw[hxe] at hx;rw[hye] at hy;refine Out.pure1 hR h fun z hz=>?_
   obtain ⟨v,h1,h2⟩:=qehb (P:=P) op t x y (fun p q e1 e2=>by subst e1;subst e2;exact (hnb p q rfl rfl).elim) (qvd hx) (qvd hy) hz
   refine ⟨v,?_,h2⟩;simp only[execOp,ho,Sem.run_bind] at h1 ⊢;rw[h1];rfl
 · rename_i ps qs hxe hye;rw[hxe] at hx;rw[hye] at hy;refine Out.pure1 hR h fun z hz=>?_
   obtain ⟨v,h1,h2⟩:=quy (P:=P) op t x y hx hy hz;refine ⟨v,?_,h2⟩;simp only[execOp,ho,Sem.run_bind] at h1 ⊢;rw[h1];rfl
 · simp at h
theorem qmz (hR:RelH w C ρ H) (hev:∀ x,RepA w C ρ H (ev x) (rv x)) {op:UnOp} {t:TypeId} {x:Operand} (ho:o.op = .unOp op t x)
 (h:execA P id ev H (.unOp op t x)=some r):Out w C ρ H r ((execOp rv o).run P w):=by
 simp only[execA] at h;have hx:=hev x
 split at h
 · rename_i a hxe;rw[hxe] at hx;refine Out.pure1 hR h fun z hz=>?_
   unfold aUn at hz;have hx':=qvd hx;generalize hv:rv x=vx at hx'
   split at hz
   · cases hx'
     split at hz
     · cases hz;exact ⟨_,by simp[execOp,ho,hv,Op.unary,Op.intArith],.int _ _⟩
     · cases hz;exact ⟨_,by simp[execOp,ho,hv,Op.unary,Op.intBits],.int _ _⟩
     · simp at hz
   · cases hx'
     split at hz
     · cases hz;exact ⟨_,by simp[execOp,ho,hv,Op.unary],.bool _⟩
     · simp at hz
   · simp at hz
 · simp at h
theorem qmn {t:TypeId} {k:IntKind} (h:tint P t=some k):P.underlying t=some (.int k):=by
 unfold tint at h
 split at h
 · cases h;assumption
 · simp at h
theorem qdg {t:TypeId} (h:tstr P t=true):P.underlying t=some .string:=by
 unfold tstr at h
 split at h
 · assumption
 · simp at h
theorem qjb {t e:TypeId} (h:telem P t=some e):P.underlying t=some (.slice e):=by
 unfold telem at h
 split at h
 · cases h;assumption
 · simp at h
theorem qnfb {t e:TypeId} {n:Nat} (h:tarr P t=some (n,e)):P.underlying t=some (.array n e):=by
 unfold tarr at h
 split at h
 · cases h;assumption
 · simp at h
theorem qmv {t:TypeId} (h:tun P t=true):∃ d,P.underlying t=some d:=by
 unfold tun at h;exact Option.isSome_iff_exists.1 h
theorem qmp {t ft:TypeId} {f off:Nat} (h:tfield P t f=some (off,ft)):∃ fs x,P.underlying t=some (.struct fs)∧fs[f]? = some x∧x.offset=off∧x.type=ft:=by
 unfold tfield at h
 split at h
 · rename_i fs hu;cases hx:fs[f]? with
   | none=>simp[hx] at h
   | some x=>simp[hx] at h;exact ⟨fs,x,hu,hx,h.1,h.2⟩
 · simp at h
theorem qik (hR:RelH w C ρ H) (hev:∀ x,RepA w C ρ H (ev x) (rv x)) {s:TypeId} {x:Operand} {f:Nat} (ho:o.op = .fieldAddr s x f)
 (h:execA P id ev H (.fieldAddr s x f)=some r):Out w C ρ H r ((execOp rv o).run P w):=by
 simp only[execA] at h
 split at h
 · rename_i off ft hf;obtain ⟨fs,fx,hu,hfx,rfl,rfl⟩:=qmp hf
   split at h
   · rename_i hc;have hx:=hev x
     split at h
     · rename_i b n i j hxe;rw[hxe] at hx;generalize hv:rv x=vx at hx;cases hx with
       | ptr _ _ _ _ _ blk hb hn h1 hp=>
       simp only[hb] at h
       split at h
       · rename_i hlen;cases h;obtain ⟨r0,s0,hr0,rfl⟩:=hp hlen;refine Out.same hR (.ptr b n i (j+fx.offset) (.pointer (some ⟨r0,i*blk.sz+(j+fx.offset),none⟩)) blk hb hn rfl fun _=>⟨r0,s0,hr0,rfl⟩) ?_
         simp[execOp,ho,hv,Instr.fieldAt,run_underlying hu,hfx,Instr.sureAddr,fieldPlace,qm hc.1,hc.2,qnb,Nat.add_assoc]
       · simp at h
     · rename_i cs hxe;rw[hxe] at hx;generalize hv:rv x=vx at hx;cases hx with
       | eptr _ r0 o0 vs hC hcell hrec=>
       refine Out.chg hR h (v:=.pointer (some ⟨r0,o0+fx.offset,none⟩)) (.eptr _ r0 (o0+fx.offset) (fun j=>vs (fx.offset+j)) ?_ ?_ ?_) ?_
       · intro j hj;simp at hj;rw[Nat.add_assoc];exact hC _ (by omega)
       · intro j hj;simp at hj;rw[Nat.add_assoc];exact hcell _ (by omega)
       · intro j hj;simp at hj;simp only[List.getElem_drop];exact hrec _ (by omega)
       · simp[execOp,ho,hv,Instr.fieldAt,run_underlying hu,hfx,Instr.sureAddr,fieldPlace,qm hc.1,hc.2,qnb]
     · simp at h
   · simp at h
 · simp at h
theorem qqu (hR:RelH w C ρ H) (hev:∀ x,RepA w C ρ H (ev x) (rv x)) {s:TypeId} {x:Operand} {f:Nat} (ho:o.op = .field s x f)
 (h:execA P id ev H (.field s x f)=some r):Out w C ρ H r ((execOp rv o).run P w):=by
 simp only[execA] at h
 split at h
 · rename_i off ft hf;obtain ⟨fs,fx,hu,hfx,rfl,rfl⟩:=qmp hf
   split at h
   · rename_i hc;have hx:=hev x
     split at h
     · rename_i cs hxe;rw[hxe] at hx;generalize hv:rv x=vx at hx;cases hx with
       | agg _ vs hl h1 hh=>
       split at h
       · rename_i hagg
         split at h
         · rename_i hsz;refine Out.chg hR h (v:=.agg ⟨(vs.drop fx.offset).take (tsz P fx.type)⟩) (.agg _ _ (by simp;omega) ?_ ?_) ?_
           · intro v hv';exact h1 v (List.mem_of_mem_drop (List.mem_of_mem_take hv'))
           · intro i hi hi';simp at hi hi';simp only[List.getElem_take,List.getElem_drop];exact hh _ (by omega) (by omega)
           · simp[execOp,ho,hv,Instr.field,run_underlying hu,hfx,part,asAgg,qgc hc.2,hagg,qm hc.1,List.extract]
         · simp at h
       · rename_i hagg
         split at h
         · rename_i c hcc;obtain ⟨hi,rfl⟩:=List.getElem?_eq_some_iff.1 hcc;refine Out.chg hR h (hh _ hi (by omega)) ?_
           simp[execOp,ho,hv,Instr.field,run_underlying hu,hfx,part,asAgg,qgc hc.2,hagg,List.getElem?_eq_getElem (show fx.offset<vs.length by omega)]
         · simp at h
     · simp at h
   · simp at h
 · simp at h
theorem qxk (hR:RelH w C ρ H) (hev:∀ x,RepA w C ρ H (ev x) (rv x)) {t:TypeId} {x ix:Operand} (ho:o.op = .indexAddr t x ix)
 (h:execA P id ev H (.indexAddr t x ix)=some r):Out w C ρ H r ((execOp rv o).run P w):=by
 simp only[execA] at h;have hix:=hev ix
 split at h
 · rename_i k n hie;rw[hie] at hix;have hvi:=qmb hix;have hx:=hev x;generalize hv:rv x=vx at hx
   split at h
   · rename_i e he;have hu:=qjb he
     split at h
     · rename_i htin
       split at h
       · rename_i b m off len hxe;rw[hxe] at hx;cases hx with
         | own _ _ _ _ _ blk hb hn h1 hp=>
         simp only[hb] at h
         split at h
         · rename_i hc;obtain ⟨c1,c2,c3,c4⟩:=hc;cases h;rcases hp c1 with ⟨r0,s0,cap,hr0,rfl,hlc,hcs,hol⟩|⟨_,_,hl0,_⟩
           · refine Out.same hR (.ptr b m (off+n.toNat) 0 (.pointer (some ⟨r0,(off+n.toNat)*blk.sz+0,none⟩)) blk hb hn rfl fun _=>⟨r0,s0,hr0,rfl⟩) ?_
             simp[execOp,ho,hv,hvi,Instr.indexAt,asIntOf,run_underlying hu,qm htin,c3,c4,qnb,Nat.add_mul,c2]
           · omega
         · simp at h
       · rename_i xs hxe;rw[hxe] at hx
         split at h
         · rename_i h0
           split at h
           · rename_i row hrow
             split at h
             · rename_i hrl;obtain ⟨hi,rfl⟩:=List.getElem?_eq_some_iff.1 hrow;have hxd:=qvd hx;cases hxd with
               | nil=>simp at hi
               | nilA a=>simp at hi
               | sl _ r0 o0 cap sz vs hcap hsz hC hcell hrec=>
               have hs:=hsz _ hi;have hlt:n<(xs.length:Int):=by omega
               refine Out.chg hR h (v:=.pointer (some ⟨r0,o0+n.toNat*sz,none⟩)) (.eptr _ r0 _ (fun j=>vs n.toNat j) ?_ ?_ ?_) ?_
               · intro j hj;exact hC _ _ hi (by omega)
               · intro j hj;exact hcell _ _ hi (by omega)
               · intro j hj;exact hrec _ _ hi hj
               · have e1:tsz P e=sz:=by omega
                 simp[execOp,ho,hv,hvi,Instr.indexAt,asIntOf,run_underlying hu,qm htin,h0,hlt,qnb,e1]
             · simp at h
           · simp at h
         · simp at h
       · simp at h
     · simp at h
   · rename_i len e hne he;have hu:=qnfb he
     split at h
     · rename_i hc;obtain ⟨c1,c2,c3⟩:=hc
       split at h
       · rename_i b m i j hxe;rw[hxe] at hx;cases hx with
         | ptr _ _ _ _ _ blk hb hn h1 hp=>
         simp only[hb] at h
         split at h
         · rename_i hlen;cases h;obtain ⟨r0,s0,hr0,rfl⟩:=hp hlen;refine Out.same hR (.ptr b m i (j+n.toNat*tsz P e) (.pointer (some ⟨r0,i*blk.sz+(j+n.toNat*tsz P e),none⟩)) blk hb hn rfl fun _=>⟨r0,s0,hr0,rfl⟩) ?_
           simp[execOp,ho,hv,hvi,Instr.indexAt,asIntOf,run_underlying hu,qm c1,c2,c3,qnb,Instr.sureAddr,Nat.add_assoc]
         · simp at h
       · rename_i cs hxe;rw[hxe] at hx;cases hx with
         | eptr _ r0 o0 vs hC hcell hrec=>
         refine Out.chg hR h (v:=.pointer (some ⟨r0,o0+n.toNat*tsz P e,none⟩)) (.eptr _ r0 _ (fun j=>vs (n.toNat*tsz P e+j)) ?_ ?_ ?_) ?_
         · intro j hj;simp at hj;rw[Nat.add_assoc];exact hC _ (by omega)
         · intro j hj;simp at hj;rw[Nat.add_assoc];exact hcell _ (by omega)
         · intro j hj;simp at hj;simp only[List.getElem_drop];exact hrec _ (by omega)
         · simp[execOp,ho,hv,hvi,Instr.indexAt,asIntOf,run_underlying hu,qm c1,c2,c3,qnb,Instr.sureAddr]
       · simp at h
     · simp at h
   · simp at h
 · simp at h
theorem qnu (hR:RelH w C ρ H) (hev:∀ x,RepA w C ρ H (ev x) (rv x)) {t:TypeId} {x ix:Operand} (ho:o.op = .index t x ix)
 (h:execA P id ev H (.index t x ix)=some r):Out w C ρ H r ((execOp rv o).run P w):=by
 simp only[execA] at h;have hix:=hev ix;have hx:=hev x
 split at h
 · rename_i l k n hxe hie;rw[hie] at hix;rw[hxe] at hx
   split at h
   · rename_i hc;obtain ⟨c1,c2⟩:=hc
     split at h
     · rename_i c hcc;obtain ⟨hi,rfl⟩:=List.getElem?_eq_some_iff.1 hcc;refine Out.chg hR h (.d _ _ (.int _ _)) ?_
       have hg:(⟨⟨l⟩⟩:ByteArray)[n.toNat]? = some l[n.toNat]:=by
        rw[getElem?_pos (⟨⟨l⟩⟩:ByteArray) n.toNat (by exact hi)]
        rfl
       simp[execOp,ho,qmb hix,qsg hx,Instr.index,asIntOf,run_underlying (qdg c1),c2,hg]
     · simp at h
   · simp at h
 · rename_i cs k n hxe hie;rw[hie] at hix;rw[hxe] at hx
   split at h
   · rename_i len e he
     split at h
     · rename_i hc;obtain ⟨c1,c2,c3,c4,c5,c6⟩:=hc
       split at h
       · rename_i c hcc;obtain ⟨hi,rfl⟩:=List.getElem?_eq_some_iff.1 hcc;generalize hv:rv x=vx at hx;cases hx with
         | agg _ vs hl h1 hh=>
         refine Out.chg hR h (hh _ hi (by omega)) ?_
         simp[execOp,ho,hv,qmb hix,Instr.index,asIntOf,run_underlying (qnfb he),qm c1,c5,c6,part,qgc c2,c3,c4,List.getElem?_eq_getElem (show n.toNat<vs.length by omega)]
       · simp at h
     · simp at h
   · simp at h
 · simp at h
end Am

namespace Am
open Go
variable {P:Program} {w:World} {C:Com} {ρ:Rho} {H:Heap}
variable {ev:Operand→AV} {rv:Operand→Value} {id:Nat} {r:Res} {o:Oper}
theorem qnk (hev:∀ x,RepA w C ρ H (ev x) (rv x)) {lo:Option Operand} {d a:Int} {k k0:IntKind}
 (h:(lo.map ev).getD (.d (.int k0 d)) = .d (.int k a)):(lo=none∧a=d)∨∃ x,lo=some x∧rv x = .int k a:=by
 cases lo with
 | none=>simp at h;exact .inl ⟨rfl,h.2.symm⟩
 | some x=>
  simp at h;have:=hev x;rw[h] at this;exact .inr ⟨x,rfl,qmb this⟩
theorem qof (x:Value) (k:IntKind) (a:Int) (y:Nat) (c:BoundsCode) (hx:x = .int k a) (h0:0≤a) (h1:a≤y) :
 (Instr.sliceBound x y c).run P w = .ok a.toNat w:=by
 subst hx;simp[Instr.sliceBound,asIntOf,h0,h1]
theorem qeb (hev:∀ x,RepA w C ρ H (ev x) (rv x)) {lo hi:Option Operand} {a b:Int} {k k' k0 k1:IntKind} (isS:Bool) (len cap:Nat) (hlc:len≤cap)
 (hlo:(lo.map ev).getD (.d (.int k0 0)) = .d (.int k a)) (hhi:(hi.map ev).getD (.d (.int k1 len)) = .d (.int k' b))
 (h0:0≤a) (h1:a≤b) (h2:b≤len) :
 (Instr.sliceBounds isS len cap (lo.map rv) (hi.map rv) none).run P w = .ok (a.toNat,b.toNat,cap) w:=by
 have eh:∀ (x:Operand) (c:BoundsCode),rv x = .int k' b→(Instr.sliceBound (rv x) cap c).run P w = .ok b.toNat w:=
  fun x c hx=>qof _ k' b cap c hx (by omega) (by omega)
 have el:∀ (x:Operand) (c:BoundsCode),rv x = .int k a→(Instr.sliceBound (rv x) b.toNat c).run P w = .ok a.toNat w:=
  fun x c hx=>qof _ k a b.toNat c hx h0 (by omega)
 unfold Instr.sliceBounds;rcases qnk hev hhi with ⟨rfl,rfl⟩|⟨y,rfl,hy⟩
 · rcases qnk hev hlo with ⟨rfl,rfl⟩|⟨x,rfl,hx⟩
   · simp
   · have:=fun c=>el x c hx
     simp only[Int.toNat_natCast] at this;simp[this]
 · have hh:=fun c=>eh y c hy
   rcases qnk hev hlo with ⟨rfl,rfl⟩|⟨x,rfl,hx⟩
   · simp[hh]
   · simp[hh,fun c=>el x c hx]
theorem qqt (hR:RelH w C ρ H) (hev:∀ x,RepA w C ρ H (ev x) (rv x)) {t:TypeId} {x:Operand} {lo hi mx:Option Operand} (ho:o.op = .slice t x lo hi mx)
 (h:execA P id ev H (.slice t x lo hi mx)=some r):Out w C ρ H r ((execOp rv o).run P w):=by
 simp only[execA] at h;have hx:=hev x;generalize hv:rv x=vx at hx
 split at h
 ·
  rename_i l hxe;rw[hxe] at hx;have hvx:=qsg hx;subst hvx
  split at h
  · rename_i ht
    split at h
    · rename_i ka a kb b hlo hhi
      split at h
      · rename_i hc;obtain ⟨c1,c2,c3⟩:=hc;have hsz:(ByteArray.size ⟨⟨l⟩⟩)=l.length:=rfl;have hb:=qeb (P:=P) (w:=w) hev false l.length l.length (Nat.le_refl _) hlo hhi c1 c2 c3;refine Out.chg hR h (v:=.string ⟨⟨(l.take b.toNat).drop a.toNat⟩⟩) (.d _ _ (.str _)) ?_
        have he:(ByteArray.extract ⟨⟨l⟩⟩ a.toNat b.toNat)=⟨⟨(l.take b.toNat).drop a.toNat⟩⟩:=by
         apply ByteArray.ext
         simp[List.extract,List.drop_take]
        simp[execOp,ho,hv,Instr.sliceAt,Instr.slice,run_underlying (qdg ht),hsz,hb,he]
      · simp at h
    · simp at h
  · simp at h
 ·
  rename_i xs hxe;rw[hxe] at hx
  split at h
  · rename_i e he;have hu:=qjb he
    split at h
    · rename_i hc0;obtain ⟨d1,d2⟩:=hc0
      split at h
      · rename_i ka a kb b hlo hhi
        split at h
        · rename_i hc;obtain ⟨c1,c2,c3,c4⟩:=hc;simp only[List.all_eq_true,beq_iff_eq] at c4;have hxd:=qvd hx;cases hxd with
          | nil=>
           have ha:a=0:=by simp at c3;omega
           have hb0:b=0:=by simp at c3;omega
           subst ha;subst hb0;have hb:=qeb (P:=P) (w:=w) hev true 0 0 (Nat.le_refl _) hlo hhi (by omega) (by omega) (by omega)
           refine Out.chg hR h (v:=.slice none 0 0) (by simpa using RepA.d _ _ .nil) ?_
           simp[execOp,ho,hv,Instr.sliceAt,Instr.slice,run_underlying hu,qm d1,hb]
          | nilA ad=>
           have ha:a=0:=by simp at c3;omega
           have hb0:b=0:=by simp at c3;omega
           subst ha;subst hb0;have hb:=qeb (P:=P) (w:=w) hev true 0 0 (Nat.le_refl _) hlo hhi (by omega) (by omega) (by omega)
           refine Out.chg hR h (v:=.slice (some ad) 0 0) (by simpa using RepA.d _ _ (.nilA ad)) ?_
           simp[execOp,ho,hv,Instr.sliceAt,Instr.slice,run_underlying hu,qm d1,hb]
          | sl _ r0 o0 cap sz vs hcap hsz hC hcell hrec=>
           have hb:=qeb (P:=P) (w:=w) hev true xs.length cap hcap hlo hhi c1 c2 c3;have hsz':∀ i (h:i<xs.length),sz=tsz P e:=fun i h=>by rw[← hsz i h];exact c4 _ (List.getElem_mem _)
           by_cases hm:cap=a.toNat
           ·
            have hab:a=b:=by omega
            subst hm;refine Out.chg hR h (v:=.slice (some ⟨r0,o0,none⟩) (b.toNat-a.toNat) (a.toNat-a.toNat)) ?_ ?_
            · have he0:((xs.take b.toNat).drop a.toNat)=[]:=by simp[hab]
              have hl0:b.toNat-a.toNat=([]:List (List D)).length:=by simp;omega
              rw[he0,hl0];exact .d _ _ (.sl [] r0 o0 _ sz vs (by simp) (fun i h=>by simp at h) (fun i j h=>by simp at h) (fun i j h=>by simp at h) (fun i j h=>by simp at h))
            · simp[execOp,ho,hv,Instr.sliceAt,Instr.slice,run_underlying hu,qm d1,hb]
           · have hl:b.toNat-a.toNat=((xs.take b.toNat).drop a.toNat).length:=by simp;omega
             refine Out.chg hR h (v:=.slice (some ⟨r0,o0+a.toNat*tsz P e,none⟩) (b.toNat-a.toNat) (cap-a.toNat)) ?_ ?_
             · rw[hl];have hlx:∀ i,i<((xs.take b.toNat).drop a.toNat).length→a.toNat+i<xs.length:=fun i hi=>by simp at hi;omega
               have hg:∀ i (hi:i<((xs.take b.toNat).drop a.toNat).length),((xs.take b.toNat).drop a.toNat)[i]=xs[a.toNat+i]'(hlx i hi):=fun i hi=>by simp
               refine .d _ _ (.sl _ r0 _ _ sz (fun i j=>vs (a.toNat+i) j) (by rw[← hl];omega) ?_ ?_ ?_ ?_)
               · intro i hi;rw[hg i hi];exact hsz _ _
               · intro i j hi hj;have:=hC (a.toNat+i) j (hlx i hi) hj;rw[← hsz' _ (hlx i hi)]
                 rwa [Nat.add_mul,← Nat.add_assoc] at this
               · intro i j hi hj;have:=hcell (a.toNat+i) j (hlx i hi) hj;rw[← hsz' _ (hlx i hi)]
                 rwa [Nat.add_mul,← Nat.add_assoc] at this
               · intro i j hi hj;have hj':j<(xs[a.toNat+i]'(hlx i hi)).length:=by rw[← hg i hi];exact hj
                 have:=hrec (a.toNat+i) j (hlx i hi) hj';simp only[hg i hi];exact this
             · simp[execOp,ho,hv,Instr.sliceAt,Instr.slice,run_underlying hu,qm d1,hb,hm,qnb]
        · simp at h
      · simp at h
    · simp at h
  · simp at h
 ·
  rename_i bb n off len hxe;rw[hxe] at hx
  split at h
  · rename_i e he;have hu:=qjb he;cases hx with
    | own _ _ _ _ _ blk hb hn h1 hp=>
    simp only[hb] at h
    split at h
    · rename_i hc0;obtain ⟨d1,d2,d3,d4⟩:=hc0
      split at h
      · rename_i ka a kb b hlo hhi
        have hcase:(0≤a∧a≤b∧b≤len)∧((a<b∧r = { v:=.own bb n (off+a.toNat) (b.toNat-a.toNat),hs:=[],rb:=[bb] })∨(a=b∧r = { v:=.d (.sl []),hs:=[],rb:=[bb] })):=by
         split at h
         · rename_i hc;cases h;exact ⟨by omega,.inl ⟨by omega,rfl⟩⟩
         · split at h
           · rename_i hc;cases h;exact ⟨by omega,.inr ⟨by omega,rfl⟩⟩
           · simp at h
        obtain ⟨⟨c1,c2,c3⟩,hr⟩:=hcase;rcases hp d4 with ⟨r0,s0,cap,hr0,rfl,hlc,hcs,hol⟩|⟨hr0,rfl,rfl,rfl⟩
        · have hbd:=qeb (P:=P) (w:=w) hev true len cap hlc hlo hhi c1 c2 c3;rcases hr with ⟨hab,rfl⟩|⟨hab,rfl⟩
          · have hm:¬ cap=a.toNat:=by omega
            refine Out.same hR (.own bb n (off+a.toNat) (b.toNat-a.toNat) (.slice (some ⟨r0,(off+a.toNat)*blk.sz,none⟩) (b.toNat-a.toNat) (cap-a.toNat)) blk hb hn rfl fun _=>.inl ⟨r0,s0,_,hr0,rfl,by omega,?_,by omega⟩) ?_
            · have:off+a.toNat+(cap-a.toNat)=off+cap:=by omega
              rw[this];exact hcs
            · simp[execOp,ho,hv,Instr.sliceAt,Instr.slice,run_underlying hu,qm d1,hbd,hm,qnb,d3,Nat.add_mul]
          · subst hab
            by_cases hm:cap=a.toNat
            · subst hm;refine Out.same hR (v:=.slice (some ⟨r0,off*blk.sz,none⟩) 0 (a.toNat-a.toNat)) ?_ ?_
              · exact .d _ _ (.sl [] r0 _ _ 1 (fun _ _=>undef) (by simp) (fun i h=>by simp at h) (fun i j h=>by simp at h) (fun i j h=>by simp at h) (fun i j h=>by simp at h))
              · simp[execOp,ho,hv,Instr.sliceAt,Instr.slice,run_underlying hu,qm d1,hbd]
            · refine Out.same hR (v:=.slice (some ⟨r0,off*blk.sz+a.toNat*tsz P e,none⟩) 0 (cap-a.toNat)) ?_ ?_
              · exact .d _ _ (.sl [] r0 _ _ 1 (fun _ _=>undef) (by simp) (fun i h=>by simp at h) (fun i j h=>by simp at h) (fun i j h=>by simp at h) (fun i j h=>by simp at h))
              · simp[execOp,ho,hv,Instr.sliceAt,Instr.slice,run_underlying hu,qm d1,hbd,hm,qnb]
        · have ha:a=0:=by simp at c3;omega
          have hb0:b=0:=by simp at c3;omega
          subst ha;subst hb0;have hbd:=qeb (P:=P) (w:=w) hev true 0 0 (Nat.le_refl _) hlo hhi (by omega) (by omega) (by omega)
          rcases hr with ⟨hab,rfl⟩|⟨hab,rfl⟩
          · omega
          · refine Out.same hR (v:=.slice none 0 0) (.d _ _ .nil) ?_;simp[execOp,ho,hv,Instr.sliceAt,Instr.slice,run_underlying hu,qm d1,hbd]
      · simp at h
    · simp at h
  · simp at h
 · simp at h
theorem qoe (a:Array Operand) (f:Operand→Value):a.map f=⟨a.toList.map f⟩:=by cases a;simp
theorem qoc (rv:Operand→Value) {b:Builtin} {args:Array Operand} {ats:Array TypeId} (ho:o.op = .call { callee:=.builtin b,args,argTypes:=ats }) :
 ∃ cs,(execOp rv o).run P w=(builtin b ats o.type cs (args.map rv)).run P w:=by
 refine ⟨args.map fun x=>match x with | .const _=>true|_=>false,?_⟩
 simp only[execOp,ho,resolve,invoke,Sem.run_bind,Sem.run_pure,Result.andThen_ok];rfl
theorem qnib (hR:RelH w C ρ H) (hev:∀ x,RepA w C ρ H (ev x) (rv x)) {args:Array Operand} {ats:Array TypeId}
 (ho:o.op = .call { callee:=.builtin .len,args,argTypes:=ats })
 (h:execA P id ev H (.call { callee:=.builtin .len,args,argTypes:=ats })=some r):Out w C ρ H r ((execOp rv o).run P w):=by
 simp only[execA] at h;obtain ⟨cs,hcs⟩:=qoc (P:=P) (w:=w) rv ho;rw[hcs]
 split at h
 · rename_i x t hargs hats;obtain ⟨l⟩:=args;obtain ⟨l'⟩:=ats;simp only at hargs hats;subst hargs;subst hats;have hx:=hev x;generalize hv:rv x=vx at hx
   split at h
   · rename_i s hxe;rw[hxe] at hx
     split at h
     · rename_i ht;refine Out.chg hR h (.d _ _ (.int _ _)) ?_;have hsz:(ByteArray.size ⟨⟨s⟩⟩)=s.length:=rfl;simp[builtin,Builtin.len_,hv,qsg hx,run_underlying (qdg ht),hsz,goInt]
     · simp at h
   · rename_i xs hxe;rw[hxe] at hx
     split at h
     · rename_i ht;obtain ⟨e,he⟩:=Option.isSome_iff_exists.1 ht;refine Out.chg hR h (.d _ _ (.int _ _)) ?_;have hxd:=qvd hx;cases hxd with
       | nil=>simp[builtin,Builtin.len_,hv,run_underlying (qjb he),goInt]
       | nilA ad=>simp[builtin,Builtin.len_,hv,run_underlying (qjb he),goInt]
       | sl _ r0 o0 cap sz vs hcap hsz hC hcell hrec=>simp[builtin,Builtin.len_,hv,run_underlying (qjb he),goInt]
     · simp at h
   · rename_i hxe;rw[hxe] at hx
     split at h
     · rename_i ht;obtain ⟨e,he⟩:=Option.isSome_iff_exists.1 ht;refine Out.chg hR h (.d _ _ (.int _ _)) ?_;cases hx;simp[builtin,Builtin.len_,hv,run_underlying (qjb he),goInt]
     · simp at h
   · rename_i b n off len hxe;rw[hxe] at hx;cases hx with
     | own _ _ _ _ _ blk hb hn h1 hp=>
     simp only[hb] at h
     split at h
     · rename_i hc;obtain ⟨e,he⟩:=Option.isSome_iff_exists.1 hc.1;cases h;refine Out.same hR (.d _ _ (.int _ _)) ?_;rcases hp hc.2 with ⟨r0,s0,cap,hr0,rfl,_⟩|⟨_,_,rfl,rfl⟩
       · simp[builtin,Builtin.len_,hv,run_underlying (qjb he),goInt]
       · simp[builtin,Builtin.len_,hv,run_underlying (qjb he),goInt]
     · simp at h
   · simp at h
 · simp at h
theorem qqdb (hR:RelH w C ρ H) (hev:∀ x,RepA w C ρ H (ev x) (rv x)) {args:Array Operand} {ats:Array TypeId}
 (ho:o.op = .call { callee:=.builtin .min,args,argTypes:=ats })
 (h:execA P id ev H (.call { callee:=.builtin .min,args,argTypes:=ats })=some r):Out w C ρ H r ((execOp rv o).run P w):=by
 simp only[execA] at h;obtain ⟨cs,hcs⟩:=qoc (P:=P) (w:=w) rv ho;rw[hcs]
 split at h
 · rename_i x y hargs;obtain ⟨l⟩:=args;simp only at hargs;subst hargs
   split at h
   · rename_i k a k' b hxe hye;have hx:=hev x;have hy:=hev y;rw[hxe] at hx;rw[hye] at hy;refine Out.chg hR h (.d _ _ (.int _ _)) ?_;simp[builtin,qmb hx,qmb hy,run_min_int2]
   · simp at h
 · simp at h
theorem qmdb (hR:RelH w C ρ H) (hev:∀ x,RepA w C ρ H (ev x) (rv x)) {args:Array Operand} {ats:Array TypeId}
 (ho:o.op = .call { callee:=.builtin .max,args,argTypes:=ats })
 (h:execA P id ev H (.call { callee:=.builtin .max,args,argTypes:=ats })=some r):Out w C ρ H r ((execOp rv o).run P w):=by
 simp only[execA] at h;obtain ⟨cs,hcs⟩:=qoc (P:=P) (w:=w) rv ho;rw[hcs]
 split at h
 · rename_i x y hargs;obtain ⟨l⟩:=args;simp only at hargs;subst hargs
   split at h
   · rename_i k a k' b hxe hye;have hx:=hev x;have hy:=hev y;rw[hxe] at hx;rw[hye] at hy;refine Out.chg hR h (.d _ _ (.int _ _)) ?_;simp[builtin,qmb hx,qmb hy,run_max_int2]
   · simp at h
 · simp at h
end Am

namespace Am
open Go
variable {P:Program} {w:World} {C:Com} {ρ:Rho} {H:Heap}
variable {ev:Operand→AV} {rv:Operand→Value} {id:Nat} {r:Res} {o:Oper}
def RepL (w:World) (C:Com) (ρ:Rho) (H:Heap) (cs:List AV) (vs:Array Value):Prop:=
 cs.length=vs.size∧∀ (i:Nat) c,cs[i]? = some c→∃ v,vs[i]? = some v∧v.oneCell' = true∧RepA w C ρ H c v
theorem RepA.repL {x:AV} {v:Value} (h:RepA w C ρ H x v) (h1:x.cells.all AV.one=true):RepL w C ρ H x.cells v.cells:=by
 obtain ⟨g1,g2,g3⟩:=h.cellsOf h1;refine ⟨g1,fun i c hc=>?_⟩
 obtain ⟨hi,rfl⟩:=List.getElem?_eq_some_iff.1 hc;have hi':i<v.cells.toList.length:=by simp only[Array.length_toList];omega
 refine ⟨v.cells.toList[i],?_,g2 _ (List.getElem_mem _),g3 i hi hi'⟩;simp at hi' ⊢
theorem RepL.set {cs l:List AV} {vs us:Array Value} (h:RepL w C ρ H cs vs) (hl:RepL w C ρ H l us) {o:Nat} (ho:o+l.length≤cs.length) :
 RepL w C ρ H (setAt cs o l) (putL vs o us.toList):=by
 refine ⟨by rw[qcf,qre];exact h.1,fun i c hc=>?_⟩
 rw[qdk _ _ _ _ ho] at hc;have hul:us.toList.length=l.length:=by simp only[Array.length_toList];exact hl.1.symm
 rw[qeh _ _ _ _ (by rw[hul,← h.1];exact ho),hul]
 split at hc
 · rename_i hk;rw[if_pos hk];obtain ⟨v,v1,v2,v3⟩:=hl.2 _ c hc;exact ⟨v,by simpa using v1,v2,v3⟩
 · rename_i hk;rw[if_neg hk];exact h.2 i c hc
theorem qhz (off:Nat):∀ (l:List Value) (k:Nat) (cells:Array Value),
 (l.zipIdx k).foldl (fun cs (p:Value × Nat)=>cs.setIfInBounds (off+p.2) p.1) cells=putL cells (off+k) l:=by
 intro l
 induction l with
 | nil=>intro k cells;rfl
 | cons v l ih=>intro k cells;simp only[List.zipIdx_cons,List.foldl_cons,putL];rw[ih];rfl
theorem qkp (place:Nat→Option (Nat × Nat)) (cells:Array Value) (i:Nat) (v:Value) (rest:List (Nat × Value)) {off size:Nat}
 (hp:place i=some (off,size)) (hs:v.cells.size=size) (ho:off+size≤cells.size) :
 Instr.fill place cells ((i,v)::rest)=Instr.fill place (putL cells off v.cells.toList) rest:=by
 have hf:(v.cells.zipIdx.foldl (fun cs (x:Value × Nat)=>match x with|(c,j)=>cs.setIfInBounds (off+j) c) cells)=putL cells off v.cells.toList:=by
  rw[← Array.foldl_toList,Array.toList_zipIdx];exact qhz off v.cells.toList 0 cells
 have hc:¬ (v.cells.size≠size∨off+v.cells.size>cells.size):=by omega
 simp only[Instr.fill,hp];simp only[Bool.or_eq_true,decide_eq_true_eq] at *;rw[if_neg (by simpa using hc)]
 exact congrArg (fun x=>Instr.fill place x rest) hf
theorem qmm {placeA place:Nat→Option (Nat × Nat)} (hpl:∀ i p,placeA i=some p→place i=some p):∀ (ps:List (Nat × AV)) (qs:List (Nat × Value)) (cs:List AV) (vs:Array Value) (cs':List AV),
 ps.length=qs.length→(∀ (i:Nat) p q,ps[i]? = some p→qs[i]? = some q→p.1=q.1∧RepA w C ρ H p.2 q.2)→RepL w C ρ H cs vs→
 fillA placeA cs ps=some cs'→∃ vs',Instr.fill place vs qs=some vs'∧RepL w C ρ H cs' vs':=by
 intro ps
 induction ps with
 | nil=>
  intro qs cs vs cs' hl _ hr h;have:qs=[]:=List.eq_nil_of_length_eq_zero (by simpa using hl.symm)
  subst this;simp only[fillA] at h;cases h;exact ⟨vs,rfl,hr⟩
 | cons p ps ih=>
  intro qs cs vs cs' hl hrep hr h;cases qs with
  | nil=>simp at hl
  | cons q qs=>
   obtain ⟨i,x⟩:=p;obtain ⟨i',v⟩:=q;obtain ⟨h1,h2⟩:=hrep 0 _ _ rfl rfl;simp only at h1 h2;subst h1;simp only[fillA] at h
   split at h
   · rename_i off size hp
     split at h
     · rename_i hc;obtain ⟨c1,c2,c3⟩:=hc;have hx:=h2.repL c3;have e:=qkp place vs i v qs (hpl _ _ hp) (by rw[← hx.1,c1]) (by rw[← hr.1];exact c2)
       rw[e];exact ih qs _ _ cs' (by simpa using hl) (fun k p q hp hq=>hrep (k+1) p q (by simpa using hp) (by simpa using hq)) (hr.set hx (by omega)) h
     · simp at h
   · simp at h
theorem qqp {zs:Array Value} (h:zs.all (·.oneCell')=true):RepL w C ρ H (zs.toList.map ofCell) zs:=by
 refine ⟨by simp,fun i c hc=>?_⟩
 simp only[List.getElem?_map,Option.map_eq_some_iff] at hc;obtain ⟨v,hv,rfl⟩:=hc;refine ⟨v,by simpa using hv,?_,qci v⟩
 simp only[Array.all_eq_true] at h;obtain ⟨hi,rfl⟩:=List.getElem?_eq_some_iff.1 hv;simp at hi
 simpa using h i hi
theorem qokb {α β:Type} (f:α→Sem β) (g:α→β) (l:List α) (h:∀ x∈l,(f x).run P w = .ok (g x) w):(l.mapM f).run P w = .ok (l.map g) w:=by
 induction l with
 | nil=>simp
 | cons x l ih=>
  rw[List.mapM_cons];simp only[Sem.run_bind,h x (List.mem_cons_self ..),Result.andThen_ok,ih (fun y hy=>h y (List.mem_cons_of_mem _ hy)),Sem.run_pure,List.map_cons]
theorem qgu (hR:RelH w C ρ H) (hev:∀ x,RepA w C ρ H (ev x) (rv x)) {t:TypeId} {parts:Array (Nat × Operand)} (ho:o.op = .build t parts)
 (h:execA P id ev H (.build t parts)=some r):Out w C ρ H r ((execOp rv o).run P w):=by
 simp only[execA] at h
 have hparts:∀ (i:Nat) p q,(parts.toList.map fun p=>(p.1,ev p.2))[i]? = some p→(parts.map fun x=>(x.1,rv x.2)).toList[i]? = some q→p.1=q.1∧RepA w C ρ H p.2 q.2:=by
  intro i p q hp hq;simp only[List.getElem?_map,Array.toList_map,Option.map_eq_some_iff] at hp hq;obtain ⟨y,hy,rfl⟩:=hp;obtain ⟨y',hy',rfl⟩:=hq;rw[hy] at hy';cases hy';exact ⟨rfl,hev _⟩
 have fin:∀ (cs:List AV) (vs:Array Value),RepL w C ρ H cs vs→RepA w C ρ H (.agg cs) (.agg vs):=by
  intro cs vs hl;obtain ⟨vs⟩:=vs;refine .agg cs vs hl.1 ?_ ?_
  · intro v hv;obtain ⟨i,hi,rfl⟩:=List.mem_iff_getElem.1 hv;have hlen:cs.length=vs.length:=hl.1;obtain ⟨v,v1,v2,v3⟩:=hl.2 i _ (List.getElem?_eq_getElem (show i<cs.length by omega))
    simp[List.getElem?_eq_getElem hi] at v1;rw[v1];exact v2
  · intro i hi hi';obtain ⟨v,v1,v2,v3⟩:=hl.2 i _ (List.getElem?_eq_getElem hi);simp[List.getElem?_eq_getElem hi'] at v1;rw[v1];exact v3
 split at h
 · rename_i z pl hz hpl
   split at h
   · rename_i cs0 hcs0
     obtain ⟨zs,rfl,hz0⟩:∃ zs,z = .agg zs∧RepL w C ρ H cs0 zs:=by
      have hzr:=qzg (w:=w) (C:=C) (ρ:=ρ) (H:=H) z;unfold ofVal at hcs0
      split at hcs0
      · rename_i zs
        split at hcs0
        · rename_i h1;cases hcs0;exact ⟨zs,rfl,qqp h1⟩
        · simp at hcs0
      · unfold ofCell at hcs0
        split at hcs0<;>simp at hcs0
     split at h
     · rename_i cs hf;unfold tplace at hpl
       split at hpl
       · rename_i fs hu
         split at hpl
         · rename_i c2;cases hpl;obtain ⟨vs,hvs,hl⟩:=qmm (place:=fun i=>(fs[i]?).map fun f:Field=>(f.offset,tsz P f.type)) (fun i p hp=>by simpa using hp) _ (parts.map fun x=>(x.1,rv x.2)).toList _ _ _ (by simp) hparts hz0 hf
           refine Out.chg hR h (fin cs vs hl) ?_
           have hm:(fs.mapM fun f=>do pure (f.offset,← Go.sizeOf f.type):Sem (Array (Nat × Nat))).run P w = .ok (fs.map fun f=>(f.offset,tsz P f.type)) w:=by
            rw[Array.mapM_eq_mapM_toList];simp only[Sem.run_map]
            rw[qokb _ (fun f=>(f.offset,tsz P f.type)) fs.toList (fun f hf=>by
             have:tin P f.type=true:=by
              simp only[Array.all_eq_true] at c2;obtain ⟨i,hi,rfl⟩:=List.mem_iff_getElem.1 hf
              simpa using c2 i (by simpa using hi)
             simp[qm this])]
            cases fs;simp
           have hpl:(fun i:Nat=>(fs.map fun f:Field=>(f.offset,tsz P f.type))[i]?)=(fun i:Nat=>(fs[i]?).map fun f:Field=>(f.offset,tsz P f.type)):=by
            funext i;simp
           simp only[execOp,ho,Instr.build,Sem.run_bind,qbj hz,Result.andThen_ok,run_underlying hu,hm,Value.cells,hpl,hvs,Sem.run_pure]
         · simp at hpl
       · rename_i n e hu
         split at hpl
         · rename_i c2;cases hpl
           obtain ⟨vs,hvs,hl⟩:=qmm (place:=fun i=>some (i*tsz P e,tsz P e)) (fun i p hp=>by
            simp only[List.getElem?_map,Option.map_eq_some_iff] at hp;obtain ⟨q,hq,rfl⟩:=hp;obtain ⟨h1,h2⟩:=List.getElem?_eq_some_iff.1 hq;simp at h2;rw[h2]) _ (parts.map fun x=>(x.1,rv x.2)).toList _ _ _ (by simp) hparts hz0 hf
           refine Out.chg hR h (fin cs vs hl) ?_;simp only[execOp,ho,Instr.build,Sem.run_bind,qbj hz,Result.andThen_ok,run_underlying hu,qm c2,Value.cells,hvs,Sem.run_pure]
         · simp at hpl
       · simp at hpl
     · simp at h
   · simp at h
 · simp at h
end Am

namespace Am
open Go
variable {P:Program} {w:World} {C:Com} {ρ:Rho} {H:Heap}
variable {ev:Operand→AV} {rv:Operand→Value} {id:Nat} {r:Res} {o:Oper}
theorem qaf {rows:List (List AV)} {sz:Nat} {cs:Array Value} (ty:TypeId) (fz ap:Bool) (hs:rows.length*sz≤cs.size) (hl:∀ row∈rows,row.length=sz)
 (h:∀ i j (hi:i<rows.length) (hj:j<(rows[i]).length),∃ v,cs[i*sz+j]? = some v∧v.oneCell' = true∧RepA w C ρ H (rows[i])[j] v) :
 Fits w C ρ H { fz,ap,ty,sz,rows } cs:=
 ⟨hs,fun _ _=>hl _ (List.getElem_mem _),h⟩
theorem qot (hR:RelH w C ρ H) (hid:H id=none) {blk:Blk} {cs:Array Value} (hf:Fits w C ρ H blk cs) (hfz:blk.fz=false) {n cap:Nat} {rb:List Nat}
 (hn:blk.rows.length=n) (hcap:n≤cap) (hcs:cap*blk.sz≤cs.size)
 {run:Result Next} (w1:World) (h1:w1=w∨w1=w.drew) (hr:run = .ok (.value (.slice (some ⟨w.heap.size,0,none⟩) n cap)) (w1.alloc (.cells cs blk.ty))) :
 Out w C ρ H { v:=.own id n 0 n,hs:=[(id,blk)],rb } run:=by
 have hold:∀ blk0,H id=some blk0→blk.sz=blk0.sz∧blk0.rows.length<blk.rows.length:=fun _ hb=>by simp[hid] at hb
 have hsz:w1.heap.size=w.heap.size:=by rcases h1 with rfl|rfl<;>rfl
 have hR1:RelH w1 C ρ H:=by rcases h1 with rfl|rfl;exact hR;exact hR.drew
 have e1:Ext w C ρ H w1 C ρ H:=by rcases h1 with rfl|rfl;exact .refl _ _ _ _;exact ext_drew _ _ _ _
 have hf1:Fits w1 C ρ H blk cs:=by
  obtain ⟨f1,f2,f3⟩:=hf;refine ⟨f1,f2,fun i j hi hj=>?_⟩
  obtain ⟨v,g1,g2,g3⟩:=f3 i j hi hj;exact ⟨v,g1,g2,g3.mono e1⟩
 refine ⟨_,_,_,_,.inl hr,qng hR1 (blk:=blk) hold hf1 hfz,e1.trans (ext_new (blk:=blk) hR1 hold),?_⟩;refine .own id n 0 n _ _ (qr ..) (by show n≤blk.rows.length;omega) rfl fun _=>.inl ⟨w.heap.size,cs.size,cap,?_,by simp,hcap,by simpa using hcs,by omega⟩
 rw[hsz];exact qn ..
theorem qanb {reg:Nat × Nat} (hR:RelH w C ρ H) (hid:H id=none) {blk:Blk} {cs:Array Value} (hf:Fits w C ρ H blk cs) (hfz:blk.fz=false) (hap:blk.ap=false) (hreg:∀ o,o<cs.size→¬(reg.1≤o∧o<reg.2)) {n cap:Nat} {rb:List Nat}
 (hn:blk.rows.length=n) (hcap:n≤cap) (hcs:cap*blk.sz≤cs.size)
 {run:Result Next} (w1:World) (h1:w1=w∨w1=w.drew) (hr:run = .ok (.value (.slice (some ⟨w.heap.size,0,none⟩) n cap)) (w1.alloc (.cells cs blk.ty reg))) :
 Out w C ρ H { v:=.own id n 0 n,hs:=[(id,blk)],rb } run:=by
 have hold:∀ blk0,H id=some blk0→blk.sz=blk0.sz∧blk0.rows.length<blk.rows.length:=fun _ hb=>by simp[hid] at hb
 have hsz:w1.heap.size=w.heap.size:=by rcases h1 with rfl|rfl<;>rfl
 have hR1:RelH w1 C ρ H:=by rcases h1 with rfl|rfl;exact hR;exact hR.drew
 have e1:Ext w C ρ H w1 C ρ H:=by rcases h1 with rfl|rfl;exact .refl _ _ _ _;exact ext_drew _ _ _ _
 have hf1:Fits w1 C ρ H blk cs:=by
  obtain ⟨f1,f2,f3⟩:=hf;refine ⟨f1,f2,fun i j hi hj=>?_⟩
  obtain ⟨v,g1,g2,g3⟩:=f3 i j hi hj;exact ⟨v,g1,g2,g3.mono e1⟩
 refine ⟨_,_,_,_,.inl hr,qveb reg hR1 (blk:=blk) hold hf1 hfz hap hreg,e1.trans (ext_newG reg (blk:=blk) hR1 hold),?_⟩;refine .own id n 0 n _ _ (qr ..) (by show n≤blk.rows.length;omega) rfl fun _=>.inl ⟨w.heap.size,cs.size,cap,?_,by simp,hcap,by simpa using hcs,by omega⟩
 rw[hsz];exact qn ..
theorem qzfb {sz:Nat}:∀ (vs:List Value) (k:Nat) (cells:Array Value),(∀ v∈vs,v.cells.size=sz)→(k+vs.length)*sz≤cells.size→
 ∃ out,Instr.fill (fun i=>some (i*sz,sz)) cells ((List.range' k vs.length).zip vs)=some out∧out.size=cells.size∧
  (∀ m,m<k*sz→out[m]? = cells[m]?)∧∀ i j (hi:i<vs.length),j<sz→out[(k+i)*sz+j]? = (vs[i]).cells[j]?:=by
 intro vs
 induction vs with
 | nil=>intro k cells _ _;exact ⟨cells,rfl,rfl,fun _ _=>rfl,fun i j hi=>by simp at hi⟩
 | cons v vs ih=>
  intro k cells hs hc;have hv:=hs v (List.mem_cons_self ..);have hkk:(k+1)*sz≤(k+(v::vs).length)*sz:=Nat.mul_le_mul_right _ (by simp)
  have hk1:k*sz+sz≤cells.size:=by
   rw[Nat.add_mul,Nat.one_mul] at hkk;omega
  have e:=qkp (fun i=>some (i*sz,sz)) cells k v ((List.range' (k+1) vs.length).zip vs) rfl hv hk1
  obtain ⟨out,o1,o2,o3,o4⟩:=ih (k+1) (putL cells (k*sz) v.cells.toList) (fun u hu=>hs u (List.mem_cons_of_mem _ hu)) (by
   rw[qre];have:k+1+vs.length=k+(v::vs).length:=by simp;omega
   rw[this];exact hc)
  refine ⟨out,?_,by rw[o2,qre],?_,?_⟩
  · simp only[List.length_cons,List.range'_succ,List.zip_cons_cons];rw[e];exact o1
  · intro m hm;have h1:m<(k+1)*sz:=by rw[Nat.add_mul];omega
    rw[o3 m h1,qeh _ _ _ _ (by simp only[Array.length_toList];omega),if_neg (by omega)]
  · intro i j hi hj;cases i with
    | zero=>
     have h1:k*sz+j<(k+1)*sz:=by rw[Nat.add_mul];omega
     simp only[Nat.add_zero,List.getElem_cons_zero];rw[o3 _ h1,qeh _ _ _ _ (by simp only[Array.length_toList];omega),if_pos (by simp only[Array.length_toList];omega)]
     have:k*sz+j-k*sz=j:=by omega
     rw[this];simp
    | succ i=>
     have h1:k+(i+1)=k+1+i:=by omega
     rw[h1];simp only[List.getElem_cons_succ];exact o4 i j (by simpa using hi) hj
theorem qpi (hR:RelH w C ρ H) (hid:H id=none) (hev:∀ x,RepA w C ρ H (ev x) (rv x)) {t:TypeId} {len:Nat} {parts:Array (Nat × Operand)} (ho:o.op = .buildSlice t len parts)
 (h:execA P id ev H (.buildSlice t len parts)=some r):Out w C ρ H r ((execOp rv o).run P w):=by
 simp only[execA] at h
 split at h
 · rename_i e he;have hu:=qjb he
   split at h
   · rename_i z hz
     split at h
     · rename_i hc;obtain ⟨c1,c2,c3,c4,c5,c6⟩:=hc;cases h
       have hlen:parts.toList.length=len:=by
        have:=congrArg List.length c5
        simpa using this
       have h6:∀ p∈parts.toList,(ev p.2).cells.length=tsz P e∧(ev p.2).cells.all AV.one=true:=by
        intro p hp;simp only[Array.all_eq_true] at c6;obtain ⟨i,hi,rfl⟩:=List.mem_iff_getElem.1 hp;have:=c6 i (by simpa using hi)
        simp only[Bool.and_eq_true,beq_iff_eq] at this
        simpa using this
       have hvs:∀ v∈parts.toList.map (fun p=>rv p.2),v.cells.size=tsz P e:=by
        intro v hv;obtain ⟨p,hp,rfl⟩:=List.mem_map.1 hv;obtain ⟨g1,g2⟩:=h6 p hp;rw[← ((hev p.2).repL g2).1];exact g1
       have hzip:(parts.map fun x=>(x.1,rv x.2)).toList=(List.range' 0 (parts.toList.map (fun p=>rv p.2)).length).zip (parts.toList.map (fun p=>rv p.2)):=by
        simp only[Array.toList_map,List.length_map,hlen];rw[← List.range_eq_range',← c5];exact List.zip_map'.symm
       have hinit:((Array.range (len*tsz P e)).map (fun i=>(z.cells)[i % z.cells.size]!)).size=len*tsz P e:=by simp
       obtain ⟨out,o1,o2,o3,o4⟩:=qzfb (sz:=tsz P e) (parts.toList.map (fun p=>rv p.2)) 0 ((Array.range (len*tsz P e)).map (fun i=>(z.cells)[i % z.cells.size]!)) hvs (by simp only[List.length_map,hlen,hinit];simp)
       have hnz:¬ (len*tsz P e>16777216):=by omega
       have hrun:(execOp rv o).run P w = .ok (.value (.slice (some ⟨w.heap.size,0,none⟩) len len)) (w.alloc (.cells out e)):=by
        by_cases h0:len*tsz P e=0
        · have hl0 : len = 0 := by
           rcases Nat.mul_eq_zero.1 h0 with h|h
           · exact h
           · omega
          have hpa:parts = #[]:=Array.eq_empty_of_size_eq_zero (by simpa [hl0] using hlen)
          subst hpa
          have ho0:out = #[]:=by
           apply Array.eq_empty_of_size_eq_zero
           rw[o2,hinit,h0]
          subst ho0;simp[execOp,ho,Instr.buildSlice,run_underlying hu,qm c1,hl0,Instr.fill,newRow,Array.range_zero']
        · rw[hzip.symm] at o1;simp only[execOp,ho,Instr.buildSlice,Sem.run_bind,run_underlying hu,qm c1,Result.andThen_ok,Sem.run_ite,hnz,if_false,h0,qbj hz,Sem.run_pure,o1,newRow,run_newObj];rfl
       refine qot hR hid (qaf (rows:=parts.toList.map fun p=>(ev p.2).cells) e false true ?_ ?_ ?_) rfl (n:=len) (cap:=len) (by simpa using hlen) (Nat.le_refl _) (by rw[o2,hinit];exact Nat.le_refl _) w (.inl rfl) hrun
       · rw[o2,hinit];simp only[List.length_map,hlen];exact Nat.le_refl _
       · intro row hrow;obtain ⟨p,hp,rfl⟩:=List.mem_map.1 hrow;exact (h6 p hp).1
       · intro i j hi hj;simp only[List.length_map] at hi;simp only[List.getElem_map] at hj ⊢;have hp:=List.getElem_mem hi;obtain ⟨g1,g2⟩:=h6 _ hp;have hrl:=(hev (parts.toList[i]).2).repL g2;obtain ⟨v,v1,v2,v3⟩:=hrl.2 j _ (List.getElem?_eq_getElem hj);refine ⟨v,?_,v2,v3⟩;have:=o4 i j (by simpa using hi) (by omega)
         simp only[Nat.zero_add,List.getElem_map] at this;exact this.trans v1
     · simp at h
   · simp at h
 · simp at h
end Am
