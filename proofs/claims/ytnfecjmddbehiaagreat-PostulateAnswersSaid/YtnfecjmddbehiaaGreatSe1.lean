/- The abstract machine and its reader: lemmas. -/
import Derived.Test.YtnfecjmddbehiaaGreatAm9
import Derived.Test.YtnfecjmddbehiaaGreatAmCode3
set_option linter.unusedSimpArgs false
set_option linter.unusedVariables false
set_option linter.unusedSectionVars false
namespace Am
open Go
inductive SA where
 | v (x:Nat)
 | c (d:D)
inductive SV where
 | atm (x:SA)
 | nils
 | agg (cs:List SV)
 | tup (cs:List SV)
 | own (b:Nat)
 | ptr (b i j:Nat)
 | px (b:Nat) (x:SA) (j:Nat)
 | ep (cs:List SA)
 | clo (f:FuncId) (first caps:List SV)
 | junk
instance :Inhabited SA:=⟨.v 0⟩
instance :Inhabited SV:=⟨.junk⟩
structure SB where
 fz:Bool
 ap:Bool
 ty:TypeId
 sz:Nat
 d:SA
 tl:List (List SV)
structure SS where
 tm:List SV
 H:List (Option SB)
 nx:Nat
 n:Nat
abbrev Env:=List D
def dfl:D:=.bool false
def SA.val (e:Env):SA→D
 | .v x=>e.getD x dfl
 | .c d=>d
def D.rows:D→List (List D)
 | .sl xs=>xs
 | _=>[]
def D.num:D→Int
 | .int _ n=>n
 | _=>0
mutual
def SV.inst (e:Env) (ln:Nat→Nat):SV→AV
 | .atm x=>.d (x.val e)
 | .nils=>.nils
 | .agg cs=>.agg (SV.instL e ln cs)
 | .tup cs=>.tup (SV.instL e ln cs)
 | .own b=>.own b (ln b) 0 (ln b)
 | .ptr b i j=>.ptr b (ln b) i j
 | .px b x j=>.ptr b (ln b) (x.val e).num.toNat j
 | .ep cs=>.eptr (cs.map (·.val e))
 | .clo f a b=>.clo (.func f) (SV.instL e ln a) (SV.instL e ln b)
 | .junk=>.junk
def SV.instL (e:Env) (ln:Nat→Nat):List SV→List AV
 | []=>[]
 | c::cs=>c.inst e ln::SV.instL e ln cs
end
def SB.rows (e:Env) (ln:Nat→Nat) (b:SB):List (List AV):=(b.d.val e).rows.map (·.map .d)++b.tl.map (SV.instL e ln)
def SB.len (e:Env) (b:SB):Nat:=(b.d.val e).rows.length+b.tl.length
def SB.inst (e:Env) (ln:Nat→Nat) (b:SB):Blk:={ fz:=b.fz,ap:=b.ap,ty:=b.ty,sz:=b.sz,rows:=b.rows e ln }
def getS:List SV→Nat→SV
 | [],_=>.junk
 | a::_,0=>a
 | _::l,t+1=>getS l t
def setS:List SV→Nat→SV→List SV
 | [],0,v=>[v]
 | [],d+1,v=>.junk::setS [] d v
 | _::l,0,v=>v::l
 | a::l,d+1,v=>a::setS l d v
def getB:List (Option SB)→Nat→Option SB
 | [],_=>none
 | a::_,0=>a
 | _::l,t+1=>getB l t
def setB:List (Option SB)→Nat→SB→List (Option SB)
 | [],0,v=>[some v]
 | [],d+1,v=>none::setB [] d v
 | _::l,0,v=>some v::l
 | a::l,d+1,v=>a::setB l d v
def lnOf (e:Env) (H:List (Option SB)) (b:Nat):Nat:=match getB H b with|some k=>k.len e|none=>0
def SS.inst (e:Env) (σ:SS):Sta:=⟨fun t=>(getS σ.tm t).inst e (lnOf e σ.H),fun b=>(getB σ.H b).map (·.inst e (lnOf e σ.H)),σ.nx,σ.n⟩
def D.one:D→Bool
 | .raw v=>v.oneCell'
 | .sl (_::_)=>false
 | _=>true
def SA.ok (m:Nat):SA→Bool
 | .v x=>Nat.blt x m
 | .c d=>d.one
mutual
def SV.ok (m:Nat):SV→Bool
 | .atm (.v x)=>Nat.blt x m
 | .atm (.c _)=>true
 | .agg cs=>SV.okL m cs
 | .tup cs=>SV.okL m cs
 | .px _ x _=>x.ok m
 | .ep cs=>cs.all (SA.ok m)
 | .clo _ a b=>SV.okL m a&&SV.okL m b
 | _=>true
def SV.okL (m:Nat):List SV→Bool
 | []=>true
 | c::cs=>c.ok m&&SV.okL m cs
end
def SB.ok (m:Nat) (b:SB):Bool:=b.d.ok m&&b.tl.all (SV.okL m)
def SV.one:SV→Bool
 | .agg _ | .tup _ | .junk=>false
 | .atm (.c d)=>d.one
 | _=>true
def D.beq:D→D→Bool
 | .int k n,.int k' n'=>decide (k=k')&&decide (n=n')
 | .bool b,.bool b'=>b == b'
 | .str l,.str l'=>decide (l=l')
 | .sl [],.sl []=>true
 | .raw (.func (.func f) ⟨[]⟩ ⟨[]⟩),.raw (.func (.func g) ⟨[]⟩ ⟨[]⟩)=>f == g
 | .raw (.tuple ⟨[]⟩),.raw (.tuple ⟨[]⟩)=>true
 | .raw (.pointer none),.raw (.pointer none)=>true
 | .raw .nilFunc,.raw .nilFunc=>true
 | _,_=>false
def SA.beq:SA→SA→Bool
 | .v x,.v y=>x == y
 | .c d,.c d'=>d.beq d'
 | _,_=>false
def beqAs:List SA→List SA→Bool
 | [],[]=>true
 | a::l,b::l'=>a.beq b&&beqAs l l'
 | _,_=>false
mutual
def SV.beq:SV→SV→Bool
 | .atm x,.atm y=>x.beq y
 | .nils,.nils=>true
 | .agg a,.agg b=>SV.beqL a b
 | .tup a,.tup b=>SV.beqL a b
 | .own b,.own c=>b == c
 | .ptr b i j,.ptr c k l=>b == c&&i == k&&j == l
 | .px b i j,.px c k l=>b == c&&i.beq k&&j == l
 | .ep a,.ep b=>beqAs a b
 | .clo f a b,.clo g c d=>f == g&&SV.beqL a c&&SV.beqL b d
 | .junk,.junk=>true
 | _,_=>false
def SV.beqL:List SV→List SV→Bool
 | [],[]=>true
 | a::l,b::l'=>a.beq b&&SV.beqL l l'
 | _,_=>false
end
mutual
def SV.has (p:Nat→Bool):SV→Bool
 | .own b | .ptr b _ _ | .px b _ _=>p b
 | .agg cs | .tup cs=>SV.hasL p cs
 | .clo _ a b=>SV.hasL p a || SV.hasL p b
 | _=>false
def SV.hasL (p:Nat→Bool):List SV→Bool
 | []=>false
 | c::cs=>c.has p || SV.hasL p cs
end
def SV.kill (p:Nat→Bool) (v:SV):SV:=if v.has p then .junk else v
def SB.kill (p:Nat→Bool) (b:SB):SB:={ b with tl:=b.tl.map (·.map (SV.kill p)) }
def SS.kill (p:Nat→Bool) (σ:SS):SS:={ σ with tm:=σ.tm.map (SV.kill p),H:=σ.H.map (·.map (SB.kill p)) }
inductive PO where
 | bin (op:BinOp) (tb:Bool)
 | un (op:UnOp)
 | conv (k:IntKind)
 | convS
 | lenS
 | lenL
 | idxS
 | row (sz:Nat)
 | subS
 | subL (sz:Nat)
 | app (sz bt:Nat)
 | appS (bt:Nat)
 | app1 (sz bt:Nat)
 | room (bt k:Nat)
 | mk (sz n:Nat)
 | cat
 | mkL (bt:Nat) (z:List D)
 | chk
 | get (j n:Nat)
 | set (j n:Nat)
 | pick
 | min
 | max
 | sel (n:Nat)
 | toS
 | toB
 | eqs (neg:Bool) (n:Nat)
def PO.nout:PO→Nat
 | .row sz=>sz
 | .get _ n=>n
 | .chk | .room _ _=>0
 | _=>1
def chunks (sz:Nat):Nat→List D→List (List D)
 | 0,_=>[]
 | n+1,l=>l.take sz::chunks sz n (l.drop sz)
def setD (row:List D) (j:Nat):List D→List D
 | []=>row
 | c::cs=>setD (row.set j c) (j+1) cs
def bytesD:List (List D)→Option (List UInt8)
 | []=>some []
 | [.int .u8 c]::rest=>if 0≤c∧c<256 then (match bytesD rest with|some l=>some (c.toNat.toUInt8::l)|none=>none) else none
 | _=>none
def one1 (x:Option D):Option (List D):=x.map fun d=>[d]
def eqD:List D→List D→Option Bool
 | [],[]=>some true
 | .int k a::l,.int k' b::l'=>if k=k' then (match eqD l l' with|some r=>some ((a == b)&&r)|none=>none) else none
 | _,_=>none
def PO.eval:PO→List D→Option (List D)
 | .bin op tb,[a,b]=>match a,b with
  | .bool a,.bool b=>if tb then one1 (aBin op (.bool a) (.bool b)) else none
  | a,b=>one1 (aBin op a b)
 | .un op,[a]=>one1 (aUn op a)
 | .conv k,[.int _ n]=>some [.int k (k.wrap n)]
 | .convS,[.str l]=>some [.str l]
 | .lenS,[.str l]=>some [.int .i64 l.length]
 | .lenL,[.sl xs]=>some [.int .i64 xs.length]
 | .idxS,[.str l,.int _ n]=>if 0≤n then (match l[n.toNat]? with|some c=>some [.int .u8 c.toNat]|none=>none) else none
 | .row sz,[.sl xs,.int _ n]=>if 0≤n then (match xs[n.toNat]? with|some r=>if r.length=sz then some r else none|none=>none) else none
 | .subS,[.str l,.int _ a,.int _ b]=>if 0≤a∧a≤b∧b≤l.length then some [.str ((l.take b.toNat).drop a.toNat)] else none
 | .subL sz,[.sl xs,.int _ a,.int _ b]=>if 0≤a∧a≤b∧b≤xs.length∧xs.all (fun r=>r.length == sz) then some [.sl ((xs.take b.toNat).drop a.toNat)] else none
 | .app sz bt,[.sl xs,.sl ys]=>if (xs.length+ys.length)*bt≤140737488355328∧xs.length+ys.length≤9223372036854775807∧ys.all (fun r=>r.length == sz) then some [.sl (xs++ys)] else none
 | .appS bt,[.sl xs,.str l]=>if (xs.length+l.length)*bt≤140737488355328∧xs.length+l.length≤9223372036854775807 then some [.sl (xs++l.map fun c=>[.int .u8 c.toNat])] else none
 | .app1 sz bt,[.sl xs]=>if xs≠[]∧xs.length*bt≤140737488355328∧xs.length≤9223372036854775807∧xs.all (fun r=>r.length == sz) then some [.sl xs] else none
 | .room bt k,[.sl xs]=>if (xs.length+k)*bt≤140737488355328∧xs.length+k≤9223372036854775807 then some [] else none
 | .mk sz n,l=>if l.length=n*sz then some [.sl (chunks sz n l)] else none
 | .cat,[.sl xs,.sl ys]=>some [.sl (xs++ys)]
 | .mkL bt z,[.int _ n]=>if 0≤n∧(bt:Int)*n≤281474976710656∧n≤9223372036854775807 then some [.sl (List.replicate n.toNat z)] else none
 | .chk,[.sl xs,.int _ n]=>if 0≤n∧n<xs.length then some [] else none
 | .get j k,[.sl xs,.int _ n]=>if 0≤n then (match xs[n.toNat]? with|some r=>if j+k≤r.length then some ((r.drop j).take k) else none|none=>none) else none
 | .set j k,.sl xs :: .int _ n::cs=>if 0≤n then (match xs[n.toNat]? with|some r=>if j+k≤r.length∧cs.length=k then some [.sl (xs.set n.toNat (setD r j cs))] else none|none=>none) else none
 | .pick,[.bool t,a,b]=>some [if t then a else b]
 | .min,[.int k a,.int _ b]=>some [.int k (if b<a then b else a)]
 | .max,[.int k a,.int _ b]=>some [.int k (if b>a then b else a)]
 | .sel k,.int _ n::cs=>if 0≤n∧n<k then one1 cs[n.toNat]? else none
 | .toS,[.sl xs]=>(bytesD xs).map fun l=>[.str l]
 | .toB,[.str l]=>some [.sl (l.map fun c=>[.int .u8 c.toNat])]
 | .eqs neg n,l=>match eqD (l.take n) (l.drop n) with|some r=>some [.bool (if neg then !r else r)]|none=>none
 | _,_=>none
structure TF where
 sz:Nat
 bt:Nat
 ti:Bool
 tu:Bool
 agg:Bool
 elem:Option Nat
 arr:Option (Nat × Nat)
 int:Option IntKind
 str:Bool
 bool:Bool
 zero:Option Value
 flds:List (Nat × Nat)
 place:Option (List (Nat × Nat))
 eqn:Option Nat
abbrev Tab:=List (Nat × TF)
def Tab.get:Tab→Nat→Option TF
 | [],_=>none
 | p::l,t=>if p.1 == t then some p.2 else Tab.get l t
structure SR where
 em:List (PO × List SA):=[]
 v:SV
 up:List (Nat × SB):=[]
 gr:List Nat:=[]
 rb:List Nat:=[]
def sCell:Value→SV
 | .int k n=>.atm (.c (.int k n))
 | .bool b=>.atm (.c (.bool b))
 | .string s=>.atm (.c (.str s.data.toList))
 | .slice none 0 0=>.nils
 | v=>.atm (.c (.raw v))
def sVal:Value→SV
 | .agg cs=>if cs.all (·.oneCell') then .agg (cs.toList.map sCell) else .junk
 | v=>sCell v
abbrev SGlob:=List (Nat × List D)
def SGlob.get:SGlob→Nat→Option (List D)
 | [],_=>none
 | p::l,g=>if p.1 == g then some p.2 else SGlob.get l g
def sev (SG:SGlob) (σ:SS):Operand→SV
 | .tmp t=>getS σ.tm t
 | .const v=>sVal v
 | .global g=>match SG.get g with|some cs=>.ep (cs.map .c)|none=>.junk
 | .func f=>.atm (.c (.raw (.func (.func f) #[] #[])))
def SV.cells:SV→List SV
 | .agg cs=>cs
 | v=>[v]
def SV.atom:SV→Option SA
 | .atm x=>some x
 | _=>none
def atoms:List SV→Option (List SA)
 | []=>some []
 | .atm x::l=>match atoms l with|some r=>some (x::r)|none=>none
 | _=>none
def vars (m:Nat):Nat→List SA
 | 0=>[]
 | n+1=>.v m::vars (m+1) n
def setAtS (row:List SV) (j:Nat):List SV→List SV
 | []=>row
 | c::cs=>setAtS (row.set j c) (j+1) cs
def sNil:SA→Bool
 | .c (.sl [])=>true
 | _=>false
def lit0:SA:=.c (.sl [])
def sFill (place:List (Nat × Nat)) (cells:List SV):List (Nat × SV)→Option (List SV)
 | []=>some cells
 | (i,v)::rest=>
  match place[i]? with
  | some (off,size)=>if v.cells.length == size&&Nat.ble (off+size) cells.length&&v.cells.all SV.one then sFill place (setAtS cells off v.cells) rest else none
  | none=>none
inductive Src where
 | at (q:SA) (rb:List Nat)
 | st (q:SA)
 | rows (l:List (List SV)) (rb:List Nat)
section ops
variable (T:Tab) (SG:SGlob) (σ:SS) (m id:Nat)
def sLoad (tf:TF):SV→Option SR
 | .ptr b i j=>match getB σ.H b with
  | some k=>if sNil k.d then (match k.tl[i]? with
   | some row=>if tf.agg then (if Nat.ble (j+tf.sz) row.length then some { v:=.agg ((row.drop j).take tf.sz),rb:=[b] } else none)
    else (match row[j]? with|some c=>some { v:=c,rb:=[b] }|none=>none)
   | none=>none)
   else if k.tl.isEmpty then (if tf.agg then some { em:=[(.get j tf.sz,[k.d,.c (.int .i64 i)])],v:=.agg ((vars m tf.sz).map .atm),rb:=[b] }
    else some { em:=[(.get j 1,[k.d,.c (.int .i64 i)])],v:=.atm (.v m),rb:=[b] }) else none
  | none=>none
 | .px b x j=>match getB σ.H b with
  | some k=>if k.tl.isEmpty then (if tf.agg then some { em:=[(.get j tf.sz,[k.d,x])],v:=.agg ((vars m tf.sz).map .atm),rb:=[b] }
   else some { em:=[(.get j 1,[k.d,x])],v:=.atm (.v m),rb:=[b] }) else none
  | none=>none
 | .ep cs=>if tf.agg then (if Nat.ble tf.sz cs.length then some { v:=.agg ((cs.take tf.sz).map .atm) } else none)
  else (match cs with|c::_=>some { v:=.atm c }|[]=>none)
 | _=>none
def sStore (tf:TF) (x:SV):SV→Option SR
 | .ptr b i j=>match getB σ.H b with
  | some k=>if !k.fz&&x.cells.length == tf.sz&&x.cells.all SV.one then
   (if sNil k.d then (match k.tl[i]? with
    | some row=>if Nat.ble (j+tf.sz) row.length then some { v:=.junk,up:=[(b,{ k with tl:=k.tl.set i (setAtS row j x.cells) })],rb:=[b] } else none
    | none=>none)
   else if k.tl.isEmpty then (match atoms x.cells with
    | some as=>some { em:=[(.set j tf.sz,k.d :: .c (.int .i64 i)::as)],v:=.junk,up:=[(b,{ k with d:=.v m })],rb:=[b] }
    | none=>none)
   else none) else none
  | none=>none
 | .px b y j=>match getB σ.H b with
  | some k=>if !k.fz&&x.cells.length == tf.sz&&x.cells.all SV.one&&k.tl.isEmpty then
   (match atoms x.cells with
    | some as=>some { em:=[(.set j tf.sz,k.d::y::as)],v:=.junk,up:=[(b,{ k with d:=.v m })],rb:=[b] }
    | none=>none)
   else none
  | none=>none
 | _=>none
def sRows (e:Nat) (te:TF) (rows:List (List SV)):SR:=
 match rows with
 | []=>{ v:=.own id,up:=[(id,{ fz:=false,ap:=true,ty:=e,sz:=te.sz,d:=lit0,tl:=[] })],gr:=[id] }
 | _=>match atoms rows.flatten with
  | some as=>{ em:=[(.mk te.sz rows.length,as)],v:=.own id,up:=[(id,{ fz:=false,ap:=true,ty:=e,sz:=te.sz,d:=.v m,tl:=[] })],gr:=[id] }
  | none=>{ v:=.own id,up:=[(id,{ fz:=false,ap:=true,ty:=e,sz:=te.sz,d:=lit0,tl:=rows })],gr:=[id] }
def sSrc (t t':Nat) (x:SV):Option Src:=
 match T.get t,T.get t' with
 | some _,some tf'=>match x with
  | .atm q=>if tf'.str then some (.st q) else if t == t' then some (.at q []) else none
  | .own b=>if t == t' then (match getB σ.H b with
   | some k=>if k.tl.isEmpty then some (.at k.d [b]) else if sNil k.d then some (.rows k.tl [b]) else none
   | none=>none) else none
  | .nils=>if t == t' then some (.rows [] []) else none
  | _=>none
 | _,_=>none
def sAppend (t t':Nat) (s x:SV):Option SR:=
 match T.get t with
 | none=>none
 | some tf=>match tf.elem with
 | none=>none
 | some e=>match T.get e with
 | none=>none
 | some te=>match te.zero with
 | none=>none
 | some z=>if te.ti&&z.cells.size == te.sz&&Nat.blt 0 te.sz then
  match sSrc T σ t t' x with
  | none=>none
  | some src=>match s with
   | .nils=>match src with
    | .rows (r::l) rb=>if Nat.ble ((r::l).length*te.bt) 140737488355328&&Nat.ble (r::l).length 9223372036854775807&&(r::l).all (fun r=>r.length == te.sz&&r.all SV.one && !SV.hasL (· == id) r) then
     some { sRows m id e te (r::l) with rb:=rb } else none
    | .at q rb=>some { em:=[(.app1 te.sz te.bt,[q])],v:=.own id,up:=[(id,{ fz:=false,ap:=true,ty:=e,sz:=te.sz,d:=.v m,tl:=[] })],gr:=[id],rb }
    | _=>none
   | .own b=>match getB σ.H b with
    | some k=>if !k.fz&&k.ap&&k.ty == e&&k.sz == te.sz then
     match src with
     | .at q rb=>if k.tl.isEmpty then some { em:=[(.app te.sz te.bt,[k.d,q])],v:=.own b,up:=[(b,{ k with d:=.v m })],gr:=[b],rb:=b::rb } else none
     | .st q=>if k.tl.isEmpty&&te.sz == 1 then some { em:=[(.appS te.bt,[k.d,q])],v:=.own b,up:=[(b,{ k with d:=.v m })],gr:=[b],rb:=[b] } else none
     | .rows l rb=>if l.all (fun r=>r.length == te.sz&&r.all SV.one && !SV.hasL (· == b) r) then
      (match atoms l.flatten with
      | some as=>if k.tl.isEmpty then some { em:=[(.mk te.sz l.length,as),(.app te.sz te.bt,[k.d,.v m])],v:=.own b,up:=[(b,{ k with d:=.v (m+1) })],gr:=[b],rb:=b::rb } else none
      | none=>if k.tl.isEmpty then some { em:=[(.room te.bt l.length,[k.d])],v:=.own b,up:=[(b,{ k with tl:=l })],gr:=[b],rb:=b::rb } else none)
      else none
     else none
    | none=>none
   | _=>none
  else none
def isBytes (T:Tab) (tf:TF):Bool:=match tf.elem with
 | some e=>(match T.get e with|some te=>decide (te.int=some .u8)&&te.sz == 1|none=>false)
 | none=>false
def sLo (ev:Operand→SV):Option Operand→Option SA
 | none=>some (.c (.int .i64 0))
 | some x=>(ev x).atom
def symOp (op:Op):Option SR:=
 let ev:=sev SG σ
 match op with
 | .move x | .assign x=>some { v:=ev x }
 | .pick c a b=>match ev c with
  | .atm (.c (.bool t))=>some { v:=if t then ev a else ev b }
  | .atm q=>match ev a,ev b with
   | .atm x,.atm y=>some { em:=[(.pick,[q,x,y])],v:=.atm (.v m) }
   | _,_=>none
  | _=>none
 | .alloc t=>match T.get t with
  | some tf=>match tf.zero with
   | some z=>if (sVal z).cells.all SV.one then some { v:=.ptr id 0 0,up:=[(id,{ fz:=false,ap:=false,ty:=t,sz:=(sVal z).cells.length,d:=lit0,tl:=[(sVal z).cells] })],gr:=[id] } else none
   | none=>none
  | none=>none
 | .box t x=>if (ev x).cells.all SV.one && !SV.hasL (· == id) (ev x).cells then some { v:=.ptr id 0 0,up:=[(id,{ fz:=false,ap:=false,ty:=t,sz:=(ev x).cells.length,d:=lit0,tl:=[(ev x).cells] })],gr:=[id] } else none
 | .build t parts=>match T.get t with
  | some tf=>match tf.zero,tf.place with
   | some z,some pl=>match sVal z with
    | .agg cs0=>match sFill pl cs0 (parts.toList.map fun p=>(p.1,ev p.2)) with
     | some cs=>some { v:=.agg cs }
     | none=>none
    | _=>none
   | _,_=>none
  | none=>none
 | .load t a=>match T.get t with
  | some tf=>if tf.ti&&tf.tu then sLoad σ m tf (ev a) else none
  | none=>none
 | .store t a x=>match T.get t with
  | some tf=>if tf.ti then sStore σ m tf (ev x) (ev a) else none
  | none=>none
 | .nilCheck x=>match ev x with
  | .ptr b i j=>match getB σ.H b with|some _=>some { v:=.ptr b i j,rb:=[b] }|none=>none
  | .px b y j=>match getB σ.H b with|some _=>some { v:=.px b y j,rb:=[b] }|none=>none
  | .ep cs=>some { v:=.ep cs }
  | _=>none
 | .binOp op t x y _=>match T.get t,ev x,ev y with
  | some tf,.atm p,.atm q=>some { em:=[(.bin op tf.bool,[p,q])],v:=.atm (.v m) }
  | some tf,.agg ps,.agg qs=>match tf.eqn,atoms ps,atoms qs with
   | some n,some as,some bs=>if as.length == n&&bs.length == n&&Nat.blt n 9000 then (match op with
    | .eql=>some { em:=[(.eqs false n,as++bs)],v:=.atm (.v m) }
    | .neq=>some { em:=[(.eqs true n,as++bs)],v:=.atm (.v m) }
    | _=>none) else none
   | _,_,_=>none
  | _,_,_=>none
 | .unOp op _ x=>match ev x with
  | .atm p=>some { em:=[(.un op,[p])],v:=.atm (.v m) }
  | _=>none
 | .convert s t x=>match T.get s,T.get t with
  | some ts,some tt=>if ts.tu then (match ev x with
   | .atm p=>(match tt.int with
    | some k=>some { em:=[(.conv k,[p])],v:=.atm (.v m) }
    | none=>if tt.str then (if ts.str then some { em:=[(.convS,[p])],v:=.atm (.v m) } else if isBytes T ts then some { em:=[(.toS,[p])],v:=.atm (.v m) } else none)
     else if ts.str&&isBytes T tt then (match tt.elem with
      | some e=>some { em:=[(.toB,[p])],v:=.own id,up:=[(id,{ fz:=false,ap:=false,ty:=e,sz:=1,d:=.v m,tl:=[] })],gr:=[id] }
      | none=>none)
     else none)
   | .own b=>(match getB σ.H b with
    | some k=>if tt.int.isNone&&tt.str&&isBytes T ts&&k.tl.isEmpty then some { em:=[(.toS,[k.d])],v:=.atm (.v m),rb:=[b] } else none
    | none=>none)
   | _=>none) else none
  | _,_=>none
 | .makeFunc (.func f) first caps=>some { v:=.clo f (first.toList.map ev) (caps.toList.map ev) }
 | .slice t x lo hi none=>match T.get t,ev x with
  | some tf,.atm q=>match sLo ev lo with
   | some l=>if tf.str then (match hi with
    | none=>some { em:=[(.lenS,[q]),(.subS,[q,l,.v m])],v:=.atm (.v (m+1)) }
    | some h=>match (ev h).atom with
     | some h=>some { em:=[(.subS,[q,l,h])],v:=.atm (.v m) }
     | none=>none)
    else (match tf.elem with
     | some e=>match T.get e with
      | some te=>if te.ti&&Nat.blt 0 te.sz then (match hi with
       | none=>some { em:=[(.lenL,[q]),(.subL te.sz,[q,l,.v m])],v:=.atm (.v (m+1)) }
       | some h=>match (ev h).atom with
        | some h=>some { em:=[(.subL te.sz,[q,l,h])],v:=.atm (.v m) }
        | none=>none) else none
      | none=>none
     | none=>none)
   | none=>none
  | _,_=>none
 | .fieldAddr s x f=>match T.get s with
  | some tf=>match tf.flds[f]? with
   | some (o,ft)=>match T.get ft with
    | some t2=>if t2.ti && !(t2.sz == 0) then (match ev x with
     | .ptr b i j=>match getB σ.H b with|some _=>some { v:=.ptr b i (j+o),rb:=[b] }|none=>none
     | .px b y j=>match getB σ.H b with|some _=>some { v:=.px b y (j+o),rb:=[b] }|none=>none
     | .ep cs=>some { v:=.ep (cs.drop o) }
     | _=>none) else none
    | none=>none
   | none=>none
  | none=>none
 | .field s x f=>match T.get s with
  | some tf=>match tf.flds[f]? with
   | some (o,ft)=>match T.get ft with
    | some t2=>if t2.ti&&t2.tu then (match ev x with
     | .agg cs=>if t2.agg then (if Nat.ble (o+t2.sz) cs.length then some { v:=.agg ((cs.drop o).take t2.sz) } else none)
      else (match cs[o]? with|some c=>some { v:=c }|none=>none)
     | _=>none) else none
    | none=>none
   | none=>none
  | none=>none
 | .indexAddr t x ix=>match T.get t,ev ix with
  | some tf,.atm p=>match tf.elem with
   | some e=>match T.get e with
    | some te=>if te.ti then (match ev x with
     | .own b=>match getB σ.H b with
      | some k=>if k.sz == te.sz then (if sNil k.d && !k.tl.isEmpty then (match p with
       | .c (.int _ n)=>if decide (0≤n)&&decide (n<k.tl.length) then some { v:=.ptr b n.toNat 0,rb:=[b] } else none
       | _=>none)
       else if k.tl.isEmpty then some { em:=[(.chk,[k.d,p])],v:=.px b p 0,rb:=[b] } else none) else none
      | none=>none
     | .atm q=>some { em:=[(.row te.sz,[q,p])],v:=.ep (vars m te.sz) }
     | _=>none) else none
    | none=>none
   | none=>match tf.arr with
    | some (len,e)=>match T.get e,p with
     | some te,.c (.int _ n)=>if te.ti&&decide (0≤n)&&decide (n<len) then (match ev x with
      | .ptr b i j=>match getB σ.H b with|some _=>some { v:=.ptr b i (j+n.toNat*te.sz),rb:=[b] }|none=>none
      | .ep cs=>some { v:=.ep (cs.drop (n.toNat*te.sz)) }
      | _=>none) else none
     | _,_=>none
    | none=>none
  | _,_=>none
 | .index t x ix=>match T.get t,ev ix with
  | some tf,.atm p=>match ev x with
   | .atm q=>if tf.str then some { em:=[(.idxS,[q,p])],v:=.atm (.v m) } else none
   | .agg cs=>match tf.arr with
    | some (len,e)=>match T.get e with
     | some te=>if te.ti&&te.tu && !te.agg&&te.sz == 1&&cs.length == len then (match atoms cs with
      | some as=>some { em:=[(.sel len,p::as)],v:=.atm (.v m) }
      | none=>none) else none
     | none=>none
    | none=>none
   | _=>none
  | _,_=>none
 | .extract x i=>match ev x with
  | .tup cs=>match cs[i]? with|some c=>some { v:=c }|none=>none
  | _=>none
 | .buildSlice t len parts=>match T.get t with
  | some tf=>match tf.elem with
   | some e=>match T.get e with
    | some te=>match te.zero with
     | some z=>if te.ti&&z.cells.size == te.sz&&Nat.blt 0 te.sz&&Nat.ble (len*te.sz) 16777216&&decide (parts.toList.map (·.1)=List.range len)&&parts.toList.all (fun p=>(ev p.2).cells.length == te.sz&&(ev p.2).cells.all SV.one && !SV.hasL (· == id) (ev p.2).cells) then
      some (sRows m id e te (parts.toList.map fun p=>(ev p.2).cells)) else none
     | none=>none
    | none=>none
   | none=>none
  | none=>none
 | .makeSlice t l c=>match T.get t with
  | some tf=>match tf.elem with
   | some e=>match T.get e with
    | some te=>match te.zero with
     | some z=>match ev l,ev c with
      | .atm p,.atm q=>if p.beq q&&te.ti&&(sVal z).cells.all SV.one&&(sVal z).cells.length == te.sz&&Nat.blt 0 te.sz then
       (match (sVal z).cells with
       | [.atm (.c d)]=>some { em:=[(.mkL te.bt [d],[p])],v:=.own id,up:=[(id,{ fz:=false,ap:=true,ty:=e,sz:=te.sz,d:=.v m,tl:=[] })],gr:=[id] }
       | _=>none) else none
      | _,_=>none
     | none=>none
    | none=>none
   | none=>none
  | none=>none
 | .call { callee:=.builtin .len,args,argTypes }=>match args.toList,argTypes.toList with
  | [x],[t]=>match T.get t with
   | some tf=>match ev x with
    | .atm q=>if tf.str then some { em:=[(.lenS,[q])],v:=.atm (.v m) } else if tf.elem.isSome then some { em:=[(.lenL,[q])],v:=.atm (.v m) } else none
    | .nils=>if tf.elem.isSome then some { v:=.atm (.c (.int .i64 0)) } else none
    | .own b=>match getB σ.H b with
     | some k=>if tf.elem.isSome then (if k.tl.isEmpty then some { em:=[(.lenL,[k.d])],v:=.atm (.v m),rb:=[b] } else if sNil k.d then some { v:=.atm (.c (.int .i64 k.tl.length)),rb:=[b] } else none) else none
     | none=>none
    | _=>none
   | none=>none
  | _,_=>none
 | .call { callee:=.builtin .min,args,.. }=>match args.toList with
  | [x,y]=>match ev x,ev y with
   | .atm p,.atm q=>some { em:=[(.min,[p,q])],v:=.atm (.v m) }
   | _,_=>none
  | _=>none
 | .call { callee:=.builtin .max,args,.. }=>match args.toList with
  | [x,y]=>match ev x,ev y with
   | .atm p,.atm q=>some { em:=[(.max,[p,q])],v:=.atm (.v m) }
   | _,_=>none
  | _=>none
 | .call { callee:=.builtin .append,args,argTypes }=>match args.toList,argTypes.toList with
  | [s,x],[t,t']=>sAppend T σ m id t t' (ev s) (ev x)
  | _,_=>none
 | _=>none
end ops
def SR.ok (m:Nat) (r:SR):Bool:=r.v.ok m&&r.up.all (fun p=>p.2.ok m)
def PO.okP:PO→Bool
 | .mkL _ z=>z.all D.one
 | _=>true
def okEm:Nat→List (PO × List SA)→Bool
 | _,[]=>true
 | m,p::l=>p.1.okP&&p.2.all (SA.ok m)&&okEm (m+p.1.nout) l
def outsOf:List (PO × List SA)→Nat
 | []=>0
 | p::l=>p.1.nout+outsOf l
def setBs (H:List (Option SB)):List (Nat × SB)→List (Option SB)
 | []=>H
 | p::r=>setBs (setB H p.1 p.2) r
def putS (tm:List SV):Option Nat→SV→List SV
 | some d,v=>setS tm d v
 | none,_=>tm
def inL (l:List Nat) (b:Nat):Bool:=l.any (· == b)
def SS.upd (σ:SS) (d:Option Nat) (r:SR):SS:=
 let σ1:=match r.gr with|[]=>σ|_=>σ.kill (inL r.gr)
 { σ1 with tm:=putS σ1.tm d r.v,H:=setBs σ1.H r.up }
end Am

namespace Am
open Go
inductive IR where
 | op (p:PO) (args:List SA) (k:IR)
 | ite (c:SA) (a b:IR)
 | isf (c:SA) (f:FuncId) (a b:IR)
 | call (i n:Nat) (sc:Bool) (sl:List Nat) (args:List SA) (k:IR)
 | letj (n:Nat) (body rest:IR)
 | loop (n:Nat) (init:List SA) (body:IR)
 | jump (j:Nat) (args:List SA)
 | ret (args:List SA)
 | fail
abbrev PF:=List D→Option (List D)
def iter (F:PF→PF):Nat→PF
 | 0=>fun _=>none
 | n+1=>F (iter F n)
open Classical in
noncomputable def lim (f:Nat→Option (List D)):Option (List D):=if h:∃ n,(f n).isSome=true then f h.choose else none
noncomputable def fixO (F:PF→PF):PF:=fun a=>lim fun n=>iter F n a
def D.isSl:D→Bool
 | .sl _=>true
 | _=>false
def isFn (f:FuncId):D→Bool
 | .raw (.func (.func g) ⟨[]⟩ ⟨[]⟩)=>f == g
 | _=>false
noncomputable def den (run:Nat→PF):IR→Env→List PF→Option (List D)
 | .op p args k,e,J=>match p.eval (args.map (·.val e)) with|some outs=>den run k (e++outs) J|none=>none
 | .ite c a b,e,J=>match c.val e with | .bool true=>den run a e J | .bool false=>den run b e J|_=>none
 | .isf c f a b,e,J=>if isFn f (c.val e) then den run a e J else den run b e J
 | .call i n sc sl args k,e,J=>match run i (args.map (·.val e)) with
  | some outs=>if outs.length=n∧(sc=true→outs.all D.scal=true)∧sl.all (fun j=>(outs.getD j dfl).isSl)=true then den run k (e++outs) J else none
  | none=>none
 | .letj _ body rest,e,J=>den run body e (J++[fun vs=>den run rest (e++vs) J])
 | .loop _ init body,e,J=>fixO (fun L vs=>den run body (e++vs) (J++[L])) (init.map (·.val e))
 | .jump j args,e,J=>match J[j]? with|some f=>f (args.map (·.val e))|none=>none
 | .ret args,e,_=>some (args.map (·.val e))
 | .fail,_,_=>none
structure Gh where
 cell:Option (Nat × Nat × Nat)
 slot:Nat
 ty:Nat
 sz:Nat
structure JN where
 n:Nat
 tm:List (Nat × SV)
 H:List (Nat × SB)
 nx:Nat
 gh:List Gh
inductive Ann where
 | z
 | s (j:Option JN) (a b:Ann)
 | c (a b:Ann)
 | b (a:Ann)
 | l (j:JN) (a:Ann)
 | f (l:List Nat) (a:Ann)
 | g (l:List (FuncId × Nat)) (a:Ann)
mutual
def SV.shift (m:Nat) (B:Nat→Nat):SV→SV
 | .atm (.v x)=>.atm (.v (m+x))
 | .agg cs=>.agg (SV.shiftL m B cs)
 | .tup cs=>.tup (SV.shiftL m B cs)
 | .own b=>.own (B b)
 | .ptr b i j=>.ptr (B b) i j
 | .px b (.v x) j=>.px (B b) (.v (m+x)) j
 | .px b (.c d) j=>.px (B b) (.c d) j
 | .ep cs=>.ep (cs.map fun | .v x=>.v (m+x) | .c d=>.c d)
 | .clo f a b=>.clo f (SV.shiftL m B a) (SV.shiftL m B b)
 | v=>v
def SV.shiftL (m:Nat) (B:Nat→Nat):List SV→List SV
 | []=>[]
 | c::cs=>c.shift m B::SV.shiftL m B cs
end
def SA.shift (m:Nat):SA→SA
 | .v x=>.v (m+x)
 | .c d=>.c d
def SB.shift (m:Nat) (B:Nat→Nat) (b:SB):SB:={ b with d:=b.d.shift m,tl:=b.tl.map (SV.shiftL m B) }
def setTm (tm:List SV):List (Nat × SV)→List SV
 | []=>tm
 | p::r=>setTm (setS tm p.1 p.2) r
def takeB:Nat→List (Option SB)→List (Option SB)
 | 0,_=>[]
 | _+1,[]=>[]
 | n+1,a::l=>a::takeB n l
def JN.state (j:JN) (σ:SS) (m:Nat):SS:=
 { tm:=setTm σ.tm (j.tm.map fun p=>(p.1,p.2.shift m id)),H:=setBs (takeB j.nx σ.H) (j.H.map fun p=>(p.1,p.2.shift m id)),nx:=j.nx,n:=σ.n }
def mtA (base:Nat) (A:List SA):SA→SA→Bool
 | .v x,q=>if Nat.blt x base then (SA.v x).beq q else (match A[x-base]? with|some p=>p.beq q|none=>false)
 | .c d,q=>(SA.c d).beq q
def mtAs (base:Nat) (A:List SA):List SA→List SA→Bool
 | [],[]=>true
 | a::l,b::l'=>mtA base A a b&&mtAs base A l l'
 | _,_=>false
def mtOwn (base:Nat) (A:List SA) (H:List (Option SB)) (p:SA) (b:Nat):Bool:=match getB H b with
 | some k=>k.tl.isEmpty&&mtA base A p k.d
 | none=>false
mutual
def mt (base:Nat) (A:List SA) (B:Nat→Nat) (H:List (Option SB)) (jk nl:Bool) (fz:Nat→Bool):SV→SV→Bool
 | .atm p,.atm q=>mtA base A p q
 | .atm p,.own b=>fz b&&mtOwn base A H p b
 | .atm p,.nils=>nl&&mtA base A p lit0
 | .atm p,.clo f [] []=>nl&&mtA base A p (.c (.raw (.func (.func f) #[] #[])))
 | .nils,.nils=>true
 | .agg a,.agg b=>mtL base A B H jk nl fz a b
 | .tup a,.tup b=>mtL base A B H jk nl fz a b
 | .own b,.own c=>B b == c
 | .ptr b i j,.ptr c k l=>B b == c&&i == k&&j == l
 | .px b x j,.px c y l=>B b == c&&mtA base A x y&&j == l
 | .ep a,.ep b=>mtAs base A a b
 | .clo f a b,.clo g c d=>f == g&&mtL base A B H jk nl fz a c&&mtL base A B H jk nl fz b d
 | .junk,_=>jk
 | _,_=>false
def mtL (base:Nat) (A:List SA) (B:Nat→Nat) (H:List (Option SB)) (jk nl:Bool) (fz:Nat→Bool):List SV→List SV→Bool
 | [],[]=>true
 | a::l,b::l'=>mt base A B H jk nl fz a b&&mtL base A B H jk nl fz l l'
 | _,_=>false
end
def mtR (base:Nat) (A:List SA) (B:Nat→Nat) (H:List (Option SB)) (jk nl:Bool) (fz:Nat→Bool):List (List SV)→List (List SV)→Bool
 | [],[]=>true
 | a::l,b::l'=>mtL base A B H jk nl fz a b&&mtR base A B H jk nl fz l l'
 | _,_=>false
mutual
def fzS:SV→SV→List Nat
 | .atm _,.own b=>[b]
 | .agg a,.agg b=>fzL a b
 | .tup a,.tup b=>fzL a b
 | .clo _ a b,.clo _ c d=>fzL a c++fzL b d
 | _,_=>[]
def fzL:List SV→List SV→List Nat
 | a::l,b::l'=>fzS a b++fzL l l'
 | _,_=>[]
end
def fzR:List (List SV)→List (List SV)→List Nat
 | a::l,b::l'=>fzL a b++fzR l l'
 | _,_=>[]
abbrev CS:=List (Option SA) × List (Option Nat)
def setO' {α:Type}:List (Option α)→Nat→α→List (Option α)
 | [],0,v=>[some v]
 | [],d+1,v=>none::setO' [] d v
 | none::l,0,v=>some v::l
 | some a::l,0,_=>some a::l
 | a::l,d+1,v=>a::setO' l d v
def clA (base:Nat) (p q:SA) (s:CS):CS:=match p with
 | .v x=>if Nat.blt x base then s else (setO' s.1 (x-base) q,s.2)
 | .c _=>s
mutual
def cl (base:Nat) (H:List (Option SB)):SV→SV→CS→CS
 | .atm p,.atm q,s=>clA base p q s
 | .atm p,.own b,s=>match getB H b with|some k=>clA base p k.d s|none=>s
 | .atm p,.nils,s=>clA base p lit0 s
 | .atm p,.clo f [] [],s=>clA base p (.c (.raw (.func (.func f) #[] #[]))) s
 | .agg a,.agg b,s=>clL base H a b s
 | .tup a,.tup b,s=>clL base H a b s
 | .own b,.own c,s=>(s.1,setO' s.2 b c)
 | .ptr b _ _,.ptr c _ _,s=>(s.1,setO' s.2 b c)
 | .px b x _,.px c y _,s=>clA base x y (s.1,setO' s.2 b c)
 | .ep a,.ep b,s=>(a.zip b).foldl (fun s p=>clA base p.1 p.2 s) s
 | .clo _ a b,.clo _ c d,s=>clL base H b d (clL base H a c s)
 | _,_,s=>s
def clL (base:Nat) (H:List (Option SB)):List SV→List SV→CS→CS
 | a::l,b::l',s=>clL base H l l' (cl base H a b s)
 | _,_,s=>s
end
def clB (base:Nat) (H:List (Option SB)) (p k:SB) (s:CS):CS:=(p.tl.zip k.tl).foldl (fun s r=>clL base H r.1 r.2 s) (clA base p.d k.d s)
def clBs (base:Nat) (H:List (Option SB)):List (Option SB)→Nat→CS→CS
 | [],_,s=>s
 | p::l,i,s=>clBs base H l (i+1) (match p,s.2.getD i none with
  | some p,some b=>(match getB H b with|some k=>clB base H p k s|none=>s)
  | _,_=>s)
def allSome {α:Type}:List (Option α)→Option (List α)
 | []=>some []
 | some a::l=>(allSome l).map (a :: ·)
 | none::_=>none
def SB.like (p k:SB):Bool:=p.ap == k.ap&&p.ty == k.ty&&p.sz == k.sz
structure Sig where
 f:FuncId
 nin:Nat
 Hin:List SB
 args:List SV
 nout:Nat
 Hout:List SB
 res:SV
 ns:Bool:=false
 kp:List Nat:=[]
structure GI where
 T:Tab
 SG:SGlob
 sigs:List Sig
 sig:Sig
 fn:Func
 fns:List FuncId
 mixed:Bool
 backs:List (FuncId × Nat):=[]
def substTop (x:Nat) (b:Bool):SV→SV
 | .atm (.v y)=>if x == y then .atm (.c (.bool b)) else .atm (.v y)
 | v=>v
def SB.substB (x:Nat) (b:Bool) (k:SB):SB:={ k with tl:=k.tl.map (·.map (substTop x b)) }
def SS.subst (σ:SS) (x:Nat) (b:Bool):SS:={ σ with tm:=σ.tm.map (substTop x b),H:=σ.H.map (·.map (SB.substB x b)) }
def substFn (x:Nat) (f:FuncId):SV→SV
 | .atm (.v y)=>if x == y then .atm (.c (.raw (.func (.func f) #[] #[]))) else .atm (.v y)
 | v=>v
def SS.substF (σ:SS) (x:Nat) (f:FuncId):SS:={ σ with tm:=σ.tm.map (substFn x f) }
def chainF (x:Nat) (g:FuncId→Option IR):List FuncId→Option IR
 | []=>some .fail
 | f::l=>match g f,chainF x g l with
  | some p,some q=>some (.isf (.v x) f p q)
  | none,q=>q
  | _,none=>none
def dynV:SV→Option Nat
 | .atm (.v x)=>some x
 | _=>none
def substInt (x c:Nat):SV→SV
 | .atm (.v y)=>if x == y then .atm (.c (.int .i64 c)) else .atm (.v y)
 | v=>v
def SS.substI (σ:SS) (x c:Nat):SS:={ σ with tm:=σ.tm.map (substInt x c) }
def chainI (x:Nat):Nat→(Nat→Nat→Option IR)→List Nat→Option IR
 | _,_,[]=>some .fail
 | m,g,c::l=>match g c (m+1) with
  | some p=>match chainI x (m+1) g l with
   | some q=>some (.op (.bin .eql false) [.v x,.c (.int .i64 c)] (.ite (.v m) p q))
   | none=>none
  | none=>chainI x m g l
def ixV (T:Tab) (ev:Operand→SV):Op→Option (Nat × Nat)
 | .indexAddr t _ ix=>match T.get t,ev ix with
  | some tf,.atm (.v x)=>match tf.arr with|some (len,_)=>some (x,len)|none=>none
  | _,_=>none
 | _=>none
def oob (T:Tab) (ev:Operand→SV):Op→Bool
 | .indexAddr t _ ix=>match T.get t,ev ix with
  | some tf,.atm (.c (.int _ n))=>match tf.arr with|some (len,_)=>!(decide (0≤n)&&decide (n<len))|none=>false
  | _,_=>false
 | _=>false
def pinS (p:Nat→Bool):Nat→List (Option SB)→List (Option SB)
 | _,[]=>[]
 | i,none::l=>none::pinS p (i+1) l
 | i,some k::l=>some { k with fz:=k.fz || p i }::pinS p (i+1) l
def oneC:SA→Bool
 | .v _=>true
 | .c d=>d.one
def boxRow:List (List SV)→Option (List SA)
 | [row]=>match atoms row with
  | some as=>if as.all oneC then some as else none
  | none=>none
 | _=>none
def boxAt (H:List (Option SB)) (b i j:Nat):Option (List SA):=match getB H b with
 | some k=>if i == 0&&j == 0&&sNil k.d then boxRow k.tl else none
 | none=>none
def SS.frz (σ:SS) (t:Nat):SS:=match getS σ.tm t with
 | .own b=>match getB σ.H b with
  | some k=>if k.tl.isEmpty then { σ with tm:=setS σ.tm t (.atm k.d),H:=pinS (· == b) 0 σ.H } else σ
  | none=>σ
 | .ptr b i j=>match boxAt σ.H b i j with
  | some as=>{ σ with tm:=setS σ.tm t (.ep as),H:=pinS (· == b) 0 σ.H }
  | none=>σ
 | _=>σ
def flushRow (H:List (Option SB)) (b:Nat):List SV→Option (List SA × List Nat)
 | []=>some ([],[])
 | .atm q::l=>match flushRow H b l with|some r=>some (q::r.1,r.2)|none=>none
 | .nils::l=>match flushRow H b l with|some r=>some (lit0::r.1,r.2)|none=>none
 | .clo f [] []::l=>match flushRow H b l with|some r=>some (.c (.raw (.func (.func f) #[] #[]))::r.1,r.2)|none=>none
 | .own c::l=>if c == b then none else match getB H c,flushRow H b l with
  | some k,some r=>if k.tl.isEmpty then some (k.d::r.1,c::r.2) else none
  | _,_=>none
 | _=>none
def flush1 (σ:SS) (m b:Nat):Option (List (PO × List SA) × SS):=match getB σ.H b with
 | some k=>if k.ap && !k.tl.isEmpty&&k.tl.all (fun r=>r.length == k.sz) then (match flushRow σ.H b k.tl.flatten with
  | some (as,ps)=>if as.all (SA.ok m) then
   (let H:=pinS (inL ps) 0 σ.H
   if sNil k.d then some ([(.mk k.sz k.tl.length,as)],{ σ with H:=setB H b { k with d:=.v m,tl:=[] } })
   else some ([(.mk k.sz k.tl.length,as),(.cat,[k.d,.v m])],{ σ with H:=setB H b { k with d:=.v (m+1),tl:=[] } })) else none
  | none=>none) else none
 | none=>none
def ghost1 (σ:SS) (g:Gh):Option SS:=
 let k:SB:={ fz:=false,ap:=true,ty:=g.ty,sz:=g.sz,d:=lit0,tl:=[] }
 let p:Nat→Bool:=(· == σ.nx)
 let σ':=σ.kill p
 match g.cell with
 | none=>match getS σ.tm g.slot with
  | .nils=>some { σ' with tm:=setS σ'.tm g.slot (.own σ.nx),H:=setB σ'.H σ.nx k,nx:=σ.nx+1 }
  | _=>none
 | some (b,i,j)=>if b == σ.nx then none else match getB σ'.H b with
  | some q=>if sNil q.d then (match q.tl[i]? with
   | some r=>(match r[j]? with
    | some .nils=>some { σ' with H:=setB (setB σ'.H σ.nx k) b { q with tl:=q.tl.set i (r.set j (.own σ.nx)) },nx:=σ.nx+1 }
    | _=>none)
   | none=>none) else none
  | none=>none
def ghosts (σ:SS):List Gh→Option SS
 | []=>some σ
 | g::l=>match ghost1 σ g with|some σ'=>ghosts σ' l|none=>none
def stops:Op→Bool
 | .makeInterface _ _=>true
 | _=>false
inductive Fr where
 | seq (c:Code) (ann:Ann)
 | block (id:Nat)
 | jmp (lv base n:Nat) (σ:SS)
 | scope
 | rnd (kk lv base n:Nat) (σ:SS)
def emit:List (PO × List SA)→IR→IR
 | [],k=>k
 | p::l,k=>.op p.1 p.2 (emit l k)
def waiting:Nat→List (Option SB)→List Nat
 | _,[]=>[]
 | i,some k::l=>if k.ap && !k.tl.isEmpty then i::waiting (i+1) l else waiting (i+1) l
 | i,none::l=>waiting (i+1) l
def flushes (σ:SS) (m:Nat):List Nat→Option (List (PO × List SA) × SS × Nat)
 | []=>some ([],σ,m)
 | b::l=>match flush1 σ m b with
  | some (em,σ')=>match flushes σ' (m+outsOf em) l with
   | some (em',r)=>some (em++em',r)
   | none=>none
  | none=>none
def pinsFor (σ2 σ1:SS):List Nat:=
 fzL σ2.tm σ1.tm++((σ2.H.zip σ1.H).flatMap fun p=>match p with|(some a,some b)=>fzR a.tl b.tl|_=>[]) ++
  (List.range σ2.H.length).filter fun i=>match getB σ2.H i,getB σ1.H i with|some a,some b=>a.fz && !b.fz|_,_=>false
def mtBlk (base:Nat) (A:List SA) (H:List (Option SB)) (ps:List Nat) (i:Nat):Option SB→Option SB→Bool
 | some p,some k=>p.like k&&p.fz == (k.fz || inL ps i)&&mtA base A p.d k.d&&mtR base A id H true true (inL ps) p.tl k.tl
 | none,none=>true
 | _,_=>false
def mtSlots (base:Nat) (A:List SA) (H:List (Option SB)) (ps:List Nat):List SV→List SV→Bool
 | [],_=>true
 | .junk::l,[]=>mtSlots base A H ps l []
 | a::l,b::l'=>mt base A id H true true (inL ps) a b&&mtSlots base A H ps l l'
 | _,_=>false
def idB (n:Nat):List (Option Nat):=(List.range n).map some
def enter (k base n:Nat) (σ2:SS) (m:Nat) (σ1:SS):Option (List SA):=
 let c:=clBs base σ1.H σ2.H 0 (clL base σ1.H σ2.tm σ1.tm (List.replicate n none,idB σ2.nx))
 match allSome c.1 with
 | none=>none
 | some A=>
  let ps:=pinsFor σ2 σ1
  if A.length == n&&A.all (SA.ok m)&&Nat.ble σ2.nx σ1.nx&&σ2.n == σ1.n&&Nat.ble base m&&mtSlots base A σ1.H ps σ2.tm σ1.tm&&(List.range σ2.nx).all (fun i=>mtBlk base A σ1.H ps i (getB σ2.H i) (getB σ1.H i))&&Nat.ble σ2.H.length σ2.nx
   && !(σ2.tm.any (SV.has fun b=>Nat.ble σ2.nx b))&&σ2.H.all (fun b=>match b with|some k=>k.tl.all (fun r=>!SV.hasL (fun b=>Nat.ble σ2.nx b) r)|none=>true)
   && Nat.ble k σ2.nx then some A else none
def SS.okB (m:Nat) (σ:SS):Bool:=σ.tm.all (SV.ok m)&&σ.H.all (fun b=>match b with|some k=>k.ok m|none=>true)
def sCallee:SV→Option (FuncId × List SV × List SV)
 | .atm (.c (.raw (.func (.func f) ⟨[]⟩ ⟨[]⟩)))=>some (f,[],[])
 | .clo f a b=>some (f,a,b)
 | _=>none
def ownIds1:SV→List Nat
 | .own b=>[b]
 | _=>[]
def ownIds:List SV→List Nat
 | []=>[]
 | .agg cs::l=>cs.flatMap ownIds1++ownIds l
 | v::l=>ownIds1 v++ownIds l
def nil1:SV→Bool
 | .nils=>true
 | _=>false
def hasNil:List SV→Bool
 | []=>false
 | .agg cs::l=>cs.any nil1 || hasNil l
 | v::l=>nil1 v || hasNil l
def mtArg1 (A:List SA) (B:Nat→Nat) (H:List (Option SB)) (keep:Bool) (p q:SV):Bool:=match q with
 | .own b=>if keep then mt 0 A B H false false (fun _=>false) p q else (match p with | .atm p=>mtOwn 0 A H p b|_=>false)
 | .nils=>if keep then mt 0 A B H false false (fun _=>false) p q else (match p with | .atm p=>mtA 0 A p lit0|_=>false)
 | q=>mt 0 A B H false false (fun _=>false) p q
def mtArgL (A:List SA) (B:Nat→Nat) (H:List (Option SB)) (keep:Bool):List SV→List SV→Bool
 | [],[]=>true
 | p::l,q::l'=>mtArg1 A B H keep p q&&mtArgL A B H keep l l'
 | _,_=>false
def mtArg (A:List SA) (B:Nat→Nat) (H:List (Option SB)) (keep:Bool) (p q:SV):Bool:=match p,q with
 | .agg ps,.agg qs=>mtArgL A B H keep ps qs
 | p,q=>mtArg1 A B H keep p q
def mtArgs (A:List SA) (B:Nat→Nat) (H:List (Option SB)) (keep:Bool):List SV→List SV→Bool
 | [],[]=>true
 | p::l,q::l'=>mtArg A B H keep p q&&mtArgs A B H keep l l'
 | _,_=>false
def below (n:Nat) (l:List SV):Bool:=!SV.hasL (fun b=>Nat.ble n b) l
def rowsBelow (n:Nat) (k:SB):Bool:=k.tl.all (below n)
structure SC where
 A:List SA
 B:List Nat
 fz:List Nat
 keep:Bool
def mtHin (A:List SA) (B:List Nat) (H:List (Option SB)) (fz:List Nat):List SB→List Nat→Bool
 | [],[]=>true
 | p::l,b::l'=>(match getB H b with
  | some k=>p.like k&&p.fz == (k.fz || inL fz b)&&mtA 0 A p.d k.d&&mtR 0 A (fun i=>B.getD i 0) H false false (fun _=>false) p.tl k.tl
  | none=>false)&&mtHin A B H fz l l'
 | _,_=>false
def nodupB:List Nat→Bool
 | []=>true
 | b::l=>!inL l b&&nodupB l
def symCall (sg:Sig) (H:List (Option SB)) (id m:Nat) (avs:List SV):Option SC:=
 let c:=clBs 0 H (sg.Hin.map some) 0 (clL 0 H sg.args avs (List.replicate sg.nin none,List.replicate sg.Hin.length none))
 match allSome c.1,allSome c.2 with
 | some A,some B=>
  let keep:=!(!(ownIds avs).isEmpty&&(ownIds sg.args).isEmpty) && !(hasNil avs && !hasNil sg.args)
  let fz:=if keep then [] else ownIds avs
  if A.length == sg.nin&&A.all (SA.ok m)&&B.length == sg.Hin.length&&nodupB (B++[id])&&mtArgs A (fun i=>B.getD i 0) H keep sg.args avs&&mtHin A B H fz sg.Hin B
   && below sg.Hin.length sg.args&&sg.Hin.all (rowsBelow sg.Hin.length)&&(getB H id).isNone then some { A,B,fz,keep } else none
 | _,_=>none
def findSig (H:List (Option SB)) (id m:Nat) (f:FuncId) (avs:List SV):Nat→List Sig→Option (Nat × Sig × SC)
 | _,[]=>none
 | i,sg::l=>if sg.f == f then (match symCall sg H id m avs with
  | some c=>some (i,sg,c)
  | none=>findSig H id m f avs (i+1) l) else findSig H id m f avs (i+1) l
def flat0:SV→Bool
 | .atm (.v _)=>true
 | _=>false
def flat1:SV→Bool
 | .agg cs=>cs.all flat0
 | v=>flat0 v
def SV.flat:SV→Bool
 | .tup cs=>cs.all flat1
 | v=>flat1 v
def sameLen (a b:List SB):Nat→Bool:=fun i=>match a[i]?,b[i]? with
 | some x,some y=>sNil x.d&&sNil y.d&&x.tl.length == y.tl.length
 | _,_=>false
def keepsLen (sg:Sig) (i:Nat):Bool:=inL sg.kp i || sameLen sg.Hin sg.Hout i
def callState (sg:Sig) (c:SC) (sc:Bool) (σ:SS) (m id:Nat):SR × SS:=
 let B:Nat→Nat:=fun i=>c.B.getD i id
 let H:=if sc then σ.H else pinS (inL c.fz) 0 σ.H
 let gr:=id::((List.range c.B.length).filter fun i=>!keepsLen sg i).map B
 ({ v:=sg.res.shift m B,up:=(List.range sg.Hout.length).map fun i=>(B i,(sg.Hout.getD i ⟨true,false,0,0,lit0,[]⟩).shift m B),gr,rb:=c.fz++c.B },{ σ with H })
def nxUp (nx:Nat):List (Nat × SB)→Nat
 | []=>nx
 | p::r=>nxUp (max nx (p.1+1)) r
inductive Work where
 | code (c:Code) (ann:Ann)
 | ops (l:List SO)
 | opsD (ops:Array Oper) (l:List SO) (id:Nat) (log:Log)
 | norm
 | exit (id:Nat)
 | ret
def sWanted (σ:SS):Option (Option Nat × Bool)→Option (Option Bool × SA)
 | none=>some (some true,lit0)
 | some (none,_)=>some (some false,lit0)
 | some (some d,want)=>match getS σ.tm d with
  | .atm (.c (.bool b))=>some (some (b == want),lit0)
  | .atm (.c (.raw (.tuple _)))=>some (some false,lit0)
  | .atm (.v x)=>some (none,.v x)
  | _=>none
def dstS (n:Nat):Option Nat→Bool
 | some d=>Nat.blt d n
 | none=>true
def undefS:SV:=.atm (.c (.raw (.tuple #[])))
def preFrz (σ:SS):Op→SS
 | .slice _ (.tmp t) _ _ none=>match getS σ.tm t with | .own _=>σ.frz t|_=>σ
 | _=>σ
def sResult (T:Tab) (σ:SS) (m:Nat):ResultVar→Option SV
 | .tmp t=>some (getS σ.tm t)
 | .cell a ty=>match T.get ty with
  | some tf=>if tf.ti&&tf.tu then (match sLoad σ m tf (getS σ.tm a) with
   | some r=>if r.em.isEmpty then some r.v else none
   | none=>none) else none
  | none=>none
def sResults (T:Tab) (σ:SS) (m:Nat):List ResultVar→Option (List SV)
 | []=>some []
 | x::xs=>match sResult T σ m x,sResults T σ m xs with
  | some a,some l=>some (a::l)
  | _,_=>none
def tupS:List SV→SV
 | [x]=>x
 | xs=>.tup xs
def resLS:SV→List SV
 | .tup l=>l
 | x=>[x]
def isTup:SV→Bool
 | .tup _=>true
 | _=>false
def finish (gi:GI) (σ:SS) (m:Nat):Option (List SA):=
 match sResults gi.T σ m gi.fn.results.toList with
 | none=>none
 | some l=>
  let r0:=tupS l
  let c:=clBs 0 σ.H (gi.sig.Hout.map some) 0 (cl 0 σ.H gi.sig.res r0 (List.replicate gi.sig.nout none,idB gi.sig.Hout.length))
  match allSome c.1 with
  | none=>none
  | some A=>
   let keep:=!(!(ownIds (resLS r0)).isEmpty&&(ownIds (resLS gi.sig.res)).isEmpty) && !(hasNil (resLS r0) && !hasNil (resLS gi.sig.res))
   let fz:=if keep then [] else ownIds (resLS r0)
   if A.length == gi.sig.nout&&A.all (SA.ok m)&&isTup r0 == isTup gi.sig.res&&mtArgs A (fun i=>(List.range gi.sig.Hout.length).getD i 0) σ.H keep (resLS gi.sig.res) (resLS r0)&&mtHin A (List.range gi.sig.Hout.length) σ.H fz gi.sig.Hout (List.range gi.sig.Hout.length)
    && below gi.sig.Hout.length (resLS gi.sig.res)&&gi.sig.Hout.all (rowsBelow gi.sig.Hout.length)&&Nat.ble gi.sig.Hin.length gi.sig.Hout.length then some A else none
def stepOp (gi:GI) (σ:SS) (m id:Nat) (op:Op):Option SR:=match symOp gi.T gi.SG σ m id op with
 | some r=>if okEm m r.em&&r.ok (m+outsOf r.em) then some r else none
 | none=>none
def slOuts (sg:Sig):List Nat:=sg.Hout.filterMap fun k=>match k.d with | .v x=>some x|_=>none
inductive CallR where
 | at (i:Nat) (sc:Bool) (sl:List Nat) (args:List SA) (n:Nat) (r:SR) (σ:SS) (pins:List Nat)
def stepCall (gi:GI) (σ:SS) (m id:Nat) (f:FuncId) (avs:List SV):Option CallR:=match findSig σ.H id m f avs 0 gi.sigs with
 | some (i,sg,c)=>
  let sc:=sg.Hin.isEmpty&&sg.Hout.isEmpty&&(sg.res.flat && !sg.ns) && !c.fz.isEmpty
  let okH:=below sg.Hout.length [sg.res]&&sg.Hout.all (fun k=>rowsBelow sg.Hout.length k&&(match k.d with | .v _=>true|q=>sNil q))&&c.fz.all (fun b=>Nat.blt b id)
  let p:=callState sg c sc σ m id
  if okH&&Nat.ble sg.Hin.length sg.Hout.length&&Nat.ble sg.Hout.length (sg.Hin.length+1)&&p.1.ok (m+sg.nout) then some (.at i sc (slOuts sg) c.A sg.nout p.1 p.2 (if sc then [] else c.fz)) else none
 | none=>none
def avsOf (ev:Operand→SV) (args:Array Operand) (first caps:List SV):List SV:=first++args.toList.map ev++caps
def boxB (H:List (Option SB)) (b:Nat):Bool:=match getB H b with|some k=>sNil k.d|none=>false
def stabV (H:List (Option SB)):SV→Bool
 | .atm _=>true
 | .nils=>true
 | .ptr b _ _=>boxB H b
 | .clo _ [] [.ptr b _ _]=>boxB H b
 | _=>false
def stabS (H:List (Option SB)) (v:SV):SV:=if stabV H v then v else .junk
def sameBox (HL H:List (Option SB)) (b:Nat):Bool:=match getB HL b,getB H b with
 | some k,some k'=>sNil k.d&&sNil k'.d&&k.tl.length == k'.tl.length
 | _,_=>false
def restV (HL H:List (Option SB)):SV→SV
 | .atm a=>.atm a
 | .nils=>.nils
 | .ptr b i j=>if sameBox HL H b then .ptr b i j else .junk
 | _=>.junk
def SS.rest (σ2 σ:SS):SS:={ σ with tm:=σ2.tm.map (restV σ2.H σ.H),n:=σ2.n }
def fullB (σ:SS):Bool:=(List.range σ.nx).all fun b=>(getB σ.H b).isSome
def straightC:Code→Bool
 | .region ..=>true
 | .seq a b=>straightC a&&straightC b
 | _=>false
def backOf:List (FuncId × Nat)→FuncId→Option Nat
 | [],_=>none
 | p::l,f=>if p.1 == f then some p.2 else backOf l f
def backAt (gi:GI) (σ:SS) (g:Operand):Option (Nat × Nat × SA):=match sev gi.SG σ g with
 | .clo f [] [.ptr b 0 0]=>match backOf gi.backs f,getB σ.H b with
  | some sz,some k=>match k.tl with
   | [[.atm q]]=>if sNil k.d then some (b,sz,q) else none
   | _=>none
  | _,_=>none
 | _=>none
def fzAt (σ:SS) (b:Nat):Bool:=match getB σ.H b with|some k=>k.fz|none=>false
def backEm (m sz:Nat) (q:SA):List (PO × List SA):=[(.lenL,[q]),(.subL sz,[q,.c (.int .i64 0),.v m]),(.room 1 0,[q]),(.bin .sub false,[.v m,.c (.int .i64 1)])]
def backL (j:JN) (σ0:SS) (m2:Nat):SS:=
 let σJ:=j.state σ0 m2
 { σJ with tm:=σJ.tm.map (stabS σJ.H) }
def backR' (σL:SS) (ps:List Nat) (idx:SA) (cs:List SA):SS:=match ps with
 | [p0,p1]=>{ σL with tm:=setS (setS σL.tm p0 (.atm idx)) p1 (.agg (cs.map .atm)) }
 | _=>σL
def notQ (ev:Operand→SV) (o:SO):Option Nat:=match o.g,o.op with
 | some _,.unOp .not _ x=>(match ev x with | .atm (.v q)=>some q|_=>none)
 | _,_=>none
def foldN (ev:Operand→SV) (op:Op) (m:Nat) (σ:SS):SS:=match op with
 | .unOp .not _ x=>(match ev x with | .atm (.c (.bool b))=>σ.subst m (!b)|_=>σ)
 | _=>σ
def nrmA {α:Type} (x:SA) (k:SA→α):α:=match x with
 | .v y=>k (.v y)
 | .c (.bool true)=>k (.c (.bool true))
 | .c (.bool false)=>k (.c (.bool false))
 | .c d=>k (.c d)
def nrmV {α:Type} (v:SV) (k:SV→α):α:=match v with
 | .atm x=>nrmA x fun x=>k (.atm x)
 | .nils=>k .nils
 | .agg cs=>k (.agg cs)
 | .tup cs=>k (.tup cs)
 | .own b=>k (.own b)
 | .ptr b i j=>k (.ptr b i j)
 | .px b x j=>k (.px b x j)
 | .ep cs=>k (.ep cs)
 | .clo f a b=>k (.clo f a b)
 | .junk=>k .junk
def nrmL {α:Type}:List SV→(List SV→α)→α
 | [],k=>k []
 | a::l,k=>nrmV a fun a=>nrmL l fun l=>k (a::l)
def nrmR {α:Type}:List (List SV)→(List (List SV)→α)→α
 | [],k=>k []
 | a::l,k=>nrmL a fun a=>nrmR l fun l=>k (a::l)
def nrmH {α:Type}:List (Option SB)→(List (Option SB)→α)→α
 | [],k=>k []
 | none::l,k=>nrmH l fun l=>k (none::l)
 | some b::l,k=>nrmA b.d fun d=>nrmR b.tl fun tl=>nrmH l fun l=>k (some ⟨b.fz,b.ap,b.ty,b.sz,d,tl⟩::l)
def nrmS {α:Type} (σ:SS) (k:SS→α):α:=nrmL σ.tm fun tm=>nrmH σ.H fun H=>k ⟨tm,H,σ.nx,σ.n⟩
theorem qobb {α:Type} (x:SA) (k:SA→α):nrmA x k=k x:=by
 unfold nrmA;split<;>rfl
theorem qtsb {α:Type} (v:SV) (k:SV→α):nrmV v k=k v:=by
 cases v<;>simp only[nrmV,qobb]
theorem qps {α:Type}:∀ (l:List SV) (k:List SV→α),nrmL l k=k l
 | [],k=>rfl
 | a::l,k=>by simp only[nrmL,qtsb,qps l]
theorem qebb {α:Type}:∀ (l:List (List SV)) (k:List (List SV)→α),nrmR l k=k l
 | [],k=>rfl
 | a::l,k=>by simp only[nrmR,qps,qebb l]
theorem qis {α:Type}:∀ (l:List (Option SB)) (k:List (Option SB)→α),nrmH l k=k l
 | [],k=>rfl
 | none::l,k=>by simp only[nrmH,qis l]
 | some b::l,k=>by simp only[nrmH,qobb,qebb,qis l]
theorem qgs {α:Type} (σ:SS) (k:SS→α):nrmS σ k=k σ:=by
 simp only[nrmS,qps,qis]
def gen (gi:GI):Nat→Nat→Work→SS→Nat→Nat→List Fr→Option IR
 | _,0,_,_,_,_,_=>none
 | kk,n+1,.code c ann,σ,m,jd,fr=>match c with
  | .skip=>gen gi kk n .norm σ m jd fr
  | .label _=>gen gi kk n .norm σ m jd fr
  | .region _ ops false=>gen gi kk n (.ops (slimL ops)) σ m jd fr
  | .region _ ops true=>if gi.mixed then gen gi kk n (.opsD ops (slimL ops) σ.nx []) σ m jd fr else none
  | .seq a b=>match ann with
   | .s none x y=>gen gi kk n (.code a x) σ m jd (.seq b y::fr)
   | .s (some j) x y=>
    let σJ:=j.state σ m
    if σJ.okB (m+j.n) then (match gen gi kk n (.code a x) σ m (jd+1) (.jmp jd m j.n σJ::fr),gen gi kk n (.code b y) σJ (m+j.n) jd fr with
    | some p,some q=>some (.letj j.n p q)
    | _,_=>none) else none
   | .z=>gen gi kk n (.code a .z) σ m jd (.seq b .z::fr)
   | _=>none
  | .cond c a b=>
   let (x,y):=match ann with | .c x y=>(x,y)|_=>(.z,.z)
   match sev gi.SG σ c with
   | .atm (.c (.bool true))=>gen gi kk n (.code a x) σ m jd fr
   | .atm (.c (.bool false))=>gen gi kk n (.code b y) σ m jd fr
   | .atm (.v q)=>if Nat.blt q m then (match nrmS (σ.subst q true) fun σ=>gen gi kk n (.code a x) σ m jd fr,nrmS (σ.subst q false) fun σ=>gen gi kk n (.code b y) σ m jd fr with
    | some p,some r=>some (.ite (.v q) p r)
    | _,_=>none) else none
   | _=>none
  | .block id b=>gen gi kk n (.code b (match ann with | .b x=>x|_=>.z)) σ m jd (.block id::fr)
  | .loop b=>match ann with
   | .l j x=>match flushes σ m (waiting 0 σ.H) with
    | some (em,σ0,m0)=>match ghosts σ0 j.gh with
     | some σ1=>
      let σL:=j.state σ1 m0
      if σL.okB (m0+j.n) then (match enter kk m0 j.n σL m0 σ1,gen gi kk n (.code b x) σL (m0+j.n) (jd+1) (.jmp jd m0 j.n σL::fr) with
      | some A,some p=>some (emit em (.loop j.n A p))
      | _,_=>none) else none
     | none=>none
    | none=>none
   | _=>none
  | .exit id=>gen gi kk n (.exit id) σ m jd fr
  | .ret=>gen gi kk n .ret σ m jd fr
  | .scope b=>gen gi kk n (.code b ann) σ m jd (.scope::fr)
  | .rangeFunc g ps as bd=>match ann with
   | .l j x=>match backAt gi σ g with
    | some (b,_,_)=>match flushes { σ with H:=pinS (· == b) 0 σ.H } m (waiting 0 σ.H) with
     | some (em,σ0,m0)=>
      let σL:=backL j σ0 (m0+3)
      match backAt gi σL g with
      | some (b',sz,q)=>
       let idx:=SA.v (m0+3+j.n)
       if fzAt σL b'&&SA.ok m0 q&&σL.okB (m0+3+j.n)&&fullB σL&&noRange as&&noRange bd&&straightC as&&ps.toList.all (fun p=>Nat.blt p σL.n)&&ps.size == 2&&σL.tm.all (SV.ok (m0+3)) then
        (match enter kk (m0+3) j.n σL (m0+3) σ0,gen gi σL.nx n (.code (.seq as bd) x) (backR' σL ps.toList idx (vars (m0+3+j.n+2) sz)) (m0+3+j.n+2+sz) (jd+1) (.rnd kk jd (m0+3) j.n σL::fr),gen gi kk n .norm σL (m0+3+j.n+2) (jd+1) fr with
        | some A,some p,some r=>some (emit em (emit (backEm m0 sz q) (.loop (j.n+1) (A++[.v (m0+2)]) (.op (.bin .geq false) [idx,.c (.int .i64 0)] (.ite (.v (m0+3+j.n+1)) (.op (.row sz) [q,idx] p) r)))))
        | _,_,_=>none)
       else none
      | none=>none
     | none=>none
    | none=>none
   | _=>none
  | _=>none
 | kk,n+1,.ops l,σ,m,jd,fr=>match l with
  | []=>gen gi kk n .norm σ m jd fr
  | o::rest=>if dstS σ.n o.dst then (match sWanted σ o.g with
   | some (none,.v x)=>if Nat.blt x m then (match nrmS (σ.subst x true) fun σ=>gen gi kk n (.ops l) σ m jd fr,nrmS (σ.subst x false) fun σ=>gen gi kk n (.ops l) σ m jd fr with
    | some p,some r=>some (.ite (.v x) p r)
    | _,_=>none) else none
   | some (some false,_)=>gen gi kk n (.ops rest) { σ with tm:=putS σ.tm o.dst undefS } m jd fr
   | some (some true,_)=>(match notQ (sev gi.SG σ) o with
    | some q=>if Nat.blt q m then (match nrmS (σ.subst q true) fun σ=>gen gi kk n (.ops l) σ m jd fr,nrmS (σ.subst q false) fun σ=>gen gi kk n (.ops l) σ m jd fr with
     | some p,some r=>some (.ite (.v q) p r)
     | _,_=>none) else none
    | none=>(match o.op with
    | .call { callee:=.value c,args,argTypes:=_ }=>
     (match sCallee (sev gi.SG σ c) with
     | some (f,first,caps)=>(match stepCall gi σ m σ.nx f (avsOf (sev gi.SG σ) args first caps) with
      | some (.at i sc sl A k r σ1 _)=>(match gen gi kk n (.ops rest) { σ1.upd o.dst r with nx:=nxUp σ1.nx r.up } (m+k) jd fr with
       | some p=>some (.call i k sc sl A p)
       | none=>none)
      | none=>none)
     | none=>(match dynV (sev gi.SG σ c) with
      | some x=>if gi.fns.isEmpty then none else chainF x (fun f=>gen gi kk n (.ops (o::rest)) (σ.substF x f) m jd fr) gi.fns
      | none=>none))
    | op=>
     let σ:=preFrz σ op
     (match sWanted σ o.g,stepOp gi σ m σ.nx op with
     | some (some true,_),some r=>
      let σ1:={ σ.upd o.dst r with nx:=nxUp σ.nx r.up }
      (match flushes σ1 (m+outsOf r.em) (waiting 0 σ1.H) with
      | some (em,σ2,m2)=>(match gen gi kk n (.ops rest) (foldN (sev gi.SG σ) op m σ2) m2 jd fr with
       | some p=>some (emit r.em (emit em p))
       | none=>none)
      | none=>none)
     | _,_=>if stops op || oob gi.T (sev gi.SG σ) op then some .fail else (match ixV gi.T (sev gi.SG σ) op with
      | some (x,len)=>if Nat.blt x m then chainI x m (fun c m'=>gen gi kk n (.ops (o::rest)) (σ.substI x c) m' jd fr) (List.range len) else none
      | none=>none))))
   | _=>none) else none
 | kk,n+1,.opsD ops l id log,σ,m,jd,fr=>match l with
  | []=>
   let m':=(List.range (id+1)).foldl (fun k i=>match getB σ.H i with|some _=>Nat.max k (i+1)|none=>k) σ.nx
   if okD ops σ.nx log m' then (match flushes { σ with nx:=m' } m (waiting 0 σ.H) with
    | some (em,σ2,m2)=>(match gen gi kk n .norm σ2 m2 jd fr with
     | some p=>some (emit em p)
     | none=>none)
    | none=>none) else none
  | o::rest=>if dstS σ.n o.dst then (match sWanted σ o.g with
   | some (none,.v x)=>if Nat.blt x m then (match nrmS (σ.subst x true) fun σ=>gen gi kk n (.opsD ops l id log) σ m jd fr,nrmS (σ.subst x false) fun σ=>gen gi kk n (.opsD ops l id log) σ m jd fr with
    | some p,some r=>some (.ite (.v x) p r)
    | _,_=>none) else none
   | some (some false,_)=>gen gi kk n (.opsD ops rest (id+1) (log++[([],[])])) { σ with tm:=putS σ.tm o.dst undefS } m jd fr
   | some (some true,_)=>(match o.op with
    | .call { callee:=.value c,args,argTypes:=_ }=>
     (match sCallee (sev gi.SG σ c) with
     | some (f,first,caps)=>(match stepCall gi σ m id f (avsOf (sev gi.SG σ) args first caps) with
      | some (.at i sc sl A k r σ1 pins)=>
       (match gen gi kk n (.opsD ops rest (id+1) (log++[(pins++r.up.map (·.1),r.rb)])) (σ1.upd o.dst r) (m+k) jd fr with
       | some p=>some (.call i k sc sl A p)
       | none=>none)
      | none=>none)
     | none=>(match dynV (sev gi.SG σ c) with
      | some x=>if gi.fns.isEmpty then none else chainF x (fun f=>gen gi kk n (.opsD ops (o::rest) id log) (σ.substF x f) m jd fr) gi.fns
      | none=>none))
    | op=>
     (match stepOp gi σ m id op with
     | some r=>(match gen gi kk n (.opsD ops rest (id+1) (log++[(r.up.map (·.1),r.rb)])) (σ.upd o.dst r) (m+outsOf r.em) jd fr with
      | some p=>some (emit r.em p)
      | none=>none)
     | none=>if oob gi.T (sev gi.SG σ) op then some .fail else (match ixV gi.T (sev gi.SG σ) op with
      | some (x,len)=>if Nat.blt x m then chainI x m (fun c m'=>gen gi kk n (.opsD ops (o::rest) id log) (σ.substI x c) m' jd fr) (List.range len) else none
      | none=>none)))
   | _=>none) else none
 | kk,n+1,.norm,σ,m,jd,fr=>match fr with
  | []=>(finish gi σ m).map .ret
  | .seq c ann::fr=>(match ann with
   | .f l a=>gen gi kk n (.code c a) (l.foldl SS.frz σ) m jd fr
   | _=>gen gi kk n (.code c ann) σ m jd fr)
  | .block _::fr=>gen gi kk n .norm σ m jd fr
  | .scope::fr=>gen gi kk n .norm σ m jd fr
  | .rnd _ lv base k σ2::_=>match flushes σ m (waiting 0 σ.H) with
   | some (em,σ1,m1)=>match enter kk base k { σ2 with tm:=[] } m1 σ1 with
    | some A=>some (emit em (.op (.bin .sub false) [.v (base+k),.c (.int .i64 1)] (.jump lv (A++[.v m1]))))
    | none=>none
   | none=>none
  | .jmp lv base k σ2::_=>match flushes σ m (waiting 0 σ.H) with
   | some (em,σ1,m1)=>match enter kk base k σ2 m1 σ1 with
    | some A=>some (emit em (.jump lv A))
    | none=>none
   | none=>none
 | kk,n+1,.exit id,σ,m,jd,fr=>match fr with
  | []=>none
  | .seq _ _::fr=>gen gi kk n (.exit id) σ m jd fr
  | .scope::fr=>gen gi kk n (.exit id) σ m jd fr
  | .rnd kko _ _ _ σ2::fr=>gen gi kko n (.exit id) (σ2.rest σ) m jd fr
  | .block i::fr=>if i == id then gen gi kk n .norm σ m jd fr else gen gi kk n (.exit id) σ m jd fr
  | .jmp _ _ _ _::fr=>gen gi kk n (.exit id) σ m jd fr
 | kk,n+1,.ret,σ,m,jd,fr=>match fr with
  | []=>(finish gi σ m).map .ret
  | .rnd kko _ _ _ σ2::fr=>gen gi kko n .ret (σ2.rest σ) m jd fr
  | _::fr=>gen gi kk n .ret σ m jd fr
end Am

namespace Am
open Go
theorem qme {f:Nat→Option (List D)} {r:List D} (h:lim f=some r):∃ n,f n=some r:=by
 unfold lim at h
 split at h
 · exact ⟨_,h⟩
 · simp at h
theorem qgx {f:Nat→Option (List D)} {r:List D} (hm:∀ n m,n≤m→∀ r,f n=some r→f m=some r) {n:Nat} (h:f n=some r):lim f=some r:=by
 unfold lim;have hex:∃ n,(f n).isSome=true:=⟨n,by simp[h]⟩
 rw[dif_pos hex];obtain ⟨r',hr'⟩:=Option.isSome_iff_exists.1 hex.choose_spec;rw[hr'];have h1:=hm _ (max n hex.choose) (Nat.le_max_left _ _) _ h;have h2:=hm _ (max n hex.choose) (Nat.le_max_right n _) _ hr';rw[h1] at h2;exact h2.symm
def PLe (f g:PF):Prop:=∀ a r,f a=some r→g a=some r
theorem PLe.refl (f:PF):PLe f f:=fun _ _ h=>h
theorem PLe.trans {f g h:PF} (a:PLe f g) (b:PLe g h):PLe f h:=fun x r hx=>b x r (a x r hx)
def JLe (J J':List PF):Prop:=J.length=J'.length∧∀ (i:Nat) (f f':PF),J[i]? = some f→J'[i]? = some f'→PLe f f'
theorem JLe.refl (J:List PF):JLe J J:=⟨rfl,fun i f f' h h'=>by rw[h] at h';cases h';exact .refl _⟩
theorem JLe.snoc {J J':List PF} {f f':PF} (h:JLe J J') (hf:PLe f f'):JLe (J++[f]) (J' ++ [f']):=by
 obtain ⟨h1,h2⟩:=h;refine ⟨by simp[h1],fun i g g' hg hg'=>?_⟩
 by_cases hi:i<J.length
 · rw[List.getElem?_append_left hi] at hg;rw[List.getElem?_append_left (by omega)] at hg'
   exact h2 i g g' hg hg'
 · rw[List.getElem?_append_right (by omega)] at hg
   rw[List.getElem?_append_right (by omega)] at hg'
   rw[h1] at hg
   by_cases h0:i-J'.length=0
   · simp[h0] at hg hg';subst hg;subst hg';exact hf
   · rw[List.getElem?_eq_none (by simp;omega)] at hg;simp at hg
theorem qvs {F F':PF→PF} (h:∀ L L',PLe L L'→PLe (F L) (F' L')):∀ n,PLe (iter F n) (iter F' n)
 | 0=>fun _ _ h=>by simp[iter] at h
 | n+1=>h _ _ (qvs h n)
theorem qsq {F:PF→PF} (h:∀ L L',PLe L L'→PLe (F L) (F L')):∀ n,PLe (iter F n) (iter F (n+1))
 | 0=>fun _ _ h=>by simp[iter] at h
 | n+1=>h _ _ (qsq h n)
theorem qar {F:PF→PF} (h:∀ L L',PLe L L'→PLe (F L) (F L')) {n m:Nat} (hm:n≤m):PLe (iter F n) (iter F m):=by
 induction hm with
 | refl=>exact .refl _
 | step _ ih=>exact ih.trans (qsq h _)
theorem qgk {F:PF→PF} (h:∀ L L',PLe L L'→PLe (F L) (F L')) {n:Nat} {a r:List D} (hn:iter F n a=some r):fixO F a=some r:=
 qgx (fun _ _ hnm r hr=>qar h hnm _ _ hr) hn
theorem qwtb {F F':PF→PF} (h:∀ L L',PLe L L'→PLe (F L) (F' L')) (h':∀ L L',PLe L L'→PLe (F' L) (F' L')):PLe (fixO F) (fixO F'):=by
 intro a r hr;obtain ⟨n,hn⟩:=qme hr;exact qgk h' (qvs h n _ _ hn)
theorem qpg:∀ (ir:IR) {run run':Nat→PF} {e:Env} {J J':List PF},(∀ i,PLe (run i) (run' i))→JLe J J'→∀ r,den run ir e J=some r→den run' ir e J' = some r:=by
 intro ir
 induction ir with
 | op p args k ih=>
  intro run run' e J J' hr hJ r h;simp only[den] at h ⊢
  split at h
  · rename_i outs ho;exact ih hr hJ r h
  · simp at h
 | ite c a b iha ihb=>
  intro run run' e J J' hr hJ r h;simp only[den] at h ⊢
  split at h
  · exact iha hr hJ r h
  · exact ihb hr hJ r h
  · simp at h
 | isf c f a b iha ihb=>
  intro run run' e J J' hr hJ r h;simp only[den] at h ⊢
  split at h
  · rename_i hc;rw[if_pos hc];exact iha hr hJ r h
  · rename_i hc;rw[if_neg hc];exact ihb hr hJ r h
 | call i n sc sl args k ih=>
  intro run run' e J J' hr hJ r h;simp only[den] at h ⊢
  split at h
  · rename_i outs ho;rw[hr i _ _ ho];simp only
    split at h
    · rename_i hc;rw[if_pos hc];exact ih hr hJ r h
    · simp at h
  · simp at h
 | letj n body rest ihb ihr=>
  intro run run' e J J' hr hJ r h;simp only[den] at h ⊢;exact ihb hr (hJ.snoc fun vs r h=>ihr hr hJ r h) r h
 | loop n init body ih=>
  intro run run' e J J' hr hJ r h;simp only[den] at h ⊢;exact qwtb (F:=fun L vs=>den run body (e++vs) (J++[L])) (F':=fun L vs=>den run' body (e++vs) (J' ++ [L])) (fun L L' hL vs r h=>ih hr (hJ.snoc hL) r h) (fun L L' hL vs r h=>ih (fun i=>.refl _) ((JLe.refl _).snoc hL) r h) _ _ h
 | jump j args=>
  intro run run' e J J' hr hJ r h;simp only[den] at h ⊢
  split at h
  · rename_i f hf;have hlt:=(List.getElem?_eq_some_iff.1 hf).1;have hlt':j<J'.length:=by rw[← hJ.1];exact hlt
    rw[List.getElem?_eq_getElem hlt'];exact hJ.2 j f _ hf (List.getElem?_eq_getElem hlt') _ _ h
  · simp at h
 | ret args=>intro run run' e J J' hr hJ r h;simpa only[den] using h
 | fail=>intro run run' e J J' hr hJ r h;simp[den] at h
theorem qhh (run:Nat→PF) (body:IR) (e:Env) (J:List PF):∀ L L',PLe L L'→PLe (fun vs=>den run body (e++vs) (J++[L])) (fun vs=>den run body (e++vs) (J++[L'])):=
 fun _ _ hL _ r h=>qpg body (fun _=>.refl _) ((JLe.refl _).snoc hL) r h
structure Chain (R:Nat→Nat→PF) (Js:Nat→List PF) (Rw:Nat→PF) (Jw:List PF):Prop where
 mR:∀ n m,n≤m→∀ i,PLe (R n i) (R m i)
 mJ:∀ n m,n≤m→JLe (Js n) (Js m)
 cR:∀ i a r,Rw i a=some r→∃ n,R n i a=some r
 len:∀ n,(Js n).length=Jw.length
 cJ:∀ (i:Nat) (f:PF),Jw[i]? = some f→∀ (a r:List D),f a=some r→∃ (n:Nat) (g:PF),(Js n)[i]? = some g∧g a=some r
theorem Chain.snoc {R:Nat→Nat→PF} {Js:Nat→List PF} {Rw:Nat→PF} {Jw:List PF} (h:Chain R Js Rw Jw) {f:Nat→PF} {fw:PF} (hf:∀ n m,n≤m→PLe (f n) (f m)) (hw:∀ a r,fw a=some r→∃ n,f n a=some r) :
 Chain R (fun n=>Js n++[f n]) Rw (Jw++[fw]) where
 mR:=h.mR
 mJ n m hnm:=(h.mJ n m hnm).snoc (hf n m hnm)
 cR:=h.cR
 len n:=by simp[h.len]
 cJ i g hg a r hr:=by
  by_cases hi:i<Jw.length
  · rw[List.getElem?_append_left hi] at hg;obtain ⟨n,g',h1,h2⟩:=h.cJ i g hg a r hr;exact ⟨n,g',by rw[List.getElem?_append_left (by rw[h.len];exact hi)];exact h1,h2⟩
  · rw[List.getElem?_append_right (by omega)] at hg
    by_cases h0:i-Jw.length=0
    · simp[h0] at hg;subst hg;obtain ⟨n,hn⟩:=hw a r hr;exact ⟨n,f n,by rw[List.getElem?_append_right (by rw[h.len];omega)];rw[h.len,h0];rfl,hn⟩
    · rw[List.getElem?_eq_none (by simp;omega)] at hg;simp at hg
theorem qox:∀ (ir:IR) {R:Nat→Nat→PF} {Js:Nat→List PF} {Rw:Nat→PF} {Jw:List PF} {e:Env},Chain R Js Rw Jw→∀ r,den Rw ir e Jw=some r→∃ n,den (R n) ir e (Js n)=some r:=by
 intro ir
 induction ir with
 | op p args k ih=>
  intro R Js Rw Jw e hc r h;simp only[den] at h ⊢
  split at h
  · rename_i outs ho;obtain ⟨n,hn⟩:=ih hc r h;exact ⟨n,by simpa only[ho] using hn⟩
  · simp at h
 | ite c a b iha ihb=>
  intro R Js Rw Jw e hc r h;simp only[den] at h ⊢
  split at h
  · exact iha hc r h
  · exact ihb hc r h
  · simp at h
 | isf c f a b iha ihb=>
  intro R Js Rw Jw e hc r h;simp only[den] at h ⊢
  split at h
  · rename_i hcc;obtain ⟨n,hn⟩:=iha hc r h;exact ⟨n,by rw[if_pos hcc];exact hn⟩
  · rename_i hcc;obtain ⟨n,hn⟩:=ihb hc r h;exact ⟨n,by rw[if_neg hcc];exact hn⟩
 | call i n sc sl args k ih=>
  intro R Js Rw Jw e hc r h;simp only[den] at h ⊢
  split at h
  · rename_i outs ho
    split at h
    · rename_i hcc;obtain ⟨n1,hn1⟩:=hc.cR i _ _ ho;obtain ⟨n2,hn2⟩:=ih hc r h;refine ⟨max n1 n2,?_⟩;rw[hc.mR _ _ (Nat.le_max_left n1 n2) i _ _ hn1];simp only;rw[if_pos hcc];exact qpg k (hc.mR _ _ (Nat.le_max_right n1 n2)) (hc.mJ _ _ (Nat.le_max_right n1 n2)) r hn2
    · simp at h
  · simp at h
 | letj n body rest ihb ihr=>
  intro R Js Rw Jw e hc r h;simp only[den] at h ⊢;exact ihb (hc.snoc (f:=fun n vs=>den (R n) rest (e++vs) (Js n)) (fun n m hnm a r h=>qpg rest (hc.mR n m hnm) (hc.mJ n m hnm) r h) (fun a r h=>ihr hc r h)) r h
 | loop n init body ih=>
  intro R Js Rw Jw e hc r h;simp only[den] at h ⊢;obtain ⟨k,hk⟩:=qme h
  have key:∀ k a r,iter (fun L vs=>den Rw body (e++vs) (Jw++[L])) k a=some r→∃ n,iter (fun L vs=>den (R n) body (e++vs) (Js n++[L])) k a=some r:=by
   intro k
   induction k with
   | zero=>intro a r h;simp[iter] at h
   | succ k ihk=>
    intro a r h;simp only[iter] at h ⊢;exact ih (hc.snoc (f:=fun n=>iter (fun L vs=>den (R n) body (e++vs) (Js n++[L])) k) (fun n m hnm=>qvs (F:=fun L vs=>den (R n) body (e++vs) (Js n++[L])) (F':=fun L vs=>den (R m) body (e++vs) (Js m++[L])) (fun L L' hL vs r h=>qpg body (hc.mR n m hnm) ((hc.mJ n m hnm).snoc hL) r h) k) ihk) r h
  obtain ⟨n,hn⟩:=key k _ _ hk;exact ⟨n,qgk (qhh (R n) body e (Js n)) hn⟩
 | jump j args=>
  intro R Js Rw Jw e hc r h;simp only[den] at h ⊢
  split at h
  · rename_i f hf;obtain ⟨n,g,h1,h2⟩:=hc.cJ j f hf _ _ h;exact ⟨n,by rw[h1];exact h2⟩
  · simp at h
 | ret args=>intro R Js Rw Jw e hc r h;exact ⟨0,by simpa only[den] using h⟩
 | fail=>intro R Js Rw Jw e hc r h;simp[den] at h
inductive TE where
 | ir (x:IR)
 | ext (E:PF)
noncomputable def runN (tb:Nat→TE):Nat→Nat→PF
 | 0=>fun _ _=>none
 | n+1=>fun i=>match tb i with
  | .ir x=>fun a=>den (runN tb n) x a []
  | .ext E=>E
theorem qnhb (tb:Nat→TE):∀ n i,PLe (runN tb n i) (runN tb (n+1) i):=by
 intro n
 induction n with
 | zero=>intro i a r h;simp[runN] at h
 | succ n ih=>
  intro i a r h;simp only[runN] at h ⊢;cases hi:tb i with
  | ir x=>simp only[hi] at h ⊢;exact qpg x (ih) (.refl _) r h
  | ext E=>simp only[hi] at h ⊢;exact h
theorem qhq (tb:Nat→TE) {n m:Nat} (h:n≤m) (i:Nat):PLe (runN tb n i) (runN tb m i):=by
 induction h with
 | refl=>exact .refl _
 | step _ ih=>exact ih.trans (qnhb tb _ i)
noncomputable def run (tb:Nat→TE):Nat→PF:=fun i a=>lim fun n=>runN tb n i a
theorem qovb {tb:Nat→TE} {i:Nat} {a r:List D} (h:run tb i a=some r):∃ n,runN tb n i a=some r:=qme h
theorem qjw {tb:Nat→TE} {i n:Nat} {a r:List D} (h:runN tb n i a=some r):run tb i a=some r:=qgx (fun n m hnm r hr=>qhq tb hnm i a r hr) h
theorem qae {tb:Nat→TE} {i:Nat} {E:PF} (hi:tb i = .ext E) {a r:List D} (h:E a=some r):run tb i a=some r:=
 qjw (n:=1) (by simp only[runN,hi];exact h)
theorem qc {tb:Nat→TE} {i:Nat} {x:IR} (hi:tb i = .ir x) {a r:List D} (h:den (run tb) x a []=some r):run tb i a=some r:=by
 obtain ⟨n,hn⟩:=qox x (R:=runN tb) (Js:=fun _=>[]) (Rw:=run tb) (Jw:=[]) (e:=a) ⟨fun n m hnm i=>qhq tb hnm i,fun _ _ _=>.refl _,fun i a r h=>qovb h,fun _=>rfl,fun i f hf=>by simp at hf⟩ r h
 exact qjw (n:=n+1) (by simp only[runN,hi];exact hn)
theorem qipb {run:Nat→PF} {body:IR} {e:Env} {J:List PF} {a r:List D}
 (h:den run body (e++a) (J++[fixO fun L vs=>den run body (e++vs) (J++[L])])=some r):fixO (fun L vs=>den run body (e++vs) (J++[L])) a=some r:=by
 have hm:=qhh run body e J
 obtain ⟨n,hn⟩:=qox body (R:=fun _=>run) (Js:=fun n=>J++[iter (fun L vs=>den run body (e++vs) (J++[L])) n]) (Rw:=run) (Jw:=J++[fixO fun L vs=>den run body (e++vs) (J++[L])]) (e:=e++a)
  (by
   refine Chain.snoc (Js:=fun _=>J) ⟨fun _ _ _ _=>.refl _,fun _ _ _=>.refl _,fun i a r h=>⟨0,h⟩,fun _=>rfl,fun i f hf a r h=>⟨0,f,hf,h⟩⟩ (fun n m hnm=>qar hm hnm) (fun a r h=>qme h)) r h
 exact qgk hm (n:=n+1) hn
theorem PO.eval_len {p:PO} {args outs:List D} (h:p.eval args=some outs):outs.length=p.nout:=by
 have h1:∀ {x:Option D} {o:List D},one1 x=some o→o.length=1:=by
  intro x o h;unfold one1 at h;simp only[Option.map_eq_some_iff] at h;obtain ⟨_,_,rfl⟩:=h;rfl
 unfold PO.eval at h
 repeat' split at h
 all_goals first
  | (simp at h;done)
  | exact h1 h
  | (simp only[Option.some.injEq] at h;subst h;simp[PO.nout];done)
  | (simp only[Option.some.injEq] at h;subst h;simp_all [PO.nout];omega)
  | (simp only[Option.some.injEq] at h;subst h;simp_all [PO.nout];done)
  | (simp only[Option.map_eq_some_iff] at h;obtain ⟨_,_,rfl⟩:=h;rfl)
end Am
