/- The abstract machine and its reader: lemmas. -/
import Derived.Test.YtojkhlijbpmgpaaGreatAmOrc
set_option linter.unusedSimpArgs false
set_option linter.unusedVariables false
set_option linter.unusedSectionVars false
namespace Am
open Go
inductive SA where
 | v (x : Nat)
 | c (d : D)
inductive SV where
 | atm (x : SA)
 | nils
 | agg (cs : List SV)
 | tup (cs : List SV)
 | own (b : Nat)
 | ptr (b i j : Nat)
 | px (b : Nat) (x : SA) (j : Nat)
 | ep (cs : List SA)
 | clo (f : FuncId) (first caps : List SV)
 | junk
instance : Inhabited SA := ⟨.v 0⟩
instance : Inhabited SV := ⟨.junk⟩
structure SB where
 fz : Bool
 ap : Bool
 ty : TypeId
 sz : Nat
 d : SA
 tl : List (List SV)
structure SS where
 tm : List SV
 H : List (Option SB)
 nx : Nat
 n : Nat
abbrev Env := List D
def dfl : D := .bool false
def SA.val (e : Env) : SA → D
 | .v x => e.getD x dfl
 | .c d => d
def D.rows : D → List (List D)
 | .sl xs => xs
 | _ => []
def D.num : D → Int
 | .int _ n => n
 | _ => 0
mutual
def SV.inst (e : Env) (ln : Nat → Nat) : SV → AV
 | .atm x => .d (x.val e)
 | .nils => .nils
 | .agg cs => .agg (SV.instL e ln cs)
 | .tup cs => .tup (SV.instL e ln cs)
 | .own b => .own b (ln b) 0 (ln b)
 | .ptr b i j => .ptr b (ln b) i j
 | .px b x j => .ptr b (ln b) (x.val e).num.toNat j
 | .ep cs => .eptr (cs.map (·.val e))
 | .clo f a b => .clo (.func f) (SV.instL e ln a) (SV.instL e ln b)
 | .junk => .junk
def SV.instL (e : Env) (ln : Nat → Nat) : List SV → List AV
 | [] => []
 | c :: cs => c.inst e ln :: SV.instL e ln cs
end
def SB.rows (e : Env) (ln : Nat → Nat) (b : SB) : List (List AV) := (b.d.val e).rows.map (·.map .d) ++ b.tl.map (SV.instL e ln)
def SB.len (e : Env) (b : SB) : Nat := (b.d.val e).rows.length + b.tl.length
def SB.inst (e : Env) (ln : Nat → Nat) (b : SB) : Blk := { fz := b.fz,ap := b.ap,ty := b.ty,sz := b.sz,rows := b.rows e ln }
def getS : List SV → Nat → SV
 | [],_ => .junk
 | a :: _,0 => a
 | _ :: l,t + 1 => getS l t
def setS : List SV → Nat → SV → List SV
 | [],0,v => [v]
 | [],d + 1,v => .junk :: setS [] d v
 | _ :: l,0,v => v :: l
 | a :: l,d + 1,v => a :: setS l d v
def getB : List (Option SB) → Nat → Option SB
 | [],_ => none
 | a :: _,0 => a
 | _ :: l,t + 1 => getB l t
def setB : List (Option SB) → Nat → SB → List (Option SB)
 | [],0,v => [some v]
 | [],d + 1,v => none :: setB [] d v
 | _ :: l,0,v => some v :: l
 | a :: l,d + 1,v => a :: setB l d v
def lnOf (e : Env) (H : List (Option SB)) (b : Nat) : Nat := match getB H b with | some k => k.len e | none => 0
def SS.inst (e : Env) (σ : SS) : Sta := ⟨fun t => (getS σ.tm t).inst e (lnOf e σ.H),fun b => (getB σ.H b).map (·.inst e (lnOf e σ.H)),σ.nx,σ.n⟩
def D.one : D → Bool
 | .raw v => v.oneCell'
 | .sl (_ :: _) => false
 | _ => true
def SA.ok (m : Nat) : SA → Bool
 | .v x => Nat.blt x m
 | .c d => d.one
mutual
def SV.ok (m : Nat) : SV → Bool
 | .atm (.v x) => Nat.blt x m
 | .atm (.c _) => true
 | .agg cs => SV.okL m cs
 | .tup cs => SV.okL m cs
 | .px _ x _ => x.ok m
 | .ep cs => cs.all (SA.ok m)
 | .clo _ a b => SV.okL m a && SV.okL m b
 | _ => true
def SV.okL (m : Nat) : List SV → Bool
 | [] => true
 | c :: cs => c.ok m && SV.okL m cs
end
def SB.ok (m : Nat) (b : SB) : Bool := b.d.ok m && b.tl.all (SV.okL m)
def SV.one : SV → Bool
 | .agg _ | .tup _ | .junk => false
 | .atm (.c d) => d.one
 | _ => true
def D.beq : D → D → Bool
 | .int k n,.int k' n' => decide (k = k') && decide (n = n')
 | .bool b,.bool b' => b == b'
 | .str l,.str l' => decide (l = l')
 | .sl [],.sl [] => true
 | .raw (.func (.func f) ⟨[]⟩ ⟨[]⟩),.raw (.func (.func g) ⟨[]⟩ ⟨[]⟩) => f == g
 | .raw (.tuple ⟨[]⟩),.raw (.tuple ⟨[]⟩) => true
 | .raw (.pointer none),.raw (.pointer none) => true
 | .raw .nilFunc,.raw .nilFunc => true
 | _,_ => false
def SA.beq : SA → SA → Bool
 | .v x,.v y => x == y
 | .c d,.c d' => d.beq d'
 | _,_ => false
def beqAs : List SA → List SA → Bool
 | [],[] => true
 | a :: l,b :: l' => a.beq b && beqAs l l'
 | _,_ => false
mutual
def SV.beq : SV → SV → Bool
 | .atm x,.atm y => x.beq y
 | .nils,.nils => true
 | .agg a,.agg b => SV.beqL a b
 | .tup a,.tup b => SV.beqL a b
 | .own b,.own c => b == c
 | .ptr b i j,.ptr c k l => b == c && i == k && j == l
 | .px b i j,.px c k l => b == c && i.beq k && j == l
 | .ep a,.ep b => beqAs a b
 | .clo f a b,.clo g c d => f == g && SV.beqL a c && SV.beqL b d
 | .junk,.junk => true
 | _,_ => false
def SV.beqL : List SV → List SV → Bool
 | [],[] => true
 | a :: l,b :: l' => a.beq b && SV.beqL l l'
 | _,_ => false
end
mutual
def SV.has (p : Nat → Bool) : SV → Bool
 | .own b | .ptr b _ _ | .px b _ _ => p b
 | .agg cs | .tup cs => SV.hasL p cs
 | .clo _ a b => SV.hasL p a || SV.hasL p b
 | _ => false
def SV.hasL (p : Nat → Bool) : List SV → Bool
 | [] => false
 | c :: cs => c.has p || SV.hasL p cs
end
def SV.kill (p : Nat → Bool) (v : SV) : SV := if v.has p then .junk else v
def SB.kill (p : Nat → Bool) (b : SB) : SB := { b with tl := b.tl.map (·.map (SV.kill p)) }
def SS.kill (p : Nat → Bool) (σ : SS) : SS := { σ with tm := σ.tm.map (SV.kill p),H := σ.H.map (·.map (SB.kill p)) }
inductive PO where
 | bin (op : BinOp) (tb : Bool)
 | un (op : UnOp)
 | conv (k : IntKind)
 | convS
 | lenS
 | lenL
 | idxS
 | row (sz : Nat)
 | subS
 | subL (sz : Nat)
 | app (sz bt : Nat)
 | appS (bt : Nat)
 | app1 (sz bt : Nat)
 | room (bt k : Nat)
 | mk (sz n : Nat)
 | cat
 | mkL (bt : Nat) (z : List D)
 | chk
 | get (j n : Nat)
 | set (j n : Nat)
 | pick
 | min
 | max
 | sel (n : Nat)
 | toS
 | toB
def PO.nout : PO → Nat
 | .row sz => sz
 | .get _ n => n
 | .chk | .room _ _ => 0
 | _ => 1
def chunks (sz : Nat) : Nat → List D → List (List D)
 | 0,_ => []
 | n + 1,l => l.take sz :: chunks sz n (l.drop sz)
def setD (row : List D) (j : Nat) : List D → List D
 | [] => row
 | c :: cs => setD (row.set j c) (j + 1) cs
def bytesD : List (List D) → Option (List UInt8)
 | [] => some []
 | [.int .u8 c] :: rest => if 0 ≤ c ∧ c < 256 then (match bytesD rest with | some l => some (c.toNat.toUInt8 :: l) | none => none) else none
 | _ => none
def one1 (x : Option D) : Option (List D) := x.map fun d => [d]
def PO.eval : PO → List D → Option (List D)
 | .bin op tb,[a,b] => match a,b with
  | .bool a,.bool b => if tb then one1 (aBin op (.bool a) (.bool b)) else none
  | a,b => one1 (aBin op a b)
 | .un op,[a] => one1 (aUn op a)
 | .conv k,[.int _ n] => some [.int k (k.wrap n)]
 | .convS,[.str l] => some [.str l]
 | .lenS,[.str l] => some [.int .i64 l.length]
 | .lenL,[.sl xs] => some [.int .i64 xs.length]
 | .idxS,[.str l,.int _ n] => if 0 ≤ n then (match l[n.toNat]? with | some c => some [.int .u8 c.toNat] | none => none) else none
 | .row sz,[.sl xs,.int _ n] => if 0 ≤ n then (match xs[n.toNat]? with | some r => if r.length = sz then some r else none | none => none) else none
 | .subS,[.str l,.int _ a,.int _ b] => if 0 ≤ a ∧ a ≤ b ∧ b ≤ l.length then some [.str ((l.take b.toNat).drop a.toNat)] else none
 | .subL sz,[.sl xs,.int _ a,.int _ b] => if 0 ≤ a ∧ a ≤ b ∧ b ≤ xs.length ∧ xs.all (fun r => r.length == sz) then some [.sl ((xs.take b.toNat).drop a.toNat)] else none
 | .app sz bt,[.sl xs,.sl ys] => if (xs.length + ys.length) * bt ≤ 140737488355328 ∧ xs.length + ys.length ≤ 9223372036854775807 ∧ ys.all (fun r => r.length == sz) then some [.sl (xs ++ ys)] else none
 | .appS bt,[.sl xs,.str l] => if (xs.length + l.length) * bt ≤ 140737488355328 ∧ xs.length + l.length ≤ 9223372036854775807 then some [.sl (xs ++ l.map fun c => [.int .u8 c.toNat])] else none
 | .app1 sz bt,[.sl xs] => if xs ≠ [] ∧ xs.length * bt ≤ 140737488355328 ∧ xs.length ≤ 9223372036854775807 ∧ xs.all (fun r => r.length == sz) then some [.sl xs] else none
 | .room bt k,[.sl xs] => if (xs.length + k) * bt ≤ 140737488355328 ∧ xs.length + k ≤ 9223372036854775807 then some [] else none
 | .mk sz n,l => if l.length = n * sz then some [.sl (chunks sz n l)] else none
 | .cat,[.sl xs,.sl ys] => some [.sl (xs ++ ys)]
 | .mkL bt z,[.int _ n] => if 0 ≤ n ∧ (bt : Int) * n ≤ 281474976710656 ∧ n ≤ 9223372036854775807 then some [.sl (List.replicate n.toNat z)] else none
 | .chk,[.sl xs,.int _ n] => if 0 ≤ n ∧ n < xs.length then some [] else none
 | .get j k,[.sl xs,.int _ n] => if 0 ≤ n then (match xs[n.toNat]? with | some r => if j + k ≤ r.length then some ((r.drop j).take k) else none | none => none) else none
 | .set j k,.sl xs :: .int _ n :: cs => if 0 ≤ n then (match xs[n.toNat]? with | some r => if j + k ≤ r.length ∧ cs.length = k then some [.sl (xs.set n.toNat (setD r j cs))] else none | none => none) else none
 | .pick,[.bool t,a,b] => some [if t then a else b]
 | .min,[.int k a,.int _ b] => some [.int k (if b < a then b else a)]
 | .max,[.int k a,.int _ b] => some [.int k (if b > a then b else a)]
 | .sel k,.int _ n :: cs => if 0 ≤ n ∧ n < k then one1 cs[n.toNat]? else none
 | .toS,[.sl xs] => (bytesD xs).map fun l => [.str l]
 | .toB,[.str l] => some [.sl (l.map fun c => [.int .u8 c.toNat])]
 | _,_ => none
structure TF where
 sz : Nat
 bt : Nat
 ti : Bool
 tu : Bool
 agg : Bool
 elem : Option Nat
 arr : Option (Nat × Nat)
 int : Option IntKind
 str : Bool
 bool : Bool
 zero : Option Value
 flds : List (Nat × Nat)
 place : Option (List (Nat × Nat))
abbrev Tab := List (Nat × TF)
def Tab.get : Tab → Nat → Option TF
 | [],_ => none
 | p :: l,t => if p.1 == t then some p.2 else Tab.get l t
structure SR where
 em : List (PO × List SA) := []
 v : SV
 up : List (Nat × SB) := []
 gr : List Nat := []
 rb : List Nat := []
def sCell : Value → SV
 | .int k n => .atm (.c (.int k n))
 | .bool b => .atm (.c (.bool b))
 | .string s => .atm (.c (.str s.data.toList))
 | .slice none 0 0 => .nils
 | v => .atm (.c (.raw v))
def sVal : Value → SV
 | .agg cs => if cs.all (·.oneCell') then .agg (cs.toList.map sCell) else .junk
 | v => sCell v
abbrev SGlob := List (Nat × List D)
def SGlob.get : SGlob → Nat → Option (List D)
 | [],_ => none
 | p :: l,g => if p.1 == g then some p.2 else SGlob.get l g
def sev (SG : SGlob) (σ : SS) : Operand → SV
 | .tmp t => getS σ.tm t
 | .const v => sVal v
 | .global g => match SG.get g with | some cs => .ep (cs.map .c) | none => .junk
 | .func f => .atm (.c (.raw (.func (.func f) #[] #[])))
def SV.cells : SV → List SV
 | .agg cs => cs
 | v => [v]
def SV.atom : SV → Option SA
 | .atm x => some x
 | _ => none
def atoms : List SV → Option (List SA)
 | [] => some []
 | .atm x :: l => match atoms l with | some r => some (x :: r) | none => none
 | _ => none
def vars (m : Nat) : Nat → List SA
 | 0 => []
 | n + 1 => .v m :: vars (m + 1) n
def setAtS (row : List SV) (j : Nat) : List SV → List SV
 | [] => row
 | c :: cs => setAtS (row.set j c) (j + 1) cs
def sNil : SA → Bool
 | .c (.sl []) => true
 | _ => false
def lit0 : SA := .c (.sl [])
def sFill (place : List (Nat × Nat)) (cells : List SV) : List (Nat × SV) → Option (List SV)
 | [] => some cells
 | (i,v) :: rest =>
  match place[i]? with
  | some (off,size) => if v.cells.length == size && Nat.ble (off + size) cells.length && v.cells.all SV.one then sFill place (setAtS cells off v.cells) rest else none
  | none => none
inductive Src where
 | at (q : SA) (rb : List Nat)
 | st (q : SA)
 | rows (l : List (List SV)) (rb : List Nat)
section ops
variable (T : Tab) (SG : SGlob) (σ : SS) (m id : Nat)
def sLoad (tf : TF) : SV → Option SR
 | .ptr b i j => match getB σ.H b with
  | some k => if sNil k.d then (match k.tl[i]? with
   | some row => if tf.agg then (if Nat.ble (j + tf.sz) row.length then some { v := .agg ((row.drop j).take tf.sz),rb := [b] } else none)
    else (match row[j]? with | some c => some { v := c,rb := [b] } | none => none)
   | none => none)
   else if k.tl.isEmpty then (if tf.agg then some { em := [(.get j tf.sz,[k.d,.c (.int .i64 i)])],v := .agg ((vars m tf.sz).map .atm),rb := [b] }
    else some { em := [(.get j 1,[k.d,.c (.int .i64 i)])],v := .atm (.v m),rb := [b] }) else none
  | none => none
 | .px b x j => match getB σ.H b with
  | some k => if k.tl.isEmpty then (if tf.agg then some { em := [(.get j tf.sz,[k.d,x])],v := .agg ((vars m tf.sz).map .atm),rb := [b] }
   else some { em := [(.get j 1,[k.d,x])],v := .atm (.v m),rb := [b] }) else none
  | none => none
 | .ep cs => if tf.agg then (if Nat.ble tf.sz cs.length then some { v := .agg ((cs.take tf.sz).map .atm) } else none)
  else (match cs with | c :: _ => some { v := .atm c } | [] => none)
 | _ => none
def sStore (tf : TF) (x : SV) : SV → Option SR
 | .ptr b i j => match getB σ.H b with
  | some k => if !k.fz && x.cells.length == tf.sz && x.cells.all SV.one then
   (if sNil k.d then (match k.tl[i]? with
    | some row => if Nat.ble (j + tf.sz) row.length then some { v := .junk,up := [(b,{ k with tl := k.tl.set i (setAtS row j x.cells) })],rb := [b] } else none
    | none => none)
   else if k.tl.isEmpty then (match atoms x.cells with
    | some as => some { em := [(.set j tf.sz,k.d :: .c (.int .i64 i) :: as)],v := .junk,up := [(b,{ k with d := .v m })],rb := [b] }
    | none => none)
   else none) else none
  | none => none
 | .px b y j => match getB σ.H b with
  | some k => if !k.fz && x.cells.length == tf.sz && x.cells.all SV.one && k.tl.isEmpty then
   (match atoms x.cells with
    | some as => some { em := [(.set j tf.sz,k.d :: y :: as)],v := .junk,up := [(b,{ k with d := .v m })],rb := [b] }
    | none => none)
   else none
  | none => none
 | _ => none
def sRows (e : Nat) (te : TF) (rows : List (List SV)) : SR :=
 match rows with
 | [] => { v := .own id,up := [(id,{ fz := false,ap := true,ty := e,sz := te.sz,d := lit0,tl := [] })],gr := [id] }
 | _ => match atoms rows.flatten with
  | some as => { em := [(.mk te.sz rows.length,as)],v := .own id,up := [(id,{ fz := false,ap := true,ty := e,sz := te.sz,d := .v m,tl := [] })],gr := [id] }
  | none => { v := .own id,up := [(id,{ fz := false,ap := true,ty := e,sz := te.sz,d := lit0,tl := rows })],gr := [id] }
def sSrc (t t' : Nat) (x : SV) : Option Src :=
 match T.get t,T.get t' with
 | some _,some tf' => match x with
  | .atm q => if tf'.str then some (.st q) else if t == t' then some (.at q []) else none
  | .own b => if t == t' then (match getB σ.H b with
   | some k => if k.tl.isEmpty then some (.at k.d [b]) else if sNil k.d then some (.rows k.tl [b]) else none
   | none => none) else none
  | .nils => if t == t' then some (.rows [] []) else none
  | _ => none
 | _,_ => none
def sAppend (t t' : Nat) (s x : SV) : Option SR :=
 match T.get t with
 | none => none
 | some tf => match tf.elem with
 | none => none
 | some e => match T.get e with
 | none => none
 | some te => match te.zero with
 | none => none
 | some z => if te.ti && z.cells.size == te.sz && Nat.blt 0 te.sz then
  match sSrc T σ t t' x with
  | none => none
  | some src => match s with
   | .nils => match src with
    | .rows (r :: l) rb => if Nat.ble ((r :: l).length * te.bt) 140737488355328 && Nat.ble (r :: l).length 9223372036854775807 && (r :: l).all (fun r => r.length == te.sz && r.all SV.one && !SV.hasL (· == id) r) then
     some { sRows m id e te (r :: l) with rb := rb } else none
    | .at q rb => some { em := [(.app1 te.sz te.bt,[q])],v := .own id,up := [(id,{ fz := false,ap := true,ty := e,sz := te.sz,d := .v m,tl := [] })],gr := [id],rb }
    | _ => none
   | .own b => match getB σ.H b with
    | some k => if !k.fz && k.ap && k.ty == e && k.sz == te.sz then
     match src with
     | .at q rb => if k.tl.isEmpty then some { em := [(.app te.sz te.bt,[k.d,q])],v := .own b,up := [(b,{ k with d := .v m })],gr := [b],rb := b :: rb } else none
     | .st q => if k.tl.isEmpty && te.sz == 1 then some { em := [(.appS te.bt,[k.d,q])],v := .own b,up := [(b,{ k with d := .v m })],gr := [b],rb := [b] } else none
     | .rows l rb => if l.all (fun r => r.length == te.sz && r.all SV.one && !SV.hasL (· == b) r) then
      (match atoms l.flatten with
      | some as => if k.tl.isEmpty then some { em := [(.mk te.sz l.length,as),(.app te.sz te.bt,[k.d,.v m])],v := .own b,up := [(b,{ k with d := .v (m + 1) })],gr := [b],rb := b :: rb } else none
      | none => if k.tl.isEmpty then some { em := [(.room te.bt l.length,[k.d])],v := .own b,up := [(b,{ k with tl := l })],gr := [b],rb := b :: rb } else none)
      else none
     else none
    | none => none
   | _ => none
  else none
def isBytes (T : Tab) (tf : TF) : Bool := match tf.elem with
 | some e => (match T.get e with | some te => decide (te.int = some .u8) && te.sz == 1 | none => false)
 | none => false
def sLo (ev : Operand → SV) : Option Operand → Option SA
 | none => some (.c (.int .i64 0))
 | some x => (ev x).atom
def symOp (op : Op) : Option SR :=
 let ev := sev SG σ
 match op with
 | .move x | .assign x => some { v := ev x }
 | .pick c a b => match ev c with
  | .atm (.c (.bool t)) => some { v := if t then ev a else ev b }
  | .atm q => match ev a,ev b with
   | .atm x,.atm y => some { em := [(.pick,[q,x,y])],v := .atm (.v m) }
   | _,_ => none
  | _ => none
 | .alloc t => match T.get t with
  | some tf => match tf.zero with
   | some z => if (sVal z).cells.all SV.one then some { v := .ptr id 0 0,up := [(id,{ fz := false,ap := false,ty := t,sz := (sVal z).cells.length,d := lit0,tl := [(sVal z).cells] })],gr := [id] } else none
   | none => none
  | none => none
 | .box t x => if (ev x).cells.all SV.one && !SV.hasL (· == id) (ev x).cells then some { v := .ptr id 0 0,up := [(id,{ fz := false,ap := false,ty := t,sz := (ev x).cells.length,d := lit0,tl := [(ev x).cells] })],gr := [id] } else none
 | .build t parts => match T.get t with
  | some tf => match tf.zero,tf.place with
   | some z,some pl => match sVal z with
    | .agg cs0 => match sFill pl cs0 (parts.toList.map fun p => (p.1,ev p.2)) with
     | some cs => some { v := .agg cs }
     | none => none
    | _ => none
   | _,_ => none
  | none => none
 | .load t a => match T.get t with
  | some tf => if tf.ti && tf.tu then sLoad σ m tf (ev a) else none
  | none => none
 | .store t a x => match T.get t with
  | some tf => if tf.ti then sStore σ m tf (ev x) (ev a) else none
  | none => none
 | .nilCheck x => match ev x with
  | .ptr b i j => match getB σ.H b with | some _ => some { v := .ptr b i j,rb := [b] } | none => none
  | .px b y j => match getB σ.H b with | some _ => some { v := .px b y j,rb := [b] } | none => none
  | .ep cs => some { v := .ep cs }
  | _ => none
 | .binOp op t x y _ => match T.get t,ev x,ev y with
  | some tf,.atm p,.atm q => some { em := [(.bin op tf.bool,[p,q])],v := .atm (.v m) }
  | _,_,_ => none
 | .unOp op _ x => match ev x with
  | .atm p => some { em := [(.un op,[p])],v := .atm (.v m) }
  | _ => none
 | .convert s t x => match T.get s,T.get t with
  | some ts,some tt => if ts.tu then (match ev x with
   | .atm p => (match tt.int with
    | some k => some { em := [(.conv k,[p])],v := .atm (.v m) }
    | none => if tt.str then (if ts.str then some { em := [(.convS,[p])],v := .atm (.v m) } else if isBytes T ts then some { em := [(.toS,[p])],v := .atm (.v m) } else none)
     else if ts.str && isBytes T tt then (match tt.elem with
      | some e => some { em := [(.toB,[p])],v := .own id,up := [(id,{ fz := false,ap := false,ty := e,sz := 1,d := .v m,tl := [] })],gr := [id] }
      | none => none)
     else none)
   | .own b => (match getB σ.H b with
    | some k => if tt.int.isNone && tt.str && isBytes T ts && k.tl.isEmpty then some { em := [(.toS,[k.d])],v := .atm (.v m),rb := [b] } else none
    | none => none)
   | _ => none) else none
  | _,_ => none
 | .makeFunc (.func f) first caps => some { v := .clo f (first.toList.map ev) (caps.toList.map ev) }
 | .slice t x lo hi none => match T.get t,ev x with
  | some tf,.atm q => match sLo ev lo with
   | some l => if tf.str then (match hi with
    | none => some { em := [(.lenS,[q]),(.subS,[q,l,.v m])],v := .atm (.v (m + 1)) }
    | some h => match (ev h).atom with
     | some h => some { em := [(.subS,[q,l,h])],v := .atm (.v m) }
     | none => none)
    else (match tf.elem with
     | some e => match T.get e with
      | some te => if te.ti && Nat.blt 0 te.sz then (match hi with
       | none => some { em := [(.lenL,[q]),(.subL te.sz,[q,l,.v m])],v := .atm (.v (m + 1)) }
       | some h => match (ev h).atom with
        | some h => some { em := [(.subL te.sz,[q,l,h])],v := .atm (.v m) }
        | none => none) else none
      | none => none
     | none => none)
   | none => none
  | _,_ => none
 | .fieldAddr s x f => match T.get s with
  | some tf => match tf.flds[f]? with
   | some (o,ft) => match T.get ft with
    | some t2 => if t2.ti && !(t2.sz == 0) then (match ev x with
     | .ptr b i j => match getB σ.H b with | some _ => some { v := .ptr b i (j + o),rb := [b] } | none => none
     | .px b y j => match getB σ.H b with | some _ => some { v := .px b y (j + o),rb := [b] } | none => none
     | .ep cs => some { v := .ep (cs.drop o) }
     | _ => none) else none
    | none => none
   | none => none
  | none => none
 | .field s x f => match T.get s with
  | some tf => match tf.flds[f]? with
   | some (o,ft) => match T.get ft with
    | some t2 => if t2.ti && t2.tu then (match ev x with
     | .agg cs => if t2.agg then (if Nat.ble (o + t2.sz) cs.length then some { v := .agg ((cs.drop o).take t2.sz) } else none)
      else (match cs[o]? with | some c => some { v := c } | none => none)
     | _ => none) else none
    | none => none
   | none => none
  | none => none
 | .indexAddr t x ix => match T.get t,ev ix with
  | some tf,.atm p => match tf.elem with
   | some e => match T.get e with
    | some te => if te.ti then (match ev x with
     | .own b => match getB σ.H b with
      | some k => if k.sz == te.sz then (if sNil k.d && !k.tl.isEmpty then (match p with
       | .c (.int _ n) => if decide (0 ≤ n) && decide (n < k.tl.length) then some { v := .ptr b n.toNat 0,rb := [b] } else none
       | _ => none)
       else if k.tl.isEmpty then some { em := [(.chk,[k.d,p])],v := .px b p 0,rb := [b] } else none) else none
      | none => none
     | .atm q => some { em := [(.row te.sz,[q,p])],v := .ep (vars m te.sz) }
     | _ => none) else none
    | none => none
   | none => match tf.arr with
    | some (len,e) => match T.get e,p with
     | some te,.c (.int _ n) => if te.ti && decide (0 ≤ n) && decide (n < len) then (match ev x with
      | .ptr b i j => match getB σ.H b with | some _ => some { v := .ptr b i (j + n.toNat * te.sz),rb := [b] } | none => none
      | .ep cs => some { v := .ep (cs.drop (n.toNat * te.sz)) }
      | _ => none) else none
     | _,_ => none
    | none => none
  | _,_ => none
 | .index t x ix => match T.get t,ev ix with
  | some tf,.atm p => match ev x with
   | .atm q => if tf.str then some { em := [(.idxS,[q,p])],v := .atm (.v m) } else none
   | .agg cs => match tf.arr with
    | some (len,e) => match T.get e with
     | some te => if te.ti && te.tu && !te.agg && te.sz == 1 && cs.length == len then (match atoms cs with
      | some as => some { em := [(.sel len,p :: as)],v := .atm (.v m) }
      | none => none) else none
     | none => none
    | none => none
   | _ => none
  | _,_ => none
 | .extract x i => match ev x with
  | .tup cs => match cs[i]? with | some c => some { v := c } | none => none
  | _ => none
 | .buildSlice t len parts => match T.get t with
  | some tf => match tf.elem with
   | some e => match T.get e with
    | some te => match te.zero with
     | some z => if te.ti && z.cells.size == te.sz && Nat.blt 0 te.sz && Nat.ble (len * te.sz) 16777216 && decide (parts.toList.map (·.1) = List.range len) && parts.toList.all (fun p => (ev p.2).cells.length == te.sz && (ev p.2).cells.all SV.one && !SV.hasL (· == id) (ev p.2).cells) then
      some (sRows m id e te (parts.toList.map fun p => (ev p.2).cells)) else none
     | none => none
    | none => none
   | none => none
  | none => none
 | .makeSlice t l c => match T.get t with
  | some tf => match tf.elem with
   | some e => match T.get e with
    | some te => match te.zero with
     | some z => match ev l,ev c with
      | .atm p,.atm q => if p.beq q && te.ti && (sVal z).cells.all SV.one && (sVal z).cells.length == te.sz && Nat.blt 0 te.sz then
       (match (sVal z).cells with
       | [.atm (.c d)] => some { em := [(.mkL te.bt [d],[p])],v := .own id,up := [(id,{ fz := false,ap := true,ty := e,sz := te.sz,d := .v m,tl := [] })],gr := [id] }
       | _ => none) else none
      | _,_ => none
     | none => none
    | none => none
   | none => none
  | none => none
 | .call { callee := .builtin .len,args,argTypes } => match args.toList,argTypes.toList with
  | [x],[t] => match T.get t with
   | some tf => match ev x with
    | .atm q => if tf.str then some { em := [(.lenS,[q])],v := .atm (.v m) } else if tf.elem.isSome then some { em := [(.lenL,[q])],v := .atm (.v m) } else none
    | .nils => if tf.elem.isSome then some { v := .atm (.c (.int .i64 0)) } else none
    | .own b => match getB σ.H b with
     | some k => if tf.elem.isSome then (if k.tl.isEmpty then some { em := [(.lenL,[k.d])],v := .atm (.v m),rb := [b] } else if sNil k.d then some { v := .atm (.c (.int .i64 k.tl.length)),rb := [b] } else none) else none
     | none => none
    | _ => none
   | none => none
  | _,_ => none
 | .call { callee := .builtin .min,args,.. } => match args.toList with
  | [x,y] => match ev x,ev y with
   | .atm p,.atm q => some { em := [(.min,[p,q])],v := .atm (.v m) }
   | _,_ => none
  | _ => none
 | .call { callee := .builtin .max,args,.. } => match args.toList with
  | [x,y] => match ev x,ev y with
   | .atm p,.atm q => some { em := [(.max,[p,q])],v := .atm (.v m) }
   | _,_ => none
  | _ => none
 | .call { callee := .builtin .append,args,argTypes } => match args.toList,argTypes.toList with
  | [s,x],[t,t'] => sAppend T σ m id t t' (ev s) (ev x)
  | _,_ => none
 | _ => none
end ops
def SR.ok (m : Nat) (r : SR) : Bool := r.v.ok m && r.up.all (fun p => p.2.ok m)
def PO.okP : PO → Bool
 | .mkL _ z => z.all D.one
 | _ => true
def okEm : Nat → List (PO × List SA) → Bool
 | _,[] => true
 | m,p :: l => p.1.okP && p.2.all (SA.ok m) && okEm (m + p.1.nout) l
def outsOf : List (PO × List SA) → Nat
 | [] => 0
 | p :: l => p.1.nout + outsOf l
def setBs (H : List (Option SB)) : List (Nat × SB) → List (Option SB)
 | [] => H
 | p :: r => setBs (setB H p.1 p.2) r
def putS (tm : List SV) : Option Nat → SV → List SV
 | some d,v => setS tm d v
 | none,_ => tm
def inL (l : List Nat) (b : Nat) : Bool := l.any (· == b)
def SS.upd (σ : SS) (d : Option Nat) (r : SR) : SS :=
 let σ1 := match r.gr with | [] => σ | _ => σ.kill (inL r.gr)
 { σ1 with tm := putS σ1.tm d r.v,H := setBs σ1.H r.up }
end Am
