/- What functions of the program compute: lemmas. -/
import Derived.Test.YtoalfckdmoahoaaGreatDoorMg
import Derived.Test.YtoalfckdmoahoaaGreatDoorRf
import Derived.Test.YtoalfckdmoahoaaGreatDoorBc
import Derived.Test.YtoalfckdmoahoaaGreatDoorAm8
import Derived.Test.YtoalfckdmoahoaaGreatDoorAm3
import Derived.KernelRfl
set_option linter.unusedSimpArgs false
set_option linter.unusedVariables false
set_option linter.unusedSectionVars false
namespace Go.Proofs.YtoalfckdmoahoaaGreatDoor
open Go Am
set_option maxRecDepth 100000
variable {G:Glob}
abbrev bA (x:BitVec 64):AV:=.d (bvD x)
abbrev fA (f:F):AV:=.agg [iA f.op,.d (.str f.name),.d (.sl (F.encs f.args))]
abbrev oA (o:OO):AV:=.agg [.d (strsD o.1),.d (numsD o.2)]
def srB (l:List Int) (p:Nat):Blk:={ fz:=false,ap:=false,ty:=58,sz:=2,rows:=[[.d (numsD l),iA p]] }
theorem qnub (x:BitVec 64):D.WF (bvD x):=.int _ _
theorem qav (l:List (List UInt8)):D.WF (strsD l):=.sl _ fun r hr c hc=>by
 obtain ⟨x,_,rfl⟩:=List.mem_map.1 hr;simp only[strR,List.mem_singleton] at hc;subst hc;exact .str _
theorem qhj:EWF []:=fun _ h=>by cases h
theorem qpd {d:D} {e:Env} (h:D.WF d) (h':EWF e):EWF (d::e):=fun x hx=>by
 rcases List.mem_cons.1 hx with rfl|hx
 · exact h
 · exact h' x hx
theorem qdpb {o:OO} {e:Env} (h:EWF e):EWF (strsD o.1::numsD o.2::e):=qpd (qav _) (qpd (qeg _) h)
theorem qcob {f:F} {e:Env} (h:EWF e):EWF (.int .i64 f.op :: .str f.name :: .sl (F.encs f.args)::e):=qpd (.int _ _) (qpd (.str _) (qpd (F.wf_rows f) h))
section
variable (hG:GHyp G)
include hG
theorem qtcc {l l':List Int} (h:run tb 1 [numsD l]=some [numsD l',.int .i64 0]):CC Tryz.prog G 4 [] [.d (numsD l)] [srB l' 0] (.ptr 0 1 0 0):=
 qnd (G:=G) tok gok (by kernel_rfl) (quj hG) (i:=1) rfl (qpd (qeg _) qhj) rfl (fun k hk=>by cases hk) h rfl
theorem qlkb {a b x:Int} {l:List Int} {p q:Nat} (h:run tb 2 [.int .i64 a,.int .i64 b,numsD l,.int .i64 p]=some [.int .i64 x,numsD l,.int .i64 q]) :
 CC Tryz.prog G 5 [srB l p] [.ptr 0 1 0 0,iA a,iA b] [srB l q] (iA x):=
 qnd (G:=G) tok gok (by kernel_rfl) (quj hG) (i:=2) rfl (qpd (.int _ _) (qpd (.int _ _) (qpd (qeg _) (qpd (.int _ _) qhj)))) rfl (fun k hk=>by simp only[sg2,List.mem_singleton] at hk;subst hk;exact ⟨[],rfl⟩) h rfl
theorem nn_c {a x:Int} {l:List Int} {p q:Nat} (h:run tb 4 [.int .i64 a,numsD l,.int .i64 p]=some [.int .i64 x,numsD l,.int .i64 q]) :
 CC Tryz.prog G 7 [srB l p] [.ptr 0 1 0 0,iA a] [srB l q] (iA x):=
 qnd (G:=G) tok gok (by kernel_rfl) (quj hG) (i:=4) rfl (qpd (.int _ _) (qpd (qeg _) (qpd (.int _ _) qhj))) rfl (fun k hk=>by simp only[sg4,List.mem_singleton] at hk;subst hk;exact ⟨[],rfl⟩) h rfl
theorem qocc {n:Nat} (hn:n≤26):CC Tryz.prog G 6 [] [iA n] [] (.d (strsD (vocN n))):=
 qnd (G:=G) tok gok (by kernel_rfl) (quj hG) (i:=3) rfl (qpd (.int _ _) qhj) rfl (fun k hk=>by cases hk) (qku n hn) rfl
theorem qabc {v:List (List UInt8)} {r:List Int} {o:OO} {e:Int} (h:run tb 5 [strsD v,numsD r]=some [strsD o.1,numsD o.2,.int .i64 e]):CC Tryz.prog G 8 [] [.d (strsD v),.d (numsD r)] [] (.tup [oA o,iA e]):=
 qnd (G:=G) tok gok (by kernel_rfl) (quj hG) (i:=5) rfl (qdpb (o:=(v,r)) qhj) rfl (fun k hk=>by cases hk) h rfl
theorem qasb {n:Nat} (hn:n≤6) (X:BitVec 64):CC Tryz.prog G 9 [] [iA n,bA X] [] (.tup [fA (thy (vocN n) X),.d (.bool true)]):=
 qnd (G:=G) tok gok (by kernel_rfl) (quj hG) (i:=6) rfl (qpd (.int _ _) (qpd (qnub _) qhj)) rfl (fun k hk=>by cases hk) (qkob hn X) rfl
theorem qgcc {o:OO} {f:F} {x:BitVec 64} {e:Int} (h:run tb 7 (strsD o.1::numsD o.2::rowF f)=some [bvD x,.int .i64 e]):CC Tryz.prog G 10 [] [oA o,fA f] [] (.tup [bA x,iA e]):=
 qnd (G:=G) tok gok (by kernel_rfl) (quj hG) (i:=7) rfl (qdpb (qcob qhj)) rfl (fun k hk=>by cases hk) h rfl
theorem qncc {o:OO} {f:F} {x:BitVec 64} {e:Int} (h:run tb 8 (strsD o.1::numsD o.2::rowF f)=some [bvD x,.int .i64 e]):CC Tryz.prog G 11 [] [oA o,fA f] [] (.tup [bA x,iA e]):=
 qnd (G:=G) tok gok (by kernel_rfl) (quj hG) (i:=8) rfl (qdpb (qcob qhj)) rfl (fun k hk=>by cases hk) h rfl
theorem qvdc {v:List (List UInt8)} {K:BitVec 64} {f:F} {d:Int} {x:BitVec 64} {e:Int} (h:run tb 9 [strsD v,bvD K,.int .i64 f.op,.str f.name,.sl (F.encs f.args),.int .i64 d]=some [bvD x,.int .i64 e]) :
 CC Tryz.prog G 12 [] [.d (strsD v),bA K,fA f,iA d] [] (.tup [bA x,iA e]):=
 qnd (G:=G) tok gok (by kernel_rfl) (quj hG) (i:=9) rfl (qpd (qav _) (qpd (qnub _) (qcob (qpd (.int _ _) qhj)))) rfl (fun k hk=>by cases hk) h rfl
theorem qidc {v:List (List UInt8)} {g f:F} {d:Int} {x:BitVec 64} {e:Int} (h:run tb 10 [strsD v,.sl (F.encs [g]),.int .i64 f.op,.str f.name,.sl (F.encs f.args),.int .i64 d]=some [bvD x,.int .i64 e]) :
 CC Tryz.prog G 13 [] [.d (strsD v),.d (.sl (F.encs [g])),fA f,iA d] [] (.tup [bA x,iA e]):=
 qnd (G:=G) tok gok (by kernel_rfl) (quj hG) (i:=10) rfl (qpd (qav _) (qpd (F.wf_rows (F.mk 0 [] [g])) (qcob (qpd (.int _ _) qhj)))) rfl (fun k hk=>by cases hk) h rfl
theorem qrdc {o:OO} (hn:o.1.length<1000000000) (hl:o.2.length<1000000000) (S:BitVec 64):CC Tryz.prog G 14 [] [oA o,bA S] [] (bA (leastS o.1 o.2 S)):=
 qnd (G:=G) tok gok (by kernel_rfl) (quj hG) (i:=11) rfl (qdpb (qpd (qnub _) qhj)) rfl (fun k hk=>by cases hk) (qae o.1 o.2 hn hl S) rfl
theorem qve (a:Int) (rows:List (List Int)) (hl:rows.length<9223372036854775808) (hr:∀ r∈rows,r.length<9223372036854775808) :
 CC Tryz.prog G 16 [] [.agg [iA a,.d (tabD rows)]] [] (iA (if vldB a rows=true then 0 else 1)):=
 qnd (G:=G) tok gok (by kernel_rfl) (quj hG) (i:=13) rfl (qpd (.int _ _) (qpd (qlw _) qhj)) rfl (fun k hk=>by cases hk) (qcs a rows hl hr) rfl
theorem qgdc:CC Tryz.prog G 17 [] [] [] (.d (.bool true)):=
 qnd (G:=G) tok gok (by kernel_rfl) (quj hG) (i:=14) rfl qhj rfl (fun k hk=>by cases hk) qmw rfl
end
end Go.Proofs.YtoalfckdmoahoaaGreatDoor

namespace Go.Proofs.YtoalfckdmoahoaaGreatDoor
open Go Am
set_option maxRecDepth 100000
theorem wru (n:Nat) (h:n<18446744073709551616):IntKind.u64.wrap (n:Int)=(n:Int):=by
 unfold IntKind.wrap IntKind.bits IntKind.signed;simp;omega
def rowsO (os:List OO):List (List AV):=(os.map fun o=>[strsD o.1,numsD o.2]).map fun x=>x.map AV.d
def ordB (os:List OO):Blk:={ fz:=false,ap:=true,ty:=32,sz:=2,rows:=rowsO os }
def rI (r:List Int):List (List AV):=(r.map numR).map fun x=>x.map AV.d
def rwB (r:List Int):Blk:={ fz:=false,ap:=true,ty:=3,sz:=1,rows:=rI r }
theorem qyjb (os:List OO):(rowsO os).length=os.length:=by simp[rowsO]
theorem qmbc (r:List Int):(rI r).length=r.length:=by simp[rI]
theorem qpgb {os:List OO} {k:Nat} (h:k<os.length):(rowsO os)[k]? = some [.d (strsD os[k].1),.d (numsD os[k].2)]:=by simp[rowsO,h]
theorem qnn (os:List OO) (o:OO):rowsO (os++[o])=rowsO os++[[.d (strsD o.1),.d (numsD o.2)]]:=by simp[rowsO]
theorem qjfb {r:List Int} {k:Nat} (h:k<r.length):(rI r)[k]? = some [iA r[k]]:=by simp[rI,numR,h]
theorem qvy (r:List Int) (k:Nat) (x:Int):(rI r).set k [iA x]=rI (r.set k x):=by simp[rI,numR,List.map_set]
theorem qqqb (n:Nat):List.replicate n [iA 0]=rI (List.replicate n 0):=by simp[rI,numR]
theorem qv (os:List OO) (n:Nat):(rowsO os).all (·.all (AV.inK n))=true:=by
 rw[List.all_eq_true];intro r hr;simp only[rowsO,List.map_map,List.mem_map] at hr;obtain ⟨o,_,rfl⟩:=hr;rfl
theorem qif (r:List Int) (n:Nat):(rI r).all (·.all (AV.inK n))=true:=by
 rw[List.all_eq_true];intro x hr;simp only[rI,List.map_map,List.mem_map] at hr;obtain ⟨o,_,rfl⟩:=hr;rfl
def RkP (N:Nat) (K:BitVec 64) (w:Nat) (rs:List Int):Prop:=∀ v,v<N→((K.getLsbD v=true∨w≤v)→rs.getD v 0=0)∧(v<w→¬ K.getLsbD v=true→1≤rs.getD v 0)
theorem qymb {N:Nat} {K:BitVec 64}:RkP N K 0 (List.replicate N 0):=fun v hv=>⟨fun _=>by simp[hv],fun h=>absurd h (by omega)⟩
theorem qtmb {N:Nat} {K:BitVec 64} {w:Nat} {rs:List Int} (h:RkP N K w rs) (hb:K.getLsbD w=true):RkP N K (w+1) rs:=fun v hv=>⟨fun h1=>(h v hv).1 (h1.imp id fun x=>by omega),fun h1 h2=>(h v hv).2 (by
 by_cases e:v=w
 · subst e;exact absurd hb h2
 · omega) h2⟩
theorem qytb {N:Nat} {K:BitVec 64} {w:Nat} {rs:List Int} (h:RkP N K w rs) (hb:K.getLsbD w=false) (hl:rs.length=N) (hw:w<N) {x:Int} (hx:0≤x):RkP N K (w+1) (rs.set w (1+x)):=fun v hv=>by
 have e:(rs.set w (1+x)).getD v 0=if v=w then 1+x else rs.getD v 0:=by
  rw[List.getD_eq_getElem?_getD,List.getElem?_set]
  by_cases h:w=v
  · subst h;rw[if_pos rfl,if_pos rfl,if_pos (by omega)];rfl
  · rw[if_neg h,if_neg (fun e=>h e.symm),List.getD_eq_getElem?_getD]
 rw[e]
 by_cases hvw:v=w
 · subst hvw;rw[if_pos rfl]
   exact ⟨fun h1 => by rcases h1 with h1 | h1
                       · rw[hb] at h1;cases h1
                       · omega,fun _ _=>by omega⟩
 · rw[if_neg hvw];exact ⟨fun h1=>(h v hv).1 (h1.imp id fun x=>by omega),fun h1 h2=>(h v hv).2 (by omega) h2⟩
theorem qxcc:∀ k:Nat,k<16→∀ v:Nat,v<4→(IntKind.i64.wrap (((BitVec.ofInt 64 ((k:Int).fdiv (2^(min v 64)))&&&BitVec.ofInt 64 1).toNat:Nat):Int) == 0) = !(BitVec.ofNat 64 k).getLsbD v:=by decide +kernel
theorem qdyb {n k N m:Nat} (hn:n=1∨n=2) (hN:N=2^n) (hm:m=2^N) (hk:k<m) {rs:List Int} (hl:rs.length=N) (h:RkP N (BitVec.ofNat 64 k) N rs):FitO n (BitVec.ofNat 64 k) (vocN n,normS rs):=by
 subst hN;subst hm;exact qpnb (by omega) hl (qth (by rcases hn with rfl|rfl<;>decide) hk) fun w hw=>⟨fun hb=>(h w hw).1 (.inl hb),fun hb=>(h w hw).2 hw hb⟩
theorem qjqb {n N:Nat} (hn:n=1∨n=2) (hN:N=2^n) {rs:List Int} (hl:rs.length=N):run tb 5 [strsD (vocN n),numsD rs]=some [strsD (vocN n),numsD (normS rs),.int .i64 0]:=by
 subst hN;have h4:2^n≤4:=by rcases hn with rfl|rfl<;>decide
 have:=qsg (vocN n) rs (by rw[qw];omega) (by omega)
 rwa [if_pos (by simp[normE,qzf (show n≤6 by omega),qw,hl])] at this
theorem qgtb {w:Nat} (h:w<4):[[AV.d (.int .i64 1)],[AV.d (.int .i64 2)],[AV.d (.int .i64 3)],[AV.d (.int .i64 1)]][w]? = some [iA (kdT w)]:=by
 match w,h with
 | 0,_=>rfl
 | 1,_=>rfl
 | 2,_=>rfl
 | 3,_=>rfl
def rwsV:List (List Int)→List (List AV)
 | []=>[]
 | r::R=>[.own 4 r.length 0 r.length]::R.map fun r=>[.d (numsD r)]
def rwsB (R:List (List Int)):Blk:={ fz:=false,ap:=true,ty:=22,sz:=1,rows:=rwsV R }
def rw0:List (List Int)→Option Blk
 | []=>none
 | r::_=>some (rwB r)
def tabB (n k:Nat):Blk:={ fz:=false,ap:=false,ty:=38,sz:=2,rows:=[[iA n,.own 3 k 0 k]] }
def boxF (f:F):Blk:={ fz:=true,ap:=false,ty:=41,sz:=3,rows:=[[iA f.op,.d (.str f.name),.d (.sl (F.encs f.args))]] }
theorem qkyb:aggBin (teqn Tryz.prog 51) BinOp.eql [iA 0,iA 0,iA 0,iA 0] [AV.d (D.int IntKind.i64 0),AV.d (D.int IntKind.i64 0),AV.d (D.int IntKind.i64 0),AV.d (D.int IntKind.i64 0)]=some (D.bool true):=by kernel_rfl
theorem qzpb:rwsV []=[]:=rfl
theorem qplb (R:List (List Int)):(rwsV R).length=R.length:=by cases R<;>simp[rwsV]
theorem qbc {R:List (List Int)} {n:Nat} (h:4<n):(rwsV R).all (·.all (AV.inK n))=true:=by
 rw[List.all_eq_true];intro x hx;cases R with
 | nil=>cases hx
 | cons r R=>
  simp only[rwsV,List.mem_cons,List.mem_map] at hx;rcases hx with rfl|⟨y,_,rfl⟩
  · simp[AV.inK,h]
  · rfl
theorem Ent.up {k:Nat} {s:Sta} {nx':Nat} (h:s.nx≤nx'):Ent k s { s with nx:=nx' }:=by
 rintro G B a w hk ⟨C,ρ,hi⟩;exact ⟨C,ρ,⟨hi.rel,fun b hb=>hi.nx b (Nat.le_trans h hb),hi.ext,hi.glob,hi.marks,hi.nom⟩⟩
theorem qnp {x:Nat} (h:x<18446744073709551616):IntKind.u64.wrap (x:Int)=((BitVec.ofNat 64 x).toNat:Int):=by
 rw[wru x h,BitVec.toNat_ofNat,Nat.mod_eq_of_lt h]
theorem Ent.whb {k:Nat} {s:Sta} {b:Nat} {x y:Blk} (hb:s.H b=some x) (hw:WhB s.H x y):Ent k s { s with H:=updH s.H b y }:=
 Ent.wh ⟨rfl,rfl,fun t=>.refl _,fun c=>by
  by_cases h:c=b
  · subst h;exact .inr ⟨x,y,hb,by simp[updH],hw⟩
  · cases hc:s.H c with
    | none=>exact .inl ⟨rfl,by simp[updH,h,hc]⟩
    | some z=>exact .inr ⟨z,z,rfl,by simp[updH,h,hc],.refl _⟩⟩
theorem Ent.slot {k:Nat} {s:Sta} {t:Nat} {v:AV} (h:Wh s.H (s.tm t) v):Ent k s { s with tm:=putT s.tm t v }:=by
 refine Ent.wh ⟨rfl,rfl,fun x=>?_,fun c=>?_⟩
 · show Wh s.H (s.tm x) (putT s.tm t v x)
   unfold putT
   split
   · rename_i e;subst e;exact h
   · exact .refl _
 · cases hc:s.H c with
   | none=>exact .inl ⟨rfl,rfl⟩
   | some z=>exact .inr ⟨z,z,rfl,rfl,.refl _⟩
theorem Ent.tab {k:Nat} {s:Sta} {t n m:Nat} {U:List Int} {R:List (List Int)} (ht:s.tm t = .ptr 2 1 0 0) (h2:s.H 2=some (tabB n m)) (h3:s.H 3=some (rwsB (U::R))) (h4:s.H 4=some (rwB U)) (hm:m=R.length+1) :
 ∃ H',Ent k s { s with tm:=putT s.tm t (.eptr [.int .i64 n,tabD (U::R)]),H:=H' }:=by
 subst hm;have e1:Ent k s { s with H:=pinH [2,3,4] s.H }:=Ent.pin [2,3,4];have g3:pinH [2,3,4] s.H 3=some (pinB (rwsB (U::R))):=by simp[pinH,h3]
 have g4:pinH [2,3,4] s.H 4=some (pinB (rwB U)):=by simp[pinH,h4]
 have g2:pinH [2,3,4] s.H 2=some (pinB (tabB n (R.length+1))):=by simp[pinH,h2]
 have hU:(U.map numR).length=U.length:=List.length_map _
 let y3:Blk:={ pinB (rwsB (U::R)) with rows:=((U::R).map fun r=>[numsD r]).map (·.map .d) }
 have e2:=Ent.whb (k:=k) (s:={ s with H:=pinH [2,3,4] s.H }) (b:=3) (y:=y3) g3 ⟨rfl,rfl,rfl,rfl,by simp[y3,pinB,rwsB,rwsV],fun i hi hi'=>by
  cases i with
  | zero=>rfl
  | succ i=>simp[y3,pinB,rwsB,rwsV],fun i hi hi' j hj hj'=>by
  cases i with
  | zero=>
   obtain rfl:j=0:=by simpa [pinB,rwsB,rwsV] using hj
   have:=Wh.frz (H:=pinH [2,3,4] s.H) (b:=4) (xs:=U.map numR) g4 rfl rfl;rw[hU] at this;exact this
  | succ i=>
   obtain rfl:j=0:=by simpa [pinB,rwsB,rwsV] using hj
   have:((pinB (rwsB (U::R))).rows[i+1]'hi)[0]'hj=(y3.rows[i+1]'hi')[0]'hj':=by simp[y3,pinB,rwsB,rwsV]
   rw[this];exact .refl _⟩
 let H3:=updH (pinH [2,3,4] s.H) 3 y3
 let y2:Blk:={ pinB (tabB n (R.length+1)) with rows:=[[.int .i64 (n:Int),tabD (U::R)].map .d] }
 have k2:H3 2=some (pinB (tabB n (R.length+1))):=by simp[H3,updH,g2]
 have k3:H3 3=some y3:=by simp[H3,updH]
 have e3:=Ent.whb (k:=k) (s:={ s with H:=H3 }) (b:=2) (y:=y2) k2 ⟨rfl,rfl,rfl,rfl,rfl,fun i hi hi'=>by
  obtain rfl:i=0:=by simpa [pinB,tabB] using hi
  rfl,fun i hi hi' j hj hj'=>by
  obtain rfl:i=0:=by simpa [pinB,tabB] using hi
  match j,hj with
  | 0,_=>exact .refl _
  | 1,_=>
   have:=Wh.frz (H:=H3) (b:=3) (xs:=(U::R).map fun r=>[numsD r]) k3 rfl rfl
   rw[List.length_map,List.length_cons] at this;exact this⟩
 have k4:updH H3 2 y2 2=some y2:=by simp[updH]
 have e4:=Ent.slot (k:=k) (s:={ s with H:=updH H3 2 y2 }) (t:=t) (v:=.eptr [.int .i64 n,tabD (U::R)]) (by
  show Wh _ (s.tm t) _
  rw[ht];exact Wh.ep (blk:=y2) k4 rfl rfl)
 exact ⟨_,((e1.trans e2).trans e3).trans e4⟩
theorem qtx {os:List OO} {k:Nat} (h:k<os.length):(rowsO os)[k]? = some [.d (strsD (os.getD k ([],[])).1),.d (numsD (os.getD k ([],[])).2)]:=by
 rw[qpgb h,List.getD_eq_getElem?_getD,List.getElem?_eq_getElem h];rfl
theorem qucc (g:F):F.encs [g]=[[.int .i64 g.op,.str g.name,.sl (F.encs g.args)]]:=by simp[F.encs,F.enc_eq]
def rowW (n m wh:Nat) (os:List OO) (d:Int) (k:Nat):List Int:=(List.range m).map fun i=>((entW n wh os d k i).toNat:Int)
def tabW (n m wh:Nat) (os:List OO) (d:Int) (k:Nat):List (List Int):=(List.range k).map (rowW n m wh os d)
theorem qijb {R:List (List Int)} {r:List Int} (h:0<R.length):rwsV (R++[r])=rwsV R++[[.d (numsD r)]]:=by
 cases R with
 | nil=>cases h
 | cons x R=>simp[rwsV]
theorem qzmb {R:List (List Int)} {r:List Int} (h:0<R.length):rw0 (R++[r])=rw0 R:=by
 cases R with
 | nil=>cases h
 | cons x R=>rfl
def mixL (U V:List Int) (i:Nat):List Int:=U.take i++V.drop i
theorem qpub {U V:List Int} {i:Nat} (h:U.length=V.length) (hi:i≤V.length):(mixL U V i).length=V.length:=by simp[mixL];omega
theorem qwvb {U V:List Int} {i:Nat} (h:U.length=V.length) (hi:i<V.length):(mixL U V i).set i (U.getD i 0)=mixL U V (i+1):=by
 unfold mixL;have h1:(U.take i).length=i:=by rw[List.length_take];omega
 have hu:i<U.length:=by omega
 rw[List.set_append_right _ _ (by omega),h1,Nat.sub_self,List.drop_eq_getElem_cons hi,List.set_cons_zero,List.take_add_one,List.getD_eq_getElem?_getD,List.getElem?_eq_getElem hu]
 simp only[Option.toList_some,Option.getD_some,List.append_assoc,List.cons_append,List.nil_append]
theorem Ent.clear {tm:Nat→AV} {H:Heap} {l':List AV} {nx n:Nat} (ht:LeF 0 tm 0 l'):Ent 0 ⟨tm,H,nx,n⟩ ⟨tl l',Am.hl [],0,n⟩:=
 Ent.cut (Nat.zero_le _) (Nat.zero_le _) ht rfl (.nil _ _) rfl
theorem Ent.tabC {tm:Nat→AV} {H:Heap} {nx nt t n m:Nat} {U:List Int} {R:List (List Int)} {l':List AV} (ht:tm t = .ptr 2 1 0 0) (h2:H 2=some (tabB n m)) (h3:H 3=some (rwsB (U::R))) (h4:H 4=some (rwB U)) (hm:m=R.length+1)
 (hl:LeF 0 (putT tm t (.eptr [.int .i64 n,tabD (U::R)])) 0 l'):Ent 0 ⟨tm,H,nx,nt⟩ ⟨tl l',Am.hl [],0,nt⟩:=by
 obtain ⟨H',h⟩:=Ent.tab (k:=0) (s:=⟨tm,H,nx,nt⟩) ht h2 h3 h4 hm;exact h.trans (Ent.clear hl)
def p46 (b:Nat):Nat:=if b=4 then 6 else if b=6 then 4 else b
theorem qwtb (b:Nat):p46 (p46 b)=b:=by
 unfold p46
 by_cases h4:b=4
 · subst h4;rfl
 · by_cases h6:b=6
   · subst h6;rfl
   · simp[h4,h6]
theorem qtac {b:Nat} (h:7≤b):p46 b=b:=by unfold p46;rw[if_neg (by omega),if_neg (by omega)]
theorem qnwb (π:Nat→Nat) (os:List OO):(ordB os).ren π=ordB os:=by
 have:(rowsO os).map (·.map (AV.ren π))=rowsO os:=by
  simp only[rowsO,List.map_map];refine List.map_congr_left fun o _=>rfl
 unfold Blk.ren ordB;simp only[this]
theorem qfzb (π:Nat→Nat) (r:List Int):(rwB r).ren π=rwB r:=by
 have:(rI r).map (·.map (AV.ren π))=rI r:=by
  simp only[rI,List.map_map];refine List.map_congr_left fun o _=>rfl
 unfold Blk.ren rwB;simp only[this]
theorem qrfb {n m wh:Nat} {os:List OO} {d:Int} (hm:0<m):∃ R,Am.tabG m (entF n m wh os d)=((List.range m).map fun i=>((entF n m wh os d 0 i).toNat:Int))::R∧tabW n m wh os d m=rowW n m wh os d 0::R∧m=R.length+1:=by
 obtain ⟨j,rfl⟩:∃ j,m=j+1:=⟨m-1,by omega⟩
 have key:∀ F:Nat→List Int,(List.range (j+1)).map F=F 0::(List.range j).map fun k=>F (k+1):=fun F=>by
  rw[List.range_succ_eq_map,List.map_cons,List.map_map];rfl
 refine ⟨(List.range j).map fun k=>rowW n (j+1) wh os d (k+1),?_,key _,by simp⟩
 refine (key _).trans ?_
 congr 1
 refine List.map_congr_left fun k _=>List.map_congr_left fun i _=>?_
 unfold entF;rw[if_neg (by omega)]
theorem qbbc {n m wh:Nat} {os:List OO} {d:Int} (h:wh≠1):((List.range m).map fun i=>((entF n m wh os d 0 i).toNat:Int))=rowW n m wh os d 0:=by
 unfold rowW;refine List.map_congr_left fun i _=>?_
 unfold entF;rw[if_neg (fun x=>h x.1)]
theorem qxzb {n m wh:Nat} {os:List OO} {d:Int} (h:wh=1) {i:Nat} (hi:i<m):((List.range m).map fun i=>((entF n m wh os d 0 i).toNat:Int)).getD i 0=((leastS (os.getD 0 ([],[])).1 (os.getD 0 ([],[])).2 (BitVec.ofNat 64 (m-1-i))).toNat:Int):=by
 simp only[List.getD_eq_getElem?_getD,List.getElem?_map,List.getElem?_range hi,Option.map_some,Option.getD_some];unfold entF;rw[if_pos ⟨h,rfl⟩,List.getD_eq_getElem?_getD]
section
variable {n N m wh:Nat} {os:List OO} {d:Int} (h:TS n N m os)
include h
theorem qryb {k i:Nat} (hk:k<m) (hi:i<m) (w0:wh=0) :
 run tb 7 (strsD (os.getD k ([],[])).1::numsD (os.getD k ([],[])).2::rowF (Am.thy (vocN n) (BitVec.ofNat 64 i)))=some [bvD (entW n wh os d k i),.int .i64 0]:=by
 obtain ⟨t1,t2,t3⟩:=h.thy hi;have hf:=h.at_ hk;have:=qhn (os.getD k ([],[])).1 (os.getD k ([],[])).2 (Am.thy (vocN n) (BitVec.ofNat 64 i)) (h.vl hk).1 (h.vl hk).2 (by omega)
 have he:chE (os.getD k ([],[])).1 (os.getD k ([],[])).2 (Am.thy (vocN n) (BitVec.ofNat 64 i))=0:=by
  unfold chE;rw[if_neg (by rw[hf.ok];simp),hf.nm,t2]
 rw[he,if_pos rfl] at this;rw[this];unfold entW;rw[if_pos w0]
 conv=>lhs;rw[show modelsS (os.getD k ([],[])).1 (Am.thy (vocN n) (BitVec.ofNat 64 i))=BitVec.ofNat 64 i by rw[hf.nm];exact t3]
theorem qxyb {k i:Nat} (hk:k<m) (hi:i<m) (w1:wh=1) :
 run tb 8 (strsD (os.getD k ([],[])).1::numsD (os.getD k ([],[])).2::rowF (Am.thy (vocN n) (BitVec.ofNat 64 i)))=some [bvD (entW n wh os d k i),.int .i64 0]:=by
 obtain ⟨t1,t2,t3⟩:=h.thy hi;have hf:=h.at_ hk;have:=qhs (os.getD k ([],[])).1 (os.getD k ([],[])).2 (Am.thy (vocN n) (BitVec.ofNat 64 i)) (h.vl hk).1 (h.vl hk).2 (by omega)
 have he:chE (os.getD k ([],[])).1 (os.getD k ([],[])).2 (Am.thy (vocN n) (BitVec.ofNat 64 i))=0:=by
  unfold chE;rw[if_neg (by rw[hf.ok];simp),hf.nm,t2]
 rw[he,if_pos rfl] at this;rw[this];unfold entW;rw[if_neg (by omega),if_pos w1]
 conv=>lhs;rw[show modelsS (os.getD k ([],[])).1 (Am.thy (vocN n) (BitVec.ofNat 64 i))=BitVec.ofNat 64 i by rw[hf.nm];exact t3]
theorem qeac {k i:Nat} (d1:1≤d) (d3:d≤3) (hi:i<m) (w2:wh=2) :
 run tb 9 [strsD (vocN n),bvD (BitVec.ofNat 64 k),.int .i64 (Am.thy (vocN n) (BitVec.ofNat 64 i)).op,.str (Am.thy (vocN n) (BitVec.ofNat 64 i)).name,.sl (F.encs (Am.thy (vocN n) (BitVec.ofNat 64 i)).args),.int .i64 d]=some [bvD (entW n wh os d k i),.int .i64 0]:=by
 obtain ⟨t1,t2,t3⟩:=h.thy hi;have hn6:n≤6:=by have:=h.hn;omega
 have h1:=qbdb (vocN n) (by rw[qw];omega) (BitVec.ofNat 64 k) (Am.thy (vocN n) (BitVec.ofNat 64 i)) (by omega) d
 have e:upE (vocN n) (Am.thy (vocN n) (BitVec.ofNat 64 i)) d=0:=by unfold upE;rw[if_neg (by simp[qzf hn6]),if_neg (by simp[qcec d1 d3]),t2]
 unfold updA at h1;rw[e,if_pos rfl,qw] at h1;rw[h1,t3];unfold entW;rw[if_neg (by omega),if_neg (by omega),if_pos w2]
theorem qfyb {k i:Nat} (hk:k<m) (hi:i<m) (w3:wh=3) (k0:k≠0) :
 run tb 10 [strsD (vocN n),.sl (F.encs [Am.thy (vocN n) (BitVec.ofNat 64 k)]),.int .i64 (Am.thy (vocN n) (BitVec.ofNat 64 i)).op,.str (Am.thy (vocN n) (BitVec.ofNat 64 i)).name,.sl (F.encs (Am.thy (vocN n) (BitVec.ofNat 64 i)).args),.int .i64 1]=some [bvD (entW n wh os d k i),.int .i64 0]:=by
 obtain ⟨t1,t2,t3⟩:=h.thy hi;obtain ⟨s1,s2,s3⟩:=h.thy hk;have hn6:n≤6:=by have:=h.hn;omega
 have hv:=qzf hn6;have hvl:(vocN n).length<1000000000:=by rw[qw];omega
 have hX0:=h.n0 hk k0;generalize hg:Am.thy (vocN n) (BitVec.ofNat 64 k)=g at *;generalize hff:Am.thy (vocN n) (BitVec.ofNat 64 i)=f at *;have hmap:[g].map (modelsS (vocN n))=[BitVec.ofNat 64 k]:=by simp[s3]
 have hfe:firstE (vocN n) [g]=0:=qvn.2 fun f hf=>by rw[List.mem_singleton.1 hf];exact s2
 have hp:prE (vocN n) [g] 1=0:=by
  unfold prE;rw[if_neg (by simp[hv]),if_neg (by omega),if_neg (by simp),if_neg (by simp[hfe]),if_neg]
  rw[hmap];intro hc;have:=List.contains_iff_mem.1 hc;simp only[List.mem_cons,List.not_mem_nil,or_false] at this;exact hX0 this.symm
 have hmm:=qcbb (vocN n) hvl [g] (fun f hf=>by rw[List.mem_singleton.1 hf];omega) (by simp) f (by omega) 1
 have he:mgE (vocN n) [g] f 1=0:=by unfold mgE;rw[if_neg (by simp[hp]),t2]
 unfold mgA at hmm;rw[he,if_pos rfl,hmap,qw,t3] at hmm;rw[hmm];unfold entW mrgS;rw[if_neg (by omega),if_neg (by omega),if_neg (by omega),if_neg k0]
end
attribute [go_sem] slimL slim1 List.getElem?_toArray bne_self_eq_false Int.toNat_natCast List.length_replicate strsD numsD bvD bA srB ordB rwB qyjb qmbc qnn qkyb tabB rwsB qplb
end Go.Proofs.YtoalfckdmoahoaaGreatDoor
