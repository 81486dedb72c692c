/- The abstract machine and its reader: lemmas. -/
import Derived.Test.YtoalfckdmoahoaaGreatDoorSe3
set_option linter.unusedSimpArgs false
set_option linter.unusedVariables false
set_option linter.unusedSectionVars false
namespace Am
open Go
variable {P:Program} {G:Glob}
section
variable {T:Tab} {SG:SGlob} {σ:SS} {e e':Env} {s:Sta} {id:Nat}
theorem qyk {X R:List (List AV)} (h:WkR X R) {n:Nat} (hr:∀ r∈R,r.length=n):∀ x∈X,x.length=n:=by
 intro x hx;obtain ⟨i,hi,rfl⟩:=List.mem_iff_getElem.1 hx;have hi':i<R.length:=by rw[← h.1];exact hi
 rw[(h.2 i hi hi').1];exact hr _ (List.getElem_mem _)
theorem qzx {X:List (List AV)} {xs:List (List D)} (h:WkR X (xs.map (·.map .d))) (hw:D.WF (.sl xs)):∀ x∈X,x.all AV.one=true:=by
 intro x hx;obtain ⟨i,hi,rfl⟩:=List.mem_iff_getElem.1 hx
 have hi':i<(xs.map (·.map AV.d)).length:=by rw[← h.1];exact hi
 obtain ⟨g1,g2⟩:=h.2 i hi hi';rw[List.all_eq_true];intro a ha;obtain ⟨j,hj,rfl⟩:=List.mem_iff_getElem.1 ha;have hj':j<((xs.map (fun l:List D=>l.map AV.d))[i]).length:=by rw[← g1];exact hj
 have h3:=g2 j hj hj';simp only[List.getElem_map] at h3;have hi2:i<xs.length:=by simpa using hi'
 have hj2:j<(xs[i]).length:=by simpa using hj'
 have hwf:=hw.rows _ (List.getElem_mem hi2) _ (List.getElem_mem hj2);rcases wk_d h3 with h4|⟨f,h4,_⟩
 · rw[h4]
   revert hwf
   generalize (xs[i])[j]=d;intro hwf;cases hwf with
   | raw v hv=>exact hv
   | _=>rfl
 · rw[h4];rfl
theorem qqy (hS:Sat e σ s) {X:List (List AV)} {rows:List (List SV)} (h:WkR X (rows.map (SV.instL e (lnOf e σ.H)))) (hk:∀ r∈rows,SV.okL e.length r=true) (h1:∀ r∈rows,r.all SV.one=true):∀ x∈X,x.all AV.one=true:=by
 intro x hx;obtain ⟨i,hi,rfl⟩:=List.mem_iff_getElem.1 hx;have hi':i<(rows.map (SV.instL e (lnOf e σ.H))).length:=by rw[← h.1];exact hi
 have hi2:i<rows.length:=by simpa using hi'
 have h3:=h.2 i hi hi';simp only[List.getElem_map] at h3;exact qchb hS.wf (hk _ (List.getElem_mem hi2)) h3 (h1 _ (List.getElem_mem hi2))
section
variable (hS:Sat e σ s) (hG:GOK G SG) (hT:TOK P T)
include hS hG hT
theorem qxr {t:TypeId} {l c:Operand} {r:SR} (h:symOp T SG σ e.length id (.makeSlice t l c)=some r) (hr:runE r.em e=some e'):∃ res,UpdOK P G id (.makeSlice t l c) e e' σ s r res:=by
 have hl:=hev hS hG l;have hc:=hev hS hG c;simp only[symOp] at h
 split at h
 · rename_i tf htf;have ht:=hT _ _ htf
   split at h
   · rename_i e0 he0
     split at h
     · rename_i te hte;have hte':=hT _ _ hte
       split at h
       · rename_i z hz
         split at h
         · rename_i p q hp hq;rw[hp] at hl;rw[hq] at hc
           split at h
           · rename_i hcond;simp only[Bool.and_eq_true,beq_iff_eq,qdh] at hcond;obtain ⟨⟨⟨⟨c1,c2⟩,c3⟩,c4⟩,c5⟩:=hcond
             split at h
             · rename_i d hd;cases h;obtain ⟨o,ho,rfl⟩:=qcc hr;simp only[List.map_cons,List.map_nil] at ho;obtain ⟨k,n,h1,h2,rfl⟩:=qdvb ho;rw[← SA.beq_eq c1] at hc;simp only[SV.inst,h1] at hl hc
               have hcells:(ofVal z).cells=[.d d]:=by
                rw[← qng (e:=e) (ln:=lnOf e σ.H),qpn c3,hd];rfl
               have hone:(ofVal z).cells.all AV.one=true:=by
                rw[← qng (e:=e) (ln:=lnOf e σ.H)];exact qac hS.wf (qwdb _ z) (.refl _) c3
               have hlen:(ofVal z).cells.length=tsz P e0:=by rw[hcells,hte'.sz,← c4,hd];rfl
               have hdv:(SA.v e.length).val (e++[D.sl (List.replicate n.toNat [d])]) = .sl (List.replicate n.toNat [d]):=qr e _ []
               refine UpdOK.one hS (av:=.own id n.toNat 0 n.toNat) (blk:={ fz:=false,ap:=true,ty:=e0,sz:=tsz P e0,rows:=List.replicate n.toNat (ofVal z).cells }) ?_
                (ln:=fun x=>if x=id then n.toNat else lnOf e σ.H x) ?_ ?_ ⟨rfl,rfl,rfl,hte'.sz,?_⟩ (by simp[inL]) ⟨_,hdv⟩
               · simp only[execA,ht.elem,he0,hte'.zero,hz,qxc hl,qxc hc];rw[if_pos ⟨hte'.ti.trans c2,hone,hlen,by rw[hte'.sz];exact c5,(by trivial),h2.1,by rw[hte'.bt];exact h2.2.1,h2.2.2⟩]
               · funext x
                 rw[qdc (k:={ fz:=false,ap:=true,ty:=e0,sz:=te.sz,d:=.v e.length,tl:=[] }) rfl hdv,List.length_replicate]
               · simp only[SV.inst,if_true];exact .refl _
               · show WkR _ (SB.rows _ _ _)
                 rw[qrb (k:={ fz:=false,ap:=true,ty:=e0,sz:=te.sz,d:=.v e.length,tl:=[] }) rfl hdv,hcells];simp only[List.map_replicate,List.map_cons,List.map_nil];exact .refl _
             · simp at h
           · simp at h
         · simp at h
       · simp at h
     · simp at h
   · simp at h
 · simp at h
theorem qqsb {t t':Nat} {v:SV} {a:AV} {src:Src} {te:TF} {e0:Nat} (hw:Wk a (v.inst e (lnOf e σ.H))) (hvk:v.ok e.length=true) (he0:telem P t=some e0) (hte:tsz P e0=te.sz) (h:sSrc T σ t t' v=some src) :
 match src with
 | .at q rb=>∀ ys,q.val e = .sl ys→∃ X,rowsX P t t' s.H a=some (X,rb)∧WkR X (ys.map (·.map .d))
 | .st q=>te.sz=1→∀ l,q.val e = .str l→rowsX P t t' s.H a=some (l.map fun c=>[.d (.int .u8 c.toNat)],[])
 | .rows l rb=>(∃ X,rowsX P t t' s.H a=some (X,rb)∧WkR X (l.map (SV.instL e (lnOf e σ.H))))∧∀ r∈l,SV.okL e.length r=true:=by
 unfold sSrc at h
 split at h
 · rename_i tf tf' htf htf'
   split at h
   · rename_i q
     split at h
     · rename_i hs;cases h;intro hsz l hl;simp only[SV.inst,hl] at hw;have h1:tstr P t' = true:=(hT _ _ htf').str.trans hs;have h2:(telem P t).map (tsz P)=some 1:=by rw[he0];simp[hte,hsz]
       rw[qjm hw];simp only[rowsX,h1,h2,and_self,if_true]
     · split at h
       · rename_i htt;have htt':t=t':=by simpa using htt
         cases h;intro ys hys;simp only[SV.inst,hys] at hw;rw[qzcb hw];exact ⟨_,by simp only[rowsX,htt',if_true,rowsOf],.refl _⟩
       · simp at h
   · rename_i b _
     split at h
     · rename_i htt;have htt':t=t':=by simpa using htt
       split at h
       · rename_i k hk;obtain ⟨blk,hb,hwb,hl,hro⟩:=qoi hS hk
         have hx:rowsX P t t' s.H a=some (blk.rows,[b]):=by
          rw[qti hw];simp only[rowsX,htt',if_true];exact hro
         split at h
         · rename_i htl;cases h;intro ys hys
           have hrows:(k.inst e (lnOf e σ.H)).rows=ys.map (·.map .d):=qrb htl hys;exact ⟨_,hx,by rw[← hrows];exact hwb.2.2.2.2⟩
         · split at h
           · rename_i hn;cases h;have hrows:(k.inst e (lnOf e σ.H)).rows=_:=qwd hn;refine ⟨⟨_,hx,by rw[← hrows];exact hwb.2.2.2.2⟩,?_⟩
             have:=hS.H b k hk;simp only[SB.ok,Bool.and_eq_true,List.all_eq_true] at this;exact this.2
           · simp at h
       · simp at h
     · simp at h
   · split at h
     · rename_i htt;have htt':t=t':=by simpa using htt
       cases h;rw[qwj hw];exact ⟨⟨[],by simp only[rowsX,htt',if_true,rowsOf],.refl _⟩,by simp⟩
     · simp at h
   · simp at h
 · simp at h
theorem qjkb {args:Array Operand} {ats:Array TypeId} {r:SR} (h:symOp T SG σ e.length id (.call { callee:=.builtin .append,args,argTypes:=ats })=some r) (hok':okEm e.length r.em=true) (hr:runE r.em e=some e'):∃ res,UpdOK P G id (.call { callee:=.builtin .append,args,argTypes:=ats }) e e' σ s r res:=by
 simp only[symOp] at h
 split at h
 · rename_i so xo t t' hargs hats;have hws:=hev hS hG so;have hwx:=hev hS hG xo;have hkx:=hok hS hG xo;unfold sAppend at h
   split at h
   · simp at h
   · rename_i tf htf;have ht:=hT _ _ htf
     split at h
     · simp at h
     · rename_i e0 he0;have hte0:telem P t=some e0:=ht.elem.trans he0
       split at h
       · simp at h
       · rename_i te hte;have hte':=hT _ _ hte
         split at h
         · simp at h
         · rename_i z hz;have hz':tzero P e0=some z:=hte'.zero.trans hz
           split at h
           · rename_i hc;simp only[Bool.and_eq_true,beq_iff_eq,qdh] at hc;have c1:tin P e0=true:=hte'.ti.trans hc.1.1;have c2:z.cells.size=tsz P e0:=by rw[hte'.sz];exact hc.1.2
             have c3:0<tsz P e0:=by rw[hte'.sz];exact hc.2
             split at h
             · simp at h
             · rename_i src hsrc;have hsx:=qqsb hS hG hT (s:=s) hwx hkx hte0 hte'.sz hsrc
               split at h
               ·
                rename_i hsn;rw[hsn] at hws;have hs0:=qwj hws
                split at h
                · rename_i r0 l rb
                  split at h
                  · rename_i hcond;simp only[Bool.and_eq_true,List.all_eq_true,beq_iff_eq,Bool.not_eq_true'] at hcond;obtain ⟨⟨b1,b2⟩,b3⟩:=hcond;cases h;obtain ⟨⟨X,hX,hW⟩,hkk⟩:=hsx;have hlen:X.length=(r0::l).length:=by have:=hW.1;simpa using this
                    refine qrz (op:=.call { callee:=.builtin .append,args,argTypes:=ats }) (rb:=rb) hS hW (fun r hr=>(b3 r hr).1.1) (fun r hr=>(b3 r hr).2) ?_ hr
                    have hall:X.all (fun r=>r.length == tsz P e0&&r.all AV.one)=true:=by
                     rw[List.all_eq_true];intro x hx;simp only[Bool.and_eq_true,beq_iff_eq];refine ⟨?_,qqy hS hW hkk (fun r hr=>List.all_eq_true.2 (b3 r hr).1.2) x hx⟩
                     rw[hte'.sz]
                     exact qyk hW (n:=te.sz) (fun r hr=>by
                      obtain ⟨r',hr',rfl⟩:=List.mem_map.1 hr;rw[qx];exact (b3 r' hr').1.1) x hx
                    have hne:X≠[]:=fun hX0=>by rw[hX0] at hlen;simp at hlen
                    simp only[execA,hargs,hats,hte0,hX,hz',c1,c2,c3,hall,and_self,if_true,hs0];rw[if_pos ⟨by rw[hlen,hte'.bt];exact Nat.le_of_ble_eq_true b1,by rw[hlen];exact Nat.le_of_ble_eq_true b2⟩,if_neg hne,hte'.sz]
                  · simp at h
                · rename_i q rb;cases h;obtain ⟨o,ho,rfl⟩:=qcc hr;simp only[List.map_cons,List.map_nil] at ho;obtain ⟨ys,h1,h2,rfl⟩:=qwpb ho;obtain ⟨X,hX,hW⟩:=hsx ys h1;have hlen:X.length=ys.length:=by have:=hW.1;simpa using this
                  simp only[okEm,PO.okP,List.all_cons,List.all_nil,Bool.and_true,Bool.true_and] at hok';have hwf:D.WF (.sl ys):=by have:=SA.val_wf hS.wf hok';rwa [h1] at this
                  have hall:X.all (fun r=>r.length == tsz P e0&&r.all AV.one)=true:=by
                   rw[List.all_eq_true];intro x hx;simp only[Bool.and_eq_true,beq_iff_eq];refine ⟨?_,qzx hW hwf x hx⟩;rw[hte'.sz]
                   exact qyk hW (n:=te.sz) (fun r hr=>by
                    obtain ⟨r',hr',rfl⟩:=List.mem_map.1 hr;have:=List.all_eq_true.1 h2.2.2.2 r' hr'
                    simpa using this) x hx
                  have hne:X≠[]:=fun hX0=>by rw[hX0] at hlen;exact h2.1 (List.eq_nil_of_length_eq_zero (by simpa using hlen.symm))
                  have hd:(SA.v e.length).val (e++[D.sl ys]) = .sl ys:=qr e _ [];refine UpdOK.one hS (av:=.own id X.length 0 X.length) (blk:={ fz:=false,ap:=true,ty:=e0,sz:=tsz P e0,rows:=X }) ?_ (ln:=fun x=>if x=id then X.length else lnOf e σ.H x) ?_ ?_ ⟨rfl,rfl,rfl,hte'.sz,?_⟩ (by simp[inL]) ⟨_,hd⟩
                  · simp only[execA,hargs,hats,hte0,hX,hz',c1,c2,c3,hall,and_self,if_true,hs0];rw[if_pos ⟨by rw[hlen,hte'.bt];exact h2.2.1,by rw[hlen];exact h2.2.2.1⟩,if_neg hne]
                  · funext x
                    rw[qdc (k:={ fz:=false,ap:=true,ty:=e0,sz:=te.sz,d:=.v e.length,tl:=[] }) rfl hd,hlen]
                  · simp only[SV.inst,if_true];exact .refl _
                  · show WkR X (SB.rows _ _ _)
                    rw[qrb (k:={ fz:=false,ap:=true,ty:=e0,sz:=te.sz,d:=.v e.length,tl:=[] }) rfl hd];exact hW
                · simp at h
               ·
                rename_i b hsn;rw[hsn] at hws;have hs0:=qti hws
                split at h
                · rename_i k hk;obtain ⟨blk,hb,hwb,hl,hro⟩:=qoi hS hk
                  split at h
                  · rename_i hcond;simp only[Bool.and_eq_true,Bool.not_eq_true',beq_iff_eq] at hcond;obtain ⟨⟨⟨d1,d2⟩,d3⟩,d4⟩:=hcond;have f1:blk.fz=false:=hwb.1.trans d1;have f2:blk.ap=true:=hwb.2.1.trans d2;have f3:blk.ty=e0:=hwb.2.2.1.trans d3;have f4:blk.sz=tsz P e0:=by rw[hte'.sz];exact hwb.2.2.2.1.trans d4
                    have hex:∀ (X:List (List AV)) (rb:List Nat),rowsX P t t' s.H (evA G s.tm xo)=some (X,rb)→(∀ x∈X,x.length=te.sz∧x.all AV.one=true)→
                     (lnOf e σ.H b+X.length)*te.bt≤140737488355328→lnOf e σ.H b+X.length≤9223372036854775807→
                     execA P id (evA G s.tm) s.H (.call { callee:=.builtin .append,args,argTypes:=ats })=some { v:=.own b (lnOf e σ.H b+X.length) 0 (lnOf e σ.H b+X.length),hs:=[(b,{ blk with rows:=blk.rows++X })],rb:=b::rb }:=by
                     intro X rb hX hall g1 g2
                     have hall':X.all (fun r=>r.length == tsz P e0&&r.all AV.one)=true:=by
                      rw[List.all_eq_true];intro x hx;simp only[Bool.and_eq_true,beq_iff_eq,hte'.sz];exact hall x hx
                     simp only[execA,hargs,hats,hte0,hX,hz',c1,c2,c3,hall',and_self,if_true,hs0,hb];rw[if_pos ⟨hl,(by trivial),(by trivial),f1,f2,f3,f4,by rw[hte'.bt];exact g1,g2⟩]
                    have fin:∀ (X:List (List AV)) (o:Env) (q:SA) (xs ys:List (List D)) (rb:List Nat) (em:List (PO × List SA)),k.tl.isEmpty=true→k.d.val e = .sl xs→q.val (e++o) = .sl (xs++ys)→WkR X (ys.map (·.map .d))→
                     rowsX P t t' s.H (evA G s.tm xo)=some (X,rb)→(∀ x∈X,x.length=te.sz∧x.all AV.one=true)→(xs.length+ys.length)*te.bt≤140737488355328→xs.length+ys.length≤9223372036854775807→
                     ∃ res,UpdOK P G id (.call { callee:=.builtin .append,args,argTypes:=ats }) e (e++o) σ s { em,v:=.own b,up:=[(b,{ k with d:=q })],gr:=[b],rb:=b::rb } res:=by
                     intro X o q xs ys rb em htl hxs hq hW hX hall g1 g2;have hlen:X.length=ys.length:=by have:=hW.1;simpa using this
                     have hlb:lnOf e σ.H b=xs.length:=by rw[qk hk,qdc htl hxs]
                     have hx:=hex X rb hX hall (by rw[hlb,hlen];exact g1) (by rw[hlb,hlen];exact g2)
                     rw[hlb,hlen] at hx;refine UpdOK.one hS hx (ln:=fun x=>if x=b then xs.length+ys.length else lnOf e σ.H x) ?_ ?_ ⟨hwb.1,hwb.2.1,hwb.2.2.1,hwb.2.2.2.1,?_⟩ (by simp[inL]) ⟨_,hq⟩
                     · funext x
                       rw[qdc (k:={ k with d:=q }) htl hq,List.length_append]
                     · simp only[SV.inst,if_true];exact .refl _
                     · show WkR (blk.rows++X) (SB.rows _ _ _)
                       rw[qrb (k:={ k with d:=q }) htl hq,List.map_append]
                       have hrows:(k.inst e (lnOf e σ.H)).rows=xs.map (·.map .d):=qrb htl hxs;have h5:=hwb.2.2.2.2;rw[hrows] at h5;exact h5.append hW
                    split at h
                    · rename_i q rb
                      split at h
                      · rename_i htl;cases h;obtain ⟨o,ho,rfl⟩:=qcc hr;simp only[List.map_cons,List.map_nil] at ho;obtain ⟨xs,ys,h1,h2,h3,rfl⟩:=qjdb ho;obtain ⟨X,hX,hW⟩:=hsx ys h2;simp only[okEm,PO.okP,List.all_cons,List.all_nil,Bool.and_true,Bool.true_and,Bool.and_eq_true] at hok';have hwf:D.WF (.sl ys):=by have:=SA.val_wf hS.wf hok'.2;rwa [h2] at this
                        exact fin X _ (.v e.length) xs ys rb _ htl h1 (qr e _ []) hW hX (fun x hx=>⟨qyk hW (n:=te.sz) (fun r hr=>by
                         obtain ⟨r',hr',rfl⟩:=List.mem_map.1 hr;have:=List.all_eq_true.1 h3.2.2 r' hr'
                         simpa using this) x hx,qzx hW hwf x hx⟩) h3.1 h3.2.1
                      · simp at h
                    · rename_i q
                      split at h
                      · rename_i htl;simp only[Bool.and_eq_true,beq_iff_eq] at htl;cases h;obtain ⟨o,ho,rfl⟩:=qcc hr;simp only[List.map_cons,List.map_nil] at ho;obtain ⟨xs,l,h1,h2,h3,rfl⟩:=qiqb ho;have hX:=hsx htl.2 l h2
                        exact fin _ _ (.v e.length) xs (l.map fun c=>[.int .u8 c.toNat]) [] _ htl.1 h1 (qr e _ []) (by rw[List.map_map];exact .refl _) hX (fun x hx=>by
                         obtain ⟨c,_,rfl⟩:=List.mem_map.1 hx;exact ⟨by rw[htl.2];rfl,rfl⟩) (by simpa using h3.1) (by simpa using h3.2)
                      · simp at h
                    · rename_i l rb
                      split at h
                      · rename_i hall;simp only[List.all_eq_true,Bool.and_eq_true,beq_iff_eq,Bool.not_eq_true'] at hall;obtain ⟨⟨X,hX,hW⟩,hkk⟩:=hsx
                        have hXall:∀ x∈X,x.length=te.sz∧x.all AV.one=true:=fun x hx=>
                         ⟨qyk hW (n:=te.sz) (fun r hr=>by
                          obtain ⟨r',hr',rfl⟩:=List.mem_map.1 hr;rw[qx];exact (hall r' hr').1.1) x hx,qqy hS hW hkk (fun r hr=>List.all_eq_true.2 (hall r hr).1.2) x hx⟩
                        have hlen:X.length=l.length:=by have:=hW.1;simpa using this
                        split at h
                        · rename_i as has
                          split at h
                          · rename_i htl;cases h;obtain ⟨o,o',ho,ho',rfl⟩:=qqpb hr;obtain ⟨hl1,rfl⟩:=qdz ho;simp only[List.map_cons,List.map_nil] at ho';simp only[okEm,PO.okP,List.all_cons,List.all_nil,Bool.and_true,Bool.true_and,Bool.and_eq_true] at hok';have hkd:k.d.ok e.length=true:=by have:=hS.H b k hk;simp only[SB.ok,Bool.and_eq_true] at this;exact this.1
                            rw[SA.val_ext _ hkd,qr] at ho';obtain ⟨xs,ys,h1,h2,h3,rfl⟩:=qjdb ho'
                            have hys:ys=chunks te.sz l.length (as.map (·.val e)):=(by simpa using h2.symm)
                            have hm:=qshb hW has (fun r hr=>(hall r hr).1.1)
                            rw[← hys] at hm;refine fin X _ (.v (e.length+1)) xs ys rb _ htl h1 ?_ hm hX hXall h3.1 h3.2.1;simp[SA.val]
                          · simp at h
                        · split at h
                          · rename_i htl;cases h;obtain ⟨o,ho,rfl⟩:=qcc hr;simp only[List.map_cons,List.map_nil] at ho;obtain ⟨xs,h1,h2,rfl⟩:=qsnb ho;have hlb:lnOf e σ.H b=xs.length:=by rw[qk hk,qdc htl h1]
                            have hx:=hex X rb hX hXall (by rw[hlb,hlen];exact h2.1) (by rw[hlb,hlen];exact h2.2)
                            have hkd:k.d.ok e.length=true:=by have:=hS.H b k hk;simp only[SB.ok,Bool.and_eq_true] at this;exact this.1
                            rw[hlb,hlen] at hx
                            have hlen2:({ k with tl:=l }:SB).len e=xs.length+l.length:=by
                             simp[SB.len,h1,D.rows]
                            rw[List.append_nil];refine UpdOK.one0 hS hx (ln:=fun x=>if x=b then xs.length+l.length else lnOf e σ.H x) ?_ ?_ ⟨hwb.1,hwb.2.1,hwb.2.2.1,hwb.2.2.2.1,?_⟩ (by simp[inL]) ⟨_,h1⟩
                            · funext x;rw[hlen2]
                            · simp only[SV.inst,if_true];exact .refl _
                            · show WkR (blk.rows++X) (SB.rows _ _ _)
                              have hrows:(k.inst e (lnOf e σ.H)).rows=xs.map (·.map .d):=qrb htl h1;have h5:=hwb.2.2.2.2;rw[hrows] at h5;simp only[SB.rows,h1,D.rows];refine h5.append ?_
                              have:l.map (SV.instL e (lnOf e σ.H))=l.map (SV.instL e fun x=>if x=b then xs.length+l.length else lnOf e σ.H x):=
                               List.map_congr_left fun r hr=>qlm _ (hall r hr).2
                              rw[← this];exact hW
                          · simp at h
                      · simp at h
                  · simp at h
                · simp at h
               · simp at h
           · simp at h
 · simp at h
theorem qdmb {op:Op} {r:SR} (h:symOp T SG σ e.length id op=some r) (hok:okEm e.length r.em=true) (hr:runE r.em e=some e'):∃ res,UpdOK P G id op e e' σ s r res:=by
 cases op with
 | move x=>simp only[symOp] at h;cases h;obtain rfl:=qrc hr;exact qivb hS hG
 | assign x=>simp only[symOp] at h;cases h;obtain rfl:=qrc hr;exact qdhb hS hG
 | pick c a b=>exact qrsb hS hG h hr
 | alloc t=>exact qmnb hS hG hT h hr
 | box t x=>exact qrac hS hG h hr
 | build t ps=>exact qkpb hS hG hT h hr
 | load t a=>exact qlub hS hG hT h hr
 | store t a x=>exact qupb hS hG hT h hr
 | nilCheck x=>exact qbx hS hG h hr
 | binOp op t x y ty=>exact qiac hS hG hT h hr
 | unOp op t x=>exact qdec hS hG h hr
 | convert s t x=>exact qfbb hS hG hT h hr
 | makeFunc f a b=>exact qiw hS hG h hr
 | slice t x lo hi mx=>exact qanb hS hG hT h hok hr
 | fieldAddr t x f=>exact qhr hS hG hT h hr
 | field t x f=>exact qhmb hS hG hT h hr
 | indexAddr t x i=>exact qbs hS hG hT h hr
 | index t x i=>exact qvob hS hG hT h hr
 | extract x i=>exact qmbb hS hG h hr
 | buildSlice t n ps=>exact qzo hS hG hT h hr
 | makeSlice t l c=>exact qxr hS hG hT h hr
 | call c=>
  obtain ⟨callee,args,ats⟩:=c;cases callee with
  | builtin b=>cases b with
   | len=>exact quzb hS hG hT h hr
   | min=>exact qlzb hS hG h hr
   | max=>exact qqyb hS hG h hr
   | append=>exact qjkb hS hG hT h hok hr
   | _=>simp[symOp] at h
  | _=>simp[symOp] at h
 | _=>simp[symOp] at h
end
end
end Am

namespace Am
open Go
variable {P:Program} {G:Glob}
section
variable {T:Tab} {SG:SGlob} {σ:SS} {e e':Env} {s:Sta} {id:Nat}
theorem qncb {e:Env} {H H1:List (Option SB)} (h:∀ b,lnOf e H1 b=lnOf e H b):∀ (up:List (Nat × SB)) (b:Nat),lnOf e (setBs H1 up) b=lnOf e (setBs H up) b:=by
 intro up
 induction up generalizing H H1 with
 | nil=>exact h
 | cons p up ih=>
  simp only[setBs];exact ih fun b=>by rw[qud,qud,h]
theorem qnq {m:Nat}:∀ {up:List (Nat × SB)} {H:List (Option SB)},(∀ b k,getB H b=some k→k.ok m=true)→(∀ p∈up,p.2.ok m=true)→∀ b k,getB (setBs H up) b=some k→k.ok m=true:=by
 intro up
 induction up with
 | nil=>intro H h _ b k hk;exact h b k hk
 | cons p up ih=>
  intro H h hu b k hk;refine ih (H:=setB H p.1 p.2) (fun b k hk=>?_) (fun q hq=>hu q (by simp[hq])) b k hk
  rw[qub] at hk
  split at hk
  · cases hk;exact hu p (by simp)
  · exact h b k hk
theorem qvo {e:Env}:∀ {up:List (Nat × SB)} {H:List (Option SB)},(∀ b k,getB H b=some k→∃ xs,k.d.val e = .sl xs)→(∀ p∈up,∃ xs,p.2.d.val e = .sl xs)→∀ b k,getB (setBs H up) b=some k→∃ xs,k.d.val e = .sl xs:=by
 intro up
 induction up with
 | nil=>intro H h _ b k hk;exact h b k hk
 | cons p up ih=>
  intro H h hu b k hk;refine ih (H:=setB H p.1 p.2) (fun b k hk=>?_) (fun q hq=>hu q (by simp[hq])) b k hk
  rw[qub] at hk
  split at hk
  · cases hk;exact hu p (by simp)
  · exact h b k hk
theorem qctb {e:Env} {ln:Nat→Nat}:∀ {hs:List (Nat × Blk)} {up:List (Nat × SB)} {H:Heap} {H1:List (Option SB)},HsOK e ln hs up→(∀ b,WkO (H b) ((getB H1 b).map (·.inst e ln)))→
 ∀ b,WkO (updsH H hs b) ((getB (setBs H1 up) b).map (·.inst e ln)):=by
 intro hs
 induction hs with
 | nil=>
  intro up H H1 h hH;cases up with
  | nil=>exact hH
  | cons=>exact h.elim
 | cons p hs ih=>
  intro up H H1 h hH;cases up with
  | nil=>exact h.elim
  | cons q up=>
   obtain ⟨h1,h2,h3⟩:=h;refine ih (up:=up) (H:=updH H p.1 p.2) (H1:=setB H1 q.1 q.2) h3 fun b=>?_
   rw[qub];unfold updH;rw[h1]
   split
   · exact h2
   · exact hH b
theorem qzdc {e:Env} {ln:Nat→Nat}:∀ {hs:List (Nat × Blk)} {up:List (Nat × SB)} (nx:Nat),HsOK e ln hs up→nxAfter nx hs=nxUp nx up:=by
 intro hs
 induction hs with
 | nil=>intro up nx h;cases up with
  | nil=>rfl
  | cons=>exact h.elim
 | cons p hs ih=>intro up nx h;cases up with
  | nil=>exact h.elim
  | cons q up=>
   obtain ⟨h1,_,h3⟩:=h;simp only[nxAfter,nxUp,h1];exact ih _ h3
theorem qfwb {e:Env} {ln:Nat→Nat}:∀ {hs:List (Nat × Blk)} {up:List (Nat × SB)},HsOK e ln hs up→hs.map (·.1)=up.map (·.1):=by
 intro hs
 induction hs with
 | nil=>intro up h;cases up with
  | nil=>rfl
  | cons=>exact h.elim
 | cons p hs ih=>intro up h;cases up with
  | nil=>exact h.elim
  | cons q up=>simp only[List.map_cons,h.1,ih h.2.2]
def killed (σ:SS) (gr:List Nat):SS:=match gr with|[]=>σ|_=>σ.kill (inL gr)
theorem qtib (σ:SS) (gr:List Nat) (b:Nat):lnOf e (killed σ gr).H b=lnOf e σ.H b:=by
 unfold killed
 split
 · rfl
 · exact qdm e σ _ b
theorem qmib (σ:SS) (gr:List Nat) {ln ln':Nat→Nat} (hp:∀ b,inL gr b=false→ln b=ln' b) (t:Nat) {a:AV} (h:Wk a ((getS σ.tm t).inst e ln)):Wk a ((getS (killed σ gr).tm t).inst e ln'):=by
 unfold killed
 split
 · have:ln=ln':=funext fun b=>hp b rfl
   rw[← this];exact h
 · rw[qee];exact SV.kill_wk hp _ h
theorem qys (σ:SS) (gr:List Nat) (t m:Nat) (h:(getS σ.tm t).ok m=true):(getS (killed σ gr).tm t).ok m=true:=by
 unfold killed
 split
 · exact h
 · rw[qee];exact SV.kill_ok _ h
theorem SB.kill_ok {m:Nat} (p:Nat→Bool) {k:SB} (h:k.ok m=true):(k.kill p).ok m=true:=by
 simp only[SB.ok,SB.kill,Bool.and_eq_true,List.all_eq_true] at h ⊢;refine ⟨h.1,fun r hr=>?_⟩
 obtain ⟨r',hr',rfl⟩:=List.mem_map.1 hr;rw[SV.okL_all];intro v hv;obtain ⟨v',hv',rfl⟩:=List.mem_map.1 hv;exact SV.kill_ok _ (SV.okL_all.1 (h.2 r' hr') v' hv')
theorem qgw (σ:SS) (gr:List Nat) (m:Nat) (h:∀ b k,getB σ.H b=some k→k.ok m=true):∀ b k,getB (killed σ gr).H b=some k→k.ok m=true:=by
 unfold killed
 split
 · exact h
 · intro b k hk;rw[qic] at hk;simp only[Option.map_eq_some_iff] at hk;obtain ⟨k',hk',rfl⟩:=hk;exact SB.kill_ok _ (h b k' hk')
theorem qhw (σ:SS) (gr:List Nat) (h:∀ b k,getB σ.H b=some k→∃ xs,k.d.val e = .sl xs):∀ b k,getB (killed σ gr).H b=some k→∃ xs,k.d.val e = .sl xs:=by
 unfold killed
 split
 · exact h
 · intro b k hk;rw[qic] at hk;simp only[Option.map_eq_some_iff] at hk;obtain ⟨k',hk',rfl⟩:=hk;exact h b k' hk'
theorem qbnb (σ:SS) (gr:List Nat) {ln ln':Nat→Nat} (hp:∀ b,inL gr b=false→ln b=ln' b) (b:Nat) {a:Option Blk} (h:WkO a ((getB σ.H b).map (·.inst e ln))):WkO a ((getB (killed σ gr).H b).map (·.inst e ln')):=by
 unfold killed
 split
 · have:ln=ln':=funext fun b=>hp b rfl
   rw[← this];exact h
 · rw[qic];cases hb:getB σ.H b with
   | none=>rw[hb] at h;exact h
   | some k=>
    rw[hb] at h;cases a with
    | none=>exact h
    | some x=>
     obtain ⟨h1,h2,h3,h4,h5⟩:WkB x (k.inst e ln):=h;exact ⟨h1,h2,h3,h4,qcr hp h5⟩
theorem qfk (σ:SS) (d:Option Nat) (r:SR):σ.upd d r = { killed σ r.gr with tm:=putS (killed σ r.gr).tm d r.v,H:=setBs (killed σ r.gr).H r.up }:=by
 unfold SS.upd killed;cases r.gr<;>rfl
theorem qzh (tm:List SV) (d:Option Nat) (v:SV) (t:Nat):getS (putS tm d v) t=if d=some t then v else getS tm t:=by
 cases d with
 | none=>simp[putS]
 | some d=>
  simp only[putS,qrd,Option.some.injEq]
  by_cases h:t=d
  · simp[h]
  · rw[if_neg h,if_neg (fun e=>h e.symm)]
theorem qgib (tm:Nat→AV) (d:Option Nat) (v:AV) (t:Nat):putO tm d v t=if d=some t then v else tm t:=by
 cases d with
 | none=>simp[putO]
 | some d=>
  simp only[putO,putT,Option.some.injEq]
  by_cases h:t=d
  · simp[h]
  · rw[if_neg h,if_neg (fun e=>h e.symm)]
theorem SB.inst_ext {e:Env} (o:Env) {ln:Nat→Nat} {k:SB} (h:k.ok e.length=true):k.inst (e++o) ln=k.inst e ln:=by
 simp only[SB.ok,Bool.and_eq_true,List.all_eq_true] at h;simp only[SB.inst,SB.rows];rw[SA.val_ext o h.1]
 congr 2
 exact List.map_congr_left fun r hr=>SV.instL_ext o ln (h.2 r hr)
theorem Sat.updV (hS:Sat e σ s) {r:SR} {rv:AV} {hs:List (Nat × Blk)} {o:Env} (hwf:EWF o) (hk:r.ok (e.length+o.length)=true) (hv:Wk rv (r.v.inst (e++o) (lnU (e++o) σ r.up))) (hhs:HsOK (e++o) (lnU (e++o) σ r.up) hs r.up)
 (hul:∀ b,inL r.gr b=false→lnU (e++o) σ r.up b=lnOf e σ.H b) (husl:∀ p∈r.up,∃ xs,p.2.d.val (e++o) = .sl xs) (d:Option Nat):Sat (e++o) (σ.upd d r) { s with tm:=putO s.tm d rv,H:=updsH s.H hs }:=by
 have hln:∀ b,lnOf (e++o) (σ.upd d r).H b=lnU (e++o) σ r.up b:=by
  intro b;rw[qfk];exact qncb (fun b=>qtib σ r.gr b) r.up b
 have hlnf:lnOf (e++o) (σ.upd d r).H=lnU (e++o) σ r.up:=funext hln;have hp:∀ b,inL r.gr b=false→lnOf e σ.H b=lnU (e++o) σ r.up b:=fun b hb=>(hul b hb).symm
 simp only[SR.ok,Bool.and_eq_true,List.all_eq_true] at hk;have hm:e.length≤(e++o).length:=by simp
 have hl2:(e++o).length=e.length+o.length:=by simp
 refine ⟨hS.wf.append hwf,fun t=>?_,?_,?_,⟨?_,?_,fun t=>?_,fun b=>?_⟩⟩
 · rw[qfk]
   show (getS (putS _ d r.v) t).ok _=true
   rw[qzh]
   split
   · rw[hl2];exact hk.1
   · exact qys σ r.gr t _ (SV.ok_mono hm (hS.tm t))
 · rw[qfk];exact qnq (qgw σ r.gr _ fun b k hb=>SB.ok_mono hm (hS.H b k hb)) fun p hp=>by rw[hl2];exact hk.2 p hp
 · rw[qfk]
   exact qvo (qhw σ r.gr fun b k hb=>by
    obtain ⟨xs,hxs⟩:=hS.sl b k hb;have:=hS.H b k hb;simp only[SB.ok,Bool.and_eq_true] at this;exact ⟨xs,by rw[SA.val_ext o this.1];exact hxs⟩) husl
 · rw[qfk];show s.n=(killed σ r.gr).n;unfold killed;split<;>exact hS.wk.n
 · rw[qfk];show s.nx=(killed σ r.gr).nx;unfold killed;split<;>exact hS.wk.nx
 · show Wk (putO s.tm d rv t) ((getS (σ.upd d r).tm t).inst (e++o) (lnOf (e++o) (σ.upd d r).H))
   rw[hlnf,qfk,qgib]
   show Wk _ ((getS (putS _ d r.v) t).inst _ _)
   rw[qzh]
   split
   · exact hv
   · refine qmib σ r.gr hp t ?_;rw[SV.inst_ext o _ (hS.tm t)];exact hS.get t
 · show WkO (updsH s.H hs b) ((getB (σ.upd d r).H b).map (·.inst (e++o) (lnOf (e++o) (σ.upd d r).H)))
   rw[hlnf,qfk];refine qctb hhs (fun b=>?_) b
   refine qbnb σ r.gr hp b ?_;have:=hS.wk.H b;simp only[SS.inst] at this;cases hb:getB σ.H b with
   | none=>rw[hb] at this;exact this
   | some k=>
    rw[hb] at this;simp only[Option.map_some] at this ⊢;rw[SB.inst_ext o (hS.H b k hb)];exact this
theorem Sat.updD (hS:Sat e σ s) {op:Op} {r:SR} {res:Res} {o:Env} (hwf:EWF o) (hk:r.ok (e.length+o.length)=true) (hu:UpdOK P G id op e (e++o) σ s r res) (d:Option Nat):Sat (e++o) (σ.upd d r) (s.appD d res):=
 hS.updV hwf hk hu.v hu.hs hu.ln hu.sl d
theorem Sat.nx' (hS:Sat e σ s) (n:Nat):Sat e { σ with nx:=n } { s with nx:=n }:=
 ⟨hS.wf,hS.tm,hS.H,hS.sl,⟨hS.wk.n,rfl,hS.wk.tm,hS.wk.H⟩⟩
theorem Sat.upd (hS:Sat e σ s) {op:Op} {r:SR} {res:Res} {o:Env} (hwf:EWF o) (hk:r.ok (e.length+o.length)=true) (hu:UpdOK P G id op e (e++o) σ s r res) (d:Option Nat) :
 Sat (e++o) { σ.upd d r with nx:=nxUp σ.nx r.up } (s.app d res):=by
 have h1:=(hS.updD hwf hk hu d).nx' (nxUp σ.nx r.up)
 have:s.app d res = { s.appD d res with nx:=nxUp σ.nx r.up }:=by
  unfold Sta.app Sta.appD;have h2:s.nx=σ.nx:=hS.wk.nx;rw[qzdc s.nx hu.hs,h2]
 rw[this];exact h1
theorem Sat.skip (hS:Sat e σ s) (d:Option Nat):Sat e { σ with tm:=putS σ.tm d undefS } (s.skip d):=by
 refine ⟨hS.wf,fun t=>?_,hS.H,hS.sl,⟨hS.wk.n,hS.wk.nx,fun t=>?_,hS.wk.H⟩⟩
 · show (getS (putS σ.tm d undefS) t).ok _=true
   rw[qzh]
   split
   · rfl
   · exact hS.tm t
 · show Wk (putO s.tm d undefA t) ((getS (putS σ.tm d undefS) t).inst e (lnOf e σ.H))
   rw[qzh,qgib]
   split
   · exact .refl _
   · exact hS.get t
theorem qrn (x:Nat) (b:Bool):substTop x b .junk = .junk:=rfl
theorem Sat.subst (hS:Sat e σ s) {x:Nat} {b:Bool} (hx:(SA.v x).val e = .bool b):Sat e (σ.subst x b) s:=by
 have key:∀ v:SV,v.ok e.length=true→(substTop x b v).ok e.length=true∧∀ ln,(substTop x b v).inst e ln=v.inst e ln:=by
  intro v hv;unfold substTop
  split
  · rename_i y
    split
    · rename_i hxy;have:x=y:=by simpa using hxy
      subst this;exact ⟨rfl,fun ln=>by simp only[SV.inst];rw[hx];rfl⟩
    · exact ⟨hv,fun _=>rfl⟩
  · exact ⟨hv,fun _=>rfl⟩
 have keyL:∀ l:List SV,SV.okL e.length l=true→SV.okL e.length (l.map (substTop x b))=true∧∀ ln,SV.instL e ln (l.map (substTop x b))=SV.instL e ln l:=by
  intro l
  induction l with
  | nil=>intro _;exact ⟨rfl,fun _=>rfl⟩
  | cons a l ih=>
   intro h;simp only[SV.okL,Bool.and_eq_true] at h;obtain ⟨i1,i2⟩:=ih h.2;obtain ⟨k1,k2⟩:=key a h.1;exact ⟨by simp only[List.map_cons,SV.okL,k1,i1,Bool.and_self],fun ln=>by simp only[List.map_cons,SV.instL,k2,i2]⟩
 have hg:∀ t,getB (σ.subst x b).H t=(getB σ.H t).map (SB.substB x b):=fun t=>qmz _ t
 have hrows:∀ (k:SB),k.ok e.length=true→(SB.substB x b k).ok e.length=true∧∀ ln,(SB.substB x b k).inst e ln=k.inst e ln:=by
  intro k hk;simp only[SB.ok,Bool.and_eq_true,List.all_eq_true] at hk;refine ⟨?_,fun ln=>?_⟩
  · simp only[SB.ok,SB.substB,Bool.and_eq_true,List.all_eq_true];refine ⟨hk.1,fun r hr=>?_⟩
    obtain ⟨r0,h0,rfl⟩:=List.mem_map.1 hr;exact (keyL r0 (hk.2 r0 h0)).1
  · have : (k.tl.map (·.map (substTop x b))).map (SV.instL e ln) = k.tl.map (SV.instL e ln) := by
     rw[List.map_map];exact List.map_congr_left fun r hr=>(keyL r (hk.2 r hr)).2 ln
    simp only[SB.inst,SB.rows,SB.substB,this]
 have hln:∀ t,lnOf e (σ.subst x b).H t=lnOf e σ.H t:=by
  intro t;unfold lnOf;rw[hg];cases getB σ.H t with
  | none=>rfl
  | some k=>simp only[Option.map_some,SB.len,SB.substB,List.length_map]
 have hlnF:lnOf e (σ.subst x b).H=lnOf e σ.H:=funext hln;refine ⟨hS.wf,fun t=>?_,fun t k hk=>?_,fun t k hk=>?_,⟨hS.wk.n,hS.wk.nx,fun t=>?_,fun t=>?_⟩⟩
 · show (getS (σ.tm.map (substTop x b)) t).ok _=true
   rw[qjd (qrn x b)];exact (key _ (hS.tm t)).1
 · rw[hg] at hk;obtain ⟨k0,h0,rfl⟩:=Option.map_eq_some_iff.1 hk;exact (hrows k0 (hS.H t k0 h0)).1
 · rw[hg] at hk;obtain ⟨k0,h0,rfl⟩:=Option.map_eq_some_iff.1 hk;exact hS.sl t k0 h0
 · show Wk (s.tm t) ((getS (σ.tm.map (substTop x b)) t).inst e (lnOf e (σ.subst x b).H))
   rw[hlnF,qjd (qrn x b),(key _ (hS.tm t)).2];exact hS.get t
 · show WkO (s.H t) ((getB (σ.subst x b).H t).map (·.inst e (lnOf e (σ.subst x b).H)))
   have h0:=hS.wk.H t;simp only[SS.inst] at h0;rw[hlnF,hg,Option.map_map];cases hk:getB σ.H t with
   | none=>rw[hk] at h0;exact h0
   | some k=>
    rw[hk] at h0;simp only[Option.map_some,Function.comp] at h0 ⊢;rw[(hrows k (hS.H t k hk)).2];exact h0
theorem qek (x:Nat) (b:FuncId):substFn x b .junk = .junk:=rfl
theorem Sat.substF (hS:Sat e σ s) {x:Nat} {b:FuncId} (hx:(SA.v x).val e = .raw (.func (.func b) #[] #[])):Sat e (σ.substF x b) s:=by
 have key:∀ v:SV,v.ok e.length=true→(substFn x b v).ok e.length=true∧∀ ln,(substFn x b v).inst e ln=v.inst e ln:=by
  intro v hv;unfold substFn
  split
  · rename_i y
    split
    · rename_i hxy;have:x=y:=by simpa using hxy
      subst this;exact ⟨rfl,fun ln=>by simp only[SV.inst];rw[hx];rfl⟩
    · exact ⟨hv,fun _=>rfl⟩
  · exact ⟨hv,fun _=>rfl⟩
 refine ⟨hS.wf,fun t=>?_,hS.H,hS.sl,⟨hS.wk.n,hS.wk.nx,fun t=>?_,hS.wk.H⟩⟩
 · show (getS (σ.tm.map (substFn x b)) t).ok _=true
   rw[qjd (qek x b)];exact (key _ (hS.tm t)).1
 · show Wk (s.tm t) ((getS (σ.tm.map (substFn x b)) t).inst e (lnOf e σ.H))
   rw[qjd (qek x b),(key _ (hS.tm t)).2];exact hS.get t
theorem qam (x c:Nat):substInt x c .junk = .junk:=rfl
theorem Sat.substI (hS:Sat e σ s) {x c:Nat} (hx:(SA.v x).val e = .int .i64 c):Sat e (σ.substI x c) s:=by
 have key:∀ v:SV,v.ok e.length=true→(substInt x c v).ok e.length=true∧∀ ln,(substInt x c v).inst e ln=v.inst e ln:=by
  intro v hv;unfold substInt
  split
  · rename_i y
    split
    · rename_i hxy;have:x=y:=by simpa using hxy
      subst this;exact ⟨rfl,fun ln=>by simp only[SV.inst];rw[hx];rfl⟩
    · exact ⟨hv,fun _=>rfl⟩
  · exact ⟨hv,fun _=>rfl⟩
 refine ⟨hS.wf,fun t=>?_,hS.H,hS.sl,⟨hS.wk.n,hS.wk.nx,fun t=>?_,hS.wk.H⟩⟩
 · show (getS (σ.tm.map (substInt x c)) t).ok _=true
   rw[qjd (qam x c)];exact (key _ (hS.tm t)).1
 · show Wk (s.tm t) ((getS (σ.tm.map (substInt x c)) t).inst e (lnOf e σ.H))
   rw[qjd (qam x c),(key _ (hS.tm t)).2];exact hS.get t
theorem Sat.ext (hS:Sat e σ s) {o:Env} (hwf:EWF o):Sat (e++o) σ s:=by
 have hm:e.length≤(e++o).length:=by simp
 have hl:lnOf (e++o) σ.H=lnOf e σ.H:=funext fun b=>qmi o hS.H b
 refine ⟨hS.wf.append hwf,fun t=>SV.ok_mono hm (hS.tm t),fun b k hb=>SB.ok_mono hm (hS.H b k hb),fun b k hb=>?_,?_⟩
 · obtain ⟨xs,hxs⟩:=hS.sl b k hb;have:=hS.H b k hb;simp only[SB.ok,Bool.and_eq_true] at this;exact ⟨xs,by rw[SA.val_ext o this.1];exact hxs⟩
 · have hi : σ.inst (e ++ o) = σ.inst e := by
    unfold SS.inst;rw[hl]
    congr 1
    · funext t;exact SV.inst_ext o _ (hS.tm t)
    · funext b
      cases hb:getB σ.H b with
      | none=>rfl
      | some k=>simp only[Option.map_some];rw[SB.inst_ext o (hS.H b k hb)]
   rw[hi];exact hS.wk
theorem Sat.wanted (hS:Sat e σ s) {g:Option (Option Nat × Bool)} {b:Bool} {q:SA} (h:sWanted σ g=some (some b,q)):wantedS s.tm g=some b:=by
 unfold sWanted at h
 split at h
 · cases h;rfl
 · cases h;rfl
 · rename_i d want;have hd:=hS.get d
   split at h
   · rename_i c hc;rw[hc] at hd;cases h;simp only[wantedS,qhh hd]
   · rename_i vs hc;rw[hc] at hd;cases h;rcases wk_d hd with h1|⟨f,h1,h2⟩
     · simp only[wantedS,h1,SA.val]
     · simp[SA.val] at h2
   · cases h
   · cases h
theorem qbhb {n:Nat} {d:Option Nat} (h:dstS n d=true):dstOK n d:=by
 cases d with
 | none=>trivial
 | some d=>exact qdh.1 h
theorem qlob (hS:Sat e σ s) {r:SR} (hok:okEm e.length r.em=true) (hr:runE r.em e=some e'):∃ o,e' = e++o∧EWF o∧o.length=outsOf r.em:=by
 obtain ⟨o,rfl,hl⟩:=qvd hr;exact ⟨o,rfl,fun d hd=>qkwb hS.wf hok hr d (by simp[hd]),hl⟩
theorem qor {gi:GI} (hS:Sat e σ s) (hG:GOK G gi.SG) (hT:TOK P gi.T) {op:Op} {r:SR} (h:stepOp gi σ e.length id op=some r) (hr:runE r.em e=some e') :
 ∃ o res,e' = e++o∧EWF o∧o.length=outsOf r.em∧r.ok (e.length+o.length)=true∧UpdOK P G id op e (e++o) σ s r res:=by
 unfold stepOp at h
 split at h
 · rename_i r0 hr0
   split at h
   · rename_i hc;simp only[Bool.and_eq_true] at hc;cases h;obtain ⟨o,rfl,hwf,hl⟩:=qlob hS hc.1 hr;obtain ⟨res,hres⟩:=qdmb hS hG hT hr0 hc.1 hr;exact ⟨o,res,rfl,hwf,hl,by rw[hl];exact hc.2,hres⟩
   · simp at h
 · simp at h
end
end Am
