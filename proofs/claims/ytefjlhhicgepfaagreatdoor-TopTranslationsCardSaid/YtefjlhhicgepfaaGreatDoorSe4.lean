/- Lemmas. -/
import Derived.Test.YtefjlhhicgepfaaGreatDoorSe3
set_option linter.unusedSimpArgs false
set_option linter.unusedVariables false
set_option linter.unusedSectionVars false
open List (all_cons all_eq_true all_nil getElem_mem map_cons map_nil mem_iff_getElem mem_map replicate)
open Bool (and_eq_true)
namespace Am
open Go
variable {P:Program}{G:bl}
section
variable {T:Tab}{SG:ef}{σ:SS}{e e':Env}{s:Sta}{id:Nat}
theorem qll{X R:List (List AV)}(h:WkR X R){n:Nat}(hr:∀ r∈R,r.length=n):∀ x∈X,x.length=n:=by
 intro x hx;obtain ⟨i,hi,rfl⟩:=List.mem_iff_getElem.1 hx;have bn:i<R.length:=by rw[← h.1];exact hi
 rw[(h.2 i hi bn).1];exact hr _ (getElem_mem _)
theorem qcz{X:List (List AV)}{xs:List (List D)}(h:WkR X (xs.map (·.map .d)))(hw:D.WF (.sl xs)):∀ x∈X,x.all AV.one=true:=by
 intro x hx;obtain ⟨i,hi,rfl⟩:=List.mem_iff_getElem.1 hx
 have bn:i<(xs.map (·.map AV.d)).length:=by rw[← h.1];exact hi
 obtain ⟨g1,g2⟩:=h.2 i hi bn;rw[all_eq_true];intro a ha;obtain ⟨j,hj,rfl⟩:=List.mem_iff_getElem.1 ha;have gb:j<((xs.map (fun l:List D=>l.map AV.d))[i]).length:=by rw[← g1];exact hj
 have h3:=g2 j hj gb;simp only[List.getElem_map] at h3;have hi2:i<xs.length:=by simpa using bn
 have hj2:j<(xs[i]).length:=by simpa using gb
 have jb:=hw.rows _ (getElem_mem hi2) _ (getElem_mem hj2);rcases vl h3 with h4|⟨f,h4,_⟩
 · rw[h4]
   revert jb
   generalize (xs[i])[j]=d;intro jb;cases jb with
   | raw v hv=>exact hv
   | _=>rfl
 · rw[h4];rfl
theorem qbz(hS:Sat e σ s){X:List (List AV)}{rows:List (List SV)}(h:WkR X (rows.map (SV.instL e (ae e σ.H))))(hk:∀ r∈rows,SV.okL e.length r=true)(h1:∀ r∈rows,r.all SV.one=true):∀ x∈X,x.all AV.one=true:=by
 intro x hx;obtain ⟨i,hi,rfl⟩:=List.mem_iff_getElem.1 hx;have bn:i<(rows.map (SV.instL e (ae e σ.H))).length:=by rw[← h.1];exact hi
 have hi2:i<rows.length:=by simpa using bn
 have h3:=h.2 i hi bn;simp only[List.getElem_map] at h3;exact ajt hS.wf (hk _ (getElem_mem hi2)) h3 (h1 _ (getElem_mem hi2))
section
variable (hS:Sat e σ s)(hG:GOK G SG)(hT:TOK P T)
include hS hG hT
theorem qsr{t:TypeId}{l c:Operand}{r:SR}(h:br T SG σ e.length id (.makeSlice t l c)=some r)(hr:db r.em e=some e'):∃ res,au P G id (.makeSlice t l c) e e' σ s r res:=by
 have hl:=hev hS hG l;have hc:=hev hS hG c;simp only[br] at h
 split at h
 · rename_i tf pw;have ht:=hT _ _ pw
   split at h
   · rename_i e0 ve
     split at h
     · rename_i te wa;have dr:=hT _ _ wa
       split at h
       · rename_i z hz
         split at h
         · rename_i p q hp hq;rw[hp] at hl;rw[hq] at hc
           split at h
           · rename_i ff;simp only[and_eq_true,beq_iff_eq,qrh] at ff;obtain ⟨⟨⟨⟨c1,c2⟩,c3⟩,c4⟩,c5⟩:=ff
             split at h
             · rename_i d hd;cases h;obtain ⟨o,ho,rfl⟩:=qrc hr;simp only[map_cons,map_nil] at ho;obtain ⟨k,n,h1,h2,rfl⟩:=a5v ho;rw[← SA.beq_eq c1] at hc;simp only[SV.inst,h1] at hl hc
               have ada:(fe z).cells=[.d d]:=by
                rw[← qfh (e:=e) (ln:=ae e σ.H),qnp c3,hd];rfl
               have kv:(fe z).cells.all AV.one=true:=by
                rw[← qfh (e:=e) (ln:=ae e σ.H)];exact qgc hS.wf (agt _ z) (.refl _) c3
               have an:(fe z).cells.length=tsz P e0:=by rw[ada,dr.sz,← c4,hd];rfl
               have hdv:(SA.v e.length).val (e++[D.sl (replicate n.toNat [d])]) = .sl (replicate n.toNat [d]):=qbb e _ []
               refine au.one hS (av:=.own id n.toNat 0 n.toNat) (blk:={ fz:=false,ap:=true,ty:=e0,sz:=tsz P e0,rows:=replicate n.toNat (fe z).cells }) ?_
                (ln:=fun x=>if x=id then n.toNat else ae e σ.H x) ?_ ?_ ⟨rfl,rfl,rfl,dr.sz,?_⟩ (by simp[inL]) ⟨_,hdv⟩
               · simp only[ag,ht.elem,ve,dr.zero,hz,qbe hl,qbe hc];rw[if_pos ⟨dr.ti.trans c2,kv,an,by rw[dr.sz];exact c5,(by trivial),h2.1,by rw[dr.bt];exact h2.2.1,h2.2.2⟩]
               · funext x
                 rw[qpc (k:={ fz:=false,ap:=true,ty:=e0,sz:=te.sz,d:=.v e.length,tl:=[] }) rfl hdv,List.length_replicate]
               · simp only[SV.inst,if_true];exact .refl _
               · show WkR _ (SB.rows _ _ _)
                 rw[qyb (k:={ fz:=false,ap:=true,ty:=e0,sz:=te.sz,d:=.v e.length,tl:=[] }) rfl hdv,ada];simp only[List.map_replicate,map_cons,map_nil];exact .refl _
             · simp at h
           · simp at h
         · simp at h
       · simp at h
     · simp at h
   · simp at h
 · simp at h
theorem art{t t':Nat}{v:SV}{a:AV}{src:Src}{te:TF}{e0:Nat}(hw:Wk a (v.inst e (ae e σ.H)))(hvk:v.ok e.length=true)(ve:cb P t=some e0)(wa:tsz P e0=te.sz)(h:afy T σ t t' v=some src) :
 match src with
 | .at q rb=>∀ ys,q.val e = .sl ys→∃ X,i7 P t t' s.H a=some (X,rb)∧WkR X (ys.map (·.map .d))
 | .st q=>te.sz=1→∀ l,q.val e = .str l→i7 P t t' s.H a=some (l.map fun c=>[.d (.int .u8 c.toNat)],[])
 | .rows l rb=>(∃ X,i7 P t t' s.H a=some (X,rb)∧WkR X (l.map (SV.instL e (ae e σ.H))))∧∀ r∈l,SV.okL e.length r=true:=by
 unfold afy at h
 split at h
 · rename_i tf tf' pw atj
   split at h
   · rename_i q
     split at h
     · rename_i hs;cases h;intro de l hl;simp only[SV.inst,hl] at hw;have h1:gj P t' = true:=(hT _ _ atj).str.trans hs;have h2:(cb P t).map (tsz P)=some 1:=by rw[ve];simp[wa,de]
       rw[qpm hw];simp only[i7,h1,h2,and_self,if_true]
     · split at h
       · rename_i htt;have adb:t=t':=by simpa using htt
         cases h;intro ys xu;simp only[SV.inst,xu] at hw;rw[abh hw];exact ⟨_,by simp only[i7,adb,if_true,gu],.refl _⟩
       · simp at h
   · rename_i b _
     split at h
     · rename_i htt;have adb:t=t':=by simpa using htt
       split at h
       · rename_i k hk;obtain ⟨blk,hb,ml,hl,mn⟩:=qyi hS hk
         have hx:i7 P t t' s.H a=some (blk.rows,[b]):=by
          rw[qri hw];simp only[i7,adb,if_true];exact mn
         split at h
         · rename_i fo;cases h;intro ys xu
           have cx:(k.inst e (ae e σ.H)).rows=ys.map (·.map .d):=qyb fo xu
           exact ⟨_,hx,by rw[← cx];exact ml.2.2.2.2⟩
         · split at h
           · rename_i hn;cases h;have cx:(k.inst e (ae e σ.H)).rows=_:=qfe hn;refine ⟨⟨_,hx,by rw[← cx];exact ml.2.2.2.2⟩,?_⟩
             have:=hS.H b k hk;simp only[SB.ok,and_eq_true,all_eq_true] at this;exact this.2
           · simp at h
       · simp at h
     · simp at h
   · split at h
     · rename_i htt;have adb:t=t':=by simpa using htt
       cases h;rw[qjk hw];exact ⟨⟨[],by simp only[i7,adb,if_true,gu],.refl _⟩,by simp⟩
     · simp at h
   · simp at h
 · simp at h
theorem avu{args:Array Operand}{il:Array TypeId}{r:SR}(h:br T SG σ e.length id (.call { callee:=.builtin .append,args,argTypes:=il })=some r)(ab8:r8 e.length r.em=true)(hr:db r.em e=some e'):∃ res,au P G id (.call { callee:=.builtin .append,args,argTypes:=il }) e e' σ s r res:=by
 simp only[br] at h
 split at h
 · rename_i so xo t t' ck s8;have hws:=hev hS hG so;have hwx:=hev hS hG xo;have hkx:=hok hS hG xo;unfold aaq at h
   split at h
   · simp at h
   · rename_i tf pw;have ht:=hT _ _ pw
     split at h
     · simp at h
     · rename_i e0 ve;have uw:cb P t=some e0:=ht.elem.trans ve
       split at h
       · simp at h
       · rename_i te wa;have dr:=hT _ _ wa
         split at h
         · simp at h
         · rename_i z hz;have hz':dn P e0=some z:=dr.zero.trans hz
           split at h
           · rename_i hc;simp only[and_eq_true,beq_iff_eq,qrh] at hc;have c1:tin P e0=true:=dr.ti.trans hc.1.1;have c2:z.cells.size=tsz P e0:=by rw[dr.sz];exact hc.1.2
             have c3:0<tsz P e0:=by rw[dr.sz];exact hc.2
             split at h
             · simp at h
             · rename_i src a21;have hsx:=art hS hG hT (s:=s) hwx hkx uw dr.sz a21
               split at h
               ·
                rename_i hsn;rw[hsn] at hws;have hs0:=qjk hws
                split at h
                · rename_i r0 l rb
                  split at h
                  · rename_i ff;simp only[and_eq_true,all_eq_true,beq_iff_eq,Bool.not_eq_true'] at ff;obtain ⟨⟨b1,b2⟩,b3⟩:=ff;cases h;obtain ⟨⟨X,hX,hW⟩,hkk⟩:=hsx;have an:X.length=(r0::l).length:=by have:=hW.1;simpa using this
                    refine qyz (op:=.call { callee:=.builtin .append,args,argTypes:=il }) (rb:=rb) hS hW (fun r hr=>(b3 r hr).1.1) (fun r hr=>(b3 r hr).2) ?_ hr
                    have eu:X.all (fun r=>r.length == tsz P e0&&r.all AV.one)=true:=by
                     rw[all_eq_true];intro x hx;simp only[and_eq_true,beq_iff_eq];refine ⟨?_,qbz hS hW hkk (fun r hr=>List.all_eq_true.2 (b3 r hr).1.2) x hx⟩
                     rw[dr.sz]
                     exact qll hW (n:=te.sz) (fun r hr=>by
                      obtain ⟨r',ei,rfl⟩:=List.mem_map.1 hr;rw[qgb];exact (b3 r' ei).1.1) x hx
                    have dc:X≠[]:=fun hX0=>by rw[hX0] at an;simp at an
                    simp only[ag,ck,s8,uw,hX,hz',c1,c2,c3,eu,and_self,if_true,hs0];rw[if_pos ⟨by rw[an,dr.bt];exact Nat.le_of_ble_eq_true b1,by rw[an];exact Nat.le_of_ble_eq_true b2⟩,if_neg dc,dr.sz]
                  · simp at h
                · rename_i q rb;cases h;obtain ⟨o,ho,rfl⟩:=qrc hr;simp only[map_cons,map_nil] at ho;obtain ⟨ys,h1,h2,rfl⟩:=a54 ho;obtain ⟨X,hX,hW⟩:=hsx ys h1;have an:X.length=ys.length:=by have:=hW.1;simpa using this
                  simp only[r8,PO.okP,all_cons,all_nil,Bool.and_true,Bool.true_and] at ab8;have jb:D.WF (.sl ys):=by have:=SA.val_wf hS.wf ab8;rwa [h1] at this
                  have eu:X.all (fun r=>r.length == tsz P e0&&r.all AV.one)=true:=by
                   rw[all_eq_true];intro x hx;simp only[and_eq_true,beq_iff_eq];refine ⟨?_,qcz hW jb x hx⟩;rw[dr.sz]
                   exact qll hW (n:=te.sz) (fun r hr=>by
                    obtain ⟨r',ei,rfl⟩:=List.mem_map.1 hr;have:=List.all_eq_true.1 h2.2.2.2 r' ei
                    simpa using this) x hx
                  have dc:X≠[]:=fun hX0=>by rw[hX0] at an;exact h2.1 (List.eq_nil_of_length_eq_zero (by simpa using an.symm))
                  have hd:(SA.v e.length).val (e++[D.sl ys]) = .sl ys:=qbb e _ [];refine au.one hS (av:=.own id X.length 0 X.length) (blk:={ fz:=false,ap:=true,ty:=e0,sz:=tsz P e0,rows:=X }) ?_ (ln:=fun x=>if x=id then X.length else ae e σ.H x) ?_ ?_ ⟨rfl,rfl,rfl,dr.sz,?_⟩ (by simp[inL]) ⟨_,hd⟩
                  · simp only[ag,ck,s8,uw,hX,hz',c1,c2,c3,eu,and_self,if_true,hs0];rw[if_pos ⟨by rw[an,dr.bt];exact h2.2.1,by rw[an];exact h2.2.2.1⟩,if_neg dc]
                  · funext x
                    rw[qpc (k:={ fz:=false,ap:=true,ty:=e0,sz:=te.sz,d:=.v e.length,tl:=[] }) rfl hd,an]
                  · simp only[SV.inst,if_true];exact .refl _
                  · show WkR X (SB.rows _ _ _)
                    rw[qyb (k:={ fz:=false,ap:=true,ty:=e0,sz:=te.sz,d:=.v e.length,tl:=[] }) rfl hd];exact hW
                · simp at h
               ·
                rename_i b hsn;rw[hsn] at hws;have hs0:=qri hws
                split at h
                · rename_i k hk;obtain ⟨blk,hb,ml,hl,mn⟩:=qyi hS hk
                  split at h
                  · rename_i ff;simp only[and_eq_true,Bool.not_eq_true',beq_iff_eq] at ff;obtain ⟨⟨⟨d1,d2⟩,d3⟩,d4⟩:=ff;have f1:blk.fz=false:=ml.1.trans d1;have f2:blk.ap=true:=ml.2.1.trans d2;have f3:blk.ty=e0:=ml.2.2.1.trans d3;have f4:blk.sz=tsz P e0:=by rw[dr.sz];exact ml.2.2.2.1.trans d4
                    have ip:∀ (X:List (List AV)) (rb:List Nat),i7 P t t' s.H (evA G s.tm xo)=some (X,rb)→(∀ x∈X,x.length=te.sz∧x.all AV.one=true)→
                     (ae e σ.H b+X.length)*te.bt≤140737488355328→ae e σ.H b+X.length≤9223372036854775807→
                     ag P id (evA G s.tm) s.H (.call { callee:=.builtin .append,args,argTypes:=il })=some { v:=.own b (ae e σ.H b+X.length) 0 (ae e σ.H b+X.length),hs:=[(b,{ blk with rows:=blk.rows++X })],rb:=b::rb }:=by
                     intro X rb hX eu g1 g2
                     have anw:X.all (fun r=>r.length == tsz P e0&&r.all AV.one)=true:=by
                      rw[all_eq_true];intro x hx;simp only[and_eq_true,beq_iff_eq,dr.sz];exact eu x hx
                     simp only[ag,ck,s8,uw,hX,hz',c1,c2,c3,anw,and_self,if_true,hs0,hb];rw[if_pos ⟨hl,(by trivial),(by trivial),f1,f2,f3,f4,by rw[dr.bt];exact g1,g2⟩]
                    have fin:∀ (X:List (List AV)) (o:Env) (q:SA) (xs ys:List (List D)) (rb:List Nat) (em:List (PO × List SA)),k.tl.isEmpty=true→k.d.val e = .sl xs→q.val (e++o) = .sl (xs++ys)→WkR X (ys.map (·.map .d))→
                     i7 P t t' s.H (evA G s.tm xo)=some (X,rb)→(∀ x∈X,x.length=te.sz∧x.all AV.one=true)→(xs.length+ys.length)*te.bt≤140737488355328→xs.length+ys.length≤9223372036854775807→
                     ∃ res,au P G id (.call { callee:=.builtin .append,args,argTypes:=il }) e (e++o) σ s { em,v:=.own b,up:=[(b,{ k with d:=q })],gr:=[b],rb:=b::rb } res:=by
                     intro X o q xs ys rb em fo l4 hq hW hX eu g1 g2;have an:X.length=ys.length:=by have:=hW.1;simpa using this
                     have yn:ae e σ.H b=xs.length:=by rw[qr hk,qpc fo l4]
                     have hx:=ip X rb hX eu (by rw[yn,an];exact g1) (by rw[yn,an];exact g2)
                     rw[yn,an] at hx;refine au.one hS hx (ln:=fun x=>if x=b then xs.length+ys.length else ae e σ.H x) ?_ ?_ ⟨ml.1,ml.2.1,ml.2.2.1,ml.2.2.2.1,?_⟩ (by simp[inL]) ⟨_,hq⟩
                     · funext x
                       rw[qpc (k:={ k with d:=q }) fo hq,List.length_append]
                     · simp only[SV.inst,if_true];exact .refl _
                     · show WkR (blk.rows++X) (SB.rows _ _ _)
                       rw[qyb (k:={ k with d:=q }) fo hq,List.map_append]
                       have cx:(k.inst e (ae e σ.H)).rows=xs.map (·.map .d):=qyb fo l4
                       have h5:=ml.2.2.2.2;rw[cx] at h5;exact h5.append hW
                    split at h
                    · rename_i q rb
                      split at h
                      · rename_i fo;cases h;obtain ⟨o,ho,rfl⟩:=qrc hr;simp only[map_cons,map_nil] at ho;obtain ⟨xs,ys,h1,h2,h3,rfl⟩:=aj5 ho;obtain ⟨X,hX,hW⟩:=hsx ys h2;simp only[r8,PO.okP,all_cons,all_nil,Bool.and_true,Bool.true_and,and_eq_true] at ab8;have jb:D.WF (.sl ys):=by have:=SA.val_wf hS.wf ab8.2;rwa [h2] at this
                        exact fin X _ (.v e.length) xs ys rb _ fo h1 (qbb e _ []) hW hX (fun x hx=>⟨qll hW (n:=te.sz) (fun r hr=>by
                         obtain ⟨r',ei,rfl⟩:=List.mem_map.1 hr;have:=List.all_eq_true.1 h3.2.2 r' ei
                         simpa using this) x hx,qcz hW jb x hx⟩) h3.1 h3.2.1
                      · simp at h
                    · rename_i q
                      split at h
                      · rename_i fo;simp only[and_eq_true,beq_iff_eq] at fo;cases h;obtain ⟨o,ho,rfl⟩:=qrc hr;simp only[map_cons,map_nil] at ho;obtain ⟨xs,l,h1,h2,h3,rfl⟩:=avh ho;have hX:=hsx fo.2 l h2
                        exact fin _ _ (.v e.length) xs (l.map fun c=>[.int .u8 c.toNat]) [] _ fo.1 h1 (qbb e _ []) (by rw[List.map_map];exact .refl _) hX (fun x hx=>by
                         obtain ⟨c,_,rfl⟩:=List.mem_map.1 hx;exact ⟨by rw[fo.2];rfl,rfl⟩) (by simpa using h3.1) (by simpa using h3.2)
                      · simp at h
                    · rename_i l rb
                      split at h
                      · rename_i eu;simp only[all_eq_true,and_eq_true,beq_iff_eq,Bool.not_eq_true'] at eu;obtain ⟨⟨X,hX,hW⟩,hkk⟩:=hsx
                        have hXall:∀ x∈X,x.length=te.sz∧x.all AV.one=true:=fun x hx=>
                         ⟨qll hW (n:=te.sz) (fun r hr=>by
                          obtain ⟨r',ei,rfl⟩:=List.mem_map.1 hr;rw[qgb];exact (eu r' ei).1.1) x hx,qbz hS hW hkk (fun r hr=>List.all_eq_true.2 (eu r hr).1.2) x hx⟩
                        have an:X.length=l.length:=by have:=hW.1;simpa using this
                        split at h
                        · rename_i as has
                          split at h
                          · rename_i fo;cases h;obtain ⟨o,o',ho,u5,rfl⟩:=adx hr;obtain ⟨xt,rfl⟩:=adv ho;simp only[map_cons,map_nil] at u5;simp only[r8,PO.okP,all_cons,all_nil,Bool.and_true,Bool.true_and,and_eq_true] at ab8;have hkd:k.d.ok e.length=true:=by have:=hS.H b k hk;simp only[SB.ok,and_eq_true] at this;exact this.1
                            rw[SA.val_ext _ hkd,qbb] at u5;obtain ⟨xs,ys,h1,h2,h3,rfl⟩:=aj5 u5
                            have xu:ys=dp te.sz l.length (as.map (·.val e)):=(by simpa using h2.symm)
                            have hm:=ah9 hW has (fun r hr=>(eu r hr).1.1)
                            rw[← xu] at hm;refine fin X _ (.v (e.length+1)) xs ys rb _ fo h1 ?_ hm hX hXall h3.1 h3.2.1;simp[SA.val]
                          · simp at h
                        · split at h
                          · rename_i fo;cases h;obtain ⟨o,ho,rfl⟩:=qrc hr;simp only[map_cons,map_nil] at ho;obtain ⟨xs,h1,h2,rfl⟩:=azn ho;have yn:ae e σ.H b=xs.length:=by rw[qr hk,qpc fo h1]
                            have hx:=ip X rb hX hXall (by rw[yn,an];exact h2.1) (by rw[yn,an];exact h2.2)
                            have hkd:k.d.ok e.length=true:=by have:=hS.H b k hk;simp only[SB.ok,and_eq_true] at this;exact this.1
                            rw[yn,an] at hx
                            have aa4:({ k with tl:=l }:SB).len e=xs.length+l.length:=by
                             simp[SB.len,h1,D.rows]
                            rw[List.append_nil];refine au.one0 hS hx (ln:=fun x=>if x=b then xs.length+l.length else ae e σ.H x) ?_ ?_ ⟨ml.1,ml.2.1,ml.2.2.1,ml.2.2.2.1,?_⟩ (by simp[inL]) ⟨_,h1⟩
                            · funext x;rw[aa4]
                            · simp only[SV.inst,if_true];exact .refl _
                            · show WkR (blk.rows++X) (SB.rows _ _ _)
                              have cx:(k.inst e (ae e σ.H)).rows=xs.map (·.map .d):=qyb fo h1
                              have h5:=ml.2.2.2.2;rw[cx] at h5;simp only[SB.rows,h1,D.rows];refine h5.append ?_
                              have:l.map (SV.instL e (ae e σ.H))=l.map (SV.instL e fun x=>if x=b then xs.length+l.length else ae e σ.H x):=
                               List.map_congr_left fun r hr=>qnm _ (eu r hr).2
                              rw[← this];exact hW
                          · simp at h
                      · simp at h
                  · simp at h
                · simp at h
               · simp at h
           · simp at h
 · simp at h
theorem a2i{op:Op}{r:SR}(h:br T SG σ e.length id op=some r)(hok:r8 e.length r.em=true)(hr:db r.em e=some e'):∃ res,au P G id op e e' σ s r res:=by
 cases op with
 | move x=>simp only[br] at h;cases h;obtain rfl:=qdd hr;exact az5 hS hG
 | assign x=>simp only[br] at h;cases h;obtain rfl:=qdd hr;exact au5 hS hG
 | pick c a b=>exact a20 hS hG h hr
 | alloc t=>exact arq hS hG hT h hr
 | box t x=>exact apj hS hG h hr
 | build t ps=>exact aqr hS hG hT h hr
 | load t a=>exact ap6 hS hG hT h hr
 | store t a x=>exact a2n hS hG hT h hr
 | nilCheck x=>exact qey hS hG h hr
 | binOp op t x y ty=>exact ax8 hS hG hT h hr
 | unOp op t x=>exact azh hS hG h hr
 | convert s t x=>exact aqm hS hG hT h hr
 | makeFunc f a b=>exact qmv hS hG h hr
 | slice t x lo hi mx=>exact atl hS hG hT h hok hr
 | fieldAddr t x f=>exact qks hS hG hT h hr
 | field t x f=>exact aqy hS hG hT h hr
 | indexAddr t x i=>exact qou hS hG hT h hr
 | index t x i=>exact a09 hS hG hT h hr
 | extract x i=>exact ap9 hS hG h hr
 | buildSlice t n ps=>exact qer hS hG hT h hr
 | makeSlice t l c=>exact qsr hS hG hT h hr
 | call c=>
  obtain ⟨callee,args,il⟩:=c;cases callee with
  | builtin b=>cases b with
   | len=>exact ary hS hG hT h hr
   | min=>exact a1p hS hG h hr
   | max=>exact a01 hS hG h hr
   | append=>exact avu hS hG hT h hok hr
   | _=>simp[br] at h
  | _=>simp[br] at h
 | _=>simp[br] at h
end
end
end Am

namespace Am
open Go
variable {P:Program}{G:bl}
section
variable {T:Tab}{SG:ef}{σ:SS}{e e':Env}{s:Sta}{id:Nat}
theorem a4m{e:Env}{H H1:List (Option SB)}(h:∀ b,ae e H1 b=ae e H b):∀ (up:List (Nat × SB)) (b:Nat),ae e (jz H1 up) b=ae e (jz H up) b:=by
 intro up
 induction up generalizing H H1 with
 | nil=>exact h
 | cons p up ih=>
  simp only[jz];exact ih fun b=>by rw[qge,qge,h]
theorem qaq{m:Nat}:∀ {up:List (Nat × SB)} {H:List (Option SB)},(∀ b k,am H b=some k→k.ok m=true)→(∀ p∈up,p.2.ok m=true)→∀ b k,am (jz H up) b=some k→k.ok m=true:=by
 intro up
 induction up with
 | nil=>intro H h _ b k hk;exact h b k hk
 | cons p up ih=>
  intro H h hu b k hk;refine ih (H:=g9 H p.1 p.2) (fun b k hk=>?_) (fun q hq=>hu q (by simp[hq])) b k hk
  rw[qbc] at hk
  split at hk
  · cases hk;exact hu p (by simp)
  · exact h b k hk
theorem qhq{e:Env}:∀ {up:List (Nat × SB)} {H:List (Option SB)},(∀ b k,am H b=some k→∃ xs,k.d.val e = .sl xs)→(∀ p∈up,∃ xs,p.2.d.val e = .sl xs)→∀ b k,am (jz H up) b=some k→∃ xs,k.d.val e = .sl xs:=by
 intro up
 induction up with
 | nil=>intro H h _ b k hk;exact h b k hk
 | cons p up ih=>
  intro H h hu b k hk;refine ih (H:=g9 H p.1 p.2) (fun b k hk=>?_) (fun q hq=>hu q (by simp[hq])) b k hk
  rw[qbc] at hk
  split at hk
  · cases hk;exact hu p (by simp)
  · exact h b k hk
theorem avx{e:Env}{ln:Nat→Nat}:∀ {hs:List (Nat × Blk)} {up:List (Nat × SB)} {H:ba} {H1:List (Option SB)},yp e ln hs up→(∀ b,WkO (H b) ((am H1 b).map (·.inst e ln)))→
 ∀ b,WkO (cd H hs b) ((am (jz H1 up) b).map (·.inst e ln)):=by
 intro hs
 induction hs with
 | nil=>
  intro up H H1 h hH;cases up with
  | nil=>exact hH
  | cons=>exact h.elim
 | cons p hs ih=>
  intro up H H1 h hH;cases up with
  | nil=>exact h.elim
  | cons q up=>
   obtain ⟨h1,h2,h3⟩:=h;refine ih (up:=up) (H:=co H p.1 p.2) (H1:=g9 H1 q.1 q.2) h3 fun b=>?_
   rw[qbc];unfold co;rw[h1]
   split
   · exact h2
   · exact hH b
theorem at4{e:Env}{ln:Nat→Nat}:∀ {hs:List (Nat × Blk)} {up:List (Nat × SB)} (nx:Nat),yp e ln hs up→fy nx hs=p5 nx up:=by
 intro hs
 induction hs with
 | nil=>intro up nx h;cases up with
  | nil=>rfl
  | cons=>exact h.elim
 | cons p hs ih=>intro up nx h;cases up with
  | nil=>exact h.elim
  | cons q up=>
   obtain ⟨h1,_,h3⟩:=h;simp only[fy,p5,h1];exact ih _ h3
theorem aym{e:Env}{ln:Nat→Nat}:∀ {hs:List (Nat × Blk)} {up:List (Nat × SB)},yp e ln hs up→hs.map (·.1)=up.map (·.1):=by
 intro hs
 induction hs with
 | nil=>intro up h;cases up with
  | nil=>rfl
  | cons=>exact h.elim
 | cons p hs ih=>intro up h;cases up with
  | nil=>exact h.elim
  | cons q up=>simp only[map_cons,h.1,ih h.2.2]
def ee(σ:SS)(gr:List Nat):SS:=match gr with|[]=>σ|_=>σ.kill (inL gr)
theorem avv(σ:SS)(gr:List Nat)(b:Nat):ae e (ee σ gr).H b=ae e σ.H b:=by
 unfold ee
 split
 · rfl
 · exact qzl e σ _ b
theorem api(σ:SS)(gr:List Nat){ln ln':Nat→Nat}(hp:∀ b,inL gr b=false→ln b=ln' b)(t:Nat){a:AV}(h:Wk a ((bo σ.tm t).inst e ln)):Wk a ((bo (ee σ gr).tm t).inst e ln'):=by
 unfold ee
 split
 · have:ln=ln':=funext fun b=>hp b rfl
   rw[← this];exact h
 · rw[qoe];exact SV.kill_wk hp _ h
theorem qhv(σ:SS)(gr:List Nat)(t m:Nat)(h:(bo σ.tm t).ok m=true):(bo (ee σ gr).tm t).ok m=true:=by
 unfold ee
 split
 · exact h
 · rw[qoe];exact SV.kill_ok _ h
theorem SB.kill_ok{m:Nat}(p:Nat→Bool){k:SB}(h:k.ok m=true):(k.kill p).ok m=true:=by
 simp only[SB.ok,SB.kill,and_eq_true,all_eq_true] at h ⊢;refine ⟨h.1,fun r hr=>?_⟩
 obtain ⟨r',ei,rfl⟩:=List.mem_map.1 hr;rw[SV.okL_all];intro v hv;obtain ⟨v',hv',rfl⟩:=List.mem_map.1 hv;exact SV.kill_ok _ (SV.okL_all.1 (h.2 r' ei) v' hv')
theorem qqy(σ:SS)(gr:List Nat)(m:Nat)(h:∀ b k,am σ.H b=some k→k.ok m=true):∀ b k,am (ee σ gr).H b=some k→k.ok m=true:=by
 unfold ee
 split
 · exact h
 · intro b k hk;rw[qsc] at hk;simp only[Option.map_eq_some_iff] at hk;obtain ⟨k',lu,rfl⟩:=hk;exact SB.kill_ok _ (h b k' lu)
theorem qay(σ:SS)(gr:List Nat)(h:∀ b k,am σ.H b=some k→∃ xs,k.d.val e = .sl xs):∀ b k,am (ee σ gr).H b=some k→∃ xs,k.d.val e = .sl xs:=by
 unfold ee
 split
 · exact h
 · intro b k hk;rw[qsc] at hk;simp only[Option.map_eq_some_iff] at hk;obtain ⟨k',lu,rfl⟩:=hk;exact h b k' lu
theorem a2l(σ:SS)(gr:List Nat){ln ln':Nat→Nat}(hp:∀ b,inL gr b=false→ln b=ln' b)(b:Nat){a:Option Blk}(h:WkO a ((am σ.H b).map (·.inst e ln))):WkO a ((am (ee σ gr).H b).map (·.inst e ln')):=by
 unfold ee
 split
 · have:ln=ln':=funext fun b=>hp b rfl
   rw[← this];exact h
 · rw[qsc];cases hb:am σ.H b with
   | none=>rw[hb] at h;exact h
   | some k=>
    rw[hb] at h;cases a with
    | none=>exact h
    | some x=>
     obtain ⟨h1,h2,h3,h4,h5⟩:WkB x (k.inst e ln):=h;exact ⟨h1,h2,h3,h4,qst hp h5⟩
theorem quk(σ:SS)(d:Option Nat)(r:SR):σ.upd d r = { ee σ r.gr with tm:=tg (ee σ r.gr).tm d r.v,H:=jz (ee σ r.gr).H r.up }:=by
 unfold SS.upd ee;cases r.gr<;>rfl
theorem qqj(tm:List SV)(d:Option Nat)(v:SV)(t:Nat):bo (tg tm d v) t=if d=some t then v else bo tm t:=by
 cases d with
 | none=>simp[tg]
 | some d=>
  simp only[tg,qee,Option.some.injEq]
  by_cases h:t=d
  · simp[h]
  · rw[if_neg h,if_neg (fun e=>h e.symm)]
theorem anq(tm:Nat→AV)(d:Option Nat)(v:AV)(t:Nat):mw tm d v t=if d=some t then v else tm t:=by
 cases d with
 | none=>simp[mw]
 | some d=>
  simp only[mw,nr,Option.some.injEq]
  by_cases h:t=d
  · simp[h]
  · rw[if_neg h,if_neg (fun e=>h e.symm)]
theorem SB.inst_ext{e:Env}(o:Env){ln:Nat→Nat}{k:SB}(h:k.ok e.length=true):k.inst (e++o) ln=k.inst e ln:=by
 simp only[SB.ok,and_eq_true,all_eq_true] at h;simp only[SB.inst,SB.rows];rw[SA.val_ext o h.1]
 congr 2
 exact List.map_congr_left fun r hr=>SV.instL_ext o ln (h.2 r hr)
theorem Sat.updV(hS:Sat e σ s){r:SR}{rv:AV}{hs:List (Nat × Blk)}{o:Env}(jb:EWF o)(hk:r.ok (e.length+o.length)=true)(hv:Wk rv (r.v.inst (e++o) (lnU (e++o) σ r.up)))(hhs:yp (e++o) (lnU (e++o) σ r.up) hs r.up)
 (hul:∀ b,inL r.gr b=false→lnU (e++o) σ r.up b=ae e σ.H b) (asf:∀ p∈r.up,∃ xs,p.2.d.val (e++o) = .sl xs) (d:Option Nat):Sat (e++o) (σ.upd d r) { s with tm:=mw s.tm d rv,H:=cd s.H hs }:=by
 have lx:∀ b,ae (e++o) (σ.upd d r).H b=lnU (e++o) σ r.up b:=by
  intro b;rw[quk];exact a4m (fun b=>avv σ r.gr b) r.up b
 have aj4:ae (e++o) (σ.upd d r).H=lnU (e++o) σ r.up:=funext lx;have hp:∀ b,inL r.gr b=false→ae e σ.H b=lnU (e++o) σ r.up b:=fun b hb=>(hul b hb).symm
 simp only[SR.ok,and_eq_true,all_eq_true] at hk;have hm:e.length≤(e++o).length:=by simp
 have hl2:(e++o).length=e.length+o.length:=by simp
 refine ⟨hS.wf.append jb,fun t=>?_,?_,?_,⟨?_,?_,fun t=>?_,fun b=>?_⟩⟩
 · rw[quk]
   show (bo (tg _ d r.v) t).ok _=true
   rw[qqj]
   split
   · rw[hl2];exact hk.1
   · exact qhv σ r.gr t _ (SV.ok_mono hm (hS.tm t))
 · rw[quk];exact qaq (qqy σ r.gr _ fun b k hb=>SB.ok_mono hm (hS.H b k hb)) fun p hp=>by rw[hl2];exact hk.2 p hp
 · rw[quk]
   exact qhq (qay σ r.gr fun b k hb=>by
    obtain ⟨xs,l4⟩:=hS.sl b k hb;have:=hS.H b k hb;simp only[SB.ok,and_eq_true] at this;exact ⟨xs,by rw[SA.val_ext o this.1];exact l4⟩) asf
 · rw[quk];show s.n=(ee σ r.gr).n;unfold ee;split<;>exact hS.wk.n
 · rw[quk];show s.nx=(ee σ r.gr).nx;unfold ee;split<;>exact hS.wk.nx
 · show Wk (mw s.tm d rv t) ((bo (σ.upd d r).tm t).inst (e++o) (ae (e++o) (σ.upd d r).H))
   rw[aj4,quk,anq]
   show Wk _ ((bo (tg _ d r.v) t).inst _ _)
   rw[qqj]
   split
   · exact hv
   · refine api σ r.gr hp t ?_;rw[SV.inst_ext o _ (hS.tm t)];exact hS.get t
 · show WkO (cd s.H hs b) ((am (σ.upd d r).H b).map (·.inst (e++o) (ae (e++o) (σ.upd d r).H)))
   rw[aj4,quk];refine avx hhs (fun b=>?_) b
   refine a2l σ r.gr hp b ?_;have:=hS.wk.H b;simp only[SS.inst] at this;cases hb:am σ.H b with
   | none=>rw[hb] at this;exact this
   | some k=>
    rw[hb] at this;simp only[Option.map_some] at this ⊢;rw[SB.inst_ext o (hS.H b k hb)];exact this
theorem Sat.updD(hS:Sat e σ s){op:Op}{r:SR}{res:Res}{o:Env}(jb:EWF o)(hk:r.ok (e.length+o.length)=true)(hu:au P G id op e (e++o) σ s r res)(d:Option Nat):Sat (e++o) (σ.upd d r) (s.appD d res):=
 hS.updV jb hk hu.v hu.hs hu.ln hu.sl d
theorem Sat.nx'(hS:Sat e σ s)(n:Nat):Sat e { σ with nx:=n } { s with nx:=n }:=
 ⟨hS.wf,hS.tm,hS.H,hS.sl,⟨hS.wk.n,rfl,hS.wk.tm,hS.wk.H⟩⟩
theorem Sat.upd(hS:Sat e σ s){op:Op}{r:SR}{res:Res}{o:Env}(jb:EWF o)(hk:r.ok (e.length+o.length)=true)(hu:au P G id op e (e++o) σ s r res)(d:Option Nat) :
 Sat (e++o) { σ.upd d r with nx:=p5 σ.nx r.up } (s.app d res):=by
 have h1:=(hS.updD jb hk hu d).nx' (p5 σ.nx r.up)
 have:s.app d res = { s.appD d res with nx:=p5 σ.nx r.up }:=by
  unfold Sta.app Sta.appD;have h2:s.nx=σ.nx:=hS.wk.nx;rw[at4 s.nx hu.hs,h2]
 rw[this];exact h1
theorem Sat.skip(hS:Sat e σ s)(d:Option Nat):Sat e { σ with tm:=tg σ.tm d u7 } (s.skip d):=by
 refine ⟨hS.wf,fun t=>?_,hS.H,hS.sl,⟨hS.wk.n,hS.wk.nx,fun t=>?_,hS.wk.H⟩⟩
 · show (bo (tg σ.tm d u7) t).ok _=true
   rw[qqj]
   split
   · rfl
   · exact hS.tm t
 · show Wk (mw s.tm d nb t) ((bo (tg σ.tm d u7) t).inst e (ae e σ.H))
   rw[qqj,anq]
   split
   · exact .refl _
   · exact hS.get t
theorem qap(x:Nat)(b:Bool):kq x b .junk = .junk:=rfl
theorem Sat.subst(hS:Sat e σ s){x:Nat}{b:Bool}(hx:(SA.v x).val e = .bool b):Sat e (σ.subst x b) s:=by
 have key:∀ v:SV,v.ok e.length=true→(kq x b v).ok e.length=true∧∀ ln,(kq x b v).inst e ln=v.inst e ln:=by
  intro v hv;unfold kq
  split
  · rename_i y
    split
    · rename_i hxy;have:x=y:=by simpa using hxy
      subst this;exact ⟨rfl,fun ln=>by simp only[SV.inst];rw[hx];rfl⟩
    · exact ⟨hv,fun _=>rfl⟩
  · exact ⟨hv,fun _=>rfl⟩
 refine ⟨hS.wf,fun t=>?_,hS.H,hS.sl,⟨hS.wk.n,hS.wk.nx,fun t=>?_,hS.wk.H⟩⟩
 · show (bo (σ.tm.map (kq x b)) t).ok _=true
   rw[qwd (qap x b)];exact (key _ (hS.tm t)).1
 · show Wk (s.tm t) ((bo (σ.tm.map (kq x b)) t).inst e (ae e σ.H))
   rw[qwd (qap x b),(key _ (hS.tm t)).2];exact hS.get t
theorem qzk(x:Nat)(b:FuncId):l8 x b .junk = .junk:=rfl
theorem Sat.substF(hS:Sat e σ s){x:Nat}{b:FuncId}(hx:(SA.v x).val e = .raw (.func (.func b) #[] #[])):Sat e (σ.substF x b) s:=by
 have key:∀ v:SV,v.ok e.length=true→(l8 x b v).ok e.length=true∧∀ ln,(l8 x b v).inst e ln=v.inst e ln:=by
  intro v hv;unfold l8
  split
  · rename_i y
    split
    · rename_i hxy;have:x=y:=by simpa using hxy
      subst this;exact ⟨rfl,fun ln=>by simp only[SV.inst];rw[hx];rfl⟩
    · exact ⟨hv,fun _=>rfl⟩
  · exact ⟨hv,fun _=>rfl⟩
 refine ⟨hS.wf,fun t=>?_,hS.H,hS.sl,⟨hS.wk.n,hS.wk.nx,fun t=>?_,hS.wk.H⟩⟩
 · show (bo (σ.tm.map (l8 x b)) t).ok _=true
   rw[qwd (qzk x b)];exact (key _ (hS.tm t)).1
 · show Wk (s.tm t) ((bo (σ.tm.map (l8 x b)) t).inst e (ae e σ.H))
   rw[qwd (qzk x b),(key _ (hS.tm t)).2];exact hS.get t
theorem qon(x c:Nat):kh x c .junk = .junk:=rfl
theorem Sat.substI(hS:Sat e σ s){x c:Nat}(hx:(SA.v x).val e = .int .i64 c):Sat e (σ.substI x c) s:=by
 have key:∀ v:SV,v.ok e.length=true→(kh x c v).ok e.length=true∧∀ ln,(kh x c v).inst e ln=v.inst e ln:=by
  intro v hv;unfold kh
  split
  · rename_i y
    split
    · rename_i hxy;have:x=y:=by simpa using hxy
      subst this;exact ⟨rfl,fun ln=>by simp only[SV.inst];rw[hx];rfl⟩
    · exact ⟨hv,fun _=>rfl⟩
  · exact ⟨hv,fun _=>rfl⟩
 refine ⟨hS.wf,fun t=>?_,hS.H,hS.sl,⟨hS.wk.n,hS.wk.nx,fun t=>?_,hS.wk.H⟩⟩
 · show (bo (σ.tm.map (kh x c)) t).ok _=true
   rw[qwd (qon x c)];exact (key _ (hS.tm t)).1
 · show Wk (s.tm t) ((bo (σ.tm.map (kh x c)) t).inst e (ae e σ.H))
   rw[qwd (qon x c),(key _ (hS.tm t)).2];exact hS.get t
theorem Sat.ext(hS:Sat e σ s){o:Env}(jb:EWF o):Sat (e++o) σ s:=by
 have hm:e.length≤(e++o).length:=by simp
 have hl:ae (e++o) σ.H=ae e σ.H:=funext fun b=>qoj o hS.H b
 refine ⟨hS.wf.append jb,fun t=>SV.ok_mono hm (hS.tm t),fun b k hb=>SB.ok_mono hm (hS.H b k hb),fun b k hb=>?_,?_⟩
 · obtain ⟨xs,l4⟩:=hS.sl b k hb;have:=hS.H b k hb;simp only[SB.ok,and_eq_true] at this;exact ⟨xs,by rw[SA.val_ext o this.1];exact l4⟩
 · have hi : σ.inst (e ++ o) = σ.inst e := by
    unfold SS.inst;rw[hl]
    congr 1
    · funext t;exact SV.inst_ext o _ (hS.tm t)
    · funext b
      cases hb:am σ.H b with
      | none=>rfl
      | some k=>simp only[Option.map_some];rw[SB.inst_ext o (hS.H b k hb)]
   rw[hi];exact hS.wk
theorem Sat.wanted(hS:Sat e σ s){g:Option (Option Nat × Bool)}{b:Bool}{q:SA}(h:re σ g=some (some b,q)):ed s.tm g=some b:=by
 unfold re at h
 split at h
 · cases h;rfl
 · cases h;rfl
 · rename_i d want;have hd:=hS.get d
   split at h
   · rename_i c hc;rw[hc] at hd;cases h;simp only[ed,qdi hd]
   · rename_i vs hc;rw[hc] at hd;cases h;rcases vl hd with h1|⟨f,h1,h2⟩
     · simp only[ed,h1,SA.val]
     · simp[SA.val] at h2
   · cases h
   · cases h
theorem agm{n:Nat}{d:Option Nat}(h:af6 n d=true):lc n d:=by
 cases d with
 | none=>trivial
 | some d=>exact qrh.1 h
theorem ay7(hS:Sat e σ s){r:SR}(hok:r8 e.length r.em=true)(hr:db r.em e=some e'):∃ o,e' = e++o∧EWF o∧o.length=li r.em:=by
 obtain ⟨o,rfl,hl⟩:=qje hr;exact ⟨o,rfl,fun d hd=>a4d hS.wf hok hr d (by simp[hd]),hl⟩
theorem qns{gi:GI}(hS:Sat e σ s)(hG:GOK G gi.SG)(hT:TOK P gi.T){op:Op}{r:SR}(h:xj gi σ e.length id op=some r)(hr:db r.em e=some e') :
 ∃ o res,e' = e++o∧EWF o∧o.length=li r.em∧r.ok (e.length+o.length)=true∧au P G id op e (e++o) σ s r res:=by
 unfold xj at h
 split at h
 · rename_i r0 fp
   split at h
   · rename_i hc;simp only[and_eq_true] at hc;cases h;obtain ⟨o,rfl,jb,hl⟩:=ay7 hS hc.1 hr;obtain ⟨res,abi⟩:=a2i hS hG hT fp hc.1 hr;exact ⟨o,res,rfl,jb,hl,by rw[hl];exact hc.2,abi⟩
   · simp at h
 · simp at h
end
end Am
