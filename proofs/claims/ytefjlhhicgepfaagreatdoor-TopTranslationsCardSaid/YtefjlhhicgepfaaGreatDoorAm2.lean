/- Lemmas. -/
import Derived.Test.YtefjlhhicgepfaaGreatDoorAm1
import Derived.Lib.AppendStr
import Derived.Lib.UnsafeStr
import Derived.Laws.BytesString
import Derived.Laws.IdiomStrings
import Derived.OrdersIn
import Derived.RangeFuncCalls
import Derived.Orders
import Derived.RangeFuncLeaves
import Derived.RangeFuncWrites
import Derived.RangeFuncRecord
import Derived.Scope
set_option linter.unusedSimpArgs false
set_option linter.unusedVariables false
set_option linter.unusedSectionVars false
open Option (bind_some getD_some isSome_iff_exists map_eq_some_iff map_some)
open Nat (add_mul add_zero le_refl le_trans mul_le_mul_right mul_one one_mul zero_add zero_mul)
open List (all_eq_true getElem?_take getElem_cons_zero getElem_map getElem_mem length_cons length_map map_congr_left mem_cons mem_cons_of_mem mem_cons_self mem_flatMap mem_map mem_range mem_reverse range size_toArray)
open Bool (and_eq_true false_eq_true)
open Array (getD getElem?_append_left size_append)
namespace Am
open Go
variable {P:Program}{w:World}{C:Com}{ρ:Rho}{H:ba}
variable {ev:Operand→AV}{rv:Operand→Value}{id:Nat}{r:Res}{o:Oper}
theorem ato(a:Array Value)(i:Nat)(h:i<a.size):a[i]! = a[i]:=by simp[h]
theorem qam(hR:bh w C ρ H)(iz:H id=none)(hev:∀ x,ao w C ρ H (ev x) (rv x)){t:TypeId}{l c:Operand}(ho:o.op = .makeSlice t l c)
 (h:ag P id ev H (.makeSlice t l c)=some r):Out w C ρ H r ((execOp rv o).run P w):=by
 simp only[ag] at h
 split at h
 · rename_i e he;have hu:=qwb he
   split at h
   · rename_i z hz
     split at h
     · rename_i kl n kc m j7 hce;have hl:=hev l;have hc:=hev c;rw[j7] at hl;rw[hce] at hc;have ry:=qcc hl;have hvc:=qcc hc
       split at h
       · rename_i hh;obtain ⟨c1,c2,c3,c4,rfl,c6,c7,c8⟩:=hh;cases h;obtain ⟨i,hi⟩:=Option.isSome_iff_exists.1 (show (P.info? e).isSome=true from c1)
         have hzi:i.zero=some z:=by unfold dn at hz;rw[hi] at hz;exact hz
         have de:i.size=tsz P e:=by unfold tsz;rw[hi]
         have hby:i.bytes=tby P e:=by unfold tby;rw[hi]
         have hr:=run_make (P:=P) w t e i z hu hi hzi kl kc n n c6 (Int.le_refl _) (by rw[hby];exact c7) c8
         have hzr:=(qki (w:=w) (C:=C) (ρ:=ρ) (H:=H) z).repL c2;have hzs:z.cells.size=tsz P e:=by rw[← hzr.1];exact c3
         refine qhx hR iz (qmg (rows:=List.replicate n.toNat (fe z).cells) e false true ?_ ?_ ?_) rfl (n:=n.toNat) (cap:=n.toNat) (by simp) (le_refl _) ?_ w (.inl rfl) ?_ (cs:=madeCells z.cells (n.toNat*i.size))
         · rw[size_madeCells,de];simp
         · intro row ak;rw[(List.mem_replicate.1 ak).2];exact c3
         · intro a b ha hb;simp only[List.length_replicate] at ha;simp only[List.getElem_replicate] at hb ⊢;obtain ⟨v,v1,v2,v3⟩:=hzr.2 b _ (List.getElem?_eq_getElem hb);refine ⟨v,?_,v2,v3⟩;have et:b<tsz P e:=by omega
           have cf:a*tsz P e+b<n.toNat*tsz P e:=by
            have:(a+1)*tsz P e≤n.toNat*tsz P e:=mul_le_mul_right _ ha;rw[add_mul,one_mul] at this;omega
           have hmod:(a*tsz P e+b) % z.cells.size=b:=by
            rw[hzs,Nat.mul_comm,Nat.mul_add_mod];exact Nat.mod_eq_of_lt et
           show (madeCells z.cells (n.toNat*i.size))[a*tsz P e+b]? = some v
           unfold madeCells;rw[de];simp only[Array.getElem?_map,Array.getElem?_range,cf,map_some,if_true,hmod];rw[← v1,ato _ _ (by omega),Array.getElem?_eq_getElem (by omega)]
         · rw[size_madeCells,de];exact le_refl _
         · simp only[execOp,ho,ry,hvc,Sem.run_bind,hr,Result.andThen_ok,Sem.run_pure]
       · simp at h
     · simp at h
   · simp at h
 · simp at h
theorem apf{k n sz:Nat}(h0:0<sz)(h:k<n*sz):k / sz<n∧k % sz<sz∧k / sz*sz+k % sz=k:=
 ⟨Nat.div_lt_of_lt_mul (by rw[Nat.mul_comm];exact h),Nat.mod_lt _ h0,Nat.div_add_mod' k sz⟩
theorem qhs(hR:bh w C ρ H){x:AV}{vx:Value}(hx:ao w C ρ H x vx){rows:List (List AV)}{rb:List Nat}(h:gu H x=some (rows,rb)){sz:Nat}(h0:0<sz)
 (hl:∀ row∈rows,row.length=sz) :
 (vx = .slice none 0 0∧rows=[])∨∃ (a:Addr) (cap:Nat) (cq:List Value),vx = .slice (some a) rows.length cap∧cq.length=rows.length*sz∧
  (∀ j u,cq[j]? = some u→w.cell? (a.add j)=some u)∧(∀ u∈cq,u.oneCell' = true)∧
  ∀ i j (hi:i<rows.length) (hj:j<(rows[i]).length),∃ v,cq[i*sz+j]? = some v∧ao w C ρ H (rows[i])[j] v:=by
 have key:∀ (r0 o0 cap:Nat),vx = .slice (some ⟨r0,o0,none⟩) rows.length cap→
  (∀ i j (hi:i<rows.length) (hj:j<(rows[i]).length),∃ v,w.cell? ⟨r0,o0+(i*sz+j),none⟩ = some v∧v.oneCell' = true∧ao w C ρ H (rows[i])[j] v)→
  (vx = .slice none 0 0∧rows=[])∨∃ (a:Addr) (cap:Nat) (cq:List Value),vx = .slice (some a) rows.length cap∧cq.length=rows.length*sz∧
  (∀ j u,cq[j]? = some u→w.cell? (a.add j)=some u)∧(∀ u∈cq,u.oneCell' = true)∧
  ∀ i j (hi:i<rows.length) (hj:j<(rows[i]).length),∃ v,cq[i*sz+j]? = some v∧ao w C ρ H (rows[i])[j] v:=by
  intro r0 o0 cap hv hc
  have hch:∀ k,∃ v,∀ (_:k<rows.length*sz),w.cell? ⟨r0,o0+k,none⟩ = some v∧v.oneCell' = true:=by
   intro k
   by_cases hk:k<rows.length*sz
   · obtain ⟨d1,d2,d3⟩:=apf h0 hk;obtain ⟨v,v1,v2,_⟩:=hc (k / sz) (k % sz) d1 (by rw[hl _ (getElem_mem _)];exact d2)
     rw[d3] at v1;exact ⟨v,fun _=>⟨v1,v2⟩⟩
   · exact ⟨undef,fun h=>absurd h hk⟩
  obtain ⟨f,hf⟩:=Classical.axiomOfChoice hch;refine .inr ⟨⟨r0,o0,none⟩,cap,(range (rows.length*sz)).map f,hv,by simp,?_,?_,?_⟩
  · intro j u hu;simp only[List.getElem?_map,map_eq_some_iff] at hu;obtain ⟨k,hk,rfl⟩:=hu;obtain ⟨yb,hk2⟩:=List.getElem?_eq_some_iff.1 hk;simp at yb hk2;subst hk2;rw[qdc];exact (hf j yb).1
  · intro u hu;obtain ⟨k,hk,rfl⟩:=List.mem_map.1 hu;exact (hf k (by simpa using hk)).2
  · intro i j hi hj;obtain ⟨v,v1,v2,v3⟩:=hc i j hi hj;have gb:j<sz:=by rw[hl _ (getElem_mem _)] at hj;exact hj
    have hk:i*sz+j<rows.length*sz:=by
     have:(i+1)*sz≤rows.length*sz:=mul_le_mul_right _ hi;rw[add_mul,one_mul] at this;omega
    refine ⟨v,?_,v3⟩;have:=(hf _ hk).1;rw[v1] at this;simp only[List.getElem?_map,List.getElem?_range hk,map_some];exact this.symm
 unfold gu at h
 split at h
 · rename_i b n off len;cases hx with
   | own _ _ _ _ _ blk hb hn h1 hp=>
   simp only[hb] at h
   split at h
   · rename_i hc;cases h;rcases hp hc.1 with ⟨r0,s0,cap,fp,rfl,hlc,kr,hol⟩|⟨_,_,rfl,rfl⟩
     · have vp:((blk.rows.drop off).take len).length=len:=by simp;omega
       refine key r0 (off*blk.sz) cap (by rw[vp]) fun i j hi hj=>?_
       rw[vp] at hi;have hg:((blk.rows.drop off).take len)[i]'(by rw[vp];exact hi)=blk.rows[off+i]'(by omega):=by simp
       simp only[hg] at hj ⊢;obtain ⟨v,v1,v2,v3⟩:=adq hR hb fp (i:=off+i) (j:=j) (by omega) hj
       have de:blk.sz=sz:=by
        have h1:=hl _ (getElem_mem (show i<((blk.rows.drop off).take len).length by rw[vp];exact hi))
        rw[hg] at h1;obtain ⟨cs,lo,bn,_,_,_,_,f1,f2,f3⟩:=qlf hR hb fp;rw[← f2 (off+i) (by omega)];exact h1
       refine ⟨v,?_,v2,v3⟩;rw[← v1,de,add_mul,Nat.add_assoc]
     · exact .inl ⟨rfl,by simp⟩
   · simp at h
 · cases hx;cases h;exact .inl ⟨rfl,rfl⟩
 · rename_i xs;cases h;have hxd:=qce hx;cases hxd with
   | nil=>exact .inl ⟨rfl,rfl⟩
   | nilA ad=>exact .inr ⟨ad,0,[],rfl,by simp,(fun j u h=>by simp at h),(fun u h=>by simp at h),(fun i j h=>by simp at h)⟩
   | sl _ r0 o0 cap sz' vs fl de hC bp hrec=>
    refine key r0 o0 cap (by simp) fun i j hi hj=>?_
    simp only[length_map] at hi;simp only[getElem_map,length_map] at hj ⊢
    have hs:sz' = sz:=by
     have h1:=hl (xs[i].map AV.d) (List.mem_map_of_mem (getElem_mem hi));simp at h1;rw[← de i hi];exact h1
    subst hs;rw[de i hi] at hj;obtain ⟨g1,g2⟩:=bp i j hi hj;rw[Nat.add_assoc] at g1;exact ⟨_,g1,g2,.d _ _ (hrec i j hi (by rw[de i hi];exact hj))⟩
 · simp at h
theorem qfm{blk:Blk}{rows:List (List AV)}{cs':Array Value}{olds cq:List Value}(o5:olds.length=blk.rows.length*blk.sz)(lx:cq.length=rows.length*blk.sz)
 (ud:∀ row∈blk.rows,row.length=blk.sz) (hl:∀ row∈rows,row.length=blk.sz)
 (ho:∀ i j (hi:i<blk.rows.length) (hj:j<(blk.rows[i]).length),∃ v,olds[i*blk.sz+j]? = some v∧v.oneCell' = true∧ao w C ρ H (blk.rows[i])[j] v)
 (hn:∀ i j (hi:i<rows.length) (hj:j<(rows[i]).length),∃ v,cq[i*blk.sz+j]? = some v∧v.oneCell' = true∧ao w C ρ H (rows[i])[j] v)
 (hc:∀ k,k<olds.length+cq.length→cs'[k]? = (olds++cq)[k]?) (hs:(blk.rows.length+rows.length)*blk.sz≤cs'.size) :
 lj w C ρ H { blk with rows:=blk.rows++rows } cs':=by
 refine ⟨by simpa using hs,?_,?_⟩
 · intro i hi;have:=getElem_mem hi;rcases List.mem_append.1 this with h|h
   · exact ud _ h
   · exact hl _ h
 · intro i j hi hj;simp only[List.length_append] at hi
   by_cases hib:i<blk.rows.length
   · have hg:(blk.rows++rows)[i]'(by simp;omega)=blk.rows[i]:=List.getElem_append_left hib
     simp only[hg] at hj ⊢;obtain ⟨v,v1,v2,v3⟩:=ho i j hib hj;refine ⟨v,?_,v2,v3⟩;have hk:=(List.getElem?_eq_some_iff.1 v1).1;rw[hc _ (by omega),List.getElem?_append_left hk];exact v1
   · have hg:(blk.rows++rows)[i]'(by simp;omega)=rows[i-blk.rows.length]'(by omega):=List.getElem_append_right (by omega)
     simp only[hg] at hj ⊢;obtain ⟨v,v1,v2,v3⟩:=hn (i-blk.rows.length) j (by omega) hj
     refine ⟨v,?_,v2,v3⟩;have hk:=(List.getElem?_eq_some_iff.1 v1).1
     have e1:i*blk.sz+j=olds.length+((i-blk.rows.length)*blk.sz+j):=by
      rw[o5,← Nat.add_assoc,← add_mul]
      congr 2
      omega
     show cs'[i*blk.sz+j]? = some v
     rw[e1,hc _ (by omega),List.getElem?_append_right (by omega)]
     have:olds.length+((i-blk.rows.length)*blk.sz+j)-olds.length=(i-blk.rows.length)*blk.sz+j:=by omega
     rw[this];exact v1
theorem qkv(g:Nat)(cur cs':Array Value)(e:TypeId)(hg:w.heap[g]? = some (.cells cur e (0,0))):yi w (w.setRow g cs') g cs' e 0 0:=
 ⟨rfl,rfl,rfl,by simp,fun k hk=>setRow_other w g k cs' hk,setRow_heap w g cur cs' e (0,0) hg⟩
structure agx(P:Program)(w:World)(t t' ty e:TypeId)(i:TypeInfo)(z:Value)(vx:Value)(n:Nat)(cq:List Value):Prop where
 nil : 0 < n → (n : Int) ≤ 9223372036854775807 → n * i.bytes ≤ 281474976710656 → (Builtin.append_ #[t,t'] ty #[.slice none 0 0,vx]).run P w =
     .ok (.slice (some ⟨w.heap.size,0,none⟩) n (grownCap w n 0 e)) (w.drew.alloc (.cells (cq.toArray++Builtin.zeroCells z.cells (grownCap w n 0 e-n)) e))
 room:∀ (g sLen sCap:Nat) (cur:Array Value),w.heap[g]? = some (.cells cur e (0,0))→sLen+n≤sCap→sLen*i.size+cq.length≤cur.size→
  (Builtin.append_ #[t,t'] ty #[.slice (some ⟨g,0,none⟩) sLen sCap,vx]).run P w =
  .ok (.slice (some ⟨g,0,none⟩) (sLen+n) sCap) (w.setRow g (cur.toList.take (sLen*i.size)++cq++cur.toList.drop (sLen*i.size+cq.length)).toArray)
 grow:∀ (b:Addr) (sLen sCap:Nat) (olds:List Value),olds.length=sLen*i.size→(∀ j v,olds[j]? = some v→w.cell? (b.add j)=some v)→sCap<sLen+n→((sLen+n:Nat):Int)≤9223372036854775807→
  Builtin.nextslicecap (sLen+n) sCap*i.bytes≤281474976710656→(Builtin.append_ #[t,t'] ty #[.slice (some b) sLen sCap,vx]).run P w =
  .ok (.slice (some ⟨w.heap.size,0,none⟩) (sLen+n) (grownCap w (sLen+n) sCap e))
   (w.drew.alloc (.cells (olds.toArray++cq.toArray++Builtin.zeroCells z.cells (grownCap w (sLen+n) sCap e-(sLen+n))) e))
 zero:n=0→(Builtin.append_ #[t,t'] ty #[.slice none 0 0,vx]).run P w = .ok (.slice none 0 0) w
def ani(P:Program)(w:World)(C:Com)(ρ:Rho)(H:ba)(t t' ty e:TypeId)(i:TypeInfo)(z vx:Value)(rows:List (List AV))(sz:Nat):Prop:=
 (rows=[]∧(Builtin.append_ #[t,t'] ty #[.slice none 0 0,vx]).run P w = .ok (.slice none 0 0) w∧
  ∀ (a:Addr) (len cap:Nat),len≤cap→(Builtin.append_ #[t,t'] ty #[.slice (some a) len cap,vx]).run P w = .ok (.slice (some a) len cap) w)∨
 ∃ cq:List Value,agx P w t t' ty e i z vx rows.length cq∧cq.length=rows.length*sz∧(∀ u∈cq,u.oneCell' = true)∧
  ∀ i j (hi:i<rows.length) (hj:j<(rows[i]).length),∃ v,cq[i*sz+j]? = some v∧ao w C ρ H (rows[i])[j] v
theorem ati(hR:bh w C ρ H){t t' ty e:TypeId}{i:TypeInfo}{z:Value}(hu:P.underlying t=some (.slice e))(hi:P.info? e=some i)(hzi:i.zero=some z){x:AV}{vx:Value}(hx:ao w C ρ H x vx)
 {rows:List (List AV)} {rb:List Nat} (h:i7 P t t' H x=some (rows,rb)) {sz:Nat} (h0:0<sz) (hs:i.size=sz)
 (hl:∀ row∈rows,row.length=sz):ani P w C ρ H t t' ty e i z vx rows sz:=by
 by_cases ac4:∃ l,x = .d (.str l)
 · obtain ⟨l,rfl⟩:=ac4;simp only[i7] at h
   split at h
   · rename_i hc;cases h;obtain ⟨c1,c2⟩:=hc
     have ad3:i.size=1:=by
      have ht:cb P t=some e:=by unfold cb;rw[hu]
      have:tsz P e=i.size:=by unfold tsz;rw[hi]
      rw[ht] at c2;simp at c2;omega
     have hu':P.underlying t' = some .string:=by
      unfold gj at c1
      split at c1
      · assumption
      · simp at c1
     obtain ⟨s,rfl,m9⟩:∃ s:ByteArray,vx = .string s∧s.data.toList=l:=by
      have hxd:=qce hx;cases hxd with
      | str=>exact ⟨_,rfl,rfl⟩
     have an:(Lib.strCells s).length=s.size:=Lib.strCells_length s;have jt:s.size=l.length:=by rw[← m9,Array.length_toList];rfl
     refine .inr ⟨Lib.strCells s,⟨?_,?_,?_,?_⟩,by rw[an,jt,length_map,← hs,ad3];omega,Lib.strCells_oneCell s,?_⟩
     · intro g1 g2 g3;rw[length_map,← jt] at g1 g2 g3 ⊢;have:=run_append_nil_string (P:=P) w t t' ty e i z hu hu' hi hzi s g1 g2 g3;rw[this]
       congr 5
       apply Array.ext'
       simp[Lib.strCells]
     · intro g sLen sCap cur g1 g2 g3;rw[length_map,← jt] at g2 ⊢;rw[an,ad3,mul_one] at g3 ⊢;exact Lib.run_append_room_string (P:=P) w t t' ty e i hu hu' hi ad3 g sLen sCap cur g1 s g2 g3
     · intro b sLen sCap olds g1 g2 g3 g4 g5;rw[length_map,← jt] at g3 g4 g5 ⊢;exact Lib.run_append_grow_string (P:=P) w t t' ty e i z hu hu' hi hzi b sLen sCap olds g1 g2 s g3 g4 g5
     · intro g1;rw[length_map,← jt] at g1;simp[Builtin.append_,run_underlying hu,run_underlying hu',Go.sizeOf,typeInfo,hi,Builtin.lenOf,Builtin.firstCells,g1]
     · intro a b ha hb;simp only[getElem_map,length_cons,List.length_nil] at hb;obtain rfl:b=0:=by omega
       simp only[length_map] at ha;refine ⟨.int .u8 (l[a]'ha).toNat,?_,?_⟩
       · rw[← hs,ad3,mul_one,add_zero];unfold Lib.strCells;rw[List.getElem?_map];simp[m9,ha]
       · simp only[getElem_map,getElem_cons_zero];exact .d _ _ (.int _ _)
   · simp at h
 · have na : t = t' ∧ gu H x = some (rows,rb) := by
    unfold i7 at h
    split at h
    · rename_i l;exact absurd ⟨l,rfl⟩ ac4
    · split at h
      · rename_i htt;exact ⟨htt,h⟩
      · simp at h
   obtain ⟨rfl,mn⟩:=na;rcases qhs hR hx mn h0 hl with ⟨rfl,fp⟩|⟨a,cap,cq,rfl,n1,n2,n3,n4⟩
   · refine .inl ⟨fp,?_,fun a len cap hlc=>?_⟩
     · simp[Builtin.append_,run_underlying hu,Go.sizeOf,typeInfo,hi,Builtin.lenOf,Builtin.firstCells]
     · simp[Builtin.append_,run_underlying hu,Go.sizeOf,typeInfo,hi,Builtin.lenOf,Builtin.firstCells,hlc,storeCells]
   · refine .inr ⟨cq,⟨fun g1 g2 g3 => run_append_nil (P := P) w t ty e i z hu hi hzi a rows.length cap cq (by rw [hs]; exact n1) n2 g1 g2 g3,
      fun g sLen sCap cur g1 g2 g3=>run_append_room (P:=P) w t ty e i hu hi g sLen sCap cur g1 a rows.length cap cq (by rw[hs];exact n1) n2 n3 g2 g3,
      fun b sLen sCap olds g1 g2 g3 g4 g5=>run_append_grow (P:=P) w t ty e i z hu hi hzi b sLen sCap olds g1 g2 a rows.length cap cq (by rw[hs];exact n1) n2 g3 g4 g5,fun g1=>?_⟩,n1,n3,n4⟩
     rw[g1];simp[Builtin.append_,run_underlying hu,Go.sizeOf,typeInfo,hi,Builtin.lenOf,Builtin.firstCells,loadCells,loadCellsFrom]
theorem qju(hR:bh w C ρ H)(iz:H id=none)(hev:∀ x,ao w C ρ H (ev x) (rv x)){args:Array Operand}{il:Array TypeId}
 (ho:o.op = .call { callee:=.builtin .append,args,argTypes:=il })
 (h:ag P id ev H (.call { callee:=.builtin .append,args,argTypes:=il })=some r):Out w C ρ H r ((execOp rv o).run P w):=by
 simp only[ag] at h;obtain ⟨cs,kr⟩:=qsd (P:=P) (w:=w) rv ho;rw[kr]
 split at h
 · rename_i s x t t' ck s8;obtain ⟨l⟩:=args;obtain ⟨l'⟩:=il;simp only at ck s8;subst ck;subst s8
   split at h
   · rename_i e rows rb he cx;have hu:=qwb he
     split at h
     · simp at h
     · rename_i z hz
       split at h
       · rename_i hc;obtain ⟨c2,c3,c4,c5⟩:=hc;obtain ⟨i,hi⟩:=Option.isSome_iff_exists.1 (show (P.info? e).isSome=true from c2)
         have hzi:i.zero=some z:=by unfold dn at hz;rw[hi] at hz;exact hz
         have de:i.size=tsz P e:=by unfold tsz;rw[hi]
         have hby:i.bytes=tby P e:=by unfold tby;rw[hi]
         have h5:∀ row∈rows,row.length=tsz P e∧row.all AV.one=true:=by
          intro row ak;simp only[all_eq_true,and_eq_true,beq_iff_eq] at c5;simp only[all_eq_true];exact c5 row ak
         have jn:=ati (P:=P) (ty:=o.type) hR hu hi hzi (hev x) cx c4 de fun row ak=>(h5 row ak).1
         have hb:∀ a b:Value,(builtin .append #[t,t'] o.type cs (#[s,x].map rv)).run P w=((Builtin.append_ #[t,t'] o.type #[rv s,rv x]).run P w).andThen fun v w'=>.ok (.value v) w':=by
          intro _ _;simp[builtin]
         rw[hb undef undef]
         have news1:∀ {cq:List Value},(∀ u∈cq,u.oneCell' = true)→(∀ i j (hi:i<rows.length) (hj:j<(rows[i]).length),∃ v,cq[i*tsz P e+j]? = some v∧ao w C ρ H (rows[i])[j] v)→
          ∀ i j (hi:i<rows.length) (hj:j<(rows[i]).length),∃ v,cq[i*tsz P e+j]? = some v∧v.oneCell' = true∧ao w C ρ H (rows[i])[j] v:=by
          intro cq g1 g2 i j hi hj;obtain ⟨v,v1,v2⟩:=g2 i j hi hj;exact ⟨v,v1,g1 _ (List.mem_of_getElem? v1),v2⟩
         have hs:=hev s;generalize hvs:rv s=vs at hs;generalize hvx:rv x=vx at jn
         split at h
         ·
          rename_i hse;rw[hse] at hs;cases hs
          split at h
          · rename_i hc2;cases h;rcases jn with ⟨fp,ha0,_⟩|⟨cq,src,n1,n3,n4⟩
            · rw[if_pos fp];refine Out.same hR .nils ?_;rw[ha0];rfl
            · by_cases fp:rows=[]
              · rw[if_pos fp];refine Out.same hR .nils ?_;rw[src.zero (by rw[fp];rfl)];rfl
              · rw[if_neg fp];have mp:0<rows.length:=List.length_pos_iff.2 fp;have hr:=src.nil mp (by omega) (by rw[hby];omega)
                have ue:=grownCap_ge w rows.length 0 e;refine qhx hR iz (qmg (rows:=rows) e false true ?_ (fun row ak=>(h5 row ak).1) ?_) rfl rfl ue ?_ w.drew (.inr rfl) ?_ (cs:=cq.toArray++Builtin.zeroCells z.cells (grownCap w rows.length 0 e-rows.length))
                · simp only[size_append,size_toArray,n1];omega
                · intro i j hi hj;obtain ⟨v,v1,v2,v3⟩:=news1 n3 n4 i j hi hj;refine ⟨v,?_,v2,v3⟩;have hk:=(List.getElem?_eq_some_iff.1 v1).1;rw[getElem?_append_left (by simpa using hk)]
                  simpa using v1
                · simp only[size_append,size_toArray,n1,size_zeroCells,c3,← add_mul];exact mul_le_mul_right _ (by omega)
                · rw[hr];rfl
          · simp at h
         ·
          rename_i b n off len hse;rw[hse] at hs;cases hs with
          | own _ _ _ _ _ blk hb hn h1 hp=>
          simp only[hb] at h
          split at h
          · rename_i hc2;obtain ⟨k1,rfl,rfl,k4,k5,k6,k7,k8,k9⟩:=hc2;cases h
            have ud:∀ row∈blk.rows,row.length=blk.sz:=by
             intro row ak;have hpp:=hR.blk b blk hb;unfold cw at hpp;cases v7:ρ b with
             | none=>rw[v7] at hpp;simp only at hpp;rw[hpp.1] at ak;simp at ak
             | some p=>
              obtain ⟨r0,s0⟩:=p;obtain ⟨cs0,lo,bn,_,_,_,_,f1,f2,f3⟩:=qlf hR hb v7;obtain ⟨q,hq,rfl⟩:=List.mem_iff_getElem.1 ak;exact f2 q hq
            rcases hp k1 with ⟨r0,s0,cap,fp,rfl,hlc,fl,hol⟩|⟨fp,_,hn0,rfl⟩
            · obtain ⟨cur,lo,bn,m1,m2,m3,m4,f1,f2,f3⟩:=qlf hR hb fp;obtain ⟨rfl,rfl⟩:=m3 k4 k5;rw[k6] at m1;simp only[zero_mul,zero_add] at fl hvs;have kr:len*blk.sz≤cur.size:=by rw[m2];exact le_trans (mul_le_mul_right _ hlc) fl
              have ale:∀ j u,(cur.toList.take (len*blk.sz))[j]? = some u→w.cell? ((⟨r0,0,none⟩:Addr).add j)=some u:=by
               intro j u hu;rw[qdc,zero_add,qrb,m1];simp only;rw[getElem?_take] at hu
               split at hu
               · simpa using hu
               · simp at hu
              have ad9:(cur.toList.take (len*blk.sz)).length=blk.rows.length*blk.sz:=by simp[k1];omega
              have oldrep:∀ i j (hi:i<blk.rows.length) (hj:j<(blk.rows[i]).length),∃ v,(cur.toList.take (len*blk.sz))[i*blk.sz+j]? = some v∧v.oneCell' = true∧ao w C ρ H (blk.rows[i])[j] v:=by
               intro i j hi hj;obtain ⟨v,v1,v2,v3⟩:=f3 i j hi hj;refine ⟨v,?_,v2,v3⟩;have gb:j<blk.sz:=by rw[f2 i hi] at hj;exact hj
               have cf:i*blk.sz+j<len*blk.sz:=by
                have:(i+1)*blk.sz≤len*blk.sz:=mul_le_mul_right _ (by omega)
                rw[add_mul,one_mul] at this;omega
               rw[getElem?_take,if_pos cf]
               simpa using v1
              rcases jn with ⟨afo,ha0,ha1⟩|⟨cq,src,n1,n3,n4⟩
              ·
               subst afo;have eblk:({ blk with rows:=blk.rows++[] }:Blk)=blk:=by cases blk;simp
               have eH:co H b { blk with rows:=blk.rows++[] } = H:=by
                funext y;rw[eblk];unfold co;split
                · rename_i hy;rw[hy];exact hb.symm
                · rfl
               refine ⟨w,C,ρ,.slice (some ⟨r0,0,none⟩) len cap,.inl ?_,?_,?_,?_⟩
               · have auo:len≤cap:=hlc;simp only[zero_mul];rw[ha1 _ _ _ auo];rfl
               · show bh w C ρ (co H b _);rw[eH];exact hR
               · show Ext w C ρ H w C ρ (co H b _);rw[eH];exact .refl _ _ _ _
               · show ao w C ρ (co H b _) _ _
                 rw[eH];exact .own b _ 0 _ _ blk hb (by simp;omega) rfl fun _=>.inl ⟨r0,s0,cap,fp,by simp,by simpa using hlc,by simpa using fl,by simp⟩
              · rw[← k7] at n1 n4 news1;have af9:i.size=blk.sz:=by rw[de,k7]
                have rl:∀ row∈rows,row.length=blk.sz:=fun row ak=>by rw[k7];exact (h5 row ak).1
                by_cases zc:len+rows.length≤cap
                ·
                 have hcr:(len+rows.length)*blk.sz≤cur.size:=by rw[m2];exact le_trans (mul_le_mul_right _ zc) fl
                 have hr:=src.room r0 len cap cur m1 zc (by rw[af9,n1,← add_mul];exact hcr)
                 rw[af9] at hr
                 have abj:(cur.toList.take (len*blk.sz)++cq++cur.toList.drop (len*blk.sz+cq.length)).toArray.size=cur.size:=by
                  simp only[size_toArray,List.length_append,List.length_take,List.length_drop,Array.length_toList,n1];rw[add_mul] at hcr;omega
                 have hw:=qkv (w:=w) r0 cur (cur.toList.take (len*blk.sz)++cq++cur.toList.drop (len*blk.sz+cq.length)).toArray e m1;rw[← k6] at hw
                 have hf:lj w C ρ H { blk with rows:=blk.rows++rows } (cur.toList.take (len*blk.sz)++cq++cur.toList.drop (len*blk.sz+cq.length)).toArray:=by
                  refine qfm ad9 n1 ud rl oldrep (news1 n3 n4) ?_ ?_
                  · intro k hk;rw[List.getElem?_toArray,List.getElem?_append_left (by simpa using hk)]
                  · rw[abj,k1];exact hcr
                 refine ⟨_,C,ρ,_,.inl (by simp only[zero_mul];rw[hr];rfl),qnq (blk:={ blk with rows:=blk.rows++rows }) hR hb k4 fp hw rfl (by simp) k4 (by rw[abj];exact m2) (fun _=>⟨rfl,rfl⟩) (fun _ _=>by omega) hf,
                  tx (blk:={ blk with rows:=blk.rows++rows }) hR hb k4 fp hw rfl (by simp),?_⟩
                 exact .own b _ 0 _ _ _ (qab ..) (by simp;omega) rfl fun _=>.inl ⟨r0,s0,cap,fp,by simp,zc,by simpa using fl,by simp⟩
                ·
                 have mp:0<rows.length:=by omega
                 have hr:=src.grow ⟨r0,0,none⟩ len cap (cur.toList.take (len*blk.sz)) (by rw[af9,ad9,k1]) ale (by omega) (by omega) (growslice_fits (by omega) (by rw[hby];omega))
                 have ue:=grownCap_ge w (len+rows.length) cap e
                 have hold:∀ bj,H b=some bj→({ blk with rows:=blk.rows++rows }:Blk).sz=bj.sz∧bj.rows.length<({ blk with rows:=blk.rows++rows }:Blk).rows.length:=by
                  intro bj pm;rw[hb] at pm;cases pm;exact ⟨rfl,by simp;omega⟩
                 have jt:((cur.toList.take (len*blk.sz)).toArray++cq.toArray++Builtin.zeroCells z.cells (grownCap w (len+rows.length) cap e-(len+rows.length))).size=grownCap w (len+rows.length) cap e*blk.sz:=by
                  simp only[size_append,size_toArray,ad9,n1,size_zeroCells,c3,← k7,← add_mul,k1]
                  congr 1
                  omega
                 have hf:lj w.drew C ρ H { blk with rows:=blk.rows++rows } ((cur.toList.take (len*blk.sz)).toArray++cq.toArray++Builtin.zeroCells z.cells (grownCap w (len+rows.length) cap e-(len+rows.length))):=by
                  have hf0:lj w C ρ H { blk with rows:=blk.rows++rows } ((cur.toList.take (len*blk.sz)).toArray++cq.toArray++Builtin.zeroCells z.cells (grownCap w (len+rows.length) cap e-(len+rows.length))):=by
                   refine qfm ad9 n1 ud rl oldrep (news1 n3 n4) ?_ ?_
                   · intro k hk;rw[getElem?_append_left (by simpa using hk)]
                     simp
                   · rw[jt,k1];exact mul_le_mul_right _ ue
                  obtain ⟨q1,q2,q3⟩:=hf0;refine ⟨q1,q2,fun i j hi hj=>?_⟩
                  obtain ⟨v,v1,v2,v3⟩:=q3 i j hi hj;exact ⟨v,v1,v2,v3.mono (km _ _ _ _)⟩
                 rw[← k6] at hr hf ue jt;refine ⟨_,C,_,_,.inl (by simp only[zero_mul];rw[hr];rfl),qjj (blk:={ blk with rows:=blk.rows++rows }) hR.drew hold hf k4,(km _ _ _ _).trans (n7 (blk:={ blk with rows:=blk.rows++rows }) hR.drew hold),?_⟩
                 refine .own b _ 0 _ _ _ (qab ..) (by simp;omega) rfl fun _=>.inl ⟨w.heap.size,_,_,qq ..,by simp,ue,?_,by simp⟩
                 rw[zero_add];exact Nat.le_of_eq jt.symm
            ·
             subst hn0;have hbr:blk.rows=[]:=List.eq_nil_of_length_eq_zero k1;rcases jn with ⟨afo,ha0,ha1⟩|⟨cq,src,n1,n3,n4⟩
             · subst afo;have eblk:({ blk with rows:=blk.rows++[] }:Blk)=blk:=by cases blk;simp
               have eH:co H b { blk with rows:=blk.rows++[] } = H:=by
                funext y;rw[eblk];unfold co;split
                · rename_i hy;rw[hy];exact hb.symm
                · rfl
               refine ⟨w,C,ρ,.slice none 0 0,.inl ?_,?_,?_,?_⟩
               · rw[ha0];rfl
               · show bh w C ρ (co H b _);rw[eH];exact hR
               · show Ext w C ρ H w C ρ (co H b _);rw[eH];exact .refl _ _ _ _
               · show ao w C ρ (co H b _) _ _
                 rw[eH];exact .own b _ 0 _ _ blk hb (by simp) rfl fun _=>.inr ⟨fp,rfl,by simp,rfl⟩
             · by_cases hrr:rows=[]
               · subst hrr;have eblk:({ blk with rows:=blk.rows++[] }:Blk)=blk:=by cases blk;simp
                 have eH:co H b { blk with rows:=blk.rows++[] } = H:=by
                  funext y;rw[eblk];unfold co;split
                  · rename_i hy;rw[hy];exact hb.symm
                  · rfl
                 refine ⟨w,C,ρ,.slice none 0 0,.inl ?_,?_,?_,?_⟩
                 · rw[src.zero rfl];rfl
                 · show bh w C ρ (co H b _);rw[eH];exact hR
                 · show Ext w C ρ H w C ρ (co H b _);rw[eH];exact .refl _ _ _ _
                 · show ao w C ρ (co H b _) _ _
                   rw[eH];exact .own b _ 0 _ _ blk hb (by simp) rfl fun _=>.inr ⟨fp,rfl,by simp,rfl⟩
               · have mp:0<rows.length:=List.length_pos_iff.2 hrr;have hr:=src.nil mp (by omega) (by rw[hby];simp only[zero_add] at k8;omega)
                 have ue:=grownCap_ge w rows.length 0 e
                 have hold:∀ bj,H b=some bj→({ blk with rows:=blk.rows++rows }:Blk).sz=bj.sz∧bj.rows.length<({ blk with rows:=blk.rows++rows }:Blk).rows.length:=by
                  intro bj pm;rw[hb] at pm;cases pm;exact ⟨rfl,by simp;omega⟩
                 have jt:(cq.toArray++Builtin.zeroCells z.cells (grownCap w rows.length 0 e-rows.length)).size=grownCap w rows.length 0 e*blk.sz:=by
                  simp only[size_append,size_toArray,n1,size_zeroCells,c3,k7,← add_mul]
                  congr 1
                  omega
                 have hf:lj w.drew C ρ H { blk with rows:=blk.rows++rows } (cq.toArray++Builtin.zeroCells z.cells (grownCap w rows.length 0 e-rows.length)):=by
                  have hf0:lj w C ρ H { blk with rows:=rows } (cq.toArray++Builtin.zeroCells z.cells (grownCap w rows.length 0 e-rows.length)):=by
                   refine qmg (rows:=rows) blk.ty blk.fz blk.ap ?_ (fun row ak=>by rw[k7];exact (h5 row ak).1) ?_
                   · rw[jt];exact mul_le_mul_right _ ue
                   · intro i j hi hj;obtain ⟨v,v1,v2,v3⟩:=news1 n3 n4 i j hi hj;refine ⟨v,?_,v2,v3⟩;rw[k7];have hk:=(List.getElem?_eq_some_iff.1 v1).1;rw[getElem?_append_left (by simpa using hk)]
                     simpa using v1
                  rw[hbr,List.nil_append];obtain ⟨q1,q2,q3⟩:=hf0;refine ⟨q1,q2,fun i j hi hj=>?_⟩
                  obtain ⟨v,v1,v2,v3⟩:=q3 i j hi hj;exact ⟨v,v1,v2,v3.mono (km _ _ _ _)⟩
                 rw[← k6] at hr hf ue jt;refine ⟨_,C,_,_,.inl (by rw[hr];rfl),qjj (blk:={ blk with rows:=blk.rows++rows }) hR.drew hold hf k4,(km _ _ _ _).trans (n7 (blk:={ blk with rows:=blk.rows++rows }) hR.drew hold),?_⟩
                 refine .own b _ 0 _ _ _ (qab ..) (by simp) rfl fun _=>.inl ⟨w.heap.size,_,grownCap w rows.length 0 blk.ty,qq ..,by simp,by simpa using ue,?_,by simp⟩
                 rw[zero_add];exact Nat.le_of_eq jt.symm
          · simp at h
         · simp at h
       · simp at h
   · simp at h
 · simp at h
theorem qzw:∀ {rows:List (List AV)} {l:List UInt8},gv rows=some l→rows=l.map fun c=>[.d (.int .u8 (c.toNat:Int))]:=by
 intro rows
 induction rows with
 | nil=>intro l h;simp[gv] at h;subst h;rfl
 | cons r rows ih=>
  intro l h;unfold gv at h
  split at h
  · rename_i hr;simp at hr
  · rename_i c rest hr;simp only[List.cons.injEq] at hr;obtain ⟨rfl,rfl⟩:=hr
    split at h
    · rename_i hc
      split at h
      · rename_i l' sa;simp only[Option.some.injEq] at h;subst h;rw[ih sa,List.map_cons]
        congr 4
        obtain ⟨h0,h1⟩:=hc;have h2:c.toNat<256:=by omega
        have h3:(c.toNat.toUInt8).toNat=c.toNat:=by
         simp[Nat.toUInt8];omega
        rw[h3];omega
      · simp at h
    · simp at h
  · simp at h
theorem ax6:∀ (l p:List UInt8),(l.map fun c=>(c.toNat:Int)).foldl (fun r n=>r.push (UInt8.ofNat n.toNat)) (⟨⟨p⟩⟩:ByteArray)=⟨⟨p++l⟩⟩:=by
 intro l
 induction l with
 | nil=>intro p;simp
 | cons c l ih=>
  intro p;simp only[List.map_cons,List.foldl_cons]
  have h1:(⟨⟨p⟩⟩:ByteArray).push (UInt8.ofNat ((c.toNat:Int)).toNat)=⟨⟨p++[c]⟩⟩:=by
   have:UInt8.ofNat ((c.toNat:Int)).toNat=c:=by simp
   rw[this]
   show (⟨(⟨p⟩:Array UInt8).push c⟩:ByteArray)=_
   simp
  rw[h1,ih];simp
theorem qpq(hR:bh w C ρ H)(iz:H id=none)(hev:∀ x,ao w C ρ H (ev x) (rv x)){s t:TypeId}{x:Operand}(ho:o.op = .convert s t x)
 (h:ag P id ev H (.convert s t x)=some r):Out w C ρ H r ((execOp rv o).run P w):=by
 simp only[ag] at h;have hx:=hev x
 split at h
 · rename_i k' n k b g8 hk;rw[g8] at hx
   split at h
   · rename_i hs;obtain ⟨d,hd⟩:=aif hs;refine Out.chg hR h (.d _ _ (.int _ _)) ?_;rw[execOp];simp[ho,qcc hx,convert,run_underlying hd,run_underlying (qdr hk),Conv.intToInt]
   · simp at h
 · rename_i l b g8 hk hb;rw[g8] at hx
   split at h
   · rename_i hs;obtain ⟨d,hd⟩:=aif hs;refine Out.chg hR h (.d _ _ (.str _)) ?_;rw[execOp];simp[ho,qji hx,convert,run_underlying hd,run_underlying (quh hb)]
   · simp at h
 · rename_i hk hb _
   split at h
   · rename_i hs
     split at h
     · rename_i rows rb cx
       split at h
       · rename_i l hl;cases h
         obtain ⟨e,he,hu8⟩:∃ e,cb P s=some e∧ia P e=some .u8:=by
          cases he:cb P s with
          | none=>simp[he] at hs
          | some e=>exact ⟨e,rfl,by simpa [he] using hs⟩
         have hrw:=qzw hl;have na:ao w C ρ H (ev x) (rv x):=hx
         have ac4:∀ v,(convert s t (rv x)).run P w = .ok v w→((execOp rv o).run P w) = .ok (.value v) w:=by
          intro v hv;rw[execOp];simp only[ho,Sem.run_bind,hv,Result.andThen_ok,Sem.run_pure]
         rcases qhs hR na cx (sz:=1) Nat.one_pos (by rw[hrw];intro row ak;obtain ⟨c,_,rfl⟩:=List.mem_map.1 ak;rfl) with ⟨hv,ob⟩|⟨a,cap,cq,hv,an,hc,h1c,rj⟩
         · have ud:l=[]:=by rw[ob] at hl;simpa [gv] using hl.symm
           subst ud;refine Out.same (v:=.string ⟨⟨[]⟩⟩) (rb:=rb) hR (.d _ _ (.str [])) (ac4 _ ?_);rw[hv,run_convert_bytes_string w s t e none 0 0 (qwb he) (qdr hu8) (quh hb)];rfl
         · refine Out.same (v:=.string ⟨⟨l⟩⟩) (rb:=rb) hR (.d _ _ (.str l)) (ac4 _ ?_);rw[hv,run_convert_bytes_string w s t e _ _ _ (qwb he) (qdr hu8) (quh hb)]
           have ait:cq=(l.map fun c=>(c.toNat:Int)).map (Value.int .u8):=by
            refine List.ext_getElem (by rw[an,hrw];simp) fun i hi bn=>?_
            have hi2:i<l.length:=by simpa using bn
            have hri:i<rows.length:=by rw[hrw];simpa using hi2
            have hrj:rows[i]=[.d (.int .u8 ((l[i]).toNat:Int))]:=by simp[hrw]
            obtain ⟨v,v1,v2⟩:=rj i 0 hri (by rw[hrj];exact Nat.one_pos)
            simp only[hrj,mul_one,add_zero,getElem_cons_zero] at v1 v2;rw[List.getElem?_eq_getElem hi] at v1;simp only[Option.some.injEq] at v1;rw[v1,qcc v2];simp
           have ao3:(loadCells a rows.length).run P w = .ok ((l.map fun c=>(c.toNat:Int)).map (Value.int .u8)).toArray w:=by
            have h0:=run_loadCells_list (P:=P) (w:=w) a cq hc;rw[an,mul_one] at h0;rw[h0,ait]
           rw[run_bytesToString w a rows.length cap _ ao3,ax6];simp
       · simp at h
     · simp at h
   · simp at h
 · rename_i l g8 hk hb;rw[g8] at hx
   split at h
   · rename_i e he
     split at h
     · rename_i hc;cases h;obtain ⟨_,hss,hu8⟩:=hc;have fl:l.length≤grownCap w l.length 0 e:=grownCap_ge w l.length 0 e;refine ass hR iz (qmg (cs:=bytesRow ⟨⟨l⟩⟩ (grownCap w l.length 0 e)) e false false ?_ ?_ ?_) rfl rfl ?_ (n:=l.length) (cap:=grownCap w l.length 0 e) (by simp) fl ?_ w.drew (.inr rfl) ?_ (reg:=((bytesRow ⟨⟨l⟩⟩ (grownCap w l.length 0 e)).size,(bytesRow ⟨⟨l⟩⟩ (grownCap w l.length 0 e)).size+1))
       · simp[bytesRow,ByteArray.size]
       · intro row ak;obtain ⟨c,_,rfl⟩:=List.mem_map.1 ak;rfl
       · intro a b ha hb;simp only[length_map] at ha;simp only[getElem_map,List.length_singleton] at hb;obtain rfl:b=0:=by omega
         refine ⟨.int .u8 (l[a].toNat:Int),?_,rfl,?_⟩
         · simp only[bytesRow,mul_one,add_zero];rw[getElem?_append_left (by simpa using ha)]
           simp[ha]
         · simp only[getElem_map,getElem_cons_zero];exact .d _ _ (.int _ _)
       · intro o ho hoo;omega
       · simp only[bytesRow,size_append,Array.size_map,Array.size_replicate,ByteArray.size,mul_one]
         show _≤l.length+(_-l.length)
         omega
       · have iv:=run_bytes_of_string (P:=P) w s t e ⟨⟨l⟩⟩ (quh hss) (qwb he) (qdr hu8);rw[execOp];simp only[ho,qji hx,Sem.run_bind,iv,Result.andThen_ok,Sem.run_pure];rfl
     · simp at h
   · simp at h
 · simp at h
end Am

namespace Am
open Go
variable {P:Program}{w w':World}{C:Com}{ρ:Rho}{H:ba}
variable {ev:Operand→AV}{rv:Operand→Value}{id:Nat}{r:Res}{o:Oper}
theorem qyx:∀ (rows:List (List AV)) (l:List UInt8),gv rows=some l→rows.length=l.length∧∀ i (h:i<rows.length) (h':i<l.length),rows[i]=[.d (.int .u8 l[i].toNat)]:=by
 intro rows
 induction rows with
 | nil=>intro l h;simp only[gv] at h;cases h;exact ⟨rfl,fun i h=>by simp at h⟩
 | cons row rows ih=>
  intro l h;unfold gv at h
  split at h
  · rename_i heq;cases heq
  · rename_i c rest heq;cases heq
    split at h
    · rename_i hc
      split at h
      · rename_i l' sa;cases h;obtain ⟨h1,h2⟩:=ih l' sa;refine ⟨by simp[h1],fun i hi bn=>?_⟩
        cases i with
        | zero=>
         simp only[getElem_cons_zero]
         have:((c.toNat.toUInt8).toNat:Int)=c:=by
          rw[show c.toNat.toUInt8=UInt8.ofNat c.toNat from rfl,UInt8.toNat_ofNat']
          omega
         rw[this]
        | succ i=>simpa using h2 i (by simpa using hi) (by simpa using bn)
      · simp at h
    · simp at h
  · simp at h
theorem as8{t e:TypeId}(h:ko P t=some e):P.underlying t=some (.pointer e):=by
 unfold ko at h
 split at h
 · rename_i e' he;cases h;exact he
 · simp at h
theorem aro(hR:bh w C ρ H){b r0 s0 n:Nat}{blk:Blk}(hb:H b=some blk)(hr:ρ b=some (r0,s0)) :
 bh (w.freeze ⟨r0,0,none⟩ n) (fun r o=>C r o∨(r=r0∧o<blk.rows.length*blk.sz)) ρ (co H b { blk with fz:=true })∧
 Ext w C ρ H (w.freeze ⟨r0,0,none⟩ n) (fun r o=>C r o∨(r=r0∧o<blk.rows.length*blk.sz)) ρ (co H b { blk with fz:=true }):=by
 obtain ⟨cs,lo,hi,m1,m2,m3,m4,f1,f2,f3⟩:=qlf hR hb hr
 have ak:∃ lo' bn,(w.freeze ⟨r0,0,none⟩ n).heap[r0]? = some (.cells cs blk.ty (lo',bn)):=by
  unfold World.freeze
  split
  · exact ⟨lo,hi,m1⟩
  · simp only[Array.getElem?_modify,if_true,m1,map_some]
    split
    · exact ⟨_,_,rfl⟩
    · exact ⟨_,_,rfl⟩
 obtain ⟨lo',bn,ak⟩:=ak
 have yx:∀ k,k≠r0→(w.freeze ⟨r0,0,none⟩ n).heap[k]? = w.heap[k]?:=by
  intro k hk;unfold World.freeze
  split
  · rfl
  · simp only[Array.getElem?_modify];rw[if_neg (fun e=>hk e.symm)]
 have de:(w.freeze ⟨r0,0,none⟩ n).heap.size=w.heap.size:=by
  unfold World.freeze;split<;>simp
 have bp:∀ r o,(w.freeze ⟨r0,0,none⟩ n).cell? ⟨r,o,none⟩ = w.cell? ⟨r,o,none⟩:=by
  intro r o;rw[qrb,qrb]
  by_cases h:r=r0
  · subst h;rw[ak,m1]
  · rw[yx r h]
 have hos:(w.freeze ⟨r0,0,none⟩ n).os=w.os∧(w.freeze ⟨r0,0,none⟩ n).tape=w.tape∧(w.freeze ⟨r0,0,none⟩ n).output=w.output:=by
  unfold World.freeze;split<;>exact ⟨rfl,rfl,rfl⟩
 have yg:gq ρ H r0:=⟨b,s0,by simp[hb],hr⟩
 have ip:∀ x,(co H b { blk with fz:=true } x).isSome=(H x).isSome:=by
  intro x
  by_cases hx:x=b
  · subst hx;simp[qab,hb]
  · rw[qp _ _ hx]
 have ad2:∀ r,gq ρ (co H b { blk with fz:=true }) r→gq ρ H r:=by
  rintro r ⟨x,s,hx,n6⟩;exact ⟨x,s,by rw[← ip];exact hx,n6⟩
 have e:Ext w C ρ H (w.freeze ⟨r0,0,none⟩ n) (fun r o=>C r o∨(r=r0∧o<blk.rows.length*blk.sz)) ρ (co H b { blk with fz:=true }):=by
  refine ⟨fun _ _ h=>.inl h,fun r o _=>bp r o,fun x bj hx=>?_,hos.1,hos.2.1,hos.2.2,by omega,fun r ei i6=>yx r fun e=>i6 (e ▸ yg),fun r h=>.inl (ad2 r h),fun r o h=>?_⟩
  · by_cases dk:x=b
    · subst dk;rw[hb] at hx;cases hx;exact ⟨_,qab ..,rfl,le_refl _,fun _=>rfl⟩
    · exact ⟨bj,by rw[qp _ _ dk];exact hx,rfl,le_refl _,fun _=>rfl⟩
  · rcases h with h|⟨rfl,_⟩
    · exact .inl h
    · exact .inr (.inl yg)
 refine ⟨⟨fun x blk1 hx=>?_,fun x y r s s' dc hx hy n6 rx=>?_,fun r o hc=>?_⟩,e⟩
 · by_cases dk:x=b
   · subst dk;rw[qab] at hx;cases hx;unfold cw;rw[hr];refine ⟨⟨cs,lo',bn,ak,m2,fun h=>by simp at h,fun h=>by simp at h,by show blk.rows.length*blk.sz≤s0;omega,f2,fun i j hi hj=>?_⟩,fun h=>by simp at h,fun _ o ho=>.inr ⟨rfl,ho⟩⟩
     obtain ⟨v,v1,v2,v3⟩:=f3 i j hi hj;exact ⟨v,v1,v2,v3.mono e⟩
   · rw[qp _ _ dk] at hx;refine (hR.blk x blk1 hx).ext e rfl (fun r s n6=>yx r fun e=>?_) (fun r s n6 _ o hc=>?_)
     · subst e;exact hR.dis x b r s s0 dk (by simp[hx]) (by simp[hb]) n6 hr
     · rcases hc with hc|⟨rfl,_⟩
       · exact hc
       · exact (hR.dis x b r s s0 dk (by simp[hx]) (by simp[hb]) n6 hr).elim
 · rw[ip] at hx hy;exact hR.dis x y r s s' dc hx hy n6 rx
 · rw[bp];rcases hc with hc|⟨rfl,ho⟩
   · exact hR.com r o hc
   · refine ⟨cs[o]'(by omega),?_⟩
     rw[qrb,m1];simp
theorem qug(hR:bh w C ρ H)(hev:∀ x,ao w C ρ H (ev x) (rv x)){args:Array Operand}{il:Array TypeId}
 (ho:o.op = .call { callee:=.builtin .unsafeSliceData,args,argTypes:=il })
 (h:ag P id ev H (.call { callee:=.builtin .unsafeSliceData,args,argTypes:=il })=some r):Out w C ρ H r ((execOp rv o).run P w):=by
 simp only[ag] at h;obtain ⟨cs,kr⟩:=qsd (P:=P) (w:=w) rv ho;rw[kr]
 split at h
 · rename_i x ck;obtain ⟨l⟩:=args;simp only at ck;subst ck;have hx:=hev x;generalize hv:rv x=vx at hx
   split at h
   · rename_i b n off len g8;rw[g8] at hx;cases hx with
     | own _ _ _ _ _ blk hb hn h1 hp=>
     simp only[hb] at h
     split at h
     · rename_i hc;obtain ⟨c1,rfl,c3⟩:=hc;cases h;rcases hp c1 with ⟨r0,s0,cap,fp,rfl,hlc,a60,hol⟩|⟨_,_,h0,_⟩
       · refine Out.same hR (.ptr b n 0 0 _ blk hb hn rfl fun _=>⟨r0,s0,fp,rfl⟩) ?_
         have:=Lib.run_unsafeSliceData_row (P:=P) (w:=w) il o.type ⟨r0,0*blk.sz,none⟩ len cap (by omega)
         simp only[zero_mul] at this;simp[builtin,hv,this]
       · omega
     · simp at h
   · simp at h
 · simp at h
theorem qvi(hR:bh w C ρ H)(hev:∀ x,ao w C ρ H (ev x) (rv x)){args:Array Operand}{il:Array TypeId}
 (ho:o.op = .call { callee:=.builtin .unsafeString,args,argTypes:=il })
 (h:ag P id ev H (.call { callee:=.builtin .unsafeString,args,argTypes:=il })=some r):Out w C ρ H r ((execOp rv o).run P w):=by
 simp only[ag] at h;obtain ⟨cs,kr⟩:=qsd (P:=P) (w:=w) rv ho;rw[kr]
 split at h
 · rename_i x y t t' ck s8;obtain ⟨l⟩:=args;obtain ⟨l'⟩:=il;simp only at ck s8;subst ck;subst s8;have hx:=hev x;have hy:=hev y;generalize hv:rv x=vx at hx
   split at h
   · rename_i b n len g8 hye;rw[g8] at hx;rw[hye] at hy;have hvy:=qcc hy;cases hx with
     | ptr _ _ _ _ _ blk hb hn h1 hp=>
     split at h
     · rename_i bj e pm he;rw[hb] at pm;cases pm
       split at h
       · rename_i hc;obtain ⟨c1,c2,c3,c4,c5,c6,c7,c8⟩:=hc
         split at h
         · rename_i bs hbs;cases h;obtain ⟨g1,g2⟩:=qyx _ _ hbs;obtain ⟨r0,s0,fp,hvp⟩:=hp c1;obtain ⟨cells,lo,hi,m1,m2,m3,m4,f1,f2,f3⟩:=qlf hR hb fp;have hbl:bs.length=len.toNat:=by rw[← g1,List.length_take];omega
           have an:(bs.length:Int)=len:=by omega
           have iv:=Lib.run_unsafeString_row (P:=P) (w:=w) t t' o.type e (as8 he) c6 r0 cells.size (by simp[World.shape?,m1,c5]) bs (by intro hh;rw[hh] at hbl;simp at hbl;omega) (by rw[c7] at f1;omega) (by omega) (fun j x hj=>by
            obtain ⟨gb,rfl⟩:=List.getElem?_eq_some_iff.1 hj;have hjr:j<blk.rows.length:=by omega
            have hg:=g2 j (by rw[g1];exact gb) gb
            simp only[List.getElem_take] at hg;obtain ⟨v,v1,v2,v3⟩:=f3 j 0 hjr (by rw[hg];simp)
            simp only[hg,getElem_cons_zero] at v3;rw[← qcc v3,qdc,qrb,m1]
            simpa [c7] using v1)
           rw[an] at iv;obtain ⟨k1,k2⟩:=aro hR (n:=bs.length) hb fp;have apq:vx = .pointer (some ⟨r0,0,none⟩):=by rw[hvp];simp
           refine ⟨_,_,ρ,_,.inl ?_,k1,k2,.d _ _ (.str bs)⟩;simp[builtin,hv,hvy,apq,iv]
         · simp at h
       · simp at h
     · simp at h
   · simp at h
 · simp at h
end Am

namespace Am
open Go
variable {P:Program}{w:World}{C:Com}{ρ:Rho}{H:ba}
variable {ev:Operand→AV}{rv:Operand→Value}{id:Nat}{r:Res}{o:Oper}
theorem qpv(hR:bh w C ρ H)(iz:H id=none)(hev:∀ x,ao w C ρ H (ev x) (rv x))
 (h:ag P id ev H o.op=some r):Out w C ρ H r ((execOp rv o).run P w):=by
 cases ho:o.op with
 | move x=>rw[ho] at h;exact qlo hR hev (.inl ho) h
 | assign x=>rw[ho] at h;exact qlo hR hev (.inr ho) h
 | pick c a b=>rw[ho] at h;exact axa hR hev ho h
 | alloc t=>rw[ho] at h;exact qhw (id:=id) (ev:=ev) hR iz ho h
 | box t x=>rw[ho] at h;exact axz hR iz hev ho h
 | build t ps=>rw[ho] at h;exact qsv hR hev ho h
 | buildSlice t n ps=>rw[ho] at h;exact qjl hR iz hev ho h
 | load t x=>rw[ho] at h;exact awn hR hev ho h
 | store t a x=>rw[ho] at h;exact qhy hR hev ho h
 | nilCheck x=>rw[ho] at h;exact qko hR hev ho h
 | binOp op t x y u=>rw[ho] at h;exact qqx hR hev ho h
 | unOp op t x=>rw[ho] at h;exact asw hR hev ho h
 | convert s t x=>rw[ho] at h;exact qpq hR iz hev ho h
 | makeFunc f a b=>rw[ho] at h;exact qgo hR hev ho h
 | makeSlice t l c=>rw[ho] at h;exact qam hR iz hev ho h
 | slice t x lo hi mx=>rw[ho] at h;exact qmy hR hev ho h
 | fieldAddr t x f=>rw[ho] at h;exact qin hR hev ho h
 | field t x f=>rw[ho] at h;exact qpw hR hev ho h
 | indexAddr t x i=>rw[ho] at h;exact qtn hR hev ho h
 | index t x i=>rw[ho] at h;exact qdx hR hev ho h
 | extract x i=>rw[ho] at h;exact qyp hR hev ho h
 | call c=>
  rw[ho] at h;obtain ⟨callee,args,il⟩:=c;cases callee with
  | builtin b=>
   cases b with
   | len=>exact asz hR hev ho h
   | min=>exact axq hR hev ho h
   | max=>exact apw hR hev ho h
   | append=>exact qju hR iz hev ho h
   | unsafeSliceData=>exact qug hR hev ho h
   | unsafeString=>exact qvi hR hev ho h
   | _=>simp[ag] at h
  | _=>simp[ag] at h
 | _=>rw[ho] at h;simp[ag] at h
end Am

namespace Am
open Go
variable {P:Program}{w w':World}{C C':Com}{ρ ρ':Rho}{H H':ba}
mutual
def AV.ren(m:Nat→Nat):AV→AV
 | .d x=>.d x
 | .nils=>.nils
 | .agg cs=>.agg (AV.renL m cs)
 | .tup cs=>.tup (AV.renL m cs)
 | .ptr b n i j=>.ptr (m b) n i j
 | .own b n off len=>.own (m b) n off len
 | .eptr cs=>.eptr cs
 | .clo f a b=>.clo f (AV.renL m a) (AV.renL m b)
 | .junk=>.junk
def AV.renL(m:Nat→Nat):List AV→List AV
 | []=>[]
 | c::cs=>c.ren m::AV.renL m cs
end
theorem qoc(m:Nat→Nat)(l:List AV):AV.renL m l=l.map (AV.ren m):=by
 induction l with
 | nil=>rfl
 | cons c l ih=>simp[AV.renL,ih]
mutual
def AV.inK(k:Nat):AV→Bool
 | .ptr b _ _ _=>decide (b<k)
 | .own b _ _ _=>decide (b<k)
 | .agg cs=>AV.inKL k cs
 | .tup cs=>AV.inKL k cs
 | .clo _ a b=>AV.inKL k a&&AV.inKL k b
 | _=>true
def AV.inKL(k:Nat):List AV→Bool
 | []=>true
 | c::cs=>c.inK k&&AV.inKL k cs
end
theorem qig(k:Nat)(l:List AV):AV.inKL k l=l.all (AV.inK k):=by
 induction l with
 | nil=>rfl
 | cons c l ih=>simp[AV.inKL,ih]
def Blk.ren(m:Nat→Nat)(b:Blk):Blk:={ b with rows:=b.rows.map (·.map (AV.ren m)) }
def hOf(l:List Blk):ba:=fun b=>l[b]?
theorem qtp{m:Nat→Nat}{ρ0:Rho}{H0:ba}{k:Nat}(hH:∀ b,b<k→∃ blk,H0 b=some blk∧H (m b)=some (blk.ren m))(hρ:∀ b,b<k→ρ0 b=ρ (m b))
 {y:AV} {v:Value} (h:ao w C ρ H y v):∀ x:AV,y=x.ren m→x.inK k=true→ao w C ρ0 H0 x v:=by
 induction h with
 | d z v h=>intro x hx _;cases x<;>simp[AV.ren] at hx;subst hx;exact .d _ _ h
 | nils=>intro x hx _;cases x<;>simp[AV.ren] at hx;exact .nils
 | agg cs vs hl h1 _ ih=>
  intro x hx hk;cases x<;>simp[AV.ren] at hx
  rename_i cs0;subst hx;simp only[qoc,length_map] at hl ih;simp only[AV.inK,qig,all_eq_true] at hk;refine .agg cs0 vs hl h1 fun i h h'=>ih i (by simpa using h) h' _ (by simp) (hk _ (getElem_mem _))
 | tup cs vs hl _ ih=>
  intro x hx hk;cases x<;>simp[AV.ren] at hx
  rename_i cs0;subst hx;simp only[qoc,length_map] at hl ih;simp only[AV.inK,qig,all_eq_true] at hk;refine .tup cs0 vs hl fun i h h'=>ih i (by simpa using h) h' _ (by simp) (hk _ (getElem_mem _))
 | ptr b n i j v blk hb hn h1 hp=>
  intro x hx hk;cases x<;>simp[AV.ren] at hx
  rename_i b0 n0 i0 j0;obtain ⟨rfl,rfl,rfl,rfl⟩:=hx;simp[AV.inK] at hk;obtain ⟨bj,g1,g2⟩:=hH b0 hk;rw[g2] at hb;cases hb;simp only[Blk.ren,length_map] at hn hp;refine .ptr b0 _ _ _ v bj g1 hn h1 fun e=>?_
  rw[hρ b0 hk];exact hp e
 | own b n off len v blk hb hn h1 hp=>
  intro x hx hk;cases x<;>simp[AV.ren] at hx
  rename_i b0 n0 i0 j0;obtain ⟨rfl,rfl,rfl,rfl⟩:=hx;simp[AV.inK] at hk;obtain ⟨bj,g1,g2⟩:=hH b0 hk;rw[g2] at hb;cases hb;simp only[Blk.ren,length_map] at hn hp;refine .own b0 _ _ _ v bj g1 hn h1 fun e=>?_
  rw[hρ b0 hk];exact hp e
 | eptr cs r o vs hC bp hrec=>intro x hx _;cases x<;>simp[AV.ren] at hx;subst hx;exact .eptr _ r o vs hC bp hrec
 | clo f first caps fv cv hf hc _ _ ih1 ih2=>
  intro x hx hk;cases x<;>simp[AV.ren] at hx
  rename_i f0 a0 b0;obtain ⟨rfl,rfl,rfl⟩:=hx;simp only[qoc,length_map] at hf hc ih1 ih2;simp only[AV.inK,qig,and_eq_true,all_eq_true] at hk;exact .clo _ a0 b0 fv cv hf hc (fun i h h'=>ih1 i (by simpa using h) h' _ (by simp) (hk.1 _ (getElem_mem _))) (fun i h h'=>ih2 i (by simpa using h) h' _ (by simp) (hk.2 _ (getElem_mem _)))
 | junk v=>intro x hx _;cases x<;>simp[AV.ren] at hx;exact .junk v
theorem afs{m:Nat→Nat}{ρ0:Rho}{H0:ba}(hH:∀ b blk,H0 b=some blk→H (m b)=some (blk.ren m)∧ρ (m b)=ρ0 b)
 {x:AV} {v:Value} (h:ao w C ρ0 H0 x v):ao w C ρ H (x.ren m) v:=by
 induction h with
 | d z v h=>exact .d _ _ h
 | nils=>exact .nils
 | agg cs vs hl h1 _ ih=>
  simp only[AV.ren,qoc];exact .agg _ vs (by simpa using hl) h1 fun i h h'=>by simp only[getElem_map];exact ih i (by simpa using h) h'
 | tup cs vs hl _ ih=>
  simp only[AV.ren,qoc];exact .tup _ vs (by simpa using hl) fun i h h'=>by simp only[getElem_map];exact ih i (by simpa using h) h'
 | ptr b n i j v blk hb hn h1 hp=>
  obtain ⟨g1,g2⟩:=hH b blk hb;refine .ptr _ _ _ _ v _ g1 (by simpa [Blk.ren] using hn) h1 fun e=>?_
  rw[g2];exact hp (by simpa [Blk.ren] using e)
 | own b n off len v blk hb hn h1 hp=>
  obtain ⟨g1,g2⟩:=hH b blk hb;refine .own _ _ _ _ v _ g1 (by simpa [Blk.ren] using hn) h1 fun e=>?_
  rw[g2];exact hp (by simpa [Blk.ren] using e)
 | eptr cs r o vs hC bp hrec=>exact .eptr _ r o vs hC bp hrec
 | clo f first caps fv cv hf hc _ _ ih1 ih2=>
  simp only[AV.ren,qoc]
  exact .clo _ _ _ fv cv (by simpa using hf) (by simpa using hc) (fun i h h'=>by simp only[getElem_map];exact ih1 i (by simpa using h) h')
   (fun i h h'=>by simp only[getElem_map];exact ih2 i (by simpa using h) h')
 | junk v=>exact .junk v
def th (P:Program) (f:FuncId):Prop:=∃ fn,P.funcs[f]? = some fn∧fn.body.isSome=true∧(fn.name == "runtime.NumGoroutine")=false
def dy(w:World)(C:Com)(ρ:Rho)(H:ba)(l:List AV)(vs:List Value):Prop:=
 l.length=vs.length∧∀ i (h:i<l.length) (h':i<vs.length),ao w C ρ H l[i] vs[i]
abbrev bl:=Nat→Option (List D)
def j9(G:bl)(w:World)(C:Com):Prop:=∀ g cells,G g=some cells→ao w C (fun _=>none) (fun _=>none) (.eptr cells) (.pointer (some ⟨g,0,none⟩))
theorem ao.eptr_mono{w w':World}{C C':Com}{ρ ρ':Rho}{H H':ba}(hc:∀ r o,C r o→C' r o)(hw:∀ r o,C r o→w'.cell? ⟨r,o,none⟩ = w.cell? ⟨r,o,none⟩)
 {cs:List D} {v:Value} (h:ao w C ρ H (.eptr cs) v):ao w' C' ρ' H' (.eptr cs) v:=by
 cases h with
 | eptr _ r o vs h1 h2 h3=>exact .eptr cs r o vs (fun j hj=>hc _ _ (h1 j hj)) (fun j hj=>by rw[hw _ _ (h1 j hj)];exact h2 j hj) (fun j hj=>(h3 j hj).mono hc hw)
theorem j9.mono{G:bl}{w w':World}{C C':Com}(h:j9 G w C)(hc:∀ r o,C r o→C' r o)(hw:∀ r o,C r o→w'.cell? ⟨r,o,none⟩ = w.cell? ⟨r,o,none⟩):j9 G w' C':=
 fun g cells hg=>(h g cells hg).eptr_mono hc hw
def CC(P:Program)(G:bl)(f:FuncId)(Hin:List Blk)(args:List AV)(Hout:List Blk)(r:AV):Prop:=
 th P f∧∀ (w:World) (C:Com) (ρ:Rho) (vs:List Value),bh w C ρ (hOf Hin)→j9 G w C→dy w C ρ (hOf Hin) args vs→
  Calls P f ⟨vs⟩ w fun e w'=>∃ v C' ρ',e = .returned v∧bh w' C' ρ' (hOf Hout)∧Ext w C ρ (hOf Hin) w' C' ρ' (hOf Hout)∧ao w' C' ρ' (hOf Hout) r v
def D.scal:D→Bool
 | .sl _=>false
 | _=>true
mutual
def AV.scal:AV→Bool
 | .d x=>x.scal
 | .agg cs=>AV.scalL cs
 | .tup cs=>AV.scalL cs
 | .junk=>true
 | _=>false
def AV.scalL:List AV→Bool
 | []=>true
 | c::cs=>c.scal&&AV.scalL cs
end
theorem qsl(l:List AV):AV.scalL l=l.all AV.scal:=by
 induction l with
 | nil=>rfl
 | cons c l ih=>simp[AV.scalL,ih]
theorem a1v{w':World}{C':Com}{ρ':Rho}{H':ba}{x:AV}{v:Value}(h:ao w C ρ H x v):x.scal=true→ao w' C' ρ' H' x v:=by
 induction h with
 | d z v h=>
  intro hs;refine .d _ _ ?_;cases h with
  | nil=>simp[AV.scal,D.scal] at hs
  | nilA=>simp[AV.scal,D.scal] at hs
  | sl=>simp[AV.scal,D.scal] at hs
  | int k n=>exact .int k n
  | bool b=>exact .bool b
  | str l=>exact .str l
  | raw v=>exact .raw v
 | nils=>intro hs;simp[AV.scal] at hs
 | agg cs vs hl h1 _ ih=>
  intro hs;simp only[AV.scal,qsl,all_eq_true] at hs;exact .agg cs vs hl h1 fun i h h'=>ih i h h' (hs _ (getElem_mem _))
 | tup cs vs hl _ ih=>
  intro hs;simp only[AV.scal,qsl,all_eq_true] at hs;exact .tup cs vs hl fun i h h'=>ih i h h' (hs _ (getElem_mem _))
 | junk v=>intro _;exact .junk v
 | _=>intro hs;simp[AV.scal] at hs
end Am

namespace Am
open Go
variable {P:Program}{w w':World}{C C':Com}{ρ ρ':Rho}{H H':ba}
def lw:Nat→ba→AV→D
 | _,_,.d x=>x
 | _,_,.nils=>.sl []
 | n+1,H,.own b _ off len=>match H b with
  | some blk=>.sl (((blk.rows.drop off).take len).map (·.map (lw n H)))
  | none=>.bool false
 | _,_,_=>.bool false
def j8:Nat→ba→AV→Bool
 | _,_,.d _=>true
 | _,_,.nils=>true
 | n+1,H,.own b m off len=>match H b with
  | some blk=>decide (blk.rows.length=m)&&decide (off+len≤m)&&((blk.rows.drop off).take len).all (·.all (j8 n H))
  | none=>false
 | _,_,_=>false
def fh:Nat→ba→AV→List Nat
 | n+1,H,.own b _ off len=>b::(match H b with
  | some blk=>((blk.rows.drop off).take len).flatMap (·.flatMap (fh n H))
  | none=>[])
 | _,_,_=>[]
def ux(b:Blk):Blk:={ b with fz:=true }
def dl(bs:List Nat)(H:ba):ba:=fun b=>if b∈bs then (H b).map ux else H b
def u6(bs:List Nat)(H:ba)(ρ:Rho)(C:Com):Com:=fun r o=>C r o∨∃ b blk s,b∈bs∧H b=some blk∧ρ b=some (r,s)∧o<blk.rows.length*blk.sz
theorem at0{bs:List Nat}{b:Nat}{blk:Blk}(h:H b=some blk):∃ fz,dl bs H b=some { blk with fz }∧(fz=false→blk.fz=false∧b ∉ bs):=by
 unfold dl
 by_cases hb:b∈bs
 · exact ⟨true,by simp[hb,h,ux],by simp⟩
 · exact ⟨blk.fz,by simp[hb,h],fun e=>⟨e,hb⟩⟩
theorem qol{bs:List Nat}{b:Nat}{blk:Blk}(h:dl bs H b=some blk):∃ bj,H b=some bj∧blk = { bj with fz:=blk.fz }∧(blk.fz=false→bj.fz=false∧b ∉ bs)∧(blk.fz=true→bj.fz=true∨b∈bs):=by
 unfold dl at h
 by_cases hb:b∈bs
 · simp only[hb,if_true,map_eq_some_iff] at h;obtain ⟨bj,h0,rfl⟩:=h;exact ⟨bj,h0,rfl,by simp[ux],fun _=>.inr hb⟩
 · simp only[hb,if_false] at h;exact ⟨blk,h,rfl,fun e=>⟨e,hb⟩,fun e=>.inl e⟩
theorem ma(bs:List Nat):Ext w C ρ H w (u6 bs H ρ C) ρ (dl bs H) where
 com _ _ h:=.inl h
 cell _ _ _:=rfl
 blk b blk h:=by
  obtain ⟨fz,g,_⟩:=at0 (bs:=bs) h;exact ⟨_,g,rfl,le_refl _,fun _=>rfl⟩
 os:=rfl
 tape:=rfl
 output:=rfl
 size:=le_refl _
 same _ _ _:=rfl
 rows r ho:=by
  obtain ⟨b,s,hb,hr⟩:=ho;obtain ⟨blk,hb⟩:=Option.isSome_iff_exists.1 hb;obtain ⟨bj,h0,_⟩:=qol hb;exact .inl ⟨b,s,by simp[h0],hr⟩
 grow r o h:=by
  rcases h with h|⟨b,blk,s,_,hb,hr,_⟩
  · exact .inl h
  · exact .inr (.inl ⟨b,s,by simp[hb],hr⟩)
theorem qwp(hR:bh w C ρ H)(bs:List Nat):bh w (u6 bs H ρ C) ρ (dl bs H):=by
 have e:=ma (w:=w) (C:=C) (ρ:=ρ) (H:=H) bs
 constructor
 · intro b blk hb;obtain ⟨bj,h0,vd,hf,ht⟩:=qol hb;have hp:=hR.blk b bj h0;unfold cw at hp ⊢;rw[vd];cases hr:ρ b with
   | none=>rw[hr] at hp;exact hp
   | some p=>
    obtain ⟨r,s⟩:=p;rw[hr] at hp;obtain ⟨⟨cs,lo,hi,h1,h2,h3,h4,h5,h6,h7⟩,h8,h9⟩:=hp;refine ⟨⟨cs,lo,hi,h1,h2,fun g=>h3 (hf g).1,fun g=>h4 (hf g).1,h5,h6,fun i j hi hj=>?_⟩,?_,?_⟩
    · obtain ⟨v,g1,g2,g3⟩:=h7 i j hi hj;exact ⟨v,g1,g2,g3.mono e⟩
    · intro kz o hc;obtain ⟨g1,g2⟩:=hf kz;rcases hc with hc|⟨b',blk',s',et,hH',ei,_⟩
      · exact h8 g1 o hc
      · refine hR.dis b b' r s s' (fun e=>g2 (e ▸ et)) (by simp[h0]) (by simp[hH']) hr ei
    · intro kz o ho;rcases ht kz with g|g
      · exact .inl (h9 g o ho)
      · exact .inr ⟨b,bj,s,g,h0,hr,ho⟩
 · intro b b' r s s' dc hb et hr ei;obtain ⟨x,hx⟩:=Option.isSome_iff_exists.1 hb;obtain ⟨y,hy⟩:=Option.isSome_iff_exists.1 et;obtain ⟨x0,hx0,_⟩:=qol hx;obtain ⟨y0,hy0,_⟩:=qol hy;exact hR.dis b b' r s s' dc (by simp[hx0]) (by simp[hy0]) hr ei
 · intro r o hc;rcases hc with hc|⟨b,blk,s,_,hb,hr,ho⟩
   · exact hR.com r o hc
   · obtain ⟨cs,lo,hi,m1,m2,m3,m4,f1,f2,f3⟩:=qlf hR hb hr;refine ⟨cs[o]'(by omega),?_⟩
     rw[qrb,m1];simp
theorem ag4(hR:bh w C ρ H){C1:Com}(hC:∀ r o,C r o→C1 r o):∀ (n:Nat) (x:AV) (v:Value),ao w C ρ H x v→j8 n H x=true→
 (∀ b blk r s,b∈fh n H x→H b=some blk→ρ b=some (r,s)→∀ o,o<blk.rows.length*blk.sz→C1 r o)→eb w C1 (lw n H x) v:=by
 intro n
 induction n with
 | zero=>
  intro x v hx hok _;cases hx with
  | d z v h=>exact h.mono hC fun _ _ _=>rfl
  | nils=>exact .nil
  | _=>simp[j8] at hok
 | succ n ih=>
  intro x v hx hok iz;cases hx with
  | d z v h=>exact h.mono hC fun _ _ _=>rfl
  | nils=>exact .nil
  | own b m off len v blk hb hn h1 hp=>
   simp only[j8,hb,and_eq_true,decide_eq_true_eq,all_eq_true] at hok;obtain ⟨⟨k1,k2⟩,k3⟩:=hok;simp only[fh,hb,mem_cons,mem_flatMap] at iz;simp only[lw,hb];have an:((blk.rows.drop off).take len).length=len:=by simp;omega
   rcases hp k1 with ⟨r0,s0,cap,fp,rfl,hlc,kr,hol⟩|⟨_,_,rfl,rfl⟩
   · obtain ⟨cs,lo,hi,m1,m2,m3,m4,f1,f2,f3⟩:=qlf hR hb fp;have hg:∀ i (hi:i<len),((blk.rows.drop off).take len)[i]'(by omega)=blk.rows[off+i]'(by omega):=fun i hi=>by simp
     have hch:∀ i j,∃ v,∀ (hi:i<len) (hj:j<(blk.rows[off+i]'(by omega)).length),w.cell? ⟨r0,(off+i)*blk.sz+j,none⟩ = some v∧v.oneCell' = true∧ao w C ρ H ((blk.rows[off+i]'(by omega))[j]) v:=by
      intro i j
      by_cases hi:i<len
      · by_cases hj:j<(blk.rows[off+i]'(by omega)).length
        · obtain ⟨v,hv⟩:=adq hR hb fp (i:=off+i) (j:=j) (by omega) hj
          exact ⟨v,fun _ _=>hv⟩
        · exact ⟨undef,fun _ h=>absurd h hj⟩
      · exact ⟨undef,fun h=>absurd h hi⟩
     have a3z:∃ f:Nat→Nat→Value,∀ i j (hi:i<len) (hj:j<(blk.rows[off+i]'(by omega)).length),w.cell? ⟨r0,(off+i)*blk.sz+j,none⟩ = some (f i j)∧(f i j).oneCell' = true∧ao w C ρ H ((blk.rows[off+i]'(by omega))[j]) (f i j):=by
      have h2:=fun i=>Classical.axiomOfChoice (hch i)
      obtain ⟨f,hf⟩:=Classical.axiomOfChoice h2;exact ⟨f,fun i j=>hf i j⟩
     obtain ⟨f,hf⟩:=a3z
     have hxl:(((blk.rows.drop off).take len).map (·.map (lw n H))).length=len:=by rw[length_map,an]
     have e1:∀ i j,off*blk.sz+i*blk.sz+j=(off+i)*blk.sz+j:=fun i j=>by rw[add_mul]
     have zg:=eb.sl (w:=w) (C:=C1) (((blk.rows.drop off).take len).map (·.map (lw n H))) r0 (off*blk.sz) cap blk.sz f (by rw[hxl];exact hlc) ?_ ?_ ?_ ?_
     · rw[hxl] at zg;exact zg
     · intro i hi;rw[hxl] at hi;simp only[getElem_map,length_map,hg i hi];exact f2 _ _
     · intro i j hi hj;rw[hxl] at hi;refine iz b blk r0 s0 (.inl rfl) hb fp _ ?_;have:(off+i+1)*blk.sz≤blk.rows.length*blk.sz:=mul_le_mul_right _ (by omega)
       rw[add_mul (off+i),one_mul] at this;rw[e1];omega
     · intro i j hi hj;rw[hxl] at hi;obtain ⟨g1,g2,_⟩:=hf i j hi (by rw[f2 (off+i) (by omega)];exact hj)
       rw[e1];exact ⟨g1,g2⟩
     · intro i j hi hj;rw[hxl] at hi;simp only[getElem_map,length_map,hg i hi] at hj ⊢
       have ak:blk.rows[off+i]'(by omega)∈(blk.rows.drop off).take len:=by
        rw[← hg i hi];exact getElem_mem _
       refine ih _ _ (hf i j hi hj).2.2 (k3 _ ak _ (getElem_mem _)) fun b' blk' r' s' et=>iz b' blk' r' s' (.inr ⟨_,ak,_,getElem_mem _,et⟩)
   · simp;exact .nil
  | _=>simp[j8] at hok
def rg(H:ba):AV→AV
 | .own b n off len=>.d (lw 3 H (.own b n off len))
 | .nils=>.d (.sl [])
 | x=>x
def xl(H:ba):AV→AV
 | .agg cs=>.agg (cs.map (rg H))
 | x=>rg H x
def jr(H:ba):AV→Bool
 | .own b n off len=>j8 3 H (.own b n off len)
 | _=>true
def nc(H:ba):AV→Bool
 | .agg cs=>cs.all (jr H)
 | x=>jr H x
def e9(H:ba):AV→List Nat
 | .own b n off len=>fh 3 H (.own b n off len)
 | _=>[]
def gl(H:ba):AV→List Nat
 | .agg cs=>cs.flatMap (e9 H)
 | x=>e9 H x
theorem qha(hR:bh w C ρ H){bs:List Nat}{x:AV}{v:Value}(hx:ao w C ρ H x v)(hok:jr H x=true)(hbs:∀ b∈e9 H x,b∈bs) :
 ao w (u6 bs H ρ C) ρ (dl bs H) (rg H x) v:=by
 cases x with
 | own b n off len=>
  refine .d _ _ (ag4 hR (fun _ _ h=>.inl h) 3 _ v hx hok fun b' blk r s et hH hr o ho=>.inr ⟨b',blk,s,hbs b' et,hH,hr,ho⟩)
 | nils=>cases hx;exact .d _ _ .nil
 | _=>exact hx.mono (ma bs)
theorem als(hR:bh w C ρ H){bs:List Nat}{x:AV}{v:Value}(hx:ao w C ρ H x v)(hok:nc H x=true)(hbs:∀ b∈gl H x,b∈bs) :
 ao w (u6 bs H ρ C) ρ (dl bs H) (xl H x) v:=by
 cases x with
 | agg cs=>
  cases hx with
  | agg _ vs hl h1 h=>
  simp only[nc,all_eq_true] at hok;simp only[gl,mem_flatMap] at hbs;refine .agg _ vs (by simpa using hl) h1 fun i hi bn=>?_
  simp only[getElem_map];exact qha hR (h i (by simpa using hi) bn) (hok _ (getElem_mem _)) fun b hb=>hbs b ⟨_,getElem_mem _,hb⟩
 | _=>exact qha hR hx hok hbs
end Am

namespace Am
open Go
variable {P:Program}{w w':World}{C C':Com}{ρ ρ':Rho}{H H':ba}
theorem qiu(hs:List (Nat × Blk)):∀ (H:ba) (b:Nat),cd H hs b=match (hs.reverse.find? (fun p=>p.1 == b)) with|some p=>some p.2|none=>H b:=by
 induction hs with
 | nil=>intro H b;rfl
 | cons p hs ih=>
  intro H b;simp only[cd,ih,List.reverse_cons,List.find?_append];cases hf:hs.reverse.find? (fun p=>p.1 == b) with
  | some q=>simp
  | none=>
   simp only[Option.none_or,List.find?_cons,List.find?_nil]
   by_cases hp:p.1=b
   · subst hp;simp[co]
   · have:(p.1 == b)=false:=by simpa using hp
     simp only[this,co];rw[if_neg (fun e=>hp e.symm)]
def ek(m:Nat→Nat)(Hout:List Blk):List (Nat × Blk):=(range Hout.length).map fun i=>(m i,(Hout.getD i ⟨true,false,0,0,[]⟩).ren m)
theorem qlt{m:Nat→Nat}{Hout:List Blk}(hm:∀ i j,i<Hout.length→j<Hout.length→m i=m j→i=j)(H:ba) :
 (∀ i (h:i<Hout.length),cd H (ek m Hout) (m i)=some ((Hout[i]).ren m))∧∀ b,(∀ i,i<Hout.length→m i≠b)→cd H (ek m Hout) b=H b:=by
 constructor
 · intro i hi;rw[qiu]
   have hx:((ek m Hout).reverse.find? (fun p=>p.1 == m i)).isSome=true:=by
    rw[List.find?_isSome];exact ⟨(m i,(Hout.getD i ⟨true,false,0,0,[]⟩).ren m),by simp only[mem_reverse,ek,mem_map,mem_range];exact ⟨i,hi,rfl⟩,by simp⟩
   obtain ⟨q,hq⟩:=Option.isSome_iff_exists.1 hx;rw[hq];have h1:=List.find?_some hq;have h2:=List.mem_of_find?_eq_some hq;simp only[mem_reverse,ek,mem_map,mem_range] at h2;obtain ⟨j,hj,rfl⟩:=h2;simp at h1;have:=hm j i hj hi h1;subst this;simp[List.getElem?_eq_getElem hi]
 · intro b hb;rw[qiu]
   have:(ek m Hout).reverse.find? (fun p=>p.1 == b)=none:=by
    rw[List.find?_eq_none];intro p hp;simp only[mem_reverse,ek,mem_map,mem_range] at hp;obtain ⟨i,hi,rfl⟩:=hp
    simpa using hb i hi
   rw[this]
structure wp(m:Nat→Nat)(Hin Hout:List Blk)(H:ba):Prop where
 inj:∀ i j,i<Hout.length→j<Hout.length→m i=m j→i=j
 len:Hin.length≤Hout.length
 old:∀ i (h:i<Hin.length),H (m i)=some ((Hin[i]).ren m)
 new:∀ i,Hin.length≤i→i<Hout.length→H (m i)=none
 inK:∀ i (h:i<Hin.length),∀ row∈(Hin[i]).rows,row.all (AV.inK Hin.length)=true
theorem aul{G:bl}(hG:j9 G w C)(hR:bh w C ρ H){m:Nat→Nat}{Hin Hout:List Blk}{f:FuncId}{args:List AV}{r:AV}{vs:List Value}(hc:CC P G f Hin args Hout r)(ho:wp m Hin Hout H)
 (hk:∀ x∈args,x.inK Hin.length=true) (hv:dy w C ρ H (args.map (AV.ren m)) vs) :
 Calls P f ⟨vs⟩ w fun e w'=>∃ v C' ρ',e = .returned v∧bh w' C' ρ' (cd H (ek m Hout))∧Ext w C ρ H w' C' ρ' (cd H (ek m Hout))∧ao w' C' ρ' (cd H (ek m Hout)) (r.ren m) v:=by
 obtain ⟨aex,we⟩:=qlt ho.inj H;have an:=ho.len
 let ρ0:Rho:=fun b=>if b<Hin.length then ρ (m b) else none
 have hH0:∀ b,b<Hin.length→∃ blk,hOf Hin b=some blk∧H (m b)=some (blk.ren m):=fun b hb=>⟨Hin[b],by simp[hOf,hb],ho.old b hb⟩
 have hρ0:∀ b,b<Hin.length→ρ0 b=ρ (m b):=fun b hb=>by simp[ρ0,hb]
 have vc:∀ b,(hOf Hin b).isSome=true→b<Hin.length:=fun b hb=>by
  obtain ⟨x,hx⟩:=Option.isSome_iff_exists.1 hb;exact (List.getElem?_eq_some_iff.1 hx).1
 have hR0:bh w C ρ0 (hOf Hin):=by
  constructor
  · intro b blk hb;obtain ⟨hbl,rfl⟩:=List.getElem?_eq_some_iff.1 hb;have hp:=hR.blk _ _ (ho.old b hbl);unfold cw at hp ⊢;rw[hρ0 b hbl];cases hr:ρ (m b) with
    | none=>rw[hr] at hp;simpa [Blk.ren] using hp
    | some p=>
     obtain ⟨r,s⟩:=p;rw[hr] at hp;obtain ⟨⟨cs,lo,hi,h1,h2,h3,h4,h5,h6,h7⟩,h8,h9⟩:=hp;refine ⟨⟨cs,lo,hi,h1,h2,h3,h4,by simpa [Blk.ren] using h5,fun i hi=>?_,fun i j hi hj=>?_⟩,h8,by simpa [Blk.ren] using h9⟩
     · have:=h6 i (by simpa [Blk.ren] using hi)
       simpa [Blk.ren] using this
     · obtain ⟨v,g1,g2,g3⟩:=h7 i j (by simpa [Blk.ren] using hi) (by simpa [Blk.ren] using hj)
       refine ⟨v,g1,g2,?_⟩;simp only[Blk.ren,getElem_map] at g3;have jy:=ho.inK b hbl _ (getElem_mem hi);simp only[all_eq_true] at jy;exact qtp hH0 hρ0 g3 _ rfl (jy _ (getElem_mem _))
  · intro b b' r s s' dc hb et hr ei;have h1:=vc b hb;have h2:=vc b' et;rw[hρ0 b h1] at hr;rw[hρ0 b' h2] at ei;exact hR.dis (m b) (m b') r s s' (fun e=>dc (ho.inj b b' (by omega) (by omega) e)) (by simp[ho.old b h1]) (by simp[ho.old b' h2]) hr ei
  · exact hR.com
 have hv0:dy w C ρ0 (hOf Hin) args vs:=by
  obtain ⟨h1,h2⟩:=hv;refine ⟨by simpa using h1,fun i h h'=>?_⟩
  have:=h2 i (by simpa using h) h'
  simp only[getElem_map] at this;exact qtp hH0 hρ0 this _ rfl (hk _ (getElem_mem _))
 refine (hc.2 w C ρ0 vs hR0 hG hv0).mono ?_;rintro e w1 ⟨v,C1,ρ1,rfl,hR1,e1,py⟩
 have own0:∀ r,gq ρ0 (hOf Hin) r→gq ρ H r∧∃ i s,i<Hin.length∧ρ (m i)=some (r,s):=by
  rintro r ⟨b,s,hb,hr⟩;have h1:=vc b hb;rw[hρ0 b h1] at hr;exact ⟨⟨m b,s,by simp[ho.old b h1],hr⟩,b,s,h1,hr⟩
 have fq:∀ b,(∃ i,i<Hout.length∧m i=b)∨∀ i,i<Hout.length→m i≠b:=fun b=>by
  by_cases h:∃ i,i<Hout.length∧m i=b
  · exact .inl h
  · exact .inr fun i hi e=>h ⟨i,hi,e⟩
 obtain ⟨ρ2,hρ2a,hρ2b⟩:∃ ρ2:Rho,(∀ i,i<Hout.length→ρ2 (m i)=ρ1 i)∧∀ b,(∀ i,i<Hout.length→m i≠b)→ρ2 b=ρ b:=by
  have hch:∀ b,∃ p,(∀ i,i<Hout.length→m i=b→p=ρ1 i)∧((∀ i,i<Hout.length→m i≠b)→p=ρ b):=by
   intro b;rcases fq b with ⟨i,hi,rfl⟩|hn
   · exact ⟨ρ1 i,fun j hj e=>by rw[ho.inj j i hj hi e],fun h=>absurd rfl (h i hi)⟩
   · exact ⟨ρ b,fun i hi e=>absurd e (hn i hi),fun _=>rfl⟩
  obtain ⟨f,hf⟩:=Classical.axiomOfChoice hch;exact ⟨f,fun i hi=>(hf (m i)).1 i hi rfl,fun b hb=>(hf b).2 hb⟩
 have hup:∀ b blk,hOf Hout b=some blk→cd H (ek m Hout) (m b)=some (blk.ren m)∧ρ2 (m b)=ρ1 b:=by
  intro b blk hb;obtain ⟨hbl,rfl⟩:=List.getElem?_eq_some_iff.1 hb;exact ⟨aex b hbl,hρ2a b hbl⟩
 have eX:Ext w C ρ H w1 C1 ρ2 (cd H (ek m Hout)):=by
  refine ⟨e1.com,e1.cell,?_,e1.os,e1.tape,e1.output,e1.size,fun r hr hn=>e1.same r hr fun u5=>hn (own0 r u5).1,?_,?_⟩
  · intro b blk hb;rcases fq b with ⟨i,hi,rfl⟩|hn
    · by_cases hi0:i<Hin.length
      · rw[ho.old i hi0] at hb;cases hb;obtain ⟨blk',g1,g2,g3,g4⟩:=e1.blk i Hin[i] (by simp[hOf,hi0])
        obtain ⟨q1,q2⟩:=hup i blk' g1;refine ⟨_,q1,by simpa [Blk.ren] using g2,by simpa [Blk.ren] using g3,fun e=>?_⟩
        rw[q2,g4 (by simpa [Blk.ren] using e),hρ0 i hi0]
      · rw[ho.new i (by omega) hi] at hb;simp at hb
    · exact ⟨blk,by rw[we b hn];exact hb,rfl,le_refl _,fun _=>hρ2b b hn⟩
  · rintro r ⟨b,s,hb,hr⟩;rcases fq b with ⟨i,hi,rfl⟩|hn
    · rw[hρ2a i hi] at hr;rcases e1.rows r ⟨i,s,by simp[hOf,hi],hr⟩ with g|g
      · exact .inl (own0 r g).1
      · exact .inr g
    · rw[hρ2b b hn] at hr;rw[we b hn] at hb;exact .inl ⟨b,s,hb,hr⟩
  · intro r o ly;rcases e1.grow r o ly with g|g|g
    · exact .inl g
    · exact .inr (.inl (own0 r g).1)
    · exact .inr (.inr g)
 have yx:∀ b r s,(∀ i,i<Hout.length→m i≠b)→(H b).isSome=true→ρ b=some (r,s)→¬ gq ρ0 (hOf Hin) r:=by
  intro b r s hn hb hr how;obtain ⟨_,i,s',hi,ei⟩:=own0 r how;exact hR.dis b (m i) r s s' (fun e=>hn i (by omega) e.symm) hb (by simp[ho.old i hi]) hr ei
 refine ⟨v,C1,ρ2,rfl,⟨?_,?_,hR1.com⟩,eX,afs hup py⟩
 · intro b blk hb;rcases fq b with ⟨i,hi,rfl⟩|hn
   · rw[aex i hi] at hb;cases hb;have hp:=hR1.blk i Hout[i] (by simp[hOf,hi])
     unfold cw at hp ⊢;rw[hρ2a i hi];cases hr:ρ1 i with
     | none=>rw[hr] at hp;simpa [Blk.ren] using hp
     | some p=>
      obtain ⟨r',s⟩:=p;rw[hr] at hp;obtain ⟨⟨cs,lo,bn,h1,h2,h3,h4,h5,h6,h7⟩,h8,h9⟩:=hp;refine ⟨⟨cs,lo,bn,h1,h2,h3,h4,by simpa [Blk.ren] using h5,fun k hk=>?_,fun k j hk hj=>?_⟩,h8,by simpa [Blk.ren] using h9⟩
      · simp only[Blk.ren,length_map] at hk;simp only[Blk.ren,getElem_map,length_map];exact h6 k hk
      · simp only[Blk.ren,length_map] at hk;simp only[Blk.ren,getElem_map,length_map] at hj ⊢;obtain ⟨u,g1,g2,g3⟩:=h7 k j hk hj;exact ⟨u,g1,g2,afs hup g3⟩
   · rw[we b hn] at hb;refine (hR.blk b blk hb).ext eX (hρ2b b hn) (fun r' s ei=>e1.same r' (hR.row_lt ⟨b,s,by simp[hb],ei⟩) (yx b r' s hn (by simp[hb]) ei)) fun r' s ei hf o ly=>?_
     rcases e1.grow r' o ly with g|g|g
     · exact g
     · exact absurd g (yx b r' s hn (by simp[hb]) ei)
     · have:=hR.row_lt ⟨b,s,by simp[hb],ei⟩;omega
 · intro b b' r' s s' dc hb et hr ei;rcases fq b with ⟨i,hi,rfl⟩|hn
   · rw[hρ2a i hi] at hr;rcases fq b' with ⟨j,hj,rfl⟩|hn'
     · rw[hρ2a j hj] at ei;exact hR1.dis i j r' s s' (fun e=>dc (by rw[e])) (by simp[hOf,hi]) (by simp[hOf,hj]) hr ei
     · rw[hρ2b b' hn'] at ei;rw[we b' hn'] at et;rcases e1.rows r' ⟨i,s,by simp[hOf,hi],hr⟩ with g|g
       · exact yx b' r' s' hn' et ei g
       · have:=hR.row_lt ⟨b',s',et,ei⟩;omega
   · rw[hρ2b b hn] at hr;rw[we b hn] at hb;rcases fq b' with ⟨j,hj,rfl⟩|hn'
     · rw[hρ2a j hj] at ei;rcases e1.rows r' ⟨j,s',by simp[hOf,hj],ei⟩ with g|g
       · exact yx b r' s hn hb hr g
       · have:=hR.row_lt ⟨b,s,hb,hr⟩;omega
     · rw[hρ2b b' hn'] at ei;rw[we b' hn'] at et;exact hR.dis b b' r' s s' dc hb et hr ei
end Am

namespace Am
open Go
variable {P:Program}{w w':World}{C C':Com}{ρ ρ':Rho}{H H':ba}
def nb:AV:=.d (.raw (.tuple #[]))
def gg:AV→Option (FuncId × List AV × List AV)
 | .d (.raw (.func (.func f) ⟨[]⟩ ⟨[]⟩))=>some (f,[],[])
 | .clo (.func f) a b=>some (f,a,b)
 | _=>none
def n9(keep:Bool)(H:ba)(l:List AV):List AV:=if keep then l else l.map (xl H)
def cn(keep:Bool)(H:ba)(l:List AV):List Nat:=if keep then [] else l.flatMap (gl H)
def w9(keep:Bool)(H:ba)(l:List AV):Bool:=keep || l.all (nc H)
def gx(bs:List Nat)(H:ba):List (Nat × Blk):=bs.filterMap fun b=>(H b).map fun blk=>(b,ux blk)
structure np(P:Program)(G:bl)(id:Nat)(H:ba)(f:FuncId)(fk:List AV)(r:Res)(keep pin ro:Bool)(m:Nat→Nat)(Hin:List Blk)(d6:List AV)(Hout:List Blk)(r':AV):Prop where
 cc:CC P G f Hin d6 Hout r'
 ok:w9 keep H fk=true
 args:d6.map (AV.ren m)=n9 keep H fk
 inK:d6.all (AV.inK Hin.length)=true
 call:wp m Hin Hout (dl (cn keep H fk) H)
 newId:∀ i,Hin.length≤i→i<Hout.length→m i=id
 pins:pin=true∨cn keep H fk=[]∨(Hin=[]∧Hout=[]∧r'.scal=true)
 same:ro=true→Hout=Hin
 v:r.v=r'.ren m
 hs:r.hs=(if pin then gx (cn keep H fk) H else [])++(if ro then [] else ek m Hout)
 rb:r.rb=cn keep H fk++(range Hin.length).map m
def pp(P:Program)(G:bl)(id:Nat)(ev:Operand→AV)(H:ba)(op:Op)(r:Res):Prop:=
 ag P id ev H op=some r∨
 ∃ callee args il f first caps keep pin ro m Hin d6 Hout r',op = .call { callee:=.value callee,args,argTypes:=il }∧gg (ev callee)=some (f,first,caps)∧
  np P G id H f (first++args.toList.map ev++caps) r keep pin ro m Hin d6 Hout r'
theorem qwk(l l':List (Nat × Blk)):∀ H:ba,cd H (l++l')=cd (cd H l) l':=by
 induction l with
 | nil=>intro H;rfl
 | cons p l ih=>intro H;exact ih _
theorem aud(bs:List Nat):∀ (H:ba) (G:ba),(∀ b,G b=H b∨(∃ blk,H b=some blk∧G b=some (ux blk)))→
 cd G (gx bs H)=fun b=>if b∈bs then (H b).map ux else G b:=by
 induction bs with
 | nil=>intro H G _;funext b;simp[gx,cd]
 | cons c bs ih=>
  intro H G hG
  funext b
  cases hc:H c with
  | none=>
   have e:gx (c::bs) H=gx bs H:=by simp[gx,hc]
   rw[e,ih H G hG]
   by_cases hb:b=c
   · subst hb;simp only[mem_cons,true_or,if_true,hc,Option.map_none];rcases hG b with h|⟨blk,h,_⟩
     · rw[h,hc];simp
     · rw[hc] at h;simp at h
   · simp[hb]
  | some blk=>
   have e:gx (c::bs) H=(c,ux blk)::gx bs H:=by simp[gx,hc]
   rw[e];simp only[cd]
   rw[ih H (co G c (ux blk)) (fun x=>by
    by_cases hx:x=c
    · subst hx;exact .inr ⟨blk,hc,qab ..⟩
    · rw[qp _ _ hx];exact hG x)]
   by_cases hb:b=c
   · subst hb;simp only[mem_cons,true_or,if_true,hc,qab,map_some]
     split<;>rfl
   · simp only[mem_cons,hb,false_or];rw[qp _ _ hb]
theorem qbm(bs:List Nat)(H:ba):cd H (gx bs H)=dl bs H:=by
 rw[aud bs H H (fun _=>.inl rfl)]
 rfl
theorem ay6{m:Nat→Nat}{Hin Hout:List Blk}(ho:wp m Hin Hout H)(he:Hout=Hin):cd H (ek m Hout)=H:=by
 subst he;obtain ⟨h1,h2⟩:=qlt ho.inj H
 funext b
 by_cases h:∃ i,i<Hout.length∧m i=b
 · obtain ⟨i,hi,rfl⟩:=h;rw[h1 i hi,ho.old i hi]
 · exact h2 b fun i hi e=>h ⟨i,hi,e⟩
def aew(w:World)(C:Com)(ρ:Rho)(H:ba)(r:Res)(next:Value→World→Prop):Prop:=
 ∀ w' C' ρ' v,bh w' C' ρ' (cd H r.hs)→Ext w C ρ H w' C' ρ' (cd H r.hs)→ao w' C' ρ' (cd H r.hs) r.v v→next v w'
theorem qao{G:bl}{id:Nat}(hG:j9 G w C)(hR:bh w C ρ H){f:FuncId}{fk:List AV}{r:Res}{keep pin ro:Bool}{m:Nat→Nat}{Hin:List Blk}{d6:List AV}{Hout:List Blk}{r':AV}
 (hs:np P G id H f fk r keep pin ro m Hin d6 Hout r') {vs:List Value} (hv:dy w C ρ H fk vs) {K:Ending→World→Prop}
 (hK:aew w C ρ H r fun v w'=>K (.returned v) w'):Calls P f ⟨vs⟩ w K:=by
 have hR1:=qwp hR (cn keep H fk);have hG1:j9 G w (u6 (cn keep H fk) H ρ C):=hG.mono (fun _ _ h=>.inl h) fun _ _ _=>rfl
 have zj:dy w (u6 (cn keep H fk) H ρ C) ρ (dl (cn keep H fk) H) (d6.map (AV.ren m)) vs:=by
  rw[hs.args];have hok:=hs.ok;obtain ⟨g1,g2⟩:=hv;cases keep with
  | true=>exact ⟨g1,fun i h h'=>(g2 i h h').mono (ma _)⟩
  | false=>
   simp only[n9,false_eq_true,if_false];simp only[w9,Bool.false_or,all_eq_true] at hok;refine ⟨by simpa using g1,fun i h h'=>?_⟩
   simp only[getElem_map];have hi:i<fk.length:=by simpa using h
   refine als hR (g2 i hi h') (hok _ (getElem_mem hi)) fun b hb=>?_
   simp only[cn,false_eq_true,if_false,mem_flatMap];exact ⟨_,getElem_mem hi,hb⟩
 have hk:∀ x∈d6,x.inK Hin.length=true:=by have:=hs.inK;simpa [all_eq_true] using this
 by_cases hp:pin=true∨cn keep H fk=[]
 · refine (aul hG1 hR1 hs.cc hs.call hk zj).mono ?_;rintro e w1 ⟨v,C1,ρ1,rfl,k1,k2,k3⟩
   have eH:cd H r.hs=cd (dl (cn keep H fk) H) (ek m Hout):=by
    rw[hs.hs,qwk]
    have e1:cd H (if pin=true then gx (cn keep H fk) H else [])=dl (cn keep H fk) H:=by
     rcases hp with rfl|hp
     · simp only[if_true];exact qbm _ _
     · have:dl (cn keep H fk) H=H:=by rw[hp];funext b;simp[dl]
       rw[this,hp];cases pin<;>rfl
    rw[e1];cases mn:ro with
    | false=>simp
    | true=>simp only[if_true,cd];exact (ay6 hs.call (hs.same mn)).symm
   refine hK w1 C1 ρ1 v (by rw[eH];exact k1) (by rw[eH];exact (ma _).trans k2) (by rw[eH,hs.v];exact k3)
 · have adj:pin=false:=by cases pin<;>simp_all
   obtain ⟨rfl,rfl,hsc⟩:Hin=[]∧Hout=[]∧r'.scal=true:=by
    rcases hs.pins with h|h|h
    · exact absurd (.inl h) hp
    · exact absurd (.inr h) hp
    · exact h
   have hR0:bh w (u6 (cn keep H fk) H ρ C) (fun _=>none) (hOf []):=
    ⟨fun b blk hb=>by simp[hOf] at hb,fun b b' r s s' _ hb=>by simp[hOf] at hb,hR1.com⟩
   have hv0:dy w (u6 (cn keep H fk) H ρ C) (fun _=>none) (hOf []) d6 vs:=by
    obtain ⟨g1,g2⟩:=zj;refine ⟨by simpa using g1,fun i h h'=>?_⟩
    have:=g2 i (by simpa using h) h'
    simp only[getElem_map] at this;exact qtp (k:=0) (fun b hb=>absurd hb (Nat.not_lt_zero b)) (fun b hb=>absurd hb (Nat.not_lt_zero b)) this _ rfl (hk _ (getElem_mem _))
   refine (hs.cc.2 w _ _ vs hR0 hG1 hv0).mono ?_;rintro e w1 ⟨v,C1,ρ1,rfl,k1,k2,k3⟩;have hold:∀ q,q<w.heap.size→w1.heap[q]? = w.heap[q]?:=fun q hq=>k2.same q hq fun ⟨b,s,hb,_⟩=>by simp[hOf] at hb
   have eX:Ext w C ρ H w1 C ρ H:=
    ⟨fun _ _ h=>h,fun q o hc=>qmd (hold q (hR.com_lt hc)),fun b blk hb=>⟨blk,hb,rfl,le_refl _,fun _=>rfl⟩,k2.os,k2.tape,k2.output,k2.size,fun q hq _=>hold q hq,fun q h=>.inl h,fun q o h=>.inl h⟩
   have ehs:r.hs=[]:=by
    have h:=hs.hs;rw[adj] at h;rw[h];cases ro<;>rfl
   refine hK w1 C ρ v ?_ ?_ ?_
   · rw[ehs];refine ⟨fun b blk hb=>(hR.blk b blk hb).ext eX rfl (fun q s hq=>hold q (hR.row_lt ⟨b,s,by simp[show H b=some blk from hb],hq⟩)) (fun _ _ _ _ _ h=>h),hR.dis,fun q o hc=>?_⟩
     obtain ⟨u,hu⟩:=hR.com q o hc;exact ⟨u,by rw[eX.cell q o hc];exact hu⟩
   · rw[ehs];exact eX
   · rw[ehs,hs.v];have a6y:r'.ren m=r'∨True:=.inr trivial;have k4:ao w1 C1 ρ1 (hOf []) r' v:=k3
     have:ao w1 C ρ H (r'.ren m) v:=by
      have k5:ao w1 C ρ (hOf []) r' v:=a1v k4 hsc;exact afs (fun b blk hb=>by simp[hOf] at hb) k5
     exact this
theorem qho{x:AV}{v:Value}{f:FuncId}{first caps:List AV}(hx:ao w C ρ H x v)(h:gg x=some (f,first,caps)) :
 ∃ fv cv,v = .func (.func f) ⟨fv⟩ ⟨cv⟩∧dy w C ρ H first fv∧dy w C ρ H caps cv:=by
 unfold gg at h
 split at h
 · cases h;have:=qce hx;cases this;exact ⟨[],[],rfl,⟨rfl,fun i h=>by simp at h⟩,⟨rfl,fun i h=>by simp at h⟩⟩
 · cases h;cases hx with
   | clo _ _ _ fv cv hf hc h1 h2=>exact ⟨fv,cv,rfl,⟨hf,h1⟩,⟨hc,h2⟩⟩
 · simp at h
theorem dy.append{l l':List AV}{vs vs':List Value}(h:dy w C ρ H l vs)(h':dy w C ρ H l' vs'):dy w C ρ H (l++l') (vs++vs'):=by
 obtain ⟨a1,a2⟩:=h;obtain ⟨b1,b2⟩:=h';refine ⟨by simp[a1,b1],fun i hi bn=>?_⟩
 by_cases hl:i<l.length
 · rw[List.getElem_append_left hl,List.getElem_append_left (by omega)]
   exact a2 i hl (by omega)
 · rw[List.getElem_append_right (by omega),List.getElem_append_right (by omega)]
   simp only[a1];exact b2 (i-vs.length) (by simp at hi;omega) (by simp at bn;omega)
def Fe(rd:Option Nat):Fence:={ Fence.wide with round:=rd }
theorem ar2{rd:Option Nat}{n:Nat}{f:FuncId}{args:Array Value}{R:Ending→World→Prop}(h:Calls P f args w R):CallsIn (Fe rd) n P f args w R:=by
 have h1:CallsIn Fence.wide n P f args w R:=callsIn_wide.2 h;cases rd with
 | none=>exact h1
 | some l=>exact CallsIn.inRound l h1
theorem qal{rd:Option Nat}{n:Nat}{G:bl}(hG:j9 G w C)(hR:bh w C ρ H){id:Nat}{a:Act}{o:Oper}{ev:Operand→AV}{r:Res}(iz:H id=none)(hev:∀ x,ao w C ρ H (ev x) (a.eval x))
 (hs:pp P G id ev H o.op r) {next:Act→World→Prop} {Q:Exit→Act→World→Prop} (hn:aew w C ρ H r fun v w'=>next (a.put o.dst v) w'):o.wpIn (Fe rd) n P a w next Q:=by
 unfold Oper.wpIn;refine ⟨fun _ _=>trivial,?_⟩
 rcases hs with h|⟨callee,args,il,f,first,caps,keep,pin,ro,m,Hin,d6,Hout,r',z8,acr,kr⟩
 · have xw:∀ c,o.op ≠ .defer c:=fun c hc=>by rw[hc] at h;simp[ag] at h
   rw[Oper.semAt_eq _ _ _ xw];obtain ⟨w',C',ρ',v,iv,h1,h2,h3⟩:=qpv (P:=P) hR iz hev h;have hq:=hn w' C' ρ' v h1 h2 h3;rcases iv with iv|⟨iv,rfl⟩
   · rw[iv];exact hq
   · rw[iv];exact hq
 · obtain ⟨fv,cv,hvf,hf1,zm⟩:=qho (hev callee) acr;obtain ⟨⟨fn,hfn,ake,acf⟩,_⟩:=kr.cc
   have ck:dy w C ρ H (args.toList.map ev) (args.toList.map a.eval):=
    ⟨by simp,fun i h h'=>by simp only[getElem_map];exact hev _⟩
   have eu:=(hf1.append ck).append zm
   have iv:(execOp a.eval o).run P w = .ok (.enter f ⟨fv++args.toList.map a.eval++cv⟩) w:=by
    have e1:(args.map a.eval)=⟨args.toList.map a.eval⟩:=qil args a.eval;have hbn:fn.body.isNone=false:=by rw[← Option.not_isSome,ake];rfl
    simp only[execOp,z8,resolve,Deferred.ofValue,hvf,Sem.run_bind,Sem.run_pure,Result.andThen_ok,invoke,callFunc,run_program,hfn,acf,hbn,false_eq_true,if_false,e1];simp
   rw[Oper.semAt_eq _ _ _ (fun c hc=>by rw[z8] at hc;cases hc),iv]
   refine ⟨fun h=>by simp[Fe,Fence.wide] at h,ar2 ?_⟩
   exact qao hG hR kr eu fun w' C' ρ' v g1 g2 g3=>hn w' C' ρ' v g1 g2 g3
end Am

namespace Am
open Go
variable {P:Program}{G:bl}{w w':World}{C C':Com}{ρ ρ':Rho}{H H':ba}
structure Sta where
 tm:Nat→AV
 H:ba
 nx:Nat
 n:Nat
def evA(G:bl)(tm:Nat→AV):Operand→AV
 | .tmp t=>tm t
 | .const v=>fe v
 | .global g=>match G g with|some cs=>.eptr cs|none=>.junk
 | .func f=>.d (.raw (.func (.func f) #[] #[]))
def nr(tm:Nat→AV)(d:Nat)(v:AV):Nat→AV:=fun t=>if t=d then v else tm t
def mw(tm:Nat→AV)(d:Option Nat)(v:AV):Nat→AV:=match d with|some d=>nr tm d v|none=>tm
def lc(n:Nat):Option Nat→Prop
 | some d=>d<n
 | none=>True
def fy(nx:Nat):List (Nat × Blk)→Nat
 | []=>nx
 | p::r=>fy (max nx (p.1+1)) r
def Sta.app(s:Sta)(d:Option Nat)(r:Res):Sta:={ s with tm:=mw s.tm d r.v,H:=cd s.H r.hs,nx:=fy s.nx r.hs }
def Sta.skip(s:Sta)(d:Option Nat):Sta:={ s with tm:=mw s.tm d nb }
def jf(ops:Array Oper)(tm:Nat→AV)(o:Oper):Option Bool:=
 match o.guard with
 | none=>some true
 | some (j,want)=>match (ops[j]?).bind (·.dst) with
  | some d=>match tm d with
   | .d (.bool b)=>some (b == want)
   | .d (.raw (.tuple _))=>some false
   | _=>none
  | none=>some false
structure pi(tm:Nat→AV)(n:Nat)(H:ba)(C:Com)(ρ:Rho)(a:Act)(w:World):Prop where
 tm:∀ t,ao w C ρ H (tm t) (a.tmps.getD t undef)
 size:a.tmps.size=n
 h:bh w C ρ H
 glob:True
 defers:True
theorem pi.ev{tm:Nat→AV}{n:Nat}{a:Act}(h:pi tm n H C ρ a w)(hG:j9 G w C)(x:Operand):ao w C ρ H (evA G tm x) (a.eval x):=by
 cases x with
 | tmp t=>exact h.tm t
 | const v=>exact qki v
 | global g=>
  simp only[evA];cases hg:G g with
  | none=>exact .junk _
  | some cs=>exact (hG g cs hg).eptr_mono (fun _ _ h=>h) fun _ _ _=>rfl
 | func f=>exact .d _ _ (.raw _)
theorem qaf{ops:Array Oper}{tm:Nat→AV}{n:Nat}{a:Act}(h:pi tm n H C ρ a w){o:Oper}{b:Bool}(hw:jf ops tm o=some b) :
 Region.wanted o (yielded ops a.tmps)=b:=by
 unfold jf at hw;unfold Region.wanted;cases hg:o.guard with
 | none=>rw[hg] at hw;simpa using hw
 | some p=>
  obtain ⟨j,want⟩:=p;rw[hg] at hw;simp only at hw ⊢;unfold yielded
  cases hd:(ops[j]?).bind (·.dst) with
  | none=>rw[hd] at hw;simp at hw;simp[← hw]
  | some d=>
   rw[hd] at hw;simp only at hw;have ht:=h.tm d
   split at hw
   · rename_i c hc;rw[hc] at ht;have hv:=qlj ht
     have cf:a.tmps[d]? = some (.bool c):=by
      unfold getD at hv
      split at hv
      · rename_i cf;rw[Array.getElem?_eq_getElem cf];exact congrArg some hv
      · exact absurd hv (by unfold undef;simp)
     simp only[bind_some,cf]
     simpa using hw
   · rename_i l hc;rw[hc] at ht;have:=qce ht;generalize hv:a.tmps.getD d undef=v at this;cases this
     have cf:∀ x,a.tmps[d]? = some x→x = .tuple l:=by
      intro x hx;have cf:=(Array.getElem?_eq_some_iff.1 hx).1;unfold getD at hv;rw[dif_pos cf] at hv;rw[Array.getElem?_eq_getElem cf] at hx;cases hx;exact hv
     simp only[bind_some];cases hx:a.tmps[d]? with
     | none=>simp at hw;simp[← hw]
     | some x=>rw[cf x hx];simp at hw;simp[← hw]
   · simp at hw
theorem arl{a:Act}{d:Nat}{v:Value}(hd:d<a.tmps.size)(t:Nat):(a.put (some d) v).tmps.getD t undef=if t=d then v else a.tmps.getD t undef:=by
 simp only[Act.put,Array.getD_eq_getD_getElem?,Array.getElem?_setIfInBounds]
 by_cases h:d=t
 · subst h;simp[hd]
 · rw[if_neg h,if_neg (fun e=>h e.symm)]
theorem pi.put{tm:Nat→AV}{n:Nat}{a:Act}(h:pi tm n H C ρ a w){w1:World}{C1:Com}{ρ1:Rho}{H1:ba}(hR:bh w1 C1 ρ1 H1)(e:Ext w C ρ H w1 C1 ρ1 H1)
 {d:Option Nat} (hd:lc n d) {av:AV} {v:Value} (hv:ao w1 C1 ρ1 H1 av v):pi (mw tm d av) n H1 C1 ρ1 (a.put d v) w1:=by
 cases d with
 | none=>exact ⟨fun t=>(h.tm t).mono e,h.size,hR,trivial,trivial⟩
 | some d=>
  have zu:d<a.tmps.size:=by rw[h.size];exact hd
  refine ⟨fun t=>?_,by simp[Act.put,h.size],hR,trivial,trivial⟩
  rw[arl zu];simp only[mw,nr]
  split
  · exact hv
  · exact (h.tm t).mono e
theorem az1(hs:List (Nat × Blk)):∀ nx,nx≤fy nx hs∧∀ p∈hs,p.1<fy nx hs:=by
 induction hs with
 | nil=>intro nx;exact ⟨le_refl _,fun p hp=>by simp at hp⟩
 | cons q hs ih=>
  intro nx;obtain ⟨h1,h2⟩:=ih (max nx (q.1+1));simp only[fy];refine ⟨by omega,fun p hp=>?_⟩
  rcases List.mem_cons.1 hp with rfl|hp
  · omega
  · exact h2 p hp
theorem qip{hs:List (Nat × Blk)}{b:Nat}(hb:∀ p∈hs,p.1≠b):∀ (H:ba),cd H hs b=H b:=by
 induction hs with
 | nil=>intro H;rfl
 | cons q hs ih=>
  intro H;simp only[cd];rw[ih (fun p hp=>hb p (mem_cons_of_mem _ hp)),qp]
  exact fun e=>hb q (mem_cons_self ..) e.symm
structure Beg where
 w:World
 C:Com
 ρ:Rho
 Hin:List Blk
 objs:Nat→Option Obj
theorem Act.put_defers(a:Act)(d:Option Nat)(v:Value):(a.put d v).defers=a.defers:=by cases d<;>rfl
structure Inv(G:bl)(B:Beg)(s:Sta)(C:Com)(ρ:Rho)(a:Act)(w:World):Prop where
 rel:pi s.tm s.n s.H C ρ a w
 nx:∀ b,s.nx≤b→s.H b=none
 ext:Ext B.w B.C B.ρ (hOf B.Hin) w C ρ s.H
 glob:j9 G w C
 marks:kf B.objs B.w.heap.size w a.defers
def md(G:bl)(B:Beg)(s:Sta)(a:Act)(w:World):Prop:=∃ C ρ,Inv G B s C ρ a w
theorem Inv.bare{B:Beg}{s:Sta}{a:Act}(h:Inv G B s C ρ a w):Inv G B s C ρ { a with defers:=[] } w:=
 ⟨⟨h.rel.tm,h.rel.size,h.rel.h,trivial,trivial⟩,h.nx,h.ext,h.glob,h.marks.bare⟩
theorem ext0_grown(hR:bh w C ρ H){row:Option Nat}(hg:w.grownBy w' row)(ak:∀ r,row=some r→∃ o:Obj,w.heap[r]? = some o∧o.isCells=false):ad5 w C ρ H w' C ρ H:=
 ⟨fun _ _ h=>h,fun r o h=>by
  obtain ⟨v,hv⟩:=hR.com r o h;rw[hv];exact cell_kept hv hg ak,fun b blk h=>⟨blk,h,rfl,le_refl _,fun _=>rfl⟩⟩
theorem Inv.grown{B:Beg}{s:Sta}{a:Act}(hi:Inv G B s C ρ a w){row:Option Nat}(hg:w.grownBy w' row)(ak:∀ r,row=some r→B.w.heap.size≤r∧∃ o:Obj,w.heap[r]? = some o∧o.isCells=false)
 (hm:kf B.objs B.w.heap.size w' a.defers):Inv G B s C ρ a w':=by
 have e:=ext0_grown hi.rel.h hg fun r h=>(ak r h).2
 have kept:∀ r,gq ρ s.H r→w'.heap[r]? = w.heap[r]?:=fun r ho=>by
  obtain ⟨cs,t,z,hc⟩:=hi.rel.h.row_cells ho;refine hg.block r (Array.getElem?_eq_some_iff.1 hc).1 fun h=>?_
  obtain ⟨_,o,ho,hf⟩:=ak r h.symm;rw[hc] at ho;cases ho;simp[Obj.isCells] at hf
 refine ⟨⟨fun t=>(hi.rel.tm t).mono0 e,hi.rel.size,⟨fun b blk hb=>?_,hi.rel.h.dis,fun r o h=>?_⟩,trivial,trivial⟩,hi.nx,?_,hi.glob.mono e.com e.cell,hm⟩
 · exact (hi.rel.h.blk b blk hb).ext0 e rfl (fun r s' hr=>kept r ⟨b,s',by rw[hb];rfl,hr⟩) fun _ _ _ _ _ h=>h
 · obtain ⟨v,hv⟩:=hi.rel.h.com r o h;exact ⟨v,by rw[e.cell r o h];exact hv⟩
 · have x:=hi.ext
   exact ⟨x.com,fun r o h=>(e.cell r o (x.com r o h)).trans (x.cell r o h),x.blk,hg.os.trans x.os,hg.tape.trans x.tape,hg.output.trans x.output,le_trans x.size hg.size,
    fun r hr hn=>(hg.block r (Nat.lt_of_lt_of_le hr x.size) fun h=>by have:=(ak r h.symm).1;omega).trans (x.same r hr hn),x.rows,x.grow⟩
theorem Inv.app{B:Beg}{s:Sta}{a:Act}(h:Inv G B s C ρ a w){d:Option Nat}(hd:lc s.n d){r:Res}{w1:World}{C1:Com}{ρ1:Rho}{v:Value}
 (hR:bh w1 C1 ρ1 (cd s.H r.hs)) (e:Ext w C ρ s.H w1 C1 ρ1 (cd s.H r.hs)) (hv:ao w1 C1 ρ1 (cd s.H r.hs) r.v v):Inv G B (s.app d r) C1 ρ1 (a.put d v) w1:=by
 refine ⟨h.rel.put hR e hd hv,fun b hb=>?_,h.ext.trans e,h.glob.mono e.com e.cell,(Act.put_defers a d v).symm ▸ h.marks.ext h.rel.h e⟩
 obtain ⟨h1,h2⟩:=az1 r.hs s.nx;have et:fy s.nx r.hs≤b:=hb
 show cd s.H r.hs b=none
 rw[qip (fun p hp=>by have:=h2 p hp;omega)]
 exact h.nx b (by omega)
theorem Inv.skip{B:Beg}{s:Sta}{a:Act}(h:Inv G B s C ρ a w){d:Option Nat}(hd:lc s.n d):Inv G B (s.skip d) C ρ (a.put d undef) w:=
 ⟨h.rel.put h.rel.h (.refl _ _ _ _) hd (.d _ _ (.raw _)),h.nx,h.ext,h.glob,(Act.put_defers a d undef).symm ▸ h.marks⟩
def vt(P:Program)(G:bl)(id:Nat)(H:ba)(f:FuncId)(fk:List AV)(K:Res→Prop):Prop:=
 ∃ r keep pin ro m Hin d6 Hout r',np P G id H f fk r keep pin ro m Hin d6 Hout r'∧K r
def opK(P:Program)(G:bl)(id:Nat)(ev:Operand→AV)(H:ba)(op:Op)(K:Res→Prop):Prop:=
 match op with
 | .call { callee:=.value c,args,argTypes:=_ }=>match gg (ev c) with
  | some (f,first,caps)=>vt P G id H f (first++args.toList.map ev++caps) K
  | none=>False
 | op=>match ag P id ev H op with
  | some r=>K r
  | none=>False
theorem qga{id:Nat}{ev:Operand→AV}{op:Op}{K:Res→Prop}(h:opK P G id ev H op K):∃ r,pp P G id ev H op r∧K r:=by
 unfold opK at h
 split at h
 · rename_i c args il
   split at h
   · rename_i f first caps hc;obtain ⟨r,keep,pin,ro,m,Hin,d6,Hout,r',hs,hk⟩:=h;exact ⟨r,.inr ⟨c,args,il,f,first,caps,keep,pin,ro,m,Hin,d6,Hout,r',rfl,hc,hs⟩,hk⟩
   · exact h.elim
 · split at h
   · rename_i r hr;exact ⟨r,.inl hr,h⟩
   · exact h.elim
def ano(P:Program)(G:bl)(ops:Array Oper)(o:Oper)(s:Sta)(K:Sta→Prop):Prop:=
 lc s.n o.dst∧
 match jf ops s.tm o with
 | some true=>opK P G s.nx (evA G s.tm) s.H o.op fun r=>K (s.app o.dst r)
 | some false=>K (s.skip o.dst)
 | none=>False
theorem a5d{rd:Option Nat}{n:Nat}{B:Beg}{s:Sta}{a:Act}{ops:Array Oper}{o:Oper}{K:Sta→Prop}(hi:Inv G B s C ρ a w)(h:ano P G ops o s K)
 {next:Act→World→Prop} {Q:Exit→Act→World→Prop} (hn:∀ s' a' w',K s'→md G B s' a' w'→next a' w') :
 if Region.wanted o (yielded ops a.tmps) then o.wpIn (Fe rd) n P a w next Q else (∀ f,o.about P w a.eval=some f→(Fe rd).fn f)∧next (a.put o.dst undef) w:=by
 obtain ⟨hd,h⟩:=h
 split at h
 · rename_i hw;rw[if_pos (qaf hi.rel hw)];obtain ⟨r,hs,hk⟩:=qga h;refine (qal hi.glob hi.rel.h (hi.nx _ (le_refl _)) (hi.rel.ev hi.glob) hs fun w1 C1 ρ1 v g1 g2 g3=>?_)
   exact hn _ _ _ hk ⟨C1,ρ1,hi.app hd g1 g2 g3⟩
 · rename_i hw;rw[if_neg (by rw[qaf hi.rel hw];simp)]
   exact ⟨fun _ _=>trivial,hn _ _ _ h ⟨C,ρ,hi.skip hd⟩⟩
 · exact h.elim
end Am

namespace Am
open Go
variable {P:Program}{G:bl}{H H':ba}
theorem axb{agg:Bool}{sz:Nat}{x:AV}{p:AV × List Nat}(h:rdA agg sz H x=some p)(hb:∀ b∈p.2,H' b=H b):rdA agg sz H' x=some p:=by
 unfold rdA at h ⊢
 split at h
 · rename_i b n i j;cases hH:H b with
   | none=>rw[hH] at h;simp at h
   | some blk=>
    have fq:b∈p.2:=by
     rw[hH] at h;simp only at h
     (repeat' split at h)<;>first|(simp at h;done)|(cases h;simp)
    rw[hb b fq,hH];rw[hH] at h;exact h
 · exact h
 · simp at h
theorem aq6{sz:Nat}{x a:AV}{p:Nat × Blk}(h:wrA sz H x a=some p)(hb:H' p.1=H p.1):wrA sz H' x a=some p:=by
 unfold wrA at h ⊢
 split at h
 · rename_i b n i j;cases hH:H b with
   | none=>rw[hH] at h;simp at h
   | some blk=>
    have fq:p.1=b:=by
     rw[hH] at h;simp only at h
     (repeat' split at h)<;>first|(simp at h;done)|(cases h;rfl)
    rw[fq] at hb;rw[hb,hH];rw[hH] at h;exact h
 · simp at h
theorem qkg{x:AV}{p:List (List AV) × List Nat}(h:gu H x=some p)(hb:∀ b∈p.2,H' b=H b):gu H' x=some p:=by
 unfold gu at h ⊢
 split at h
 · rename_i b n off len;cases hH:H b with
   | none=>rw[hH] at h;simp at h
   | some blk=>
    have fq:b∈p.2:=by
     rw[hH] at h;simp only at h
     split at h
     · cases h;simp
     · simp at h
    rw[hb b fq,hH];rw[hH] at h;exact h
 · exact h
 · exact h
 · simp at h
theorem qnv{t t':TypeId}{x:AV}{p:List (List AV) × List Nat}(h:i7 P t t' H x=some p)(hb:∀ b∈p.2,H' b=H b):i7 P t t' H' x=some p:=by
 unfold i7 at h ⊢
 split at h
 · exact h
 · split at h
   · rename_i htt
     first
      | exact qkg h hb
      | (rw[if_pos htt];exact qkg h hb)
   · simp at h
theorem qaw{id:Nat}{ev ev':Operand→AV}{op:Op}{r:Res}(h:ag P id ev H op=some r)(he:∀ x∈op.operands,ev' x=ev x)(hb:∀ b∈r.rb,H' b=H b) :
 ag P id ev' H' op=some r:=by
 cases op with
 | move x=>simp only[ag] at h ⊢;rw[he x (by simp[Op.operands])];exact h
 | assign x=>simp only[ag] at h ⊢;rw[he x (by simp[Op.operands])];exact h
 | pick c a b=>simp only[ag] at h ⊢;rw[he c (by simp[Op.operands]),he a (by simp[Op.operands]),he b (by simp[Op.operands])];exact h
 | alloc t=>exact h
 | box t x=>simp only[ag] at h ⊢;rw[he x (by simp[Op.operands])];exact h
 | build t ps=>
  simp only[ag] at h ⊢;have e1:(ps.toList.map fun p=>(p.1,ev' p.2))=ps.toList.map fun p=>(p.1,ev p.2):=map_congr_left fun p hp=>by rw[he p.2 (by simp[Op.operands];exact ⟨p.1,by simpa using hp⟩)]
  rw[e1];exact h
 | buildSlice t n ps=>
  simp only[ag] at h ⊢;have hm:∀ p∈ps.toList,ev' p.2=ev p.2:=fun p hp=>he p.2 (by simp[Op.operands];exact ⟨p.1,by simpa using hp⟩)
  have e1:(ps.all fun p=>(ev' p.2).cells.length == tsz P ((cb P t).getD 0)&&(ev' p.2).cells.all AV.one)=(ps.all fun p=>(ev p.2).cells.length == tsz P ((cb P t).getD 0)&&(ev p.2).cells.all AV.one):=by
   rw[← Array.all_toList,← Array.all_toList]
   apply Bool.eq_iff_iff.2
   simp only[all_eq_true];exact ⟨fun hh p hp=>by rw[← hm p hp];exact hh p hp,fun hh p hp=>by rw[hm p hp];exact hh p hp⟩
  have e2:(ps.toList.map fun p=>(ev' p.2).cells)=ps.toList.map fun p=>(ev p.2).cells:=map_congr_left fun p hp=>by rw[hm p hp]
  cases het:cb P t with
  | none=>rw[het] at h;simp at h
  | some e=>
   rw[het] at h e1;simp only[getD_some] at e1;simp only at h ⊢;rw[e1,e2];exact h
 | load t x=>
  simp only[ag] at h ⊢;rw[he x (by simp[Op.operands])]
  split at h
  · rename_i ht;rw[if_pos ht]
    split at h
    · rename_i v rb jn;cases h;rw[axb jn hb]
    · simp at h
  · simp at h
 | store t a x=>
  simp only[ag] at h ⊢;rw[he x (by simp[Op.operands]),he a (by simp[Op.operands])]
  split at h
  · rename_i ht;rw[if_pos ht]
    split at h
    · rename_i p ox;cases h;rw[aq6 ox (hb p.1 (by simp))]
    · simp at h
  · simp at h
 | nilCheck x=>
  simp only[ag] at h ⊢;rw[he x (by simp[Op.operands])]
  split at h
  · rename_i b n i j hx;cases hH:H b with
    | none=>rw[hH] at h;simp at h
    | some blk=>
     rw[hH] at h;simp only at h
     split at h
     · rename_i hl;cases h;rw[hb b (by simp),hH]
       simp[hl]
     · simp at h
  · exact h
  · simp at h
 | binOp o t x y u=>simp only[ag] at h ⊢;rw[he x (by simp[Op.operands]),he y (by simp[Op.operands])];exact h
 | unOp o t x=>simp only[ag] at h ⊢;rw[he x (by simp[Op.operands])];exact h
 | convert s t x=>
  simp only[ag] at h ⊢;rw[he x (by simp[Op.operands])]
  split at h
  · exact h
  · exact h
  · rename_i h1 h2 h3
    split at h
    · rename_i hs;cases hr:gu H (ev x) with
      | none=>rw[hr] at h;simp at h
      | some p=>
       obtain ⟨rows,rb⟩:=p;rw[hr] at h;simp only at h
       have v7:r.rb=rb:=by
        split at h
        · cases h;rfl
        · simp at h
       rw[qkg hr (fun b yc=>hb b (by rw[v7];exact yc))]
       simp only[hs,if_true];exact h
    · simp at h
  · exact h
  · simp at h
 | makeFunc f fs cs=>
  simp only[ag] at h ⊢;have e1:fs.toList.map ev' = fs.toList.map ev:=map_congr_left fun p hp=>he p (by simp[Op.operands];left;simpa using hp)
  have e2:cs.toList.map ev' = cs.toList.map ev:=map_congr_left fun p hp=>he p (by simp[Op.operands];right;simpa using hp)
  rw[e1,e2];exact h
 | makeSlice t l c=>simp only[ag] at h ⊢;rw[he l (by simp[Op.operands]),he c (by simp[Op.operands])];exact h
 | slice t x lo hi mx=>
  simp only[ag] at h ⊢;have e1:lo.map ev' = lo.map ev:=by cases lo with|none=>rfl|some y=>simp[he y (by simp[Op.operands])]
  have e2:hi.map ev' = hi.map ev:=by cases hi with|none=>rfl|some y=>simp[he y (by simp[Op.operands])]
  rw[he x (by simp[Op.operands]),e1,e2]
  split at h
  · exact h
  · exact h
  · rename_i bb n off len hx
    split at h
    · rename_i e wa;cases hH:H bb with
      | none=>rw[hH] at h;simp at h
      | some blk=>
       have fq:bb∈r.rb:=by
        rw[hH] at h;simp only at h
        (repeat' split at h)<;>first|(simp at h;done)|(cases h;simp)
       rw[hb bb fq,hH];rw[hH] at h;exact h
    · simp at h
  · simp at h
 | fieldAddr s x f=>
  simp only[ag] at h ⊢;rw[he x (by simp[Op.operands])]
  split at h
  · split at h
    · rename_i hc;rw[if_pos hc]
      split at h
      · rename_i b n i j hx;cases hH:H b with
        | none=>rw[hH] at h;simp at h
        | some blk=>
         rw[hH] at h;simp only at h
         split at h
         · rename_i hl;cases h;rw[hb b (by simp),hH]
           simp[hl]
         · simp at h
      · exact h
      · simp at h
    · simp at h
  · simp at h
 | field s x f=>simp only[ag] at h ⊢;rw[he x (by simp[Op.operands])];exact h
 | indexAddr t x ix=>
  simp only[ag] at h ⊢;rw[he x (by simp[Op.operands]),he ix (by simp[Op.operands])]
  split at h
  · split at h
    · split at h
      · rename_i hc;rw[if_pos hc]
        split at h
        · rename_i b m off len hx;cases hH:H b with
          | none=>rw[hH] at h;simp at h
          | some blk=>
           rw[hH] at h;simp only at h
           split at h
           · rename_i hl;cases h;rw[hb b (by simp),hH]
             simp only;rw[if_pos hl]
           · simp at h
        · exact h
        · simp at h
      · simp at h
    · split at h
      · rename_i hc;rw[if_pos hc]
        split at h
        · rename_i b m i j hx;cases hH:H b with
          | none=>rw[hH] at h;simp at h
          | some blk=>
           rw[hH] at h;simp only at h
           split at h
           · rename_i hl;cases h;rw[hb b (by simp),hH]
             simp only;rw[if_pos hl]
           · simp at h
        · exact h
        · simp at h
      · simp at h
    · simp at h
  · simp at h
 | index t x ix=>simp only[ag] at h ⊢;rw[he x (by simp[Op.operands]),he ix (by simp[Op.operands])];exact h
 | extract x i=>simp only[ag] at h ⊢;rw[he x (by simp[Op.operands])];exact h
 | call c=>
  obtain ⟨callee,args,il⟩:=c;have ck:∀ x∈args.toList,ev' x=ev x:=fun x hx=>he x (by simp[Op.operands,Call.operands];right;simpa using hx)
  cases callee with
  | builtin b=>
   cases b with
   | len=>
    simp only[ag] at h ⊢
    split at h
    · rename_i x t hl ht;rw[ck x (by rw[hl];simp)]
      split at h
      · exact h
      · exact h
      · exact h
      · rename_i b n o len hx;cases hH:H b with
        | none=>rw[hH] at h;simp at h
        | some blk=>
         rw[hH] at h;simp only at h
         split at h
         · rename_i hl;cases h;rw[hb b (by simp),hH]
           simp only;rw[if_pos hl]
         · simp at h
      · simp at h
    · simp at h
   | min=>
    simp only[ag] at h ⊢
    split at h
    · rename_i x y hl;rw[ck x (by rw[hl];simp),ck y (by rw[hl];simp)]
      exact h
    · simp at h
   | max=>
    simp only[ag] at h ⊢
    split at h
    · rename_i x y hl;rw[ck x (by rw[hl];simp),ck y (by rw[hl];simp)]
      exact h
    · simp at h
   | append=>
    simp only[ag] at h ⊢
    split at h
    · rename_i s x t t' hl ht;rw[ck x (by rw[hl];simp),ck s (by rw[hl];simp)]
      split at h
      · rename_i e rows rb wa cx
        have v7:∀ b∈rb,b∈r.rb:=by
         intro b yc
         (repeat' split at h)<;>first|(simp at h;done)|(cases h;first|exact yc|exact mem_cons_of_mem _ yc)
        rw[qnv cx fun b yc=>hb b (v7 b yc)]
        split at h
        · simp at h
        · rename_i z hz
          split at h
          · rename_i hc;simp only[wa,hz];rw[if_pos hc]
            split at h
            · exact h
            · rename_i b n off len hs;cases hH:H b with
              | none=>rw[hH] at h;simp at h
              | some blk=>
               rw[hH] at h;simp only at h
               split at h
               · rename_i hl;cases h;rw[hb b (by simp),hH]
                 simp only;rw[if_pos hl]
               · simp at h
            · simp at h
          · simp at h
      · simp at h
    · simp at h
   | unsafeSliceData=>
    simp only[ag] at h ⊢
    split at h
    · rename_i x hl;rw[ck x (by rw[hl];simp)]
      split at h
      · rename_i b n off len hx;cases hH:H b with
        | none=>rw[hH] at h;simp at h
        | some blk=>
         rw[hH] at h;simp only at h
         split at h
         · rename_i hc;cases h;rw[hb b (by simp),hH]
           simp only;rw[if_pos hc]
         · simp at h
      · simp at h
    · simp at h
   | unsafeString=>
    simp only[ag] at h ⊢
    split at h
    · rename_i x y t t' hl ht;rw[ck x (by rw[hl];simp),ck y (by rw[hl];simp)]
      split at h
      · rename_i b n len hx hy
        split at h
        · rename_i blk e hH he
          split at h
          · rename_i hc
            split at h
            · rename_i l sa;cases h;rw[hb b (by simp),hH]
              simp only[he];rw[if_pos hc];simp only[sa]
            · simp at h
          · simp at h
        · simp at h
      · simp at h
    · simp at h
   | _=>simp[ag] at h
  | _=>simp[ag] at h
 | _=>simp[ag] at h
end Am

namespace Am
open Go
variable {P:Program}{G:bl}{w w':World}{C C':Com}{ρ ρ':Rho}{H H':ba}
def Ent(k:Nat)(s s':Sta):Prop:=∀ (G:bl) (B:Beg) (a:Act) (w:World),B.Hin.length=k→md G B s a w→md G B s' a w
theorem Ent.refl(k:Nat)(s:Sta):Ent k s s:=fun _ _ _ _ _ h=>h
theorem Ent.trans{k:Nat}{s s' s'':Sta}(h:Ent k s s')(h':Ent k s' s''):Ent k s s'':=fun G B a w hk hi=>h' G B a w hk (h G B a w hk hi)
def m8(k:Nat)(H:ba):ba:=fun b=>if b<k then H b else none
theorem qlw{k:Nat}{x:AV}{v:Value}(h:ao w C ρ H x v):x.inK k=true→ao w C ρ (m8 k H) x v:=by
 induction h with
 | d x v h=>intro _;exact .d _ _ h
 | nils=>intro _;exact .nils
 | agg cs vs hl h1 _ ih=>
  intro hk;simp only[AV.inK,qig,all_eq_true] at hk;exact .agg cs vs hl h1 fun i h h'=>ih i h h' (hk _ (getElem_mem _))
 | tup cs vs hl _ ih=>
  intro hk;simp only[AV.inK,qig,all_eq_true] at hk;exact .tup cs vs hl fun i h h'=>ih i h h' (hk _ (getElem_mem _))
 | ptr b n i j v blk hb hn h1 hp=>intro hk;simp[AV.inK] at hk;exact .ptr b n i j v blk (by simp[m8,hk,hb]) hn h1 hp
 | own b n off len v blk hb hn h1 hp=>intro hk;simp[AV.inK] at hk;exact .own b n off len v blk (by simp[m8,hk,hb]) hn h1 hp
 | eptr cs r o vs hC bp hrec=>intro _;exact .eptr cs r o vs hC bp hrec
 | clo f first caps fv cv hf hc _ _ ih1 ih2=>
  intro hk;simp only[AV.inK,qig,and_eq_true,all_eq_true] at hk;exact .clo f first caps fv cv hf hc (fun i h h'=>ih1 i h h' (hk.1 _ (getElem_mem _))) fun i h h'=>ih2 i h h' (hk.2 _ (getElem_mem _))
 | junk v=>intro _;exact .junk v
theorem ao6(hR:bh w C ρ H){k:Nat}(jy:∀ b blk,b<k→H b=some blk→∀ row∈blk.rows,row.all (AV.inK k)=true):bh w C ρ (m8 k H):=by
 have hs:∀ b,(m8 k H b).isSome=true→b<k∧(H b).isSome=true:=fun b hb=>by
  unfold m8 at hb
  split at hb
  · exact ⟨by assumption,hb⟩
  · simp at hb
 refine ⟨fun b blk hb=>?_,fun b b' r s s' dc hb et hr ei=>hR.dis b b' r s s' dc (hs b hb).2 (hs b' et).2 hr ei,hR.com⟩
 unfold m8 at hb
 split at hb
 · rename_i vd;have hp:=hR.blk b blk hb;unfold cw at hp ⊢;cases hr:ρ b with
   | none=>rw[hr] at hp;exact hp
   | some p=>
    obtain ⟨r,s⟩:=p;rw[hr] at hp;obtain ⟨⟨cs,lo,hi,h1,h2,h3,h4,h5,h6,h7⟩,h8,h9⟩:=hp;refine ⟨⟨cs,lo,hi,h1,h2,h3,h4,h5,h6,fun i j hi hj=>?_⟩,h8,h9⟩
    obtain ⟨v,g1,g2,g3⟩:=h7 i j hi hj;have:=jy b blk vd hb _ (getElem_mem hi);simp only[all_eq_true] at this;exact ⟨v,g1,g2,qlw g3 (this _ (getElem_mem _))⟩
 · simp at hb
theorem aat{B:Beg}{k:Nat}(h:Ext B.w B.C B.ρ (hOf B.Hin) w C ρ H)(hk:B.Hin.length≤k):Ext B.w B.C B.ρ (hOf B.Hin) w C ρ (m8 k H) where
 com:=h.com
 cell:=h.cell
 blk b blk hb:=by
  obtain ⟨blk',h1,h2⟩:=h.blk b blk hb;have:=(List.getElem?_eq_some_iff.1 hb).1;exact ⟨blk',by rw[m8,if_pos (by omega)];exact h1,h2⟩
 os:=h.os
 tape:=h.tape
 output:=h.output
 size:=h.size
 same:=h.same
 rows r ho:=by
  obtain ⟨b,s,hb,hr⟩:=ho;refine h.rows r ⟨b,s,?_,hr⟩;unfold m8 at hb
  split at hb
  · exact hb
  · simp at hb
 grow:=h.grow
structure Sta.Le(k:Nat)(s s':Sta):Prop where
 n:s'.n=s.n
 nx:s'.nx≤s.nx
 k:k≤s'.nx
 tm:∀ t,s'.tm t = .junk∨(s'.tm t=s.tm t∧(s.tm t).inK s'.nx=true)
 H:s'.H=m8 s'.nx s.H
 inK:∀ b blk,b<s'.nx→s.H b=some blk→∀ row∈blk.rows,row.all (AV.inK s'.nx)=true
theorem Ent.le{k:Nat}{s s':Sta}(h:Sta.Le k s s'):Ent k s s':=by
 rintro G B a w hk ⟨C,ρ,hi⟩;refine ⟨C,ρ,⟨fun t=>?_,?_,?_,trivial,hi.rel.defers⟩,?_,?_,hi.glob,hi.marks⟩
 · rcases h.tm t with e|⟨e,jy⟩
   · rw[e];exact .junk _
   · rw[e,h.H];exact qlw (hi.rel.tm t) jy
 · rw[h.n];exact hi.rel.size
 · rw[h.H];exact ao6 hi.rel.h h.inK
 · intro b hb;rw[h.H];unfold m8;rw[if_neg (by omega)]
 · rw[h.H];exact aat hi.ext (by rw[hk];exact h.k)
theorem Ent.ghost{k:Nat}{s:Sta}{t:Nat}(ty:TypeId)(sz:Nat)(ht:s.tm t = .nils) :
 Ent k s { s with tm:=nr s.tm t (.own s.nx 0 0 0),H:=co s.H s.nx { fz:=false,ap:=true,ty,sz,rows:=[] },nx:=s.nx+1 }:=by
 rintro G B a w hk ⟨C,ρ,hi⟩;have wi:=hi.nx s.nx (le_refl _)
 let ρ1:Rho:=fun b=>if b=s.nx then none else ρ b
 have e:Ext w C ρ s.H w C ρ1 (co s.H s.nx { fz:=false,ap:=true,ty,sz,rows:=[] }):=by
  refine ⟨fun _ _ h=>h,fun _ _ _=>rfl,fun b blk hb=>?_,rfl,rfl,rfl,le_refl _,fun _ _ _=>rfl,?_,fun _ _ h=>.inl h⟩
  · have dc:b≠s.nx:=fun e=>by subst e;rw[wi] at hb;simp at hb
    exact ⟨blk,by rw[qp _ _ dc];exact hb,rfl,le_refl _,fun _=>by simp[ρ1,dc]⟩
  · rintro r ⟨b,z,hb,hr⟩
    by_cases dc:b=s.nx
    · subst dc;simp[ρ1] at hr
    · rw[qp _ _ dc] at hb;simp only[ρ1,dc,if_false] at hr;exact .inl ⟨b,z,hb,hr⟩
 have hR:bh w C ρ1 (co s.H s.nx { fz:=false,ap:=true,ty,sz,rows:=[] }):=by
  refine ⟨fun b blk hb=>?_,fun b b' r z z' dc hb et hr ei=>?_,hi.rel.h.com⟩
  · by_cases dc:b=s.nx
    · subst dc;rw[qab] at hb;cases hb;unfold cw;simp[ρ1]
    · rw[qp _ _ dc] at hb;exact (hi.rel.h.blk b blk hb).ext e (by simp[ρ1,dc]) (fun _ _ _=>rfl) (fun _ _ _ _ _ h=>h)
  · have h1:b≠s.nx:=fun e=>by subst e;simp[ρ1] at hr
    have h2:b'≠s.nx:=fun e=>by subst e;simp[ρ1] at ei
    simp only[ρ1,h1,if_false] at hr;simp only[ρ1,h2,if_false] at ei;rw[qp _ _ h1] at hb;rw[qp _ _ h2] at et;exact hi.rel.h.dis b b' r z z' dc hb et hr ei
 refine ⟨C,ρ1,⟨fun t'=>?_,hi.rel.size,hR,trivial,hi.rel.defers⟩,fun b hb=>?_,hi.ext.trans e,hi.glob,hi.marks⟩
 · simp only[nr]
   split
   · rename_i htt;subst htt;have:=hi.rel.tm t';rw[ht] at this;generalize hv:a.tmps.getD t' undef=v at this;cases this;exact .own s.nx 0 0 0 _ _ (qab ..) (by simp) rfl fun _=>.inr ⟨by simp[ρ1],rfl,rfl,rfl⟩
   · exact (hi.rel.tm t').mono e
 · show co s.H s.nx _ b=none
   rw[qp _ _ (fun e=>by subst e;exact absurd hb (by simp))]
   exact hi.nx b (by have:s.nx+1≤b:=hb;omega)
end Am

namespace Am
open Go
variable {P:Program}{G:bl}{k:Nat}
structure SO where
 dst:Option Nat
 op:Op
 g:Option (Option Nat × Bool)
def t7(ops:Array Oper)(o:Oper):SO:=
 { dst:=o.dst,op:=o.op,g:=match o.guard with|none=>none|some (j,want)=>some ((ops[j]?).bind (·.dst),want) }
def ow(ops:Array Oper):List SO:=ops.toList.map (t7 ops)
def ed(tm:Nat→AV):Option (Option Nat × Bool)→Option Bool
 | none=>some true
 | some (none,_)=>some false
 | some (some d,want)=>match tm d with
  | .d (.bool b)=>some (b == want)
  | .d (.raw (.tuple _))=>some false
  | _=>none
theorem qyn(ops:Array Oper)(tm:Nat→AV)(o:Oper):jf ops tm o=ed tm (t7 ops o).g:=by
 unfold jf t7;cases o.guard with
 | none=>rfl
 | some p=>
  obtain ⟨j,want⟩:=p;simp only
  cases (ops[j]?).bind (·.dst)<;>rfl
end Am

namespace Am
open Go
section upd
variable {L V:Type}
def ap(u:L→Option V)(σ:L→V):L→V:=fun x=>(u x).getD (σ x)
def cr(D:Nat→Bool):List (L→Option V)→Nat→(L→V)→(L→V)
 | [],_,σ=>σ
 | u::us,i,σ=>cr D us (i+1) (if D i then ap u σ else σ)
theorem qfi(D:Nat→Bool)(us vs:List (L→Option V)):∀ (i:Nat) (σ:L→V),cr D (us++vs) i σ=cr D vs (i+us.length) (cr D us i σ):=by
 induction us with
 | nil=>intro i σ;rfl
 | cons u us ih=>
  intro i σ;simp only[List.cons_append,cr,ih,length_cons]
  congr 1
  omega
theorem qmr(D:Nat→Bool)(x:L):∀ (us:List (L→Option V)) (i:Nat) (σ:L→V),(∀ j u,us[j]? = some u→D (i+j)=true→u x=none)→cr D us i σ x=σ x:=by
 intro us
 induction us with
 | nil=>intro i σ _;rfl
 | cons u us ih=>
  intro i σ h;simp only[cr];rw[ih (i+1) _ fun j v hv hD=>h (j+1) v (by simpa using hv) (by rw[← hD];congr 1;omega)]
  split
  · rename_i hD;have:=h 0 u rfl (by simpa using hD)
    simp[ap,this]
  · rfl
theorem qaa(D:Nat→Bool)(us:List (L→Option V))(σ:L→V){i:Nat}{u:L→Option V}(hu:us[i]? = some u)(hD:D i=false)
 (i6:∀ x,u x≠none→∀ j v,i<j→us[j]? = some v→D j=true→v x=none) :
 ap u (cr D us 0 σ)=cr (fun k=>if k=i then true else D k) us 0 σ:=by
 funext x
 have hi:=(List.getElem?_eq_some_iff.1 hu).1
 have adl:us=us.take i++(u::us.drop (i+1)):=by
  rw[List.getElem?_eq_getElem hi] at hu;cases hu;rw[List.getElem_cons_drop,List.take_append_drop]
 have an:(us.take i).length=i:=by simp;omega
 have ans:∀ j v,(us.drop (i+1))[j]? = some v→us[i+1+j]? = some v:=fun j v h=>by rwa [List.getElem?_drop] at h
 have ad0:∀ (vs:List (L→Option V)) (k:Nat) (τ:L→V),k+vs.length≤i→cr (fun k=>if k=i then true else D k) vs k τ=cr D vs k τ:=by
  intro vs
  induction vs with
  | nil=>intro k τ _;rfl
  | cons v vs ih=>
   intro k τ h;simp only[length_cons] at h;have hk:¬ k=i:=by omega
   simp only[cr,hk,if_false];exact ih (k+1) _ (by omega)
 have agi:∀ (vs:List (L→Option V)) (k:Nat) (τ:L→V),i<k→cr (fun k=>if k=i then true else D k) vs k τ=cr D vs k τ:=by
  intro vs
  induction vs with
  | nil=>intro k τ _;rfl
  | cons v vs ih=>
   intro k τ h;have hk:¬ k=i:=by omega
   simp only[cr,hk,if_false];exact ih (k+1) _ (by omega)
 have e1:cr (fun k=>if k=i then true else D k) us 0 σ=cr D (us.drop (i+1)) (i+1) (ap u (cr D (us.take i) 0 σ)):=by
  conv=>lhs;rw[adl]
  rw[qfi];simp only[cr,an,zero_add,if_true];rw[ad0 (us.take i) 0 σ (by omega),agi _ _ _ (by omega)]
 have e2:cr D us 0 σ=cr D (us.drop (i+1)) (i+1) (cr D (us.take i) 0 σ):=by
  conv=>lhs;rw[adl]
  rw[qfi];simp only[cr,an,zero_add,hD,false_eq_true,if_false]
 rw[e1,e2];cases hux:u x with
 | none=>
  have:ap u (cr D (us.drop (i+1)) (i+1) (cr D (us.take i) 0 σ)) x=cr D (us.drop (i+1)) (i+1) (cr D (us.take i) 0 σ) x:=by simp[ap,hux]
  rw[this]
  have key:∀ (vs:List (L→Option V)) (k:Nat) (τ τ':L→V),τ x=τ' x→cr D vs k τ x=cr D vs k τ' x:=by
   intro vs
   induction vs with
   | nil=>intro k τ τ' h;exact h
   | cons v vs ih=>
    intro k τ τ' h;simp only[cr];refine ih _ _ _ ?_;cases D k<;>simp[ap,h]
  exact key _ _ _ _ (by simp[ap,hux])
 | some v=>
  have:ap u (cr D (us.drop (i+1)) (i+1) (cr D (us.take i) 0 σ)) x=v:=by simp[ap,hux]
  rw[this,qmr]
  · simp[ap,hux]
  · intro j w hw hDj;exact i6 x (by simp[hux]) (i+1+j) w (by omega) (ans j w hw) hDj
end upd
def r9(acc:List Nat)(o:Oper):Nat:=o.after.toList.foldl (fun s e=>if Region.binds .any e then s|||2^e.on|||acc.getD e.on 0 else s) 0
def pk:List Oper→List Nat→List Nat
 | [],acc=>acc
 | o::rest,acc=>pk rest (acc++[r9 acc o])
theorem a2o(acc:List Nat)(o:Oper)(i:Nat)(h:(r9 acc o).testBit i=true):∃ e∈o.after.toList,Region.binds .any e=true∧(e.on=i∨(acc.getD e.on 0).testBit i=true):=by
 unfold r9 at h
 have key:∀ (l:List Edge) (s:Nat),(l.foldl (fun s e=>if Region.binds .any e then s|||2^e.on|||acc.getD e.on 0 else s) s).testBit i=true→
  s.testBit i=true∨∃ e∈l,Region.binds .any e=true∧(e.on=i∨(acc.getD e.on 0).testBit i=true):=by
  intro l
  induction l with
  | nil=>intro s h;exact .inl h
  | cons e l ih=>
   intro s h;simp only[List.foldl_cons] at h;rcases ih _ h with h1|⟨e',he',hh⟩
   · split at h1
     · rename_i hb;simp only[Nat.testBit_or,Bool.or_eq_true] at h1;rcases h1 with (h1|h1)|h1
       · exact .inl h1
       · rw[Nat.testBit_two_pow] at h1;exact .inr ⟨e,mem_cons_self ..,hb,.inl (by simpa using h1)⟩
       · exact .inr ⟨e,mem_cons_self ..,hb,.inr h1⟩
     · exact .inl h1
   · exact .inr ⟨e',mem_cons_of_mem _ he',hh⟩
 rcases key _ _ h with h|h
 · simp at h
 · exact h
theorem qny:∀ (l:List Oper) (acc:List Nat) (ops:List Oper),acc.length+l.length=ops.length→(∀ j,l[j]? = ops[acc.length+j]?)→
 (∀ j m,acc[j]? = some m→∃ o,ops[j]? = some o∧m=r9 (acc.take j) o)→
 (pk l acc).length=ops.length∧∀ j m,(pk l acc)[j]? = some m→∃ o,ops[j]? = some o∧m=r9 ((pk l acc).take j) o:=by
 intro l
 induction l with
 | nil=>intro acc ops hl _ h;exact ⟨by simpa [pk] using hl,h⟩
 | cons o rest ih=>
  intro acc ops hl ajs h;simp only[pk]
  refine ih (acc++[r9 acc o]) ops (by simp at hl ⊢;omega) (fun j=>by
   have:=ajs (j+1);simp only[List.getElem?_cons_succ] at this;rw[this];congr 1;simp;omega) fun j m hm=>?_
  by_cases hj:j<acc.length
  · rw[List.getElem?_append_left hj] at hm;obtain ⟨o',h1,h2⟩:=h j m hm;exact ⟨o',h1,by rw[h2,List.take_append_of_le_length (by omega)]⟩
  · have hje : j = acc.length := by
     have:=(List.getElem?_eq_some_iff.1 hm).1;simp at this;omega
    subst hje;rw[List.getElem?_append_right (le_refl _)] at hm;simp at hm;refine ⟨o,?_,by rw[← hm,List.take_append_of_le_length (le_refl _),List.take_length]⟩
    have:=ajs 0
    simpa using this.symm
def aau(ops:Array Oper):List Nat:=pk ops.toList []
theorem qws{ops:Array Oper}{D:Nat→Bool}(hD:∀ j o,ops[j]? = some o→D j=true→∀ e∈o.after,Region.binds .any e=true→D e.on=true) :
 ∀ (j i:Nat),((aau ops).getD j 0).testBit i=true→D j=true→D i=true:=by
 obtain ⟨an,ai1⟩:=qny ops.toList [] ops.toList (by simp) (by simp) (by simp)
 intro j
 induction j using Nat.strongRecOn with
 | _ j ih=>
  intro i hb hDj;rw[List.getD_eq_getElem?_getD] at hb;cases hm:(aau ops)[j]? with
  | none=>rw[hm] at hb;simp at hb
  | some m=>
   rw[hm] at hb;simp only[getD_some] at hb;obtain ⟨o,ho,rfl⟩:=ai1 j m hm;obtain ⟨e,he,ajg,hh⟩:=a2o _ o i hb;have u5:ops[j]? = some o:=by simpa using ho
   have hDe:=hD j o u5 hDj e (by simpa using he) ajg
   rcases hh with rfl|hh
   · exact hDe
   · have cf : e.on < j := by
      rw[List.getD_eq_getElem?_getD,getElem?_take] at hh
      split at hh
      · assumption
      · simp at hh
     refine ih e.on cf i ?_ hDe;rw[List.getD_eq_getElem?_getD,getElem?_take,if_pos cf] at hh;rw[List.getD_eq_getElem?_getD];exact hh
end Am

namespace Am
open Go
variable {P:Program}{G:bl}{H H':ba}
theorem qie{α β:Type}{f g:α→List β}{l:List α}(h:∀ x∈l,f x=g x):l.flatMap f=l.flatMap g:=by
 induction l with
 | nil=>rfl
 | cons x l ih=>simp only[List.flatMap_cons,h x (mem_cons_self ..),ih fun y hy=>h y (mem_cons_of_mem _ hy)]
theorem qhh{α:Type}{f g:α→Bool}{l:List α}(h:∀ x∈l,f x=g x):l.all f=l.all g:=by
 induction l with
 | nil=>rfl
 | cons x l ih=>simp only[List.all_cons,h x (mem_cons_self ..),ih fun y hy=>h y (mem_cons_of_mem _ hy)]
theorem a3c:∀ (n:Nat) (x:AV),(∀ b∈fh n H x,H' b=H b)→fh n H' x=fh n H x∧lw n H' x=lw n H x∧j8 n H' x=j8 n H x:=by
 intro n
 induction n with
 | zero=>intro x _;cases x<;>exact ⟨rfl,rfl,rfl⟩
 | succ n ih=>
  intro x h;cases x with
  | own b m off len=>
   have hb:H' b=H b:=h b (by simp[fh])
   cases hH:H b with
   | none=>simp[fh,lw,j8,hb,hH]
   | some blk=>
    have jy:∀ row∈(blk.rows.drop off).take len,∀ c∈row,∀ b'∈fh n H c,H' b' = H b':=by
     intro row ak c hc b' et;refine h b' ?_;simp only[fh,hH,mem_cons,mem_flatMap];exact .inr ⟨row,ak,c,hc,et⟩
    have e1:(((blk.rows.drop off).take len).flatMap (·.flatMap (fh n H')))=(((blk.rows.drop off).take len).flatMap (·.flatMap (fh n H))):=
     qie fun row ak=>qie fun c hc=>(ih c (jy row ak c hc)).1
    have e2:(((blk.rows.drop off).take len).map (·.map (lw n H')))=(((blk.rows.drop off).take len).map (·.map (lw n H))):=
     map_congr_left fun row ak=>map_congr_left fun c hc=>(ih c (jy row ak c hc)).2.1
    have e3:(((blk.rows.drop off).take len).all (·.all (j8 n H')))=(((blk.rows.drop off).take len).all (·.all (j8 n H))):=
     qhh fun row ak=>qhh fun c hc=>(ih c (jy row ak c hc)).2.2
    simp only[fh,lw,j8,hb,hH,e1,e2,e3,and_self]
  | _=>exact ⟨rfl,rfl,rfl⟩
theorem qkh(x:AV)(h:∀ b∈e9 H x,H' b=H b):e9 H' x=e9 H x∧rg H' x=rg H x∧jr H' x=jr H x:=by
 cases x with
 | own b m off len=>
  obtain ⟨h1,h2,h3⟩:=a3c (H:=H) (H':=H') 3 (.own b m off len) h;exact ⟨h1,by simp only[rg,h2],h3⟩
 | _=>exact ⟨rfl,rfl,rfl⟩
theorem qkk(x:AV)(h:∀ b∈gl H x,H' b=H b):gl H' x=gl H x∧xl H' x=xl H x∧nc H' x=nc H x:=by
 cases x with
 | agg cs=>
  have jy:∀ c∈cs,∀ b∈e9 H c,H' b=H b:=fun c hc b hb=>h b (by simp only[gl,mem_flatMap];exact ⟨c,hc,hb⟩)
  refine ⟨qie fun c hc=>(qkh c (jy c hc)).1,?_,qhh fun c hc=>(qkh c (jy c hc)).2.2⟩
  simp only[xl];rw[map_congr_left fun c hc=>(qkh c (jy c hc)).2.1]
 | own b m off len=>exact qkh (H:=H) (H':=H') (.own b m off len) h
 | _=>exact ⟨rfl,rfl,rfl⟩
theorem ayf(keep:Bool)(l:List AV)(h:∀ b∈cn keep H l,H' b=H b):cn keep H' l=cn keep H l∧n9 keep H' l=n9 keep H l∧w9 keep H' l=w9 keep H l:=by
 cases keep with
 | true=>exact ⟨rfl,rfl,rfl⟩
 | false=>
  simp only[cn,n9,w9,false_eq_true,if_false,Bool.false_or] at h ⊢;have jy:∀ x∈l,∀ b∈gl H x,H' b=H b:=fun x hx b hb=>h b (List.mem_flatMap.2 ⟨x,hx,hb⟩)
  exact ⟨qie fun x hx=>(qkk x (jy x hx)).1,map_congr_left fun x hx=>(qkk x (jy x hx)).2.1,qhh fun x hx=>(qkk x (jy x hx)).2.2⟩
theorem qgx(bs:List Nat)(h:∀ b∈bs,H' b=H b):gx bs H' = gx bs H:=by
 unfold gx
 induction bs with
 | nil=>rfl
 | cons b bs ih=>
  simp only[List.filterMap_cons,h b (mem_cons_self ..),ih fun c hc=>h c (mem_cons_of_mem _ hc)]
theorem qjo{id:Nat}{f:FuncId}{fk:List AV}{r:Res}{keep pin ro:Bool}{m:Nat→Nat}{Hin:List Blk}{d6:List AV}{Hout:List Blk}{r':AV}
 (h:np P G id H f fk r keep pin ro m Hin d6 Hout r') (hb:∀ b∈r.rb,H' b=H b) (iz:H' id=none):np P G id H' f fk r keep pin ro m Hin d6 Hout r':=by
 have v7:=h.rb;have h1:∀ b∈cn keep H fk,H' b=H b:=fun b yc=>hb b (by rw[v7];exact List.mem_append_left _ yc)
 have h2:∀ i,i<Hin.length→H' (m i)=H (m i):=fun i hi=>hb (m i) (by rw[v7];exact List.mem_append_right _ (List.mem_map.2 ⟨i,List.mem_range.2 hi,rfl⟩))
 obtain ⟨e1,e2,e3⟩:=ayf keep fk h1;refine ⟨h.cc,by rw[e3];exact h.ok,by rw[e2];exact h.args,h.inK,⟨h.call.inj,h.call.len,fun i hi=>?_,fun i hi bn=>?_,h.call.inK⟩,h.newId,by rw[e1];exact h.pins,h.same,h.v,?_,by rw[e1];exact v7⟩
 · have:=h.call.old i hi;rw[e1];unfold dl at this ⊢;rw[h2 i hi];exact this
 · rw[h.newId i hi bn,e1];unfold dl;rw[iz];simp
 · rw[e1,qgx _ h1];exact h.hs
theorem qls{id:Nat}{ev ev':Operand→AV}{op:Op}{r:Res}(h:pp P G id ev H op r)(he:∀ x∈op.operands,ev' x=ev x)(hb:∀ b∈r.rb,H' b=H b)(iz:H' id=none) :
 pp P G id ev' H' op r:=by
 rcases h with h|⟨callee,args,il,f,first,caps,keep,pin,ro,m,Hin,d6,Hout,r',rfl,hc,hs⟩
 · exact .inl (qaw h he hb)
 · have h1:ev' callee=ev callee:=he callee (by simp[Op.operands,Call.operands])
   have h2:args.toList.map ev' = args.toList.map ev:=map_congr_left fun x hx=>he x (by simp[Op.operands,Call.operands];right;simpa using hx)
   refine .inr ⟨callee,args,il,f,first,caps,keep,pin,ro,m,Hin,d6,Hout,r',rfl,by rw[h1];exact hc,?_⟩
   rw[h2];exact qjo hs hb iz
theorem a6m{id:Nat}{ev:Operand→AV}{op:Op}{r:Res}(h:ag P id ev H op=some r):∀ p∈r.hs,p.1=id∨(H p.1).isSome=true:=by
 have triv:∀ {r:Res},r.hs=[]→∀ p∈r.hs,p.1=id∨(H p.1).isSome=true:=fun e p hp=>by rw[e] at hp;simp at hp
 have xk:∀ {v:AV},chg v=some r→r.hs=[]:=fun h=>by unfold chg at h;cases h;rfl
 cases op with
 | alloc t=>
  simp only[ag] at h
  (repeat' split at h)<;>first|(simp at h;done)|(cases h;intro p hp;simp at hp;subst hp;exact .inl rfl)
 | box t x=>
  simp only[ag] at h
  (repeat' split at h)<;>first|(simp at h;done)|(cases h;intro p hp;simp at hp;subst hp;exact .inl rfl)
 | buildSlice t n ps=>
  simp only[ag] at h
  (repeat' split at h)<;>first|(simp at h;done)|(cases h;intro p hp;simp at hp;subst hp;exact .inl rfl)
 | makeSlice t l c=>
  simp only[ag] at h
  (repeat' split at h)<;>first|(simp at h;done)|(cases h;intro p hp;simp at hp;subst hp;exact .inl rfl)
 | convert s t x=>
  simp only[ag] at h
  (repeat' split at h)<;>first|(simp at h;done)|exact triv (xk h)|(cases h;exact triv rfl)|(cases h;intro p hp;simp at hp;subst hp;exact .inl rfl)
 | store t a x=>
  simp only[ag] at h
  split at h
  · split at h
    · rename_i p ox;cases h;intro q hq;simp at hq;subst hq;refine .inr ?_;unfold wrA at ox
      split at ox
      · rename_i b n i j _;cases hH:H b with
        | none=>rw[hH] at ox;simp at ox
        | some blk=>
         rw[hH] at ox;simp only at ox
         (repeat' split at ox)<;>first|(simp at ox;done)|(cases ox;simp[hH])
      · simp at ox
    · simp at h
  · simp at h
 | call c=>
  obtain ⟨callee,args,il⟩:=c;cases callee with
  | builtin b=>
   cases b with
   | append=>
    simp only[ag] at h
    split at h
    · split at h
      · split at h
        · simp at h
        · split at h
          · split at h
            · split at h
              · cases h
                split
                · exact triv rfl
                · intro p hp;simp at hp;subst hp;exact .inl rfl
              · simp at h
            · rename_i b n off len _;cases hH:H b with
              | none=>rw[hH] at h;simp at h
              | some blk=>
               rw[hH] at h;simp only at h
               split at h
               · cases h;intro p hp;simp at hp;subst hp;exact .inr (by simp[hH])
               · simp at h
            · simp at h
          · simp at h
      · simp at h
    · simp at h
   | len=>
    simp only[ag] at h
    (repeat' split at h)<;>first|(simp at h;done)|exact triv (xk h)|(cases h;exact triv rfl)
   | min=>
    simp only[ag] at h
    (repeat' split at h)<;>first|(simp at h;done)|exact triv (xk h)
   | max=>
    simp only[ag] at h
    (repeat' split at h)<;>first|(simp at h;done)|exact triv (xk h)
   | unsafeSliceData=>
    simp only[ag] at h
    (repeat' split at h)<;>first|(simp at h;done)|exact triv (xk h)|(cases h;exact triv rfl)
   | unsafeString=>
    simp only[ag] at h
    split at h
    · split at h
      · split at h
        · rename_i blk e hH he
          split at h
          · split at h
            · cases h;intro p hp;simp at hp;subst hp;exact .inr (by simp[hH])
            · simp at h
          · simp at h
        · simp at h
      · simp at h
    · simp at h
   | _=>simp[ag] at h
  | _=>simp[ag] at h
 | binOp op t x y u=>
  simp only[ag] at h
  (repeat' split at h)<;>first|(simp at h;done)|(unfold pure1 at h;simp only[map_eq_some_iff] at h;obtain ⟨_,_,rfl⟩:=h;exact triv rfl)
 | unOp op t x=>
  simp only[ag] at h
  (repeat' split at h)<;>first|(simp at h;done)|(unfold pure1 at h;simp only[map_eq_some_iff] at h;obtain ⟨_,_,rfl⟩:=h;exact triv rfl)
 | move x=>exact triv (xk h)
 | assign x=>exact triv (xk h)
 | makeFunc f a b=>exact triv (xk h)
 | _=>
  simp only[ag] at h
  first
   | (simp at h;done)
   | ((repeat' split at h)<;>first|(simp at h;done)|exact triv (xk h)|(cases h;exact triv rfl))
theorem au6{id:Nat}{ev:Operand→AV}{op:Op}{r:Res}(h:pp P G id ev H op r):∀ p∈r.hs,p.1=id∨(H p.1).isSome=true:=by
 rcases h with h|⟨callee,args,il,f,first,caps,keep,pin,ro,m,Hin,d6,Hout,r',rfl,hc,hs⟩
 · exact a6m h
 · intro p hp;rw[hs.hs] at hp;rcases List.mem_append.1 hp with hp|hp
   · split at hp
     · simp only[gx,List.mem_filterMap,map_eq_some_iff] at hp;obtain ⟨b,_,blk,hb,rfl⟩:=hp;exact .inr (by simp[hb])
     · simp at hp
   · split at hp
     · simp at hp
     · simp only[ek,mem_map,mem_range] at hp;obtain ⟨i,hi,rfl⟩:=hp
       by_cases hi0:i<Hin.length
       · have:=hs.call.old i hi0;unfold dl at this;refine .inr ?_
         split at this
         · cases hH:H (m i) with
           | none=>rw[hH] at this;simp at this
           | some b=>simp
         · simp[this]
       · exact .inl (hs.newId i (by omega) hi)
end Am
