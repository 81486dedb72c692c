/- The abstract machine and its reader: lemmas. -/
import Derived.Test.YtoalfckdmoahoaaGreatDoorAm1
import Derived.Lib.AppendStr
import Derived.Lib.UnsafeStr
import Derived.Laws.BytesString
import Derived.Laws.IdiomStrings
import Derived.OrdersIn
import Derived.RangeFuncCalls
import Derived.Orders
import Derived.RangeFuncLeaves
import Derived.RangeFuncWrites
import Derived.RangeFuncRecord
import Derived.Scope
set_option linter.unusedSimpArgs false
set_option linter.unusedVariables false
set_option linter.unusedSectionVars false
namespace Am
open Go
variable {P:Program} {w:World} {C:Com} {ρ:Rho} {H:Heap}
variable {ev:Operand→AV} {rv:Operand→Value} {id:Nat} {r:Res} {o:Oper}
theorem qpbb (a:Array Value) (i:Nat) (h:i<a.size):a[i]! = a[i]:=by simp[h]
theorem qfl (hR:RelH w C ρ H) (hid:H id=none) (hev:∀ x,RepA w C ρ H (ev x) (rv x)) {t:TypeId} {l c:Operand} (ho:o.op = .makeSlice t l c)
 (h:execA P id ev H (.makeSlice t l c)=some r):Out w C ρ H r ((execOp rv o).run P w):=by
 simp only[execA] at h
 split at h
 · rename_i e he;have hu:=qtb he
   split at h
   · rename_i z hz
     split at h
     · rename_i kl n kc m hle hce;have hl:=hev l;have hc:=hev c;rw[hle] at hl;rw[hce] at hc;have hvl:=qwb hl;have hvc:=qwb hc
       split at h
       · rename_i hh;obtain ⟨c1,c2,c3,c4,rfl,c6,c7,c8⟩:=hh;cases h;obtain ⟨i,hi⟩:=Option.isSome_iff_exists.1 (show (P.info? e).isSome=true from c1)
         have hzi:i.zero=some z:=by unfold tzero at hz;rw[hi] at hz;exact hz
         have hsz:i.size=tsz P e:=by unfold tsz;rw[hi]
         have hby:i.bytes=tby P e:=by unfold tby;rw[hi]
         have hr:=run_make (P:=P) w t e i z hu hi hzi kl kc n n c6 (Int.le_refl _) (by rw[hby];exact c7) c8
         have hzr:=(qvi (w:=w) (C:=C) (ρ:=ρ) (H:=H) z).repL c2;have hzs:z.cells.size=tsz P e:=by rw[← hzr.1];exact c3
         refine qwv hR hid (qrf (rows:=List.replicate n.toNat (ofVal z).cells) e false true ?_ ?_ ?_) rfl (n:=n.toNat) (cap:=n.toNat) (by simp) (Nat.le_refl _) ?_ w (.inl rfl) ?_ (cs:=madeCells z.cells (n.toNat*i.size))
         · rw[size_madeCells,hsz];simp
         · intro row hrow;rw[(List.mem_replicate.1 hrow).2];exact c3
         · intro a b ha hb;simp only[List.length_replicate] at ha;simp only[List.getElem_replicate] at hb ⊢;obtain ⟨v,v1,v2,v3⟩:=hzr.2 b _ (List.getElem?_eq_getElem hb);refine ⟨v,?_,v2,v3⟩;have hb':b<tsz P e:=by omega
           have hlt:a*tsz P e+b<n.toNat*tsz P e:=by
            have:(a+1)*tsz P e≤n.toNat*tsz P e:=Nat.mul_le_mul_right _ ha;rw[Nat.add_mul,Nat.one_mul] at this;omega
           have hmod:(a*tsz P e+b) % z.cells.size=b:=by
            rw[hzs,Nat.mul_comm,Nat.mul_add_mod];exact Nat.mod_eq_of_lt hb'
           show (madeCells z.cells (n.toNat*i.size))[a*tsz P e+b]? = some v
           unfold madeCells;rw[hsz];simp only[Array.getElem?_map,Array.getElem?_range,hlt,Option.map_some,if_true,hmod];rw[← v1,qpbb _ _ (by omega),Array.getElem?_eq_getElem (by omega)]
         · rw[size_madeCells,hsz];exact Nat.le_refl _
         · simp only[execOp,ho,hvl,hvc,Sem.run_bind,hr,Result.andThen_ok,Sem.run_pure]
       · simp at h
     · simp at h
   · simp at h
 · simp at h
theorem qtcb {k n sz:Nat} (h0:0<sz) (h:k<n*sz):k / sz<n∧k % sz<sz∧k / sz*sz+k % sz=k:=
 ⟨Nat.div_lt_of_lt_mul (by rw[Nat.mul_comm];exact h),Nat.mod_lt _ h0,Nat.div_add_mod' k sz⟩
theorem qsq (hR:RelH w C ρ H) {x:AV} {vx:Value} (hx:RepA w C ρ H x vx) {rows:List (List AV)} {rb:List Nat} (h:rowsOf H x=some (rows,rb)) {sz:Nat} (h0:0<sz)
 (hl:∀ row∈rows,row.length=sz) :
 (vx = .slice none 0 0∧rows=[])∨∃ (a:Addr) (cap:Nat) (news:List Value),vx = .slice (some a) rows.length cap∧news.length=rows.length*sz∧
  (∀ j u,news[j]? = some u→w.cell? (a.add j)=some u)∧(∀ u∈news,u.oneCell' = true)∧
  ∀ i j (hi:i<rows.length) (hj:j<(rows[i]).length),∃ v,news[i*sz+j]? = some v∧RepA w C ρ H (rows[i])[j] v:=by
 have key:∀ (r0 o0 cap:Nat),vx = .slice (some ⟨r0,o0,none⟩) rows.length cap→
  (∀ i j (hi:i<rows.length) (hj:j<(rows[i]).length),∃ v,w.cell? ⟨r0,o0+(i*sz+j),none⟩ = some v∧v.oneCell' = true∧RepA w C ρ H (rows[i])[j] v)→
  (vx = .slice none 0 0∧rows=[])∨∃ (a:Addr) (cap:Nat) (news:List Value),vx = .slice (some a) rows.length cap∧news.length=rows.length*sz∧
  (∀ j u,news[j]? = some u→w.cell? (a.add j)=some u)∧(∀ u∈news,u.oneCell' = true)∧
  ∀ i j (hi:i<rows.length) (hj:j<(rows[i]).length),∃ v,news[i*sz+j]? = some v∧RepA w C ρ H (rows[i])[j] v:=by
  intro r0 o0 cap hv hc
  have hch:∀ k,∃ v,∀ (_:k<rows.length*sz),w.cell? ⟨r0,o0+k,none⟩ = some v∧v.oneCell' = true:=by
   intro k
   by_cases hk:k<rows.length*sz
   · obtain ⟨d1,d2,d3⟩:=qtcb h0 hk;obtain ⟨v,v1,v2,_⟩:=hc (k / sz) (k % sz) d1 (by rw[hl _ (List.getElem_mem _)];exact d2)
     rw[d3] at v1;exact ⟨v,fun _=>⟨v1,v2⟩⟩
   · exact ⟨undef,fun h=>absurd h hk⟩
  obtain ⟨f,hf⟩:=Classical.axiomOfChoice hch;refine .inr ⟨⟨r0,o0,none⟩,cap,(List.range (rows.length*sz)).map f,hv,by simp,?_,?_,?_⟩
  · intro j u hu;simp only[List.getElem?_map,Option.map_eq_some_iff] at hu;obtain ⟨k,hk,rfl⟩:=hu;obtain ⟨hk1,hk2⟩:=List.getElem?_eq_some_iff.1 hk;simp at hk1 hk2;subst hk2;rw[qvb];exact (hf j hk1).1
  · intro u hu;obtain ⟨k,hk,rfl⟩:=List.mem_map.1 hu;exact (hf k (by simpa using hk)).2
  · intro i j hi hj;obtain ⟨v,v1,v2,v3⟩:=hc i j hi hj;have hj':j<sz:=by rw[hl _ (List.getElem_mem _)] at hj;exact hj
    have hk:i*sz+j<rows.length*sz:=by
     have:(i+1)*sz≤rows.length*sz:=Nat.mul_le_mul_right _ hi;rw[Nat.add_mul,Nat.one_mul] at this;omega
    refine ⟨v,?_,v3⟩;have:=(hf _ hk).1;rw[v1] at this;simp only[List.getElem?_map,List.getElem?_range hk,Option.map_some];exact this.symm
 unfold rowsOf at h
 split at h
 · rename_i b n off len;cases hx with
   | own _ _ _ _ _ blk hb hn h1 hp=>
   simp only[hb] at h
   split at h
   · rename_i hc;cases h;rcases hp hc.1 with ⟨r0,s0,cap,hr0,rfl,hlc,hcs,hol⟩|⟨_,_,rfl,rfl⟩
     · have hrl:((blk.rows.drop off).take len).length=len:=by simp;omega
       refine key r0 (off*blk.sz) cap (by rw[hrl]) fun i j hi hj=>?_
       rw[hrl] at hi;have hg:((blk.rows.drop off).take len)[i]'(by rw[hrl];exact hi)=blk.rows[off+i]'(by omega):=by simp
       simp only[hg] at hj ⊢;obtain ⟨v,v1,v2,v3⟩:=qox hR hb hr0 (i:=off+i) (j:=j) (by omega) hj
       have hsz:blk.sz=sz:=by
        have h1:=hl _ (List.getElem_mem (show i<((blk.rows.drop off).take len).length by rw[hrl];exact hi))
        rw[hg] at h1;obtain ⟨cs,lo,hi',_,_,_,_,f1,f2,f3⟩:=qig hR hb hr0;rw[← f2 (off+i) (by omega)];exact h1
       refine ⟨v,?_,v2,v3⟩;rw[← v1,hsz,Nat.add_mul,Nat.add_assoc]
     · exact .inl ⟨rfl,by simp⟩
   · simp at h
 · cases hx;cases h;exact .inl ⟨rfl,rfl⟩
 · rename_i xs;cases h;have hxd:=qyc hx;cases hxd with
   | nil=>exact .inl ⟨rfl,rfl⟩
   | nilA ad=>exact .inr ⟨ad,0,[],rfl,by simp,(fun j u h=>by simp at h),(fun u h=>by simp at h),(fun i j h=>by simp at h)⟩
   | sl _ r0 o0 cap sz' vs hcap hsz hC hcell hrec=>
    refine key r0 o0 cap (by simp) fun i j hi hj=>?_
    simp only[List.length_map] at hi;simp only[List.getElem_map,List.length_map] at hj ⊢
    have hs:sz' = sz:=by
     have h1:=hl (xs[i].map AV.d) (List.mem_map_of_mem (List.getElem_mem hi));simp at h1;rw[← hsz i hi];exact h1
    subst hs;rw[hsz i hi] at hj;obtain ⟨g1,g2⟩:=hcell i j hi hj;rw[Nat.add_assoc] at g1;exact ⟨_,g1,g2,.d _ _ (hrec i j hi (by rw[hsz i hi];exact hj))⟩
 · simp at h
theorem qpm {blk:Blk} {rows:List (List AV)} {cs':Array Value} {olds news:List Value} (hlo:olds.length=blk.rows.length*blk.sz) (hln:news.length=rows.length*blk.sz)
 (hl0:∀ row∈blk.rows,row.length=blk.sz) (hl:∀ row∈rows,row.length=blk.sz)
 (ho:∀ i j (hi:i<blk.rows.length) (hj:j<(blk.rows[i]).length),∃ v,olds[i*blk.sz+j]? = some v∧v.oneCell' = true∧RepA w C ρ H (blk.rows[i])[j] v)
 (hn:∀ i j (hi:i<rows.length) (hj:j<(rows[i]).length),∃ v,news[i*blk.sz+j]? = some v∧v.oneCell' = true∧RepA w C ρ H (rows[i])[j] v)
 (hc:∀ k,k<olds.length+news.length→cs'[k]? = (olds++news)[k]?) (hs:(blk.rows.length+rows.length)*blk.sz≤cs'.size) :
 Fits w C ρ H { blk with rows:=blk.rows++rows } cs':=by
 refine ⟨by simpa using hs,?_,?_⟩
 · intro i hi;have:=List.getElem_mem hi;rcases List.mem_append.1 this with h|h
   · exact hl0 _ h
   · exact hl _ h
 · intro i j hi hj;simp only[List.length_append] at hi
   by_cases hib:i<blk.rows.length
   · have hg:(blk.rows++rows)[i]'(by simp;omega)=blk.rows[i]:=List.getElem_append_left hib
     simp only[hg] at hj ⊢;obtain ⟨v,v1,v2,v3⟩:=ho i j hib hj;refine ⟨v,?_,v2,v3⟩;have hk:=(List.getElem?_eq_some_iff.1 v1).1;rw[hc _ (by omega),List.getElem?_append_left hk];exact v1
   · have hg:(blk.rows++rows)[i]'(by simp;omega)=rows[i-blk.rows.length]'(by omega):=List.getElem_append_right (by omega)
     simp only[hg] at hj ⊢;obtain ⟨v,v1,v2,v3⟩:=hn (i-blk.rows.length) j (by omega) hj
     refine ⟨v,?_,v2,v3⟩;have hk:=(List.getElem?_eq_some_iff.1 v1).1
     have e1:i*blk.sz+j=olds.length+((i-blk.rows.length)*blk.sz+j):=by
      rw[hlo,← Nat.add_assoc,← Nat.add_mul]
      congr 2
      omega
     show cs'[i*blk.sz+j]? = some v
     rw[e1,hc _ (by omega),List.getElem?_append_right (by omega)]
     have:olds.length+((i-blk.rows.length)*blk.sz+j)-olds.length=(i-blk.rows.length)*blk.sz+j:=by omega
     rw[this];exact v1
theorem qit (g:Nat) (cur cs':Array Value) (e:TypeId) (hg:w.heap[g]? = some (.cells cur e (0,0))):Wrote w (w.setRow g cs') g cs' e 0 0:=
 ⟨rfl,rfl,rfl,by simp,fun k hk=>setRow_other w g k cs' hk,setRow_heap w g cur cs' e (0,0) hg⟩
structure AppSrc (P:Program) (w:World) (t t' ty e:TypeId) (i:TypeInfo) (z:Value) (vx:Value) (n:Nat) (news:List Value):Prop where
 nil : 0 < n → (n : Int) ≤ 9223372036854775807 → n * i.bytes ≤ 281474976710656 → (Builtin.append_ #[t,t'] ty #[.slice none 0 0,vx]).run P w =
     .ok (.slice (some ⟨w.heap.size,0,none⟩) n (grownCap w n 0 e)) (w.drew.alloc (.cells (news.toArray++Builtin.zeroCells z.cells (grownCap w n 0 e-n)) e))
 room:∀ (g sLen sCap:Nat) (cur:Array Value),w.heap[g]? = some (.cells cur e (0,0))→sLen+n≤sCap→sLen*i.size+news.length≤cur.size→
  (Builtin.append_ #[t,t'] ty #[.slice (some ⟨g,0,none⟩) sLen sCap,vx]).run P w =
  .ok (.slice (some ⟨g,0,none⟩) (sLen+n) sCap) (w.setRow g (cur.toList.take (sLen*i.size)++news++cur.toList.drop (sLen*i.size+news.length)).toArray)
 grow:∀ (b:Addr) (sLen sCap:Nat) (olds:List Value),olds.length=sLen*i.size→(∀ j v,olds[j]? = some v→w.cell? (b.add j)=some v)→sCap<sLen+n→((sLen+n:Nat):Int)≤9223372036854775807→
  Builtin.nextslicecap (sLen+n) sCap*i.bytes≤281474976710656→(Builtin.append_ #[t,t'] ty #[.slice (some b) sLen sCap,vx]).run P w =
  .ok (.slice (some ⟨w.heap.size,0,none⟩) (sLen+n) (grownCap w (sLen+n) sCap e))
   (w.drew.alloc (.cells (olds.toArray++news.toArray++Builtin.zeroCells z.cells (grownCap w (sLen+n) sCap e-(sLen+n))) e))
 zero:n=0→(Builtin.append_ #[t,t'] ty #[.slice none 0 0,vx]).run P w = .ok (.slice none 0 0) w
def AppRd (P:Program) (w:World) (C:Com) (ρ:Rho) (H:Heap) (t t' ty e:TypeId) (i:TypeInfo) (z vx:Value) (rows:List (List AV)) (sz:Nat):Prop:=
 (rows=[]∧(Builtin.append_ #[t,t'] ty #[.slice none 0 0,vx]).run P w = .ok (.slice none 0 0) w∧
  ∀ (a:Addr) (len cap:Nat),len≤cap→(Builtin.append_ #[t,t'] ty #[.slice (some a) len cap,vx]).run P w = .ok (.slice (some a) len cap) w)∨
 ∃ news:List Value,AppSrc P w t t' ty e i z vx rows.length news∧news.length=rows.length*sz∧(∀ u∈news,u.oneCell' = true)∧
  ∀ i j (hi:i<rows.length) (hj:j<(rows[i]).length),∃ v,news[i*sz+j]? = some v∧RepA w C ρ H (rows[i])[j] v
theorem qwcb (hR:RelH w C ρ H) {t t' ty e:TypeId} {i:TypeInfo} {z:Value} (hu:P.underlying t=some (.slice e)) (hi:P.info? e=some i) (hzi:i.zero=some z) {x:AV} {vx:Value} (hx:RepA w C ρ H x vx)
 {rows:List (List AV)} {rb:List Nat} (h:rowsX P t t' H x=some (rows,rb)) {sz:Nat} (h0:0<sz) (hs:i.size=sz)
 (hl:∀ row∈rows,row.length=sz):AppRd P w C ρ H t t' ty e i z vx rows sz:=by
 by_cases hstr:∃ l,x = .d (.str l)
 · obtain ⟨l,rfl⟩:=hstr;simp only[rowsX] at h
   split at h
   · rename_i hc;cases h;obtain ⟨c1,c2⟩:=hc
     have hsz1:i.size=1:=by
      have ht:telem P t=some e:=by unfold telem;rw[hu]
      have:tsz P e=i.size:=by unfold tsz;rw[hi]
      rw[ht] at c2;simp at c2;omega
     have hu':P.underlying t' = some .string:=by
      unfold tstr at c1
      split at c1
      · assumption
      · simp at c1
     obtain ⟨s,rfl,hsl⟩:∃ s:ByteArray,vx = .string s∧s.data.toList=l:=by
      have hxd:=qyc hx;cases hxd with
      | str=>exact ⟨_,rfl,rfl⟩
     have hlen:(Lib.strCells s).length=s.size:=Lib.strCells_length s;have hsize:s.size=l.length:=by rw[← hsl,Array.length_toList];rfl
     refine .inr ⟨Lib.strCells s,⟨?_,?_,?_,?_⟩,by rw[hlen,hsize,List.length_map,← hs,hsz1];omega,Lib.strCells_oneCell s,?_⟩
     · intro g1 g2 g3;rw[List.length_map,← hsize] at g1 g2 g3 ⊢;have:=run_append_nil_string (P:=P) w t t' ty e i z hu hu' hi hzi s g1 g2 g3;rw[this]
       congr 5
       apply Array.ext'
       simp[Lib.strCells]
     · intro g sLen sCap cur g1 g2 g3;rw[List.length_map,← hsize] at g2 ⊢;rw[hlen,hsz1,Nat.mul_one] at g3 ⊢;exact Lib.run_append_room_string (P:=P) w t t' ty e i hu hu' hi hsz1 g sLen sCap cur g1 s g2 g3
     · intro b sLen sCap olds g1 g2 g3 g4 g5;rw[List.length_map,← hsize] at g3 g4 g5 ⊢;exact Lib.run_append_grow_string (P:=P) w t t' ty e i z hu hu' hi hzi b sLen sCap olds g1 g2 s g3 g4 g5
     · intro g1;rw[List.length_map,← hsize] at g1;simp[Builtin.append_,run_underlying hu,run_underlying hu',Go.sizeOf,typeInfo,hi,Builtin.lenOf,Builtin.firstCells,g1]
     · intro a b ha hb;simp only[List.getElem_map,List.length_cons,List.length_nil] at hb;obtain rfl:b=0:=by omega
       simp only[List.length_map] at ha;refine ⟨.int .u8 (l[a]'ha).toNat,?_,?_⟩
       · rw[← hs,hsz1,Nat.mul_one,Nat.add_zero];unfold Lib.strCells;rw[List.getElem?_map];simp[hsl,ha]
       · simp only[List.getElem_map,List.getElem_cons_zero];exact .d _ _ (.int _ _)
   · simp at h
 · have hx' : t = t' ∧ rowsOf H x = some (rows,rb) := by
    unfold rowsX at h
    split at h
    · rename_i l;exact absurd ⟨l,rfl⟩ hstr
    · split at h
      · rename_i htt;exact ⟨htt,h⟩
      · simp at h
   obtain ⟨rfl,hro⟩:=hx';rcases qsq hR hx hro h0 hl with ⟨rfl,hr0⟩|⟨a,cap,news,rfl,n1,n2,n3,n4⟩
   · refine .inl ⟨hr0,?_,fun a len cap hlc=>?_⟩
     · simp[Builtin.append_,run_underlying hu,Go.sizeOf,typeInfo,hi,Builtin.lenOf,Builtin.firstCells]
     · simp[Builtin.append_,run_underlying hu,Go.sizeOf,typeInfo,hi,Builtin.lenOf,Builtin.firstCells,hlc,storeCells]
   · refine .inr ⟨news,⟨fun g1 g2 g3 => run_append_nil (P := P) w t ty e i z hu hi hzi a rows.length cap news (by rw [hs]; exact n1) n2 g1 g2 g3,
      fun g sLen sCap cur g1 g2 g3=>run_append_room (P:=P) w t ty e i hu hi g sLen sCap cur g1 a rows.length cap news (by rw[hs];exact n1) n2 n3 g2 g3,
      fun b sLen sCap olds g1 g2 g3 g4 g5=>run_append_grow (P:=P) w t ty e i z hu hi hzi b sLen sCap olds g1 g2 a rows.length cap news (by rw[hs];exact n1) n2 g3 g4 g5,fun g1=>?_⟩,n1,n3,n4⟩
     rw[g1];simp[Builtin.append_,run_underlying hu,Go.sizeOf,typeInfo,hi,Builtin.lenOf,Builtin.firstCells,loadCells,loadCellsFrom]
theorem qws (hR:RelH w C ρ H) (hid:H id=none) (hev:∀ x,RepA w C ρ H (ev x) (rv x)) {args:Array Operand} {ats:Array TypeId}
 (ho:o.op = .call { callee:=.builtin .append,args,argTypes:=ats })
 (h:execA P id ev H (.call { callee:=.builtin .append,args,argTypes:=ats })=some r):Out w C ρ H r ((execOp rv o).run P w):=by
 simp only[execA] at h;obtain ⟨cs,hcs⟩:=qad (P:=P) (w:=w) rv ho;rw[hcs]
 split at h
 · rename_i s x t t' hargs hats;obtain ⟨l⟩:=args;obtain ⟨l'⟩:=ats;simp only at hargs hats;subst hargs;subst hats
   split at h
   · rename_i e rows rb he hrows;have hu:=qtb he
     split at h
     · simp at h
     · rename_i z hz
       split at h
       · rename_i hc;obtain ⟨c2,c3,c4,c5⟩:=hc;obtain ⟨i,hi⟩:=Option.isSome_iff_exists.1 (show (P.info? e).isSome=true from c2)
         have hzi:i.zero=some z:=by unfold tzero at hz;rw[hi] at hz;exact hz
         have hsz:i.size=tsz P e:=by unfold tsz;rw[hi]
         have hby:i.bytes=tby P e:=by unfold tby;rw[hi]
         have h5:∀ row∈rows,row.length=tsz P e∧row.all AV.one=true:=by
          intro row hrow;simp only[List.all_eq_true,Bool.and_eq_true,beq_iff_eq] at c5;simp only[List.all_eq_true];exact c5 row hrow
         have hrd:=qwcb (P:=P) (ty:=o.type) hR hu hi hzi (hev x) hrows c4 hsz fun row hrow=>(h5 row hrow).1
         have hb:∀ a b:Value,(builtin .append #[t,t'] o.type cs (#[s,x].map rv)).run P w=((Builtin.append_ #[t,t'] o.type #[rv s,rv x]).run P w).andThen fun v w'=>.ok (.value v) w':=by
          intro _ _;simp[builtin]
         rw[hb undef undef]
         have news1:∀ {news:List Value},(∀ u∈news,u.oneCell' = true)→(∀ i j (hi:i<rows.length) (hj:j<(rows[i]).length),∃ v,news[i*tsz P e+j]? = some v∧RepA w C ρ H (rows[i])[j] v)→
          ∀ i j (hi:i<rows.length) (hj:j<(rows[i]).length),∃ v,news[i*tsz P e+j]? = some v∧v.oneCell' = true∧RepA w C ρ H (rows[i])[j] v:=by
          intro news g1 g2 i j hi hj;obtain ⟨v,v1,v2⟩:=g2 i j hi hj;exact ⟨v,v1,g1 _ (List.mem_of_getElem? v1),v2⟩
         have hs:=hev s;generalize hvs:rv s=vs at hs;generalize hvx:rv x=vx at hrd
         split at h
         ·
          rename_i hse;rw[hse] at hs;cases hs
          split at h
          · rename_i hc2;cases h;rcases hrd with ⟨hr0,ha0,_⟩|⟨news,src,n1,n3,n4⟩
            · rw[if_pos hr0];refine Out.same hR .nils ?_;rw[ha0];rfl
            · by_cases hr0:rows=[]
              · rw[if_pos hr0];refine Out.same hR .nils ?_;rw[src.zero (by rw[hr0];rfl)];rfl
              · rw[if_neg hr0];have hpos:0<rows.length:=List.length_pos_iff.2 hr0;have hr:=src.nil hpos (by omega) (by rw[hby];omega)
                have hge:=grownCap_ge w rows.length 0 e;refine qwv hR hid (qrf (rows:=rows) e false true ?_ (fun row hrow=>(h5 row hrow).1) ?_) rfl rfl hge ?_ w.drew (.inr rfl) ?_ (cs:=news.toArray++Builtin.zeroCells z.cells (grownCap w rows.length 0 e-rows.length))
                · simp only[Array.size_append,List.size_toArray,n1];omega
                · intro i j hi hj;obtain ⟨v,v1,v2,v3⟩:=news1 n3 n4 i j hi hj;refine ⟨v,?_,v2,v3⟩;have hk:=(List.getElem?_eq_some_iff.1 v1).1;rw[Array.getElem?_append_left (by simpa using hk)]
                  simpa using v1
                · simp only[Array.size_append,List.size_toArray,n1,size_zeroCells,c3,← Nat.add_mul];exact Nat.mul_le_mul_right _ (by omega)
                · rw[hr];rfl
          · simp at h
         ·
          rename_i b n off len hse;rw[hse] at hs;cases hs with
          | own _ _ _ _ _ blk hb hn h1 hp=>
          simp only[hb] at h
          split at h
          · rename_i hc2;obtain ⟨k1,rfl,rfl,k4,k5,k6,k7,k8,k9⟩:=hc2;cases h
            have hl0:∀ row∈blk.rows,row.length=blk.sz:=by
             intro row hrow;have hpp:=hR.blk b blk hb;unfold BlkOK at hpp;cases hrb:ρ b with
             | none=>rw[hrb] at hpp;simp only at hpp;rw[hpp.1] at hrow;simp at hrow
             | some p=>
              obtain ⟨r0,s0⟩:=p;obtain ⟨cs0,lo,hi',_,_,_,_,f1,f2,f3⟩:=qig hR hb hrb;obtain ⟨q,hq,rfl⟩:=List.mem_iff_getElem.1 hrow;exact f2 q hq
            rcases hp k1 with ⟨r0,s0,cap,hr0,rfl,hlc,hcap,hol⟩|⟨hr0,_,hn0,rfl⟩
            · obtain ⟨cur,lo,hi',m1,m2,m3,m4,f1,f2,f3⟩:=qig hR hb hr0;obtain ⟨rfl,rfl⟩:=m3 k4 k5;rw[k6] at m1;simp only[Nat.zero_mul,Nat.zero_add] at hcap hvs;have hcs:len*blk.sz≤cur.size:=by rw[m2];exact Nat.le_trans (Nat.mul_le_mul_right _ hlc) hcap
              have holds:∀ j u,(cur.toList.take (len*blk.sz))[j]? = some u→w.cell? ((⟨r0,0,none⟩:Addr).add j)=some u:=by
               intro j u hu;rw[qvb,Nat.zero_add,qsb,m1];simp only;rw[List.getElem?_take] at hu
               split at hu
               · simpa using hu
               · simp at hu
              have hol2:(cur.toList.take (len*blk.sz)).length=blk.rows.length*blk.sz:=by simp[k1];omega
              have oldrep:∀ i j (hi:i<blk.rows.length) (hj:j<(blk.rows[i]).length),∃ v,(cur.toList.take (len*blk.sz))[i*blk.sz+j]? = some v∧v.oneCell' = true∧RepA w C ρ H (blk.rows[i])[j] v:=by
               intro i j hi hj;obtain ⟨v,v1,v2,v3⟩:=f3 i j hi hj;refine ⟨v,?_,v2,v3⟩;have hj':j<blk.sz:=by rw[f2 i hi] at hj;exact hj
               have hlt:i*blk.sz+j<len*blk.sz:=by
                have:(i+1)*blk.sz≤len*blk.sz:=Nat.mul_le_mul_right _ (by omega)
                rw[Nat.add_mul,Nat.one_mul] at this;omega
               rw[List.getElem?_take,if_pos hlt]
               simpa using v1
              rcases hrd with ⟨hr0',ha0,ha1⟩|⟨news,src,n1,n3,n4⟩
              ·
               subst hr0';have eblk:({ blk with rows:=blk.rows++[] }:Blk)=blk:=by cases blk;simp
               have eH:updH H b { blk with rows:=blk.rows++[] } = H:=by
                funext y;rw[eblk];unfold updH;split
                · rename_i hy;rw[hy];exact hb.symm
                · rfl
               refine ⟨w,C,ρ,.slice (some ⟨r0,0,none⟩) len cap,.inl ?_,?_,?_,?_⟩
               · have hlc':len≤cap:=hlc;simp only[Nat.zero_mul];rw[ha1 _ _ _ hlc'];rfl
               · show RelH w C ρ (updH H b _);rw[eH];exact hR
               · show Ext w C ρ H w C ρ (updH H b _);rw[eH];exact .refl _ _ _ _
               · show RepA w C ρ (updH H b _) _ _
                 rw[eH];exact .own b _ 0 _ _ blk hb (by simp;omega) rfl fun _=>.inl ⟨r0,s0,cap,hr0,by simp,by simpa using hlc,by simpa using hcap,by simp⟩
              · rw[← k7] at n1 n4 news1;have hszz:i.size=blk.sz:=by rw[hsz,k7]
                have rl:∀ row∈rows,row.length=blk.sz:=fun row hrow=>by rw[k7];exact (h5 row hrow).1
                by_cases hroom:len+rows.length≤cap
                ·
                 have hcr:(len+rows.length)*blk.sz≤cur.size:=by rw[m2];exact Nat.le_trans (Nat.mul_le_mul_right _ hroom) hcap
                 have hr:=src.room r0 len cap cur m1 hroom (by rw[hszz,n1,← Nat.add_mul];exact hcr)
                 rw[hszz] at hr
                 have hnew:(cur.toList.take (len*blk.sz)++news++cur.toList.drop (len*blk.sz+news.length)).toArray.size=cur.size:=by
                  simp only[List.size_toArray,List.length_append,List.length_take,List.length_drop,Array.length_toList,n1];rw[Nat.add_mul] at hcr;omega
                 have hw:=qit (w:=w) r0 cur (cur.toList.take (len*blk.sz)++news++cur.toList.drop (len*blk.sz+news.length)).toArray e m1;rw[← k6] at hw
                 have hf:Fits w C ρ H { blk with rows:=blk.rows++rows } (cur.toList.take (len*blk.sz)++news++cur.toList.drop (len*blk.sz+news.length)).toArray:=by
                  refine qpm hol2 n1 hl0 rl oldrep (news1 n3 n4) ?_ ?_
                  · intro k hk;rw[List.getElem?_toArray,List.getElem?_append_left (by simpa using hk)]
                  · rw[hnew,k1];exact hcr
                 refine ⟨_,C,ρ,_,.inl (by simp only[Nat.zero_mul];rw[hr];rfl),qny (blk:={ blk with rows:=blk.rows++rows }) hR hb k4 hr0 hw rfl (by simp) k4 (by rw[hnew];exact m2) (fun _=>⟨rfl,rfl⟩) (fun _ _=>by omega) hf,
                  ext_row (blk:={ blk with rows:=blk.rows++rows }) hR hb k4 hr0 hw rfl (by simp),?_⟩
                 exact .own b _ 0 _ _ _ (qt ..) (by simp;omega) rfl fun _=>.inl ⟨r0,s0,cap,hr0,by simp,hroom,by simpa using hcap,by simp⟩
                ·
                 have hpos:0<rows.length:=by omega
                 have hr:=src.grow ⟨r0,0,none⟩ len cap (cur.toList.take (len*blk.sz)) (by rw[hszz,hol2,k1]) holds (by omega) (by omega) (growslice_fits (by omega) (by rw[hby];omega))
                 have hge:=grownCap_ge w (len+rows.length) cap e
                 have hold:∀ blk0,H b=some blk0→({ blk with rows:=blk.rows++rows }:Blk).sz=blk0.sz∧blk0.rows.length<({ blk with rows:=blk.rows++rows }:Blk).rows.length:=by
                  intro blk0 hb0;rw[hb] at hb0;cases hb0;exact ⟨rfl,by simp;omega⟩
                 have hsize:((cur.toList.take (len*blk.sz)).toArray++news.toArray++Builtin.zeroCells z.cells (grownCap w (len+rows.length) cap e-(len+rows.length))).size=grownCap w (len+rows.length) cap e*blk.sz:=by
                  simp only[Array.size_append,List.size_toArray,hol2,n1,size_zeroCells,c3,← k7,← Nat.add_mul,k1]
                  congr 1
                  omega
                 have hf:Fits w.drew C ρ H { blk with rows:=blk.rows++rows } ((cur.toList.take (len*blk.sz)).toArray++news.toArray++Builtin.zeroCells z.cells (grownCap w (len+rows.length) cap e-(len+rows.length))):=by
                  have hf0:Fits w C ρ H { blk with rows:=blk.rows++rows } ((cur.toList.take (len*blk.sz)).toArray++news.toArray++Builtin.zeroCells z.cells (grownCap w (len+rows.length) cap e-(len+rows.length))):=by
                   refine qpm hol2 n1 hl0 rl oldrep (news1 n3 n4) ?_ ?_
                   · intro k hk;rw[Array.getElem?_append_left (by simpa using hk)]
                     simp
                   · rw[hsize,k1];exact Nat.mul_le_mul_right _ hge
                  obtain ⟨q1,q2,q3⟩:=hf0;refine ⟨q1,q2,fun i j hi hj=>?_⟩
                  obtain ⟨v,v1,v2,v3⟩:=q3 i j hi hj;exact ⟨v,v1,v2,v3.mono (ext_drew _ _ _ _)⟩
                 rw[← k6] at hr hf hge hsize;refine ⟨_,C,_,_,.inl (by simp only[Nat.zero_mul];rw[hr];rfl),qri (blk:={ blk with rows:=blk.rows++rows }) hR.drew hold hf k4,(ext_drew _ _ _ _).trans (ext_new (blk:={ blk with rows:=blk.rows++rows }) hR.drew hold),?_⟩
                 refine .own b _ 0 _ _ _ (qt ..) (by simp;omega) rfl fun _=>.inl ⟨w.heap.size,_,_,qm ..,by simp,hge,?_,by simp⟩
                 rw[Nat.zero_add];exact Nat.le_of_eq hsize.symm
            ·
             subst hn0;have hbr:blk.rows=[]:=List.eq_nil_of_length_eq_zero k1;rcases hrd with ⟨hr0',ha0,ha1⟩|⟨news,src,n1,n3,n4⟩
             · subst hr0';have eblk:({ blk with rows:=blk.rows++[] }:Blk)=blk:=by cases blk;simp
               have eH:updH H b { blk with rows:=blk.rows++[] } = H:=by
                funext y;rw[eblk];unfold updH;split
                · rename_i hy;rw[hy];exact hb.symm
                · rfl
               refine ⟨w,C,ρ,.slice none 0 0,.inl ?_,?_,?_,?_⟩
               · rw[ha0];rfl
               · show RelH w C ρ (updH H b _);rw[eH];exact hR
               · show Ext w C ρ H w C ρ (updH H b _);rw[eH];exact .refl _ _ _ _
               · show RepA w C ρ (updH H b _) _ _
                 rw[eH];exact .own b _ 0 _ _ blk hb (by simp) rfl fun _=>.inr ⟨hr0,rfl,by simp,rfl⟩
             · by_cases hrr:rows=[]
               · subst hrr;have eblk:({ blk with rows:=blk.rows++[] }:Blk)=blk:=by cases blk;simp
                 have eH:updH H b { blk with rows:=blk.rows++[] } = H:=by
                  funext y;rw[eblk];unfold updH;split
                  · rename_i hy;rw[hy];exact hb.symm
                  · rfl
                 refine ⟨w,C,ρ,.slice none 0 0,.inl ?_,?_,?_,?_⟩
                 · rw[src.zero rfl];rfl
                 · show RelH w C ρ (updH H b _);rw[eH];exact hR
                 · show Ext w C ρ H w C ρ (updH H b _);rw[eH];exact .refl _ _ _ _
                 · show RepA w C ρ (updH H b _) _ _
                   rw[eH];exact .own b _ 0 _ _ blk hb (by simp) rfl fun _=>.inr ⟨hr0,rfl,by simp,rfl⟩
               · have hpos:0<rows.length:=List.length_pos_iff.2 hrr;have hr:=src.nil hpos (by omega) (by rw[hby];simp only[Nat.zero_add] at k8;omega)
                 have hge:=grownCap_ge w rows.length 0 e
                 have hold:∀ blk0,H b=some blk0→({ blk with rows:=blk.rows++rows }:Blk).sz=blk0.sz∧blk0.rows.length<({ blk with rows:=blk.rows++rows }:Blk).rows.length:=by
                  intro blk0 hb0;rw[hb] at hb0;cases hb0;exact ⟨rfl,by simp;omega⟩
                 have hsize:(news.toArray++Builtin.zeroCells z.cells (grownCap w rows.length 0 e-rows.length)).size=grownCap w rows.length 0 e*blk.sz:=by
                  simp only[Array.size_append,List.size_toArray,n1,size_zeroCells,c3,k7,← Nat.add_mul]
                  congr 1
                  omega
                 have hf:Fits w.drew C ρ H { blk with rows:=blk.rows++rows } (news.toArray++Builtin.zeroCells z.cells (grownCap w rows.length 0 e-rows.length)):=by
                  have hf0:Fits w C ρ H { blk with rows:=rows } (news.toArray++Builtin.zeroCells z.cells (grownCap w rows.length 0 e-rows.length)):=by
                   refine qrf (rows:=rows) blk.ty blk.fz blk.ap ?_ (fun row hrow=>by rw[k7];exact (h5 row hrow).1) ?_
                   · rw[hsize];exact Nat.mul_le_mul_right _ hge
                   · intro i j hi hj;obtain ⟨v,v1,v2,v3⟩:=news1 n3 n4 i j hi hj;refine ⟨v,?_,v2,v3⟩;rw[k7];have hk:=(List.getElem?_eq_some_iff.1 v1).1;rw[Array.getElem?_append_left (by simpa using hk)]
                     simpa using v1
                  rw[hbr,List.nil_append];obtain ⟨q1,q2,q3⟩:=hf0;refine ⟨q1,q2,fun i j hi hj=>?_⟩
                  obtain ⟨v,v1,v2,v3⟩:=q3 i j hi hj;exact ⟨v,v1,v2,v3.mono (ext_drew _ _ _ _)⟩
                 rw[← k6] at hr hf hge hsize;refine ⟨_,C,_,_,.inl (by rw[hr];rfl),qri (blk:={ blk with rows:=blk.rows++rows }) hR.drew hold hf k4,(ext_drew _ _ _ _).trans (ext_new (blk:={ blk with rows:=blk.rows++rows }) hR.drew hold),?_⟩
                 refine .own b _ 0 _ _ _ (qt ..) (by simp) rfl fun _=>.inl ⟨w.heap.size,_,grownCap w rows.length 0 blk.ty,qm ..,by simp,by simpa using hge,?_,by simp⟩
                 rw[Nat.zero_add];exact Nat.le_of_eq hsize.symm
          · simp at h
         · simp at h
       · simp at h
   · simp at h
 · simp at h
theorem qcw:∀ {rows:List (List AV)} {l:List UInt8},bytesA rows=some l→rows=l.map fun c=>[.d (.int .u8 (c.toNat:Int))]:=by
 intro rows
 induction rows with
 | nil=>intro l h;simp[bytesA] at h;subst h;rfl
 | cons r rows ih=>
  intro l h;unfold bytesA at h
  split at h
  · rename_i hr;simp at hr
  · rename_i c rest hr;simp only[List.cons.injEq] at hr;obtain ⟨rfl,rfl⟩:=hr
    split at h
    · rename_i hc
      split at h
      · rename_i l' hl';simp only[Option.some.injEq] at h;subst h;rw[ih hl',List.map_cons]
        congr 4
        obtain ⟨h0,h1⟩:=hc;have h2:c.toNat<256:=by omega
        have h3:(c.toNat.toUInt8).toNat=c.toNat:=by
         simp[Nat.toUInt8];omega
        rw[h3];omega
      · simp at h
    · simp at h
  · simp at h
theorem qpdb:∀ (l p:List UInt8),(l.map fun c=>(c.toNat:Int)).foldl (fun r n=>r.push (UInt8.ofNat n.toNat)) (⟨⟨p⟩⟩:ByteArray)=⟨⟨p++l⟩⟩:=by
 intro l
 induction l with
 | nil=>intro p;simp
 | cons c l ih=>
  intro p;simp only[List.map_cons,List.foldl_cons]
  have h1:(⟨⟨p⟩⟩:ByteArray).push (UInt8.ofNat ((c.toNat:Int)).toNat)=⟨⟨p++[c]⟩⟩:=by
   have:UInt8.ofNat ((c.toNat:Int)).toNat=c:=by simp
   rw[this]
   show (⟨(⟨p⟩:Array UInt8).push c⟩:ByteArray)=_
   simp
  rw[h1,ih];simp
theorem qzp (hR:RelH w C ρ H) (hid:H id=none) (hev:∀ x,RepA w C ρ H (ev x) (rv x)) {s t:TypeId} {x:Operand} (ho:o.op = .convert s t x)
 (h:execA P id ev H (.convert s t x)=some r):Out w C ρ H r ((execOp rv o).run P w):=by
 simp only[execA] at h;have hx:=hev x
 split at h
 · rename_i k' n k b hxe hk;rw[hxe] at hx
   split at h
   · rename_i hs;obtain ⟨d,hd⟩:=qfa hs;refine Out.chg hR h (.d _ _ (.int _ _)) ?_;rw[execOp];simp[ho,qwb hx,convert,run_underlying hd,run_underlying (qgq hk),Conv.intToInt]
   · simp at h
 · rename_i l b hxe hk hb;rw[hxe] at hx
   split at h
   · rename_i hs;obtain ⟨d,hd⟩:=qfa hs;refine Out.chg hR h (.d _ _ (.str _)) ?_;rw[execOp];simp[ho,qii hx,convert,run_underlying hd,run_underlying (qmh hb)]
   · simp at h
 · rename_i hk hb _
   split at h
   · rename_i hs
     split at h
     · rename_i rows rb hrows
       split at h
       · rename_i l hl;cases h
         obtain ⟨e,he,hu8⟩:∃ e,telem P s=some e∧tint P e=some .u8:=by
          cases he:telem P s with
          | none=>simp[he] at hs
          | some e=>exact ⟨e,rfl,by simpa [he] using hs⟩
         have hrw:=qcw hl;have hx':RepA w C ρ H (ev x) (rv x):=hx
         have hstr:∀ v,(convert s t (rv x)).run P w = .ok v w→((execOp rv o).run P w) = .ok (.value v) w:=by
          intro v hv;rw[execOp];simp only[ho,Sem.run_bind,hv,Result.andThen_ok,Sem.run_pure]
         rcases qsq hR hx' hrows (sz:=1) Nat.one_pos (by rw[hrw];intro row hrow;obtain ⟨c,_,rfl⟩:=List.mem_map.1 hrow;rfl) with ⟨hv,hnil⟩|⟨a,cap,news,hv,hlen,hc,h1c,hrep⟩
         · have hl0:l=[]:=by rw[hnil] at hl;simpa [bytesA] using hl.symm
           subst hl0;refine Out.same (v:=.string ⟨⟨[]⟩⟩) (rb:=rb) hR (.d _ _ (.str [])) (hstr _ ?_);rw[hv,run_convert_bytes_string w s t e none 0 0 (qtb he) (qgq hu8) (qmh hb)];rfl
         · refine Out.same (v:=.string ⟨⟨l⟩⟩) (rb:=rb) hR (.d _ _ (.str l)) (hstr _ ?_);rw[hv,run_convert_bytes_string w s t e _ _ _ (qtb he) (qgq hu8) (qmh hb)]
           have hnews:news=(l.map fun c=>(c.toNat:Int)).map (Value.int .u8):=by
            refine List.ext_getElem (by rw[hlen,hrw];simp) fun i hi hi'=>?_
            have hi2:i<l.length:=by simpa using hi'
            have hri:i<rows.length:=by rw[hrw];simpa using hi2
            have hrj:rows[i]=[.d (.int .u8 ((l[i]).toNat:Int))]:=by simp[hrw]
            obtain ⟨v,v1,v2⟩:=hrep i 0 hri (by rw[hrj];exact Nat.one_pos)
            simp only[hrj,Nat.mul_one,Nat.add_zero,List.getElem_cons_zero] at v1 v2;rw[List.getElem?_eq_getElem hi] at v1;simp only[Option.some.injEq] at v1;rw[v1,qwb v2];simp
           have hload:(loadCells a rows.length).run P w = .ok ((l.map fun c=>(c.toNat:Int)).map (Value.int .u8)).toArray w:=by
            have h0:=run_loadCells_list (P:=P) (w:=w) a news hc;rw[hlen,Nat.mul_one] at h0;rw[h0,hnews]
           rw[run_bytesToString w a rows.length cap _ hload,qpdb];simp
       · simp at h
     · simp at h
   · simp at h
 · rename_i l hxe hk hb;rw[hxe] at hx
   split at h
   · rename_i e he
     split at h
     · rename_i hc;cases h;obtain ⟨_,hss,hu8⟩:=hc;have hcap:l.length≤grownCap w l.length 0 e:=grownCap_ge w l.length 0 e;refine qrob hR hid (qrf (cs:=bytesRow ⟨⟨l⟩⟩ (grownCap w l.length 0 e)) e false false ?_ ?_ ?_) rfl rfl ?_ (n:=l.length) (cap:=grownCap w l.length 0 e) (by simp) hcap ?_ w.drew (.inr rfl) ?_ (reg:=((bytesRow ⟨⟨l⟩⟩ (grownCap w l.length 0 e)).size,(bytesRow ⟨⟨l⟩⟩ (grownCap w l.length 0 e)).size+1))
       · simp[bytesRow,ByteArray.size]
       · intro row hrow;obtain ⟨c,_,rfl⟩:=List.mem_map.1 hrow;rfl
       · intro a b ha hb;simp only[List.length_map] at ha;simp only[List.getElem_map,List.length_singleton] at hb;obtain rfl:b=0:=by omega
         refine ⟨.int .u8 (l[a].toNat:Int),?_,rfl,?_⟩
         · simp only[bytesRow,Nat.mul_one,Nat.add_zero];rw[Array.getElem?_append_left (by simpa using ha)]
           simp[ha]
         · simp only[List.getElem_map,List.getElem_cons_zero];exact .d _ _ (.int _ _)
       · intro o ho hoo;omega
       · simp only[bytesRow,Array.size_append,Array.size_map,Array.size_replicate,ByteArray.size,Nat.mul_one]
         show _≤l.length+(_-l.length)
         omega
       · have hrun:=run_bytes_of_string (P:=P) w s t e ⟨⟨l⟩⟩ (qmh hss) (qtb he) (qgq hu8);rw[execOp];simp only[ho,qii hx,Sem.run_bind,hrun,Result.andThen_ok,Sem.run_pure];rfl
     · simp at h
   · simp at h
 · simp at h
end Am

namespace Am
open Go
variable {P:Program} {w w':World} {C:Com} {ρ:Rho} {H:Heap}
variable {ev:Operand→AV} {rv:Operand→Value} {id:Nat} {r:Res} {o:Oper}
theorem qzv:∀ (rows:List (List AV)) (l:List UInt8),bytesA rows=some l→rows.length=l.length∧∀ i (h:i<rows.length) (h':i<l.length),rows[i]=[.d (.int .u8 l[i].toNat)]:=by
 intro rows
 induction rows with
 | nil=>intro l h;simp only[bytesA] at h;cases h;exact ⟨rfl,fun i h=>by simp at h⟩
 | cons row rows ih=>
  intro l h;unfold bytesA at h
  split at h
  · rename_i heq;cases heq
  · rename_i c rest heq;cases heq
    split at h
    · rename_i hc
      split at h
      · rename_i l' hl';cases h;obtain ⟨h1,h2⟩:=ih l' hl';refine ⟨by simp[h1],fun i hi hi'=>?_⟩
        cases i with
        | zero=>
         simp only[List.getElem_cons_zero]
         have:((c.toNat.toUInt8).toNat:Int)=c:=by
          rw[show c.toNat.toUInt8=UInt8.ofNat c.toNat from rfl,UInt8.toNat_ofNat']
          omega
         rw[this]
        | succ i=>simpa using h2 i (by simpa using hi) (by simpa using hi')
      · simp at h
    · simp at h
  · simp at h
theorem qstb {t e:TypeId} (h:tptr P t=some e):P.underlying t=some (.pointer e):=by
 unfold tptr at h
 split at h
 · rename_i e' he;cases h;exact he
 · simp at h
theorem qza (hR:RelH w C ρ H) {b r0 s0 n:Nat} {blk:Blk} (hb:H b=some blk) (hr:ρ b=some (r0,s0)) :
 RelH (w.freeze ⟨r0,0,none⟩ n) (fun r o=>C r o∨(r=r0∧o<blk.rows.length*blk.sz)) ρ (updH H b { blk with fz:=true })∧
 Ext w C ρ H (w.freeze ⟨r0,0,none⟩ n) (fun r o=>C r o∨(r=r0∧o<blk.rows.length*blk.sz)) ρ (updH H b { blk with fz:=true }):=by
 obtain ⟨cs,lo,hi,m1,m2,m3,m4,f1,f2,f3⟩:=qig hR hb hr
 have hrow:∃ lo' hi',(w.freeze ⟨r0,0,none⟩ n).heap[r0]? = some (.cells cs blk.ty (lo',hi')):=by
  unfold World.freeze
  split
  · exact ⟨lo,hi,m1⟩
  · simp only[Array.getElem?_modify,if_true,m1,Option.map_some]
    split
    · exact ⟨_,_,rfl⟩
    · exact ⟨_,_,rfl⟩
 obtain ⟨lo',hi',hrow⟩:=hrow
 have hoth:∀ k,k≠r0→(w.freeze ⟨r0,0,none⟩ n).heap[k]? = w.heap[k]?:=by
  intro k hk;unfold World.freeze
  split
  · rfl
  · simp only[Array.getElem?_modify];rw[if_neg (fun e=>hk e.symm)]
 have hsz:(w.freeze ⟨r0,0,none⟩ n).heap.size=w.heap.size:=by
  unfold World.freeze;split<;>simp
 have hcell:∀ r o,(w.freeze ⟨r0,0,none⟩ n).cell? ⟨r,o,none⟩ = w.cell? ⟨r,o,none⟩:=by
  intro r o;rw[qsb,qsb]
  by_cases h:r=r0
  · subst h;rw[hrow,m1]
  · rw[hoth r h]
 have hos:(w.freeze ⟨r0,0,none⟩ n).os=w.os∧(w.freeze ⟨r0,0,none⟩ n).tape=w.tape∧(w.freeze ⟨r0,0,none⟩ n).output=w.output:=by
  unfold World.freeze;split<;>exact ⟨rfl,rfl,rfl⟩
 have hown:OwnRow ρ H r0:=⟨b,s0,by simp[hb],hr⟩
 have hex:∀ x,(updH H b { blk with fz:=true } x).isSome=(H x).isSome:=by
  intro x
  by_cases hx:x=b
  · subst hx;simp[qt,hb]
  · rw[qj _ _ hx]
 have hownIff:∀ r,OwnRow ρ (updH H b { blk with fz:=true }) r→OwnRow ρ H r:=by
  rintro r ⟨x,s,hx,hrx⟩;exact ⟨x,s,by rw[← hex];exact hx,hrx⟩
 have e:Ext w C ρ H (w.freeze ⟨r0,0,none⟩ n) (fun r o=>C r o∨(r=r0∧o<blk.rows.length*blk.sz)) ρ (updH H b { blk with fz:=true }):=by
  refine ⟨fun _ _ h=>.inl h,fun r o _=>hcell r o,fun x blk0 hx=>?_,hos.1,hos.2.1,hos.2.2,by omega,fun r hr' hno=>hoth r fun e=>hno (e ▸ hown),fun r h=>.inl (hownIff r h),fun r o h=>?_⟩
  · by_cases hxb:x=b
    · subst hxb;rw[hb] at hx;cases hx;exact ⟨_,qt ..,rfl,Nat.le_refl _,fun _=>rfl⟩
    · exact ⟨blk0,by rw[qj _ _ hxb];exact hx,rfl,Nat.le_refl _,fun _=>rfl⟩
  · rcases h with h|⟨rfl,_⟩
    · exact .inl h
    · exact .inr (.inl hown)
 refine ⟨⟨fun x blk1 hx=>?_,fun x y r s s' hne hx hy hrx hry=>?_,fun r o hc=>?_⟩,e⟩
 · by_cases hxb:x=b
   · subst hxb;rw[qt] at hx;cases hx;unfold BlkOK;rw[hr];refine ⟨⟨cs,lo',hi',hrow,m2,fun h=>by simp at h,fun h=>by simp at h,by show blk.rows.length*blk.sz≤s0;omega,f2,fun i j hi hj=>?_⟩,fun h=>by simp at h,fun _ o ho=>.inr ⟨rfl,ho⟩⟩
     obtain ⟨v,v1,v2,v3⟩:=f3 i j hi hj;exact ⟨v,v1,v2,v3.mono e⟩
   · rw[qj _ _ hxb] at hx;refine (hR.blk x blk1 hx).ext e rfl (fun r s hrx=>hoth r fun e=>?_) (fun r s hrx _ o hc=>?_)
     · subst e;exact hR.dis x b r s s0 hxb (by simp[hx]) (by simp[hb]) hrx hr
     · rcases hc with hc|⟨rfl,_⟩
       · exact hc
       · exact (hR.dis x b r s s0 hxb (by simp[hx]) (by simp[hb]) hrx hr).elim
 · rw[hex] at hx hy;exact hR.dis x y r s s' hne hx hy hrx hry
 · rw[hcell];rcases hc with hc|⟨rfl,ho⟩
   · exact hR.com r o hc
   · refine ⟨cs[o]'(by omega),?_⟩
     rw[qsb,m1];simp
theorem qvf (hR:RelH w C ρ H) (hev:∀ x,RepA w C ρ H (ev x) (rv x)) {args:Array Operand} {ats:Array TypeId}
 (ho:o.op = .call { callee:=.builtin .unsafeSliceData,args,argTypes:=ats })
 (h:execA P id ev H (.call { callee:=.builtin .unsafeSliceData,args,argTypes:=ats })=some r):Out w C ρ H r ((execOp rv o).run P w):=by
 simp only[execA] at h;obtain ⟨cs,hcs⟩:=qad (P:=P) (w:=w) rv ho;rw[hcs]
 split at h
 · rename_i x hargs;obtain ⟨l⟩:=args;simp only at hargs;subst hargs;have hx:=hev x;generalize hv:rv x=vx at hx
   split at h
   · rename_i b n off len hxe;rw[hxe] at hx;cases hx with
     | own _ _ _ _ _ blk hb hn h1 hp=>
     simp only[hb] at h
     split at h
     · rename_i hc;obtain ⟨c1,rfl,c3⟩:=hc;cases h;rcases hp c1 with ⟨r0,s0,cap,hr0,rfl,hlc,hcs',hol⟩|⟨_,_,h0,_⟩
       · refine Out.same hR (.ptr b n 0 0 _ blk hb hn rfl fun _=>⟨r0,s0,hr0,rfl⟩) ?_
         have:=Lib.run_unsafeSliceData_row (P:=P) (w:=w) ats o.type ⟨r0,0*blk.sz,none⟩ len cap (by omega)
         simp only[Nat.zero_mul] at this;simp[builtin,hv,this]
       · omega
     · simp at h
   · simp at h
 · simp at h
theorem qji (hR:RelH w C ρ H) (hev:∀ x,RepA w C ρ H (ev x) (rv x)) {args:Array Operand} {ats:Array TypeId}
 (ho:o.op = .call { callee:=.builtin .unsafeString,args,argTypes:=ats })
 (h:execA P id ev H (.call { callee:=.builtin .unsafeString,args,argTypes:=ats })=some r):Out w C ρ H r ((execOp rv o).run P w):=by
 simp only[execA] at h;obtain ⟨cs,hcs⟩:=qad (P:=P) (w:=w) rv ho;rw[hcs]
 split at h
 · rename_i x y t t' hargs hats;obtain ⟨l⟩:=args;obtain ⟨l'⟩:=ats;simp only at hargs hats;subst hargs;subst hats;have hx:=hev x;have hy:=hev y;generalize hv:rv x=vx at hx
   split at h
   · rename_i b n len hxe hye;rw[hxe] at hx;rw[hye] at hy;have hvy:=qwb hy;cases hx with
     | ptr _ _ _ _ _ blk hb hn h1 hp=>
     split at h
     · rename_i blk0 e hb0 he;rw[hb] at hb0;cases hb0
       split at h
       · rename_i hc;obtain ⟨c1,c2,c3,c4,c5,c6,c7,c8⟩:=hc
         split at h
         · rename_i bs hbs;cases h;obtain ⟨g1,g2⟩:=qzv _ _ hbs;obtain ⟨r0,s0,hr0,hvp⟩:=hp c1;obtain ⟨cells,lo,hi,m1,m2,m3,m4,f1,f2,f3⟩:=qig hR hb hr0;have hbl:bs.length=len.toNat:=by rw[← g1,List.length_take];omega
           have hlen:(bs.length:Int)=len:=by omega
           have hrun:=Lib.run_unsafeString_row (P:=P) (w:=w) t t' o.type e (qstb he) c6 r0 cells.size (by simp[World.shape?,m1,c5]) bs (by intro hh;rw[hh] at hbl;simp at hbl;omega) (by rw[c7] at f1;omega) (by omega) (fun j x hj=>by
            obtain ⟨hj',rfl⟩:=List.getElem?_eq_some_iff.1 hj;have hjr:j<blk.rows.length:=by omega
            have hg:=g2 j (by rw[g1];exact hj') hj'
            simp only[List.getElem_take] at hg;obtain ⟨v,v1,v2,v3⟩:=f3 j 0 hjr (by rw[hg];simp)
            simp only[hg,List.getElem_cons_zero] at v3;rw[← qwb v3,qvb,qsb,m1]
            simpa [c7] using v1)
           rw[hlen] at hrun;obtain ⟨k1,k2⟩:=qza hR (n:=bs.length) hb hr0;have hvp':vx = .pointer (some ⟨r0,0,none⟩):=by rw[hvp];simp
           refine ⟨_,_,ρ,_,.inl ?_,k1,k2,.d _ _ (.str bs)⟩;simp[builtin,hv,hvy,hvp',hrun]
         · simp at h
       · simp at h
     · simp at h
   · simp at h
 · simp at h
end Am

namespace Am
open Go
variable {P:Program} {w:World} {C:Com} {ρ:Rho} {H:Heap}
variable {ev:Operand→AV} {rv:Operand→Value} {id:Nat} {r:Res} {o:Oper}
theorem qow (hR:RelH w C ρ H) (hid:H id=none) (hev:∀ x,RepA w C ρ H (ev x) (rv x))
 (h:execA P id ev H o.op=some r):Out w C ρ H r ((execOp rv o).run P w):=by
 cases ho:o.op with
 | move x=>rw[ho] at h;exact qtn hR hev (.inl ho) h
 | assign x=>rw[ho] at h;exact qtn hR hev (.inr ho) h
 | pick c a b=>rw[ho] at h;exact qabb hR hev ho h
 | alloc t=>rw[ho] at h;exact qyu (id:=id) (ev:=ev) hR hid ho h
 | box t x=>rw[ho] at h;exact qfjb hR hid hev ho h
 | build t ps=>rw[ho] at h;exact qzw hR hev ho h
 | buildSlice t n ps=>rw[ho] at h;exact qlk hR hid hev ho h
 | load t x=>rw[ho] at h;exact qycb hR hev ho h
 | store t a x=>rw[ho] at h;exact qzu hR hev ho h
 | nilCheck x=>rw[ho] at h;exact qen hR hev ho h
 | binOp op t x y u=>rw[ho] at h;exact qrv hR hev ho h
 | unOp op t x=>rw[ho] at h;exact qwbb hR hev ho h
 | convert s t x=>rw[ho] at h;exact qzp hR hid hev ho h
 | makeFunc f a b=>rw[ho] at h;exact qzm hR hev ho h
 | makeSlice t l c=>rw[ho] at h;exact qfl hR hid hev ho h
 | slice t x lo hi mx=>rw[ho] at h;exact qgu hR hev ho h
 | fieldAddr t x f=>rw[ho] at h;exact qzl hR hev ho h
 | field t x f=>rw[ho] at h;exact qpu hR hev ho h
 | indexAddr t x i=>rw[ho] at h;exact qll hR hev ho h
 | index t x i=>rw[ho] at h;exact qvw hR hev ho h
 | extract x i=>rw[ho] at h;exact qkp hR hev ho h
 | call c=>
  rw[ho] at h;obtain ⟨callee,args,ats⟩:=c;cases callee with
  | builtin b=>
   cases b with
   | len=>exact qrhb hR hev ho h
   | min=>exact qbkb hR hev ho h
   | max=>exact qbeb hR hev ho h
   | append=>exact qws hR hid hev ho h
   | unsafeSliceData=>exact qvf hR hev ho h
   | unsafeString=>exact qji hR hev ho h
   | _=>simp[execA] at h
  | _=>simp[execA] at h
 | _=>rw[ho] at h;simp[execA] at h
end Am

namespace Am
open Go
variable {P:Program} {w w':World} {C C':Com} {ρ ρ':Rho} {H H':Heap}
mutual
def AV.ren (m:Nat→Nat):AV→AV
 | .d x=>.d x
 | .nils=>.nils
 | .agg cs=>.agg (AV.renL m cs)
 | .tup cs=>.tup (AV.renL m cs)
 | .ptr b n i j=>.ptr (m b) n i j
 | .own b n off len=>.own (m b) n off len
 | .eptr cs=>.eptr cs
 | .clo f a b=>.clo f (AV.renL m a) (AV.renL m b)
 | .junk=>.junk
def AV.renL (m:Nat→Nat):List AV→List AV
 | []=>[]
 | c::cs=>c.ren m::AV.renL m cs
end
theorem qgc (m:Nat→Nat) (l:List AV):AV.renL m l=l.map (AV.ren m):=by
 induction l with
 | nil=>rfl
 | cons c l ih=>simp[AV.renL,ih]
mutual
def AV.inK (k:Nat):AV→Bool
 | .ptr b _ _ _=>decide (b<k)
 | .own b _ _ _=>decide (b<k)
 | .agg cs=>AV.inKL k cs
 | .tup cs=>AV.inKL k cs
 | .clo _ a b=>AV.inKL k a&&AV.inKL k b
 | _=>true
def AV.inKL (k:Nat):List AV→Bool
 | []=>true
 | c::cs=>c.inK k&&AV.inKL k cs
end
theorem qtf (k:Nat) (l:List AV):AV.inKL k l=l.all (AV.inK k):=by
 induction l with
 | nil=>rfl
 | cons c l ih=>simp[AV.inKL,ih]
def Blk.ren (m:Nat→Nat) (b:Blk):Blk:={ b with rows:=b.rows.map (·.map (AV.ren m)) }
def hOf (l:List Blk):Heap:=fun b=>l[b]?
theorem qjq {m:Nat→Nat} {ρ0:Rho} {H0:Heap} {k:Nat} (hH:∀ b,b<k→∃ blk,H0 b=some blk∧H (m b)=some (blk.ren m)) (hρ:∀ b,b<k→ρ0 b=ρ (m b))
 {y:AV} {v:Value} (h:RepA w C ρ H y v):∀ x:AV,y=x.ren m→x.inK k=true→RepA w C ρ0 H0 x v:=by
 induction h with
 | d z v h=>intro x hx _;cases x<;>simp[AV.ren] at hx;subst hx;exact .d _ _ h
 | nils=>intro x hx _;cases x<;>simp[AV.ren] at hx;exact .nils
 | agg cs vs hl h1 _ ih=>
  intro x hx hk;cases x<;>simp[AV.ren] at hx
  rename_i cs0;subst hx;simp only[qgc,List.length_map] at hl ih;simp only[AV.inK,qtf,List.all_eq_true] at hk;refine .agg cs0 vs hl h1 fun i h h'=>ih i (by simpa using h) h' _ (by simp) (hk _ (List.getElem_mem _))
 | tup cs vs hl _ ih=>
  intro x hx hk;cases x<;>simp[AV.ren] at hx
  rename_i cs0;subst hx;simp only[qgc,List.length_map] at hl ih;simp only[AV.inK,qtf,List.all_eq_true] at hk;refine .tup cs0 vs hl fun i h h'=>ih i (by simpa using h) h' _ (by simp) (hk _ (List.getElem_mem _))
 | ptr b n i j v blk hb hn h1 hp=>
  intro x hx hk;cases x<;>simp[AV.ren] at hx
  rename_i b0 n0 i0 j0;obtain ⟨rfl,rfl,rfl,rfl⟩:=hx;simp[AV.inK] at hk;obtain ⟨blk0,g1,g2⟩:=hH b0 hk;rw[g2] at hb;cases hb;simp only[Blk.ren,List.length_map] at hn hp;refine .ptr b0 _ _ _ v blk0 g1 hn h1 fun e=>?_
  rw[hρ b0 hk];exact hp e
 | own b n off len v blk hb hn h1 hp=>
  intro x hx hk;cases x<;>simp[AV.ren] at hx
  rename_i b0 n0 i0 j0;obtain ⟨rfl,rfl,rfl,rfl⟩:=hx;simp[AV.inK] at hk;obtain ⟨blk0,g1,g2⟩:=hH b0 hk;rw[g2] at hb;cases hb;simp only[Blk.ren,List.length_map] at hn hp;refine .own b0 _ _ _ v blk0 g1 hn h1 fun e=>?_
  rw[hρ b0 hk];exact hp e
 | eptr cs r o vs hC hcell hrec=>intro x hx _;cases x<;>simp[AV.ren] at hx;subst hx;exact .eptr _ r o vs hC hcell hrec
 | clo f first caps fv cv hf hc _ _ ih1 ih2=>
  intro x hx hk;cases x<;>simp[AV.ren] at hx
  rename_i f0 a0 b0;obtain ⟨rfl,rfl,rfl⟩:=hx;simp only[qgc,List.length_map] at hf hc ih1 ih2;simp only[AV.inK,qtf,Bool.and_eq_true,List.all_eq_true] at hk;exact .clo _ a0 b0 fv cv hf hc (fun i h h'=>ih1 i (by simpa using h) h' _ (by simp) (hk.1 _ (List.getElem_mem _))) (fun i h h'=>ih2 i (by simpa using h) h' _ (by simp) (hk.2 _ (List.getElem_mem _)))
 | junk v=>intro x hx _;cases x<;>simp[AV.ren] at hx;exact .junk v
theorem qgy {m:Nat→Nat} {ρ0:Rho} {H0:Heap} (hH:∀ b blk,H0 b=some blk→H (m b)=some (blk.ren m)∧ρ (m b)=ρ0 b)
 {x:AV} {v:Value} (h:RepA w C ρ0 H0 x v):RepA w C ρ H (x.ren m) v:=by
 induction h with
 | d z v h=>exact .d _ _ h
 | nils=>exact .nils
 | agg cs vs hl h1 _ ih=>
  simp only[AV.ren,qgc];exact .agg _ vs (by simpa using hl) h1 fun i h h'=>by simp only[List.getElem_map];exact ih i (by simpa using h) h'
 | tup cs vs hl _ ih=>
  simp only[AV.ren,qgc];exact .tup _ vs (by simpa using hl) fun i h h'=>by simp only[List.getElem_map];exact ih i (by simpa using h) h'
 | ptr b n i j v blk hb hn h1 hp=>
  obtain ⟨g1,g2⟩:=hH b blk hb;refine .ptr _ _ _ _ v _ g1 (by simpa [Blk.ren] using hn) h1 fun e=>?_
  rw[g2];exact hp (by simpa [Blk.ren] using e)
 | own b n off len v blk hb hn h1 hp=>
  obtain ⟨g1,g2⟩:=hH b blk hb;refine .own _ _ _ _ v _ g1 (by simpa [Blk.ren] using hn) h1 fun e=>?_
  rw[g2];exact hp (by simpa [Blk.ren] using e)
 | eptr cs r o vs hC hcell hrec=>exact .eptr _ r o vs hC hcell hrec
 | clo f first caps fv cv hf hc _ _ ih1 ih2=>
  simp only[AV.ren,qgc]
  exact .clo _ _ _ fv cv (by simpa using hf) (by simpa using hc) (fun i h h'=>by simp only[List.getElem_map];exact ih1 i (by simpa using h) h')
   (fun i h h'=>by simp only[List.getElem_map];exact ih2 i (by simpa using h) h')
 | junk v=>exact .junk v
def Body (P:Program) (f:FuncId):Prop:=∃ fn,P.funcs[f]? = some fn∧fn.body.isSome=true∧(fn.name == "runtime.NumGoroutine")=false
def RepAll (w:World) (C:Com) (ρ:Rho) (H:Heap) (l:List AV) (vs:List Value):Prop:=
 l.length=vs.length∧∀ i (h:i<l.length) (h':i<vs.length),RepA w C ρ H l[i] vs[i]
abbrev Glob:=Nat→Option (List D)
def GlobOK (G:Glob) (w:World) (C:Com):Prop:=∀ g cells,G g=some cells→RepA w C (fun _=>none) (fun _=>none) (.eptr cells) (.pointer (some ⟨g,0,none⟩))
theorem RepA.eptr_mono {w w':World} {C C':Com} {ρ ρ':Rho} {H H':Heap} (hc:∀ r o,C r o→C' r o) (hw:∀ r o,C r o→w'.cell? ⟨r,o,none⟩ = w.cell? ⟨r,o,none⟩)
 {cs:List D} {v:Value} (h:RepA w C ρ H (.eptr cs) v):RepA w' C' ρ' H' (.eptr cs) v:=by
 cases h with
 | eptr _ r o vs h1 h2 h3=>exact .eptr cs r o vs (fun j hj=>hc _ _ (h1 j hj)) (fun j hj=>by rw[hw _ _ (h1 j hj)];exact h2 j hj) (fun j hj=>(h3 j hj).mono hc hw)
theorem GlobOK.mono {G:Glob} {w w':World} {C C':Com} (h:GlobOK G w C) (hc:∀ r o,C r o→C' r o) (hw:∀ r o,C r o→w'.cell? ⟨r,o,none⟩ = w.cell? ⟨r,o,none⟩):GlobOK G w' C':=
 fun g cells hg=>(h g cells hg).eptr_mono hc hw
def CC (P:Program) (G:Glob) (f:FuncId) (Hin:List Blk) (args:List AV) (Hout:List Blk) (r:AV):Prop:=
 Body P f∧∀ (w:World) (C:Com) (ρ:Rho) (vs:List Value),RelH w C ρ (hOf Hin)→GlobOK G w C→RepAll w C ρ (hOf Hin) args vs→
  Calls P f ⟨vs⟩ w fun e w'=>∃ v C' ρ',e = .returned v∧RelH w' C' ρ' (hOf Hout)∧Ext w C ρ (hOf Hin) w' C' ρ' (hOf Hout)∧RepA w' C' ρ' (hOf Hout) r v
def D.scal:D→Bool
 | .sl _=>false
 | _=>true
mutual
def AV.scal:AV→Bool
 | .d x=>x.scal
 | .agg cs=>AV.scalL cs
 | .tup cs=>AV.scalL cs
 | .junk=>true
 | _=>false
def AV.scalL:List AV→Bool
 | []=>true
 | c::cs=>c.scal&&AV.scalL cs
end
theorem qvk (l:List AV):AV.scalL l=l.all AV.scal:=by
 induction l with
 | nil=>rfl
 | cons c l ih=>simp[AV.scalL,ih]
theorem qnpb {w':World} {C':Com} {ρ':Rho} {H':Heap} {x:AV} {v:Value} (h:RepA w C ρ H x v):x.scal=true→RepA w' C' ρ' H' x v:=by
 induction h with
 | d z v h=>
  intro hs;refine .d _ _ ?_;cases h with
  | nil=>simp[AV.scal,D.scal] at hs
  | nilA=>simp[AV.scal,D.scal] at hs
  | sl=>simp[AV.scal,D.scal] at hs
  | int k n=>exact .int k n
  | bool b=>exact .bool b
  | str l=>exact .str l
  | raw v=>exact .raw v
 | nils=>intro hs;simp[AV.scal] at hs
 | agg cs vs hl h1 _ ih=>
  intro hs;simp only[AV.scal,qvk,List.all_eq_true] at hs;exact .agg cs vs hl h1 fun i h h'=>ih i h h' (hs _ (List.getElem_mem _))
 | tup cs vs hl _ ih=>
  intro hs;simp only[AV.scal,qvk,List.all_eq_true] at hs;exact .tup cs vs hl fun i h h'=>ih i h h' (hs _ (List.getElem_mem _))
 | junk v=>intro _;exact .junk v
 | _=>intro hs;simp[AV.scal] at hs
end Am

namespace Am
open Go
variable {P:Program} {w w':World} {C C':Com} {ρ ρ':Rho} {H H':Heap}
def frzD:Nat→Heap→AV→D
 | _,_,.d x=>x
 | _,_,.nils=>.sl []
 | n+1,H,.own b _ off len=>match H b with
  | some blk=>.sl (((blk.rows.drop off).take len).map (·.map (frzD n H)))
  | none=>.bool false
 | _,_,_=>.bool false
def frzOk:Nat→Heap→AV→Bool
 | _,_,.d _=>true
 | _,_,.nils=>true
 | n+1,H,.own b m off len=>match H b with
  | some blk=>decide (blk.rows.length=m)&&decide (off+len≤m)&&((blk.rows.drop off).take len).all (·.all (frzOk n H))
  | none=>false
 | _,_,_=>false
def frzIds:Nat→Heap→AV→List Nat
 | n+1,H,.own b _ off len=>b::(match H b with
  | some blk=>((blk.rows.drop off).take len).flatMap (·.flatMap (frzIds n H))
  | none=>[])
 | _,_,_=>[]
def pinB (b:Blk):Blk:={ b with fz:=true }
def pinH (bs:List Nat) (H:Heap):Heap:=fun b=>if b∈bs then (H b).map pinB else H b
def pinC (bs:List Nat) (H:Heap) (ρ:Rho) (C:Com):Com:=fun r o=>C r o∨∃ b blk s,b∈bs∧H b=some blk∧ρ b=some (r,s)∧o<blk.rows.length*blk.sz
theorem qdlb {bs:List Nat} {b:Nat} {blk:Blk} (h:H b=some blk):∃ fz,pinH bs H b=some { blk with fz }∧(fz=false→blk.fz=false∧b ∉ bs):=by
 unfold pinH
 by_cases hb:b∈bs
 · exact ⟨true,by simp[hb,h,pinB],by simp⟩
 · exact ⟨blk.fz,by simp[hb,h],fun e=>⟨e,hb⟩⟩
theorem qwk {bs:List Nat} {b:Nat} {blk:Blk} (h:pinH bs H b=some blk):∃ blk0,H b=some blk0∧blk = { blk0 with fz:=blk.fz }∧(blk.fz=false→blk0.fz=false∧b ∉ bs)∧(blk.fz=true→blk0.fz=true∨b∈bs):=by
 unfold pinH at h
 by_cases hb:b∈bs
 · simp only[hb,if_true,Option.map_eq_some_iff] at h;obtain ⟨blk0,h0,rfl⟩:=h;exact ⟨blk0,h0,rfl,by simp[pinB],fun _=>.inr hb⟩
 · simp only[hb,if_false] at h;exact ⟨blk,h,rfl,fun e=>⟨e,hb⟩,fun e=>.inl e⟩
theorem ext_pin (bs:List Nat):Ext w C ρ H w (pinC bs H ρ C) ρ (pinH bs H) where
 com _ _ h:=.inl h
 cell _ _ _:=rfl
 blk b blk h:=by
  obtain ⟨fz,g,_⟩:=qdlb (bs:=bs) h;exact ⟨_,g,rfl,Nat.le_refl _,fun _=>rfl⟩
 os:=rfl
 tape:=rfl
 output:=rfl
 size:=Nat.le_refl _
 same _ _ _:=rfl
 rows r ho:=by
  obtain ⟨b,s,hb,hr⟩:=ho;obtain ⟨blk,hb⟩:=Option.isSome_iff_exists.1 hb;obtain ⟨blk0,h0,_⟩:=qwk hb;exact .inl ⟨b,s,by simp[h0],hr⟩
 grow r o h:=by
  rcases h with h|⟨b,blk,s,_,hb,hr,_⟩
  · exact .inl h
  · exact .inr (.inl ⟨b,s,by simp[hb],hr⟩)
theorem qmq (hR:RelH w C ρ H) (bs:List Nat):RelH w (pinC bs H ρ C) ρ (pinH bs H):=by
 have e:=ext_pin (w:=w) (C:=C) (ρ:=ρ) (H:=H) bs
 constructor
 · intro b blk hb;obtain ⟨blk0,h0,hbk,hf,ht⟩:=qwk hb;have hp:=hR.blk b blk0 h0;unfold BlkOK at hp ⊢;rw[hbk];cases hr:ρ b with
   | none=>rw[hr] at hp;exact hp
   | some p=>
    obtain ⟨r,s⟩:=p;rw[hr] at hp;obtain ⟨⟨cs,lo,hi,h1,h2,h3,h4,h5,h6,h7⟩,h8,h9⟩:=hp;refine ⟨⟨cs,lo,hi,h1,h2,fun g=>h3 (hf g).1,fun g=>h4 (hf g).1,h5,h6,fun i j hi hj=>?_⟩,?_,?_⟩
    · obtain ⟨v,g1,g2,g3⟩:=h7 i j hi hj;exact ⟨v,g1,g2,g3.mono e⟩
    · intro hfz o hc;obtain ⟨g1,g2⟩:=hf hfz;rcases hc with hc|⟨b',blk',s',hb',hH',hr',_⟩
      · exact h8 g1 o hc
      · refine hR.dis b b' r s s' (fun e=>g2 (e ▸ hb')) (by simp[h0]) (by simp[hH']) hr hr'
    · intro hfz o ho;rcases ht hfz with g|g
      · exact .inl (h9 g o ho)
      · exact .inr ⟨b,blk0,s,g,h0,hr,ho⟩
 · intro b b' r s s' hne hb hb' hr hr';obtain ⟨x,hx⟩:=Option.isSome_iff_exists.1 hb;obtain ⟨y,hy⟩:=Option.isSome_iff_exists.1 hb';obtain ⟨x0,hx0,_⟩:=qwk hx;obtain ⟨y0,hy0,_⟩:=qwk hy;exact hR.dis b b' r s s' hne (by simp[hx0]) (by simp[hy0]) hr hr'
 · intro r o hc;rcases hc with hc|⟨b,blk,s,_,hb,hr,ho⟩
   · exact hR.com r o hc
   · obtain ⟨cs,lo,hi,m1,m2,m3,m4,f1,f2,f3⟩:=qig hR hb hr;refine ⟨cs[o]'(by omega),?_⟩
     rw[qsb,m1];simp
theorem qkgb (hR:RelH w C ρ H) {C1:Com} (hC:∀ r o,C r o→C1 r o):∀ (n:Nat) (x:AV) (v:Value),RepA w C ρ H x v→frzOk n H x=true→
 (∀ b blk r s,b∈frzIds n H x→H b=some blk→ρ b=some (r,s)→∀ o,o<blk.rows.length*blk.sz→C1 r o)→RepD w C1 (frzD n H x) v:=by
 intro n
 induction n with
 | zero=>
  intro x v hx hok _;cases hx with
  | d z v h=>exact h.mono hC fun _ _ _=>rfl
  | nils=>exact .nil
  | _=>simp[frzOk] at hok
 | succ n ih=>
  intro x v hx hok hid;cases hx with
  | d z v h=>exact h.mono hC fun _ _ _=>rfl
  | nils=>exact .nil
  | own b m off len v blk hb hn h1 hp=>
   simp only[frzOk,hb,Bool.and_eq_true,decide_eq_true_eq,List.all_eq_true] at hok;obtain ⟨⟨k1,k2⟩,k3⟩:=hok;simp only[frzIds,hb,List.mem_cons,List.mem_flatMap] at hid;simp only[frzD,hb];have hlen:((blk.rows.drop off).take len).length=len:=by simp;omega
   rcases hp k1 with ⟨r0,s0,cap,hr0,rfl,hlc,hcs,hol⟩|⟨_,_,rfl,rfl⟩
   · obtain ⟨cs,lo,hi,m1,m2,m3,m4,f1,f2,f3⟩:=qig hR hb hr0;have hg:∀ i (hi:i<len),((blk.rows.drop off).take len)[i]'(by omega)=blk.rows[off+i]'(by omega):=fun i hi=>by simp
     have hch:∀ i j,∃ v,∀ (hi:i<len) (hj:j<(blk.rows[off+i]'(by omega)).length),w.cell? ⟨r0,(off+i)*blk.sz+j,none⟩ = some v∧v.oneCell' = true∧RepA w C ρ H ((blk.rows[off+i]'(by omega))[j]) v:=by
      intro i j
      by_cases hi:i<len
      · by_cases hj:j<(blk.rows[off+i]'(by omega)).length
        · obtain ⟨v,hv⟩:=qox hR hb hr0 (i:=off+i) (j:=j) (by omega) hj
          exact ⟨v,fun _ _=>hv⟩
        · exact ⟨undef,fun _ h=>absurd h hj⟩
      · exact ⟨undef,fun h=>absurd h hi⟩
     have hch':∃ f:Nat→Nat→Value,∀ i j (hi:i<len) (hj:j<(blk.rows[off+i]'(by omega)).length),w.cell? ⟨r0,(off+i)*blk.sz+j,none⟩ = some (f i j)∧(f i j).oneCell' = true∧RepA w C ρ H ((blk.rows[off+i]'(by omega))[j]) (f i j):=by
      have h2:=fun i=>Classical.axiomOfChoice (hch i)
      obtain ⟨f,hf⟩:=Classical.axiomOfChoice h2;exact ⟨f,fun i j=>hf i j⟩
     obtain ⟨f,hf⟩:=hch'
     have hxl:(((blk.rows.drop off).take len).map (·.map (frzD n H))).length=len:=by rw[List.length_map,hlen]
     have e1:∀ i j,off*blk.sz+i*blk.sz+j=(off+i)*blk.sz+j:=fun i j=>by rw[Nat.add_mul]
     have hfin:=RepD.sl (w:=w) (C:=C1) (((blk.rows.drop off).take len).map (·.map (frzD n H))) r0 (off*blk.sz) cap blk.sz f (by rw[hxl];exact hlc) ?_ ?_ ?_ ?_
     · rw[hxl] at hfin;exact hfin
     · intro i hi;rw[hxl] at hi;simp only[List.getElem_map,List.length_map,hg i hi];exact f2 _ _
     · intro i j hi hj;rw[hxl] at hi;refine hid b blk r0 s0 (.inl rfl) hb hr0 _ ?_;have:(off+i+1)*blk.sz≤blk.rows.length*blk.sz:=Nat.mul_le_mul_right _ (by omega)
       rw[Nat.add_mul (off+i),Nat.one_mul] at this;rw[e1];omega
     · intro i j hi hj;rw[hxl] at hi;obtain ⟨g1,g2,_⟩:=hf i j hi (by rw[f2 (off+i) (by omega)];exact hj)
       rw[e1];exact ⟨g1,g2⟩
     · intro i j hi hj;rw[hxl] at hi;simp only[List.getElem_map,List.length_map,hg i hi] at hj ⊢
       have hrow:blk.rows[off+i]'(by omega)∈(blk.rows.drop off).take len:=by
        rw[← hg i hi];exact List.getElem_mem _
       refine ih _ _ (hf i j hi hj).2.2 (k3 _ hrow _ (List.getElem_mem _)) fun b' blk' r' s' hb'=>hid b' blk' r' s' (.inr ⟨_,hrow,_,List.getElem_mem _,hb'⟩)
   · simp;exact .nil
  | _=>simp[frzOk] at hok
def frz1 (H:Heap):AV→AV
 | .own b n off len=>.d (frzD 3 H (.own b n off len))
 | .nils=>.d (.sl [])
 | x=>x
def frzA (H:Heap):AV→AV
 | .agg cs=>.agg (cs.map (frz1 H))
 | x=>frz1 H x
def frz1Ok (H:Heap):AV→Bool
 | .own b n off len=>frzOk 3 H (.own b n off len)
 | _=>true
def frzAOk (H:Heap):AV→Bool
 | .agg cs=>cs.all (frz1Ok H)
 | x=>frz1Ok H x
def frz1Ids (H:Heap):AV→List Nat
 | .own b n off len=>frzIds 3 H (.own b n off len)
 | _=>[]
def frzAIds (H:Heap):AV→List Nat
 | .agg cs=>cs.flatMap (frz1Ids H)
 | x=>frz1Ids H x
theorem qga (hR:RelH w C ρ H) {bs:List Nat} {x:AV} {v:Value} (hx:RepA w C ρ H x v) (hok:frz1Ok H x=true) (hbs:∀ b∈frz1Ids H x,b∈bs) :
 RepA w (pinC bs H ρ C) ρ (pinH bs H) (frz1 H x) v:=by
 cases x with
 | own b n off len=>
  refine .d _ _ (qkgb hR (fun _ _ h=>.inl h) 3 _ v hx hok fun b' blk r s hb' hH hr o ho=>.inr ⟨b',blk,s,hbs b' hb',hH,hr,ho⟩)
 | nils=>cases hx;exact .d _ _ .nil
 | _=>exact hx.mono (ext_pin bs)
theorem quz (hR:RelH w C ρ H) {bs:List Nat} {x:AV} {v:Value} (hx:RepA w C ρ H x v) (hok:frzAOk H x=true) (hbs:∀ b∈frzAIds H x,b∈bs) :
 RepA w (pinC bs H ρ C) ρ (pinH bs H) (frzA H x) v:=by
 cases x with
 | agg cs=>
  cases hx with
  | agg _ vs hl h1 h=>
  simp only[frzAOk,List.all_eq_true] at hok;simp only[frzAIds,List.mem_flatMap] at hbs;refine .agg _ vs (by simpa using hl) h1 fun i hi hi'=>?_
  simp only[List.getElem_map];exact qga hR (h i (by simpa using hi) hi') (hok _ (List.getElem_mem _)) fun b hb=>hbs b ⟨_,List.getElem_mem _,hb⟩
 | _=>exact qga hR hx hok hbs
end Am

namespace Am
open Go
variable {P:Program} {w w':World} {C C':Com} {ρ ρ':Rho} {H H':Heap}
theorem qqs (hs:List (Nat × Blk)):∀ (H:Heap) (b:Nat),updsH H hs b=match (hs.reverse.find? (fun p=>p.1 == b)) with|some p=>some p.2|none=>H b:=by
 induction hs with
 | nil=>intro H b;rfl
 | cons p hs ih=>
  intro H b;simp only[updsH,ih,List.reverse_cons,List.find?_append];cases hf:hs.reverse.find? (fun p=>p.1 == b) with
  | some q=>simp
  | none=>
   simp only[Option.none_or,List.find?_cons,List.find?_nil]
   by_cases hp:p.1=b
   · subst hp;simp[updH]
   · have:(p.1 == b)=false:=by simpa using hp
     simp only[this,updH];rw[if_neg (fun e=>hp e.symm)]
def outHs (m:Nat→Nat) (Hout:List Blk):List (Nat × Blk):=(List.range Hout.length).map fun i=>(m i,(Hout.getD i ⟨true,false,0,0,[]⟩).ren m)
theorem qxs {m:Nat→Nat} {Hout:List Blk} (hm:∀ i j,i<Hout.length→j<Hout.length→m i=m j→i=j) (H:Heap) :
 (∀ i (h:i<Hout.length),updsH H (outHs m Hout) (m i)=some ((Hout[i]).ren m))∧∀ b,(∀ i,i<Hout.length→m i≠b)→updsH H (outHs m Hout) b=H b:=by
 constructor
 · intro i hi;rw[qqs]
   have hx:((outHs m Hout).reverse.find? (fun p=>p.1 == m i)).isSome=true:=by
    rw[List.find?_isSome];exact ⟨(m i,(Hout.getD i ⟨true,false,0,0,[]⟩).ren m),by simp only[List.mem_reverse,outHs,List.mem_map,List.mem_range];exact ⟨i,hi,rfl⟩,by simp⟩
   obtain ⟨q,hq⟩:=Option.isSome_iff_exists.1 hx;rw[hq];have h1:=List.find?_some hq;have h2:=List.mem_of_find?_eq_some hq;simp only[List.mem_reverse,outHs,List.mem_map,List.mem_range] at h2;obtain ⟨j,hj,rfl⟩:=h2;simp at h1;have:=hm j i hj hi h1;subst this;simp[List.getElem?_eq_getElem hi]
 · intro b hb;rw[qqs]
   have:(outHs m Hout).reverse.find? (fun p=>p.1 == b)=none:=by
    rw[List.find?_eq_none];intro p hp;simp only[List.mem_reverse,outHs,List.mem_map,List.mem_range] at hp;obtain ⟨i,hi,rfl⟩:=hp
    simpa using hb i hi
   rw[this]
structure CallOK (m:Nat→Nat) (Hin Hout:List Blk) (H:Heap):Prop where
 inj:∀ i j,i<Hout.length→j<Hout.length→m i=m j→i=j
 len:Hin.length≤Hout.length
 old:∀ i (h:i<Hin.length),H (m i)=some ((Hin[i]).ren m)
 new:∀ i,Hin.length≤i→i<Hout.length→H (m i)=none
 inK:∀ i (h:i<Hin.length),∀ row∈(Hin[i]).rows,row.all (AV.inK Hin.length)=true
theorem qxa {G:Glob} (hG:GlobOK G w C) (hR:RelH w C ρ H) {m:Nat→Nat} {Hin Hout:List Blk} {f:FuncId} {args:List AV} {r:AV} {vs:List Value} (hc:CC P G f Hin args Hout r) (ho:CallOK m Hin Hout H)
 (hk:∀ x∈args,x.inK Hin.length=true) (hv:RepAll w C ρ H (args.map (AV.ren m)) vs) :
 Calls P f ⟨vs⟩ w fun e w'=>∃ v C' ρ',e = .returned v∧RelH w' C' ρ' (updsH H (outHs m Hout))∧Ext w C ρ H w' C' ρ' (updsH H (outHs m Hout))∧RepA w' C' ρ' (updsH H (outHs m Hout)) (r.ren m) v:=by
 obtain ⟨hout1,hout2⟩:=qxs ho.inj H;have hlen:=ho.len
 let ρ0:Rho:=fun b=>if b<Hin.length then ρ (m b) else none
 have hH0:∀ b,b<Hin.length→∃ blk,hOf Hin b=some blk∧H (m b)=some (blk.ren m):=fun b hb=>⟨Hin[b],by simp[hOf,hb],ho.old b hb⟩
 have hρ0:∀ b,b<Hin.length→ρ0 b=ρ (m b):=fun b hb=>by simp[ρ0,hb]
 have hsome:∀ b,(hOf Hin b).isSome=true→b<Hin.length:=fun b hb=>by
  obtain ⟨x,hx⟩:=Option.isSome_iff_exists.1 hb;exact (List.getElem?_eq_some_iff.1 hx).1
 have hR0:RelH w C ρ0 (hOf Hin):=by
  constructor
  · intro b blk hb;obtain ⟨hbl,rfl⟩:=List.getElem?_eq_some_iff.1 hb;have hp:=hR.blk _ _ (ho.old b hbl);unfold BlkOK at hp ⊢;rw[hρ0 b hbl];cases hr:ρ (m b) with
    | none=>rw[hr] at hp;simpa [Blk.ren] using hp
    | some p=>
     obtain ⟨r,s⟩:=p;rw[hr] at hp;obtain ⟨⟨cs,lo,hi,h1,h2,h3,h4,h5,h6,h7⟩,h8,h9⟩:=hp;refine ⟨⟨cs,lo,hi,h1,h2,h3,h4,by simpa [Blk.ren] using h5,fun i hi=>?_,fun i j hi hj=>?_⟩,h8,by simpa [Blk.ren] using h9⟩
     · have:=h6 i (by simpa [Blk.ren] using hi)
       simpa [Blk.ren] using this
     · obtain ⟨v,g1,g2,g3⟩:=h7 i j (by simpa [Blk.ren] using hi) (by simpa [Blk.ren] using hj)
       refine ⟨v,g1,g2,?_⟩;simp only[Blk.ren,List.getElem_map] at g3;have hin:=ho.inK b hbl _ (List.getElem_mem hi);simp only[List.all_eq_true] at hin;exact qjq hH0 hρ0 g3 _ rfl (hin _ (List.getElem_mem _))
  · intro b b' r s s' hne hb hb' hr hr';have h1:=hsome b hb;have h2:=hsome b' hb';rw[hρ0 b h1] at hr;rw[hρ0 b' h2] at hr';exact hR.dis (m b) (m b') r s s' (fun e=>hne (ho.inj b b' (by omega) (by omega) e)) (by simp[ho.old b h1]) (by simp[ho.old b' h2]) hr hr'
  · exact hR.com
 have hv0:RepAll w C ρ0 (hOf Hin) args vs:=by
  obtain ⟨h1,h2⟩:=hv;refine ⟨by simpa using h1,fun i h h'=>?_⟩
  have:=h2 i (by simpa using h) h'
  simp only[List.getElem_map] at this;exact qjq hH0 hρ0 this _ rfl (hk _ (List.getElem_mem _))
 refine (hc.2 w C ρ0 vs hR0 hG hv0).mono ?_;rintro e w1 ⟨v,C1,ρ1,rfl,hR1,e1,hr1⟩
 have own0:∀ r,OwnRow ρ0 (hOf Hin) r→OwnRow ρ H r∧∃ i s,i<Hin.length∧ρ (m i)=some (r,s):=by
  rintro r ⟨b,s,hb,hr⟩;have h1:=hsome b hb;rw[hρ0 b h1] at hr;exact ⟨⟨m b,s,by simp[ho.old b h1],hr⟩,b,s,h1,hr⟩
 have hmem:∀ b,(∃ i,i<Hout.length∧m i=b)∨∀ i,i<Hout.length→m i≠b:=fun b=>by
  by_cases h:∃ i,i<Hout.length∧m i=b
  · exact .inl h
  · exact .inr fun i hi e=>h ⟨i,hi,e⟩
 obtain ⟨ρ2,hρ2a,hρ2b⟩:∃ ρ2:Rho,(∀ i,i<Hout.length→ρ2 (m i)=ρ1 i)∧∀ b,(∀ i,i<Hout.length→m i≠b)→ρ2 b=ρ b:=by
  have hch:∀ b,∃ p,(∀ i,i<Hout.length→m i=b→p=ρ1 i)∧((∀ i,i<Hout.length→m i≠b)→p=ρ b):=by
   intro b;rcases hmem b with ⟨i,hi,rfl⟩|hn
   · exact ⟨ρ1 i,fun j hj e=>by rw[ho.inj j i hj hi e],fun h=>absurd rfl (h i hi)⟩
   · exact ⟨ρ b,fun i hi e=>absurd e (hn i hi),fun _=>rfl⟩
  obtain ⟨f,hf⟩:=Classical.axiomOfChoice hch;exact ⟨f,fun i hi=>(hf (m i)).1 i hi rfl,fun b hb=>(hf b).2 hb⟩
 have hup:∀ b blk,hOf Hout b=some blk→updsH H (outHs m Hout) (m b)=some (blk.ren m)∧ρ2 (m b)=ρ1 b:=by
  intro b blk hb;obtain ⟨hbl,rfl⟩:=List.getElem?_eq_some_iff.1 hb;exact ⟨hout1 b hbl,hρ2a b hbl⟩
 have eX:Ext w C ρ H w1 C1 ρ2 (updsH H (outHs m Hout)):=by
  refine ⟨e1.com,e1.cell,?_,e1.os,e1.tape,e1.output,e1.size,fun r hr hn=>e1.same r hr fun ho'=>hn (own0 r ho').1,?_,?_⟩
  · intro b blk hb;rcases hmem b with ⟨i,hi,rfl⟩|hn
    · by_cases hi0:i<Hin.length
      · rw[ho.old i hi0] at hb;cases hb;obtain ⟨blk',g1,g2,g3,g4⟩:=e1.blk i Hin[i] (by simp[hOf,hi0])
        obtain ⟨q1,q2⟩:=hup i blk' g1;refine ⟨_,q1,by simpa [Blk.ren] using g2,by simpa [Blk.ren] using g3,fun e=>?_⟩
        rw[q2,g4 (by simpa [Blk.ren] using e),hρ0 i hi0]
      · rw[ho.new i (by omega) hi] at hb;simp at hb
    · exact ⟨blk,by rw[hout2 b hn];exact hb,rfl,Nat.le_refl _,fun _=>hρ2b b hn⟩
  · rintro r ⟨b,s,hb,hr⟩;rcases hmem b with ⟨i,hi,rfl⟩|hn
    · rw[hρ2a i hi] at hr;rcases e1.rows r ⟨i,s,by simp[hOf,hi],hr⟩ with g|g
      · exact .inl (own0 r g).1
      · exact .inr g
    · rw[hρ2b b hn] at hr;rw[hout2 b hn] at hb;exact .inl ⟨b,s,hb,hr⟩
  · intro r o hcc;rcases e1.grow r o hcc with g|g|g
    · exact .inl g
    · exact .inr (.inl (own0 r g).1)
    · exact .inr (.inr g)
 have hoth:∀ b r s,(∀ i,i<Hout.length→m i≠b)→(H b).isSome=true→ρ b=some (r,s)→¬ OwnRow ρ0 (hOf Hin) r:=by
  intro b r s hn hb hr how;obtain ⟨_,i,s',hi,hr'⟩:=own0 r how;exact hR.dis b (m i) r s s' (fun e=>hn i (by omega) e.symm) hb (by simp[ho.old i hi]) hr hr'
 refine ⟨v,C1,ρ2,rfl,⟨?_,?_,hR1.com⟩,eX,qgy hup hr1⟩
 · intro b blk hb;rcases hmem b with ⟨i,hi,rfl⟩|hn
   · rw[hout1 i hi] at hb;cases hb;have hp:=hR1.blk i Hout[i] (by simp[hOf,hi])
     unfold BlkOK at hp ⊢;rw[hρ2a i hi];cases hr:ρ1 i with
     | none=>rw[hr] at hp;simpa [Blk.ren] using hp
     | some p=>
      obtain ⟨r',s⟩:=p;rw[hr] at hp;obtain ⟨⟨cs,lo,hi',h1,h2,h3,h4,h5,h6,h7⟩,h8,h9⟩:=hp;refine ⟨⟨cs,lo,hi',h1,h2,h3,h4,by simpa [Blk.ren] using h5,fun k hk=>?_,fun k j hk hj=>?_⟩,h8,by simpa [Blk.ren] using h9⟩
      · simp only[Blk.ren,List.length_map] at hk;simp only[Blk.ren,List.getElem_map,List.length_map];exact h6 k hk
      · simp only[Blk.ren,List.length_map] at hk;simp only[Blk.ren,List.getElem_map,List.length_map] at hj ⊢;obtain ⟨u,g1,g2,g3⟩:=h7 k j hk hj;exact ⟨u,g1,g2,qgy hup g3⟩
   · rw[hout2 b hn] at hb;refine (hR.blk b blk hb).ext eX (hρ2b b hn) (fun r' s hr'=>e1.same r' (hR.row_lt ⟨b,s,by simp[hb],hr'⟩) (hoth b r' s hn (by simp[hb]) hr')) fun r' s hr' hf o hcc=>?_
     rcases e1.grow r' o hcc with g|g|g
     · exact g
     · exact absurd g (hoth b r' s hn (by simp[hb]) hr')
     · have:=hR.row_lt ⟨b,s,by simp[hb],hr'⟩;omega
 · intro b b' r' s s' hne hb hb' hr hr';rcases hmem b with ⟨i,hi,rfl⟩|hn
   · rw[hρ2a i hi] at hr;rcases hmem b' with ⟨j,hj,rfl⟩|hn'
     · rw[hρ2a j hj] at hr';exact hR1.dis i j r' s s' (fun e=>hne (by rw[e])) (by simp[hOf,hi]) (by simp[hOf,hj]) hr hr'
     · rw[hρ2b b' hn'] at hr';rw[hout2 b' hn'] at hb';rcases e1.rows r' ⟨i,s,by simp[hOf,hi],hr⟩ with g|g
       · exact hoth b' r' s' hn' hb' hr' g
       · have:=hR.row_lt ⟨b',s',hb',hr'⟩;omega
   · rw[hρ2b b hn] at hr;rw[hout2 b hn] at hb;rcases hmem b' with ⟨j,hj,rfl⟩|hn'
     · rw[hρ2a j hj] at hr';rcases e1.rows r' ⟨j,s',by simp[hOf,hj],hr'⟩ with g|g
       · exact hoth b r' s hn hb hr g
       · have:=hR.row_lt ⟨b,s,hb,hr⟩;omega
     · rw[hρ2b b' hn'] at hr';rw[hout2 b' hn'] at hb';exact hR.dis b b' r' s s' hne hb hb' hr hr'
end Am

namespace Am
open Go
variable {P:Program} {w w':World} {C C':Com} {ρ ρ':Rho} {H H':Heap}
def undefA:AV:=.d (.raw (.tuple #[]))
def calleeOf:AV→Option (FuncId × List AV × List AV)
 | .d (.raw (.func (.func f) ⟨[]⟩ ⟨[]⟩))=>some (f,[],[])
 | .clo (.func f) a b=>some (f,a,b)
 | _=>none
def avs1 (keep:Bool) (H:Heap) (l:List AV):List AV:=if keep then l else l.map (frzA H)
def avIds (keep:Bool) (H:Heap) (l:List AV):List Nat:=if keep then [] else l.flatMap (frzAIds H)
def avOk (keep:Bool) (H:Heap) (l:List AV):Bool:=keep || l.all (frzAOk H)
def pinHs (bs:List Nat) (H:Heap):List (Nat × Blk):=bs.filterMap fun b=>(H b).map fun blk=>(b,pinB blk)
structure CallStep (P:Program) (G:Glob) (id:Nat) (H:Heap) (f:FuncId) (avs:List AV) (r:Res) (keep pin ro:Bool) (m:Nat→Nat) (Hin:List Blk) (args':List AV) (Hout:List Blk) (r':AV):Prop where
 cc:CC P G f Hin args' Hout r'
 ok:avOk keep H avs=true
 args:args'.map (AV.ren m)=avs1 keep H avs
 inK:args'.all (AV.inK Hin.length)=true
 call:CallOK m Hin Hout (pinH (avIds keep H avs) H)
 newId:∀ i,Hin.length≤i→i<Hout.length→m i=id
 pins:pin=true∨avIds keep H avs=[]∨(Hin=[]∧Hout=[]∧r'.scal=true)
 same:ro=true→Hout=Hin
 v:r.v=r'.ren m
 hs:r.hs=(if pin then pinHs (avIds keep H avs) H else [])++(if ro then [] else outHs m Hout)
 rb:r.rb=avIds keep H avs++(List.range Hin.length).map m
def OpStep (P:Program) (G:Glob) (id:Nat) (ev:Operand→AV) (H:Heap) (op:Op) (r:Res):Prop:=
 execA P id ev H op=some r∨
 ∃ callee args ats f first caps keep pin ro m Hin args' Hout r',op = .call { callee:=.value callee,args,argTypes:=ats }∧calleeOf (ev callee)=some (f,first,caps)∧
  CallStep P G id H f (first++args.toList.map ev++caps) r keep pin ro m Hin args' Hout r'
theorem qjk (l l':List (Nat × Blk)):∀ H:Heap,updsH H (l++l')=updsH (updsH H l) l':=by
 induction l with
 | nil=>intro H;rfl
 | cons p l ih=>intro H;exact ih _
theorem qbbb (bs:List Nat):∀ (H:Heap) (G:Heap),(∀ b,G b=H b∨(∃ blk,H b=some blk∧G b=some (pinB blk)))→
 updsH G (pinHs bs H)=fun b=>if b∈bs then (H b).map pinB else G b:=by
 induction bs with
 | nil=>intro H G _;funext b;simp[pinHs,updsH]
 | cons c bs ih=>
  intro H G hG
  funext b
  cases hc:H c with
  | none=>
   have e:pinHs (c::bs) H=pinHs bs H:=by simp[pinHs,hc]
   rw[e,ih H G hG]
   by_cases hb:b=c
   · subst hb;simp only[List.mem_cons,true_or,if_true,hc,Option.map_none];rcases hG b with h|⟨blk,h,_⟩
     · rw[h,hc];simp
     · rw[hc] at h;simp at h
   · simp[hb]
  | some blk=>
   have e:pinHs (c::bs) H=(c,pinB blk)::pinHs bs H:=by simp[pinHs,hc]
   rw[e];simp only[updsH]
   rw[ih H (updH G c (pinB blk)) (fun x=>by
    by_cases hx:x=c
    · subst hx;exact .inr ⟨blk,hc,qt ..⟩
    · rw[qj _ _ hx];exact hG x)]
   by_cases hb:b=c
   · subst hb;simp only[List.mem_cons,true_or,if_true,hc,qt,Option.map_some]
     split<;>rfl
   · simp only[List.mem_cons,hb,false_or];rw[qj _ _ hb]
theorem qtm (bs:List Nat) (H:Heap):updsH H (pinHs bs H)=pinH bs H:=by
 rw[qbbb bs H H (fun _=>.inl rfl)]
 rfl
theorem qdcb {m:Nat→Nat} {Hin Hout:List Blk} (ho:CallOK m Hin Hout H) (he:Hout=Hin):updsH H (outHs m Hout)=H:=by
 subst he;obtain ⟨h1,h2⟩:=qxs ho.inj H
 funext b
 by_cases h:∃ i,i<Hout.length∧m i=b
 · obtain ⟨i,hi,rfl⟩:=h;rw[h1 i hi,ho.old i hi]
 · exact h2 b fun i hi e=>h ⟨i,hi,e⟩
def Next1 (w:World) (C:Com) (ρ:Rho) (H:Heap) (r:Res) (next:Value→World→Prop):Prop:=
 ∀ w' C' ρ' v,RelH w' C' ρ' (updsH H r.hs)→Ext w C ρ H w' C' ρ' (updsH H r.hs)→RepA w' C' ρ' (updsH H r.hs) r.v v→next v w'
theorem qgn {G:Glob} {id:Nat} (hG:GlobOK G w C) (hR:RelH w C ρ H) {f:FuncId} {avs:List AV} {r:Res} {keep pin ro:Bool} {m:Nat→Nat} {Hin:List Blk} {args':List AV} {Hout:List Blk} {r':AV}
 (hs:CallStep P G id H f avs r keep pin ro m Hin args' Hout r') {vs:List Value} (hv:RepAll w C ρ H avs vs) {K:Ending→World→Prop}
 (hK:Next1 w C ρ H r fun v w'=>K (.returned v) w'):Calls P f ⟨vs⟩ w K:=by
 have hR1:=qmq hR (avIds keep H avs);have hG1:GlobOK G w (pinC (avIds keep H avs) H ρ C):=hG.mono (fun _ _ h=>.inl h) fun _ _ _=>rfl
 have hv1:RepAll w (pinC (avIds keep H avs) H ρ C) ρ (pinH (avIds keep H avs) H) (args'.map (AV.ren m)) vs:=by
  rw[hs.args];have hok:=hs.ok;obtain ⟨g1,g2⟩:=hv;cases keep with
  | true=>exact ⟨g1,fun i h h'=>(g2 i h h').mono (ext_pin _)⟩
  | false=>
   simp only[avs1,Bool.false_eq_true,if_false];simp only[avOk,Bool.false_or,List.all_eq_true] at hok;refine ⟨by simpa using g1,fun i h h'=>?_⟩
   simp only[List.getElem_map];have hi:i<avs.length:=by simpa using h
   refine quz hR (g2 i hi h') (hok _ (List.getElem_mem hi)) fun b hb=>?_
   simp only[avIds,Bool.false_eq_true,if_false,List.mem_flatMap];exact ⟨_,List.getElem_mem hi,hb⟩
 have hk:∀ x∈args',x.inK Hin.length=true:=by have:=hs.inK;simpa [List.all_eq_true] using this
 by_cases hp:pin=true∨avIds keep H avs=[]
 · refine (qxa hG1 hR1 hs.cc hs.call hk hv1).mono ?_;rintro e w1 ⟨v,C1,ρ1,rfl,k1,k2,k3⟩
   have eH:updsH H r.hs=updsH (pinH (avIds keep H avs) H) (outHs m Hout):=by
    rw[hs.hs,qjk]
    have e1:updsH H (if pin=true then pinHs (avIds keep H avs) H else [])=pinH (avIds keep H avs) H:=by
     rcases hp with rfl|hp
     · simp only[if_true];exact qtm _ _
     · have:pinH (avIds keep H avs) H=H:=by rw[hp];funext b;simp[pinH]
       rw[this,hp];cases pin<;>rfl
    rw[e1];cases hro:ro with
    | false=>simp
    | true=>simp only[if_true,updsH];exact (qdcb hs.call (hs.same hro)).symm
   refine hK w1 C1 ρ1 v (by rw[eH];exact k1) (by rw[eH];exact (ext_pin _).trans k2) (by rw[eH,hs.v];exact k3)
 · have hpin:pin=false:=by cases pin<;>simp_all
   obtain ⟨rfl,rfl,hsc⟩:Hin=[]∧Hout=[]∧r'.scal=true:=by
    rcases hs.pins with h|h|h
    · exact absurd (.inl h) hp
    · exact absurd (.inr h) hp
    · exact h
   have hR0:RelH w (pinC (avIds keep H avs) H ρ C) (fun _=>none) (hOf []):=
    ⟨fun b blk hb=>by simp[hOf] at hb,fun b b' r s s' _ hb=>by simp[hOf] at hb,hR1.com⟩
   have hv0:RepAll w (pinC (avIds keep H avs) H ρ C) (fun _=>none) (hOf []) args' vs:=by
    obtain ⟨g1,g2⟩:=hv1;refine ⟨by simpa using g1,fun i h h'=>?_⟩
    have:=g2 i (by simpa using h) h'
    simp only[List.getElem_map] at this;exact qjq (k:=0) (fun b hb=>absurd hb (Nat.not_lt_zero b)) (fun b hb=>absurd hb (Nat.not_lt_zero b)) this _ rfl (hk _ (List.getElem_mem _))
   refine (hs.cc.2 w _ _ vs hR0 hG1 hv0).mono ?_;rintro e w1 ⟨v,C1,ρ1,rfl,k1,k2,k3⟩;have hold:∀ q,q<w.heap.size→w1.heap[q]? = w.heap[q]?:=fun q hq=>k2.same q hq fun ⟨b,s,hb,_⟩=>by simp[hOf] at hb
   have eX:Ext w C ρ H w1 C ρ H:=
    ⟨fun _ _ h=>h,fun q o hc=>qpb (hold q (hR.com_lt hc)),fun b blk hb=>⟨blk,hb,rfl,Nat.le_refl _,fun _=>rfl⟩,k2.os,k2.tape,k2.output,k2.size,fun q hq _=>hold q hq,fun q h=>.inl h,fun q o h=>.inl h⟩
   have ehs:r.hs=[]:=by
    have h:=hs.hs;rw[hpin] at h;rw[h];cases ro<;>rfl
   refine hK w1 C ρ v ?_ ?_ ?_
   · rw[ehs];refine ⟨fun b blk hb=>(hR.blk b blk hb).ext eX rfl (fun q s hq=>hold q (hR.row_lt ⟨b,s,by simp[show H b=some blk from hb],hq⟩)) (fun _ _ _ _ _ h=>h),hR.dis,fun q o hc=>?_⟩
     obtain ⟨u,hu⟩:=hR.com q o hc;exact ⟨u,by rw[eX.cell q o hc];exact hu⟩
   · rw[ehs];exact eX
   · rw[ehs,hs.v];have hren:r'.ren m=r'∨True:=.inr trivial;have k4:RepA w1 C1 ρ1 (hOf []) r' v:=k3
     have:RepA w1 C ρ H (r'.ren m) v:=by
      have k5:RepA w1 C ρ (hOf []) r' v:=qnpb k4 hsc;exact qgy (fun b blk hb=>by simp[hOf] at hb) k5
     exact this
theorem qbn {x:AV} {v:Value} {f:FuncId} {first caps:List AV} (hx:RepA w C ρ H x v) (h:calleeOf x=some (f,first,caps)) :
 ∃ fv cv,v = .func (.func f) ⟨fv⟩ ⟨cv⟩∧RepAll w C ρ H first fv∧RepAll w C ρ H caps cv:=by
 unfold calleeOf at h
 split at h
 · cases h;have:=qyc hx;cases this;exact ⟨[],[],rfl,⟨rfl,fun i h=>by simp at h⟩,⟨rfl,fun i h=>by simp at h⟩⟩
 · cases h;cases hx with
   | clo _ _ _ fv cv hf hc h1 h2=>exact ⟨fv,cv,rfl,⟨hf,h1⟩,⟨hc,h2⟩⟩
 · simp at h
theorem RepAll.append {l l':List AV} {vs vs':List Value} (h:RepAll w C ρ H l vs) (h':RepAll w C ρ H l' vs'):RepAll w C ρ H (l++l') (vs++vs'):=by
 obtain ⟨a1,a2⟩:=h;obtain ⟨b1,b2⟩:=h';refine ⟨by simp[a1,b1],fun i hi hi'=>?_⟩
 by_cases hl:i<l.length
 · rw[List.getElem_append_left hl,List.getElem_append_left (by omega)]
   exact a2 i hl (by omega)
 · rw[List.getElem_append_right (by omega),List.getElem_append_right (by omega)]
   simp only[a1];exact b2 (i-vs.length) (by simp at hi;omega) (by simp at hi';omega)
def Fe (rd:Option Nat):Fence:={ Fence.wide with round:=rd }
theorem qjob {rd:Option Nat} {n:Nat} {f:FuncId} {args:Array Value} {R:Ending→World→Prop} (h:Calls P f args w R):CallsIn (Fe rd) n P f args w R:=by
 have h1:CallsIn Fence.wide n P f args w R:=callsIn_wide.2 h;cases rd with
 | none=>exact h1
 | some l=>exact CallsIn.inRound l h1
theorem qck {rd:Option Nat} {n:Nat} {G:Glob} (hG:GlobOK G w C) (hR:RelH w C ρ H) {id:Nat} {a:Act} {o:Oper} {ev:Operand→AV} {r:Res} (hid:H id=none) (hev:∀ x,RepA w C ρ H (ev x) (a.eval x))
 (hs:OpStep P G id ev H o.op r) {next:Act→World→Prop} {Q:Exit→Act→World→Prop} (hn:Next1 w C ρ H r fun v w'=>next (a.put o.dst v) w'):o.wpIn (Fe rd) n P a w next Q:=by
 unfold Oper.wpIn;refine ⟨fun _ _=>trivial,?_⟩
 rcases hs with h|⟨callee,args,ats,f,first,caps,keep,pin,ro,m,Hin,args',Hout,r',hop,hcal,hcs⟩
 · have hnd:∀ c,o.op ≠ .defer c:=fun c hc=>by rw[hc] at h;simp[execA] at h
   rw[Oper.semAt_eq _ _ _ hnd];obtain ⟨w',C',ρ',v,hrun,h1,h2,h3⟩:=qow (P:=P) hR hid hev h;have hq:=hn w' C' ρ' v h1 h2 h3;rcases hrun with hrun|⟨hrun,rfl⟩
   · rw[hrun];exact hq
   · rw[hrun];exact hq
 · obtain ⟨fv,cv,hvf,hf1,hc1⟩:=qbn (hev callee) hcal;obtain ⟨⟨fn,hfn,hbody,hname⟩,_⟩:=hcs.cc
   have hargs:RepAll w C ρ H (args.toList.map ev) (args.toList.map a.eval):=
    ⟨by simp,fun i h h'=>by simp only[List.getElem_map];exact hev _⟩
   have hall:=(hf1.append hargs).append hc1
   have hrun:(execOp a.eval o).run P w = .ok (.enter f ⟨fv++args.toList.map a.eval++cv⟩) w:=by
    have e1:(args.map a.eval)=⟨args.toList.map a.eval⟩:=qnf args a.eval;have hbn:fn.body.isNone=false:=by rw[← Option.not_isSome,hbody];rfl
    simp only[execOp,hop,resolve,Deferred.ofValue,hvf,Sem.run_bind,Sem.run_pure,Result.andThen_ok,invoke,callFunc,run_program,hfn,hname,hbn,Bool.false_eq_true,if_false,e1];simp
   rw[Oper.semAt_eq _ _ _ (fun c hc=>by rw[hop] at hc;cases hc),hrun]
   refine ⟨fun h=>by simp[Fe,Fence.wide] at h,qjob ?_⟩
   exact qgn hG hR hcs hall fun w' C' ρ' v g1 g2 g3=>hn w' C' ρ' v g1 g2 g3
end Am

namespace Am
open Go
variable {P:Program} {G:Glob} {w w':World} {C C':Com} {ρ ρ':Rho} {H H':Heap}
structure Sta where
 tm:Nat→AV
 H:Heap
 nx:Nat
 n:Nat
def evA (G:Glob) (tm:Nat→AV):Operand→AV
 | .tmp t=>tm t
 | .const v=>ofVal v
 | .global g=>match G g with|some cs=>.eptr cs|none=>.junk
 | .func f=>.d (.raw (.func (.func f) #[] #[]))
def putT (tm:Nat→AV) (d:Nat) (v:AV):Nat→AV:=fun t=>if t=d then v else tm t
def putO (tm:Nat→AV) (d:Option Nat) (v:AV):Nat→AV:=match d with|some d=>putT tm d v|none=>tm
def dstOK (n:Nat):Option Nat→Prop
 | some d=>d<n
 | none=>True
def nxAfter (nx:Nat):List (Nat × Blk)→Nat
 | []=>nx
 | p::r=>nxAfter (max nx (p.1+1)) r
def Sta.app (s:Sta) (d:Option Nat) (r:Res):Sta:={ s with tm:=putO s.tm d r.v,H:=updsH s.H r.hs,nx:=nxAfter s.nx r.hs }
def Sta.skip (s:Sta) (d:Option Nat):Sta:={ s with tm:=putO s.tm d undefA }
def wantedA (ops:Array Oper) (tm:Nat→AV) (o:Oper):Option Bool:=
 match o.guard with
 | none=>some true
 | some (j,want)=>match (ops[j]?).bind (·.dst) with
  | some d=>match tm d with
   | .d (.bool b)=>some (b == want)
   | .d (.raw (.tuple _))=>some false
   | _=>none
  | none=>some false
structure RelT (tm:Nat→AV) (n:Nat) (H:Heap) (C:Com) (ρ:Rho) (a:Act) (w:World):Prop where
 tm:∀ t,RepA w C ρ H (tm t) (a.tmps.getD t undef)
 size:a.tmps.size=n
 h:RelH w C ρ H
 glob:True
 defers:True
theorem RelT.ev {tm:Nat→AV} {n:Nat} {a:Act} (h:RelT tm n H C ρ a w) (hG:GlobOK G w C) (x:Operand):RepA w C ρ H (evA G tm x) (a.eval x):=by
 cases x with
 | tmp t=>exact h.tm t
 | const v=>exact qvi v
 | global g=>
  simp only[evA];cases hg:G g with
  | none=>exact .junk _
  | some cs=>exact (hG g cs hg).eptr_mono (fun _ _ h=>h) fun _ _ _=>rfl
 | func f=>exact .d _ _ (.raw _)
theorem qld {ops:Array Oper} {tm:Nat→AV} {n:Nat} {a:Act} (h:RelT tm n H C ρ a w) {o:Oper} {b:Bool} (hw:wantedA ops tm o=some b) :
 Region.wanted o (yielded ops a.tmps)=b:=by
 unfold wantedA at hw;unfold Region.wanted;cases hg:o.guard with
 | none=>rw[hg] at hw;simpa using hw
 | some p=>
  obtain ⟨j,want⟩:=p;rw[hg] at hw;simp only at hw ⊢;unfold yielded
  cases hd:(ops[j]?).bind (·.dst) with
  | none=>rw[hd] at hw;simp at hw;simp[← hw]
  | some d=>
   rw[hd] at hw;simp only at hw;have ht:=h.tm d
   split at hw
   · rename_i c hc;rw[hc] at ht;have hv:=qcf ht
     have hlt:a.tmps[d]? = some (.bool c):=by
      unfold Array.getD at hv
      split at hv
      · rename_i hlt;rw[Array.getElem?_eq_getElem hlt];exact congrArg some hv
      · exact absurd hv (by unfold undef;simp)
     simp only[Option.bind_some,hlt]
     simpa using hw
   · rename_i l hc;rw[hc] at ht;have:=qyc ht;generalize hv:a.tmps.getD d undef=v at this;cases this
     have hlt:∀ x,a.tmps[d]? = some x→x = .tuple l:=by
      intro x hx;have hlt:=(Array.getElem?_eq_some_iff.1 hx).1;unfold Array.getD at hv;rw[dif_pos hlt] at hv;rw[Array.getElem?_eq_getElem hlt] at hx;cases hx;exact hv
     simp only[Option.bind_some];cases hx:a.tmps[d]? with
     | none=>simp at hw;simp[← hw]
     | some x=>rw[hlt x hx];simp at hw;simp[← hw]
   · simp at hw
theorem qvz {a:Act} {d:Nat} {v:Value} (hd:d<a.tmps.size) (t:Nat):(a.put (some d) v).tmps.getD t undef=if t=d then v else a.tmps.getD t undef:=by
 simp only[Act.put,Array.getD_eq_getD_getElem?,Array.getElem?_setIfInBounds]
 by_cases h:d=t
 · subst h;simp[hd]
 · rw[if_neg h,if_neg (fun e=>h e.symm)]
theorem RelT.put {tm:Nat→AV} {n:Nat} {a:Act} (h:RelT tm n H C ρ a w) {w1:World} {C1:Com} {ρ1:Rho} {H1:Heap} (hR:RelH w1 C1 ρ1 H1) (e:Ext w C ρ H w1 C1 ρ1 H1)
 {d:Option Nat} (hd:dstOK n d) {av:AV} {v:Value} (hv:RepA w1 C1 ρ1 H1 av v):RelT (putO tm d av) n H1 C1 ρ1 (a.put d v) w1:=by
 cases d with
 | none=>exact ⟨fun t=>(h.tm t).mono e,h.size,hR,trivial,trivial⟩
 | some d=>
  have hd':d<a.tmps.size:=by rw[h.size];exact hd
  refine ⟨fun t=>?_,by simp[Act.put,h.size],hR,trivial,trivial⟩
  rw[qvz hd'];simp only[putO,putT]
  split
  · exact hv
  · exact (h.tm t).mono e
theorem qkbb (hs:List (Nat × Blk)):∀ nx,nx≤nxAfter nx hs∧∀ p∈hs,p.1<nxAfter nx hs:=by
 induction hs with
 | nil=>intro nx;exact ⟨Nat.le_refl _,fun p hp=>by simp at hp⟩
 | cons q hs ih=>
  intro nx;obtain ⟨h1,h2⟩:=ih (max nx (q.1+1));simp only[nxAfter];refine ⟨by omega,fun p hp=>?_⟩
  rcases List.mem_cons.1 hp with rfl|hp
  · omega
  · exact h2 p hp
theorem qkn {hs:List (Nat × Blk)} {b:Nat} (hb:∀ p∈hs,p.1≠b):∀ (H:Heap),updsH H hs b=H b:=by
 induction hs with
 | nil=>intro H;rfl
 | cons q hs ih=>
  intro H;simp only[updsH];rw[ih (fun p hp=>hb p (List.mem_cons_of_mem _ hp)),qj]
  exact fun e=>hb q (List.mem_cons_self ..) e.symm
structure Beg where
 w:World
 C:Com
 ρ:Rho
 Hin:List Blk
 objs:Nat→Option Obj
 nm:Bool
theorem Act.put_defers (a:Act) (d:Option Nat) (v:Value):(a.put d v).defers=a.defers:=by cases d<;>rfl
structure Inv (G:Glob) (B:Beg) (s:Sta) (C:Com) (ρ:Rho) (a:Act) (w:World):Prop where
 rel:RelT s.tm s.n s.H C ρ a w
 nx:∀ b,s.nx≤b→s.H b=none
 ext:Ext B.w B.C B.ρ (hOf B.Hin) w C ρ s.H
 glob:GlobOK G w C
 marks:Marks B.objs B.w.heap.size w a.defers
 nom:B.nm=true→a.defers=[]
def InvE (G:Glob) (B:Beg) (s:Sta) (a:Act) (w:World):Prop:=∃ C ρ,Inv G B s C ρ a w
theorem Inv.bare {B:Beg} {s:Sta} {a:Act} (h:Inv G B s C ρ a w):Inv G B s C ρ { a with defers:=[] } w:=
 ⟨⟨h.rel.tm,h.rel.size,h.rel.h,trivial,trivial⟩,h.nx,h.ext,h.glob,h.marks.bare,fun _=>rfl⟩
theorem ext0_grown (hR:RelH w C ρ H) {row:Option Nat} (hg:w.grownBy w' row) (hrow:∀ r,row=some r→∃ o:Obj,w.heap[r]? = some o∧o.isCells=false):Ext0 w C ρ H w' C ρ H:=
 ⟨fun _ _ h=>h,fun r o h=>by
  obtain ⟨v,hv⟩:=hR.com r o h;rw[hv];exact cell_kept hv hg hrow,fun b blk h=>⟨blk,h,rfl,Nat.le_refl _,fun _=>rfl⟩⟩
theorem Inv.grown {B:Beg} {s:Sta} {a:Act} (hi:Inv G B s C ρ a w) {row:Option Nat} (hg:w.grownBy w' row) (hrow:∀ r,row=some r→B.w.heap.size≤r∧∃ o:Obj,w.heap[r]? = some o∧o.isCells=false)
 (hm:Marks B.objs B.w.heap.size w' a.defers):Inv G B s C ρ a w':=by
 have e:=ext0_grown hi.rel.h hg fun r h=>(hrow r h).2
 have kept:∀ r,OwnRow ρ s.H r→w'.heap[r]? = w.heap[r]?:=fun r ho=>by
  obtain ⟨cs,t,z,hc⟩:=hi.rel.h.row_cells ho;refine hg.block r (Array.getElem?_eq_some_iff.1 hc).1 fun h=>?_
  obtain ⟨_,o,ho,hf⟩:=hrow r h.symm;rw[hc] at ho;cases ho;simp[Obj.isCells] at hf
 refine ⟨⟨fun t=>(hi.rel.tm t).mono0 e,hi.rel.size,⟨fun b blk hb=>?_,hi.rel.h.dis,fun r o h=>?_⟩,trivial,trivial⟩,hi.nx,?_,hi.glob.mono e.com e.cell,hm,hi.nom⟩
 · exact (hi.rel.h.blk b blk hb).ext0 e rfl (fun r s' hr=>kept r ⟨b,s',by rw[hb];rfl,hr⟩) fun _ _ _ _ _ h=>h
 · obtain ⟨v,hv⟩:=hi.rel.h.com r o h;exact ⟨v,by rw[e.cell r o h];exact hv⟩
 · have x:=hi.ext
   exact ⟨x.com,fun r o h=>(e.cell r o (x.com r o h)).trans (x.cell r o h),x.blk,hg.os.trans x.os,hg.tape.trans x.tape,hg.output.trans x.output,Nat.le_trans x.size hg.size,
    fun r hr hn=>(hg.block r (Nat.lt_of_lt_of_le hr x.size) fun h=>by have:=(hrow r h.symm).1;omega).trans (x.same r hr hn),x.rows,x.grow⟩
theorem Inv.app {B:Beg} {s:Sta} {a:Act} (h:Inv G B s C ρ a w) {d:Option Nat} (hd:dstOK s.n d) {r:Res} {w1:World} {C1:Com} {ρ1:Rho} {v:Value}
 (hR:RelH w1 C1 ρ1 (updsH s.H r.hs)) (e:Ext w C ρ s.H w1 C1 ρ1 (updsH s.H r.hs)) (hv:RepA w1 C1 ρ1 (updsH s.H r.hs) r.v v):Inv G B (s.app d r) C1 ρ1 (a.put d v) w1:=by
 refine ⟨h.rel.put hR e hd hv,fun b hb=>?_,h.ext.trans e,h.glob.mono e.com e.cell,(Act.put_defers a d v).symm ▸ h.marks.ext h.rel.h e,fun x=>(Act.put_defers a d v).trans (h.nom x)⟩
 obtain ⟨h1,h2⟩:=qkbb r.hs s.nx;have hb':nxAfter s.nx r.hs≤b:=hb
 show updsH s.H r.hs b=none
 rw[qkn (fun p hp=>by have:=h2 p hp;omega)]
 exact h.nx b (by omega)
theorem Inv.skip {B:Beg} {s:Sta} {a:Act} (h:Inv G B s C ρ a w) {d:Option Nat} (hd:dstOK s.n d):Inv G B (s.skip d) C ρ (a.put d undef) w:=
 ⟨h.rel.put h.rel.h (.refl _ _ _ _) hd (.d _ _ (.raw _)),h.nx,h.ext,h.glob,(Act.put_defers a d undef).symm ▸ h.marks,fun x=>(Act.put_defers a d undef).trans (h.nom x)⟩
def CallK (P:Program) (G:Glob) (id:Nat) (H:Heap) (f:FuncId) (avs:List AV) (K:Res→Prop):Prop:=
 ∃ r keep pin ro m Hin args' Hout r',CallStep P G id H f avs r keep pin ro m Hin args' Hout r'∧K r
def opK (P:Program) (G:Glob) (id:Nat) (ev:Operand→AV) (H:Heap) (op:Op) (K:Res→Prop):Prop:=
 match op with
 | .call { callee:=.value c,args,argTypes:=_ }=>match calleeOf (ev c) with
  | some (f,first,caps)=>CallK P G id H f (first++args.toList.map ev++caps) K
  | none=>False
 | op=>match execA P id ev H op with
  | some r=>K r
  | none=>False
theorem qlz {id:Nat} {ev:Operand→AV} {op:Op} {K:Res→Prop} (h:opK P G id ev H op K):∃ r,OpStep P G id ev H op r∧K r:=by
 unfold opK at h
 split at h
 · rename_i c args ats
   split at h
   · rename_i f first caps hc;obtain ⟨r,keep,pin,ro,m,Hin,args',Hout,r',hs,hk⟩:=h;exact ⟨r,.inr ⟨c,args,ats,f,first,caps,keep,pin,ro,m,Hin,args',Hout,r',rfl,hc,hs⟩,hk⟩
   · exact h.elim
 · split at h
   · rename_i r hr;exact ⟨r,.inl hr,h⟩
   · exact h.elim
def stepK (P:Program) (G:Glob) (ops:Array Oper) (o:Oper) (s:Sta) (K:Sta→Prop):Prop:=
 dstOK s.n o.dst∧
 match wantedA ops s.tm o with
 | some true=>opK P G s.nx (evA G s.tm) s.H o.op fun r=>K (s.app o.dst r)
 | some false=>K (s.skip o.dst)
 | none=>False
def regA (P:Program) (G:Glob) (ops:Array Oper) (K:Sta→Prop):List Oper→Sta→Prop
 | [],s=>K s
 | o::rest,s=>stepK P G ops o s (regA P G ops K rest)
theorem qqn {rd:Option Nat} {n:Nat} {B:Beg} {s:Sta} {a:Act} {ops:Array Oper} {o:Oper} {K:Sta→Prop} (hi:Inv G B s C ρ a w) (h:stepK P G ops o s K)
 {next:Act→World→Prop} {Q:Exit→Act→World→Prop} (hn:∀ s' a' w',K s'→InvE G B s' a' w'→next a' w') :
 if Region.wanted o (yielded ops a.tmps) then o.wpIn (Fe rd) n P a w next Q else (∀ f,o.about P w a.eval=some f→(Fe rd).fn f)∧next (a.put o.dst undef) w:=by
 obtain ⟨hd,h⟩:=h
 split at h
 · rename_i hw;rw[if_pos (qld hi.rel hw)];obtain ⟨r,hs,hk⟩:=qlz h;refine (qck hi.glob hi.rel.h (hi.nx _ (Nat.le_refl _)) (hi.rel.ev hi.glob) hs fun w1 C1 ρ1 v g1 g2 g3=>?_)
   exact hn _ _ _ hk ⟨C1,ρ1,hi.app hd g1 g2 g3⟩
 · rename_i hw;rw[if_neg (by rw[qld hi.rel hw];simp)]
   exact ⟨fun _ _=>trivial,hn _ _ _ h ⟨C,ρ,hi.skip hd⟩⟩
 · exact h.elim
end Am

namespace Am
open Go
variable {P:Program} {G:Glob} {H H':Heap}
theorem qeib {agg:Bool} {sz:Nat} {x:AV} {p:AV × List Nat} (h:rdA agg sz H x=some p) (hb:∀ b∈p.2,H' b=H b):rdA agg sz H' x=some p:=by
 unfold rdA at h ⊢
 split at h
 · rename_i b n i j;cases hH:H b with
   | none=>rw[hH] at h;simp at h
   | some blk=>
    have hmem:b∈p.2:=by
     rw[hH] at h;simp only at h
     (repeat' split at h)<;>first|(simp at h;done)|(cases h;simp)
    rw[hb b hmem,hH];rw[hH] at h;exact h
 · exact h
 · simp at h
theorem qfib {sz:Nat} {x a:AV} {p:Nat × Blk} (h:wrA sz H x a=some p) (hb:H' p.1=H p.1):wrA sz H' x a=some p:=by
 unfold wrA at h ⊢
 split at h
 · rename_i b n i j;cases hH:H b with
   | none=>rw[hH] at h;simp at h
   | some blk=>
    have hmem:p.1=b:=by
     rw[hH] at h;simp only at h
     (repeat' split at h)<;>first|(simp at h;done)|(cases h;rfl)
    rw[hmem] at hb;rw[hb,hH];rw[hH] at h;exact h
 · simp at h
theorem qlg {x:AV} {p:List (List AV) × List Nat} (h:rowsOf H x=some p) (hb:∀ b∈p.2,H' b=H b):rowsOf H' x=some p:=by
 unfold rowsOf at h ⊢
 split at h
 · rename_i b n off len;cases hH:H b with
   | none=>rw[hH] at h;simp at h
   | some blk=>
    have hmem:b∈p.2:=by
     rw[hH] at h;simp only at h
     split at h
     · cases h;simp
     · simp at h
    rw[hb b hmem,hH];rw[hH] at h;exact h
 · exact h
 · exact h
 · simp at h
theorem qfu {t t':TypeId} {x:AV} {p:List (List AV) × List Nat} (h:rowsX P t t' H x=some p) (hb:∀ b∈p.2,H' b=H b):rowsX P t t' H' x=some p:=by
 unfold rowsX at h ⊢
 split at h
 · exact h
 · split at h
   · rename_i htt
     first
      | exact qlg h hb
      | (rw[if_pos htt];exact qlg h hb)
   · simp at h
theorem qxu {id:Nat} {ev ev':Operand→AV} {op:Op} {r:Res} (h:execA P id ev H op=some r) (he:∀ x∈op.operands,ev' x=ev x) (hb:∀ b∈r.rb,H' b=H b) :
 execA P id ev' H' op=some r:=by
 cases op with
 | move x=>simp only[execA] at h ⊢;rw[he x (by simp[Op.operands])];exact h
 | assign x=>simp only[execA] at h ⊢;rw[he x (by simp[Op.operands])];exact h
 | pick c a b=>simp only[execA] at h ⊢;rw[he c (by simp[Op.operands]),he a (by simp[Op.operands]),he b (by simp[Op.operands])];exact h
 | alloc t=>exact h
 | box t x=>simp only[execA] at h ⊢;rw[he x (by simp[Op.operands])];exact h
 | build t ps=>
  simp only[execA] at h ⊢;have e1:(ps.toList.map fun p=>(p.1,ev' p.2))=ps.toList.map fun p=>(p.1,ev p.2):=List.map_congr_left fun p hp=>by rw[he p.2 (by simp[Op.operands];exact ⟨p.1,by simpa using hp⟩)]
  rw[e1];exact h
 | buildSlice t n ps=>
  simp only[execA] at h ⊢;have hm:∀ p∈ps.toList,ev' p.2=ev p.2:=fun p hp=>he p.2 (by simp[Op.operands];exact ⟨p.1,by simpa using hp⟩)
  have e1:(ps.all fun p=>(ev' p.2).cells.length == tsz P ((telem P t).getD 0)&&(ev' p.2).cells.all AV.one)=(ps.all fun p=>(ev p.2).cells.length == tsz P ((telem P t).getD 0)&&(ev p.2).cells.all AV.one):=by
   rw[← Array.all_toList,← Array.all_toList]
   apply Bool.eq_iff_iff.2
   simp only[List.all_eq_true];exact ⟨fun hh p hp=>by rw[← hm p hp];exact hh p hp,fun hh p hp=>by rw[hm p hp];exact hh p hp⟩
  have e2:(ps.toList.map fun p=>(ev' p.2).cells)=ps.toList.map fun p=>(ev p.2).cells:=List.map_congr_left fun p hp=>by rw[hm p hp]
  cases het:telem P t with
  | none=>rw[het] at h;simp at h
  | some e=>
   rw[het] at h e1;simp only[Option.getD_some] at e1;simp only at h ⊢;rw[e1,e2];exact h
 | load t x=>
  simp only[execA] at h ⊢;rw[he x (by simp[Op.operands])]
  split at h
  · rename_i ht;rw[if_pos ht]
    split at h
    · rename_i v rb hrd;cases h;rw[qeib hrd hb]
    · simp at h
  · simp at h
 | store t a x=>
  simp only[execA] at h ⊢;rw[he x (by simp[Op.operands]),he a (by simp[Op.operands])]
  split at h
  · rename_i ht;rw[if_pos ht]
    split at h
    · rename_i p hwr;cases h;rw[qfib hwr (hb p.1 (by simp))]
    · simp at h
  · simp at h
 | nilCheck x=>
  simp only[execA] at h ⊢;rw[he x (by simp[Op.operands])]
  split at h
  · rename_i b n i j hx;cases hH:H b with
    | none=>rw[hH] at h;simp at h
    | some blk=>
     rw[hH] at h;simp only at h
     split at h
     · rename_i hl;cases h;rw[hb b (by simp),hH]
       simp[hl]
     · simp at h
  · exact h
  · simp at h
 | binOp o t x y u=>simp only[execA] at h ⊢;rw[he x (by simp[Op.operands]),he y (by simp[Op.operands])];exact h
 | unOp o t x=>simp only[execA] at h ⊢;rw[he x (by simp[Op.operands])];exact h
 | convert s t x=>
  simp only[execA] at h ⊢;rw[he x (by simp[Op.operands])]
  split at h
  · exact h
  · exact h
  · rename_i h1 h2 h3
    split at h
    · rename_i hs;cases hr:rowsOf H (ev x) with
      | none=>rw[hr] at h;simp at h
      | some p=>
       obtain ⟨rows,rb⟩:=p;rw[hr] at h;simp only at h
       have hrb:r.rb=rb:=by
        split at h
        · cases h;rfl
        · simp at h
       rw[qlg hr (fun b hbb=>hb b (by rw[hrb];exact hbb))]
       simp only[hs,if_true];exact h
    · simp at h
  · exact h
  · simp at h
 | makeFunc f fs cs=>
  simp only[execA] at h ⊢;have e1:fs.toList.map ev' = fs.toList.map ev:=List.map_congr_left fun p hp=>he p (by simp[Op.operands];left;simpa using hp)
  have e2:cs.toList.map ev' = cs.toList.map ev:=List.map_congr_left fun p hp=>he p (by simp[Op.operands];right;simpa using hp)
  rw[e1,e2];exact h
 | makeSlice t l c=>simp only[execA] at h ⊢;rw[he l (by simp[Op.operands]),he c (by simp[Op.operands])];exact h
 | slice t x lo hi mx=>
  simp only[execA] at h ⊢;have e1:lo.map ev' = lo.map ev:=by cases lo with|none=>rfl|some y=>simp[he y (by simp[Op.operands])]
  have e2:hi.map ev' = hi.map ev:=by cases hi with|none=>rfl|some y=>simp[he y (by simp[Op.operands])]
  rw[he x (by simp[Op.operands]),e1,e2]
  split at h
  · exact h
  · exact h
  · rename_i bb n off len hx
    split at h
    · rename_i e hte;cases hH:H bb with
      | none=>rw[hH] at h;simp at h
      | some blk=>
       have hmem:bb∈r.rb:=by
        rw[hH] at h;simp only at h
        (repeat' split at h)<;>first|(simp at h;done)|(cases h;simp)
       rw[hb bb hmem,hH];rw[hH] at h;exact h
    · simp at h
  · simp at h
 | fieldAddr s x f=>
  simp only[execA] at h ⊢;rw[he x (by simp[Op.operands])]
  split at h
  · split at h
    · rename_i hc;rw[if_pos hc]
      split at h
      · rename_i b n i j hx;cases hH:H b with
        | none=>rw[hH] at h;simp at h
        | some blk=>
         rw[hH] at h;simp only at h
         split at h
         · rename_i hl;cases h;rw[hb b (by simp),hH]
           simp[hl]
         · simp at h
      · exact h
      · simp at h
    · simp at h
  · simp at h
 | field s x f=>simp only[execA] at h ⊢;rw[he x (by simp[Op.operands])];exact h
 | indexAddr t x ix=>
  simp only[execA] at h ⊢;rw[he x (by simp[Op.operands]),he ix (by simp[Op.operands])]
  split at h
  · split at h
    · split at h
      · rename_i hc;rw[if_pos hc]
        split at h
        · rename_i b m off len hx;cases hH:H b with
          | none=>rw[hH] at h;simp at h
          | some blk=>
           rw[hH] at h;simp only at h
           split at h
           · rename_i hl;cases h;rw[hb b (by simp),hH]
             simp only;rw[if_pos hl]
           · simp at h
        · exact h
        · simp at h
      · simp at h
    · split at h
      · rename_i hc;rw[if_pos hc]
        split at h
        · rename_i b m i j hx;cases hH:H b with
          | none=>rw[hH] at h;simp at h
          | some blk=>
           rw[hH] at h;simp only at h
           split at h
           · rename_i hl;cases h;rw[hb b (by simp),hH]
             simp only;rw[if_pos hl]
           · simp at h
        · exact h
        · simp at h
      · simp at h
    · simp at h
  · simp at h
 | index t x ix=>simp only[execA] at h ⊢;rw[he x (by simp[Op.operands]),he ix (by simp[Op.operands])];exact h
 | extract x i=>simp only[execA] at h ⊢;rw[he x (by simp[Op.operands])];exact h
 | call c=>
  obtain ⟨callee,args,ats⟩:=c;have hargs:∀ x∈args.toList,ev' x=ev x:=fun x hx=>he x (by simp[Op.operands,Call.operands];right;simpa using hx)
  cases callee with
  | builtin b=>
   cases b with
   | len=>
    simp only[execA] at h ⊢
    split at h
    · rename_i x t hl ht;rw[hargs x (by rw[hl];simp)]
      split at h
      · exact h
      · exact h
      · exact h
      · rename_i b n o len hx;cases hH:H b with
        | none=>rw[hH] at h;simp at h
        | some blk=>
         rw[hH] at h;simp only at h
         split at h
         · rename_i hl;cases h;rw[hb b (by simp),hH]
           simp only;rw[if_pos hl]
         · simp at h
      · simp at h
    · simp at h
   | min=>
    simp only[execA] at h ⊢
    split at h
    · rename_i x y hl;rw[hargs x (by rw[hl];simp),hargs y (by rw[hl];simp)]
      exact h
    · simp at h
   | max=>
    simp only[execA] at h ⊢
    split at h
    · rename_i x y hl;rw[hargs x (by rw[hl];simp),hargs y (by rw[hl];simp)]
      exact h
    · simp at h
   | append=>
    simp only[execA] at h ⊢
    split at h
    · rename_i s x t t' hl ht;rw[hargs x (by rw[hl];simp),hargs s (by rw[hl];simp)]
      split at h
      · rename_i e rows rb hte hrows
        have hrb:∀ b∈rb,b∈r.rb:=by
         intro b hbb
         (repeat' split at h)<;>first|(simp at h;done)|(cases h;first|exact hbb|exact List.mem_cons_of_mem _ hbb)
        rw[qfu hrows fun b hbb=>hb b (hrb b hbb)]
        split at h
        · simp at h
        · rename_i z hz
          split at h
          · rename_i hc;simp only[hte,hz];rw[if_pos hc]
            split at h
            · exact h
            · rename_i b n off len hs;cases hH:H b with
              | none=>rw[hH] at h;simp at h
              | some blk=>
               rw[hH] at h;simp only at h
               split at h
               · rename_i hl;cases h;rw[hb b (by simp),hH]
                 simp only;rw[if_pos hl]
               · simp at h
            · simp at h
          · simp at h
      · simp at h
    · simp at h
   | unsafeSliceData=>
    simp only[execA] at h ⊢
    split at h
    · rename_i x hl;rw[hargs x (by rw[hl];simp)]
      split at h
      · rename_i b n off len hx;cases hH:H b with
        | none=>rw[hH] at h;simp at h
        | some blk=>
         rw[hH] at h;simp only at h
         split at h
         · rename_i hc;cases h;rw[hb b (by simp),hH]
           simp only;rw[if_pos hc]
         · simp at h
      · simp at h
    · simp at h
   | unsafeString=>
    simp only[execA] at h ⊢
    split at h
    · rename_i x y t t' hl ht;rw[hargs x (by rw[hl];simp),hargs y (by rw[hl];simp)]
      split at h
      · rename_i b n len hx hy
        split at h
        · rename_i blk e hH he
          split at h
          · rename_i hc
            split at h
            · rename_i l hl';cases h;rw[hb b (by simp),hH]
              simp only[he];rw[if_pos hc];simp only[hl']
            · simp at h
          · simp at h
        · simp at h
      · simp at h
    · simp at h
   | _=>simp[execA] at h
  | _=>simp[execA] at h
 | _=>simp[execA] at h
end Am

namespace Am
open Go
variable {P:Program} {G:Glob} {w w':World} {C C':Com} {ρ ρ':Rho} {H H':Heap}
def Ent (k:Nat) (s s':Sta):Prop:=∀ (G:Glob) (B:Beg) (a:Act) (w:World),B.Hin.length=k→InvE G B s a w→InvE G B s' a w
theorem Ent.refl (k:Nat) (s:Sta):Ent k s s:=fun _ _ _ _ _ h=>h
theorem Ent.trans {k:Nat} {s s' s'':Sta} (h:Ent k s s') (h':Ent k s' s''):Ent k s s'':=fun G B a w hk hi=>h' G B a w hk (h G B a w hk hi)
def cutH (k:Nat) (H:Heap):Heap:=fun b=>if b<k then H b else none
theorem qbp {k:Nat} {x:AV} {v:Value} (h:RepA w C ρ H x v):x.inK k=true→RepA w C ρ (cutH k H) x v:=by
 induction h with
 | d x v h=>intro _;exact .d _ _ h
 | nils=>intro _;exact .nils
 | agg cs vs hl h1 _ ih=>
  intro hk;simp only[AV.inK,qtf,List.all_eq_true] at hk;exact .agg cs vs hl h1 fun i h h'=>ih i h h' (hk _ (List.getElem_mem _))
 | tup cs vs hl _ ih=>
  intro hk;simp only[AV.inK,qtf,List.all_eq_true] at hk;exact .tup cs vs hl fun i h h'=>ih i h h' (hk _ (List.getElem_mem _))
 | ptr b n i j v blk hb hn h1 hp=>intro hk;simp[AV.inK] at hk;exact .ptr b n i j v blk (by simp[cutH,hk,hb]) hn h1 hp
 | own b n off len v blk hb hn h1 hp=>intro hk;simp[AV.inK] at hk;exact .own b n off len v blk (by simp[cutH,hk,hb]) hn h1 hp
 | eptr cs r o vs hC hcell hrec=>intro _;exact .eptr cs r o vs hC hcell hrec
 | clo f first caps fv cv hf hc _ _ ih1 ih2=>
  intro hk;simp only[AV.inK,qtf,Bool.and_eq_true,List.all_eq_true] at hk;exact .clo f first caps fv cv hf hc (fun i h h'=>ih1 i h h' (hk.1 _ (List.getElem_mem _))) fun i h h'=>ih2 i h h' (hk.2 _ (List.getElem_mem _))
 | junk v=>intro _;exact .junk v
theorem qgp (hR:RelH w C ρ H) {k:Nat} (hin:∀ b blk,b<k→H b=some blk→∀ row∈blk.rows,row.all (AV.inK k)=true):RelH w C ρ (cutH k H):=by
 have hs:∀ b,(cutH k H b).isSome=true→b<k∧(H b).isSome=true:=fun b hb=>by
  unfold cutH at hb
  split at hb
  · exact ⟨by assumption,hb⟩
  · simp at hb
 refine ⟨fun b blk hb=>?_,fun b b' r s s' hne hb hb' hr hr'=>hR.dis b b' r s s' hne (hs b hb).2 (hs b' hb').2 hr hr',hR.com⟩
 unfold cutH at hb
 split at hb
 · rename_i hbk;have hp:=hR.blk b blk hb;unfold BlkOK at hp ⊢;cases hr:ρ b with
   | none=>rw[hr] at hp;exact hp
   | some p=>
    obtain ⟨r,s⟩:=p;rw[hr] at hp;obtain ⟨⟨cs,lo,hi,h1,h2,h3,h4,h5,h6,h7⟩,h8,h9⟩:=hp;refine ⟨⟨cs,lo,hi,h1,h2,h3,h4,h5,h6,fun i j hi hj=>?_⟩,h8,h9⟩
    obtain ⟨v,g1,g2,g3⟩:=h7 i j hi hj;have:=hin b blk hbk hb _ (List.getElem_mem hi);simp only[List.all_eq_true] at this;exact ⟨v,g1,g2,qbp g3 (this _ (List.getElem_mem _))⟩
 · simp at hb
theorem ext_cut {B:Beg} {k:Nat} (h:Ext B.w B.C B.ρ (hOf B.Hin) w C ρ H) (hk:B.Hin.length≤k):Ext B.w B.C B.ρ (hOf B.Hin) w C ρ (cutH k H) where
 com:=h.com
 cell:=h.cell
 blk b blk hb:=by
  obtain ⟨blk',h1,h2⟩:=h.blk b blk hb;have:=(List.getElem?_eq_some_iff.1 hb).1;exact ⟨blk',by rw[cutH,if_pos (by omega)];exact h1,h2⟩
 os:=h.os
 tape:=h.tape
 output:=h.output
 size:=h.size
 same:=h.same
 rows r ho:=by
  obtain ⟨b,s,hb,hr⟩:=ho;refine h.rows r ⟨b,s,?_,hr⟩;unfold cutH at hb
  split at hb
  · exact hb
  · simp at hb
 grow:=h.grow
structure Sta.Le (k:Nat) (s s':Sta):Prop where
 n:s'.n=s.n
 nx:s'.nx≤s.nx
 k:k≤s'.nx
 tm:∀ t,s'.tm t = .junk∨(s'.tm t=s.tm t∧(s.tm t).inK s'.nx=true)
 H:s'.H=cutH s'.nx s.H
 inK:∀ b blk,b<s'.nx→s.H b=some blk→∀ row∈blk.rows,row.all (AV.inK s'.nx)=true
theorem Ent.le {k:Nat} {s s':Sta} (h:Sta.Le k s s'):Ent k s s':=by
 rintro G B a w hk ⟨C,ρ,hi⟩;refine ⟨C,ρ,⟨fun t=>?_,?_,?_,trivial,hi.rel.defers⟩,?_,?_,hi.glob,hi.marks,hi.nom⟩
 · rcases h.tm t with e|⟨e,hin⟩
   · rw[e];exact .junk _
   · rw[e,h.H];exact qbp (hi.rel.tm t) hin
 · rw[h.n];exact hi.rel.size
 · rw[h.H];exact qgp hi.rel.h h.inK
 · intro b hb;rw[h.H];unfold cutH;rw[if_neg (by omega)]
 · rw[h.H];exact ext_cut hi.ext (by rw[hk];exact h.k)
theorem Ent.ghost {k:Nat} {s:Sta} {t:Nat} (ty:TypeId) (sz:Nat) (ht:s.tm t = .nils) :
 Ent k s { s with tm:=putT s.tm t (.own s.nx 0 0 0),H:=updH s.H s.nx { fz:=false,ap:=true,ty,sz,rows:=[] },nx:=s.nx+1 }:=by
 rintro G B a w hk ⟨C,ρ,hi⟩;have hnone:=hi.nx s.nx (Nat.le_refl _)
 let ρ1:Rho:=fun b=>if b=s.nx then none else ρ b
 have e:Ext w C ρ s.H w C ρ1 (updH s.H s.nx { fz:=false,ap:=true,ty,sz,rows:=[] }):=by
  refine ⟨fun _ _ h=>h,fun _ _ _=>rfl,fun b blk hb=>?_,rfl,rfl,rfl,Nat.le_refl _,fun _ _ _=>rfl,?_,fun _ _ h=>.inl h⟩
  · have hne:b≠s.nx:=fun e=>by subst e;rw[hnone] at hb;simp at hb
    exact ⟨blk,by rw[qj _ _ hne];exact hb,rfl,Nat.le_refl _,fun _=>by simp[ρ1,hne]⟩
  · rintro r ⟨b,z,hb,hr⟩
    by_cases hne:b=s.nx
    · subst hne;simp[ρ1] at hr
    · rw[qj _ _ hne] at hb;simp only[ρ1,hne,if_false] at hr;exact .inl ⟨b,z,hb,hr⟩
 have hR:RelH w C ρ1 (updH s.H s.nx { fz:=false,ap:=true,ty,sz,rows:=[] }):=by
  refine ⟨fun b blk hb=>?_,fun b b' r z z' hne hb hb' hr hr'=>?_,hi.rel.h.com⟩
  · by_cases hne:b=s.nx
    · subst hne;rw[qt] at hb;cases hb;unfold BlkOK;simp[ρ1]
    · rw[qj _ _ hne] at hb;exact (hi.rel.h.blk b blk hb).ext e (by simp[ρ1,hne]) (fun _ _ _=>rfl) (fun _ _ _ _ _ h=>h)
  · have h1:b≠s.nx:=fun e=>by subst e;simp[ρ1] at hr
    have h2:b'≠s.nx:=fun e=>by subst e;simp[ρ1] at hr'
    simp only[ρ1,h1,if_false] at hr;simp only[ρ1,h2,if_false] at hr';rw[qj _ _ h1] at hb;rw[qj _ _ h2] at hb';exact hi.rel.h.dis b b' r z z' hne hb hb' hr hr'
 refine ⟨C,ρ1,⟨fun t'=>?_,hi.rel.size,hR,trivial,hi.rel.defers⟩,fun b hb=>?_,hi.ext.trans e,hi.glob,hi.marks,hi.nom⟩
 · simp only[putT]
   split
   · rename_i htt;subst htt;have:=hi.rel.tm t';rw[ht] at this;generalize hv:a.tmps.getD t' undef=v at this;cases this;exact .own s.nx 0 0 0 _ _ (qt ..) (by simp) rfl fun _=>.inr ⟨by simp[ρ1],rfl,rfl,rfl⟩
   · exact (hi.rel.tm t').mono e
 · show updH s.H s.nx _ b=none
   rw[qj _ _ (fun e=>by subst e;exact absurd hb (by simp))]
   exact hi.nx b (by have:s.nx+1≤b:=hb;omega)
end Am

namespace Am
open Go
variable {P:Program} {G:Glob} {k:Nat}
structure SO where
 dst:Option Nat
 op:Op
 g:Option (Option Nat × Bool)
def slim1 (ops:Array Oper) (o:Oper):SO:=
 { dst:=o.dst,op:=o.op,g:=match o.guard with|none=>none|some (j,want)=>some ((ops[j]?).bind (·.dst),want) }
def slimL (ops:Array Oper):List SO:=ops.toList.map (slim1 ops)
def wantedS (tm:Nat→AV):Option (Option Nat × Bool)→Option Bool
 | none=>some true
 | some (none,_)=>some false
 | some (some d,want)=>match tm d with
  | .d (.bool b)=>some (b == want)
  | .d (.raw (.tuple _))=>some false
  | _=>none
theorem qff (ops:Array Oper) (tm:Nat→AV) (o:Oper):wantedA ops tm o=wantedS tm (slim1 ops o).g:=by
 unfold wantedA slim1;cases o.guard with
 | none=>rfl
 | some p=>
  obtain ⟨j,want⟩:=p;simp only
  cases (ops[j]?).bind (·.dst)<;>rfl
end Am

namespace Am
open Go
section upd
variable {L V:Type}
def ap (u:L→Option V) (σ:L→V):L→V:=fun x=>(u x).getD (σ x)
def folD (D:Nat→Bool):List (L→Option V)→Nat→(L→V)→(L→V)
 | [],_,σ=>σ
 | u::us,i,σ=>folD D us (i+1) (if D i then ap u σ else σ)
theorem qeh (D:Nat→Bool) (us vs:List (L→Option V)):∀ (i:Nat) (σ:L→V),folD D (us++vs) i σ=folD D vs (i+us.length) (folD D us i σ):=by
 induction us with
 | nil=>intro i σ;rfl
 | cons u us ih=>
  intro i σ;simp only[List.cons_append,folD,ih,List.length_cons]
  congr 1
  omega
theorem qqq (D:Nat→Bool) (x:L):∀ (us:List (L→Option V)) (i:Nat) (σ:L→V),(∀ j u,us[j]? = some u→D (i+j)=true→u x=none)→folD D us i σ x=σ x:=by
 intro us
 induction us with
 | nil=>intro i σ _;rfl
 | cons u us ih=>
  intro i σ h;simp only[folD];rw[ih (i+1) _ fun j v hv hD=>h (j+1) v (by simpa using hv) (by rw[← hD];congr 1;omega)]
  split
  · rename_i hD;have:=h 0 u rfl (by simpa using hD)
    simp[ap,this]
  · rfl
theorem qfx (D:Nat→Bool) (us:List (L→Option V)) (σ:L→V) {i:Nat} {u:L→Option V} (hu:us[i]? = some u) (hD:D i=false)
 (hno:∀ x,u x≠none→∀ j v,i<j→us[j]? = some v→D j=true→v x=none) :
 ap u (folD D us 0 σ)=folD (fun k=>if k=i then true else D k) us 0 σ:=by
 funext x
 have hi:=(List.getElem?_eq_some_iff.1 hu).1
 have hsplit:us=us.take i++(u::us.drop (i+1)):=by
  rw[List.getElem?_eq_getElem hi] at hu;cases hu;rw[List.getElem_cons_drop,List.take_append_drop]
 have hlen:(us.take i).length=i:=by simp;omega
 have hdrop:∀ j v,(us.drop (i+1))[j]? = some v→us[i+1+j]? = some v:=fun j v h=>by rwa [List.getElem?_drop] at h
 have hbefore:∀ (vs:List (L→Option V)) (k:Nat) (τ:L→V),k+vs.length≤i→folD (fun k=>if k=i then true else D k) vs k τ=folD D vs k τ:=by
  intro vs
  induction vs with
  | nil=>intro k τ _;rfl
  | cons v vs ih=>
   intro k τ h;simp only[List.length_cons] at h;have hk:¬ k=i:=by omega
   simp only[folD,hk,if_false];exact ih (k+1) _ (by omega)
 have hafter:∀ (vs:List (L→Option V)) (k:Nat) (τ:L→V),i<k→folD (fun k=>if k=i then true else D k) vs k τ=folD D vs k τ:=by
  intro vs
  induction vs with
  | nil=>intro k τ _;rfl
  | cons v vs ih=>
   intro k τ h;have hk:¬ k=i:=by omega
   simp only[folD,hk,if_false];exact ih (k+1) _ (by omega)
 have e1:folD (fun k=>if k=i then true else D k) us 0 σ=folD D (us.drop (i+1)) (i+1) (ap u (folD D (us.take i) 0 σ)):=by
  conv=>lhs;rw[hsplit]
  rw[qeh];simp only[folD,hlen,Nat.zero_add,if_true];rw[hbefore (us.take i) 0 σ (by omega),hafter _ _ _ (by omega)]
 have e2:folD D us 0 σ=folD D (us.drop (i+1)) (i+1) (folD D (us.take i) 0 σ):=by
  conv=>lhs;rw[hsplit]
  rw[qeh];simp only[folD,hlen,Nat.zero_add,hD,Bool.false_eq_true,if_false]
 rw[e1,e2];cases hux:u x with
 | none=>
  have:ap u (folD D (us.drop (i+1)) (i+1) (folD D (us.take i) 0 σ)) x=folD D (us.drop (i+1)) (i+1) (folD D (us.take i) 0 σ) x:=by simp[ap,hux]
  rw[this]
  have key:∀ (vs:List (L→Option V)) (k:Nat) (τ τ':L→V),τ x=τ' x→folD D vs k τ x=folD D vs k τ' x:=by
   intro vs
   induction vs with
   | nil=>intro k τ τ' h;exact h
   | cons v vs ih=>
    intro k τ τ' h;simp only[folD];refine ih _ _ _ ?_;cases D k<;>simp[ap,h]
  exact key _ _ _ _ (by simp[ap,hux])
 | some v=>
  have:ap u (folD D (us.drop (i+1)) (i+1) (folD D (us.take i) 0 σ)) x=v:=by simp[ap,hux]
  rw[this,qqq]
  · simp[ap,hux]
  · intro j w hw hDj;exact hno x (by simp[hux]) (i+1+j) w (by omega) (hdrop j w hw) hDj
end upd
def maskOf (acc:List Nat) (o:Oper):Nat:=o.after.toList.foldl (fun s e=>if Region.binds .any e then s|||2^e.on|||acc.getD e.on 0 else s) 0
def masksF:List Oper→List Nat→List Nat
 | [],acc=>acc
 | o::rest,acc=>masksF rest (acc++[maskOf acc o])
theorem qkcb (acc:List Nat) (o:Oper) (i:Nat) (h:(maskOf acc o).testBit i=true):∃ e∈o.after.toList,Region.binds .any e=true∧(e.on=i∨(acc.getD e.on 0).testBit i=true):=by
 unfold maskOf at h
 have key:∀ (l:List Edge) (s:Nat),(l.foldl (fun s e=>if Region.binds .any e then s|||2^e.on|||acc.getD e.on 0 else s) s).testBit i=true→
  s.testBit i=true∨∃ e∈l,Region.binds .any e=true∧(e.on=i∨(acc.getD e.on 0).testBit i=true):=by
  intro l
  induction l with
  | nil=>intro s h;exact .inl h
  | cons e l ih=>
   intro s h;simp only[List.foldl_cons] at h;rcases ih _ h with h1|⟨e',he',hh⟩
   · split at h1
     · rename_i hb;simp only[Nat.testBit_or,Bool.or_eq_true] at h1;rcases h1 with (h1|h1)|h1
       · exact .inl h1
       · rw[Nat.testBit_two_pow] at h1;exact .inr ⟨e,List.mem_cons_self ..,hb,.inl (by simpa using h1)⟩
       · exact .inr ⟨e,List.mem_cons_self ..,hb,.inr h1⟩
     · exact .inl h1
   · exact .inr ⟨e',List.mem_cons_of_mem _ he',hh⟩
 rcases key _ _ h with h|h
 · simp at h
 · exact h
theorem qfv:∀ (l:List Oper) (acc:List Nat) (ops:List Oper),acc.length+l.length=ops.length→(∀ j,l[j]? = ops[acc.length+j]?)→
 (∀ j m,acc[j]? = some m→∃ o,ops[j]? = some o∧m=maskOf (acc.take j) o)→
 (masksF l acc).length=ops.length∧∀ j m,(masksF l acc)[j]? = some m→∃ o,ops[j]? = some o∧m=maskOf ((masksF l acc).take j) o:=by
 intro l
 induction l with
 | nil=>intro acc ops hl _ h;exact ⟨by simpa [masksF] using hl,h⟩
 | cons o rest ih=>
  intro acc ops hl hops h;simp only[masksF]
  refine ih (acc++[maskOf acc o]) ops (by simp at hl ⊢;omega) (fun j=>by
   have:=hops (j+1);simp only[List.getElem?_cons_succ] at this;rw[this];congr 1;simp;omega) fun j m hm=>?_
  by_cases hj:j<acc.length
  · rw[List.getElem?_append_left hj] at hm;obtain ⟨o',h1,h2⟩:=h j m hm;exact ⟨o',h1,by rw[h2,List.take_append_of_le_length (by omega)]⟩
  · have hje : j = acc.length := by
     have:=(List.getElem?_eq_some_iff.1 hm).1;simp at this;omega
    subst hje;rw[List.getElem?_append_right (Nat.le_refl _)] at hm;simp at hm;refine ⟨o,?_,by rw[← hm,List.take_append_of_le_length (Nat.le_refl _),List.take_length]⟩
    have:=hops 0
    simpa using this.symm
def masks (ops:Array Oper):List Nat:=masksF ops.toList []
theorem qlr {ops:Array Oper} {D:Nat→Bool} (hD:∀ j o,ops[j]? = some o→D j=true→∀ e∈o.after,Region.binds .any e=true→D e.on=true) :
 ∀ (j i:Nat),((masks ops).getD j 0).testBit i=true→D j=true→D i=true:=by
 obtain ⟨hlen,hspec⟩:=qfv ops.toList [] ops.toList (by simp) (by simp) (by simp)
 intro j
 induction j using Nat.strongRecOn with
 | _ j ih=>
  intro i hb hDj;rw[List.getD_eq_getElem?_getD] at hb;cases hm:(masks ops)[j]? with
  | none=>rw[hm] at hb;simp at hb
  | some m=>
   rw[hm] at hb;simp only[Option.getD_some] at hb;obtain ⟨o,ho,rfl⟩:=hspec j m hm;obtain ⟨e,he,hbind,hh⟩:=qkcb _ o i hb;have ho':ops[j]? = some o:=by simpa using ho
   have hDe:=hD j o ho' hDj e (by simpa using he) hbind
   rcases hh with rfl|hh
   · exact hDe
   · have hlt : e.on < j := by
      rw[List.getD_eq_getElem?_getD,List.getElem?_take] at hh
      split at hh
      · assumption
      · simp at hh
     refine ih e.on hlt i ?_ hDe;rw[List.getD_eq_getElem?_getD,List.getElem?_take,if_pos hlt] at hh;rw[List.getD_eq_getElem?_getD];exact hh
end Am

namespace Am
open Go
variable {P:Program} {G:Glob} {H H':Heap}
theorem qxd {α β:Type} {f g:α→List β} {l:List α} (h:∀ x∈l,f x=g x):l.flatMap f=l.flatMap g:=by
 induction l with
 | nil=>rfl
 | cons x l ih=>simp only[List.flatMap_cons,h x (List.mem_cons_self ..),ih fun y hy=>h y (List.mem_cons_of_mem _ hy)]
theorem qqg {α:Type} {f g:α→Bool} {l:List α} (h:∀ x∈l,f x=g x):l.all f=l.all g:=by
 induction l with
 | nil=>rfl
 | cons x l ih=>simp only[List.all_cons,h x (List.mem_cons_self ..),ih fun y hy=>h y (List.mem_cons_of_mem _ hy)]
theorem qcib:∀ (n:Nat) (x:AV),(∀ b∈frzIds n H x,H' b=H b)→frzIds n H' x=frzIds n H x∧frzD n H' x=frzD n H x∧frzOk n H' x=frzOk n H x:=by
 intro n
 induction n with
 | zero=>intro x _;cases x<;>exact ⟨rfl,rfl,rfl⟩
 | succ n ih=>
  intro x h;cases x with
  | own b m off len=>
   have hb:H' b=H b:=h b (by simp[frzIds])
   cases hH:H b with
   | none=>simp[frzIds,frzD,frzOk,hb,hH]
   | some blk=>
    have hin:∀ row∈(blk.rows.drop off).take len,∀ c∈row,∀ b'∈frzIds n H c,H' b' = H b':=by
     intro row hrow c hc b' hb';refine h b' ?_;simp only[frzIds,hH,List.mem_cons,List.mem_flatMap];exact .inr ⟨row,hrow,c,hc,hb'⟩
    have e1:(((blk.rows.drop off).take len).flatMap (·.flatMap (frzIds n H')))=(((blk.rows.drop off).take len).flatMap (·.flatMap (frzIds n H))):=
     qxd fun row hrow=>qxd fun c hc=>(ih c (hin row hrow c hc)).1
    have e2:(((blk.rows.drop off).take len).map (·.map (frzD n H')))=(((blk.rows.drop off).take len).map (·.map (frzD n H))):=
     List.map_congr_left fun row hrow=>List.map_congr_left fun c hc=>(ih c (hin row hrow c hc)).2.1
    have e3:(((blk.rows.drop off).take len).all (·.all (frzOk n H')))=(((blk.rows.drop off).take len).all (·.all (frzOk n H))):=
     qqg fun row hrow=>qqg fun c hc=>(ih c (hin row hrow c hc)).2.2
    simp only[frzIds,frzD,frzOk,hb,hH,e1,e2,e3,and_self]
  | _=>exact ⟨rfl,rfl,rfl⟩
theorem qyg (x:AV) (h:∀ b∈frz1Ids H x,H' b=H b):frz1Ids H' x=frz1Ids H x∧frz1 H' x=frz1 H x∧frz1Ok H' x=frz1Ok H x:=by
 cases x with
 | own b m off len=>
  obtain ⟨h1,h2,h3⟩:=qcib (H:=H) (H':=H') 3 (.own b m off len) h;exact ⟨h1,by simp only[frz1,h2],h3⟩
 | _=>exact ⟨rfl,rfl,rfl⟩
theorem qpj (x:AV) (h:∀ b∈frzAIds H x,H' b=H b):frzAIds H' x=frzAIds H x∧frzA H' x=frzA H x∧frzAOk H' x=frzAOk H x:=by
 cases x with
 | agg cs=>
  have hin:∀ c∈cs,∀ b∈frz1Ids H c,H' b=H b:=fun c hc b hb=>h b (by simp only[frzAIds,List.mem_flatMap];exact ⟨c,hc,hb⟩)
  refine ⟨qxd fun c hc=>(qyg c (hin c hc)).1,?_,qqg fun c hc=>(qyg c (hin c hc)).2.2⟩
  simp only[frzA];rw[List.map_congr_left fun c hc=>(qyg c (hin c hc)).2.1]
 | own b m off len=>exact qyg (H:=H) (H':=H') (.own b m off len) h
 | _=>exact ⟨rfl,rfl,rfl⟩
theorem qahb (keep:Bool) (l:List AV) (h:∀ b∈avIds keep H l,H' b=H b):avIds keep H' l=avIds keep H l∧avs1 keep H' l=avs1 keep H l∧avOk keep H' l=avOk keep H l:=by
 cases keep with
 | true=>exact ⟨rfl,rfl,rfl⟩
 | false=>
  simp only[avIds,avs1,avOk,Bool.false_eq_true,if_false,Bool.false_or] at h ⊢;have hin:∀ x∈l,∀ b∈frzAIds H x,H' b=H b:=fun x hx b hb=>h b (List.mem_flatMap.2 ⟨x,hx,hb⟩)
  exact ⟨qxd fun x hx=>(qpj x (hin x hx)).1,List.map_congr_left fun x hx=>(qpj x (hin x hx)).2.1,qqg fun x hx=>(qpj x (hin x hx)).2.2⟩
theorem qlv (bs:List Nat) (h:∀ b∈bs,H' b=H b):pinHs bs H' = pinHs bs H:=by
 unfold pinHs
 induction bs with
 | nil=>rfl
 | cons b bs ih=>
  simp only[List.filterMap_cons,h b (List.mem_cons_self ..),ih fun c hc=>h c (List.mem_cons_of_mem _ hc)]
theorem qfn {id:Nat} {f:FuncId} {avs:List AV} {r:Res} {keep pin ro:Bool} {m:Nat→Nat} {Hin:List Blk} {args':List AV} {Hout:List Blk} {r':AV}
 (h:CallStep P G id H f avs r keep pin ro m Hin args' Hout r') (hb:∀ b∈r.rb,H' b=H b) (hid:H' id=none):CallStep P G id H' f avs r keep pin ro m Hin args' Hout r':=by
 have hrb:=h.rb;have h1:∀ b∈avIds keep H avs,H' b=H b:=fun b hbb=>hb b (by rw[hrb];exact List.mem_append_left _ hbb)
 have h2:∀ i,i<Hin.length→H' (m i)=H (m i):=fun i hi=>hb (m i) (by rw[hrb];exact List.mem_append_right _ (List.mem_map.2 ⟨i,List.mem_range.2 hi,rfl⟩))
 obtain ⟨e1,e2,e3⟩:=qahb keep avs h1;refine ⟨h.cc,by rw[e3];exact h.ok,by rw[e2];exact h.args,h.inK,⟨h.call.inj,h.call.len,fun i hi=>?_,fun i hi hi'=>?_,h.call.inK⟩,h.newId,by rw[e1];exact h.pins,h.same,h.v,?_,by rw[e1];exact hrb⟩
 · have:=h.call.old i hi;rw[e1];unfold pinH at this ⊢;rw[h2 i hi];exact this
 · rw[h.newId i hi hi',e1];unfold pinH;rw[hid];simp
 · rw[e1,qlv _ h1];exact h.hs
theorem qgt {id:Nat} {ev ev':Operand→AV} {op:Op} {r:Res} (h:OpStep P G id ev H op r) (he:∀ x∈op.operands,ev' x=ev x) (hb:∀ b∈r.rb,H' b=H b) (hid:H' id=none) :
 OpStep P G id ev' H' op r:=by
 rcases h with h|⟨callee,args,ats,f,first,caps,keep,pin,ro,m,Hin,args',Hout,r',rfl,hc,hs⟩
 · exact .inl (qxu h he hb)
 · have h1:ev' callee=ev callee:=he callee (by simp[Op.operands,Call.operands])
   have h2:args.toList.map ev' = args.toList.map ev:=List.map_congr_left fun x hx=>he x (by simp[Op.operands,Call.operands];right;simpa using hx)
   refine .inr ⟨callee,args,ats,f,first,caps,keep,pin,ro,m,Hin,args',Hout,r',rfl,by rw[h1];exact hc,?_⟩
   rw[h2];exact qfn hs hb hid
theorem qvnb {id:Nat} {ev:Operand→AV} {op:Op} {r:Res} (h:execA P id ev H op=some r):∀ p∈r.hs,p.1=id∨(H p.1).isSome=true:=by
 have triv:∀ {r:Res},r.hs=[]→∀ p∈r.hs,p.1=id∨(H p.1).isSome=true:=fun e p hp=>by rw[e] at hp;simp at hp
 have hchg:∀ {v:AV},chg v=some r→r.hs=[]:=fun h=>by unfold chg at h;cases h;rfl
 cases op with
 | alloc t=>
  simp only[execA] at h
  (repeat' split at h)<;>first|(simp at h;done)|(cases h;intro p hp;simp at hp;subst hp;exact .inl rfl)
 | box t x=>
  simp only[execA] at h
  (repeat' split at h)<;>first|(simp at h;done)|(cases h;intro p hp;simp at hp;subst hp;exact .inl rfl)
 | buildSlice t n ps=>
  simp only[execA] at h
  (repeat' split at h)<;>first|(simp at h;done)|(cases h;intro p hp;simp at hp;subst hp;exact .inl rfl)
 | makeSlice t l c=>
  simp only[execA] at h
  (repeat' split at h)<;>first|(simp at h;done)|(cases h;intro p hp;simp at hp;subst hp;exact .inl rfl)
 | convert s t x=>
  simp only[execA] at h
  (repeat' split at h)<;>first|(simp at h;done)|exact triv (hchg h)|(cases h;exact triv rfl)|(cases h;intro p hp;simp at hp;subst hp;exact .inl rfl)
 | store t a x=>
  simp only[execA] at h
  split at h
  · split at h
    · rename_i p hwr;cases h;intro q hq;simp at hq;subst hq;refine .inr ?_;unfold wrA at hwr
      split at hwr
      · rename_i b n i j _;cases hH:H b with
        | none=>rw[hH] at hwr;simp at hwr
        | some blk=>
         rw[hH] at hwr;simp only at hwr
         (repeat' split at hwr)<;>first|(simp at hwr;done)|(cases hwr;simp[hH])
      · simp at hwr
    · simp at h
  · simp at h
 | call c=>
  obtain ⟨callee,args,ats⟩:=c;cases callee with
  | builtin b=>
   cases b with
   | append=>
    simp only[execA] at h
    split at h
    · split at h
      · split at h
        · simp at h
        · split at h
          · split at h
            · split at h
              · cases h
                split
                · exact triv rfl
                · intro p hp;simp at hp;subst hp;exact .inl rfl
              · simp at h
            · rename_i b n off len _;cases hH:H b with
              | none=>rw[hH] at h;simp at h
              | some blk=>
               rw[hH] at h;simp only at h
               split at h
               · cases h;intro p hp;simp at hp;subst hp;exact .inr (by simp[hH])
               · simp at h
            · simp at h
          · simp at h
      · simp at h
    · simp at h
   | len=>
    simp only[execA] at h
    (repeat' split at h)<;>first|(simp at h;done)|exact triv (hchg h)|(cases h;exact triv rfl)
   | min=>
    simp only[execA] at h
    (repeat' split at h)<;>first|(simp at h;done)|exact triv (hchg h)
   | max=>
    simp only[execA] at h
    (repeat' split at h)<;>first|(simp at h;done)|exact triv (hchg h)
   | unsafeSliceData=>
    simp only[execA] at h
    (repeat' split at h)<;>first|(simp at h;done)|exact triv (hchg h)|(cases h;exact triv rfl)
   | unsafeString=>
    simp only[execA] at h
    split at h
    · split at h
      · split at h
        · rename_i blk e hH he
          split at h
          · split at h
            · cases h;intro p hp;simp at hp;subst hp;exact .inr (by simp[hH])
            · simp at h
          · simp at h
        · simp at h
      · simp at h
    · simp at h
   | _=>simp[execA] at h
  | _=>simp[execA] at h
 | binOp op t x y u=>
  simp only[execA] at h
  (repeat' split at h)<;>first|(simp at h;done)|(unfold pure1 at h;simp only[Option.map_eq_some_iff] at h;obtain ⟨_,_,rfl⟩:=h;exact triv rfl)
 | unOp op t x=>
  simp only[execA] at h
  (repeat' split at h)<;>first|(simp at h;done)|(unfold pure1 at h;simp only[Option.map_eq_some_iff] at h;obtain ⟨_,_,rfl⟩:=h;exact triv rfl)
 | move x=>exact triv (hchg h)
 | assign x=>exact triv (hchg h)
 | makeFunc f a b=>exact triv (hchg h)
 | _=>
  simp only[execA] at h
  first
   | (simp at h;done)
   | ((repeat' split at h)<;>first|(simp at h;done)|exact triv (hchg h)|(cases h;exact triv rfl))
theorem qdgb {id:Nat} {ev:Operand→AV} {op:Op} {r:Res} (h:OpStep P G id ev H op r):∀ p∈r.hs,p.1=id∨(H p.1).isSome=true:=by
 rcases h with h|⟨callee,args,ats,f,first,caps,keep,pin,ro,m,Hin,args',Hout,r',rfl,hc,hs⟩
 · exact qvnb h
 · intro p hp;rw[hs.hs] at hp;rcases List.mem_append.1 hp with hp|hp
   · split at hp
     · simp only[pinHs,List.mem_filterMap,Option.map_eq_some_iff] at hp;obtain ⟨b,_,blk,hb,rfl⟩:=hp;exact .inr (by simp[hb])
     · simp at hp
   · split at hp
     · simp at hp
     · simp only[outHs,List.mem_map,List.mem_range] at hp;obtain ⟨i,hi,rfl⟩:=hp
       by_cases hi0:i<Hin.length
       · have:=hs.call.old i hi0;unfold pinH at this;refine .inr ?_
         split at this
         · cases hH:H (m i) with
           | none=>rw[hH] at this;simp at this
           | some b=>simp
         · simp[this]
       · exact .inl (hs.newId i (by omega) hi)
end Am
