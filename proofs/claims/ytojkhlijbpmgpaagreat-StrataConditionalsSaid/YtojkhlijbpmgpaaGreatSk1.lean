/- What functions of the program compute: lemmas. -/
import Derived.Test.YtojkhlijbpmgpaaGreatSr7
import Derived.Test.YtojkhlijbpmgpaaGreatSt
import Derived.Test.YtojkhlijbpmgpaaGreatAm6
import Derived.Test.YtojkhlijbpmgpaaGreatOd
import Derived.Test.YtojkhlijbpmgpaaGreatAm5
import Derived.Test.YtojkhlijbpmgpaaGreatSn2
set_option linter.unusedSimpArgs false
set_option linter.unusedVariables false
set_option linter.unusedSectionVars false
namespace Go.Proofs.YtojkhlijbpmgpaaGreat
open Go Am
set_option maxRecDepth 100000
theorem same32_of {l : List F} (hl : F.sizes l < 1000000000) (ih : ∀ g ∈ l,run tb 16 [.int .i64 g.op,.str g.name,.sl (F.encs g.args),.int .i64 g.op,.str g.name,.sl (F.encs g.args)] = some [.bool true]) : run tb 44 [.sl (F.encs l),.sl (F.encs l)] = some [.bool true] := by
 refine run_ir (x := ir44) rfl ?_
 have hla := F.sizes_len l
 simp (disch := omega) only [ir44,stepQ,stepL,eq_self,aBin,reduceIte,ibne]
 refine loop_k (σ := Unit) l.length (fun _ _ => True) (fun i _ => [.int .i64 i]) (fun _ _ => [.bool true]) ?_ ?_ 0 () (Nat.zero_le _) trivial
 · rintro i _ L hi _ hL
   have hnext := hL () trivial
   have hr := ih _ (List.getElem_mem hi)
   simp (disch := omega) only [ir44p0,stepQ,stepL,eq_self,aBin,reduceIte,hi,row_F,hr,wr,natS,hnext]
 · rintro _ L _
   simp (disch := omega) only [ir44p0,stepQ,stepL,eq_self,aBin,reduceIte,Nat.lt_irrefl]
theorem equal32_run : ∀ f : F,f.size < 1000000000 → run tb 16 [.int .i64 f.op,.str f.name,.sl (F.encs f.args),.int .i64 f.op,.str f.name,.sl (F.encs f.args)] = some [.bool true] := by
 refine bySizeF fun f ih hs => ?_
 refine run_ir (x := ir16) rfl ?_
 have hse := F.size_eq f
 have b1 : (f.name == f.name) = true := beq_self_eq_true _
 have hr := same32_of (l := f.args) (by omega) fun g hg => ih g hg (by have := mem_size hg; omega)
 simp (disch := omega) only [ir16,stepQ,stepL,eq_self,aBin,reduceIte,b1,hr]
end Go.Proofs.YtojkhlijbpmgpaaGreat

namespace Go.Proofs.YtojkhlijbpmgpaaGreat
open Go Am
set_option maxRecDepth 100000
def ordsD (os : List (List (List UInt8) × List Int)) : D := .sl (os.map fun o => [strsD o.1,numsD o.2])
theorem get_O {os : List (List (List UInt8) × List Int)} {i : Nat} (h : i < os.length) : PO.eval (.get 0 2) [ordsD os,.int .i64 i] = some [strsD os[i].1,numsD os[i].2] := by
 simp [PO.eval,ordsD,h]
theorem chk_O {os : List (List (List UInt8) × List Int)} {i : Nat} (h : i < os.length) : PO.eval .chk [ordsD os,.int .i64 i] = some [] := ev_chk (by omega) (by simp; omega)
theorem len_O (os : List (List (List UInt8) × List Int)) : PO.eval .lenL [ordsD os] = some [.int .i64 os.length] := by simp [ordsD,ev_lenL]
theorem nbb (b : Bool) : PO.eval (.bin .neq true) [.bool b,.bool b] = some [.bool false] := by cases b <;> rfl
theorem small_size {f : F} (h : smallF f = true) : f.size ≤ 800 ∧ f.depth ≤ 30 ∧ F.allF nameB f = true := by
 unfold smallF at h
 simp only [Bool.and_eq_true,decide_eq_true_eq] at h
 exact ⟨h.1,h.2.1,allF_mono (fun g hg => by simp only [shortB,nameB,decide_eq_true_eq] at hg ⊢; omega) f h.2.2⟩
end Go.Proofs.YtojkhlijbpmgpaaGreat

namespace Go.Proofs.YtojkhlijbpmgpaaGreat
open Go Am
set_option maxRecDepth 100000
def lsD (vs : List (List (List UInt8))) : D := .sl (vs.map fun v => [strsD v])
theorem get_LS {vs : List (List (List UInt8))} {i : Nat} (h : i < vs.length) : PO.eval (.get 0 1) [lsD vs,.int .i64 i] = some [strsD vs[i]] := by simp [PO.eval,lsD,h]
theorem chk_LS {vs : List (List (List UInt8))} {i : Nat} (h : i < vs.length) : PO.eval .chk [lsD vs,.int .i64 i] = some [] := ev_chk (by omega) (by simp; omega)
theorem len_LS (vs : List (List (List UInt8))) : PO.eval .lenL [lsD vs] = some [.int .i64 vs.length] := by simp [lsD,ev_lenL]
theorem rkR_res (names : List (List UInt8)) (hn : names.length < 1000000000) (l : List Int) (hl : l.length < 1000000000) : ∃ (nm : List (List UInt8)) (R : List Int) (E : Int),nm.length < 1000000000 ∧ R.length < 1000000000 ∧ rkR names l = [strsD nm,numsD R,.int .i64 E] := by
 unfold rkR
 split
 · exact ⟨names,normS l,0,hn,by rw [norm_len]; exact hl,rfl⟩
 · exact ⟨[],[],1,by simp,by simp,rfl⟩
end Go.Proofs.YtojkhlijbpmgpaaGreat

namespace Go.Proofs.YtojkhlijbpmgpaaGreat
open Go Am
set_option maxRecDepth 100000
def ccD (vs : List (List CF)) : D := .sl (vs.map fun v => [condsD v])
theorem get_CC {vs : List (List CF)} {i : Nat} (h : i < vs.length) : PO.eval (.get 0 1) [ccD vs,.int .i64 i] = some [condsD vs[i]] := by simp [PO.eval,ccD,h]
theorem chk_CC {vs : List (List CF)} {i : Nat} (h : i < vs.length) : PO.eval .chk [ccD vs,.int .i64 i] = some [] := ev_chk (by omega) (by simp; omega)
theorem len_CC (vs : List (List CF)) : PO.eval .lenL [ccD vs] = some [.int .i64 vs.length] := by simp [ccD,ev_lenL]
theorem get_C {l : List CF} {i : Nat} (h : i < l.length) : PO.eval (.get 0 6) [condsD l,.int .i64 i] = some (rowC l[i]) := by simp [PO.eval,condsD,h,rowC]
theorem chk_C {l : List CF} {i : Nat} (h : i < l.length) : PO.eval .chk [condsD l,.int .i64 i] = some [] := ev_chk (by omega) (by simp; omega)
theorem app_C2 {a b : List CF} (h : a.length + b.length < 1000000000000) : PO.eval (.app 6 96) [condsD a,condsD b] = some [condsD (a ++ b)] := by
 have := ev_app (sz := 6) (bt := 96) (xs := a.map rowC) (ys := b.map rowC) (by simp; omega) (by simp; omega) (by simp [rowC])
 simpa [condsD] using this
theorem ly_res (names : List (List UInt8)) (l : List CF) : ∃ (V : List Int) (E : Int),V.length < 1000000000 ∧ lyR names l = [numsD V,.int .i64 E] := by
 unfold lyR
 split
 · rename_i h
   have hp64 : (prsS names l).length ≤ 64 := by simp only [prsS,List.length_map]; exact (prE_len h).2
   cases hl : layS (prsS names l) with
   | none => exact ⟨[],9,by simp,rfl⟩
   | some o => exact ⟨o,0,by have := (layS_ok hp64 hl).1; omega,rfl⟩
 · exact ⟨[],_,by simp,rfl⟩
theorem z_res (names : List (List UInt8)) (hn : names.length < 60) (l : List CF) : ∃ (nm : List (List UInt8)) (R : List Int) (E : Int),nm.length < 1000000000 ∧ R.length < 1000000000 ∧ zR names l = [strsD nm,numsD R,.int .i64 E] := by
 unfold zR
 split
 · rename_i h
   have h64 := pow6 (vocOk_len (prE_len h).1)
   cases hl : layS (prsS names l) with
   | none => exact ⟨[],[],9,by simp,by simp,rfl⟩
   | some o => exact rkR_res names (by omega) _ (by rw [zL_len]; omega)
 · exact ⟨[],[],_,by simp,by simp,rfl⟩
theorem cd_res (names : List (List UInt8)) (ranks : List Int) : ∃ (cs : List CF) (E : Int),(∀ c ∈ cs,c.1.size < 1000000000 ∧ c.2.size < 1000000000) ∧ cs.length < 1000000000 ∧ cdR names ranks = [condsD cs,.int .i64 E] := by
 unfold cdR
 split
 · rename_i h
   obtain ⟨hv,_,hr⟩ := orderE_zero h
   have hlen := orderE_len h
   have hlt := maxR_lt (rkOk_in hr) hlen.2
   refine ⟨cdS names ranks (maxR ranks).toNat,0,fun c hc => ?_,by rw [cdS_len]; omega,rfl⟩
   unfold cdS at hc
   obtain ⟨j,_,rfl⟩ := List.mem_map.1 hc
   have h6 := pow6 (vocOk_len hv)
   obtain ⟨_,t2,_,_⟩ := thy_ok (vocOk_names hv) (fromS ranks (j : Int))
   obtain ⟨_,t3,_,_⟩ := thy_ok (vocOk_names hv) (levS ranks j ranks.length)
   unfold cdF
   exact ⟨by simp only; omega,by simp only; omega⟩
 · exact ⟨[],_,by simp,by simp,rfl⟩
theorem acc_res (names : List (List UInt8)) (ranks : List Int) (f g : F) : ∃ (b : Bool) (h : Int),(if accE names ranks f g = 0 then [.bool (accS names ranks f g),.int .i64 0] else [.bool false,.int .i64 (accE names ranks f g)] : List D) = [.bool b,.int .i64 h] := by
 split
 · exact ⟨_,_,rfl⟩
 · exact ⟨_,_,rfl⟩
theorem conditionals_run (raw : List (List UInt8)) (rk : List Int) (gv : List CF) (l0 : List Int) (hraw : ∀ s ∈ raw,s.length < 9223372036854775808) :
 run tb 0 [strsD raw,numsD rk,condsD gv,numsD l0] = some [.bool true] := by
 have aw := awake32_run
 refine run_ir (x := ir0) rfl ?_
 by_cases c1 : (raw.length : Int) > 10
 · simp (disch := omega) only [ir0,ir0p11,stepQ,stepL,eq_self,aBin,reduceIte,len_S,c1,aw]
 by_cases c2 : (rk.length : Int) > 100
 · simp (disch := omega) only [ir0,ir0p11,stepQ,stepL,eq_self,aBin,reduceIte,len_S,len_N,c1,c2,aw]
 by_cases c3 : (gv.length : Int) > 10
 · simp (disch := omega) only [ir0,ir0p11,stepQ,stepL,eq_self,aBin,reduceIte,len_S,len_N,len_C,c1,c2,c3,aw]
 simp (disch := omega) only [ir0,ir0p11,stepQ,stepL,eq_self,aBin,reduceIte,len_S,len_N,len_C,c1,c2,c3]
 refine loop_k (σ := Unit) gv.length (fun i _ => ∀ j,(h : j < gv.length) → j < i → smallF gv[j].1 = true ∧ smallF gv[j].2 = true) (fun i _ => [.int .i64 i]) (fun _ _ => [.bool true]) ?_ ?_ 0 () (Nat.zero_le _) (fun j h h' => by omega)
 · rintro i _ L hi hpre hL
   have hr := row_C hi
   unfold rowC at hr
   have s1 := small_run gv[i].1
   have s2 := small_run gv[i].2
   simp only [rowF] at s1 s2
   cases d1 : smallF gv[i].1 with
   | false =>
    rw [d1] at s1
    simp (disch := omega) only [ir0p10,ir0p0,stepQ,stepL,eq_self,aBin,reduceIte,len_C,hi,hr,s1,aw]
   | true =>
    rw [d1] at s1
    cases d2 : smallF gv[i].2 with
    | false =>
     rw [d2] at s2
     simp (disch := omega) only [ir0p10,ir0p0,stepQ,stepL,eq_self,aBin,reduceIte,len_C,hi,hr,s1,s2,aw]
    | true =>
     rw [d2] at s2
     have hnext := hL () (fun j h h' => by
      by_cases e : j = i
      · subst e; exact ⟨d1,d2⟩
      · exact hpre j h (by omega))
     simp (disch := omega) only [ir0p10,ir0p0,stepQ,stepL,eq_self,aBin,reduceIte,len_C,hi,hr,s1,s2,wr,natS,hnext]
 rintro _ L hpre
 have hgv : ∀ c ∈ gv,(c.1.size < 1000000000 ∧ c.2.size < 1000000000) ∧ F.allF nameB c.1 = true ∧ F.allF nameB c.2 = true := fun c hc => by
  obtain ⟨j,hj,rfl⟩ := List.getElem_of_mem hc
  obtain ⟨a,b⟩ := hpre j hj hj
  have a := small_size a
  have b := small_size b
  exact ⟨⟨by omega,by omega⟩,a.2.2,b.2.2⟩
 obtain ⟨l,hl,hn⟩ := new_run l0
 obtain ⟨r,p,r1,r2,hp,hr⟩ := range_run 1 3 l 0 hl (by omega) (by omega) (by omega) (by omega)
 obtain ⟨n,rfl⟩ := Int.eq_ofNat_of_zero_le (show 0 ≤ r by omega)
 have hr : run tb 4 [.int .i64 1,.int .i64 3,numsD l,.int .i64 0] = some [.int .i64 n,numsD l,.int .i64 p] := hr
 have hn6 : n ≤ 6 := by omega
 have hvo : run tb 7 [.int .i64 n] = some [strsD (vocN n)] := voc_run n (by omega)
 obtain ⟨rs,p1,hrs,hp1,hso⟩ := some_run n hn6 l p hl hp
 obtain ⟨sc,p2,hp2,hsl,hsc,hcr⟩ := condsC_run 4 n (by omega) (by omega) (by omega) l hl p1 hp1
 have hcr : run tb 6 [.int .i64 4,.int .i64 n,numsD l,.int .i64 p1] = some [condsD sc,numsD l,.int .i64 p2] := hcr
 have hsk : ∀ c ∈ sc,(c.1.size < 1000000000 ∧ c.2.size < 1000000000) ∧ F.allF nameB c.1 = true ∧ F.allF nameB c.2 = true := fun c hc => by
  obtain ⟨_,h2,h3,_⟩ := madeC_ok hn6 (hsc c hc)
  exact ⟨h2,h3⟩
 have hvs : ∀ s ∈ vocN n,s.length < 9223372036854775808 := fun s hs => by rw [vocN_short s hs]; omega
 obtain ⟨vs,hvse⟩ : ∃ vs : List (List (List UInt8)),vs = [raw,vocN n] := ⟨_,rfl⟩
 have hmk : PO.eval (.mk 1 2) [strsD raw,strsD (vocN n)] = some [lsD vs] := by subst hvse; rfl
 have hsh : ∀ x ∈ vs,x.length < 60 ∧ ∀ s ∈ x,s.length < 9223372036854775808 := by
  subst hvse
  intro x hx
  simp only [List.mem_cons,List.not_mem_nil,or_false] at hx
  rcases hx with rfl | rfl
  · exact ⟨by omega,hraw⟩
  · exact ⟨by rw [vocN_len]; omega,hvs⟩
 have lvs : vs.length = 2 := by subst hvse; rfl
 clear hvse
 obtain ⟨gs,hgs⟩ : ∃ gs : List (List CF),gs = [gv,sc] := ⟨_,rfl⟩
 have hmkg : PO.eval (.mk 1 2) [condsD gv,condsD sc] = some [ccD gs] := by subst hgs; rfl
 have hgsk : ∀ x ∈ gs,x.length < 1000000000 ∧ ∀ c ∈ x,(c.1.size < 1000000000 ∧ c.2.size < 1000000000) ∧ F.allF nameB c.1 = true ∧ F.allF nameB c.2 = true := by
  subst hgs
  intro x hx
  simp only [List.mem_cons,List.not_mem_nil,or_false] at hx
  rcases hx with rfl | rfl
  · exact ⟨by omega,hgv⟩
  · exact ⟨by omega,hsk⟩
 have lgs : gs.length = 2 := by subst hgs; rfl
 clear hgs
 obtain ⟨os,hos⟩ : ∃ os : List (List (List UInt8) × List Int),os = [(raw,rk),(vocN n,normS rs)] := ⟨_,rfl⟩
 have hmko : PO.eval (.mk 2 2) [strsD raw,numsD rk,strsD (vocN n),numsD (normS rs)] = some [ordsD os] := by subst hos; rfl
 have hosk : ∀ x ∈ os,x.1.length < 60 ∧ (∀ s ∈ x.1,s.length < 9223372036854775808) ∧ x.2.length < 1000000000 := by
  subst hos
  intro x hx
  have h64 := pow6 hn6
  simp only [List.mem_cons,List.not_mem_nil,or_false] at hx
  rcases hx with rfl | rfl
  · exact ⟨by simp only; omega,hraw,by simp only; omega⟩
  · exact ⟨by simp only [vocN_len]; omega,hvs,by simp only [norm_len]; omega⟩
 have los : os.length = 2 := by subst hos; rfl
 clear hos
 have hcz : D.sl [] = condsD [] := rfl
 have ap0 : PO.eval (.app 6 96) [.sl [],condsD gv] = some [condsD gv] := by rw [hcz,app_C2 (by simp; omega)]; rfl
 have ap1 := app_C2 (a := gv) (b := sc) (by omega)
 have hga : ∀ c ∈ gv ++ sc,(c.1.size < 1000000000 ∧ c.2.size < 1000000000) ∧ F.allF nameB c.1 = true ∧ F.allF nameB c.2 = true := fun c hc => by
  rcases List.mem_append.1 hc with h | h
  · exact hgv c h
  · exact hsk c h
 have hgal : (gv ++ sc).length < 1000000000 := by simp; omega
 simp (disch := omega) only [ir0p10,stepQ,stepL,eq_self,aBin,reduceIte,len_C,Nat.lt_irrefl,hn,hr,hso,hcr,hvo,hmk,len_LS]
 refine loop_k (σ := Unit) vs.length (fun _ _ => True) (fun i _ => [.int .i64 i]) (fun _ _ => [.bool true]) ?_ ?_ 0 () (Nat.zero_le _) trivial
 · rintro i _ L1 hi _ hL1
   have hnext1 := hL1 () trivial
   obtain ⟨x1,x2⟩ := hsh vs[i] (List.getElem_mem hi)
   have hgt := get_LS hi
   have hck := chk_LS hi
   generalize vs[i] = x at *
   simp (disch := omega) only [ir0p9,stepQ,stepL,eq_self,aBin,reduceIte,hi,hck,hgt,hmkg,len_CC]
   refine loop_k (σ := Unit) gs.length (fun _ _ => True) (fun i _ => [.int .i64 i]) (fun _ _ => [.bool true]) ?_ ?_ 0 () (Nat.zero_le _) trivial
   · rintro j _ L2 hj _ hL2
     have hnext := hL2 () trivial
     obtain ⟨y1,y2⟩ := hgsk gs[j] (List.getElem_mem hj)
     have hgt2 := get_CC hj
     have hck2 := chk_CC hj
     generalize gs[j] = hs at *
     have e1 := layersL_run x (by omega) hs (fun f hf => (y2 f hf).1) y1
     have e2 := layers32_run x (by omega) x2 hs (fun f hf => (y2 f hf).1) (fun f hf => (y2 f hf).2) y1
     have e3 := zP_run x (by omega) hs (fun f hf => (y2 f hf).1) y1
     have e4 := z32_run x (by omega) x2 hs (fun f hf => (y2 f hf).1) (fun f hf => (y2 f hf).2) y1
     obtain ⟨nm,R,E,z1,z2,z3⟩ := z_res x x1 hs
     obtain ⟨V,E2,w1,w2⟩ := ly_res x hs
     rw [w2] at e1 e2
     rw [z3] at e3 e4
     have hsm := sameR_run nm z1 R z2
     have hin := ints_run V V w1
     rw [decide_eq_true rfl] at hin
     simp (disch := omega) only [ir0p2,ir0p1,stepQ,stepL,eq_self,aBin,reduceIte,hj,hck2,hgt2,e1,e2,e3,e4,ibne,hin,hsm,wr,natS,hnext]
   · rintro _ L2 _
     simp (disch := omega) only [ir0p2,stepQ,stepL,eq_self,aBin,reduceIte,Nat.lt_irrefl,wr,natS,hnext1]
 · rintro _ L1 _
   simp (disch := omega) only [ir0p9,stepQ,stepL,eq_self,aBin,reduceIte,Nat.lt_irrefl,hmko,len_O]
   refine loop_k (σ := Unit) os.length (fun _ _ => True) (fun i _ => [.int .i64 i]) (fun _ _ => [.bool true]) ?_ ?_ 0 () (Nat.zero_le _) trivial
   · rintro i _ L2 hi _ hL2
     have hnext := hL2 () trivial
     obtain ⟨x1,x2,x3⟩ := hosk os[i] (List.getElem_mem hi)
     have hgt := get_O hi
     have hck := chk_O hi
     generalize os[i].1 = nmx at *
     generalize os[i].2 = rkx at *
     have e1 := condsP_run nmx rkx (by omega) x3
     have e2 := conds32_run nmx rkx (by omega) x2 x3
     obtain ⟨cs,E,z1,z2,z3⟩ := cd_res nmx rkx
     rw [z3] at e1 e2
     simp (disch := omega) only [ir0p8,ir0p7,stepQ,stepL,eq_self,aBin,reduceIte,hi,hck,hgt,e1,e2,ibne,len_C]
     refine loop_k (σ := Unit) cs.length (fun _ _ => True) (fun i _ => [.int .i64 i]) (fun _ _ => [.bool true]) ?_ ?_ 0 () (Nat.zero_le _) trivial
     · rintro j _ L3 hj _ hL3
       have hnext3 := hL3 () trivial
       have hrw := row_C hj
       unfold rowC at hrw
       have hz := z1 cs[j] (List.getElem_mem hj)
       have q1 := equal32_run cs[j].1 hz.1
       have q2 := equal32_run cs[j].2 hz.2
       simp (disch := omega) only [ir0p6,ir0p3,stepQ,stepL,eq_self,aBin,reduceIte,len_C,hj,hrw,q1,q2,wr,natS,hnext3]
     · rintro _ L3 _
       simp (disch := omega) only [ir0p6,stepQ,stepL,eq_self,aBin,reduceIte,len_C,Nat.lt_irrefl,ap0,ap1]
       generalize gv ++ sc = ga at *
       refine loop_k (σ := Unit) ga.length (fun _ _ => True) (fun i _ => [.int .i64 i]) (fun _ _ => [.bool true]) ?_ ?_ 0 () (Nat.zero_le _) trivial
       · rintro j _ L4 hj _ hL4
         have hnext4 := hL4 () trivial
         obtain ⟨y1,y2⟩ := hga ga[j] (List.getElem_mem hj)
         have hck3 := chk_C hj
         have hgt3 := get_C hj
         unfold rowC at hgt3
         have d1 := accepts_run nmx rkx ga[j].1 ga[j].2 (by omega) x3 y1.1 y1.2
         have d2 := accepts32_run nmx rkx ga[j].1 ga[j].2 (by omega) x2 x3 y1.1 y1.2 y2.1 y2.2
         obtain ⟨bb,hh,hdr⟩ := acc_res nmx rkx ga[j].1 ga[j].2
         rw [hdr] at d1 d2
         simp (disch := omega) only [ir0p5,ir0p4,stepQ,stepL,eq_self,aBin,reduceIte,hj,hck3,hgt3,d1,d2,nbb,ibne,wr,natS,hnext4]
       · rintro _ L4 _
         simp (disch := omega) only [ir0p5,stepQ,stepL,eq_self,aBin,reduceIte,Nat.lt_irrefl,wr,natS,hnext]
   · rintro _ L2 _
     simp (disch := omega) only [ir0p8,stepQ,stepL,eq_self,aBin,reduceIte,Nat.lt_irrefl,aw]
end Go.Proofs.YtojkhlijbpmgpaaGreat
