/- What functions of the program compute: lemmas. -/
import Derived.Test.YtojkhlijbpmgpaaGreatSr7
import Derived.Test.YtojkhlijbpmgpaaGreatSt
import Derived.Test.YtojkhlijbpmgpaaGreatAm6
import Derived.Test.YtojkhlijbpmgpaaGreatOd
import Derived.Test.YtojkhlijbpmgpaaGreatAm5
set_option linter.unusedSimpArgs false
set_option linter.unusedVariables false
set_option linter.unusedSectionVars false
namespace Go.Proofs.YtojkhlijbpmgpaaGreat
open Go Am
set_option maxRecDepth 100000
theorem same32_of {l : List F} (hl : F.sizes l < 1000000000) (ih : ∀ g ∈ l,run tb 42 [.int .i64 g.op,.str g.name,.sl (F.encs g.args),.int .i64 g.op,.str g.name,.sl (F.encs g.args)] = some [.bool true]) : run tb 13 [.sl (F.encs l),.sl (F.encs l)] = some [.bool true] := by
 refine run_ir (x := ir13) rfl ?_
 have hla := F.sizes_len l
 simp (disch := omega) only [ir13,stepQ,stepL,eq_self,aBin,reduceIte,Int.reduceEq,Int.reduceLT,Int.reduceLE,Int.reduceGT,Int.reduceGE,len_F,ibne]
 refine loop_k (σ := Unit) l.length (fun _ _ => True) (fun i _ => [.int .i64 i]) (fun _ _ => [.bool true]) ?_ ?_ 0 () (Nat.zero_le _) trivial
 · rintro i _ L hi _ hL
   have hnext := hL () trivial
   have hr := ih _ (List.getElem_mem hi)
   simp (disch := omega) only [ir13p0,stepQ,stepL,eq_self,aBin,reduceIte,Int.reduceEq,Int.reduceLT,Int.reduceLE,Int.reduceGT,Int.reduceGE,len_F,hi,row_F,hr,callQ_tb,wr,natS,hnext]
 · rintro _ L _
   simp (disch := omega) only [ir13p0,stepQ,stepL,eq_self,aBin,reduceIte,Int.reduceEq,Int.reduceLT,Int.reduceLE,Int.reduceGT,Int.reduceGE,len_F,Nat.lt_irrefl]
theorem equal32_run : ∀ f : F,f.size < 1000000000 → run tb 42 [.int .i64 f.op,.str f.name,.sl (F.encs f.args),.int .i64 f.op,.str f.name,.sl (F.encs f.args)] = some [.bool true] := by
 refine bySizeF fun f ih hs => ?_
 refine run_ir (x := ir42) rfl ?_
 have hse := F.size_eq f
 have b1 : (f.name == f.name) = true := beq_self_eq_true _
 have hr := same32_of (l := f.args) (by omega) fun g hg => ih g hg (by have := mem_size hg; omega)
 simp (disch := omega) only [ir42,stepQ,stepL,eq_self,aBin,reduceIte,Int.reduceEq,Int.reduceLT,Int.reduceLE,Int.reduceGT,Int.reduceGE,b1,hr,callQ_tb]
theorem same32_run (l : List F) (hf : ∀ f ∈ l,f.size < 1000000000) (hl : l.length < 1000000000) : run tb 13 [.sl (F.encs l),.sl (F.encs l)] = some [.bool true] := by
 refine run_ir (x := ir13) rfl ?_
 simp (disch := omega) only [ir13,stepQ,stepL,eq_self,aBin,reduceIte,Int.reduceEq,Int.reduceLT,Int.reduceLE,Int.reduceGT,Int.reduceGE,len_F,ibne]
 refine loop_k (σ := Unit) l.length (fun _ _ => True) (fun i _ => [.int .i64 i]) (fun _ _ => [.bool true]) ?_ ?_ 0 () (Nat.zero_le _) trivial
 · rintro i _ L hi _ hL
   have hnext := hL () trivial
   have hr := equal32_run _ (hf _ (List.getElem_mem hi))
   simp (disch := omega) only [ir13p0,stepQ,stepL,eq_self,aBin,reduceIte,Int.reduceEq,Int.reduceLT,Int.reduceLE,Int.reduceGT,Int.reduceGE,len_F,hi,row_F,hr,callQ_tb,wr,natS,hnext]
 · rintro _ L _
   simp (disch := omega) only [ir13p0,stepQ,stepL,eq_self,aBin,reduceIte,Int.reduceEq,Int.reduceLT,Int.reduceLE,Int.reduceGT,Int.reduceGE,len_F,Nat.lt_irrefl]
theorem formulas32_run (most n : Nat) (hm : most < 1000) (h1 : 1 ≤ n) (h2 : n ≤ 26) (l : List Int) (hl : l.length ≤ 2000) (p : Nat) (hp : p ≤ l.length) :
 ∃ (fs : List F) (b : Nat),b ≤ l.length ∧ fs.length ≤ most ∧ (∀ f ∈ fs,Made n 3 f) ∧ run tb 6 [.int .i64 most,.int .i64 n,numsD l,.int .i64 p] = some [.sl (F.encs fs),numsD l,.int .i64 b] := by
 obtain ⟨c,b0,c0,c1,hb0,hc⟩ := n_run ((most + 1 : Nat) : Int) l p hl hp (by omega) (by omega)
 obtain ⟨c,rfl⟩ := Int.eq_ofNat_of_zero_le c0
 have key := loop_kx (run := run tb) (body := ir6p0) (e := [.int .i64 most,.int .i64 n,numsD l,.int .i64 p,.int .i64 ((most + 1 : Nat) : Int),.int .i64 c,numsD l,.int .i64 b0]) (J := []) (σ := Nat × List F) c
  (fun j s => s.1 ≤ l.length ∧ s.2.length = j ∧ ∀ f ∈ s.2,Made n 3 f) (fun j s => [.int .i64 ((c - j : Nat) : Int),numsD l,.int .i64 s.1,.sl (F.encs s.2)]) (fun r => ∃ (fs : List F) (b : Nat),b ≤ l.length ∧ fs.length ≤ most ∧ (∀ f ∈ fs,Made n 3 f) ∧ r = [.sl (F.encs fs),numsD l,.int .i64 b])
  (by
   rintro j ⟨q,fs⟩ L hj ⟨hq,hfl,hfs⟩ hL
   simp only at hq hfl hfs
   obtain ⟨f,q',hq',hf,hr⟩ := formula_run n h1 h2 l hl 3 (by omega) q hq
   have hr : run tb 14 [.int .i64 n,.int .i64 3,numsD l,.int .i64 q] = some [.int .i64 f.op,.str f.name,.sl (F.encs f.args),numsD l,.int .i64 q'] := hr
   obtain ⟨r,hr1,hpost⟩ := hL (q',fs ++ [f]) ⟨hq',by simp [hfl],fun g hg => by
    rcases List.mem_append.1 hg with hg | hg
    · exact hfs g hg
    · rw [List.mem_singleton.1 hg]; exact hf⟩
   refine ⟨r,?_,hpost⟩
   simp only at hr1
   have hpos : 0 < c - j := by omega
   have hgt : ((c - j : Nat) : Int) > 0 := by omega
   have hsub : IntKind.i64.wrap (((c - j : Nat) : Int) - 1) = ((c - (j + 1) : Nat) : Int) := by rw [wr (by omega) (by omega)]; omega
   simp (disch := omega) only [ir6p0,stepQ,stepL,eq_self,aBin,reduceIte,Int.reduceEq,Int.reduceLT,Int.reduceLE,Int.reduceGT,Int.reduceGE,hgt,hr,app_F,hsub,hr1])
  (by
   rintro ⟨q,fs⟩ L ⟨hq,hfl,hfs⟩
   simp only at hq hfl hfs
   refine ⟨_,?_,fs,q,hq,by omega,hfs,rfl⟩
   have hgt : ¬ ((c - c : Nat) : Int) > 0 := by omega
   simp (disch := omega) only [ir6p0,stepQ,stepL,eq_self,aBin,reduceIte,Int.reduceEq,Int.reduceLT,Int.reduceLE,Int.reduceGT,Int.reduceGE,hgt])
 obtain ⟨r,hr,fs,b,k1,k2,k3,rfl⟩ := key 0 (b0,[]) (Nat.zero_le _) ⟨hb0,rfl,by simp⟩
 refine ⟨fs,b,k1,k2,k3,run_ir (x := ir6) rfl ?_⟩
 simp only [Nat.sub_zero,F.encs] at hr
 simp (disch := omega) only [ir6,stepQ,stepL,eq_self,aBin,reduceIte,Int.reduceEq,Int.reduceLT,Int.reduceLE,Int.reduceGT,Int.reduceGE,wr,natS,hc]
 simpa only [List.cons_append,List.nil_append] using hr
def lightB (l : List F) : Bool := l.all smallF && decide (l.length ≤ 20)
theorem light_run (l : List F) (hl : l.length < 9223372036854775808) : run tb 1 [.sl (F.encs l)] = some [.bool (lightB l)] := by
 refine run_ir (x := ir1) rfl ?_
 simp (disch := omega) only [ir1,stepQ,stepL,eq_self,aBin,reduceIte,Int.reduceEq,Int.reduceLT,Int.reduceLE,Int.reduceGT,Int.reduceGE]
 refine loop_k (σ := Unit) l.length (fun i _ => lightB l = ((l.drop i).all smallF && decide (l.length ≤ 20))) (fun i _ => [.int .i64 i]) (fun _ _ => [.bool (lightB l)]) ?_ ?_ 0 () (Nat.zero_le _) rfl
 · rintro i _ L hi hp hL
   have hsm := small_run l[i]
   simp only [rowF] at hsm
   rw [List.drop_eq_getElem_cons hi,List.all_cons] at hp
   cases c : smallF l[i] with
   | true =>
    rw [c,Bool.true_and] at hp
    rw [c] at hsm
    have hnext := hL () hp
    simp (disch := omega) only [ir1p0,stepQ,stepL,eq_self,aBin,reduceIte,Int.reduceEq,Int.reduceLT,Int.reduceLE,Int.reduceGT,Int.reduceGE,len_F,hi,row_F,hsm,wr,natS,hnext]
   | false =>
    rw [c] at hsm hp
    rw [hp]
    simp (disch := omega) only [ir1p0,stepQ,stepL,eq_self,aBin,reduceIte,Int.reduceEq,Int.reduceLT,Int.reduceLE,Int.reduceGT,Int.reduceGE,len_F,hi,row_F,hsm]
 · rintro _ L hp
   rw [List.drop_length] at hp
   rw [hp]
   by_cases c : l.length ≤ 20
   · have c' : (l.length : Int) ≤ 20 := by omega
     simp (disch := omega) only [ir1p0,stepQ,stepL,eq_self,aBin,reduceIte,Int.reduceEq,Int.reduceLT,Int.reduceLE,Int.reduceGT,Int.reduceGE,len_F,Nat.lt_irrefl,c,c',List.all_nil]
   · have c' : ¬ (l.length : Int) ≤ 20 := by omega
     simp (disch := omega) only [ir1p0,stepQ,stepL,eq_self,aBin,reduceIte,Int.reduceEq,Int.reduceLT,Int.reduceLE,Int.reduceGT,Int.reduceGE,len_F,Nat.lt_irrefl,c,c',List.all_nil]
end Go.Proofs.YtojkhlijbpmgpaaGreat

namespace Go.Proofs.YtojkhlijbpmgpaaGreat
open Go Am
set_option maxRecDepth 100000
def ordsD (os : List (List (List UInt8) × List Int)) : D := .sl (os.map fun o => [strsD o.1,numsD o.2])
theorem get_O {os : List (List (List UInt8) × List Int)} {i : Nat} (h : i < os.length) : PO.eval (.get 0 2) [ordsD os,.int .i64 i] = some [strsD os[i].1,numsD os[i].2] := by
 simp [PO.eval,ordsD,h]
theorem chk_O {os : List (List (List UInt8) × List Int)} {i : Nat} (h : i < os.length) : PO.eval .chk [ordsD os,.int .i64 i] = some [] := ev_chk (by omega) (by simp; omega)
theorem len_O (os : List (List (List UInt8) × List Int)) : PO.eval .lenL [ordsD os] = some [.int .i64 os.length] := by simp [ordsD,ev_lenL]
theorem small_size {f : F} (h : smallF f = true) : f.size ≤ 800 ∧ f.depth ≤ 30 ∧ F.allF nameB f = true := by
 unfold smallF at h
 simp only [Bool.and_eq_true,decide_eq_true_eq] at h
 exact ⟨h.1,h.2.1,allF_mono (fun g hg => by simp only [shortB,nameB,decide_eq_true_eq] at hg ⊢; omega) f h.2.2⟩
end Go.Proofs.YtojkhlijbpmgpaaGreat

namespace Go.Proofs.YtojkhlijbpmgpaaGreat
open Go Am
set_option maxRecDepth 100000
def lsD (vs : List (List (List UInt8))) : D := .sl (vs.map fun v => [strsD v])
theorem get_LS {vs : List (List (List UInt8))} {i : Nat} (h : i < vs.length) : PO.eval (.get 0 1) [lsD vs,.int .i64 i] = some [strsD vs[i]] := by simp [PO.eval,lsD,h]
theorem chk_LS {vs : List (List (List UInt8))} {i : Nat} (h : i < vs.length) : PO.eval .chk [lsD vs,.int .i64 i] = some [] := ev_chk (by omega) (by simp; omega)
theorem len_LS (vs : List (List (List UInt8))) : PO.eval .lenL [lsD vs] = some [.int .i64 vs.length] := by simp [lsD,ev_lenL]
def ffD (vs : List (List F)) : D := .sl (vs.map fun v => [.sl (F.encs v)])
theorem get_FF {vs : List (List F)} {i : Nat} (h : i < vs.length) : PO.eval (.get 0 1) [ffD vs,.int .i64 i] = some [.sl (F.encs vs[i])] := by simp [PO.eval,ffD,h]
theorem chk_FF {vs : List (List F)} {i : Nat} (h : i < vs.length) : PO.eval .chk [ffD vs,.int .i64 i] = some [] := ev_chk (by omega) (by simp; omega)
theorem len_FF (vs : List (List F)) : PO.eval .lenL [ffD vs] = some [.int .i64 vs.length] := by simp [ffD,ev_lenL]
theorem rkR_res (names : List (List UInt8)) (hn : names.length < 1000000000) (l : List Int) (hl : l.length < 1000000000) : ∃ (nm : List (List UInt8)) (R : List Int) (E : Int),nm.length < 1000000000 ∧ R.length < 1000000000 ∧ rkR names l = [strsD nm,numsD R,.int .i64 E] := by
 unfold rkR
 split
 · exact ⟨names,normS l,0,hn,by rw [norm_len]; exact hl,rfl⟩
 · exact ⟨[],[],1,by simp,by simp,rfl⟩
theorem rank_res (names : List (List UInt8)) (hn : names.length < 60) (fs : List F) : ∃ (nm : List (List UInt8)) (R : List Int) (E : Int),nm.length < 1000000000 ∧ R.length < 1000000000 ∧ rankR names fs = [strsD nm,numsD R,.int .i64 E] := by
 unfold rankR
 split
 · rename_i h
   have hv : vocOk names = true := by
    unfold strE at h
    cases hv : vocOk names with
    | true => rfl
    | false => rw [hv] at h; simp at h
   have h64 := pow6 (vocOk_len hv)
   exact rkR_res names (by omega) _ (by rw [rkL_len]; omega)
 · exact ⟨[],[],_,by simp,by simp,rfl⟩
theorem st_res (names : List (List UInt8)) (ranks : List Int) : ∃ (fs : List F) (E : Int),(∀ f ∈ fs,f.size < 1000000000) ∧ fs.length < 1000000000 ∧ stR names ranks = [.sl (F.encs fs),.int .i64 E] := by
 unfold stR
 split
 · rename_i h
   obtain ⟨hv,_,hr⟩ := orderE_zero h
   have hlen := orderE_len h
   have hlt := maxR_lt (rkOk_in hr) hlen.2
   refine ⟨stS names ranks,0,fun f hf => ?_,by unfold stS; rw [List.length_reverse,ascS_len]; omega,rfl⟩
   unfold stS ascS at hf
   rw [List.mem_reverse,List.mem_map] at hf
   obtain ⟨j,_,rfl⟩ := hf
   obtain ⟨_,t2,_,_⟩ := thy_ok (vocOk_names hv) (upS ranks j)
   have h6 := pow6 (vocOk_len hv)
   omega
 · exact ⟨[],_,by simp,by simp,rfl⟩
theorem deg_res (names : List (List UInt8)) (ranks : List Int) (f : F) : ∃ c h : Int,(if degE names ranks f = 0 then [.int .i64 (degS ranks (modelsS names f)),.int .i64 0] else [.int .i64 0,.int .i64 (degE names ranks f)] : List D) = [.int .i64 c,.int .i64 h] := by
 split
 · exact ⟨_,_,rfl⟩
 · exact ⟨_,_,rfl⟩
theorem ranks_run (raw : List (List UInt8)) (rk : List Int) (gv : List F) (l0 : List Int) (hgl : gv.length < 9223372036854775808) (hraw : ∀ s ∈ raw,s.length < 9223372036854775808) :
 run tb 0 [strsD raw,numsD rk,.sl (F.encs gv),numsD l0] = some [.bool true] := by
 have aw := awake32_run
 refine run_ir (x := ir0) rfl ?_
 have hlt := light_run gv hgl
 by_cases c1 : (raw.length : Int) > 10
 · simp (disch := omega) only [ir0,ir0p7,stepQ,stepL,eq_self,aBin,reduceIte,Int.reduceEq,Int.reduceLT,Int.reduceLE,Int.reduceGT,Int.reduceGE,len_S,c1,aw]
 by_cases c2 : (rk.length : Int) > 100
 · simp (disch := omega) only [ir0,ir0p7,stepQ,stepL,eq_self,aBin,reduceIte,Int.reduceEq,Int.reduceLT,Int.reduceLE,Int.reduceGT,Int.reduceGE,len_S,len_N,c1,c2,aw]
 cases c3 : lightB gv with
 | false =>
  rw [c3] at hlt
  simp (disch := omega) only [ir0,ir0p7,stepQ,stepL,eq_self,aBin,reduceIte,Int.reduceEq,Int.reduceLT,Int.reduceLE,Int.reduceGT,Int.reduceGE,len_S,len_N,c1,c2,hlt,aw]
 | true =>
 rw [c3] at hlt
 unfold lightB at c3
 rw [Bool.and_eq_true,decide_eq_true_eq,List.all_eq_true] at c3
 have hgv : ∀ h ∈ gv,h.size < 1000000000 ∧ F.allF nameB h = true := fun h hh => by
  have := small_size (c3.1 h hh)
  exact ⟨by omega,this.2.2⟩
 have hgv20 := c3.2
 clear c3
 obtain ⟨l,hl,hn⟩ := new_run l0
 obtain ⟨r,p,r1,r2,hp,hr⟩ := range_run 0 3 l 0 hl (by omega) (by omega) (by omega) (by omega)
 obtain ⟨n,rfl⟩ := Int.eq_ofNat_of_zero_le (show 0 ≤ r by omega)
 have hr : run tb 4 [.int .i64 0,.int .i64 3,numsD l,.int .i64 0] = some [.int .i64 n,numsD l,.int .i64 p] := hr
 have hn6 : n ≤ 6 := by omega
 have hvo : run tb 7 [.int .i64 n] = some [strsD (vocN n)] := voc_run n (by omega)
 obtain ⟨rs,p1,hrs,hp1,hso⟩ := some_run n hn6 l p hl hp
 obtain ⟨fs,p2,hp2,hfl,hfs,hfr⟩ := formulas32_run 4 (max n 1) (by omega) (by omega) (by omega) l hl p1 hp1
 have hfr : run tb 6 [.int .i64 4,.int .i64 (max n 1 : Nat),numsD l,.int .i64 p1] = some [.sl (F.encs fs),numsD l,.int .i64 p2] := hfr
 have hfsk : ∀ h ∈ fs,h.size < 1000000000 ∧ F.allF nameB h = true := fun h hh => by
  obtain ⟨g1,g2,_⟩ := made_models (n := max n 1) (by omega) (by omega) (hfs h hh)
  exact ⟨by omega,good_nameB g1⟩
 have hmax : (if (1 : Int) > (n : Int) then (1 : Int) else n) = ((max n 1 : Nat) : Int) := by split <;> omega
 have hvs : ∀ s ∈ vocN n,s.length < 9223372036854775808 := fun s hs => by rw [vocN_short s hs]; omega
 obtain ⟨vs,hvse⟩ : ∃ vs : List (List (List UInt8)),vs = [raw,vocN n] := ⟨_,rfl⟩
 have hmk : PO.eval (.mk 1 2) [strsD raw,strsD (vocN n)] = some [lsD vs] := by subst hvse; rfl
 have hsh : ∀ x ∈ vs,x.length < 60 ∧ ∀ s ∈ x,s.length < 9223372036854775808 := by
  subst hvse
  intro x hx
  simp only [List.mem_cons,List.not_mem_nil,or_false] at hx
  rcases hx with rfl | rfl
  · exact ⟨by omega,hraw⟩
  · exact ⟨by rw [vocN_len]; omega,hvs⟩
 have lvs : vs.length = 2 := by subst hvse; rfl
 clear hvse
 obtain ⟨gs,hgs⟩ : ∃ gs : List (List F),gs = [gv,fs] := ⟨_,rfl⟩
 have hmkg : PO.eval (.mk 1 2) [.sl (F.encs gv),.sl (F.encs fs)] = some [ffD gs] := by subst hgs; rfl
 have hgsk : ∀ x ∈ gs,x.length < 1000000000 ∧ ∀ h ∈ x,h.size < 1000000000 ∧ F.allF nameB h = true := by
  subst hgs
  intro x hx
  simp only [List.mem_cons,List.not_mem_nil,or_false] at hx
  rcases hx with rfl | rfl
  · exact ⟨by omega,hgv⟩
  · exact ⟨by omega,hfsk⟩
 have lgs : gs.length = 2 := by subst hgs; rfl
 clear hgs
 obtain ⟨os,hos⟩ : ∃ os : List (List (List UInt8) × List Int),os = [(raw,rk),(vocN n,normS rs)] := ⟨_,rfl⟩
 have hmko : PO.eval (.mk 2 2) [strsD raw,numsD rk,strsD (vocN n),numsD (normS rs)] = some [ordsD os] := by subst hos; rfl
 have hosk : ∀ x ∈ os,x.1.length < 60 ∧ (∀ s ∈ x.1,s.length < 9223372036854775808) ∧ x.2.length < 1000000000 := by
  subst hos
  intro x hx
  have h64 := pow6 hn6
  simp only [List.mem_cons,List.not_mem_nil,or_false] at hx
  rcases hx with rfl | rfl
  · exact ⟨by simp only; omega,hraw,by simp only; omega⟩
  · exact ⟨by simp only [vocN_len]; omega,hvs,by simp only [norm_len]; omega⟩
 have los : os.length = 2 := by subst hos; rfl
 clear hos
 simp (disch := omega) only [ir0,ir0p7,stepQ,stepL,eq_self,aBin,reduceIte,Int.reduceEq,Int.reduceLT,Int.reduceLE,Int.reduceGT,Int.reduceGE,len_S,len_N,c1,c2,hlt,hn,hr,hso,ev_max,hmax,hfr,hvo,callQ_S,hmk,len_LS]
 refine loop_k (σ := Unit) vs.length (fun _ _ => True) (fun i _ => [.int .i64 i]) (fun _ _ => [.bool true]) ?_ ?_ 0 () (Nat.zero_le _) trivial
 · rintro i _ L1 hi _ hL1
   have hnext1 := hL1 () trivial
   obtain ⟨x1,x2⟩ := hsh vs[i] (List.getElem_mem hi)
   have hgt := get_LS hi
   have hck := chk_LS hi
   generalize vs[i] = x at *
   simp (disch := omega) only [ir0p6,stepQ,stepL,eq_self,aBin,reduceIte,Int.reduceEq,Int.reduceLT,Int.reduceLE,Int.reduceGT,Int.reduceGE,hi,hck,hgt,hmkg,len_FF]
   refine loop_k (σ := Unit) gs.length (fun _ _ => True) (fun i _ => [.int .i64 i]) (fun _ _ => [.bool true]) ?_ ?_ 0 () (Nat.zero_le _) trivial
   · rintro j _ L2 hj _ hL2
     have hnext := hL2 () trivial
     obtain ⟨y1,y2⟩ := hgsk gs[j] (List.getElem_mem hj)
     have hgt2 := get_FF hj
     have hck2 := chk_FF hj
     generalize gs[j] = hs at *
     have e1 := rankP_run x (by omega) hs (fun f hf => (y2 f hf).1) y1
     have e2 := rank32_run x (by omega) x2 hs (fun f hf => (y2 f hf).1) y1 (fun f hf => (y2 f hf).2)
     obtain ⟨nm,R,E,z1,z2,z3⟩ := rank_res x x1 hs
     rw [z3] at e1 e2
     have hsm := sameR_run nm z1 R z2
     simp (disch := omega) only [ir0p1,ir0p0,stepQ,stepL,eq_self,aBin,reduceIte,Int.reduceEq,Int.reduceLT,Int.reduceLE,Int.reduceGT,Int.reduceGE,hj,hck2,hgt2,e1,e2,ibne,hsm,callQ_tb,wr,natS,hnext]
   · rintro _ L2 _
     simp (disch := omega) only [ir0p1,stepQ,stepL,eq_self,aBin,reduceIte,Int.reduceEq,Int.reduceLT,Int.reduceLE,Int.reduceGT,Int.reduceGE,Nat.lt_irrefl,wr,natS,hnext1]
 · rintro _ L1 _
   simp (disch := omega) only [ir0p6,stepQ,stepL,eq_self,aBin,reduceIte,Int.reduceEq,Int.reduceLT,Int.reduceLE,Int.reduceGT,Int.reduceGE,Nat.lt_irrefl,hmko,len_O]
   refine loop_k (σ := Nat) os.length (fun _ q => q ≤ l.length) (fun i q => [.int .i64 i,numsD l,.int .i64 q]) (fun _ _ => [.bool true]) ?_ ?_ 0 p2 (Nat.zero_le _) hp2
   · rintro i q L2 hi hq hL2
     obtain ⟨x1,x2,x3⟩ := hosk os[i] (List.getElem_mem hi)
     have hgt := get_O hi
     have hck := chk_O hi
     generalize os[i].1 = nmx at *
     generalize os[i].2 = rkx at *
     have e1 := strataP_run nmx rkx (by omega) x3
     have e2 := strata32_run nmx rkx (by omega) x2 x3
     obtain ⟨ss,E,z1,z2,z3⟩ := st_res nmx rkx
     rw [z3] at e1 e2
     have hsm := same32_run ss z1 z2
     obtain ⟨g,q2,hq2,hmg,hg⟩ := formula_run 3 (by omega) (by omega) l hl 3 (by omega) q hq
     have hg : run tb 14 [.int .i64 3,.int .i64 3,numsD l,.int .i64 q] = some [.int .i64 g.op,.str g.name,.sl (F.encs g.args),numsD l,.int .i64 q2] := hg
     obtain ⟨g1,g2,_⟩ := made_models (n := 3) (by omega) (by omega) hmg
     have ap0 := app_F0 (l := gv) (by omega)
     have ap1 := app_F (l := gv) (g := g) (by omega)
     have hnext := hL2 q2 hq2
     have hal : ∀ h ∈ gv ++ [g],h.size < 1000000000 ∧ F.allF nameB h = true := fun h hh => by
      rcases List.mem_append.1 hh with hh | hh
      · exact hgv h hh
      · rw [List.mem_singleton.1 hh]; exact ⟨by omega,good_nameB g1⟩
     have hall : (gv ++ [g]).length < 1000000000 := by simp; omega
     simp (disch := omega) only [ir0p5,ir0p4,stepQ,stepL,eq_self,aBin,reduceIte,Int.reduceEq,Int.reduceLT,Int.reduceLE,Int.reduceGT,Int.reduceGE,hi,hck,hgt,e1,e2,ibne,hsm,callQ_tb,ap0,hg,ap1,len_F]
     generalize gv ++ [g] = ga at *
     refine loop_k (σ := Unit) ga.length (fun _ _ => True) (fun i _ => [.int .i64 i]) (fun _ _ => [.bool true]) ?_ ?_ 0 () (Nat.zero_le _) trivial
     · rintro j _ L3 hj _ hL3
       have hnext3 := hL3 () trivial
       obtain ⟨y1,y2⟩ := hal ga[j] (List.getElem_mem hj)
       have hck3 := chk_F hj
       have hgt3 := get_F hj
       simp only [rowF] at hgt3
       have d1 := degree_run nmx rkx ga[j] (by omega) x3 y1
       have d2 := degree32_run nmx rkx ga[j] (by omega) x2 x3 y1 y2
       obtain ⟨cc,hh,hdr⟩ := deg_res nmx rkx ga[j]
       rw [hdr] at d1 d2
       simp (disch := omega) only [ir0p3,ir0p2,stepQ,stepL,eq_self,aBin,reduceIte,Int.reduceEq,Int.reduceLT,Int.reduceLE,Int.reduceGT,Int.reduceGE,hj,hck3,hgt3,d1,d2,ibne,wr,natS,hnext3]
     · rintro _ L3 _
       simp (disch := omega) only [ir0p3,stepQ,stepL,eq_self,aBin,reduceIte,Int.reduceEq,Int.reduceLT,Int.reduceLE,Int.reduceGT,Int.reduceGE,Nat.lt_irrefl,wr,natS,hnext]
   · rintro _ L2 _
     simp (disch := omega) only [ir0p5,stepQ,stepL,eq_self,aBin,reduceIte,Int.reduceEq,Int.reduceLT,Int.reduceLE,Int.reduceGT,Int.reduceGE,Nat.lt_irrefl,aw,callQ_tb]
end Go.Proofs.YtojkhlijbpmgpaaGreat
