/- What functions of the program compute: lemmas. -/
import Derived.Test.YtojkhlijbpmgpaaGreatSr7
import Derived.Test.YtojkhlijbpmgpaaGreatAm6
import Derived.Test.YtojkhlijbpmgpaaGreatSt
set_option linter.unusedSimpArgs false
set_option linter.unusedVariables false
set_option linter.unusedSectionVars false
namespace Go.Proofs.YtojkhlijbpmgpaaGreat
open Go Am
set_option maxRecDepth 100000
end Go.Proofs.YtojkhlijbpmgpaaGreat

namespace Go.Proofs.YtojkhlijbpmgpaaGreat
open Go Am
set_option maxRecDepth 100000
end Go.Proofs.YtojkhlijbpmgpaaGreat

namespace Go.Proofs.YtojkhlijbpmgpaaGreat
open Go Am
set_option maxRecDepth 100000
def MadeC (n : Nat) (c : CF) : Prop := Made n 2 c.1 ∧ Made n 2 c.2
theorem condsC_run (most n : Nat) (hm : most < 1000) (h1 : 1 ≤ n) (h2 : n ≤ 26) (l : List Int) (hl : l.length ≤ 2000) (p : Nat) (hp : p ≤ l.length) :
 ∃ (cs : List CF) (b : Nat),b ≤ l.length ∧ cs.length ≤ most ∧ (∀ c ∈ cs,MadeC n c) ∧ run tb 6 [.int .i64 most,.int .i64 n,numsD l,.int .i64 p] = some [condsD cs,numsD l,.int .i64 b] := by
 obtain ⟨c,b0,c0,c1,hb0,hc⟩ := n_run ((most + 1 : Nat) : Int) l p hl hp (by omega) (by omega)
 obtain ⟨c,rfl⟩ := Int.eq_ofNat_of_zero_le c0
 have key := loop_kx (run := run tb) (body := ir6p0) (e := [.int .i64 most,.int .i64 n,numsD l,.int .i64 p,.int .i64 ((most + 1 : Nat) : Int),.int .i64 c,numsD l,.int .i64 b0]) (J := []) (σ := Nat × List CF) c
  (fun j s => s.1 ≤ l.length ∧ s.2.length = j ∧ ∀ f ∈ s.2,MadeC n f) (fun j s => [.int .i64 ((c - j : Nat) : Int),numsD l,.int .i64 s.1,condsD s.2]) (fun r => ∃ (fs : List CF) (b : Nat),b ≤ l.length ∧ fs.length ≤ most ∧ (∀ f ∈ fs,MadeC n f) ∧ r = [condsD fs,numsD l,.int .i64 b])
  (by
   rintro j ⟨q,fs⟩ L hj ⟨hq,hfl,hfs⟩ hL
   simp only at hq hfl hfs
   obtain ⟨f,q',hq',hf,hr⟩ := formula_run n h1 h2 l hl 2 (by omega) q hq
   have hr : run tb 28 [.int .i64 n,.int .i64 2,numsD l,.int .i64 q] = some [.int .i64 f.op,.str f.name,.sl (F.encs f.args),numsD l,.int .i64 q'] := hr
   obtain ⟨g,q2,hq2,hg,hr2⟩ := formula_run n h1 h2 l hl 2 (by omega) q' hq'
   have hr2 : run tb 28 [.int .i64 n,.int .i64 2,numsD l,.int .i64 q'] = some [.int .i64 g.op,.str g.name,.sl (F.encs g.args),numsD l,.int .i64 q2] := hr2
   obtain ⟨r,hr1,hpost⟩ := hL (q2,fs ++ [(f,g)]) ⟨hq2,by simp [hfl],fun x hx => by
    rcases List.mem_append.1 hx with hx | hx
    · exact hfs x hx
    · rw [List.mem_singleton.1 hx]; exact ⟨hf,hg⟩⟩
   refine ⟨r,?_,hpost⟩
   simp only at hr1
   have hgt : ((c - j : Nat) : Int) > 0 := by omega
   have hsub : IntKind.i64.wrap (((c - j : Nat) : Int) - 1) = ((c - (j + 1) : Nat) : Int) := by rw [wr (by omega) (by omega)]; omega
   have hap := app_C (l := fs) (c := (f,g)) (by omega)
   unfold rowC at hap
   simp only at hap
   simp (disch := omega) only [ir6p0,stepQ,stepL,eq_self,aBin,reduceIte,hgt,hr,hr2,ev_mk61,hap,hsub,hr1])
  (by
   rintro ⟨q,fs⟩ L ⟨hq,hfl,hfs⟩
   simp only at hq hfl hfs
   refine ⟨_,?_,fs,q,hq,by omega,hfs,rfl⟩
   have hgt : ¬ ((c - c : Nat) : Int) > 0 := by omega
   simp (disch := omega) only [ir6p0,stepQ,stepL,eq_self,aBin,reduceIte,hgt])
 obtain ⟨r,hr,fs,b,k1,k2,k3,rfl⟩ := key 0 (b0,[]) (Nat.zero_le _) ⟨hb0,rfl,by simp⟩
 refine ⟨fs,b,k1,k2,k3,run_ir (x := ir6) rfl ?_⟩
 simp only [Nat.sub_zero] at hr
 simp (disch := omega) only [ir6,stepQ,stepL,eq_self,aBin,reduceIte,wr,natS,hc]
 exact hr
theorem madeC_ok {n : Nat} (hn : n ≤ 6) {c : CF} (h : MadeC n c) : (modelsE (vocN n) c.1 = 0 ∧ modelsE (vocN n) c.2 = 0) ∧ (c.1.size < 1000000000 ∧ c.2.size < 1000000000) ∧ (F.allF nameB c.1 = true ∧ F.allF nameB c.2 = true) ∧ ∀ w,has (modelsS (vocN n) c.1) w → w < 2 ^ n := by
 obtain ⟨a1,a2,_,_,a5,a6⟩ := made_models hn (by omega) h.1
 obtain ⟨b1,b2,_,_,b5,b6⟩ := made_models hn (by omega) h.2
 refine ⟨⟨a5,b5⟩,⟨by omega,by omega⟩,⟨good_nameB a1,good_nameB b1⟩,fun w hw => ?_⟩
 rw [a6] at hw
 have := (has_modN (voc := vocN n) (f := c.1) (w := w) (by rw [vocN_len]; exact hn))
 rw [vocN_len] at this
 exact (this.1 hw).1
end Go.Proofs.YtojkhlijbpmgpaaGreat
