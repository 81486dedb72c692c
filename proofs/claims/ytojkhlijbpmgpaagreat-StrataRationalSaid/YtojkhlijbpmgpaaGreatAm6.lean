/- What functions of the program compute: lemmas. -/
import Derived.Test.YtojkhlijbpmgpaaGreatAm5
import Derived.Lib.TrailingZeros
set_option linter.unusedSimpArgs false
set_option linter.unusedVariables false
set_option linter.unusedSectionVars false
namespace Am
open Go
namespace F
mutual
theorem beq_true : ∀ f g : F,beq f g = true → f = g
 | mk o s a,mk o' s' a',h => by
  simp only [beq,Bool.and_eq_true,decide_eq_true_eq] at h
  obtain ⟨rfl,rfl,h3,h4⟩ := h
  rw [beqs_true a a' h3 h4]
theorem beqs_true : ∀ l l' : List F,l.length = l'.length → beqs l l' = true → l = l'
 | [],[],_,_ => rfl
 | [],_ :: _,h,_ => by simp at h
 | x :: l,[],h,_ => by simp at h
 | x :: l,y :: l',h,h2 => by
  simp only [beqs,Bool.and_eq_true] at h2
  rw [beq_true x y h2.1,beqs_true l l' (by simpa using h) h2.2]
end
end F
def pr (o : Int) (f g : F) : F := F.mk o [] [f,g]
def hf (S : BitVec 64) (b i : Nat) : BitVec 64 := bitsTo (fun u => decide (2 * u + b < i) && S.getLsbD (2 * u + b)) 64
theorem val_pr5 (ys : List (List UInt8)) (f g : F) : F.val ys (pr 5 f g) = (F.val ys f && F.val ys g) := by
 rw [F.val_eq]; simp [pr,valO,F.op_mk,F.args_mk]
theorem val_pr6 (ys : List (List UInt8)) (f g : F) : F.val ys (pr 6 f g) = (F.val ys f || F.val ys g) := by
 rw [F.val_eq]; simp [pr,valO,F.op_mk,F.args_mk]
theorem good_nd {o : Int} {s : List UInt8} {l : List F} (h1 : counted (F.mk o s l) = true) (h2 : named (F.mk o s l) = true) (h3 : ∀ g ∈ l,good g = true) : good (F.mk o s l) = true := by
 unfold good
 rw [F.allF_eq,F.allF_eq named,h1,h2,F.args_mk,Bool.true_and,Bool.true_and,Bool.and_eq_true,allFs_all,allFs_all,List.all_eq_true,List.all_eq_true]
 refine ⟨fun g hg => ?_,fun g hg => ?_⟩
 · have := h3 g hg; simp only [good,Bool.and_eq_true] at this; exact this.1
 · have := h3 g hg; simp only [good,Bool.and_eq_true] at this; exact this.2
theorem good_pr {o : Int} {f g : F} (ho : o = 5 ∨ o = 6) (hf : good f = true) (hg : good g = true) : good (pr o f g) = true := by
 rcases ho with rfl | rfl
 · exact good_nd rfl rfl (by simp [hf,hg])
 · exact good_nd rfl rfl (by simp [hf,hg])
theorem atomL_pr {o : Int} (ho : o ≠ 3) (f g : F) : F.atomL (pr o f g) = F.atomL f ++ F.atomL g := by
 simp [pr,F.atomL,F.atomLs]
end Am

namespace Am
open Go
abbrev has (X : BitVec 64) (w : Nat) : Prop := X.getLsbD w = true
theorem has_lt {X : BitVec 64} {w : Nat} (h : has X w) : w < 64 := by
 refine Decidable.byContradiction fun hn => ?_
 have := BitVec.getLsbD_of_ge X w (by omega)
 rw [has,this] at h; cases h
theorem has_and {X Y : BitVec 64} {w : Nat} : has (X &&& Y) w ↔ has X w ∧ has Y w := by simp [has]
theorem has_or {X Y : BitVec 64} {w : Nat} : has (X ||| Y) w ↔ has X w ∨ has Y w := by simp [has]
theorem has_diff {X Y : BitVec 64} {w : Nat} : has (X &&& ~~~Y) w ↔ has X w ∧ ¬ has Y w := by
 constructor
 · intro h
   have hw := has_lt h
   simpa [has,hw] using h
 · rintro ⟨h1,h2⟩
   have hw := has_lt h1
   simpa [has,hw,h1] using h2
theorem has_bits {p : Nat → Bool} {n w : Nat} (hn : n ≤ 64) : has (bitsTo p n) w ↔ w < n ∧ p w = true := by rw [has,bitsTo_get _ _ _ hn]; simp
theorem set_eq {X Y : BitVec 64} (h : ∀ w,has X w ↔ has Y w) : X = Y := bv_ext fun w _ => by
 have := h w
 cases hx : X.getLsbD w <;> cases hy : Y.getLsbD w <;> simp [has,hx,hy] at this <;> rfl
theorem set_zero {X : BitVec 64} : X = 0#64 ↔ ∀ w,¬ has X w := by
 constructor
 · rintro rfl w h; simp [has] at h
 · intro h; exact set_eq fun w => ⟨fun hx => absurd hx (h w),fun h0 => by simp [has] at h0⟩
theorem set_sub {X Y : BitVec 64} : X &&& ~~~Y = 0#64 ↔ ∀ w,has X w → has Y w := by
 rw [set_zero]
 constructor
 · intro h w hx
   exact Classical.byContradiction fun hy => h w (has_diff.2 ⟨hx,hy⟩)
 · intro h w hw
   rw [has_diff] at hw
   exact hw.2 (h w hw.1)
theorem set_ne {X : BitVec 64} (h : X ≠ 0#64) : ∃ w,has X w := Classical.byContradiction fun hn => h (set_zero.2 fun w hw => hn ⟨w,hw⟩)
theorem min_ex (r : Nat → Int) (P : Nat → Prop) : ∀ N : Nat,(∃ v,v < N ∧ P v) → ∃ w,w < N ∧ P w ∧ ∀ v,v < N → P v → r w ≤ r v
 | 0,⟨v,h,_⟩ => by omega
 | N + 1,⟨v,hv,hp⟩ => by
  by_cases hN : ∃ v,v < N ∧ P v
  · obtain ⟨w,h1,h2,h3⟩ := min_ex r P N hN
    by_cases hc : P N ∧ r N < r w
    · refine ⟨N,by omega,hc.1,fun u hu hpu => ?_⟩
      by_cases huN : u = N
      · subst huN; omega
      · have := h3 u (by omega) hpu; omega
    · refine ⟨w,by omega,h2,fun u hu hpu => ?_⟩
      by_cases huN : u = N
      · subst huN
        have : ¬ r u < r w := fun h => hc ⟨hpu,h⟩
        omega
      · exact h3 u (by omega) hpu
  · have : v = N := Classical.byContradiction fun h => hN ⟨v,by omega,hp⟩
    subst this
    refine ⟨v,by omega,hp,fun u hu hpu => ?_⟩
    by_cases huN : u = v
    · subst huN; omega
    · exact absurd ⟨u,by omega,hpu⟩ hN
structure Lst (N : Nat) (r : Nat → Int) (L : BitVec 64 → BitVec 64) : Prop where
 le : N ≤ 64
 get : ∀ S w,has (L S) w ↔ w < N ∧ has S w ∧ ∀ v,v < N → has S v → r w ≤ r v
theorem Lst.ex {N : Nat} {r : Nat → Int} {L : BitVec 64 → BitVec 64} (h : Lst N r L) {S : BitVec 64} {v : Nat} (hv : v < N) (hs : has S v) : ∃ w,has (L S) w := by
 obtain ⟨w,h1,h2,h3⟩ := min_ex r (fun v => has S v) N ⟨v,hv,hs⟩
 exact ⟨w,(h.get S w).2 ⟨h1,h2,h3⟩⟩
theorem leastS_lst {names : List (List UInt8)} {ranks : List Int} (h : orderE names ranks = 0) : Lst ranks.length (fun w => ranks.getD w (-1)) (leastS names ranks) :=
 ⟨(orderE_len h).1,fun S w => least_get h S w⟩
section
variable {N : Nat} {r : Nat → Int} {L : BitVec 64 → BitVec 64} (hL : Lst N r L)
include hL
variable {A M K : BitVec 64} (hA : ∀ w,has A w ↔ w < N) (hM : ∀ w,has M w → w < N) (hK : ∀ w,has K w → w < N)
include hA
theorem Lst.rest (w : Nat) : has (L (A &&& ~~~M)) w ↔ w < N ∧ ¬ has M w ∧ ∀ v,v < N → ¬ has M v → r w ≤ r v := by
 rw [hL.get,has_diff]
 constructor
 · rintro ⟨h1,⟨_,h2⟩,h3⟩
   exact ⟨h1,h2,fun v hv hm => h3 v hv (has_diff.2 ⟨(hA v).2 hv,hm⟩)⟩
 · rintro ⟨h1,h2,h3⟩
   exact ⟨h1,⟨(hA w).2 h1,h2⟩,fun v hv hm => h3 v hv (has_diff.1 hm).2⟩
end
def Wth (N : Nat) (r : Nat → Int) (M W : BitVec 64) : Prop := ∀ w,has W w ↔ w < N ∧ ((∃ u,u < N ∧ ¬ has M u) → ∀ v,v < N → ¬ has M v → r w ≤ r v) ∧ ((∀ u,u < N → has M u) → ∀ v,v < N → r w ≤ r v)
section
variable {N : Nat} {r : Nat → Int} {L : BitVec 64 → BitVec 64} (hL : Lst N r L) {A M K W V : BitVec 64} (hA : ∀ w,has A w ↔ w < N) (hM : ∀ w,has M w → w < N) (hW : Wth N r M W) (hV : Wth N r K V)
include hL hW
end
end Am

namespace Am
open Go
theorem has_all {names : List (List UInt8)} {ranks : List Int} (h : orderE names ranks = 0) (w : Nat) : has (allS names) w ↔ w < ranks.length := by
 have hz := orderE_zero h
 unfold allS
 rw [if_pos hz.1,has_bits (pow6 (vocOk_len hz.1)),hz.2.1]
 simp
theorem models_good {voc : List (List UInt8)} {f : F} (hv : vocOk voc = true) (hg : good f = true) (hs : f.size ≤ 600) (hd : f.depth ≤ 20) (ha : ∀ s ∈ F.atomL f,s ∈ voc) : modelsE voc f = 0 ∧ modelsS voc f = modN voc f (2 ^ voc.length) := by
 have h1 : validate f = 0 := by
  have h1 : ¬ (f.size : Int) > 600 := by omega
  have h2 : ¬ (f.depth : Int) > 20 := by omega
  simp only [good,Bool.and_eq_true] at hg
  simp [validate,h1,h2,hg.1,hg.2]
 have h2 : atomsIn voc f = true := by
  unfold atomsIn
  rw [List.all_eq_true]
  intro s hs
  have := ha s ((canon_mem _ s).1 hs)
  simpa using this
 have h3 : modelsE voc f = 0 := by simp [modelsE,hv,h1,h2]
 exact ⟨h3,by rw [modelsS,if_pos h3]⟩
theorem has_modN {voc : List (List UInt8)} {f : F} {w : Nat} (hv : voc.length ≤ 6) : has (modN voc f (2 ^ voc.length)) w ↔ w < 2 ^ voc.length ∧ F.val (yesN voc w) f = true := has_bits (pow6 hv)
theorem letter_voc {n : Nat} (hn : n ≤ 26) {s : List UInt8} (h : letter n s = true) : s ∈ vocN n := by
 unfold letter at h
 split at h
 · rename_i c
   simp only [Bool.and_eq_true,decide_eq_true_eq] at h
   refine List.mem_map.2 ⟨c.toNat - 97,List.mem_range.2 (by omega),?_⟩
   have : (97 + ((c.toNat - 97 : Nat) : Int)).toNat = c.toNat := by omega
   rw [this]
   simp
 · cases h
theorem lettered_atoms {n : Nat} : ∀ f : F,F.allF (lettered n) f = true → ∀ s ∈ F.atomL f,letter n s = true := by
 refine bySizeF fun f ih h s hs => ?_
 rw [F.allF_eq,Bool.and_eq_true] at h
 rw [F.atomL_eq] at hs
 split at hs
 · rename_i hc
   simp only [List.mem_singleton] at hs
   subst hs
   have := h.1
   unfold lettered at this
   simpa [hc.1] using this
 · have key : ∀ l : List F,(∀ g ∈ l,g ∈ f.args) → ∀ x ∈ F.atomLs l,letter n x = true := by
    intro l
    induction l with
    | nil => intro _ x hx; simp [F.atomLs] at hx
    | cons g l ihl =>
     intro hm x hx
     simp only [F.atomLs,List.mem_append] at hx
     rcases hx with hx | hx
     · exact ih g (hm g (by simp)) (allFs_mem h.2 g (hm g (by simp))) x hx
     · exact ihl (fun g hg => hm g (by simp [hg])) x hx
   exact key f.args (fun g hg => hg) s hs
theorem made_models {n d : Nat} (hn : n ≤ 6) (hd : d ≤ 3) {f : F} (h : Made n d f) : good f = true ∧ f.size ≤ 256 ∧ f.depth ≤ 3 ∧ (∀ s ∈ F.atomL f,s ∈ vocN n) ∧ modelsE (vocN n) f = 0 ∧ modelsS (vocN n) f = modN (vocN n) f (2 ^ n) := by
 obtain ⟨h1,h2,h3,h4⟩ := h
 have hs : f.size ≤ 256 := Nat.le_trans h3 (Nat.pow_le_pow_right (by omega) (by omega : d + 1 ≤ 4))
 have ha : ∀ s ∈ F.atomL f,s ∈ vocN n := fun s hs => letter_voc (by omega) (lettered_atoms f h4 s hs)
 have := models_good (vocN_ok hn) h1 (by omega) (by omega) ha
 rw [vocN_len] at this
 exact ⟨h1,hs,by omega,ha,this⟩
theorem pr5_models {voc : List (List UInt8)} (hv : vocOk voc = true) {f g : F} (hf : good f = true) (hg : good g = true) (sf : f.size ≤ 256) (sg : g.size ≤ 256) (df : f.depth ≤ 3) (dg : g.depth ≤ 3) (af : ∀ s ∈ F.atomL f,s ∈ voc) (ag : ∀ s ∈ F.atomL g,s ∈ voc) :
 modelsE voc (pr 5 f g) = 0 ∧ modelsS voc (pr 5 f g) = modN voc f (2 ^ voc.length) &&& modN voc g (2 ^ voc.length) := by
 have hs : (pr 5 f g).size = 1 + (f.size + g.size) := by simp [pr,F.size,F.sizes]
 have hd : (pr 5 f g).depth = max (1 + f.depth) (1 + g.depth) := by simp [pr,F.depth,F.depths]
 obtain ⟨h1,h2⟩ := models_good hv (good_pr (.inl rfl) hf hg) (by omega) (by omega) (fun s hs => by
  rw [atomL_pr (by decide)] at hs
  rcases List.mem_append.1 hs with h | h
  · exact af s h
  · exact ag s h)
 refine ⟨h1,?_⟩
 rw [h2]
 unfold modN
 rw [bits_and _ _ (pow6 (vocOk_len hv))]
 exact bits_congr (pow6 (vocOk_len hv)) fun w _ => val_pr5 _ f g
def ng (f : F) : F := F.mk 4 [] [f]
theorem val_ng (ys : List (List UInt8)) (f : F) : F.val ys (ng f) = !F.val ys f := by
 rw [F.val_eq]; simp [ng,valO,F.op_mk,F.args_mk]
theorem ng_models {voc : List (List UInt8)} (hv : vocOk voc = true) {f : F} (hf : good f = true) (sf : f.size ≤ 256) (df : f.depth ≤ 3) (af : ∀ s ∈ F.atomL f,s ∈ voc) :
 modelsE voc (ng f) = 0 ∧ modelsS voc (ng f) = allS voc &&& ~~~modN voc f (2 ^ voc.length) := by
 have hs : (ng f).size = 1 + f.size := by simp [ng,F.size,F.sizes]
 have hd : (ng f).depth = 1 + f.depth := by simp [ng,F.depth,F.depths]
 have ha : F.atomL (ng f) = F.atomL f := by simp [ng,F.atomL,F.atomLs]
 have hgn : good (ng f) = true := good_nd rfl rfl (by simpa using hf)
 obtain ⟨h1,h2⟩ := models_good hv hgn (by omega) (by omega) (fun s hs => af s (by rw [ha] at hs; exact hs))
 refine ⟨h1,?_⟩
 rw [h2]
 have h6 := vocOk_len hv
 refine set_eq fun w => ?_
 unfold allS
 rw [if_pos hv,has_modN h6,has_diff,has_bits (pow6 h6),has_modN h6,val_ng]
 constructor
 · rintro ⟨a,b⟩; exact ⟨⟨a,rfl⟩,fun h => by rw [h.2] at b; cases b⟩
 · rintro ⟨⟨a,_⟩,b⟩
   refine ⟨a,?_⟩
   cases hx : F.val (yesN voc w) f with
   | false => rfl
   | true => exact absurd ⟨a,hx⟩ b
end Am

namespace Am
open Go
def sortI (l : List Int) : List Int := l.mergeSort fun x y => decide (x ≤ y)
theorem sortI_len (l : List Int) : (sortI l).length = l.length := by simp [sortI]
theorem sortI_mem (l : List Int) (x : Int) : x ∈ sortI l ↔ x ∈ l := List.mem_mergeSort
theorem sortI_sorted (l : List Int) : (sortI l).Pairwise fun x y => x ≤ y := by
 have := List.pairwise_mergeSort (le := fun x y : Int => decide (x ≤ y)) (fun a b c h1 h2 => by simp only [decide_eq_true_eq] at *; omega) (fun a b => by simp only [Bool.or_eq_true,decide_eq_true_eq]; omega) l
 exact this.imp fun h => by simpa using h
theorem upToI_ok {zs : List Int} (hs : zs.Pairwise fun x y => x ≤ y) : ∀ m,m ≤ zs.length →
 (∀ x,x ∈ Lib.compactUpTo zs.toArray m ↔ x ∈ zs.take m) ∧ (Lib.compactUpTo zs.toArray m).Pairwise (fun x y => x < y) ∧ ∀ x ∈ Lib.compactUpTo zs.toArray m,∀ (h : m - 1 < zs.length),x ≤ zs[m - 1] := by
 intro m
 induction m with
 | zero => intro _; simp [Lib.compactUpTo]
 | succ m ih =>
  intro hm
  obtain ⟨h1,h2,h3⟩ := ih (by omega)
  have hg : zs.toArray[m]! = zs[m] := by simp [show m < zs.length by omega]
  have hle : ∀ x ∈ zs.take m,x ≤ zs[m] := by
   intro x hx
   obtain ⟨i,hi,rfl⟩ := List.getElem_of_mem hx
   simp only [List.length_take] at hi
   rw [List.getElem_take]
   exact List.pairwise_iff_getElem.1 hs i m (by omega) (by omega) (by omega)
  rw [Lib.compactUpTo_succ]
  by_cases hk : Lib.keeps zs.toArray m = true
  · rw [if_pos hk,hg]
    refine ⟨fun x => ?_,?_,?_⟩
    · rw [List.mem_append,h1,← take_snoc (show m < zs.length by omega),List.mem_append]
    · rw [List.pairwise_append]
      refine ⟨h2,by simp,fun x hx y hy => ?_⟩
      simp only [List.mem_singleton] at hy
      subst hy
      have hx' := (h1 x).1 hx
      rcases Nat.eq_zero_or_pos m with rfl | hm0
      · simp at hx'
      · have hx3 := h3 x hx (by omega)
        have hlt : zs[m - 1] ≤ zs[m] := List.pairwise_iff_getElem.1 hs (m - 1) m (by omega) (by omega) (by omega)
        have hne : zs[m] ≠ zs[m - 1] := by
         unfold Lib.keeps at hk
         simp only [decide_eq_true_eq] at hk
         have hg' : zs.toArray[m - 1]! = zs[m - 1] := by simp [show m - 1 < zs.length by omega]
         rw [hg,hg'] at hk
         rcases hk with h | h
         · omega
         · exact h
        have hxm := Int.le_trans hx3 hlt
        exact Decidable.byContradiction fun hn => hne (Int.le_antisymm (Int.le_trans (Int.not_lt.1 hn) hx3) hlt)
    · intro x hx h
      simp only [Nat.add_sub_cancel]
      rcases List.mem_append.1 hx with hx | hx
      · exact hle x ((h1 x).1 hx)
      · simp only [List.mem_singleton] at hx; subst hx; exact Int.le_refl _
  · rw [if_neg hk,List.append_nil]
    have hm0 : 0 < m ∧ zs[m] = zs[m - 1] := by
     unfold Lib.keeps at hk
     simp only [decide_eq_true_eq,not_or,Decidable.not_not] at hk
     have hg' : zs.toArray[m - 1]! = zs[m - 1] := by simp [show m - 1 < zs.length by omega]
     rw [hg,hg'] at hk
     exact ⟨by omega,hk.2⟩
    refine ⟨fun x => ?_,h2,?_⟩
    · rw [h1,← take_snoc (show m < zs.length by omega),List.mem_append]
      constructor
      · exact .inl
      · rintro (h | h)
        · exact h
        · simp only [List.mem_singleton] at h
          rw [h,hm0.2]
          exact List.mem_take_iff_getElem.2 ⟨m - 1,by omega,rfl⟩
    · intro x hx h
      exact hle x ((h1 x).1 hx)
def canonI (l : List Int) : List Int := Lib.compact (sortI l)
theorem canonI_mem (l : List Int) (x : Int) : x ∈ canonI l ↔ x ∈ l := by
 unfold canonI Lib.compact
 rw [(upToI_ok (sortI_sorted l) _ (Nat.le_refl _)).1,List.take_length,sortI_mem]
theorem canonI_asc (l : List Int) : (canonI l).Pairwise fun x y => x < y := by
 unfold canonI Lib.compact
 exact (upToI_ok (sortI_sorted l) _ (Nat.le_refl _)).2.1
theorem canonI_len (l : List Int) : (canonI l).length ≤ l.length := nodup_le ((canonI_asc l).imp fun h e => by subst e; exact Int.lt_irrefl _ h) fun x hx => (canonI_mem l x).1 hx
def lessN (t : Int) (l : List Int) : Nat := (l.filter fun x => decide (x < t)).length
theorem lessN_le (t : Int) (l : List Int) : lessN t l ≤ l.length := List.length_filter_le _ _
theorem lessN_take : ∀ {l : List Int},l.Pairwise (fun x y => x < y) → ∀ (t : Int) (i : Nat) (hi : i < l.length),l[i] < t ↔ i < lessN t l
 | [],_,_,i,hi => by simp at hi
 | a :: l,h,t,i,hi => by
  have h' := List.pairwise_cons.1 h
  unfold lessN
  by_cases ha : a < t
  · rw [List.filter_cons_of_pos (by simpa using ha)]
    cases i with
    | zero => simp [ha]
    | succ i =>
     have := lessN_take h'.2 t i (by simpa using hi)
     unfold lessN at this
     simp only [List.getElem_cons_succ,List.length_cons]
     omega
  · rw [List.filter_cons_of_neg (by simpa using ha)]
    have hnone : l.filter (fun x => decide (x < t)) = [] := List.filter_eq_nil_iff.2 fun x hx => by
     have := h'.1 x hx
     simp; omega
    rw [hnone]
    cases i with
    | zero => simp only [List.getElem_cons_zero,List.length_nil]; omega
    | succ i =>
     have := h'.1 _ (List.getElem_mem (show i < l.length by simpa using hi))
     simp only [List.getElem_cons_succ,List.length_nil]
     omega
theorem lessN_below (r : Int) (l : List Int) : lessN r (canonI l) = (belowL r l).length := by
 unfold lessN
 have hn : ((canonI l).filter fun x => decide (x < r)).Nodup := ((canonI_asc l).imp (S := fun a b => a ≠ b) fun h e => by subst e; exact Int.lt_irrefl _ h).filter _
 refine nodup_eq hn (belowL_nodup r l) fun x => ?_
 rw [List.mem_filter,canonI_mem,belowL_mem]
 simp
end Am

namespace Am
open Go
def sp (X : BitVec 64) (b i : Nat) : BitVec 64 := bitsTo (fun u => X.getLsbD (2 * u + b)) i
end Am

namespace Am
open Go
def Pat (l m : List Int) : Prop := l.length = m.length ∧ ∀ i j,i < l.length → j < l.length → (l.getD i 0 < l.getD j 0 ↔ m.getD i 0 < m.getD j 0)
theorem Pat.symm {l m : List Int} (h : Pat l m) : Pat m l := ⟨h.1.symm,fun i j hi hj => (h.2 i j (h.1 ▸ hi) (h.1 ▸ hj)).symm⟩
theorem Pat.trans {l m k : List Int} (h : Pat l m) (h' : Pat m k) : Pat l k := ⟨h.1.trans h'.1,fun i j hi hj => (h.2 i j hi hj).trans (h'.2 i j (h.1 ▸ hi) (h.1 ▸ hj))⟩
theorem gd {l : List Int} {i : Nat} (h : i < l.length) : l.getD i 0 = l[i] := by simp [h]
def Rk (N : Nat) (l : List Int) : Prop := l.length = N ∧ ∀ r ∈ l,0 ≤ r ∧ r < N
end Am

namespace Am
open Go
structure Ord (names : List (List UInt8)) (N : Nat) (o : List Int) : Prop where
 ok : orderE names o = 0
 rk : Rk N o
theorem Ord.least {names : List (List UInt8)} {N : Nat} {o : List Int} (h : Ord names N o) (S : BitVec 64) (w : Nat) : has (leastS names o S) w ↔ w < N ∧ has S w ∧ ∀ v,v < N → has S v → ¬ o.getD v 0 < o.getD w 0 := by
 have hl := (leastS_lst h.ok).get S w
 obtain ⟨rfl,_⟩ := h.rk
 have g0 : ∀ {i : Nat},i < o.length → o.getD i (-1) = o.getD i 0 := fun h => by simp [h]
 rw [hl]
 constructor
 · rintro ⟨h1,h2,h3⟩
   refine ⟨h1,h2,fun v hv hs => ?_⟩
   have := h3 v hv hs
   rw [g0 h1,g0 hv] at this
   omega
 · rintro ⟨h1,h2,h3⟩
   refine ⟨h1,h2,fun v hv hs => ?_⟩
   have := h3 v hv hs
   rw [g0 h1,g0 hv]
   omega
theorem Ord.ex {names : List (List UInt8)} {N : Nat} {o : List Int} (h : Ord names N o) {S : BitVec 64} {v : Nat} (hv : v < N) (hs : has S v) : ∃ w,has (leastS names o S) w := by
 have := (leastS_lst h.ok).ex (S := S) (v := v) (by rw [h.rk.1]; exact hv) hs
 exact this
theorem Ord.le {names : List (List UInt8)} {N : Nat} {o : List Int} (h : Ord names N o) : N ≤ 64 := by
 have := (orderE_len h.ok).1
 rw [h.rk.1] at this; exact this
section
variable {names : List (List UInt8)} {N : Nat} {o : List Int} (h : Ord names N o) {k : Int} (hk : k = 1 ∨ k = 2 ∨ k = 3)
include h hk
end
end Am

namespace Am
open Go
def mk (B m : Nat) : Nat → Nat
 | 0 => 0
 | k + 1 => B * mk B m k + m
def s1 (X k : Nat) : Nat := (X / 2 &&& mk 256 85 k) + (X &&& mk 256 85 k)
def s2 (X k : Nat) : Nat := (X / 4 &&& mk 256 51 k) + (X &&& mk 256 51 k)
def s3 (X k : Nat) : Nat := (X / 16 + X) &&& mk 256 15 k
end Am

namespace Am
open Go
end Am

namespace Am
open Go
end Am

namespace Am
open Go
theorem validate_zero {f : F} (h : validate f = 0) : f.size ≤ 600 ∧ f.depth ≤ 20 ∧ good f = true := by
 unfold validate at h
 split at h
 · simp at h
 · rename_i h1
   simp only [Bool.or_eq_true,decide_eq_true_eq,not_or] at h1
   split at h
   · simp at h
   · rename_i h2
     split at h
     · simp at h
     · rename_i h3
       refine ⟨by omega,by omega,?_⟩
       simp only [Bool.not_eq_true,Bool.not_eq_false'] at h2 h3
       simp [good,h2,h3]
end Am

namespace Am
open Go
theorem has_N {voc : List (List UInt8)} (hv : vocOk voc = true) {f : F} {w : Nat} : has (modN voc f (2 ^ voc.length)) w ↔ w < 2 ^ voc.length ∧ F.val (yesN voc w) f = true := has_modN (vocOk_len hv)
end Am

namespace Am
open Go
def fstE (names : List (List UInt8)) : List F → Int
 | [] => 0
 | f :: l => if modelsE names f = 0 then fstE names l else modelsE names f
theorem fstE_cons (names : List (List UInt8)) (f : F) (l : List F) : fstE names (f :: l) = if modelsE names f = 0 then fstE names l else modelsE names f := rfl
theorem fstE_nil (names : List (List UInt8)) : fstE names [] = 0 := rfl
def accE (names : List (List UInt8)) (ranks : List Int) (f g : F) : Int := if orderE names ranks ≠ 0 then orderE names ranks else fstE names [f,g]
def accS (names : List (List UInt8)) (ranks : List Int) (f g : F) : Bool := decide (leastS names ranks (modelsS names f) &&& ~~~modelsS names g = 0#64)
end Am

namespace Am
open Go
def mixL (f g : Nat → Int) (N i : Nat) : List Int := (List.range N).map fun v => if v < i then f v else g v
theorem mixL_len (f g : Nat → Int) (N i : Nat) : (mixL f g N i).length = N := by simp [mixL]
theorem mixL_get? (f g : Nat → Int) (N i k : Nat) (h : k < N) : (mixL f g N i)[k]? = some (if k < i then f k else g k) := by
 simp [mixL,List.getElem?_map,List.getElem?_range h]
theorem mixL_get (f g : Nat → Int) (N i k : Nat) (h : k < (mixL f g N i).length) : (mixL f g N i)[k] = if k < i then f k else g k := by
 have := mixL_get? f g N i k (by simpa [mixL_len] using h)
 rw [List.getElem?_eq_getElem h] at this
 exact Option.some.inj this
theorem mixL_zero (f g : Nat → Int) (N : Nat) : mixL f g N 0 = (List.range N).map g := by
 unfold mixL; refine List.map_congr_left fun v _ => by simp
theorem mixL_end (f g : Nat → Int) (N : Nat) : mixL f g N N = (List.range N).map f := by
 unfold mixL; refine List.map_congr_left fun v hv => by rw [if_pos (List.mem_range.1 hv)]
theorem mixL_set (f g : Nat → Int) (N i : Nat) (h : i < N) : (mixL f g N i).set i (f i) = mixL f g N (i + 1) := by
 refine List.ext_getElem? fun k => ?_
 by_cases hk : k < N
 · rw [mixL_get? f g N (i + 1) k hk,List.getElem?_set,mixL_len]
   by_cases e : i = k
   · subst e; rw [if_pos rfl,if_pos h,if_pos (by omega)]
   · rw [if_neg e,mixL_get? f g N i k hk]
     by_cases h3 : k < i
     · rw [if_pos h3,if_pos (by omega)]
     · rw [if_neg h3,if_neg (by omega)]
 · rw [List.getElem?_eq_none (by rw [List.length_set,mixL_len]; omega),List.getElem?_eq_none (by rw [mixL_len]; omega)]
theorem mixL_same (f g : Nat → Int) (N i : Nat) (h : f i = g i) : mixL f g N i = mixL f g N (i + 1) := by
 unfold mixL
 refine List.map_congr_left fun v _ => ?_
 by_cases e : v = i
 · subst e; rw [if_neg (by omega),if_pos (by omega),h]
 · by_cases h3 : v < i
   · rw [if_pos h3,if_pos (by omega)]
   · rw [if_neg h3,if_neg (by omega)]
def rkB : List (BitVec 64) → Nat → Int
 | [],_ => 0
 | m :: l,w => if m.getLsbD w = true then rkB l w else (l.length + 1 : Nat)
theorem rkB_cons (m : BitVec 64) (l : List (BitVec 64)) (w : Nat) : rkB (m :: l) w = if m.getLsbD w = true then rkB l w else (l.length + 1 : Nat) := rfl
def rkL (ms : List (BitVec 64)) (N : Nat) : List Int := (List.range N).map (rkB ms)
theorem rkL_len (ms : List (BitVec 64)) (N : Nat) : (rkL ms N).length = N := by simp [rkL]
def msO (names : List (List UInt8)) (fs : List F) : List (BitVec 64) := fs.map (modelsS names)
def strE (names : List (List UInt8)) (fs : List F) : Int := if vocOk names = false then 1 else if 64 < fs.length then 2 else fstE names fs
theorem fstE_zero {names : List (List UInt8)} : ∀ {fs : List F},fstE names fs = 0 ↔ ∀ f ∈ fs,modelsE names f = 0
 | [] => by simp [fstE]
 | f :: l => by
  rw [fstE_cons]
  by_cases h : modelsE names f = 0
  · rw [if_pos h,fstE_zero]; simp [h]
  · rw [if_neg h]; simp [h]
theorem rkB_drop {ms : List (BitVec 64)} {i : Nat} (h : i < ms.length) (w : Nat) : rkB (ms.drop i) w = if ms[i].getLsbD w = true then rkB (ms.drop (i + 1)) w else (ms.length - i : Int) := by
 rw [List.drop_eq_getElem_cons h,rkB_cons]
 split
 · rfl
 · rw [List.length_drop]; omega
end Am

namespace Am
open Go
abbrev CF := F × F
def rowC (c : CF) : List D := [.int .i64 c.1.op,.str c.1.name,.sl (F.encs c.1.args),.int .i64 c.2.op,.str c.2.name,.sl (F.encs c.2.args)]
def condsD (l : List CF) : D := .sl (l.map rowC)
theorem row_C {l : List CF} {i : Nat} (h : i < l.length) : PO.eval (.row 6) [condsD l,.int .i64 i] = some (rowC l[i]) := ev_row (by omega) (by simp [h]) rfl
theorem len_C (l : List CF) : PO.eval .lenL [condsD l] = some [.int .i64 l.length] := by simp [condsD,ev_lenL]
abbrev PP := BitVec 64 × BitVec 64
def rowP (p : PP) : List D := [bvD p.1,bvD p.2]
def prsD (l : List PP) : D := .sl (l.map rowP)
theorem row_P {l : List PP} {i : Nat} (h : i < l.length) : PO.eval (.row 2) [prsD l,.int .i64 i] = some (rowP l[i]) := ev_row (by omega) (by simp [h]) rfl
theorem len_P (l : List PP) : PO.eval .lenL [prsD l] = some [.int .i64 l.length] := by simp [prsD,ev_lenL]
theorem app_P {l : List PP} {c : PP} (h : l.length < 1000000000000) : PO.eval (.app 2 16) [prsD l,.sl [rowP c]] = some [prsD (l ++ [c])] := by
 have := ev_app (sz := 2) (bt := 16) (xs := l.map rowP) (ys := [rowP c]) (by simp; omega) (by simp; omega) rfl
 simpa [prsD] using this
theorem ev_mk21 (a b : D) : PO.eval (.mk 2 1) [a,b] = some [.sl [[a,b]]] := rfl
def cE (names : List (List UInt8)) : List CF → Int
 | [] => 0
 | c :: l => if fstE names [c.1,c.2] = 0 then cE names l else fstE names [c.1,c.2]
theorem cE_cons (names : List (List UInt8)) (c : CF) (l : List CF) : cE names (c :: l) = if fstE names [c.1,c.2] = 0 then cE names l else fstE names [c.1,c.2] := rfl
theorem fstE_two {names : List (List UInt8)} {f g : F} : fstE names [f,g] = if modelsE names f = 0 then modelsE names g else modelsE names f := by
 rw [fstE_cons,fstE_cons,fstE_nil]
 by_cases h : modelsE names f = 0
 · rw [if_pos h,if_pos h]
   by_cases h2 : modelsE names g = 0
   · rw [if_pos h2,h2]
   · rw [if_neg h2]
 · rw [if_neg h,if_neg h]
def prE (names : List (List UInt8)) (l : List CF) : Int := if vocOk names = false then 1 else if 64 < l.length then 2 else cE names l
def prS (names : List (List UInt8)) (c : CF) : PP := (modelsS names c.1 &&& modelsS names c.2,modelsS names c.1 &&& ~~~modelsS names c.2)
def prsS (names : List (List UInt8)) (l : List CF) : List PP := l.map (prS names)
def badF (p : List PP) (out : List Int) : Nat → BitVec 64
 | 0 => 0#64
 | i + 1 => if out.getD i 0 < 0 then badF p out i ||| (p.getD i (0#64,0#64)).2 else badF p out i
theorem badF_succ (p : List PP) (out : List Int) (i : Nat) : badF p out (i + 1) = if out.getD i 0 < 0 then badF p out i ||| (p.getD i (0#64,0#64)).2 else badF p out i := rfl
def doneF (out : List Int) : Nat → Bool
 | 0 => true
 | i + 1 => if out.getD i 0 < 0 then false else doneF out i
theorem doneF_succ (out : List Int) (i : Nat) : doneF out (i + 1) = if out.getD i 0 < 0 then false else doneF out i := rfl
def lyAt (p : List PP) (out : List Int) (bad : BitVec 64) (i : Nat) : Prop := out.getD i 0 < 0 ∧ (p.getD i (0#64,0#64)).1 &&& ~~~bad ≠ 0#64
instance (p : List PP) (out : List Int) (bad : BitVec 64) (i : Nat) : Decidable (lyAt p out bad i) := by unfold lyAt; infer_instance
def fndF (p : List PP) (out : List Int) (bad : BitVec 64) : Nat → Bool
 | 0 => false
 | i + 1 => if lyAt p out bad i then true else fndF p out bad i
theorem fndF_succ (p : List PP) (out : List Int) (bad : BitVec 64) (i : Nat) : fndF p out bad (i + 1) = if lyAt p out bad i then true else fndF p out bad i := rfl
def mkF (p : List PP) (out : List Int) (bad : BitVec 64) (k : Nat) (v : Nat) : Int := if lyAt p out bad v then (k : Int) else out.getD v 0
def mkS (p : List PP) (out : List Int) (bad : BitVec 64) (k : Nat) : List Int := (List.range p.length).map (mkF p out bad k)
def layF (p : List PP) : Nat → Nat → List Int → Option (List Int)
 | 0,_,_ => none
 | n + 1,k,out => if doneF out p.length = true then some out else if fndF p out (badF p out p.length) p.length = true then layF p n (k + 1) (mkS p out (badF p out p.length) k) else none
theorem layF_succ (p : List PP) (n k : Nat) (out : List Int) : layF p (n + 1) k out = if doneF out p.length = true then some out else if fndF p out (badF p out p.length) p.length = true then layF p n (k + 1) (mkS p out (badF p out p.length) k) else none := rfl
def layS (p : List PP) : Option (List Int) := layF p (p.length + 1) 0 (List.replicate p.length (-1))
def negs (out : List Int) : Nat → Nat
 | 0 => 0
 | i + 1 => (if out.getD i 0 < 0 then 1 else 0) + negs out i
theorem negs_le (out : List Int) : ∀ n,negs out n ≤ n
 | 0 => Nat.le_refl _
 | n + 1 => by have := negs_le out n; simp only [negs]; split <;> omega
theorem doneF_iff (out : List Int) : ∀ n,doneF out n = true ↔ ∀ i,i < n → ¬ out.getD i 0 < 0
 | 0 => by simp [doneF]
 | n + 1 => by
  rw [doneF_succ]
  by_cases h : out.getD n 0 < 0
  · rw [if_pos h]; simp only [Bool.false_eq_true,false_iff]; exact fun g => g n (by omega) h
  · rw [if_neg h,doneF_iff out n]
    constructor
    · intro g i hi
      by_cases e : i = n
      · subst e; exact h
      · exact g i (by omega)
    · exact fun g i hi => g i (by omega)
theorem mkS_len (p : List PP) (out : List Int) (bad : BitVec 64) (k : Nat) : (mkS p out bad k).length = p.length := by simp [mkS]
theorem mkS_get {p : List PP} {out : List Int} {bad : BitVec 64} {k v : Nat} (h : v < p.length) : (mkS p out bad k).getD v 0 = mkF p out bad k v := by
 rw [List.getD_eq_getElem?_getD]; simp [mkS,List.getElem?_map,List.getElem?_range h]
theorem negs_mk {p : List PP} {out : List Int} {bad : BitVec 64} {k : Nat} : ∀ n,n ≤ p.length → negs (mkS p out bad k) n ≤ negs out n ∧ (fndF p out bad n = true → negs (mkS p out bad k) n < negs out n)
 | 0,_ => by simp [negs,fndF]
 | n + 1,h => by
  obtain ⟨h1,h2⟩ := negs_mk (p := p) (out := out) (bad := bad) (k := k) n (by omega)
  simp only [negs,fndF_succ]
  rw [mkS_get (by omega)]
  unfold mkF
  by_cases g : lyAt p out bad n
  · rw [if_pos g,if_pos g,if_pos g.1,if_neg (by omega)]
    exact ⟨by omega,fun _ => by omega⟩
  · rw [if_neg g,if_neg g]
    exact ⟨by omega,fun hf => by have := h2 hf; omega⟩
def LyOk (p : List PP) (B : Int) (out : List Int) : Prop := out.length = p.length ∧ ∀ x ∈ out,-1 ≤ x ∧ x < B
theorem getD_mem {l : List Int} {i : Nat} (h : i < l.length) : l.getD i 0 ∈ l := by
 rw [List.getD_eq_getElem?_getD,List.getElem?_eq_getElem h]; exact List.getElem_mem _
theorem mkS_ok {p : List PP} {B : Int} {out : List Int} {bad : BitVec 64} {k : Nat} (h : LyOk p B out) (hk : (k : Int) < B) : LyOk p B (mkS p out bad k) := by
 refine ⟨mkS_len _ _ _ _,fun x hx => ?_⟩
 unfold mkS at hx
 obtain ⟨v,hv,rfl⟩ := List.mem_map.1 hx
 have hv := List.mem_range.1 hv
 unfold mkF
 split
 · omega
 · exact h.2 _ (getD_mem (by rw [h.1]; exact hv))
theorem rep_ok (p : List PP) {B : Int} (h : -1 < B) : LyOk p B (List.replicate p.length (-1)) := ⟨by simp,fun x hx => by obtain ⟨_,rfl⟩ := List.mem_replicate.1 hx; omega⟩
theorem range_getD (out : List Int) : (List.range out.length).map (fun v => out.getD v 0) = out := by
 refine List.ext_getElem (by simp) fun i h1 h2 => by simp [h2]
theorem gdP {p : List PP} {i : Nat} (h : i < p.length) : p.getD i (0#64,0#64) = p[i] := by simp [h]
end Am
namespace Am
open Go
theorem done_mem {p : List PP} {out : List Int} {B : Int} (h : LyOk p B out) : decide ((-1 : Int) ∈ out) = !doneF out p.length := by
 cases hd : doneF out p.length with
 | true =>
  rw [doneF_iff] at hd
  simp only [Bool.not_true,decide_eq_false_iff_not]
  intro hm
  obtain ⟨i,hi,he⟩ := List.getElem_of_mem hm
  refine hd i (by rw [← h.1]; exact hi) ?_
  rw [List.getD_eq_getElem?_getD,List.getElem?_eq_getElem hi,Option.getD_some,he]; decide
 | false =>
  simp only [Bool.not_false,decide_eq_true_eq]
  refine Classical.byContradiction fun hno => ?_
  have : doneF out p.length = true := (doneF_iff _ _).2 fun i hi hlt => by
   have hm := getD_mem (l := out) (i := i) (by rw [h.1]; exact hi)
   have := h.2 _ hm
   have e : out.getD i 0 = -1 := by omega
   rw [e] at hm
   exact hno hm
  rw [this] at hd; simp at hd
theorem mkS_mix (p : List PP) (out : List Int) (bad : BitVec 64) (k : Nat) : mkS p out bad k = mixL (mkF p out bad k) (fun v => out.getD v 0) p.length p.length := (mixL_end _ _ _).symm
theorem out_mix {p : List PP} {out : List Int} {B : Int} (h : LyOk p B out) (bad : BitVec 64) (k : Nat) : out = mixL (mkF p out bad k) (fun v => out.getD v 0) p.length 0 := by
 rw [mixL_zero,← h.1,range_getD]
theorem rep_mix (n : Nat) : List.replicate n (0 : Int) = mixL (fun _ => -1) (fun _ => 0) n 0 := by
 rw [mixL_zero]; refine List.ext_getElem (by simp) fun i h1 h2 => by simp
theorem rep_mix' (n : Nat) : mixL (fun _ => -1) (fun _ => 0) n n = List.replicate n (-1 : Int) := by
 rw [mixL_end]; refine List.ext_getElem (by simp) fun i h1 h2 => by simp
def layR (o : Option (List Int)) : List D := match o with
 | some l => [numsD l,.int .i64 0]
 | none => [.sl [],.int .i64 9]
end Am

namespace Am
open Go
theorem pr6_models {voc : List (List UInt8)} (hv : vocOk voc = true) {f g : F} (hf : good f = true) (hg : good g = true) (sf : f.size ≤ 256) (sg : g.size ≤ 256) (df : f.depth ≤ 3) (dg : g.depth ≤ 3) (af : ∀ s ∈ F.atomL f,s ∈ voc) (ag : ∀ s ∈ F.atomL g,s ∈ voc) :
 modelsE voc (pr 6 f g) = 0 ∧ modelsS voc (pr 6 f g) = modN voc f (2 ^ voc.length) ||| modN voc g (2 ^ voc.length) := by
 have hs : (pr 6 f g).size = 1 + (f.size + g.size) := by simp [pr,F.size,F.sizes]
 have hd : (pr 6 f g).depth = max (1 + f.depth) (1 + g.depth) := by simp [pr,F.depth,F.depths]
 obtain ⟨h1,h2⟩ := models_good hv (good_pr (.inr rfl) hf hg) (by omega) (by omega) (fun s hs => by
  rw [atomL_pr (by decide)] at hs
  rcases List.mem_append.1 hs with h | h
  · exact af s h
  · exact ag s h)
 refine ⟨h1,?_⟩
 rw [h2]
 refine set_eq fun w => ?_
 rw [has_or,has_N hv,has_N hv,has_N hv,val_pr6]
 cases F.val (yesN voc w) f <;> cases F.val (yesN voc w) g <;> simp
end Am

namespace Am
open Go
abbrev yesP (p : List PP) (i : Nat) : BitVec 64 := (p.getD i (0#64,0#64)).1
abbrev noP (p : List PP) (i : Nat) : BitVec 64 := (p.getD i (0#64,0#64)).2
structure LyInv (p : List PP) (k : Nat) (out : List Int) : Prop where
 rg : ∀ i,i < p.length → out.getD i 0 < 0 ∨ (0 ≤ out.getD i 0 ∧ out.getD i 0 < k)
 tol : ∀ i,i < p.length → 0 ≤ out.getD i 0 → ∃ v,has (yesP p i) v ∧ ∀ j,j < p.length → (out.getD j 0 < 0 ∨ out.getD i 0 ≤ out.getD j 0) → ¬ has (noP p j) v
 ntol : ∀ i,i < p.length → 1 ≤ out.getD i 0 → ∀ v,has (yesP p i) v → ∃ j,j < p.length ∧ (out.getD j 0 < 0 ∨ out.getD i 0 - 1 ≤ out.getD j 0) ∧ has (noP p j) v
 rest : ∀ i,i < p.length → out.getD i 0 < 0 → 1 ≤ k → ∀ v,has (yesP p i) v → ∃ j,j < p.length ∧ (out.getD j 0 < 0 ∨ (k : Int) - 1 ≤ out.getD j 0) ∧ has (noP p j) v
end Am
namespace Am
open Go
end Am

namespace Am
open Go
section
variable {N : Nat} {r : Nat → Int} {L : BitVec 64 → BitVec 64} (hL : Lst N r L) {A B C T : BitVec 64}
include hL
theorem rat_refl : L A &&& ~~~A = 0#64 := by rw [set_sub]; exact fun w hw => ((hL.get A w).1 hw).2.1
theorem rat_and : L A &&& ~~~(B &&& C) = 0#64 ↔ L A &&& ~~~B = 0#64 ∧ L A &&& ~~~C = 0#64 := by
 simp only [set_sub,has_and]
 exact ⟨fun h => ⟨fun w hw => (h w hw).1,fun w hw => (h w hw).2⟩,fun h w hw => ⟨h.1 w hw,h.2 w hw⟩⟩
theorem rat_cut {u : Nat} (hu : has (L A) u) (hb : has B u) (h2 : L A &&& ~~~C = 0#64) : L (A &&& B) &&& ~~~C = 0#64 := by
 simp only [set_sub] at h2 ⊢
 intro w hw
 have h3 := (hL.get _ _).1 hw
 have h4 := (hL.get _ _).1 hu
 have hab := has_and.1 h3.2.1
 refine h2 w ((hL.get _ _).2 ⟨h3.1,hab.1,fun v hv ha => ?_⟩)
 exact Int.le_trans (h3.2.2 u h4.1 (has_and.2 ⟨h4.2.1,hb⟩)) (h4.2.2 v hv ha)
theorem rat_cautious (h1 : L A &&& ~~~B = 0#64) (h2 : L A &&& ~~~C = 0#64) : L (A &&& B) &&& ~~~C = 0#64 := by
 by_cases he : ∃ u,has (L A) u
 · obtain ⟨u,hu⟩ := he
   exact rat_cut hL hu (set_sub.1 h1 u hu) h2
 · rw [set_sub]
   intro w hw
   have h3 := (hL.get _ _).1 hw
   exact absurd (hL.ex h3.1 (has_and.1 h3.2.1).1) he
theorem rat_monotone (hT : ∀ w,w < N → has T w) (h1 : ¬ L A &&& ~~~(T &&& ~~~B) = 0#64) (h2 : L A &&& ~~~C = 0#64) : L (A &&& B) &&& ~~~C = 0#64 := by
 obtain ⟨u,hu⟩ := set_ne h1
 rw [has_diff,has_diff] at hu
 have hb : has B u := Classical.byContradiction fun hb => hu.2 ⟨hT u ((hL.get _ _).1 hu.1).1,hb⟩
 exact rat_cut hL hu.1 hb h2
theorem rat_or (h1 : L A &&& ~~~C = 0#64) (h2 : L B &&& ~~~C = 0#64) : L (A ||| B) &&& ~~~C = 0#64 := by
 simp only [set_sub] at h1 h2 ⊢
 intro w hw
 have h3 := (hL.get _ _).1 hw
 rcases has_or.1 h3.2.1 with ha | hb
 · exact h1 w ((hL.get _ _).2 ⟨h3.1,ha,fun v hv hx => h3.2.2 v hv (has_or.2 (.inl hx))⟩)
 · exact h2 w ((hL.get _ _).2 ⟨h3.1,hb,fun v hv hx => h3.2.2 v hv (has_or.2 (.inr hx))⟩)
theorem rat_weak (h1 : L A &&& ~~~B = 0#64) : L A &&& ~~~(B ||| C) = 0#64 := by
 simp only [set_sub] at h1 ⊢
 exact fun w hw => has_or.2 (.inl (h1 w hw))
end
structure Rat9 (y0 y1 y2 y3 y4 y5 y6 y7 y8 : Bool) : Prop where
 a0 : y0 = true
 a3 : y3 = (y1 && y2)
 a4 : y1 = true → y2 = true → y4 = true
 a5 : y5 = false → y2 = true → y4 = true
 a7 : y2 = true → y6 = true → y7 = true
 a8 : y1 = true → y8 = true
theorem rat9 {N : Nat} {r : Nat → Int} {L : BitVec 64 → BitVec 64} (hL : Lst N r L) {T : BitVec 64} (hT : ∀ w,w < N → has T w) (A B C : BitVec 64) :
 Rat9 (decide (L A &&& ~~~A = 0#64)) (decide (L A &&& ~~~B = 0#64)) (decide (L A &&& ~~~C = 0#64)) (decide (L A &&& ~~~(B &&& C) = 0#64)) (decide (L (A &&& B) &&& ~~~C = 0#64)) (decide (L A &&& ~~~(T &&& ~~~B) = 0#64)) (decide (L B &&& ~~~C = 0#64)) (decide (L (A ||| B) &&& ~~~C = 0#64)) (decide (L A &&& ~~~(B ||| C) = 0#64)) := by
 refine ⟨decide_eq_true (rat_refl hL),?_,fun h1 h2 => decide_eq_true (rat_cautious hL (of_decide_eq_true h1) (of_decide_eq_true h2)),fun h1 h2 => decide_eq_true (rat_monotone hL hT (of_decide_eq_false h1) (of_decide_eq_true h2)),fun h1 h2 => decide_eq_true (rat_or hL (of_decide_eq_true h1) (of_decide_eq_true h2)),fun h1 => decide_eq_true (rat_weak hL (of_decide_eq_true h1))⟩
 rw [← Bool.decide_and]
 exact decide_eq_decide.2 (rat_and hL)
end Am
