/- The abstract machine and its reader: lemmas. -/
import Derived.Test.YtojkhlijbpmgpaaGreatAmKit
set_option linter.unusedSimpArgs false
set_option linter.unusedVariables false
set_option linter.unusedSectionVars false
namespace Am
open Go
variable {P : Program} {G : Glob} {k : Nat} {w : World} {C : Com} {ρ : Rho} {H : Heap}
theorem Ent.ghostH {s : Sta} (b i j : Nat) (ty : TypeId) (sz : Nat) {blk : Blk} (hb : s.H b = some blk) (hi : i < blk.rows.length) (hj : j < (blk.rows[i]).length) (hc : (blk.rows[i])[j] = .nils) :
 Ent k s { s with H := updH (updH s.H s.nx { fz := false,ap := true,ty,sz,rows := [] }) b { blk with rows := blk.rows.set i ((blk.rows[i]).set j (.own s.nx 0 0 0)) },nx := s.nx + 1 } := by
 rintro G B a w hk ⟨C,ρ,hinv⟩
 have hnone := hinv.nx s.nx (Nat.le_refl _)
 have hbn : b ≠ s.nx := fun e => by rw [e,hnone] at hb; simp at hb
 let ρ1 : Rho := fun x => if x = s.nx then none else ρ x
 let g : Blk := { fz := false,ap := true,ty,sz,rows := [] }
 let blk' : Blk := { blk with rows := blk.rows.set i ((blk.rows[i]).set j (.own s.nx 0 0 0)) }
 let H1 : Heap := updH (updH s.H s.nx g) b blk'
 have hH1 : ∀ x,H1 x = if x = b then some blk' else if x = s.nx then some g else s.H x := fun x => rfl
 have hρ : ∀ x,x ≠ s.nx → ρ1 x = ρ x := fun x hx => by simp [ρ1,hx]
 have hsome : ∀ x,x ≠ s.nx → (H1 x).isSome = (s.H x).isSome := fun x hx => by
  rw [hH1]
  by_cases hxb : x = b
  · subst hxb; simp [hb]
  · rw [if_neg hxb,if_neg hx]
 have e : Ext w C ρ s.H w C ρ1 H1 := by
  refine ⟨fun _ _ h => h,fun _ _ _ => rfl,fun x blk0 hx => ?_,rfl,rfl,rfl,Nat.le_refl _,fun _ _ _ => rfl,?_,fun _ _ h => .inl h⟩
  · have hne : x ≠ s.nx := fun e => by subst e; rw [hnone] at hx; simp at hx
    by_cases hxb : x = b
    · subst hxb
      rw [hb] at hx; cases hx
      exact ⟨blk',by rw [hH1]; simp,rfl,by simp [blk'],fun _ => hρ _ hne⟩
    · exact ⟨blk0,by rw [hH1]; simp [hxb,hne,hx],rfl,Nat.le_refl _,fun _ => hρ _ hne⟩
  · rintro r ⟨x,z,hx,hr⟩
    by_cases hne : x = s.nx
    · subst hne; simp [ρ1] at hr
    · rw [hsome x hne] at hx
      rw [hρ x hne] at hr
      exact .inl ⟨x,z,hx,hr⟩
 have hg : H1 s.nx = some g := by rw [hH1,if_neg (fun h => hbn h.symm),if_pos rfl]
 have hR : RelH w C ρ1 H1 := by
  refine ⟨fun x blk0 hx => ?_,fun x y r z z' hne hx hy hr hr' => ?_,hinv.rel.h.com⟩
  · by_cases hne : x = s.nx
    · subst hne
      rw [hg] at hx; cases hx
      unfold BlkOK
      simp [ρ1,g]
    · by_cases hxb : x = b
      · subst hxb
        have hx' : some blk' = some blk0 := by rw [← hx,hH1]; simp
        cases hx'
        have h0 := (hinv.rel.h.blk x blk hb).ext e (hρ x hne) (fun _ _ _ => rfl) (fun _ _ _ _ _ h => h)
        unfold BlkOK at h0 ⊢
        cases hr : ρ1 x with
        | none =>
         rw [hr] at h0
         simp only at h0
         rw [h0.1] at hi; simp at hi
        | some p =>
         obtain ⟨r,z⟩ := p
         rw [hr] at h0
         obtain ⟨⟨cs,lo,hh,a1,a2,a3,a4,a5,a6,a7⟩,a8,a9⟩ := h0
         refine ⟨⟨cs,lo,hh,a1,a2,a3,a4,by simpa [blk'] using a5,?_,?_⟩,a8,by simpa [blk'] using a9⟩
         · intro x' hx'
           simp only [blk',List.length_set] at hx' ⊢
           by_cases hxi : i = x'
           · subst hxi; simp [a6]
           · simp only [List.getElem_set_ne hxi]; exact a6 x' hx'
         · intro x' y' hx' hy'
           simp only [blk',List.length_set] at hx' hy' ⊢
           by_cases hxi : i = x'
           · subst hxi
             simp only [List.getElem_set_self,List.length_set] at hy' ⊢
             obtain ⟨v,v1,v2,v3⟩ := a7 i y' hi hy'
             refine ⟨v,v1,v2,?_⟩
             by_cases hyj : j = y'
             · subst hyj
               simp only [List.getElem_set_self]
               rw [hc] at v3
               cases v3
               exact .own s.nx 0 0 0 _ g hg (by simp) rfl fun _ => .inr ⟨by simp [ρ1],rfl,rfl,rfl⟩
             · simp only [List.getElem_set_ne hyj]; exact v3
           · simp only [List.getElem_set_ne hxi] at hy' ⊢
             exact a7 x' y' hx' hy'
      · have hx' : s.H x = some blk0 := by rw [hH1] at hx; simpa [hxb,hne] using hx
        exact (hinv.rel.h.blk x blk0 hx').ext e (hρ x hne) (fun _ _ _ => rfl) (fun _ _ _ _ _ h => h)
  · have h1 : x ≠ s.nx := fun e => by subst e; simp [ρ1] at hr
    have h2 : y ≠ s.nx := fun e => by subst e; simp [ρ1] at hr'
    rw [hsome x h1] at hx
    rw [hsome y h2] at hy
    rw [hρ x h1] at hr
    rw [hρ y h2] at hr'
    exact hinv.rel.h.dis x y r z z' hne hx hy hr hr'
 refine ⟨C,ρ1,⟨fun t' => (hinv.rel.tm t').mono e,hinv.rel.size,hR,trivial,hinv.rel.defers⟩,fun x hx => ?_,hinv.ext.trans e,hinv.glob,hinv.marks⟩
 have hx' : s.nx + 1 ≤ x := hx
 show H1 x = none
 rw [hH1]
 have hxb : x ≠ b := fun e => by
  subst e
  rw [hinv.nx x (by omega)] at hb; simp at hb
 simp [hxb,show x ≠ s.nx from by omega]
 exact hinv.nx x (by omega)
end Am
