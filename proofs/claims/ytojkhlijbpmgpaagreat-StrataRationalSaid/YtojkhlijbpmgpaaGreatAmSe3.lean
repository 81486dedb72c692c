/- The abstract machine and its reader: lemmas. -/
import Derived.Test.YtojkhlijbpmgpaaGreatAmSe2
set_option linter.unusedSimpArgs false
set_option linter.unusedVariables false
set_option linter.unusedSectionVars false
namespace Am
open Go
theorem lim_some {f : Nat → Option (List D)} {r : List D} (h : lim f = some r) : ∃ n,f n = some r := by
 unfold lim at h
 split at h
 · exact ⟨_,h⟩
 · simp at h
theorem some_lim {f : Nat → Option (List D)} {r : List D} (hm : ∀ n m,n ≤ m → ∀ r,f n = some r → f m = some r) {n : Nat} (h : f n = some r) : lim f = some r := by
 unfold lim
 have hex : ∃ n,(f n).isSome = true := ⟨n,by simp [h]⟩
 rw [dif_pos hex]
 obtain ⟨r',hr'⟩ := Option.isSome_iff_exists.1 hex.choose_spec
 rw [hr']
 have h1 := hm _ (max n hex.choose) (Nat.le_max_left _ _) _ h
 have h2 := hm _ (max n hex.choose) (Nat.le_max_right n _) _ hr'
 rw [h1] at h2
 exact h2.symm
def PLe (f g : PF) : Prop := ∀ a r,f a = some r → g a = some r
theorem PLe.refl (f : PF) : PLe f f := fun _ _ h => h
theorem PLe.trans {f g h : PF} (a : PLe f g) (b : PLe g h) : PLe f h := fun x r hx => b x r (a x r hx)
def JLe (J J' : List PF) : Prop := J.length = J'.length ∧ ∀ (i : Nat) (f f' : PF),J[i]? = some f → J'[i]? = some f' → PLe f f'
theorem JLe.refl (J : List PF) : JLe J J := ⟨rfl,fun i f f' h h' => by rw [h] at h'; cases h'; exact .refl _⟩
theorem JLe.snoc {J J' : List PF} {f f' : PF} (h : JLe J J') (hf : PLe f f') : JLe (J ++ [f]) (J' ++ [f']) := by
 obtain ⟨h1,h2⟩ := h
 refine ⟨by simp [h1],fun i g g' hg hg' => ?_⟩
 by_cases hi : i < J.length
 · rw [List.getElem?_append_left hi] at hg
   rw [List.getElem?_append_left (by omega)] at hg'
   exact h2 i g g' hg hg'
 · rw [List.getElem?_append_right (by omega)] at hg
   rw [List.getElem?_append_right (by omega)] at hg'
   rw [h1] at hg
   by_cases h0 : i - J'.length = 0
   · simp [h0] at hg hg'; subst hg; subst hg'; exact hf
   · rw [List.getElem?_eq_none (by simp; omega)] at hg; simp at hg
theorem iter_le {F F' : PF → PF} (h : ∀ L L',PLe L L' → PLe (F L) (F' L')) : ∀ n,PLe (iter F n) (iter F' n)
 | 0 => fun _ _ h => by simp [iter] at h
 | n + 1 => h _ _ (iter_le h n)
theorem iter_succ {F : PF → PF} (h : ∀ L L',PLe L L' → PLe (F L) (F L')) : ∀ n,PLe (iter F n) (iter F (n + 1))
 | 0 => fun _ _ h => by simp [iter] at h
 | n + 1 => h _ _ (iter_succ h n)
theorem iter_mono {F : PF → PF} (h : ∀ L L',PLe L L' → PLe (F L) (F L')) {n m : Nat} (hm : n ≤ m) : PLe (iter F n) (iter F m) := by
 induction hm with
 | refl => exact .refl _
 | step _ ih => exact ih.trans (iter_succ h _)
theorem fixO_some {F : PF → PF} (h : ∀ L L',PLe L L' → PLe (F L) (F L')) {n : Nat} {a r : List D} (hn : iter F n a = some r) : fixO F a = some r :=
 some_lim (fun _ _ hnm r hr => iter_mono h hnm _ _ hr) hn
theorem fixO_le {F F' : PF → PF} (h : ∀ L L',PLe L L' → PLe (F L) (F' L')) (h' : ∀ L L',PLe L L' → PLe (F' L) (F' L')) : PLe (fixO F) (fixO F') := by
 intro a r hr
 obtain ⟨n,hn⟩ := lim_some hr
 exact fixO_some h' (iter_le h n _ _ hn)
theorem den_mono : ∀ (ir : IR) {run run' : Nat → PF} {e : Env} {J J' : List PF},(∀ i,PLe (run i) (run' i)) → JLe J J' → ∀ r,den run ir e J = some r → den run' ir e J' = some r := by
 intro ir
 induction ir with
 | op p args k ih =>
  intro run run' e J J' hr hJ r h
  simp only [den] at h ⊢
  split at h
  · rename_i outs ho; exact ih hr hJ r h
  · simp at h
 | ite c a b iha ihb =>
  intro run run' e J J' hr hJ r h
  simp only [den] at h ⊢
  split at h
  · exact iha hr hJ r h
  · exact ihb hr hJ r h
  · simp at h
 | isf c f a b iha ihb =>
  intro run run' e J J' hr hJ r h
  simp only [den] at h ⊢
  split at h
  · rename_i hc; rw [if_pos hc]; exact iha hr hJ r h
  · rename_i hc; rw [if_neg hc]; exact ihb hr hJ r h
 | call i n sc sl args k ih =>
  intro run run' e J J' hr hJ r h
  simp only [den] at h ⊢
  split at h
  · rename_i outs ho
    rw [hr i _ _ ho]
    simp only
    split at h
    · rename_i hc; rw [if_pos hc]; exact ih hr hJ r h
    · simp at h
  · simp at h
 | letj n body rest ihb ihr =>
  intro run run' e J J' hr hJ r h
  simp only [den] at h ⊢
  exact ihb hr (hJ.snoc fun vs r h => ihr hr hJ r h) r h
 | loop n init body ih =>
  intro run run' e J J' hr hJ r h
  simp only [den] at h ⊢
  exact fixO_le (F := fun L vs => den run body (e ++ vs) (J ++ [L])) (F' := fun L vs => den run' body (e ++ vs) (J' ++ [L])) (fun L L' hL vs r h => ih hr (hJ.snoc hL) r h) (fun L L' hL vs r h => ih (fun i => .refl _) ((JLe.refl _).snoc hL) r h) _ _ h
 | jump j args =>
  intro run run' e J J' hr hJ r h
  simp only [den] at h ⊢
  split at h
  · rename_i f hf
    have hlt := (List.getElem?_eq_some_iff.1 hf).1
    have hlt' : j < J'.length := by rw [← hJ.1]; exact hlt
    rw [List.getElem?_eq_getElem hlt']
    exact hJ.2 j f _ hf (List.getElem?_eq_getElem hlt') _ _ h
  · simp at h
 | ret args => intro run run' e J J' hr hJ r h; simpa only [den] using h
 | fail => intro run run' e J J' hr hJ r h; simp [den] at h
theorem den_loop_mono (run : Nat → PF) (body : IR) (e : Env) (J : List PF) : ∀ L L',PLe L L' → PLe (fun vs => den run body (e ++ vs) (J ++ [L])) (fun vs => den run body (e ++ vs) (J ++ [L'])) :=
 fun _ _ hL _ r h => den_mono body (fun _ => .refl _) ((JLe.refl _).snoc hL) r h
structure Chain (R : Nat → Nat → PF) (Js : Nat → List PF) (Rw : Nat → PF) (Jw : List PF) : Prop where
 mR : ∀ n m,n ≤ m → ∀ i,PLe (R n i) (R m i)
 mJ : ∀ n m,n ≤ m → JLe (Js n) (Js m)
 cR : ∀ i a r,Rw i a = some r → ∃ n,R n i a = some r
 len : ∀ n,(Js n).length = Jw.length
 cJ : ∀ (i : Nat) (f : PF),Jw[i]? = some f → ∀ (a r : List D),f a = some r → ∃ (n : Nat) (g : PF),(Js n)[i]? = some g ∧ g a = some r
theorem Chain.snoc {R : Nat → Nat → PF} {Js : Nat → List PF} {Rw : Nat → PF} {Jw : List PF} (h : Chain R Js Rw Jw) {f : Nat → PF} {fw : PF} (hf : ∀ n m,n ≤ m → PLe (f n) (f m)) (hw : ∀ a r,fw a = some r → ∃ n,f n a = some r) :
 Chain R (fun n => Js n ++ [f n]) Rw (Jw ++ [fw]) where
 mR := h.mR
 mJ n m hnm := (h.mJ n m hnm).snoc (hf n m hnm)
 cR := h.cR
 len n := by simp [h.len]
 cJ i g hg a r hr := by
  by_cases hi : i < Jw.length
  · rw [List.getElem?_append_left hi] at hg
    obtain ⟨n,g',h1,h2⟩ := h.cJ i g hg a r hr
    exact ⟨n,g',by rw [List.getElem?_append_left (by rw [h.len]; exact hi)]; exact h1,h2⟩
  · rw [List.getElem?_append_right (by omega)] at hg
    by_cases h0 : i - Jw.length = 0
    · simp [h0] at hg; subst hg
      obtain ⟨n,hn⟩ := hw a r hr
      exact ⟨n,f n,by rw [List.getElem?_append_right (by rw [h.len]; omega)]; rw [h.len,h0]; rfl,hn⟩
    · rw [List.getElem?_eq_none (by simp; omega)] at hg; simp at hg
theorem den_cont : ∀ (ir : IR) {R : Nat → Nat → PF} {Js : Nat → List PF} {Rw : Nat → PF} {Jw : List PF} {e : Env},Chain R Js Rw Jw → ∀ r,den Rw ir e Jw = some r → ∃ n,den (R n) ir e (Js n) = some r := by
 intro ir
 induction ir with
 | op p args k ih =>
  intro R Js Rw Jw e hc r h
  simp only [den] at h ⊢
  split at h
  · rename_i outs ho
    obtain ⟨n,hn⟩ := ih hc r h
    exact ⟨n,by simpa only [ho] using hn⟩
  · simp at h
 | ite c a b iha ihb =>
  intro R Js Rw Jw e hc r h
  simp only [den] at h ⊢
  split at h
  · exact iha hc r h
  · exact ihb hc r h
  · simp at h
 | isf c f a b iha ihb =>
  intro R Js Rw Jw e hc r h
  simp only [den] at h ⊢
  split at h
  · rename_i hcc
    obtain ⟨n,hn⟩ := iha hc r h
    exact ⟨n,by rw [if_pos hcc]; exact hn⟩
  · rename_i hcc
    obtain ⟨n,hn⟩ := ihb hc r h
    exact ⟨n,by rw [if_neg hcc]; exact hn⟩
 | call i n sc sl args k ih =>
  intro R Js Rw Jw e hc r h
  simp only [den] at h ⊢
  split at h
  · rename_i outs ho
    split at h
    · rename_i hcc
      obtain ⟨n1,hn1⟩ := hc.cR i _ _ ho
      obtain ⟨n2,hn2⟩ := ih hc r h
      refine ⟨max n1 n2,?_⟩
      rw [hc.mR _ _ (Nat.le_max_left n1 n2) i _ _ hn1]
      simp only
      rw [if_pos hcc]
      exact den_mono k (hc.mR _ _ (Nat.le_max_right n1 n2)) (hc.mJ _ _ (Nat.le_max_right n1 n2)) r hn2
    · simp at h
  · simp at h
 | letj n body rest ihb ihr =>
  intro R Js Rw Jw e hc r h
  simp only [den] at h ⊢
  exact ihb (hc.snoc (f := fun n vs => den (R n) rest (e ++ vs) (Js n)) (fun n m hnm a r h => den_mono rest (hc.mR n m hnm) (hc.mJ n m hnm) r h) (fun a r h => ihr hc r h)) r h
 | loop n init body ih =>
  intro R Js Rw Jw e hc r h
  simp only [den] at h ⊢
  obtain ⟨k,hk⟩ := lim_some h
  have key : ∀ k a r,iter (fun L vs => den Rw body (e ++ vs) (Jw ++ [L])) k a = some r → ∃ n,iter (fun L vs => den (R n) body (e ++ vs) (Js n ++ [L])) k a = some r := by
   intro k
   induction k with
   | zero => intro a r h; simp [iter] at h
   | succ k ihk =>
    intro a r h
    simp only [iter] at h ⊢
    exact ih (hc.snoc (f := fun n => iter (fun L vs => den (R n) body (e ++ vs) (Js n ++ [L])) k) (fun n m hnm => iter_le (F := fun L vs => den (R n) body (e ++ vs) (Js n ++ [L])) (F' := fun L vs => den (R m) body (e ++ vs) (Js m ++ [L])) (fun L L' hL vs r h => den_mono body (hc.mR n m hnm) ((hc.mJ n m hnm).snoc hL) r h) k) ihk) r h
  obtain ⟨n,hn⟩ := key k _ _ hk
  exact ⟨n,fixO_some (den_loop_mono (R n) body e (Js n)) hn⟩
 | jump j args =>
  intro R Js Rw Jw e hc r h
  simp only [den] at h ⊢
  split at h
  · rename_i f hf
    obtain ⟨n,g,h1,h2⟩ := hc.cJ j f hf _ _ h
    exact ⟨n,by rw [h1]; exact h2⟩
  · simp at h
 | ret args => intro R Js Rw Jw e hc r h; exact ⟨0,by simpa only [den] using h⟩
 | fail => intro R Js Rw Jw e hc r h; simp [den] at h
inductive TE where
 | ir (x : IR)
 | ext (E : PF)
noncomputable def runN (tb : Nat → TE) : Nat → Nat → PF
 | 0 => fun _ _ => none
 | n + 1 => fun i => match tb i with
  | .ir x => fun a => den (runN tb n) x a []
  | .ext E => E
theorem runN_succ (tb : Nat → TE) : ∀ n i,PLe (runN tb n i) (runN tb (n + 1) i) := by
 intro n
 induction n with
 | zero => intro i a r h; simp [runN] at h
 | succ n ih =>
  intro i a r h
  simp only [runN] at h ⊢
  cases hi : tb i with
  | ir x => simp only [hi] at h ⊢; exact den_mono x (ih) (.refl _) r h
  | ext E => simp only [hi] at h ⊢; exact h
theorem runN_mono (tb : Nat → TE) {n m : Nat} (h : n ≤ m) (i : Nat) : PLe (runN tb n i) (runN tb m i) := by
 induction h with
 | refl => exact .refl _
 | step _ ih => exact ih.trans (runN_succ tb _ i)
noncomputable def run (tb : Nat → TE) : Nat → PF := fun i a => lim fun n => runN tb n i a
theorem run_N {tb : Nat → TE} {i : Nat} {a r : List D} (h : run tb i a = some r) : ∃ n,runN tb n i a = some r := lim_some h
theorem run_of_N {tb : Nat → TE} {i n : Nat} {a r : List D} (h : runN tb n i a = some r) : run tb i a = some r := some_lim (fun n m hnm r hr => runN_mono tb hnm i a r hr) h
theorem run_ext {tb : Nat → TE} {i : Nat} {E : PF} (hi : tb i = .ext E) {a r : List D} (h : E a = some r) : run tb i a = some r :=
 run_of_N (n := 1) (by simp only [runN,hi]; exact h)
theorem run_ir {tb : Nat → TE} {i : Nat} {x : IR} (hi : tb i = .ir x) {a r : List D} (h : den (run tb) x a [] = some r) : run tb i a = some r := by
 obtain ⟨n,hn⟩ := den_cont x (R := runN tb) (Js := fun _ => []) (Rw := run tb) (Jw := []) (e := a) ⟨fun n m hnm i => runN_mono tb hnm i,fun _ _ _ => .refl _,fun i a r h => run_N h,fun _ => rfl,fun i f hf => by simp at hf⟩ r h
 exact run_of_N (n := n + 1) (by simp only [runN,hi]; exact hn)
theorem fix_of {run : Nat → PF} {body : IR} {e : Env} {J : List PF} {a r : List D}
 (h : den run body (e ++ a) (J ++ [fixO fun L vs => den run body (e ++ vs) (J ++ [L])]) = some r) : fixO (fun L vs => den run body (e ++ vs) (J ++ [L])) a = some r := by
 have hm := den_loop_mono run body e J
 obtain ⟨n,hn⟩ := den_cont body (R := fun _ => run) (Js := fun n => J ++ [iter (fun L vs => den run body (e ++ vs) (J ++ [L])) n]) (Rw := run) (Jw := J ++ [fixO fun L vs => den run body (e ++ vs) (J ++ [L])]) (e := e ++ a)
  (by
   refine Chain.snoc (Js := fun _ => J) ⟨fun _ _ _ _ => .refl _,fun _ _ _ => .refl _,fun i a r h => ⟨0,h⟩,fun _ => rfl,fun i f hf a r h => ⟨0,f,hf,h⟩⟩ (fun n m hnm => iter_mono hm hnm) (fun a r h => lim_some h)) r h
 exact fixO_some hm (n := n + 1) hn
theorem PO.eval_len {p : PO} {args outs : List D} (h : p.eval args = some outs) : outs.length = p.nout := by
 have h1 : ∀ {x : Option D} {o : List D},one1 x = some o → o.length = 1 := by
  intro x o h
  unfold one1 at h
  simp only [Option.map_eq_some_iff] at h
  obtain ⟨_,_,rfl⟩ := h; rfl
 unfold PO.eval at h
 repeat' split at h
 all_goals first
  | (simp at h; done)
  | exact h1 h
  | (simp only [Option.some.injEq] at h; subst h; simp [PO.nout]; done)
  | (simp only [Option.some.injEq] at h; subst h; simp_all [PO.nout]; omega)
  | (simp only [Option.some.injEq] at h; subst h; simp_all [PO.nout]; done)
  | (simp only [Option.map_eq_some_iff] at h; obtain ⟨_,_,rfl⟩ := h; rfl)
end Am
