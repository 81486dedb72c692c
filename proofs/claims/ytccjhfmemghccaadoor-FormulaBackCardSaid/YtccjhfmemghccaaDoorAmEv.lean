/- The abstract machine and its reader: lemmas. -/
import Derived.Test.YtccjhfmemghccaaDoorAmSe21
set_option linter.unusedSimpArgs false
set_option linter.unusedVariables false
set_option linter.unusedSectionVars false
namespace Am
open Go
def ex (R : Nat → PF) (n : Nat) : IR → Env → List PF → Option (List D)
 | .op p args k, e, J => match p.eval (args.map (·.val e)) with | some outs => ex R n k (e ++ outs) J | none => none
 | .ite c a b, e, J => match c.val e with | .bool true => ex R n a e J | .bool false => ex R n b e J | _ => none
 | .isf c f a b, e, J => if isFn f (c.val e) then ex R n a e J else ex R n b e J
 | .call i m sc sl args k, e, J => match R i (args.map (·.val e)) with
  | some outs => if outs.length = m ∧ (sc = true → outs.all D.scal = true) ∧ sl.all (fun j => (outs.getD j dfl).isSl) = true then ex R n k (e ++ outs) J else none
  | none => none
 | .letj _ body rest, e, J => ex R n body e (J ++ [fun vs => ex R n rest (e ++ vs) J])
 | .loop _ init body, e, J => iter (fun L vs => ex R n body (e ++ vs) (J ++ [L])) n (init.map (·.val e))
 | .jump j args, e, J => match J[j]? with | some f => f (args.map (·.val e)) | none => none
 | .ret args, e, _ => some (args.map (·.val e))
 | .fail, _, _ => none
theorem ex_den : ∀ (ir : IR) {R run : Nat → PF} {n : Nat} {e : Env} {J J' : List PF}, (∀ i, PLe (R i) (run i)) → JLe J J' → ∀ r, ex R n ir e J = some r → den run ir e J' = some r := by
 intro ir
 induction ir with
 | op p args k ih =>
  intro R run n e J J' hr hJ r h
  simp only [ex] at h
  simp only [den]
  split at h
  · rename_i outs ho; rw [ho]; exact ih hr hJ r h
  · simp at h
 | ite c a b iha ihb =>
  intro R run n e J J' hr hJ r h
  simp only [ex] at h
  simp only [den]
  split at h
  · rename_i hc; rw [hc]; exact iha hr hJ r h
  · rename_i hc; rw [hc]; exact ihb hr hJ r h
  · simp at h
 | isf c f a b iha ihb =>
  intro R run n e J J' hr hJ r h
  simp only [ex] at h
  simp only [den]
  split at h
  · rename_i hc; rw [if_pos hc]; exact iha hr hJ r h
  · rename_i hc; rw [if_neg hc]; exact ihb hr hJ r h
 | call i m sc sl args k ih =>
  intro R run n e J J' hr hJ r h
  simp only [ex] at h
  simp only [den]
  split at h
  · rename_i outs ho
    rw [hr i _ _ ho]
    simp only
    split at h
    · rename_i hc; rw [if_pos hc]; exact ih hr hJ r h
    · simp at h
  · simp at h
 | letj m body rest ihb ihr =>
  intro R run n e J J' hr hJ r h
  simp only [ex] at h
  simp only [den]
  exact ihb hr (hJ.snoc fun vs r h => ihr hr hJ r h) r h
 | loop m init body ih =>
  intro R run n e J J' hr hJ r h
  simp only [ex] at h
  simp only [den]
  refine fixO_some (F := fun L vs => den run body (e ++ vs) (J' ++ [L])) (den_loop_mono run body e J') (n := n) ?_
  exact iter_le (F := fun L vs => ex R n body (e ++ vs) (J ++ [L])) (F' := fun L vs => den run body (e ++ vs) (J' ++ [L])) (fun L L' hL vs r h => ih hr (hJ.snoc hL) r h) n _ _ h
 | jump j args =>
  intro R run n e J J' hr hJ r h
  simp only [ex] at h
  simp only [den]
  split at h
  · rename_i f hf
    have hlt := (List.getElem?_eq_some_iff.1 hf).1
    have hlt' : j < J'.length := by rw [← hJ.1]; exact hlt
    rw [List.getElem?_eq_getElem hlt']
    exact hJ.2 j f _ hf (List.getElem?_eq_getElem hlt') _ _ h
  · simp at h
 | ret args => intro R run n e J J' hr hJ r h; simp only [ex] at h; simp only [den]; exact h
 | fail => intro R run n e J J' hr hJ r h; simp [ex] at h
def exN (tb : Nat → TE) (m : Nat) : Nat → Nat → PF
 | 0 => fun _ _ => none
 | n + 1 => fun i => match tb i with
  | .ir x => fun a => ex (exN tb m n) m x a []
  | .ext E => E
theorem exN_run {tb : Nat → TE} {m : Nat} : ∀ n i a r, exN tb m n i a = some r → run tb i a = some r := by
 intro n
 induction n with
 | zero => intro i a r h; simp [exN] at h
 | succ n ih =>
  intro i a r h
  simp only [exN] at h
  cases hi : tb i with
  | ir x =>
   rw [hi] at h
   exact run_ir hi (ex_den x (fun i a r h => ih i a r h) (.refl _) r h)
  | ext E => rw [hi] at h; exact run_ext hi h
def noneE : PF := fun _ => none
def tbOf (l : List TE) : Nat → TE := fun i => match l[i]? with | some t => t | none => .ext noneE
def TEok (P : Program) (G : Glob) (T : Tab) (SG : SGlob) (sigs : List Sig) (i : Nat) : TE → Prop
 | .ir x => ∃ sg fn ann fuel, sigs[i]? = some sg ∧ P.funcs[sg.f]? = some fn ∧ readFn T SG sigs fuel sg fn ann = some x
 | .ext E => (∀ a o, a.length = ninOf sigs i → EWF a → E a = some o → EWF o) ∧ ∀ sg, sigs[i]? = some sg → SigOK P G E sg
def TLok (P : Program) (G : Glob) (T : Tab) (SG : SGlob) (sigs : List Sig) : Nat → List TE → Prop
 | _, [] => True
 | i, t :: l => TEok P G T SG sigs i t ∧ TLok P G T SG sigs (i + 1) l
variable {P : Program} {G : Glob} {T : Tab} {SG : SGlob} {sigs : List Sig}
theorem TEok.none (i : Nat) : TEok P G T SG sigs i (.ext noneE) :=
 ⟨fun a o _ _ h => by simp [noneE] at h, fun sg _ ins outs _ _ _ h => by simp [noneE] at h⟩
theorem TLok.get : ∀ {l : List TE} {i : Nat}, TLok P G T SG sigs i l → ∀ (j : Nat) (t : TE), l[j]? = some t → TEok P G T SG sigs (i + j) t
 | [], i, _, j, t, h => by simp at h
 | a :: l, i, h, 0, t, hj => by simp at hj; subst hj; exact h.1
 | a :: l, i, h, j + 1, t, hj => by
  have := h.2.get j t (by simpa using hj)
  rwa [show i + (j + 1) = i + 1 + j by omega]
theorem tabOK_of {l : List TE} (h : TLok P G T SG sigs 0 l) : TabOK P G T SG sigs (tbOf l) := by
 have key : ∀ i, TEok P G T SG sigs i (tbOf l i) := by
  intro i
  unfold tbOf
  split
  · rename_i t ht
    have := h.get i t ht
    rwa [Nat.zero_add] at this
  · exact TEok.none i
 refine ⟨fun i x hx => ?_, fun i E hx => ?_⟩
 · have := key i; rw [hx] at this; exact this
 · have := key i; rw [hx] at this; exact this
end Am
