/- Plain programs of the functions of the program and lemmas about what they compute. -/
import Derived.Test.YtgmnlkjoiakoaaaDoorSa7
import Derived.Test.YtgmnlkjoiakoaaaDoorAmEv
set_option linter.unusedSimpArgs false
set_option linter.unusedVariables false
set_option linter.unusedSectionVars false
namespace Go.Proofs.YtgmnlkjoiakoaaaDoor
open Go Am
open Am.F (encs enc encs_map enc_eq depth depths)
set_option maxRecDepth 100000
set_option maxHeartbeats 1000000
variable {G : Glob}
def GHyp (G : Glob) : Prop := G 0 = some wordsD
namespace F
def decL (f : List D → Option F) : List (List D) → Option (List F)
  | [] => some []
  | r :: l => match f r with
    | some x => (match decL f l with | some xs => some (x :: xs) | none => none)
    | none => none
def decN : Nat → List D → Option F
  | 0, _ => none
  | n + 1, [.int .i64 o, .str s, .sl rows] => match decL (decN n) rows with | some xs => some (.mk o s xs) | none => none
  | _ + 1, _ => none
theorem decL_ok {f : List D → Option F} (h : ∀ d x, f d = some x → x.enc = d) : ∀ {l : List (List D)} {xs : List F}, decL f l = some xs → encs xs = l
  | [], xs, hx => by simp only [decL, Option.some.injEq] at hx; subst hx; rfl
  | r :: l, xs, hx => by
    simp only [decL] at hx
    split at hx
    · rename_i x hr
      split at hx
      · rename_i ys hl
        simp only [Option.some.injEq] at hx
        subst hx
        simp only [encs, h _ _ hr, decL_ok h hl]
      · simp at hx
    · simp at hx
theorem decN_ok : ∀ n d x, decN n d = some x → x.enc = d := by
  intro n
  induction n with
  | zero => intro d x h; simp [decN] at h
  | succ n ih =>
    intro d x h
    unfold decN at h
    split at h
    · rename_i heq
      cases heq
    · rename_i heq
      cases heq
      split at h
      · rename_i xs hl
        simp only [Option.some.injEq] at h
        subst h
        simp only [enc, decL_ok ih hl]
      · simp at h
    · simp at h
mutual
theorem decN_enc : ∀ (f : F) (n : Nat), f.depth < n → decN n f.enc = some f
  | .mk o s a, 0, h => by omega
  | .mk o s a, n + 1, h => by
    simp only [enc, decN, decL_enc a n (by simp only [depth] at h; omega)]
theorem decL_enc : ∀ (l : List F) (n : Nat), depths l < n + 1 → decL (decN n) (encs l) = some l
  | [], n, _ => rfl
  | f :: l, n, h => by
    simp only [depths] at h
    simp only [encs, decL, decN_enc f n (by omega), decL_enc l n (by omega)]
end
end F
def fmtE : PF := fun a => match F.decN 1000 a with
  | some f => if f.size < 4611686018427387904 then some [.str (formatS f), .int .i64 (formatE f)] else none
  | none => none
theorem formatE_range (f : F) : 0 ≤ formatE f ∧ formatE f ≤ 4 := by
  unfold formatE validate
  repeat' split
  all_goals simp
def fsg : Sig := ⟨15, 3, [], [(.agg [(.atm (.v 0)), (.atm (.v 1)), (.atm (.v 2))])], 2, [], (.tup [(.atm (.v 0)), (.atm (.v 1))]), false⟩
theorem fmtE_some {a o : List D} (h : fmtE a = some o) : ∃ f : F, a = f.enc ∧ f.size < 4611686018427387904 ∧ o = [.str (formatS f), .int .i64 (formatE f)] := by
  unfold fmtE at h
  split at h
  · rename_i f hf
    split at h
    · rename_i hs
      simp only [Option.some.injEq] at h
      exact ⟨f, (F.decN_ok _ _ _ hf).symm, hs, h.symm⟩
    · simp at h
  · simp at h
theorem fmtE_wf {a o : List D} (h : fmtE a = some o) : EWF o := by
  obtain ⟨f, _, _, rfl⟩ := fmtE_some h
  intro d hd
  simp only [List.mem_cons, List.not_mem_nil, or_false] at hd
  rcases hd with rfl | rfl
  · exact .str _
  · exact .int _ _
theorem fmtE_sig (hG : GHyp G) : SigOK Tryd.prog G fmtE fsg := by
  intro ins outs hwf hl hsl hr hno
  obtain ⟨f, rfl, hs, rfl⟩ := fmtE_some hr
  refine ⟨fmtE_wf hr, ?_⟩
  have := format_c hG f hs
  rw [F.enc_eq]
  exact this
end Go.Proofs.YtgmnlkjoiakoaaaDoor
