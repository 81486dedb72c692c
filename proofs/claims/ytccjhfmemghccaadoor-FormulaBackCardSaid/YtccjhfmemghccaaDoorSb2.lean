/- What functions of the program compute: lemmas. -/
import Derived.Test.YtccjhfmemghccaaDoorSa9
import Derived.Test.YtccjhfmemghccaaDoorAmEv
import Derived.Test.YtccjhfmemghccaaDoorAm4
set_option linter.unusedSimpArgs false
set_option linter.unusedVariables false
set_option linter.unusedSectionVars false
namespace Go.Proofs.YtccjhfmemghccaaDoor
open Go Am
set_option maxRecDepth 100000
set_option maxHeartbeats 1000000
variable {G : Glob}
def GHyp (G : Glob) : Prop := G 0 = some wordsD
def fmtE : PF := fun a => match F.decN 1000 a with
 | some f => if f.size < 4611686018427387904 then some [.str (formatS f), .int .i64 (formatE f)] else none
 | none => none
def fsg : Sig := ⟨15, 3, [], [(.agg [(.atm (.v 0)), (.atm (.v 1)), (.atm (.v 2))])], 2, [], (.tup [(.atm (.v 0)), (.atm (.v 1))]), false, []⟩
theorem fmtE_some {a o : List D} (h : fmtE a = some o) : ∃ f : F, a = f.enc ∧ f.size < 4611686018427387904 ∧ o = [.str (formatS f), .int .i64 (formatE f)] := by
 unfold fmtE at h
 split at h
 · rename_i f hf
   split at h
   · rename_i hs
     simp only [Option.some.injEq] at h
     exact ⟨f, (F.decN_ok _ _ _ hf).symm, hs, h.symm⟩
   · simp at h
 · simp at h
theorem fmtE_wf {a o : List D} (h : fmtE a = some o) : EWF o := by
 obtain ⟨f, _, _, rfl⟩ := fmtE_some h
 intro d hd
 simp only [List.mem_cons, List.not_mem_nil, or_false] at hd
 rcases hd with rfl | rfl
 · exact .str _
 · exact .int _ _
theorem fmtE_sig (hG : GHyp G) : SigOK Tryd.prog G fmtE fsg := by
 intro ins outs hwf hl hsl hr hno
 obtain ⟨f, rfl, hs, rfl⟩ := fmtE_some hr
 refine ⟨fmtE_wf hr, ?_⟩
 have := format_c hG f hs
 rw [F.enc_eq]
 exact ⟨this, fun i hi => by simp [fsg, inL] at hi⟩
end Go.Proofs.YtccjhfmemghccaaDoor
