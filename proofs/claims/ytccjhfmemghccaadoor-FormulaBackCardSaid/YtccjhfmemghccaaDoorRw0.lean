/- What functions of the program compute: lemmas. -/
import Derived.Test.YtccjhfmemghccaaDoorSb3
import Derived.Test.YtccjhfmemghccaaDoorAm3
import Derived.Test.YtccjhfmemghccaaDoorRows
import Derived.Lib.LaidTab
import Derived.ChangeArms
import Derived.Test.YtccjhfmemghccaaDoorCards
import Derived.Test.YtccjhfmemghccaaDoorTie
import Derived.WalkKit
import Derived.ProofKit
import Derived.OpenShut
import Derived.Deep.DeepHandedRow
set_option linter.unusedSimpArgs false
set_option linter.unusedVariables false
set_option linter.unusedSectionVars false
namespace Go.Proofs.YtccjhfmemghccaaDoor
open Go Am Go.ChangeShapes Go.WideShapes
set_option maxRecDepth 100000
theorem gWords : Tryd.prog.globalNamed "deliberation/formula.words" = some 0 := by kernel_rfl
theorem gWordsT : (Tryd.prog.globals[0]?).map (·.type) = some 77 := by kernel_rfl
theorem u89 : Tryd.prog.underlying 77 = some (.array 9 9) := by kernel_rfl
theorem u9 : Tryd.prog.underlying 9 = some .string := by kernel_rfl
theorem c9 : Tryd.prog.cellsOf 9 = 1 := by kernel_rfl
theorem c89 : Tryd.prog.cellsOf 77 = 9 := by kernel_rfl
theorem u4 : Tryd.prog.underlying 4 = some .bool := by kernel_rfl
theorem u3 : Tryd.prog.underlying 3 = some (.int .i64) := by kernel_rfl
theorem laidOut : laidOutB Tryd.prog = true := by kernel_rfl
theorem rowed : mapsRowed Tryd.prog = true := by kernel_rfl
theorem fullS : ((List.range Tryd.prog.types.size).all fun t => match Tryd.prog.underlying t with | some (.slice e) => decide (0 < Tryd.prog.cellsOf e) | _ => true) = true := by kernel_rfl
theorem ownK : ownKnob Tryd.prog.godebug = none := by kernel_rfl
def wordsB : List (List UInt8) := [[], [], [], [], [], [32, 38, 32], [32, 124, 32], [32, 45, 62, 32], [32, 60, 45, 62, 32]]
def GW : Glob := fun g => match g with | 0 => some wordsD | _ + 1 => none
theorem GW_ok : GHyp GW := rfl
theorem words_cells {W : World} (h : laidMetH Tryd.prog [("deliberation/formula.words", Rows.laid_deliberation_formula_words)] W) : ∀ j, j < 9 → W.cell? ⟨0, j, none⟩ = some (.string ⟨⟨wordsB.getD j []⟩⟩) := by
 obtain ⟨ps, ⟨g', t', cs, fuel, p, q, hg', ht', hvar, hd, _, _⟩, _⟩ := h
 obtain rfl := Option.some.inj (gWords.symm.trans hg')
 obtain rfl := Option.some.inj (gWordsT.symm.trans ht')
 cases fuel with
 | zero => simp [DataW.trod] at hd
 | succ fuel =>
  simp only [DataW.trod, u89, c9, c89, Nat.mul_one] at hd
  split at hd
  · rename_i hl
    obtain ⟨xs, hm, hx⟩ := Option.map_eq_some_iff.1 hd
    have hxs := congrArg Prod.fst hx
    simp only [Rows.laid_deliberation_formula_words, DataW.agg.injEq] at hxs
    intro j hj
    obtain ⟨b, hb, hf⟩ := Lib.mapM_at hm j j (by simp [hj])
    obtain ⟨s, hc, rfl, _⟩ := DataW.trod_string u9 hf
    have h1 : cs.toList[j]? = some (.string s) := by
     have := congrArg (·[0]?) hc
     simpa [List.getElem?_take, List.getElem?_drop] using this
    have h2 : (xs.map (·.1))[j]? = some (DataW.lit (.string s.data.toList)) := by simp [hb]
    rw [hxs] at h2
    rw [World.var?_cell gWords hvar j, ← Array.getElem?_toList, h1]
    have h3 : s.data.toList = wordsB.getD j [] := by
     rcases (show j = 0 ∨ j = 1 ∨ j = 2 ∨ j = 3 ∨ j = 4 ∨ j = 5 ∨ j = 6 ∨ j = 7 ∨ j = 8 by omega) with rfl | rfl | rfl | rfl | rfl | rfl | rfl | rfl | rfl <;> exact (Lit.string.inj (DataW.lit.inj (Option.some.inj h2))).symm
    rw [← h3]
  · cases hd
theorem glob_ok {W : World} (h : laidMetH Tryd.prog [("deliberation/formula.words", Rows.laid_deliberation_formula_words)] W) : GlobOK GW W (allC W) := by
 intro g cells hg
 cases g with
 | succ g => simp [GW] at hg
 | zero =>
  simp only [GW, Option.some.injEq] at hg
  subst hg
  have hc := words_cells h
  refine .eptr _ 0 0 (fun j => .string ⟨⟨wordsB.getD j []⟩⟩) (fun j hj => ?_) (fun j hj => ?_) (fun j hj => ?_)
  · exact ⟨_, by simpa using hc j hj⟩
  · exact ⟨by simpa using hc j hj, rfl⟩
  · have hj' : j < 9 := hj
    rcases (show j = 0 ∨ j = 1 ∨ j = 2 ∨ j = 3 ∨ j = 4 ∨ j = 5 ∨ j = 6 ∨ j = 7 ∨ j = 8 by omega) with rfl | rfl | rfl | rfl | rfl | rfl | rfl | rfl | rfl <;> exact .str _
theorem call_true {i f : Nat} {sg : Sig} {W : World} {ins : Env} {vs : List Value} (hi : sigs[i]? = some sg) (hf : sg.f = f) (hH : sg.Hin = []) (hH' : sg.Hout = []) (hn : sg.nout = 1) (hres : sg.res = .atm (.v 0))
 (hL : laidMetH Tryd.prog [("deliberation/formula.words", Rows.laid_deliberation_formula_words)] W) (hwf : EWF ins) (hl : ins.length = sg.nin) (hr : run tb i ins = some [.bool true])
 (hargs : RepAll W (allC W) (fun _ => none) (hOf []) (SV.instL ins (lnL ins []) sg.args) vs) :
 Calls Tryd.prog f ⟨vs⟩ W fun e W' => e = .returned (.bool true) ∧ ∃ C' ρ', Ext W (allC W) (fun _ => none) (hOf []) W' C' ρ' (hOf []) := by
 have hcc := run_cc (P := Tryd.prog) tok gok (by kernel_rfl) (tb_ok GW_ok) hi hwf hl (by rw [hH]; simp) hr (by rw [hn]; rfl)
 rw [hH, hH', hf, hres] at hcc
 refine (hcc.2 W (allC W) (fun _ => none) vs (relH_nil W _) (glob_ok hL) hargs).mono fun e W' h => ?_
 obtain ⟨v, C', ρ', rfl, _, hE, hv⟩ := h
 have : v = .bool true := by
  cases hv with
  | d _ _ h => cases h; rfl
 subst this
 exact ⟨rfl, C', ρ', hE⟩
end Go.Proofs.YtccjhfmemghccaaDoor

namespace Go.Proofs.YtccjhfmemghccaaDoor
open Go Am Go.ChangeShapes Go.WideShapes Go.ChangeAt Go.RowKit
set_option maxRecDepth 100000
noncomputable def laidWorld (os : Os) : World :=
 { World.holding Tryd.prog os ⟨#[], #[], []⟩ with heap := (World.holding Tryd.prog os ⟨#[], #[], []⟩).heap.modify 0 fun
    | .cells _ t frozen => .cells (wordsB.map fun l => Value.string ⟨⟨l⟩⟩).toArray t frozen
    | o => o }
abbrev TBool : TypeId := 4
theorem uBool : Tryd.prog.underlying TBool = some .bool := u4
def LT : List Nat := [3, 4, 5, 9, 22]
theorem simpleLT : simpleT Tryd.prog LT = true := by kernel_rfl
theorem uInts : Tryd.prog.underlying 22 = some (.slice 3) := by kernel_rfl
theorem wt_int {n : Nat} {d : List D} (h : WT Tryd.prog n 3 d) : ∃ x : Int, d = [.int .i64 x] := by
 cases n with
 | zero => exact h.elim
 | succ n => simp only [WT, u3] at h; obtain ⟨x, rfl, _⟩ := h; exact ⟨x, rfl⟩
theorem wt_str {n : Nat} {d : List D} (h : WT Tryd.prog n 9 d) : ∃ x : List UInt8, d = [.str x] ∧ x.length ≤ maxLen := by
 cases n with
 | zero => exact h.elim
 | succ n => simp only [WT, u9] at h; obtain ⟨x, rfl, h⟩ := h; exact ⟨x, rfl, h⟩
theorem wt_ints {n : Nat} {d : List D} (h : WT Tryd.prog n 22 d) : ∃ l : List Int, d = [numsD l] ∧ l.length ≤ maxLen := by
 cases n with
 | zero => exact h.elim
 | succ n =>
  simp only [WT, uInts] at h
  obtain ⟨xs, rfl, hl, hx⟩ := h
  have key : ∀ xs : List (List D), (∀ row ∈ xs, WT Tryd.prog n 3 row) → ∃ l : List Int, xs = l.map numR := by
   intro xs
   induction xs with
   | nil => intro _; exact ⟨[], rfl⟩
   | cons r xs ih =>
    intro h
    obtain ⟨l, rfl⟩ := ih fun row hr => h row (by simp [hr])
    obtain ⟨x, rfl⟩ := wt_int (h r (by simp))
    exact ⟨x :: l, rfl⟩
  obtain ⟨l, rfl⟩ := key xs hx
  exact ⟨l, rfl, by simpa using hl⟩
theorem uU8 : Tryd.prog.underlying 5 = some (.int .u8) := by kernel_rfl
theorem wt_byte {n : Nat} {d : List D} (h : WT Tryd.prog n 5 d) : ∃ c : UInt8, d = [.int .u8 c.toNat] := by
 cases n with
 | zero => exact h.elim
 | succ n =>
  simp only [WT, uU8] at h
  obtain ⟨x, rfl, hx⟩ := h
  simp only [Lit.wf, Bool.and_eq_true, decide_eq_true_eq] at hx
  have h0 : (0 : Int) ≤ x := hx.1
  have h1 : x ≤ 255 := hx.2
  refine ⟨UInt8.ofNat x.toNat, ?_⟩
  have h2 : (UInt8.ofNat x.toNat).toNat = x.toNat := by simp; omega
  rw [h2]
  have h3 : ((x.toNat : Nat) : Int) = x := Int.toNat_of_nonneg h0
  rw [h3]
end Go.Proofs.YtccjhfmemghccaaDoor
