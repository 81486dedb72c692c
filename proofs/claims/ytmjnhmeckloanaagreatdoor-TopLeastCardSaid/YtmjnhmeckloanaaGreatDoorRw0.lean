/- What functions of the program compute: lemmas. -/
import Derived.Test.YtmjnhmeckloanaaGreatDoorSb3
import Derived.Test.YtmjnhmeckloanaaGreatDoorAm3
import Derived.Test.YtmjnhmeckloanaaGreatDoorAm5
import Derived.Test.YtmjnhmeckloanaaGreatDoorRows
import Derived.Lib.LaidTab
import Derived.ChangeArms
import Derived.Test.YtmjnhmeckloanaaGreatDoorCards
import Derived.Test.YtmjnhmeckloanaaGreatDoorTie
import Derived.WalkKit
import Derived.ProofKit
import Derived.OpenShut
import Derived.Deep.DeepHandedRow
set_option linter.unusedSimpArgs false
set_option linter.unusedVariables false
set_option linter.unusedSectionVars false
namespace Go.Proofs.YtmjnhmeckloanaaGreatDoor
open Go Am Go.ChangeShapes Go.WideShapes
set_option maxRecDepth 100000
theorem u4 : Tryz.prog.underlying 4 = some .bool := by kernel_rfl
theorem u3 : Tryz.prog.underlying 3 = some (.int .i64) := by kernel_rfl
theorem u5 : Tryz.prog.underlying 5 = some (.int .u8) := by kernel_rfl
theorem laidOut : laidOutB Tryz.prog = true := by kernel_rfl
theorem rowed : mapsRowed Tryz.prog = true := by kernel_rfl
theorem fullS : ((List.range Tryz.prog.types.size).all fun t => match Tryz.prog.underlying t with | some (.slice e) => decide (0 < Tryz.prog.cellsOf e) | _ => true) = true := by kernel_rfl
theorem ownK : ownKnob Tryz.prog.godebug = none := by kernel_rfl
theorem gTabN : Tryz.prog.globalNamed "math/bits.deBruijn64tab" = some gTab := by kernel_rfl
theorem gTabT : (Tryz.prog.globals[gTab]?).map (·.type) = some 225 := by kernel_rfl
theorem u64a : Tryz.prog.underlying 225 = some (.array 64 5) := by kernel_rfl
theorem c1a : Tryz.prog.cellsOf 5 = 1 := by kernel_rfl
theorem c64a : Tryz.prog.cellsOf 225 = 64 := by kernel_rfl
theorem tabL : (Rows.laid_math_bits_deBruijn64tab : DataW Unit) = .agg (Lib.deBruijn64tab.map fun (n : Nat) => .lit (.int .u8 (n : Int))) := rfl
theorem tabV {W : World} {r : List (String × DataW Unit)} {ps : List MemPlace} (h : DataW.LaidVars Tryz.prog W (("math/bits.deBruijn64tab", Rows.laid_math_bits_deBruijn64tab) :: r) ps) :
 (∀ j, j < 64 → W.cell? ⟨gTab, j, none⟩ = some (.int .u8 ((Lib.deBruijn64tab.getD j 0 : Nat) : Int))) ∧ ∃ q, DataW.LaidVars Tryz.prog W r q := by
 obtain ⟨g', t', cs, fuel, p, q, hg', ht', hvar, hd, hq, _⟩ := h
 refine ⟨?_, q, hq⟩
 obtain rfl := Option.some.inj (gTabN.symm.trans hg')
 obtain rfl := Option.some.inj (gTabT.symm.trans ht')
 cases fuel with
 | zero => simp [DataW.trod] at hd
 | succ fuel =>
  rw [tabL] at hd
  simp only [DataW.trod, u64a, c1a, c64a, Nat.mul_one] at hd
  split at hd
  · rename_i hl
    obtain ⟨xs, hm, hx⟩ := Option.map_eq_some_iff.1 hd
    have hxs := congrArg Prod.fst hx
    simp only [DataW.agg.injEq] at hxs
    intro j hj
    obtain ⟨b, hb, hf⟩ := Lib.mapM_at hm j j (by simp [hj])
    obtain ⟨s, hc, rfl, _⟩ := DataW.trod_int u5 hf
    have h1 : cs.toList[j]? = some (.int .u8 s) := by
     have := congrArg (·[0]?) hc
     simpa [List.getElem?_take, List.getElem?_drop] using this
    have h2 : (xs.map (·.1))[j]? = some (DataW.lit (.int .u8 s)) := by simp [hb]
    rw [hxs] at h2
    have hlen : j < Lib.deBruijn64tab.length := hj
    rw [List.getElem?_map, List.getElem?_eq_getElem hlen] at h2
    have h3 : ((Lib.deBruijn64tab[j] : Nat) : Int) = s := (Lit.int.inj (DataW.lit.inj (Option.some.inj h2))).2
    rw [World.var?_cell gTabN hvar j, ← Array.getElem?_toList, h1, ← h3, List.getD_eq_getElem?_getD, List.getElem?_eq_getElem hlen]
    rfl
  · cases hd
theorem tabG {W : World} (hc : ∀ j, j < 64 → W.cell? ⟨gTab, j, none⟩ = some (.int .u8 ((Lib.deBruijn64tab.getD j 0 : Nat) : Int))) : RepA W (allC W) (fun _ => none) (fun _ => none) (.eptr tabT) (.pointer (some ⟨gTab, 0, none⟩)) := by
 refine .eptr _ gTab 0 (fun j => .int .u8 ((Lib.deBruijn64tab.getD j 0 : Nat) : Int)) (fun j hj => ?_) (fun j hj => ?_) (fun j hj => ?_)
 · exact ⟨_, by simpa using hc j hj⟩
 · exact ⟨by simpa using hc j hj, rfl⟩
 · have hj' : j < 64 := hj
   have hlen : j < Lib.deBruijn64tab.length := hj
   have key : ∀ d : D, d = D.int .u8 ((Lib.deBruijn64tab.getD j 0 : Nat) : Int) → RepD W (allC W) d (.int .u8 ((Lib.deBruijn64tab.getD j 0 : Nat) : Int)) := by rintro _ rfl; exact .int _ _
   exact key _ (by simp [tabT, hlen])
def GW : Glob := fun g => if g = gTab then some tabT else none
theorem GW_ok : GHyp GW := if_pos rfl
theorem glob_ok {W : World} (h : laidMetH Tryz.prog [("math/bits.deBruijn64tab", Rows.laid_math_bits_deBruijn64tab)] W) : GlobOK GW W (allC W) := by
 obtain ⟨ps, hv, _⟩ := h
 intro g cells hg
 unfold GW at hg
 split at hg
 · rename_i he
   subst he
   obtain rfl := Option.some.inj hg
   exact tabG (tabV hv).1
 · cases hg
theorem call_true {i f : Nat} {sg : Sig} {W : World} {ins : Env} {vs : List Value} (hi : sigs[i]? = some sg) (hf : sg.f = f) (hH : sg.Hin = []) (hH' : sg.Hout = []) (hn : sg.nout = 1) (hres : sg.res = .atm (.v 0))
 (hL : laidMetH Tryz.prog [("math/bits.deBruijn64tab", Rows.laid_math_bits_deBruijn64tab)] W) (hwf : EWF ins) (hl : ins.length = sg.nin) (hr : run tb i ins = some [.bool true])
 (hargs : RepAll W (allC W) (fun _ => none) (hOf []) (SV.instL ins (lnL ins []) sg.args) vs) :
 Calls Tryz.prog f ⟨vs⟩ W fun e W' => e = .returned (.bool true) ∧ ∃ C' ρ', Ext W (allC W) (fun _ => none) (hOf []) W' C' ρ' (hOf []) := by
 have hcc := run_cc (P := Tryz.prog) tok gok (by kernel_rfl) (tb_ok GW_ok) hi hwf hl (by rw [hH]; simp) hr (by rw [hn]; rfl)
 rw [hH, hH', hf, hres] at hcc
 refine (hcc.2 W (allC W) (fun _ => none) vs (relH_nil W _) (glob_ok hL) hargs).mono fun e W' h => ?_
 obtain ⟨v, C', ρ', rfl, _, hE, hv⟩ := h
 have : v = .bool true := by
  cases hv with
  | d _ _ h => cases h; rfl
 subst this
 exact ⟨rfl, C', ρ', hE⟩
end Go.Proofs.YtmjnhmeckloanaaGreatDoor

namespace Go.Proofs.YtmjnhmeckloanaaGreatDoor
open Go Am Go.ChangeShapes Go.WideShapes Go.ChangeAt Go.RowKit
set_option maxRecDepth 100000
noncomputable def laidWorld (os : Os) : World :=
 { World.holding Tryz.prog os ⟨#[], #[], []⟩ with heap := (World.holding Tryz.prog os ⟨#[], #[], []⟩).heap.modify gTab fun
    | .cells _ t frozen => .cells (Lib.deBruijn64tab.map fun (n : Nat) => Value.int .u8 (n : Int)).toArray t frozen
    | o => o }
abbrev TBool : TypeId := 4
theorem uBool : Tryz.prog.underlying TBool = some .bool := u4
def LT : List Nat := [3, 4, 5, 9, 22, 26, 35]
theorem simpleLT : simpleT Tryz.prog LT = true := by kernel_rfl
theorem uInts : Tryz.prog.underlying 22 = some (.slice 3) := by kernel_rfl
theorem wt_int {n : Nat} {d : List D} (h : WT Tryz.prog n 3 d) : ∃ x : Int, d = [.int .i64 x] := by
 cases n with
 | zero => exact h.elim
 | succ n => simp only [WT, u3] at h; obtain ⟨x, rfl, _⟩ := h; exact ⟨x, rfl⟩
theorem wt_ints {n : Nat} {d : List D} (h : WT Tryz.prog n 22 d) : ∃ l : List Int, d = [numsD l] ∧ l.length ≤ maxLen := by
 cases n with
 | zero => exact h.elim
 | succ n =>
  simp only [WT, uInts] at h
  obtain ⟨xs, rfl, hl, hx⟩ := h
  have key : ∀ xs : List (List D), (∀ row ∈ xs, WT Tryz.prog n 3 row) → ∃ l : List Int, xs = l.map numR := by
   intro xs
   induction xs with
   | nil => intro _; exact ⟨[], rfl⟩
   | cons r xs ih =>
    intro h
    obtain ⟨l, rfl⟩ := ih fun row hr => h row (by simp [hr])
    obtain ⟨x, rfl⟩ := wt_int (h r (by simp))
    exact ⟨x :: l, rfl⟩
  obtain ⟨l, rfl⟩ := key xs hx
  exact ⟨l, rfl, by simpa using hl⟩
end Go.Proofs.YtmjnhmeckloanaaGreatDoor
