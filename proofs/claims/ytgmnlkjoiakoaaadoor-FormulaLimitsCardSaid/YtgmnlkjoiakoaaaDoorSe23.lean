/- A reader that turns the text of a function into a plain program on data, and its soundness: lemmas. -/
import Derived.Test.YtgmnlkjoiakoaaaDoorSe22
import Derived.ReadAgain
import Derived.ChangeReads
import Derived.OpenShut
set_option linter.unusedSimpArgs false
set_option linter.unusedVariables false
set_option linter.unusedSectionVars false
namespace Am
open Go Go.ChangeShapes Go.WideShapes

/-! # the bridge: from a contract to what a row asks -/
/-- every cell that the world holds -/
def allC (W : World) : Com := fun r o => ∃ v, W.cell? ⟨r, o, none⟩ = some v
theorem relH_nil (W : World) (ρ : Rho) : RelH W (allC W) ρ (hOf []) := ⟨fun b k h => by simp [hOf] at h, fun b b' r s s' _ h => by simp [hOf] at h, fun r o h => h⟩

section
variable {H : Type} {enc : TypeId × Value → H} {P : Program} {W W' : World} {C C' : Com} {ρ ρ' : Rho}
theorem Ext.old (hE : Ext W C ρ (hOf []) W' C' ρ' (hOf [])) {r : Nat} (h : r < W.heap.size) : W'.heap[r]? = W.heap[r]? :=
  hE.same r h (fun ⟨b, s, hb, _⟩ => by simp [hOf] at hb)
theorem cell_old {w w' : World} {a : Addr} (h : w'.heap[a.block]? = w.heap[a.block]?) : w'.cell? a = w.cell? a := by
  unfold World.cell?
  rw [h]
theorem sameAt_old (hE : Ext W C ρ (hOf []) W' C' ρ' (hOf [])) : ∀ p : MemPlace, p.block < W.heap.size → W.sameAt W' p
  | .cell b off, h => cell_old (hE.old h)
  | .map b, h => hE.old h
theorem trodAll_carry {base : Nat} {sp : Nat → Bool} {hd : Bool} : ∀ {ts : List TypeId} {vs : List Value} {ds : List (DataW H)} {ps : List MemPlace}, DataW.TrodAll enc P W base sp hd ts vs ds ps → (∀ p ∈ ps, W.sameAt W' p) → DataW.TrodAll enc P W' base sp hd ts vs ds ps
  | [], [], [], _, h, _ => h
  | _ :: _, _ :: _, _ :: _, _, ⟨p, q, ⟨n, h1⟩, h2, e⟩, hs =>
    ⟨p, q, ⟨n, DataW.trod_carry n _ _ _ h1 (fun x hx => hs x (by rw [e]; exact List.mem_append_left _ hx))⟩, trodAll_carry h2 (fun x hx => hs x (by rw [e]; exact List.mem_append_right _ hx)), e⟩

/-- what the rows of this program ask: true, and the arguments as they were -/
theorem post_true {f : Func} {s : ChangeSpec} {apart fresh handsOn again : Bool} {args : Array Value} {ds gs : List (DataW H)} {before : List MemPlace} {tb : TypeId}
    (hl : laidOutB P = true) (hm : mapsRowed P = true) (hz : ((List.range P.types.size).all fun t => match P.underlying t with | some (.slice e) => decide (0 < P.cellsOf e) | _ => true) = true)
    (hT : ∀ t ∈ f.params.toList, t < P.types.size) (hvars : s.vars = [])
    (hW : DataW.Whole enc P f.params.toList s.vars apart W args.toList ds gs before)
    (hfn : s.fn H (ds ++ gs) = { results := [.lit (.bool true)], args := ds }) (hres : f.resultTypes = #[tb]) (hb : P.underlying tb = some .bool)
    (hE : Ext W C ρ (hOf []) W' C' ρ' (hOf [])) : s.post enc P f apart fresh handsOn again W args (.bool true) W' := by
  have hlt := hW.lt
  have hW0 := hW
  obtain ⟨p, q, hA, hV, hpq, hfz, hnd⟩ := hW0
  rw [hvars] at hV
  obtain ⟨rfl, rfl⟩ := trodVars_none hV
  simp only [List.append_nil] at hpq
  subst hpq
  have hfr : ∀ b off, MemPlace.cell b off ∈ before → W'.frozen? ⟨b, off, none⟩ = false := by
    intro b off hp
    rw [show W'.frozen? ⟨b, off, none⟩ = W.frozen? ⟨b, off, none⟩ by
      unfold World.frozen?
      rw [show W'.heap[b]? = W.heap[b]? from hE.old (hlt _ hp)]]
    exact hfz b off hp
  have hA' : DataW.TrodAll enc P W' 0 (fun _ => true) true f.params.toList args.toList ds before := trodAll_carry hA (fun x hx => sameAt_old hE x (hlt x hx))
  have hR : ∀ (b : Nat) (sp : Nat → Bool) (hd : Bool), DataW.TrodAll enc P W' b sp hd [tb] [.bool true] [.lit (.bool true)] [] := fun b sp hd => trodAll_mk1 ⟨1, by simp [DataW.trod, Value.cells, hb]⟩
  have hv1 : (Value.bool true).resultList f.resultTypes.size = [.bool true] := by rw [hres]; rfl
  refine ⟨ds, [], before, [], before, [], hW, ?_, ?_, ?_, ?_, fun _ => ⟨?_, [.lit (.bool true)] ++ ds, [], before, ⟨[] ++ before, [], ?_, ?_, by simp, hfr, hnd⟩, fun p hp _ => hp⟩⟩
  · rw [hv1, hres, hfn]; exact hR _ _ _
  · rw [hfn]
    exact hA'.respare (kids_rows hl hm) (slices_full_of P hz) hT (fun p hp => decide_eq_true (hlt p hp))
  · rw [hvars, hfn]; rfl
  · refine ⟨hE.os, hE.output, fun i hi => ?_⟩
    rw [hE.old hi]
    cases hc : W.heap[i]? with
    | none => rfl
    | some o => cases o with
      | cells c t fr => exact ⟨rfl, rfl, rfl, fun _ _ => rfl⟩
      | map es clock => exact .inr ⟨rfl, rfl⟩
      | _ => rfl
  · intro j t r h1 h2
    rw [hv1] at h2
    rw [hres] at h1
    cases j with
    | succ j => simp at h2
    | zero =>
      simp at h1 h2
      subst h1; subst h2
      simp [Value.okWide, hb, Cell.okWide, Cell.ok]
  · rw [hv1, hres]
    exact trodAll_append hA' (hR _ _ _)
  · rw [hvars]; rfl
end
end Am
