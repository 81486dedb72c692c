/- Plain programs of the functions of the program and lemmas about what they compute. -/
import Derived.Test.YtefkehflmlikmaaDoorSb1
import Derived.Test.YtefkehflmlikmaaDoorAm6
import Derived.Test.YtefkehflmlikmaaDoorSa9
import Derived.Test.YtefkehflmlikmaaDoorAmEv
import Derived.Test.YtefkehflmlikmaaDoorAm4
import Derived.Shelf.Spec.TrailingZeros
set_option linter.unusedSimpArgs false
set_option linter.unusedVariables false
set_option linter.unusedSectionVars false
namespace Go.Proofs.YtefkehflmlikmaaDoor
open Go Am Go.Proofs
set_option maxRecDepth 100000
set_option linter.unusedSimpArgs false
set_option linter.unusedVariables false
variable {G : Glob}
abbrev gTab : Nat := 1
def tzRen : Go.Shelf.Ren := ⟨fun | 29 => 86 | n => n, fun | 0 => 0 | 3 => 3 | 4 => 4 | 5 => 5 | 22 => 28 | 25 => 42 | 54 => 121 | n => n, fun | 1 => gTab | n => n⟩
theorem tz29 : Lays7.n29 Tryd.prog tzRen := {
 mixed := by kernel_rfl
 f29 := Tryd.func86.trans (congrArg some (by kernel_rfl))
 t0 := Tryd.underlying0
 a0 := Tryd.isAgg0
 z0 := Tryd.sizeOf0
 v0 := Tryd.zeroValue0
 i0 := by kernel_rfl
 t3 := Tryd.underlying3
 a3 := Tryd.isAgg3
 z3 := Tryd.sizeOf3
 v3 := Tryd.zeroValue3
 i3 := by kernel_rfl
 t4 := Tryd.underlying4
 a4 := Tryd.isAgg4
 z4 := Tryd.sizeOf4
 v4 := Tryd.zeroValue4
 i4 := by kernel_rfl
 t5 := Tryd.underlying5
 a5 := Tryd.isAgg5
 z5 := Tryd.sizeOf5
 v5 := Tryd.zeroValue5
 i5 := by kernel_rfl
 t22 := Tryd.underlying28
 a22 := Tryd.isAgg28
 z22 := Tryd.sizeOf28
 v22 := Tryd.zeroValue28
 i22 := by kernel_rfl
 t25 := Tryd.underlying42
 a25 := Tryd.isAgg42
 z25 := Tryd.sizeOf42
 v25 := Tryd.zeroValue42
 i25 := by kernel_rfl
 t54 := Tryd.underlying121
 a54 := Tryd.isAgg121
 z54 := Tryd.sizeOf121
 g1 := by kernel_rfl }
def tabT : List D := Lib.deBruijn64tab.map fun (n : Nat) => D.int .u8 (n : Int)
def tzE : PF := fun a => match a with
 | [.int .u64 n] => if 0 ≤ n ∧ n < 18446744073709551616 then some [.int .i64 (Lib.ctz 64 n.toNat : Nat)] else none
 | _ => none
theorem tzE_run (x : BitVec 64) : tzE [bvD x] = some [.int .i64 (low x)] := by
 unfold tzE bvD low
 have := x.isLt
 simp only [Int.toNat_natCast]
 rw [if_pos (by omega)]
theorem tzE_some {a o : List D} (h : tzE a = some o) : ∃ x : BitVec 64, a = [bvD x] ∧ o = [.int .i64 (low x)] := by
 unfold tzE at h
 split at h
 · rename_i n
   split at h
   · rename_i hn
     refine ⟨BitVec.ofNat 64 n.toNat, ?_, ?_⟩
     · unfold bvD; rw [BitVec.toNat_ofNat, Nat.mod_eq_of_lt (by omega)]; congr 2; omega
     · unfold low; rw [BitVec.toNat_ofNat, Nat.mod_eq_of_lt (by omega)]; exact (Option.some.inj h).symm
   · cases h
 · cases h
theorem tzE_wf {a o : List D} (h : tzE a = some o) : EWF o := by
 obtain ⟨x, _, rfl⟩ := tzE_some h
 intro d hd
 simp only [List.mem_cons, List.not_mem_nil, or_false] at hd
 subst hd
 exact .int _ _
theorem tz_body : Body Tryd.prog 86 := ⟨Tryd.f86, Tryd.func86, by kernel_rfl, by kernel_rfl⟩
theorem tab_at {w : World} {C : Com} {g : Nat} (h : RepA w C (fun _ => none) (fun _ => none) (.eptr tabT) (.pointer (some ⟨g, 0, none⟩))) : TabAt g Lib.deBruijn64tab w := by
 intro j hj
 cases h with
 | eptr _ r o vs h1 h2 h3 =>
  have hj' : j < tabT.length := by simpa [tabT] using hj
  have h4 := h3 j hj'
  have h5 := (h2 j hj').1
  rw [Nat.zero_add] at h5
  have : tabT[j] = D.int .u8 ((Lib.deBruijn64tab.getD j 0 : Nat) : Int) := by simp [tabT, hj]
  rw [this] at h4
  generalize vs j = v at h4 h5
  cases h4
  exact h5
theorem tzE_sig (hG : G gTab = some tabT) : SigOK Tryd.prog G tzE sg26 := by
 intro ins outs hwf hl hsl hr hno
 obtain ⟨x, rfl, rfl⟩ := tzE_some hr
 refine ⟨tzE_wf hr, ⟨tz_body, fun w C ρ vs hR hGl hv => ?_⟩, fun i hi => by simp [sg26, inL] at hi⟩
 obtain ⟨hlen, hv⟩ := hv
 obtain ⟨v0, rfl⟩ : ∃ v0, vs = [v0] := by
  match vs, hlen with
  | [v0], _ => exact ⟨v0, rfl⟩
 have h0 := hv 0 (by simp [sg26, SV.instL]) (by simp)
 have hv0 : v0 = .int .u64 (x.toNat : Int) := by
  cases h0 with
  | d _ _ h => cases h; rfl
 subst hv0
 refine (Any7.bits_TrailingZeros64 tz29 x.toNat x.isLt w fun _ => tab_at (hGl _ _ hG)).mono ?_
 rintro e w' ⟨rfl, rfl⟩
 exact ⟨_, C, ρ, rfl, hR, .refl _ _ _ _, .d _ _ (.int _ _)⟩
end Go.Proofs.YtefkehflmlikmaaDoor

namespace Go.Proofs.YtefkehflmlikmaaDoor
open Go Am
set_option maxRecDepth 100000
set_option maxHeartbeats 1000000
variable {G : Glob}
def fmtE : PF := fun a => match F.decN 1000 a with
 | some f => if f.size < 4611686018427387904 then some [.str (formatS f), .int .i64 (formatE f)] else none
 | none => none
def fsg : Sig := ⟨36, 3, [], [(.agg [(.atm (.v 0)), (.atm (.v 1)), (.atm (.v 2))])], 2, [], (.tup [(.atm (.v 0)), (.atm (.v 1))]), false, []⟩
theorem fmtE_some {a o : List D} (h : fmtE a = some o) : ∃ f : F, a = f.enc ∧ f.size < 4611686018427387904 ∧ o = [.str (formatS f), .int .i64 (formatE f)] := by
 unfold fmtE at h
 split at h
 · rename_i f hf
   split at h
   · rename_i hs
     simp only [Option.some.injEq] at h
     exact ⟨f, (F.decN_ok _ _ _ hf).symm, hs, h.symm⟩
   · simp at h
 · simp at h
theorem fmtE_wf {a o : List D} (h : fmtE a = some o) : EWF o := by
 obtain ⟨f, _, _, rfl⟩ := fmtE_some h
 intro d hd
 simp only [List.mem_cons, List.not_mem_nil, or_false] at hd
 rcases hd with rfl | rfl
 · exact .str _
 · exact .int _ _
theorem fmtE_sig (hG : G 0 = some wordsD) : SigOK Tryd.prog G fmtE fsg := by
 intro ins outs hwf hl hsl hr hno
 obtain ⟨f, rfl, hs, rfl⟩ := fmtE_some hr
 refine ⟨fmtE_wf hr, ?_⟩
 have := format_c hG f hs
 rw [F.enc_eq]
 exact ⟨this, fun i hi => by simp [fsg, inL] at hi⟩
end Go.Proofs.YtefkehflmlikmaaDoor

namespace Go.Proofs.YtefkehflmlikmaaDoor
open Go Am
def GHyp (G : Glob) : Prop := G 0 = some wordsD ∧ G gTab = some tabT
end Go.Proofs.YtefkehflmlikmaaDoor
