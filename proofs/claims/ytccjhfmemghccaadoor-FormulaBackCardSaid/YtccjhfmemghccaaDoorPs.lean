/- What functions of the program compute: lemmas. -/
import Derived.Test.YtccjhfmemghccaaDoorAm4
set_option linter.unusedSimpArgs false
set_option linter.unusedVariables false
set_option linter.unusedSectionVars false
namespace Am
open Go
set_option maxRecDepth 100000
def wordC (c : UInt8) : Bool := (decide (97 ≤ (c.toNat : Int)) && decide ((c.toNat : Int) ≤ 122)) || ((decide (65 ≤ (c.toNat : Int)) && decide ((c.toNat : Int) ≤ 90)) || ((decide (48 ≤ (c.toNat : Int)) && decide ((c.toNat : Int) ≤ 57)) || decide ((c.toNat : Int) = 95)))
def spaces : List UInt8 → Nat
 | [] => 0
 | c :: l => if (c.toNat : Int) = 32 then spaces l + 1 else 0
def wlen : List UInt8 → Nat
 | [] => 0
 | c :: l => if wordC c = true then wlen l + 1 else 0
theorem spaces_le : ∀ l : List UInt8, spaces l ≤ l.length
 | [] => by simp [spaces]
 | c :: l => by have := spaces_le l; simp only [spaces, List.length_cons]; split <;> omega
theorem wlen_le : ∀ l : List UInt8, wlen l ≤ l.length
 | [] => by simp [wlen]
 | c :: l => by have := wlen_le l; simp only [wlen, List.length_cons]; split <;> omega
theorem spaces_drop (s : List UInt8) (a : Nat) (h : a < s.length) : spaces (s.drop a) = if (s[a].toNat : Int) = 32 then spaces (s.drop (a + 1)) + 1 else 0 := by
 rw [drop_s h, spaces]
theorem wlen_drop (s : List UInt8) (a : Nat) (h : a < s.length) : wlen (s.drop a) = if wordC s[a] = true then wlen (s.drop (a + 1)) + 1 else 0 := by
 rw [drop_s h, wlen]
def skp (s : List UInt8) (p : Nat) : Nat := p + spaces (s.drop p)
theorem skp_le {s : List UInt8} {p : Nat} (h : p ≤ s.length) : p ≤ skp s p ∧ skp s p ≤ s.length := by
 have := spaces_le (s.drop p)
 simp only [List.length_drop] at this
 unfold skp; omega
def syms : List (List UInt8) := [[60, 45, 62], [45, 62], [126], [38], [124], [40], [41]]
def symOk (r y : List UInt8) : Bool := decide (y.length ≤ r.length) && (r.take y.length == y)
def nameK : List UInt8 := [110, 97, 109, 101]
def tokK (r : List UInt8) : List UInt8 × List UInt8 :=
 if r = [] then ([], []) else
 if r.take (wlen r) = [48] ∨ r.take (wlen r) = [49] then (r.take (wlen r), r.take (wlen r)) else
 if validName (r.take (wlen r)) = true then (nameK, r.take (wlen r)) else
 if 0 < wlen r then ([63], r.take (wlen r)) else
 match syms.find? (symOk r) with | some t => (t, t) | none => ([63], [])
def tk (s : List UInt8) (p : Nat) : List UInt8 × List UInt8 := tokK (s.drop (skp s p))
theorem tokK_le (r : List UInt8) : (tokK r).2.length ≤ r.length := by
 unfold tokK
 split
 · simp
 split
 · simp; omega
 split
 · simp; omega
 split
 · simp; omega
 split
 · rename_i t ht
   have := List.find?_some ht
   simp only [symOk, Bool.and_eq_true, decide_eq_true_eq] at this
   exact this.1
 · simp
theorem tk_le {s : List UInt8} {p : Nat} (h : p ≤ s.length) : skp s p + (tk s p).2.length ≤ s.length := by
 have h1 := skp_le h
 have h2 := tokK_le (s.drop (skp s p))
 simp only [List.length_drop] at h2
 unfold tk; omega
def nxt (s : List UInt8) (p : Nat) : Nat := skp s p + (tk s p).2.length
theorem validName_ne {t : List UInt8} (h : validName t = true) : t ≠ [] := by
 rintro rfl
 simp [validName] at h
theorem tokK_kind (r : List UInt8) : (tokK r = ([], []) ∧ r = []) ∨ ((tokK r).1 = nameK ∧ validName (tokK r).2 = true) ∨ ((tokK r).1 = [63]) ∨ ((tokK r).1 = (tokK r).2 ∧ (tokK r).1 ∈ [[48], [49], [60, 45, 62], [45, 62], [126], [38], [124], [40], [41]]) := by
 unfold tokK
 split
 · rename_i h; exact .inl ⟨rfl, h⟩
 split
 · rename_i h
   refine .inr (.inr (.inr ⟨rfl, ?_⟩))
   rcases h with h | h <;> simp [h]
 split
 · rename_i h; exact .inr (.inl ⟨rfl, h⟩)
 split
 · exact .inr (.inr (.inl rfl))
 split
 · rename_i t ht
   have := List.mem_of_find?_eq_some ht
   refine .inr (.inr (.inr ⟨rfl, ?_⟩))
   simp only [syms, List.mem_cons, List.not_mem_nil, or_false] at this ⊢
   rcases this with h | h | h | h | h | h | h <;> simp [h]
 · exact .inr (.inr (.inl rfl))
theorem tk_text {s : List UInt8} {p : Nat} {K : List UInt8} (h : (tk s p).1 = K) (hn : K ≠ nameK) (h1 : K ≠ [63]) : (tk s p).2 = K := by
 rcases tokK_kind (s.drop (skp s p)) with ⟨a, _⟩ | ⟨a, _⟩ | a | ⟨a, _⟩
 · unfold tk at h ⊢; rw [a] at h ⊢; exact h
 · exact absurd (h.symm.trans a) hn
 · exact absurd (h.symm.trans a) h1
 · unfold tk at h ⊢; rw [← a]; exact h
theorem tk_name {s : List UInt8} {p : Nat} (h : (tk s p).1 = nameK) : validName (tk s p).2 = true := by
 rcases tokK_kind (s.drop (skp s p)) with ⟨a, _⟩ | ⟨_, a⟩ | a | ⟨_, a⟩
 · unfold tk at h; rw [a] at h; simp [nameK] at h
 · exact a
 · unfold tk at h; rw [a] at h; simp [nameK] at h
 · unfold tk at h; rw [h] at a; simp [nameK] at a
theorem nxt_le {s : List UInt8} {p : Nat} (h : p ≤ s.length) : nxt s p ≤ s.length := tk_le h
theorem nxt_lt {s : List UInt8} {p : Nat} (h : p ≤ s.length) {K : List UInt8} (hk : (tk s p).1 = K) (h0 : K ≠ []) (h1 : K ≠ [63]) : p < nxt s p := by
 have h2 := skp_le h
 have h3 : (tk s p).2 ≠ [] := by
  by_cases hn : K = nameK
  · exact validName_ne (tk_name (hk.trans hn))
  · rw [tk_text hk hn h1]; exact h0
 have := List.length_pos_iff.2 h3
 unfold nxt; omega
def conL : Nat → List UInt8
 | 0 => [38]
 | _ => [124]
def opL : Nat → Int
 | 0 => 5
 | _ => 6
def arrK : List UInt8 := [45, 62]
def iffK : List UInt8 := [60, 45, 62]
inductive Job where
 | lev (L p : Nat)
 | loop (L p : Nat) (acc : List F) (b : Bool)
inductive PRes where
 | ok (f : F) (p : Nat) (b : Bool)
 | er (e : Nat)
inductive Ps (s : List UInt8) : Job → PRes → Prop where
 | name {p} (h : (tk s p).1 = nameK) : Ps s (.lev 0 p) (.ok (F.mk 3 (tk s p).2 []) (nxt s p) false)
 | zero {p} (h : (tk s p).1 = [48]) : Ps s (.lev 0 p) (.ok (F.mk 2 [] []) (nxt s p) false)
 | one {p} (h : (tk s p).1 = [49]) : Ps s (.lev 0 p) (.ok (F.mk 1 [] []) (nxt s p) false)
 | not {p f q b} (h : (tk s p).1 = [126]) (a : Ps s (.lev 0 (nxt s p)) (.ok f q b)) : Ps s (.lev 0 p) (.ok (F.mk 4 [] [f]) q b)
 | notE {p e} (h : (tk s p).1 = [126]) (a : Ps s (.lev 0 (nxt s p)) (.er e)) : Ps s (.lev 0 p) (.er e)
 | par {p f q b} (h : (tk s p).1 = [40]) (a : Ps s (.lev 4 (nxt s p)) (.ok f q b)) (h2 : (tk s q).1 = [41]) : Ps s (.lev 0 p) (.ok f (nxt s q) b)
 | parN {p f q b} (h : (tk s p).1 = [40]) (a : Ps s (.lev 4 (nxt s p)) (.ok f q b)) (h2 : (tk s q).1 ≠ [41]) : Ps s (.lev 0 p) (.er (skp s q))
 | parE {p e} (h : (tk s p).1 = [40]) (a : Ps s (.lev 4 (nxt s p)) (.er e)) : Ps s (.lev 0 p) (.er e)
 | none {p} (h1 : (tk s p).1 ≠ nameK) (h2 : (tk s p).1 ≠ [48]) (h3 : (tk s p).1 ≠ [49]) (h4 : (tk s p).1 ≠ [126]) (h5 : (tk s p).1 ≠ [40]) : Ps s (.lev 0 p) (.er (skp s p))
 | one1 {L p f q b} (hL : L < 2) (a : Ps s (.lev L p) (.ok f q b)) (h : (tk s q).1 ≠ conL L) : Ps s (.lev (L + 1) p) (.ok f q b)
 | manyE {L p e} (hL : L < 2) (a : Ps s (.lev L p) (.er e)) : Ps s (.lev (L + 1) p) (.er e)
 | many {L p f q b r} (hL : L < 2) (a : Ps s (.lev L p) (.ok f q b)) (h : (tk s q).1 = conL L) (c : Ps s (.loop L (nxt s q) [f] b) r) : Ps s (.lev (L + 1) p) r
 | loopE {L p acc b e} (hL : L < 2) (a : Ps s (.lev L p) (.er e)) : Ps s (.loop L p acc b) (.er e)
 | loop1 {L p acc b f q b'} (hL : L < 2) (a : Ps s (.lev L p) (.ok f q b')) (h : (tk s q).1 ≠ conL L) : Ps s (.loop L p acc b) (.ok (F.mk (opL L) [] (acc ++ [f])) q ((b || b') || decide (acc.length + 1 > 6)))
 | loop2 {L p acc b f q b' r} (hL : L < 2) (a : Ps s (.lev L p) (.ok f q b')) (h : (tk s q).1 = conL L) (c : Ps s (.loop L (nxt s q) (acc ++ [f]) (b || b')) r) : Ps s (.loop L p acc b) r
 | imp1 {p f q b} (a : Ps s (.lev 2 p) (.ok f q b)) (h : (tk s q).1 ≠ arrK) : Ps s (.lev 3 p) (.ok f q b)
 | impE {p e} (a : Ps s (.lev 2 p) (.er e)) : Ps s (.lev 3 p) (.er e)
 | imp2 {p f q b g u b'} (a : Ps s (.lev 2 p) (.ok f q b)) (h : (tk s q).1 = arrK) (c : Ps s (.lev 3 (nxt s q)) (.ok g u b')) : Ps s (.lev 3 p) (.ok (F.mk 7 [] [f, g]) u (b || b'))
 | imp2E {p f q b e} (a : Ps s (.lev 2 p) (.ok f q b)) (h : (tk s q).1 = arrK) (c : Ps s (.lev 3 (nxt s q)) (.er e)) : Ps s (.lev 3 p) (.er e)
 | iff1 {p f q b} (a : Ps s (.lev 3 p) (.ok f q b)) (h : (tk s q).1 ≠ iffK) : Ps s (.lev 4 p) (.ok f q b)
 | iffE {p e} (a : Ps s (.lev 3 p) (.er e)) : Ps s (.lev 4 p) (.er e)
 | iff2 {p f q b g u b'} (a : Ps s (.lev 3 p) (.ok f q b)) (h : (tk s q).1 = iffK) (c : Ps s (.lev 3 (nxt s q)) (.ok g u b')) : Ps s (.lev 4 p) (.ok (F.mk 8 [] [f, g]) u (b || b'))
 | iff2E {p f q b e} (a : Ps s (.lev 3 p) (.ok f q b)) (h : (tk s q).1 = iffK) (c : Ps s (.lev 3 (nxt s q)) (.er e)) : Ps s (.lev 4 p) (.er e)
def Job.pos : Job → Nat
 | .lev _ p => p
 | .loop _ p _ _ => p
def Job.acc : Job → List F
 | .lev _ _ => []
 | .loop _ _ acc _ => acc
def Job.fine : Job → Prop
 | .lev _ _ => True
 | .loop _ _ acc b => acc ≠ [] ∧ F.allFs named acc = true ∧ F.allFs counted acc = !b
def Job.cost : Job → Nat
 | .lev _ _ => 0
 | .loop _ _ acc _ => 1 + F.sizes acc
def PRes.good (s : List UInt8) (j : Job) : PRes → Prop
 | .ok f q b => j.pos < q ∧ q ≤ s.length ∧ F.allF named f = true ∧ F.allF counted f = !b ∧ f.size ≤ j.cost + (q - j.pos)
 | .er e => e ≤ s.length
theorem conL_ne (L : Nat) : conL L ≠ [] ∧ conL L ≠ [63] := by cases L <;> simp [conL]
theorem allFsP_append (p : F → Bool) (a b : List F) : F.allFs p (a ++ b) = (F.allFs p a && F.allFs p b) := by
 induction a with
 | nil => simp [F.allFs]
 | cons x l ih => simp only [List.cons_append, F.allFs, ih, Bool.and_assoc]
theorem sizesP_append (a b : List F) : F.sizes (a ++ b) = F.sizes a + F.sizes b := by
 induction a with
 | nil => simp [F.sizes]
 | cons x l ih => simp only [List.cons_append, F.sizes, ih]; omega
theorem ps_good {s : List UInt8} {j : Job} {r : PRes} (h : Ps s j r) : j.pos ≤ s.length → j.fine → r.good s j := by
 induction h with
 | @name p h =>
  intro hp _
  change p ≤ s.length at hp
  have h1 := nxt_lt hp h (by simp [nameK]) (by simp [nameK])
  have h2 := nxt_le hp
  exact ⟨h1, h2, by simp [F.allF, F.allFs, named, F.op, F.name, tk_name h], by simp [F.allF, F.allFs, counted, F.op, F.args], by simp only [F.size, F.sizes, Job.cost, Job.pos]; omega⟩
 | @zero p h =>
  intro hp _
  change p ≤ s.length at hp
  have h1 := nxt_lt hp h (by simp) (by simp)
  have h2 := nxt_le hp
  exact ⟨h1, h2, by simp [F.allF, F.allFs, named, F.op, F.name], by simp [F.allF, F.allFs, counted, F.op, F.args], by simp only [F.size, F.sizes, Job.cost, Job.pos]; omega⟩
 | @one p h =>
  intro hp _
  change p ≤ s.length at hp
  have h1 := nxt_lt hp h (by simp) (by simp)
  have h2 := nxt_le hp
  exact ⟨h1, h2, by simp [F.allF, F.allFs, named, F.op, F.name], by simp [F.allF, F.allFs, counted, F.op, F.args], by simp only [F.size, F.sizes, Job.cost, Job.pos]; omega⟩
 | @not p f q b h a ih =>
  intro hp _
  change p ≤ s.length at hp
  have h1 := nxt_lt hp h (by simp) (by simp)
  obtain ⟨i1, i2, i3, i4, i5⟩ := ih (nxt_le hp) trivial
  simp only [Job.pos, Job.cost] at i1 i5
  exact ⟨by simp only [Job.pos]; omega, i2, by simp [F.allF, F.allFs, named, F.op, F.name, i3], by simp [F.allF, F.allFs, counted, F.op, F.args, i4], by simp only [F.size, F.sizes, Job.cost, Job.pos]; omega⟩
 | @notE p e h a ih => intro hp _; exact ih (nxt_le hp) trivial
 | @par p f q b h a h2 ih =>
  intro hp _
  change p ≤ s.length at hp
  have h1 := nxt_lt hp h (by simp) (by simp)
  obtain ⟨i1, i2, i3, i4, i5⟩ := ih (nxt_le hp) trivial
  have h3 := nxt_lt i2 h2 (by simp) (by simp)
  have h4 := nxt_le i2
  simp only [Job.pos, Job.cost] at i1 i5
  exact ⟨by simp only [Job.pos]; omega, h4, i3, i4, by simp only [Job.cost, Job.pos]; omega⟩
 | @parN p f q b h a h2 ih =>
  intro hp _
  change p ≤ s.length at hp
  obtain ⟨i1, i2, i3, i4, i5⟩ := ih (nxt_le hp) trivial
  exact (skp_le i2).2
 | @parE p e h a ih => intro hp _; exact ih (nxt_le hp) trivial
 | @none p h1 h2 h3 h4 h5 => intro hp _; exact (skp_le hp).2
 | one1 hL a h ih => intro hp hf; exact ih hp trivial
 | manyE hL a ih => intro hp hf; exact ih hp trivial
 | @many L p f q b r hL a h c iha ihc =>
  intro hp hf
  change p ≤ s.length at hp
  obtain ⟨i1, i2, i3, i4, i5⟩ := iha hp trivial
  have h3 := nxt_lt i2 h (conL_ne L).1 (conL_ne L).2
  have h4 := nxt_le i2
  have hc := ihc h4 ⟨by simp, by simp [F.allFs, i3], by simp [F.allFs, i4]⟩
  simp only [Job.pos, Job.cost] at i1 i5
  cases r with
  | ok g u b' =>
   obtain ⟨k1, k2, k3, k4, k5⟩ := hc
   simp only [Job.pos, Job.cost, F.sizes] at k1 k5
   exact ⟨by simp only [Job.pos]; omega, k2, k3, k4, by simp only [Job.cost, Job.pos]; omega⟩
  | er e => exact hc
 | loopE hL a ih => intro hp hf; exact ih hp trivial
 | @loop1 L p acc b f q b' hL a h ih =>
  intro hp hf
  change p ≤ s.length at hp
  obtain ⟨f1, f2, f3⟩ := hf
  obtain ⟨i1, i2, i3, i4, i5⟩ := ih hp trivial
  simp only [Job.pos, Job.cost] at i1 i5
  have hop : opL L = 5 ∨ opL L = 6 := by
   match L, hL with
   | 0, _ => exact .inl rfl
   | 1, _ => exact .inr rfl
  have hpos := List.length_pos_iff.2 f1
  refine ⟨i1, i2, ?_, ?_, ?_⟩
  · rcases hop with e | e <;> simp [F.allF, allFsP_append, F.allFs, named, F.op, F.name, e, i3, f2]
  · have hb : decide (((acc ++ [f]).length : Int) ≥ 2) = true := by simp; omega
    have hc : decide (((acc ++ [f]).length : Int) ≤ 6) = !decide (acc.length + 1 > 6) := by
     simp only [List.length_append, List.length_cons, List.length_nil]
     by_cases hx : acc.length + 1 > 6
     · simp only [hx, decide_true, Bool.not_true, decide_eq_false_iff_not]; omega
     · simp only [hx, decide_false, Bool.not_false, decide_eq_true_eq]; omega
    have hcn : counted (F.mk (opL L) [] (acc ++ [f])) = !decide (acc.length + 1 > 6) := by
     have k5 : ∀ l : List F, counted (F.mk 5 [] l) = (decide ((l.length : Int) ≥ 2) && decide ((l.length : Int) ≤ 6)) := fun l => rfl
     have k6 : ∀ l : List F, counted (F.mk 6 [] l) = (decide ((l.length : Int) ≥ 2) && decide ((l.length : Int) ≤ 6)) := fun l => rfl
     rcases hop with e | e
     · rw [e, k5, hb, hc, Bool.true_and]
     · rw [e, k6, hb, hc, Bool.true_and]
    simp only [F.allF, hcn, allFsP_append, F.allFs, f3, i4, Bool.and_true, Bool.not_or]
    cases b <;> cases b' <;> simp
  · simp only [F.size, sizesP_append, F.sizes, Job.cost, Job.pos]; omega
 | @loop2 L p acc b f q b' r hL a h c iha ihc =>
  intro hp hf
  change p ≤ s.length at hp
  obtain ⟨f1, f2, f3⟩ := hf
  obtain ⟨i1, i2, i3, i4, i5⟩ := iha hp trivial
  have h3 := nxt_lt i2 h (conL_ne L).1 (conL_ne L).2
  have h4 := nxt_le i2
  have hc := ihc h4 ⟨by simp, by simp [allFsP_append, F.allFs, i3, f2], by simp only [allFsP_append, F.allFs, i4, f3, Bool.and_true, Bool.not_or]⟩
  simp only [Job.pos, Job.cost] at i1 i5
  cases r with
  | ok g u b' =>
   obtain ⟨k1, k2, k3, k4, k5⟩ := hc
   simp only [Job.pos, Job.cost, sizesP_append, F.sizes] at k1 k5
   exact ⟨by simp only [Job.pos]; omega, k2, k3, k4, by simp only [Job.cost, Job.pos]; omega⟩
  | er e => exact hc
 | imp1 a h ih => intro hp hf; exact ih hp trivial
 | impE a ih => intro hp hf; exact ih hp trivial
 | @imp2 p f q b g u b' a h c iha ihc =>
  intro hp hf
  change p ≤ s.length at hp
  obtain ⟨i1, i2, i3, i4, i5⟩ := iha hp trivial
  have h3 := nxt_lt i2 h (by simp [arrK]) (by simp [arrK])
  obtain ⟨k1, k2, k3, k4, k5⟩ := ihc (nxt_le i2) trivial
  simp only [Job.pos, Job.cost] at i1 i5 k1 k5
  refine ⟨by simp only [Job.pos]; omega, k2, by simp [F.allF, F.allFs, named, F.op, F.name, i3, k3], ?_, by simp only [F.size, F.sizes, Job.cost, Job.pos]; omega⟩
  simp only [F.allF, F.allFs, counted, F.op, F.args, i4, k4]
  cases b <;> cases b' <;> simp
 | @imp2E p f q b e a h c iha ihc =>
  intro hp hf
  change p ≤ s.length at hp
  obtain ⟨i1, i2, i3, i4, i5⟩ := iha hp trivial
  exact ihc (nxt_le i2) trivial
 | iff1 a h ih => intro hp hf; exact ih hp trivial
 | iffE a ih => intro hp hf; exact ih hp trivial
 | @iff2 p f q b g u b' a h c iha ihc =>
  intro hp hf
  change p ≤ s.length at hp
  obtain ⟨i1, i2, i3, i4, i5⟩ := iha hp trivial
  have h3 := nxt_lt i2 h (by simp [iffK]) (by simp [iffK])
  obtain ⟨k1, k2, k3, k4, k5⟩ := ihc (nxt_le i2) trivial
  simp only [Job.pos, Job.cost] at i1 i5 k1 k5
  refine ⟨by simp only [Job.pos]; omega, k2, by simp [F.allF, F.allFs, named, F.op, F.name, i3, k3], ?_, by simp only [F.size, F.sizes, Job.cost, Job.pos]; omega⟩
  simp only [F.allF, F.allFs, counted, F.op, F.args, i4, k4]
  cases b <;> cases b' <;> simp
 | @iff2E p f q b e a h c iha ihc =>
  intro hp hf
  change p ≤ s.length at hp
  obtain ⟨i1, i2, i3, i4, i5⟩ := iha hp trivial
  exact ihc (nxt_le i2) trivial
theorem ps_total (s : List UInt8) : ∀ n : Nat, (∀ L p, L ≤ 4 → p ≤ s.length → 12 * (s.length - p) + 2 * L < n → ∃ r, Ps s (.lev L p) r) ∧ (∀ L p acc b, L < 2 → p ≤ s.length → 12 * (s.length - p) + 2 * L + 1 < n → ∃ r, Ps s (.loop L p acc b) r) := by
 intro n
 induction n with
 | zero => exact ⟨fun _ _ _ _ h => by omega, fun _ _ _ _ _ _ h => by omega⟩
 | succ n ih =>
  obtain ⟨ihl, ihm⟩ := ih
  have good : ∀ {L p f q b}, Ps s (.lev L p) (.ok f q b) → p ≤ s.length → p < q ∧ q ≤ s.length := fun h hp => by
   obtain ⟨a, b, _⟩ := ps_good h hp trivial
   exact ⟨a, b⟩
  refine ⟨fun L p hL hp hn => ?_, fun L p acc b hL hp hn => ?_⟩
  · match L, hL with
    | 0, _ =>
     by_cases h1 : (tk s p).1 = nameK
     · exact ⟨_, .name h1⟩
     by_cases h2 : (tk s p).1 = [48]
     · exact ⟨_, .zero h2⟩
     by_cases h3 : (tk s p).1 = [49]
     · exact ⟨_, .one h3⟩
     by_cases h4 : (tk s p).1 = [126]
     · have a := nxt_lt hp h4 (by simp) (by simp)
       have b := nxt_le hp
       obtain ⟨r, hr⟩ := ihl 0 (nxt s p) (by omega) b (by omega)
       cases r with
       | ok f q b => exact ⟨_, .not h4 hr⟩
       | er e => exact ⟨_, .notE h4 hr⟩
     by_cases h5 : (tk s p).1 = [40]
     · have a := nxt_lt hp h5 (by simp) (by simp)
       have b := nxt_le hp
       obtain ⟨r, hr⟩ := ihl 4 (nxt s p) (by omega) b (by omega)
       cases r with
       | ok f q b =>
        by_cases h6 : (tk s q).1 = [41]
        · exact ⟨_, .par h5 hr h6⟩
        · exact ⟨_, .parN h5 hr h6⟩
       | er e => exact ⟨_, .parE h5 hr⟩
     exact ⟨_, .none h1 h2 h3 h4 h5⟩
    | L + 1, hL =>
     obtain ⟨r, hr⟩ := ihl L p (by omega) hp (by omega)
     cases r with
     | er e =>
      match L, hL, hr with
      | 0, _, hr => exact ⟨_, .manyE (by omega) hr⟩
      | 1, _, hr => exact ⟨_, .manyE (by omega) hr⟩
      | 2, _, hr => exact ⟨_, .impE hr⟩
      | 3, _, hr => exact ⟨_, .iffE hr⟩
     | ok f q b =>
      obtain ⟨g1, g2⟩ := good hr hp
      match L, hL, hr with
      | 2, _, hr =>
       by_cases h : (tk s q).1 = arrK
       · have a := nxt_lt g2 h (by simp [arrK]) (by simp [arrK])
         have b := nxt_le g2
         obtain ⟨r, hr2⟩ := ihl 3 (nxt s q) (by omega) b (by omega)
         cases r with
         | ok g u b' => exact ⟨_, .imp2 hr h hr2⟩
         | er e => exact ⟨_, .imp2E hr h hr2⟩
       · exact ⟨_, .imp1 hr h⟩
      | 3, _, hr =>
       by_cases h : (tk s q).1 = iffK
       · have a := nxt_lt g2 h (by simp [iffK]) (by simp [iffK])
         have b := nxt_le g2
         obtain ⟨r, hr2⟩ := ihl 3 (nxt s q) (by omega) b (by omega)
         cases r with
         | ok g u b' => exact ⟨_, .iff2 hr h hr2⟩
         | er e => exact ⟨_, .iff2E hr h hr2⟩
       · exact ⟨_, .iff1 hr h⟩
      | 0, _, hr =>
       by_cases h : (tk s q).1 = conL 0
       · have a := nxt_lt g2 h (conL_ne 0).1 (conL_ne 0).2
         have b := nxt_le g2
         obtain ⟨r, hr2⟩ := ihm 0 (nxt s q) [f] _ (by omega) b (by omega)
         exact ⟨_, .many (by omega) hr h hr2⟩
       · exact ⟨_, .one1 (by omega) hr h⟩
      | 1, _, hr =>
       by_cases h : (tk s q).1 = conL 1
       · have a := nxt_lt g2 h (conL_ne 1).1 (conL_ne 1).2
         have b := nxt_le g2
         obtain ⟨r, hr2⟩ := ihm 1 (nxt s q) [f] _ (by omega) b (by omega)
         exact ⟨_, .many (by omega) hr h hr2⟩
       · exact ⟨_, .one1 (by omega) hr h⟩
  · obtain ⟨r, hr⟩ := ihl L p (by omega) hp (by omega)
    cases r with
    | er e => exact ⟨_, .loopE hL hr⟩
    | ok f q b' =>
     obtain ⟨g1, g2⟩ := good hr hp
     by_cases h : (tk s q).1 = conL L
     · have a := nxt_lt g2 h (conL_ne L).1 (conL_ne L).2
       have b2 := nxt_le g2
       obtain ⟨r, hr2⟩ := ihm L (nxt s q) (acc ++ [f]) (b || b') hL b2 (by omega)
       exact ⟨_, .loop2 hL hr h hr2⟩
     · exact ⟨_, .loop1 hL hr h⟩
theorem ps_any (s : List UInt8) : ∃ r, Ps s (.lev 4 0) r := (ps_total s (12 * s.length + 9)).1 4 0 (by omega) (Nat.zero_le _) (by omega)
end Am

namespace Am
open Go
set_option maxRecDepth 100000
def tkr (r : List UInt8) : List UInt8 × List UInt8 := tokK (r.drop (spaces r))
theorem tk_r (s : List UInt8) (p : Nat) : tk s p = tkr (s.drop p) := by
 unfold tk tkr skp
 rw [List.drop_drop]
theorem skp_no {s : List UInt8} {p : Nat} {c : UInt8} {l : List UInt8} (h : s.drop p = c :: l) (hc : (c.toNat : Int) ≠ 32) : skp s p = p := by
 unfold skp; rw [h, spaces, if_neg hc]; rfl
theorem tkr_sp (r : List UInt8) : tkr (32 :: r) = tkr r := by
 have h : spaces (32 :: r) = spaces r + 1 := by rw [spaces, if_pos (by decide)]
 unfold tkr
 rw [h, List.drop_succ_cons]
theorem skp_sp {s : List UInt8} {p : Nat} {l : List UInt8} (h : s.drop p = 32 :: l) : skp s p = skp s (p + 1) := by
 unfold skp
 have h1 : s.drop (p + 1) = l := by rw [← List.drop_drop, h]; rfl
 rw [h1, h, spaces, if_pos (by decide)]; omega
theorem sp0 {c : UInt8} (r : List UInt8) (h : (c.toNat : Int) ≠ 32) : tkr (c :: r) = tokK (c :: r) := by
 unfold tkr
 have : spaces (c :: r) = 0 := by rw [spaces, if_neg h]
 rw [this]; rfl
theorem wl0 {c : UInt8} (r : List UInt8) (h : wordC c = false) : wlen (c :: r) = 0 := by rw [wlen, if_neg (by simp [h])]
theorem validName_nil : validName [] = false := by decide
theorem tok_sym {c : UInt8} (r : List UInt8) (h : wordC c = false) : tokK (c :: r) = (match syms.find? (symOk (c :: r)) with | some t => (t, t) | none => ([63], [])) := by
 unfold tokK
 rw [wl0 r h]
 simp [validName_nil] <;> rfl
theorem symOk1 (c d : UInt8) (r : List UInt8) : symOk (c :: r) [d] = (c == d) := by simp [symOk, Bool.beq_eq_decide_eq]
theorem tkr_126 (r : List UInt8) : tkr (126 :: r) = ([126], [126]) := by
 rw [sp0 r (by decide), tok_sym r (by decide)]
 simp [syms, List.find?_cons, symOk, Bool.beq_eq_decide_eq]
theorem tkr_38 (r : List UInt8) : tkr (38 :: r) = ([38], [38]) := by
 rw [sp0 r (by decide), tok_sym r (by decide)]
 simp [syms, List.find?_cons, symOk, Bool.beq_eq_decide_eq]
theorem tkr_124 (r : List UInt8) : tkr (124 :: r) = ([124], [124]) := by
 rw [sp0 r (by decide), tok_sym r (by decide)]
 simp [syms, List.find?_cons, symOk, Bool.beq_eq_decide_eq]
theorem tkr_40 (r : List UInt8) : tkr (40 :: r) = ([40], [40]) := by
 rw [sp0 r (by decide), tok_sym r (by decide)]
 simp [syms, List.find?_cons, symOk, Bool.beq_eq_decide_eq]
theorem tkr_41 (r : List UInt8) : tkr (41 :: r) = ([41], [41]) := by
 rw [sp0 r (by decide), tok_sym r (by decide)]
 simp [syms, List.find?_cons, symOk, Bool.beq_eq_decide_eq]
theorem tkr_arr (r : List UInt8) : tkr (45 :: 62 :: r) = (arrK, arrK) := by
 rw [sp0 _ (by decide), tok_sym _ (by decide)]
 simp [syms, List.find?_cons, symOk, arrK, Bool.beq_eq_decide_eq]
theorem tkr_iff (r : List UInt8) : tkr (60 :: 45 :: 62 :: r) = (iffK, iffK) := by
 rw [sp0 _ (by decide), tok_sym _ (by decide)]
 simp [syms, List.find?_cons, symOk, iffK, Bool.beq_eq_decide_eq]
theorem wlen_app : ∀ (t r : List UInt8), (∀ c ∈ t, wordC c = true) → wlen r = 0 → wlen (t ++ r) = t.length
 | [], r, _, h => by simpa using h
 | c :: t, r, h, h0 => by
  rw [List.cons_append, wlen, if_pos (h c (by simp)), wlen_app t r (fun c hc => h c (by simp [hc])) h0]; rfl
theorem nameOk_word {i : Nat} {c : UInt8} (h : nameOk i c = true) : wordC c = true := by
 unfold nameOk at h
 unfold wordC
 simp only [Bool.or_eq_true, Bool.and_eq_true, decide_eq_true_eq, beq_iff_eq] at h ⊢
 omega
theorem nameFrom_word : ∀ (i : Nat) (l : List UInt8), nameFrom i l = true → ∀ c ∈ l, wordC c = true
 | _, [], _, c, hc => by cases hc
 | i, a :: l, h, c, hc => by
  simp only [nameFrom, Bool.and_eq_true] at h
  rcases List.mem_cons.1 hc with rfl | hc
  · exact nameOk_word h.1
  · exact nameFrom_word (i + 1) l h.2 c hc
theorem tkr_word {t r : List UInt8} (hw : ∀ c ∈ t, wordC c = true) (h0 : t ≠ []) (hr : wlen r = 0) : tkr (t ++ r) = tokK (t ++ r) ∧ (t ++ r).take (wlen (t ++ r)) = t := by
 obtain ⟨c, l, rfl⟩ := List.exists_cons_of_ne_nil h0
 refine ⟨sp0 _ ?_, ?_⟩
 · have := hw c (by simp)
   intro h
   unfold wordC at this
   rw [h] at this
   exact absurd this (by decide)
 · rw [wlen_app _ _ hw hr]; simp
theorem tkr_name {t r : List UInt8} (h : validName t = true) (hr : wlen r = 0) : tkr (t ++ r) = (nameK, t) := by
 have hw : ∀ c ∈ t, wordC c = true := by
  simp only [validName, Bool.and_eq_true] at h
  exact nameFrom_word 0 t h.2
 have hne := validName_ne h
 obtain ⟨h1, h2⟩ := tkr_word hw hne hr
 rw [h1]
 unfold tokK
 rw [h2, if_neg (by simp [hne]), if_neg ?_, if_pos h]
 rintro (rfl | rfl)
 · exact absurd h (by decide)
 · exact absurd h (by decide)
theorem tkr_48 {r : List UInt8} (hr : wlen r = 0) : tkr (48 :: r) = ([48], [48]) := by
 have hw : ∀ c ∈ [(48 : UInt8)], wordC c = true := by simp; decide
 obtain ⟨h1, h2⟩ := tkr_word hw (by simp) hr
 simp only [List.cons_append, List.nil_append] at h1 h2
 rw [h1]
 unfold tokK
 rw [h2]
 simp
theorem tkr_49 {r : List UInt8} (hr : wlen r = 0) : tkr (49 :: r) = ([49], [49]) := by
 have hw : ∀ c ∈ [(49 : UInt8)], wordC c = true := by simp; decide
 obtain ⟨h1, h2⟩ := tkr_word hw (by simp) hr
 simp only [List.cons_append, List.nil_append] at h1 h2
 rw [h1]
 unfold tokK
 rw [h2]
 simp
def Job.to (q : Nat) : Job → Job
 | .lev L _ => .lev L q
 | .loop L _ acc b => .loop L q acc b
theorem ps_skp {s : List UInt8} {j : Job} {r : PRes} (h : Ps s j r) {q : Nat} (hq : skp s q = skp s j.pos) : Ps s (j.to q) r := by
 have ht : ∀ {p}, skp s q = skp s p → tk s q = tk s p := fun e => by unfold tk; rw [e]
 have hn : ∀ {p}, skp s q = skp s p → nxt s q = nxt s p := fun e => by unfold nxt; rw [e, ht e]
 induction h with
 | @name p h => have := Ps.name (s := s) (p := q) (by rw [ht hq]; exact h); rwa [ht hq, hn hq] at this
 | @zero p h => have := Ps.zero (s := s) (p := q) (by rw [ht hq]; exact h); rwa [hn hq] at this
 | @one p h => have := Ps.one (s := s) (p := q) (by rw [ht hq]; exact h); rwa [hn hq] at this
 | @not p f u b h a _ => exact Ps.not (p := q) (by rw [ht hq]; exact h) (by rw [hn hq]; exact a)
 | @notE p e h a _ => exact Ps.notE (p := q) (by rw [ht hq]; exact h) (by rw [hn hq]; exact a)
 | @par p f u b h a h2 _ => exact Ps.par (p := q) (by rw [ht hq]; exact h) (by rw [hn hq]; exact a) h2
 | @parN p f u b h a h2 _ => exact Ps.parN (p := q) (by rw [ht hq]; exact h) (by rw [hn hq]; exact a) h2
 | @parE p e h a _ => exact Ps.parE (p := q) (by rw [ht hq]; exact h) (by rw [hn hq]; exact a)
 | @none p h1 h2 h3 h4 h5 => have := Ps.none (s := s) (p := q) (by rw [ht hq]; exact h1) (by rw [ht hq]; exact h2) (by rw [ht hq]; exact h3) (by rw [ht hq]; exact h4) (by rw [ht hq]; exact h5); rwa [hq] at this
 | one1 hL a h ih => exact .one1 hL (ih hq) h
 | manyE hL a ih => exact .manyE hL (ih hq)
 | many hL a h c iha ihc => exact .many hL (iha hq) h c
 | loopE hL a ih => exact .loopE hL (ih hq)
 | loop1 hL a h ih => exact .loop1 hL (ih hq) h
 | loop2 hL a h c iha ihc => exact .loop2 hL (iha hq) h c
 | imp1 a h ih => exact .imp1 (ih hq) h
 | impE a ih => exact .impE (ih hq)
 | imp2 a h c iha ihc => exact .imp2 (iha hq) h c
 | imp2E a h c iha ihc => exact .imp2E (iha hq) h c
 | iff1 a h ih => exact .iff1 (ih hq) h
 | iffE a ih => exact .iffE (ih hq)
 | iff2 a h c iha ihc => exact .iff2 (iha hq) h c
 | iff2E a h c iha ihc => exact .iff2E (iha hq) h c
def stopK (L : Nat) (K : List UInt8) : Prop := (0 < L → K ≠ [38]) ∧ (1 < L → K ≠ [124]) ∧ (2 < L → K ≠ arrK) ∧ (3 < L → K ≠ iffK)
theorem stopK.le {L L' : Nat} {K : List UInt8} (h : stopK L' K) (hl : L ≤ L') : stopK L K := ⟨fun a => h.1 (by omega), fun a => h.2.1 (by omega), fun a => h.2.2.1 (by omega), fun a => h.2.2.2 (by omega)⟩
theorem ps_climb {s : List UInt8} {p q : Nat} {f : F} {b : Bool} {L : Nat} (h : Ps s (.lev L p) (.ok f q b)) : ∀ d : Nat, L + d ≤ 4 → stopK (L + d) (tk s q).1 → Ps s (.lev (L + d) p) (.ok f q b) := by
 intro d
 induction d with
 | zero => intro _ _; exact h
 | succ d ih =>
  intro hl hs
  have h1 := ih (by omega) (hs.le (by omega))
  obtain ⟨s1, s2, s3, s4⟩ := hs
  have e : L + (d + 1) = (L + d) + 1 := by omega
  rw [e]
  generalize hk : L + d = k at *
  match k, hl, h1 with
  | 0, _, h1 => exact .one1 (by omega) h1 (s1 (by omega))
  | 1, _, h1 => exact .one1 (by omega) h1 (s2 (by omega))
  | 2, _, h1 => exact .imp1 h1 (s3 (by omega))
  | 3, _, h1 => exact .iff1 h1 (s4 (by omega))
  | k + 4, hl, _ => omega
theorem ps_climb' {s : List UInt8} {p q : Nat} {f : F} {b : Bool} {L L' : Nat} (h : Ps s (.lev L p) (.ok f q b)) (hl : L ≤ L') (h4 : L' ≤ 4) (hs : stopK L' (tk s q).1) : Ps s (.lev L' p) (.ok f q b) := by
 obtain ⟨d, rfl⟩ : ∃ d, L' = L + d := ⟨L' - L, by omega⟩
 exact ps_climb h d h4 hs
def lvl (f : F) : Nat := if f.op == 8 then 4 else if f.op == 7 then 3 else if f.op == 6 then 2 else if f.op == 5 then 1 else 0
theorem strength_lvl (f : F) : strength f = 5 - (lvl f : Int) := by
 unfold strength lvl
 by_cases h8 : f.op == 8
 · simp only [h8, if_true]; rfl
 by_cases h7 : f.op == 7
 · simp only [h8, h7, if_true]; rfl
 by_cases h6 : f.op == 6
 · simp only [h8, h7, h6, if_true]; rfl
 by_cases h5 : f.op == 5
 · simp only [h8, h7, h6, h5, if_true]; rfl
 simp only [h8, h7, h6, h5]; rfl
theorem lvl_le (f : F) : lvl f ≤ 4 := by
 unfold lvl
 split
 · omega
 split
 · omega
 split
 · omega
 split <;> omega
def argT (least : Int) (g : F) : List UInt8 := if strength g < least then [40] ++ F.text g ++ [41] else F.text g
theorem piece_eq (o : Int) (i : Nat) (g : F) : F.piece o i g = (if i = 0 then [] else wordO o) ++ argT (neededO o i) g := by
 unfold F.piece argT
 rcases Nat.eq_zero_or_pos i with rfl | h
 · simp
 · have h1 : ((i : Int) > 0) := by omega
   have h2 : i ≠ 0 := by omega
   simp [h1, h2]
def Back (f : F) : Prop := ∀ (s : List UInt8) (p : Nat) (r : List UInt8), s.drop p = F.text f ++ r → wlen r = 0 → stopK (lvl f) (tkr r).1 → Ps s (.lev (lvl f) p) (.ok f (p + (F.text f).length) false)
theorem drop_app {s : List UInt8} {p : Nat} {t r : List UInt8} (h : s.drop p = t ++ r) : s.drop (p + t.length) = r := by
 rw [← List.drop_drop, h]; simp
theorem nxt_at {s : List UInt8} {p : Nat} {c : UInt8} {l K t : List UInt8} (h : s.drop p = c :: l) (hc : (c.toNat : Int) ≠ 32) (ht : tkr (c :: l) = (K, t)) : (tk s p).1 = K ∧ (tk s p).2 = t ∧ nxt s p = p + t.length := by
 have : tk s p = (K, t) := by rw [tk_r, h, ht]
 refine ⟨by rw [this], by rw [this], ?_⟩
 unfold nxt
 rw [skp_no h hc, this]
theorem nxt_sp {s : List UInt8} {p : Nat} {c : UInt8} {l K t : List UInt8} (h : s.drop p = 32 :: c :: l) (hc : (c.toNat : Int) ≠ 32) (ht : tkr (c :: l) = (K, t)) : (tk s p).1 = K ∧ (tk s p).2 = t ∧ nxt s p = p + 1 + t.length := by
 have h1 : s.drop (p + 1) = c :: l := by rw [← List.drop_drop, h]; rfl
 have : tk s p = (K, t) := by rw [tk_r, h, tkr_sp, ht]
 refine ⟨by rw [this], by rw [this], ?_⟩
 unfold nxt
 rw [skp_sp h, skp_no h1 hc, this]
theorem ps_arg {g : F} (hb : Back g) {s : List UInt8} {p : Nat} {r : List UInt8} {L : Nat} (hL : L ≤ 4) (h : s.drop p = argT (5 - (L : Int)) g ++ r) (hr : wlen r = 0) (hs : stopK L (tkr r).1) :
 Ps s (.lev L p) (.ok g (p + (argT (5 - (L : Int)) g).length) false) := by
 have hst := strength_lvl g
 unfold argT at h ⊢
 split at h
 · rename_i hlt
   rw [if_pos hlt]
   simp only [List.cons_append, List.nil_append, List.append_assoc] at h
   obtain ⟨k1, k2, k3⟩ := nxt_at h (by decide) (tkr_40 _)
   have h1 : s.drop (p + 1) = F.text g ++ (41 :: r) := by rw [← List.drop_drop, h]; rfl
   have k4 := hb s (p + 1) (41 :: r) h1 (wl0 _ (by decide)) (by rw [tkr_41]; exact ⟨fun _ => by simp, fun _ => by simp, fun _ => by simp [arrK], fun _ => by simp [iffK]⟩)
   have h2 := drop_app h1
   obtain ⟨j1, j2, j3⟩ := nxt_at h2 (by decide) (tkr_41 _)
   have k5 := ps_climb' k4 (lvl_le g) (Nat.le_refl _) (by rw [j1]; exact ⟨fun _ => by simp, fun _ => by simp, fun _ => by simp [arrK], fun _ => by simp [iffK]⟩)
   have k6 : Ps s (.lev 0 p) _ := .par k1 (by rw [k3]; exact k5) j1
   rw [j3] at k6
   have e : p + 1 + (F.text g).length + [(41 : UInt8)].length = p + ([40] ++ F.text g ++ [41]).length := by simp; omega
   rw [e] at k6
   refine ps_climb' k6 (Nat.zero_le _) hL ?_
   have h3 : s.drop (p + ([40] ++ F.text g ++ [41]).length) = r := drop_app (by rw [h]; simp)
   rw [tk_r, h3]; exact hs
 · rename_i hge
   rw [if_neg hge]
   have hl : lvl g ≤ L := by omega
   have k := hb s p r h hr (hs.le hl)
   refine ps_climb' k hl hL ?_
   rw [tk_r, drop_app h]; exact hs
theorem ps_more (L : Nat) (hL : L < 2) : ∀ (gs : List F) (s : List UInt8) (p : Nat) (acc : List F) (g : F) (r : List UInt8) (i : Nat), (∀ x ∈ g :: gs, Back x) → s.drop p = argT (5 - (L : Int)) g ++ (F.texts (opL L) (i + 1) gs ++ r) → wlen r = 0 → stopK (L + 1) (tkr r).1 → acc.length + 1 + gs.length ≤ 6 →
 Ps s (.loop L p acc false) (.ok (F.mk (opL L) [] (acc ++ (g :: gs))) (p + (argT (5 - (L : Int)) g ++ F.texts (opL L) (i + 1) gs).length) false) := by
 intro gs
 induction gs with
 | nil =>
  intro s p acc g r i hb h hr hs hlen
  simp only [F.texts, List.nil_append, List.append_nil] at h ⊢
  have k := ps_arg (hb g (by simp)) (by omega) h hr (hs.le (by omega))
  have hd := drop_app h
  have hn : (tk s (p + (argT (5 - (L : Int)) g).length)).1 ≠ conL L := by
   rw [tk_r, hd]
   match L, hL with
   | 0, _ => exact hs.1 (by omega)
   | 1, _ => exact hs.2.1 (by omega)
  have := Ps.loop1 (acc := acc) (b := false) hL k hn
  have e : ((false || false) || decide (acc.length + 1 > 6)) = false := by simp at hlen ⊢; omega
  rw [e] at this
  exact this
 | cons g2 gs ih =>
  intro s p acc g r i hb h hr hs hlen
  have hn : neededO (opL L) ((i + 1 : Nat) : Int) = 5 - (L : Int) := by
   match L, hL with
   | 0, _ => rfl
   | 1, _ => rfl
  rw [F.texts_cons, piece_eq, if_neg (by omega), hn] at h ⊢
  have hd := drop_app h
  simp only [List.append_assoc] at hd h
  obtain ⟨c, hw⟩ : ∃ c : UInt8, wordO (opL L) = [32, c, 32] ∧ conL L = [c] ∧ (c.toNat : Int) ≠ 32 ∧ ∀ r, tkr (c :: r) = ([c], [c]) := by
   match L, hL with
   | 0, _ => exact ⟨38, rfl, rfl, by decide, tkr_38⟩
   | 1, _ => exact ⟨124, rfl, rfl, by decide, tkr_124⟩
  obtain ⟨w1, w2, w3, w4⟩ := hw
  rw [w1] at hd h ⊢
  simp only [List.cons_append, List.nil_append] at hd h
  obtain ⟨k1, k2, k3⟩ := nxt_sp hd w3 (w4 _)
  have hsp : tkr (32 :: c :: 32 :: (argT (5 - (L : Int)) g2 ++ (F.texts (opL L) (i + 1 + 1) gs ++ r))) = ([c], [c]) := by rw [tkr_sp, w4]
  have k := ps_arg (hb g (by simp)) (by omega) h (wl0 _ (by decide)) (by
   rw [hsp]
   match L, hL, w2 with
   | 0, _, _ => exact ⟨fun a => by omega, fun a => by omega, fun a => by omega, fun a => by omega⟩
   | 1, _, w2 =>
    obtain rfl : (124 : UInt8) = c := by simpa [conL] using w2
    exact ⟨fun _ => by simp, fun a => by omega, fun a => by omega, fun a => by omega⟩)
  have h2 : s.drop (p + (argT (5 - (L : Int)) g).length + 1 + 1) = 32 :: (argT (5 - (L : Int)) g2 ++ (F.texts (opL L) (i + 1 + 1) gs ++ r)) := by
   rw [Nat.add_assoc, ← List.drop_drop, hd]; rfl
  have h3 : s.drop (p + (argT (5 - (L : Int)) g).length + 1 + 1 + 1) = argT (5 - (L : Int)) g2 ++ (F.texts (opL L) (i + 1 + 1) gs ++ r) := by
   rw [← List.drop_drop, h2]; rfl
  have kk := ih s _ (acc ++ [g]) g2 r (i + 1) (fun x hx => hb x (by simp at hx ⊢; exact .inr hx)) h3 hr hs (by simp at hlen ⊢; omega)
  have hq : skp s (p + (argT (5 - (L : Int)) g).length + 1 + 1) = skp s (p + (argT (5 - (L : Int)) g).length + 1 + 1 + 1) := skp_sp h2
  have k7 := ps_skp kk (q := p + (argT (5 - (L : Int)) g).length + 1 + 1) hq
  have k8 := Ps.loop2 (acc := acc) (b := false) hL k (by rw [k1, w2]) (by rw [k3]; exact k7)
  have e1 : acc ++ [g] ++ g2 :: gs = acc ++ g :: g2 :: gs := by simp
  have e2 : p + (argT (5 - (L : Int)) g).length + 1 + 1 + 1 + (argT (5 - (L : Int)) g2 ++ F.texts (opL L) (i + 1 + 1) gs).length = p + (argT (5 - (L : Int)) g ++ ([32, c, 32] ++ argT (5 - (L : Int)) g2 ++ F.texts (opL L) (i + 1 + 1) gs)).length := by simp; omega
  rw [e1, e2] at k8
  exact k8
theorem texts_0 (o : Int) (g : F) (gs : List F) : F.texts o 0 (g :: gs) = argT (neededO o 0) g ++ F.texts o 1 gs := by
 rw [F.texts_cons, piece_eq, if_pos rfl]; rfl
theorem ps_many (L : Nat) (hL : L < 2) (g g2 : F) (gs : List F) (hb : ∀ x ∈ g :: g2 :: gs, Back x) (hlen : 2 + gs.length ≤ 6) {s : List UInt8} {p : Nat} {r : List UInt8} (h : s.drop p = F.texts (opL L) 0 (g :: g2 :: gs) ++ r) (hr : wlen r = 0) (hs : stopK (L + 1) (tkr r).1) :
 Ps s (.lev (L + 1) p) (.ok (F.mk (opL L) [] (g :: g2 :: gs)) (p + (F.texts (opL L) 0 (g :: g2 :: gs)).length) false) := by
 have hn : ∀ i : Nat, neededO (opL L) (i : Int) = 5 - (L : Int) := by
  intro i
  match L, hL with
  | 0, _ => rfl
  | 1, _ => rfl
 obtain ⟨c, w1, w2, w3, w4⟩ : ∃ c : UInt8, wordO (opL L) = [32, c, 32] ∧ conL L = [c] ∧ (c.toNat : Int) ≠ 32 ∧ ∀ r, tkr (c :: r) = ([c], [c]) := by
  match L, hL with
  | 0, _ => exact ⟨38, rfl, rfl, by decide, tkr_38⟩
  | 1, _ => exact ⟨124, rfl, rfl, by decide, tkr_124⟩
 have hn0 := hn 0
 have hn1 := hn 1
 rw [texts_0, F.texts_cons, piece_eq, if_neg (by omega), w1] at h ⊢
 simp only [Int.natCast_zero, Int.natCast_one] at hn0 hn1
 simp only [Int.natCast_one] at h ⊢
 rw [hn0, hn1] at h ⊢
 have hd := drop_app (t := argT (5 - (L : Int)) g) (by rw [h, List.append_assoc])
 simp only [List.cons_append, List.nil_append, List.append_assoc] at hd h
 obtain ⟨k1, k2, k3⟩ := nxt_sp hd w3 (w4 _)
 have hsp : tkr (32 :: c :: 32 :: (argT (5 - (L : Int)) g2 ++ (F.texts (opL L) (1 + 1) gs ++ r))) = ([c], [c]) := by rw [tkr_sp, w4]
 have k := ps_arg (hb g (by simp)) (by omega) h (wl0 _ (by decide)) (by
  rw [hsp]
  match L, hL, w2 with
  | 0, _, _ => exact ⟨fun a => by omega, fun a => by omega, fun a => by omega, fun a => by omega⟩
  | 1, _, w2 =>
   obtain rfl : (124 : UInt8) = c := by simpa [conL] using w2
   exact ⟨fun _ => by simp, fun a => by omega, fun a => by omega, fun a => by omega⟩)
 have h2 : s.drop (p + (argT (5 - (L : Int)) g).length + 1 + 1) = 32 :: (argT (5 - (L : Int)) g2 ++ (F.texts (opL L) (1 + 1) gs ++ r)) := by
  rw [Nat.add_assoc, ← List.drop_drop, hd]; rfl
 have h3 : s.drop (p + (argT (5 - (L : Int)) g).length + 1 + 1 + 1) = argT (5 - (L : Int)) g2 ++ (F.texts (opL L) (1 + 1) gs ++ r) := by
  rw [← List.drop_drop, h2]; rfl
 have kk := ps_more L hL gs s _ [g] g2 r 1 (fun x hx => hb x (by simp at hx ⊢; exact .inr hx)) h3 hr hs (by simp; omega)
 have k7 := ps_skp kk (q := p + (argT (5 - (L : Int)) g).length + 1 + 1) (skp_sp h2)
 have k8 := Ps.many hL k (by rw [k1, w2]) (by rw [k3]; exact k7)
 have e2 : p + (argT (5 - (L : Int)) g).length + 1 + 1 + 1 + (argT (5 - (L : Int)) g2 ++ F.texts (opL L) (1 + 1) gs).length = p + (argT (5 - (L : Int)) g ++ ([32, c, 32] ++ argT (5 - (L : Int)) g2 ++ F.texts (opL L) (1 + 1) gs)).length := by simp; omega
 rw [e2] at k8
 exact k8
end Am

namespace Am
open Go
set_option maxRecDepth 100000
theorem good_mk' {o : Int} {n : List UInt8} {a : List F} (h : good (F.mk o n a) = true) : counted (F.mk o n a) = true ∧ named (F.mk o n a) = true ∧ ∀ g ∈ a, good g = true := (good_iff _).1 h
theorem wl_sp (r : List UInt8) : wlen (32 :: r) = 0 := wl0 r (by decide)
theorem stop0 (K : List UInt8) : stopK 0 K := ⟨fun h => by omega, fun h => by omega, fun h => by omega, fun h => by omega⟩
theorem ps_back : ∀ n : Nat, ∀ f : F, f.size ≤ n → good f = true → Back f := by
 intro n
 induction n with
 | zero => intro f h; have := F.size_pos f; omega
 | succ n ih =>
  intro f hs hg
  obtain ⟨o, nm, a⟩ := f
  obtain ⟨hc, hn, ha⟩ := good_mk' hg
  have hb : ∀ g ∈ a, Back g := fun g hm => by
   obtain ⟨i, hi, rfl⟩ := List.getElem_of_mem hm
   have := F.size_arg (F.mk o nm a) i hi
   exact ih _ (by simp only [F.args] at this; omega) (ha _ hm)
  have hop : o = 1 ∨ o = 2 ∨ o = 3 ∨ o = 4 ∨ o = 5 ∨ o = 6 ∨ o = 7 ∨ o = 8 := by
   simp only [counted, F.op] at hc
   by_cases h1 : o = 1; · exact .inl h1
   by_cases h2 : o = 2; · exact .inr (.inl h2)
   by_cases h3 : o = 3; · exact .inr (.inr (.inl h3))
   by_cases h4 : o = 4; · simp [h4]
   by_cases h5 : o = 5; · simp [h5]
   by_cases h6 : o = 6; · simp [h6]
   by_cases h7 : o = 7; · simp [h7]
   by_cases h8 : o = 8; · simp [h8]
   simp [h1, h2, h3, h4, h5, h6, h7, h8] at hc
  intro s p r h hr hst
  rcases hop with rfl | rfl | rfl | rfl | rfl | rfl | rfl | rfl
  · have h0 : a = [] := by simpa [counted, F.op, F.args] using hc
    have h1 : nm = [] := by simpa [named, F.op, F.name] using hn
    subst h0 h1
    have ht : F.text (F.mk 1 [] []) = [49] := rfl
    rw [ht] at h ⊢
    obtain ⟨k1, k2, k3⟩ := nxt_at h (by decide) (tkr_49 hr)
    have := Ps.one k1
    rw [k3] at this
    exact this
  · have h0 : a = [] := by simpa [counted, F.op, F.args] using hc
    have h1 : nm = [] := by simpa [named, F.op, F.name] using hn
    subst h0 h1
    have ht : F.text (F.mk 2 [] []) = [48] := rfl
    rw [ht] at h ⊢
    obtain ⟨k1, k2, k3⟩ := nxt_at h (by decide) (tkr_48 hr)
    have := Ps.zero k1
    rw [k3] at this
    exact this
  · have h0 : a = [] := by simpa [counted, F.op, F.args] using hc
    have h1 : validName nm = true := by simpa [named, F.op, F.name] using hn
    subst h0
    have ht : F.text (F.mk 3 nm []) = nm := by simp [F.text, F.texts, headO]
    rw [ht] at h ⊢
    have hw := tkr_name h1 hr
    obtain ⟨c, l, rfl⟩ := List.exists_cons_of_ne_nil (validName_ne h1)
    have hcs : (c.toNat : Int) ≠ 32 := by
     simp only [validName, Bool.and_eq_true] at h1
     have h2 := nameFrom_word 0 _ h1.2 c (by simp)
     intro e
     unfold wordC at h2
     rw [e] at h2
     exact absurd h2 (by decide)
    obtain ⟨k1, k2, k3⟩ := nxt_at h hcs hw
    have := Ps.name k1
    rw [k3, k2] at this
    exact this
  · have h1 : nm = [] := by simpa [named, F.op, F.name] using hn
    subst h1
    obtain ⟨g, rfl⟩ : ∃ g, a = [g] := by
     have : a.length = 1 := by simp [counted, F.op, F.args] at hc; omega
     exact List.length_eq_one_iff.1 this
    have ht : F.text (F.mk 4 [] [g]) = 126 :: argT 5 g := by
     rw [F.text_eq]
     show headO 4 [] ++ F.texts 4 0 [g] = _
     rw [texts_0]
     simp [headO, F.texts, neededO]
    rw [ht] at h ⊢
    rw [List.cons_append] at h
    obtain ⟨k1, k2, k3⟩ := nxt_at h (by decide) (tkr_126 _)
    have h2 : s.drop (p + 1) = argT (5 - ((0 : Nat) : Int)) g ++ r := by rw [← List.drop_drop, h]; rfl
    have k := ps_arg (L := 0) (hb g (by simp)) (by omega) h2 hr (stop0 _)
    have k4 := Ps.not k1 (by rw [k3]; exact k)
    have e : p + 1 + (argT (5 - ((0 : Nat) : Int)) g).length = p + (126 :: argT 5 g).length := by simp; omega
    rw [e] at k4
    exact k4
  · have h1 : nm = [] := by simpa [named, F.op, F.name] using hn
    subst h1
    have hl : 2 ≤ a.length ∧ a.length ≤ 6 := by
     have hc' : (decide ((a.length : Int) ≥ 2) && decide ((a.length : Int) ≤ 6)) = true := hc
     simp only [Bool.and_eq_true, decide_eq_true_eq] at hc'
     omega
    obtain ⟨g, g2, gs, rfl⟩ : ∃ g g2 gs, a = g :: g2 :: gs := by
     match a, hl with
     | g :: g2 :: gs, _ => exact ⟨g, g2, gs, rfl⟩
    have ht : F.text (F.mk 5 [] (g :: g2 :: gs)) = F.texts (opL 0) 0 (g :: g2 :: gs) := by rw [F.text_eq]; rfl
    rw [ht] at h ⊢
    exact ps_many 0 (by omega) g g2 gs hb (by simp at hl; omega) h hr hst
  · have h1 : nm = [] := by simpa [named, F.op, F.name] using hn
    subst h1
    have hl : 2 ≤ a.length ∧ a.length ≤ 6 := by
     have hc' : (decide ((a.length : Int) ≥ 2) && decide ((a.length : Int) ≤ 6)) = true := hc
     simp only [Bool.and_eq_true, decide_eq_true_eq] at hc'
     omega
    obtain ⟨g, g2, gs, rfl⟩ : ∃ g g2 gs, a = g :: g2 :: gs := by
     match a, hl with
     | g :: g2 :: gs, _ => exact ⟨g, g2, gs, rfl⟩
    have ht : F.text (F.mk 6 [] (g :: g2 :: gs)) = F.texts (opL 1) 0 (g :: g2 :: gs) := by rw [F.text_eq]; rfl
    rw [ht] at h ⊢
    exact ps_many 1 (by omega) g g2 gs hb (by simp at hl; omega) h hr hst
  · have h1 : nm = [] := by simpa [named, F.op, F.name] using hn
    subst h1
    have hl : a.length = 2 := by simp [counted, F.op, F.args] at hc; omega
    obtain ⟨g, g2, rfl⟩ : ∃ g g2, a = [g, g2] := by
     match a, hl with
     | [g, g2], _ => exact ⟨g, g2, rfl⟩
    have ht : F.text (F.mk 7 [] [g, g2]) = argT 3 g ++ (32 :: 45 :: 62 :: 32 :: argT 2 g2) := by
     rw [F.text_eq]
     show headO 7 [] ++ F.texts 7 0 [g, g2] = _
     rw [texts_0, F.texts_cons, piece_eq]
     simp [headO, F.texts, neededO, wordO]
    rw [ht] at h ⊢
    rw [List.append_assoc] at h
    have hd := drop_app h
    simp only [List.cons_append] at hd h
    obtain ⟨k1, k2, k3⟩ := nxt_sp hd (by decide) (tkr_arr _)
    have k := ps_arg (L := 2) (hb g (by simp)) (by omega) h (wl_sp _) (by
     rw [tkr_sp, tkr_arr]; exact ⟨fun _ => by simp [arrK], fun _ => by simp [arrK], fun a => by omega, fun a => by omega⟩)
    have h2 : s.drop (p + (argT 3 g).length + 1 + 2) = 32 :: (argT 2 g2 ++ r) := by
     rw [Nat.add_assoc, ← List.drop_drop, hd]; rfl
    have h3 : s.drop (p + (argT 3 g).length + 1 + 2 + 1) = argT (5 - ((3 : Nat) : Int)) g2 ++ r := by
     rw [← List.drop_drop, h2]; rfl
    have kk := ps_arg (L := 3) (hb g2 (by simp)) (by omega) h3 hr (hst.le (by simp [lvl, F.op]))
    have k7 := ps_skp kk (q := p + (argT 3 g).length + 1 + 2) (skp_sp h2)
    have k8 := Ps.imp2 (f := g) (q := p + (argT 3 g).length) k k1 (by rw [k3]; exact k7)
    have e2 : p + (argT 3 g).length + 1 + 2 + 1 + (argT (5 - ((3 : Nat) : Int)) g2).length = p + (argT 3 g ++ (32 :: 45 :: 62 :: 32 :: argT 2 g2)).length := by simp; omega
    rw [e2] at k8
    exact k8
  · have h1 : nm = [] := by simpa [named, F.op, F.name] using hn
    subst h1
    have hl : a.length = 2 := by simp [counted, F.op, F.args] at hc; omega
    obtain ⟨g, g2, rfl⟩ : ∃ g g2, a = [g, g2] := by
     match a, hl with
     | [g, g2], _ => exact ⟨g, g2, rfl⟩
    have ht : F.text (F.mk 8 [] [g, g2]) = argT 2 g ++ (32 :: 60 :: 45 :: 62 :: 32 :: argT 2 g2) := by
     rw [F.text_eq]
     show headO 8 [] ++ F.texts 8 0 [g, g2] = _
     rw [texts_0, F.texts_cons, piece_eq]
     simp [headO, F.texts, neededO, wordO]
    rw [ht] at h ⊢
    rw [List.append_assoc] at h
    have hd := drop_app h
    simp only [List.cons_append] at hd h
    obtain ⟨k1, k2, k3⟩ := nxt_sp hd (by decide) (tkr_iff _)
    have k := ps_arg (L := 3) (hb g (by simp)) (by omega) h (wl_sp _) (by
     rw [tkr_sp, tkr_iff]; exact ⟨fun _ => by simp [iffK], fun _ => by simp [iffK], fun a => by simp [iffK, arrK], fun a => by omega⟩)
    have h2 : s.drop (p + (argT 2 g).length + 1 + 3) = 32 :: (argT 2 g2 ++ r) := by
     rw [Nat.add_assoc, ← List.drop_drop, hd]; rfl
    have h3 : s.drop (p + (argT 2 g).length + 1 + 3 + 1) = argT (5 - ((3 : Nat) : Int)) g2 ++ r := by
     rw [← List.drop_drop, h2]; rfl
    have kk := ps_arg (L := 3) (hb g2 (by simp)) (by omega) h3 hr (hst.le (by simp [lvl, F.op]))
    have k7 := ps_skp kk (q := p + (argT 2 g).length + 1 + 3) (skp_sp h2)
    have k8 := Ps.iff2 (f := g) (q := p + (argT 2 g).length) k k1 (by rw [k3]; exact k7)
    have e2 : p + (argT 2 g).length + 1 + 3 + 1 + (argT (5 - ((3 : Nat) : Int)) g2).length = p + (argT 2 g ++ (32 :: 60 :: 45 :: 62 :: 32 :: argT 2 g2)).length := by simp; omega
    rw [e2] at k8
    exact k8
theorem stop_end (L : Nat) : stopK L (tkr []).1 := by
 have : tkr [] = ([], []) := rfl
 rw [this]; exact ⟨fun _ => by simp, fun _ => by simp, fun _ => by simp [arrK], fun _ => by simp [iffK]⟩
theorem tk_end (s : List UInt8) : tk s s.length = ([], []) := by
 rw [tk_r, List.drop_length]; rfl
theorem ps_plain {f : F} (hg : good f = true) : Ps (F.text f) (.lev 4 0) (.ok f (F.text f).length false) := by
 have k := ps_back f.size f (Nat.le_refl _) hg (F.text f) 0 [] (by simp) rfl (stop_end _)
 rw [Nat.zero_add] at k
 refine ps_climb' k (lvl_le f) (Nat.le_refl _) ?_
 rw [tk_end]; exact stop_end 4
theorem ps_spaced {f : F} (hg : good f = true) : Ps (32 :: 32 :: F.text f) (.lev 4 0) (.ok f (32 :: 32 :: F.text f).length false) := by
 have k := ps_back f.size f (Nat.le_refl _) hg (32 :: 32 :: F.text f) 2 [] (by simp) rfl (stop_end _)
 have e : 2 + (F.text f).length = (32 :: 32 :: F.text f).length := by simp; omega
 rw [e] at k
 have k2 := ps_climb' k (lvl_le f) (Nat.le_refl _) (by rw [tk_end]; exact stop_end 4)
 have h0 : (32 :: 32 :: F.text f).drop 0 = 32 :: (32 :: F.text f) := rfl
 have h1 : (32 :: 32 :: F.text f).drop (0 + 1) = 32 :: F.text f := rfl
 exact ps_skp k2 (q := 0) ((skp_sp h0).trans (skp_sp h1))
theorem ps_wrapped {f : F} (hg : good f = true) : ∃ s : List UInt8, s = [40, 40] ++ F.text f ++ [32, 41, 32, 41] ∧ Ps s (.lev 4 0) (.ok f s.length false) := by
 obtain ⟨s, hs⟩ : ∃ s : List UInt8, s = [40, 40] ++ F.text f ++ [32, 41, 32, 41] := ⟨_, rfl⟩
 refine ⟨s, hs, ?_⟩
 have h0 : s.drop 0 = 40 :: (40 :: (F.text f ++ [32, 41, 32, 41])) := by rw [hs]; simp
 have h1 : s.drop 1 = 40 :: (F.text f ++ [32, 41, 32, 41]) := by rw [hs]; simp
 have h2 : s.drop 2 = F.text f ++ [32, 41, 32, 41] := by rw [hs]; simp
 have h3 := drop_app h2
 have h4 : s.drop (2 + (F.text f).length + 2) = [32, 41] := by rw [← List.drop_drop, h3]; rfl
 obtain ⟨a1, a2, a3⟩ := nxt_at h0 (by decide) (tkr_40 _)
 obtain ⟨b1, b2, b3⟩ := nxt_at h1 (by decide) (tkr_40 _)
 obtain ⟨c1, c2, c3⟩ := nxt_sp h3 (by decide) (tkr_41 _)
 obtain ⟨d1, d2, d3⟩ := nxt_sp h4 (by decide) (tkr_41 _)
 have s4 : stopK 4 [41] := ⟨fun _ => by simp, fun _ => by simp, fun _ => by simp [arrK], fun _ => by simp [iffK]⟩
 have hsp : tkr [32, 41, 32, 41] = ([41], [41]) := by rw [tkr_sp, tkr_41]
 have k := ps_back f.size f (Nat.le_refl _) hg s 2 _ h2 (wl_sp _) (by rw [hsp]; exact s4.le (lvl_le f))
 have k2 := ps_climb' k (lvl_le f) (Nat.le_refl _) (by rw [c1]; exact s4)
 have k3 : Ps s (.lev 0 1) _ := .par b1 (by rw [b3]; exact k2) c1
 rw [c3] at k3
 have k4 := ps_climb' (L' := 4) k3 (by omega) (Nat.le_refl _) (by
  show stopK 4 (tk s (2 + (F.text f).length + 2)).1
  rw [d1]; exact s4)
 have k5 : Ps s (.lev 0 0) _ := .par a1 (by rw [a3]; exact k4) d1
 have e : nxt s (2 + (F.text f).length + 1 + [(41 : UInt8)].length) = s.length := by
  show nxt s (2 + (F.text f).length + 2) = _
  rw [d3, hs]; simp; omega
 have k5 : Ps s (.lev 0 0) (.ok f (nxt s (2 + (F.text f).length + 1 + [(41 : UInt8)].length)) false) := k5
 rw [e] at k5
 exact ps_climb' k5 (by omega) (Nat.le_refl _) (by rw [tk_end]; exact stop_end 4)
end Am
