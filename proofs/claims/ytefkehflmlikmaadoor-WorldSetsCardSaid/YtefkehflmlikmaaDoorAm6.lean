/- Plain programs of the functions of the program and lemmas about what they compute. -/
import Derived.Test.YtefkehflmlikmaaDoorAm5
import Derived.Lib.TrailingZeros
set_option linter.unusedSimpArgs false
set_option linter.unusedVariables false
set_option linter.unusedSectionVars false
namespace Am
open Go
set_option linter.unusedSimpArgs false
set_option linter.unusedVariables false
set_option linter.unusedSectionVars false
theorem val_own1 (ys ws : List (List UInt8)) : ∀ f : F, good f = true → (∀ s ∈ F.atomL f, ys.contains s = ws.contains s) → F.val ys f = F.val ws f := by
 refine bySizeF fun f ih hf h => ?_
 have hargs := ((good_iff f).1 hf).2.2
 rw [F.val_eq ys f, F.val_eq ws f]
 rw [F.atomL_eq] at h
 by_cases ho : f.op = 3
 · have ha := atom_noargs hf ho
   rw [if_pos ⟨ho, by simp [ha]⟩] at h
   simp only [ho, valO, Int.reduceEq, if_false, if_true]
   exact h _ (by simp)
 · rw [if_neg (fun x => ho x.1)] at h
   have hm : f.args.map (F.val ys) = f.args.map (F.val ws) := by
    apply List.map_congr_left
    intro x hx
    refine ih x hx (hargs x hx) fun s hs => h s ?_
    have : ∀ l : List F, x ∈ l → s ∈ F.atomLs l := by
     intro l
     induction l with
     | nil => intro h; simp at h
     | cons y l ih =>
      intro h
      simp only [F.atomLs, List.mem_append]
      rcases List.mem_cons.1 h with rfl | h
      · exact .inl hs
      · exact .inr (ih h)
    exact this _ hx
   rw [hm]
   unfold valO
   simp only [ho, if_false]
namespace F
mutual
theorem beq_true : ∀ f g : F, beq f g = true → f = g
 | mk o s a, mk o' s' a', h => by
  simp only [beq, Bool.and_eq_true, decide_eq_true_eq] at h
  obtain ⟨rfl, rfl, h3, h4⟩ := h
  rw [beqs_true a a' h3 h4]
theorem beqs_true : ∀ l l' : List F, l.length = l'.length → beqs l l' = true → l = l'
 | [], [], _, _ => rfl
 | [], _ :: _, h, _ => by simp at h
 | x :: l, [], h, _ => by simp at h
 | x :: l, y :: l', h, h2 => by
  simp only [beqs, Bool.and_eq_true] at h2
  rw [beq_true x y h2.1, beqs_true l l' (by simpa using h) h2.2]
end
end F
def pr (o : Int) (f g : F) : F := F.mk o [] [f, g]
def atF (a : List UInt8) : F := F.mk 3 a []
def noF1 (a : List UInt8) : F := F.mk 4 [] [atF a]
def joinF (a : List UInt8) (t f : F) : F :=
 if F.beq t f = true then t else if t.op = 1 ∧ f.op = 2 then atF a else if t.op = 1 then pr 6 (atF a) f else if t.op = 2 ∧ f.op = 1 then noF1 a else if t.op = 2 then pr 5 (noF1 a) f else
 if f.op = 1 then pr 6 (noF1 a) t else if f.op = 2 then pr 5 (atF a) t else pr 6 (pr 5 (atF a) t) (pr 5 (noF1 a) f)
def hf (S : BitVec 64) (b i : Nat) : BitVec 64 := bitsTo (fun u => decide (2 * u + b < i) && S.getLsbD (2 * u + b)) 64
def thy : List (List UInt8) → BitVec 64 → F
 | [], S => if S &&& bitsTo (fun _ => true) (2 ^ 0) = 0#64 then F.mk 2 [] [] else F.mk 1 [] []
 | a :: l, S => if S &&& bitsTo (fun _ => true) (2 ^ (l.length + 1)) = 0#64 then F.mk 2 [] [] else if S &&& bitsTo (fun _ => true) (2 ^ (l.length + 1)) = bitsTo (fun _ => true) (2 ^ (l.length + 1)) then F.mk 1 [] [] else
  joinF a (thy l (hf S 1 (2 ^ (l.length + 1)))) (thy l (hf S 0 (2 ^ (l.length + 1))))
theorem hf_get {S : BitVec 64} {b N u : Nat} (h : 2 * u + b < N) (hu : u < 64) : (hf S b N).getLsbD u = S.getLsbD (2 * u + b) := by
 unfold hf
 rw [bitsTo_get _ _ _ (Nat.le_refl _)]
 simp [h, hu]
theorem val_pr5 (ys : List (List UInt8)) (f g : F) : F.val ys (pr 5 f g) = (F.val ys f && F.val ys g) := by
 rw [F.val_eq]; simp [pr, valO, F.op_mk, F.args_mk]
theorem val_pr6 (ys : List (List UInt8)) (f g : F) : F.val ys (pr 6 f g) = (F.val ys f || F.val ys g) := by
 rw [F.val_eq]; simp [pr, valO, F.op_mk, F.args_mk]
theorem val_at (ys : List (List UInt8)) (a : List UInt8) : F.val ys (atF a) = ys.contains a := by
 rw [F.val_eq]; simp [atF, valO, F.op_mk, F.name_mk]
theorem val_no (ys : List (List UInt8)) (a : List UInt8) : F.val ys (noF1 a) = !ys.contains a := by
 rw [F.val_eq]; simp [noF1, valO, F.op_mk, F.args_mk, val_at]
theorem val_op1 (ys : List (List UInt8)) {f : F} (h : f.op = 1) : F.val ys f = true := by rw [F.val_eq, valO]; simp [h]
theorem val_op2 (ys : List (List UInt8)) {f : F} (h : f.op = 2) : F.val ys f = false := by rw [F.val_eq, valO]; simp [h]
theorem val_join (ys : List (List UInt8)) (a : List UInt8) (t f : F) : F.val ys (joinF a t f) = if ys.contains a = true then F.val ys t else F.val ys f := by
 unfold joinF
 by_cases h1 : F.beq t f = true
 · rw [if_pos h1, F.beq_true t f h1]; simp
 rw [if_neg h1]
 by_cases h2 : t.op = 1 ∧ f.op = 2
 · rw [if_pos h2, val_at, val_op1 ys h2.1, val_op2 ys h2.2]; cases ys.contains a <;> rfl
 rw [if_neg h2]
 by_cases h3 : t.op = 1
 · rw [if_pos h3, val_pr6, val_at, val_op1 ys h3]; cases ys.contains a <;> simp
 rw [if_neg h3]
 by_cases h4 : t.op = 2 ∧ f.op = 1
 · rw [if_pos h4, val_no, val_op2 ys h4.1, val_op1 ys h4.2]; cases ys.contains a <;> rfl
 rw [if_neg h4]
 by_cases h5 : t.op = 2
 · rw [if_pos h5, val_pr5, val_no, val_op2 ys h5]; cases ys.contains a <;> simp
 rw [if_neg h5]
 by_cases h6 : f.op = 1
 · rw [if_pos h6, val_pr6, val_no, val_op1 ys h6]; cases ys.contains a <;> simp
 rw [if_neg h6]
 by_cases h7 : f.op = 2
 · rw [if_pos h7, val_pr5, val_at, val_op2 ys h7]; cases ys.contains a <;> simp
 rw [if_neg h7, val_pr6, val_pr5, val_pr5, val_at, val_no]; cases ys.contains a <;> simp
def Thy (voc : List (List UInt8)) (f : F) : Prop := good f = true ∧ f.size + 6 ≤ 7 * 2 ^ voc.length ∧ f.depth ≤ 2 * voc.length + 1 ∧ ∀ s ∈ F.atomL f, s ∈ voc
theorem thy_const (voc : List (List UInt8)) {o : Int} (h : o = 1 ∨ o = 2) : Thy voc (F.mk o [] []) := by
 have hp : 0 < 2 ^ voc.length := Nat.pow_pos (by omega)
 refine ⟨by rcases h with rfl | rfl <;> rfl, by simp only [F.size, F.sizes]; omega, by simp [F.depth, F.depths], ?_⟩
 rcases h with rfl | rfl <;> simp [F.atomL, F.atomLs]
theorem good_nd {o : Int} {s : List UInt8} {l : List F} (h1 : counted (F.mk o s l) = true) (h2 : named (F.mk o s l) = true) (h3 : ∀ g ∈ l, good g = true) : good (F.mk o s l) = true := by
 unfold good
 rw [F.allF_eq, F.allF_eq named, h1, h2, F.args_mk, Bool.true_and, Bool.true_and, Bool.and_eq_true, allFs_all, allFs_all, List.all_eq_true, List.all_eq_true]
 refine ⟨fun g hg => ?_, fun g hg => ?_⟩
 · have := h3 g hg; simp only [good, Bool.and_eq_true] at this; exact this.1
 · have := h3 g hg; simp only [good, Bool.and_eq_true] at this; exact this.2
theorem good_at {a : List UInt8} (h : validName a = true) : good (atF a) = true := good_nd rfl (by simp [named, F.op_mk, F.name_mk, h]) (by simp)
theorem good_no {a : List UInt8} (h : validName a = true) : good (noF1 a) = true := good_nd rfl rfl (by simp [good_at h])
theorem good_pr {o : Int} {f g : F} (ho : o = 5 ∨ o = 6) (hf : good f = true) (hg : good g = true) : good (pr o f g) = true := by
 rcases ho with rfl | rfl
 · exact good_nd rfl rfl (by simp [hf, hg])
 · exact good_nd rfl rfl (by simp [hf, hg])
theorem atomL_pr {o : Int} (ho : o ≠ 3) (f g : F) : F.atomL (pr o f g) = F.atomL f ++ F.atomL g := by
 simp [pr, F.atomL, F.atomLs]
theorem atomL_at (a : List UInt8) : F.atomL (atF a) = [a] := by simp [atF, F.atomL]
theorem atomL_no (a : List UInt8) : F.atomL (noF1 a) = [a] := by simp [noF1, F.atomL, F.atomLs, atomL_at]
theorem thy_join {a : List UInt8} {l : List (List UInt8)} (ha : validName a = true) {t f : F} (ht : Thy l t) (hf : Thy l f) : Thy (a :: l) (joinF a t f) := by
 obtain ⟨t1, t2, t3, t4⟩ := ht
 obtain ⟨f1, f2, f3, f4⟩ := hf
 have hp : 2 ^ (a :: l).length = 2 * 2 ^ l.length := by rw [List.length_cons, Nat.pow_succ]; omega
 have hp0 : 0 < 2 ^ l.length := Nat.pow_pos (by omega)
 have s5 : ∀ (o : Int) (f g : F), (pr o f g).size = 1 + (f.size + g.size) := fun o f g => by simp [pr, F.size, F.sizes]
 have d5 : ∀ (o : Int) (f g : F), (pr o f g).depth = max (1 + f.depth) (1 + g.depth) := fun o f g => by simp [pr, F.depth, F.depths]
 have s1 : (atF a).size = 1 := by simp [atF, F.size, F.sizes]
 have s2 : (noF1 a).size = 2 := by simp [noF1, F.size, F.sizes, s1]
 have e1 : (atF a).depth = 0 := by simp [atF, F.depth, F.depths]
 have e2 : (noF1 a).depth = 1 := by simp [noF1, F.depth, F.depths, e1]
 have hl : (a :: l).length = l.length + 1 := rfl
 have hc : ∀ s ∈ F.atomL t, s ∈ a :: l := fun s hs => List.mem_cons_of_mem _ (t4 s hs)
 have hd : ∀ s ∈ F.atomL f, s ∈ a :: l := fun s hs => List.mem_cons_of_mem _ (f4 s hs)
 have ga := good_at ha
 have gn := good_no ha
 have h6 : ∀ f g : F, F.atomL (pr 6 f g) = F.atomL f ++ F.atomL g := atomL_pr (by decide)
 have h5 : ∀ f g : F, F.atomL (pr 5 f g) = F.atomL f ++ F.atomL g := atomL_pr (by decide)
 unfold joinF Thy
 rw [hp, hl]
 (repeat' split)
 · exact ⟨t1, by omega, by omega, hc⟩
 · exact ⟨ga, by omega, by omega, by rw [atomL_at]; simp⟩
 · exact ⟨good_pr (.inr rfl) ga f1, by rw [s5]; omega, by rw [d5]; omega, by rw [h6, atomL_at]; simpa using hd⟩
 · exact ⟨gn, by omega, by omega, by rw [atomL_no]; simp⟩
 · exact ⟨good_pr (.inl rfl) gn f1, by rw [s5]; omega, by rw [d5]; omega, by rw [h5, atomL_no]; simpa using hd⟩
 · exact ⟨good_pr (.inr rfl) gn t1, by rw [s5]; omega, by rw [d5]; omega, by rw [h6, atomL_no]; simpa using hc⟩
 · exact ⟨good_pr (.inl rfl) ga t1, by rw [s5]; omega, by rw [d5]; omega, by rw [h5, atomL_at]; simpa using hc⟩
 · refine ⟨good_pr (.inr rfl) (good_pr (.inl rfl) ga t1) (good_pr (.inl rfl) gn f1), by rw [s5, s5, s5]; omega, by rw [d5, d5, d5]; omega, fun s hs => ?_⟩
   rw [h6, h5, h5, atomL_at, atomL_no] at hs
   simp only [List.mem_append, List.mem_singleton] at hs
   rcases hs with (rfl | hs) | (rfl | hs)
   · simp
   · exact hc s hs
   · simp
   · exact hd s hs
theorem thy_ok : ∀ {voc : List (List UInt8)}, okNames voc = true → ∀ S : BitVec 64, Thy voc (thy voc S)
 | [], _, S => by
  unfold thy
  split
  · exact thy_const [] (.inr rfl)
  · exact thy_const [] (.inl rfl)
 | a :: l, h, S => by
  unfold thy
  split
  · exact thy_const _ (.inr rfl)
  · split
    · exact thy_const _ (.inl rfl)
    · exact thy_join (by simp only [okNames, Bool.and_eq_true] at h; exact h.1) (thy_ok (okNames_tail h) _) (thy_ok (okNames_tail h) _)
theorem val_cons {a : List UInt8} {l : List (List UInt8)} (h : okNames (a :: l) = true) {f : F} (hf : Thy l f) (ys : List (List UInt8)) : F.val (a :: ys) f = F.val ys f := by
 refine val_own1 _ _ f hf.1 fun s hs => ?_
 have := (List.pairwise_cons.1 (okNames_asc h).1).1 s (hf.2.2.2 s hs)
 have hne : s ≠ a := fun e => by subst e; exact List.lt_irrefl _ this
 simp [hne]
theorem thy_val : ∀ {voc : List (List UInt8)}, okNames voc = true → voc.length ≤ 6 → ∀ (S : BitVec 64) (w : Nat), w < 2 ^ voc.length → F.val (yesN voc w) (thy voc S) = S.getLsbD w
 | [], _, _, S, w, hw => by
  have hw0 : w = 0 := by simpa using hw
  subst hw0
  have h0 : S &&& bitsTo (fun _ => true) (2 ^ 0) = 0#64 ↔ S.getLsbD 0 = false := by
   rw [bv_zero_iff]
   constructor
   · intro h
     have := h 0 (by omega)
     rw [BitVec.getLsbD_and, bitsTo_get _ _ _ (by decide)] at this
     simpa using this
   · intro h v hv
     rw [BitVec.getLsbD_and, bitsTo_get _ _ _ (by decide)]
     by_cases hv0 : v = 0
     · subst hv0; rw [h]; rfl
     · simp [hv0]
  unfold thy
  by_cases h : S &&& bitsTo (fun _ => true) (2 ^ 0) = 0#64
  · rw [if_pos h, val_op2 _ rfl, h0.1 h]
  · rw [if_neg h, val_op1 _ rfl]
    cases hs : S.getLsbD 0 with
    | true => rfl
    | false => exact absurd (h0.2 hs) h
 | a :: l, h, h6, S, w, hw => by
  have hN : 2 ^ (l.length + 1) ≤ 64 := pow6 h6
  have hw' : w < 2 ^ (l.length + 1) := hw
  have hand : ∀ v, (S &&& bitsTo (fun _ => true) (2 ^ (l.length + 1))).getLsbD v = (S.getLsbD v && decide (v < 2 ^ (l.length + 1))) := fun v => by
   rw [BitVec.getLsbD_and, bitsTo_get _ _ _ hN]; simp
  unfold thy
  by_cases h1 : S &&& bitsTo (fun _ => true) (2 ^ (l.length + 1)) = 0#64
  · rw [if_pos h1, val_op2 _ rfl]
    have := hand w
    rw [h1] at this
    simpa [hw'] using this
  rw [if_neg h1]
  by_cases h2 : S &&& bitsTo (fun _ => true) (2 ^ (l.length + 1)) = bitsTo (fun _ => true) (2 ^ (l.length + 1))
  · rw [if_pos h2, val_op1 _ rfl]
    have := hand w
    rw [h2, bitsTo_get _ _ _ hN] at this
    simpa [hw'] using this
  rw [if_neg h2, val_join]
  have hl := okNames_tail h
  have h6' : l.length ≤ 6 := by simp only [List.length_cons] at h6; omega
  have hpw : 2 ^ (l.length + 1) = 2 * 2 ^ l.length := by rw [Nat.pow_succ]; omega
  have hu : w / 2 < 2 ^ l.length := by omega
  have hac : (yesN (a :: l) w).contains a = decide (w % 2 = 1) := by
   have := yesN_mem (okNames_asc h).1 (i := 0) (w := w) (by simp)
   simp only [List.getElem_cons_zero, Nat.pow_zero, Nat.div_one] at this
   cases hd : decide (w % 2 = 1) with
   | true => rw [decide_eq_true_eq] at hd; simpa using this.2 hd
   | false => rw [decide_eq_false_iff_not] at hd; simpa using fun h => hd (this.1 h)
  rw [hac]
  rcases Nat.mod_two_eq_zero_or_one w with hb | hb
  · rw [if_neg (by simp [hb])]
    have hy : yesN (a :: l) w = yesN l (w / 2) := by simp [yesN, hb]
    rw [hy, thy_val hl h6' _ _ hu, hf_get (by omega) (by omega)]
    congr 1; omega
  · rw [if_pos (by simp [hb])]
    have hy : yesN (a :: l) w = a :: yesN l (w / 2) := by simp [yesN, hb]
    rw [hy, val_cons h (thy_ok hl _), thy_val hl h6' _ _ hu, hf_get (by omega) (by omega)]
    congr 1; omega
end Am

namespace Am
open Go
set_option linter.unusedSimpArgs false
set_option linter.unusedVariables false
set_option linter.unusedSectionVars false
abbrev has (X : BitVec 64) (w : Nat) : Prop := X.getLsbD w = true
theorem has_lt {X : BitVec 64} {w : Nat} (h : has X w) : w < 64 := by
 refine Decidable.byContradiction fun hn => ?_
 have := BitVec.getLsbD_of_ge X w (by omega)
 rw [has, this] at h; cases h
theorem has_and {X Y : BitVec 64} {w : Nat} : has (X &&& Y) w ↔ has X w ∧ has Y w := by simp [has]
theorem has_diff {X Y : BitVec 64} {w : Nat} : has (X &&& ~~~Y) w ↔ has X w ∧ ¬ has Y w := by
 constructor
 · intro h
   have hw := has_lt h
   simpa [has, hw] using h
 · rintro ⟨h1, h2⟩
   have hw := has_lt h1
   simpa [has, hw, h1] using h2
theorem has_bits {p : Nat → Bool} {n w : Nat} (hn : n ≤ 64) : has (bitsTo p n) w ↔ w < n ∧ p w = true := by rw [has, bitsTo_get _ _ _ hn]; simp
theorem set_eq {X Y : BitVec 64} (h : ∀ w, has X w ↔ has Y w) : X = Y := bv_ext fun w _ => by
 have := h w
 cases hx : X.getLsbD w <;> cases hy : Y.getLsbD w <;> simp [has, hx, hy] at this <;> rfl
theorem set_zero {X : BitVec 64} : X = 0#64 ↔ ∀ w, ¬ has X w := by
 constructor
 · rintro rfl w h; simp [has] at h
 · intro h; exact set_eq fun w => ⟨fun hx => absurd hx (h w), fun h0 => by simp [has] at h0⟩
theorem set_ne {X : BitVec 64} (h : X ≠ 0#64) : ∃ w, has X w := Classical.byContradiction fun hn => h (set_zero.2 fun w hw => hn ⟨w, hw⟩)
theorem min_ex (r : Nat → Int) (P : Nat → Prop) : ∀ N : Nat, (∃ v, v < N ∧ P v) → ∃ w, w < N ∧ P w ∧ ∀ v, v < N → P v → r w ≤ r v
 | 0, ⟨v, h, _⟩ => by omega
 | N + 1, ⟨v, hv, hp⟩ => by
  by_cases hN : ∃ v, v < N ∧ P v
  · obtain ⟨w, h1, h2, h3⟩ := min_ex r P N hN
    by_cases hc : P N ∧ r N < r w
    · refine ⟨N, by omega, hc.1, fun u hu hpu => ?_⟩
      by_cases huN : u = N
      · subst huN; omega
      · have := h3 u (by omega) hpu; omega
    · refine ⟨w, by omega, h2, fun u hu hpu => ?_⟩
      by_cases huN : u = N
      · subst huN
        have : ¬ r u < r w := fun h => hc ⟨hpu, h⟩
        omega
      · exact h3 u (by omega) hpu
  · have : v = N := Classical.byContradiction fun h => hN ⟨v, by omega, hp⟩
    subst this
    refine ⟨v, by omega, hp, fun u hu hpu => ?_⟩
    by_cases huN : u = v
    · subst huN; omega
    · exact absurd ⟨u, by omega, hpu⟩ hN
structure Lst (N : Nat) (r : Nat → Int) (L : BitVec 64 → BitVec 64) : Prop where
 le : N ≤ 64
 get : ∀ S w, has (L S) w ↔ w < N ∧ has S w ∧ ∀ v, v < N → has S v → r w ≤ r v
theorem Lst.ex {N : Nat} {r : Nat → Int} {L : BitVec 64 → BitVec 64} (h : Lst N r L) {S : BitVec 64} {v : Nat} (hv : v < N) (hs : has S v) : ∃ w, has (L S) w := by
 obtain ⟨w, h1, h2, h3⟩ := min_ex r (fun v => has S v) N ⟨v, hv, hs⟩
 exact ⟨w, (h.get S w).2 ⟨h1, h2, h3⟩⟩
section
variable {N : Nat} {r : Nat → Int} {L : BitVec 64 → BitVec 64} (hL : Lst N r L)
include hL
variable {A M K : BitVec 64} (hA : ∀ w, has A w ↔ w < N) (hM : ∀ w, has M w → w < N) (hK : ∀ w, has K w → w < N)
include hA
theorem Lst.rest (w : Nat) : has (L (A &&& ~~~M)) w ↔ w < N ∧ ¬ has M w ∧ ∀ v, v < N → ¬ has M v → r w ≤ r v := by
 rw [hL.get, has_diff]
 constructor
 · rintro ⟨h1, ⟨_, h2⟩, h3⟩
   exact ⟨h1, h2, fun v hv hm => h3 v hv (has_diff.2 ⟨(hA v).2 hv, hm⟩)⟩
 · rintro ⟨h1, h2, h3⟩
   exact ⟨h1, ⟨(hA w).2 h1, h2⟩, fun v hv hm => h3 v hv (has_diff.1 hm).2⟩
end
def Wth (N : Nat) (r : Nat → Int) (M W : BitVec 64) : Prop := ∀ w, has W w ↔ w < N ∧ ((∃ u, u < N ∧ ¬ has M u) → ∀ v, v < N → ¬ has M v → r w ≤ r v) ∧ ((∀ u, u < N → has M u) → ∀ v, v < N → r w ≤ r v)
section
variable {N : Nat} {r : Nat → Int} {L : BitVec 64 → BitVec 64} (hL : Lst N r L) {A M K W V : BitVec 64} (hA : ∀ w, has A w ↔ w < N) (hM : ∀ w, has M w → w < N) (hW : Wth N r M W) (hV : Wth N r K V)
include hL hW
end
end Am

namespace Am
open Go
set_option linter.unusedSimpArgs false
set_option linter.unusedVariables false
set_option linter.unusedSectionVars false
theorem models_good {voc : List (List UInt8)} {f : F} (hv : vocOk voc = true) (hg : good f = true) (hs : f.size ≤ 600) (hd : f.depth ≤ 20) (ha : ∀ s ∈ F.atomL f, s ∈ voc) : modelsE voc f = 0 ∧ modelsS voc f = modN voc f (2 ^ voc.length) := by
 have h1 : validate f = 0 := by
  have h1 : ¬ (f.size : Int) > 600 := by omega
  have h2 : ¬ (f.depth : Int) > 20 := by omega
  simp only [good, Bool.and_eq_true] at hg
  simp [validate, h1, h2, hg.1, hg.2]
 have h2 : atomsIn voc f = true := by
  unfold atomsIn
  rw [List.all_eq_true]
  intro s hs
  have := ha s ((canon_mem _ s).1 hs)
  simpa using this
 have h3 : modelsE voc f = 0 := by simp [modelsE, hv, h1, h2]
 exact ⟨h3, by rw [modelsS, if_pos h3]⟩
end Am

namespace Am
open Go
set_option linter.unusedSimpArgs false
set_option linter.unusedVariables false
abbrev alW (n : Nat) : BitVec 64 := bitsTo (fun _ => true) (2 ^ n)
def Sub (n : Nat) (X : BitVec 64) : Prop := ∀ w, has X w → w < 2 ^ n
theorem sub_and {n : Nat} (hn : n ≤ 6) {X : BitVec 64} (h : Sub n X) : X &&& alW n = X := set_eq fun w => by
 rw [has_and, has_bits (pow6 hn)]
 exact ⟨fun h => h.1, fun hw => ⟨hw, h w hw, rfl⟩⟩
theorem sub_of_and {n : Nat} (hn : n ≤ 6) (X : BitVec 64) : Sub n (X &&& alW n) := fun w hw => by
 rw [has_and, has_bits (pow6 hn)] at hw
 exact hw.2.1
theorem hf_has {X : BitVec 64} {b n u : Nat} (hn : n ≤ 5) (hb : b < 2) : has (hf X b (2 ^ (n + 1))) u ↔ 2 * u + b < 2 ^ (n + 1) ∧ has X (2 * u + b) := by
 have hp := pow6 (show n + 1 ≤ 6 by omega)
 unfold hf
 rw [has_bits (Nat.le_refl _)]
 simp only [Bool.and_eq_true, decide_eq_true_eq, has]
 constructor
 · exact fun h => h.2
 · exact fun h => ⟨by omega, h⟩
theorem hf_sub {X : BitVec 64} {b n : Nat} (hn : n ≤ 5) (hb : b < 2) : Sub n (hf X b (2 ^ (n + 1))) := fun u hu => by
 have := ((hf_has hn hb).1 hu).1
 rw [Nat.pow_succ] at this
 omega
theorem join_op {a : List UInt8} {t f : F} {o : Int} (h : (joinF a t f).op = o) (ho : o = 1 ∨ o = 2) : F.beq t f = true ∧ t.op = o := by
 unfold joinF at h
 by_cases h1 : F.beq t f = true
 · rw [if_pos h1] at h; exact ⟨h1, h⟩
 rw [if_neg h1] at h
 exfalso
 repeat' split at h
 all_goals (simp only [atF, noF1, pr, F.op_mk] at h; omega)
theorem thy_op : ∀ (voc : List (List UInt8)), voc.length ≤ 6 → ∀ X : BitVec 64, Sub voc.length X → ((thy voc X).op = 1 → X = alW voc.length) ∧ ((thy voc X).op = 2 → X = 0#64)
 | [], _, X, hX => by
  have e := sub_and (n := 0) (by omega) hX
  unfold alW at e
  unfold thy
  rw [e]
  by_cases h0 : X = 0#64
  · rw [if_pos h0]; simp [F.op_mk, h0]
  · rw [if_neg h0]
    refine ⟨fun _ => ?_, fun h => by simp [F.op_mk] at h⟩
    obtain ⟨w, hw⟩ := set_ne h0
    have hw0 : w = 0 := by have := hX w hw; simpa using this
    subst hw0
    refine set_eq fun v => ?_
    unfold alW
    rw [has_bits (by simp)]
    constructor
    · exact fun hv => ⟨hX v hv, rfl⟩
    · rintro ⟨hv, _⟩
      have : v = 0 := by simpa using hv
      rw [this]; exact hw
 | a :: l, h6, X, hX => by
  have hl : l.length ≤ 5 := by simp only [List.length_cons] at h6; omega
  have e := sub_and (n := l.length + 1) (by omega) hX
  unfold alW at e
  unfold thy
  rw [e]
  show (_ → X = alW (l.length + 1)) ∧ _
  by_cases h0 : X = 0#64
  · rw [if_pos h0]; simp [F.op_mk, h0]
  rw [if_neg h0]
  by_cases h1 : X = bitsTo (fun _ => true) (2 ^ (l.length + 1))
  · rw [if_pos h1]; exact ⟨fun _ => h1, fun h => by simp [F.op_mk] at h⟩
  rw [if_neg h1]
  have i1 := thy_op l (by omega) (hf X 1 (2 ^ (l.length + 1))) (hf_sub hl (by omega))
  have i0 := thy_op l (by omega) (hf X 0 (2 ^ (l.length + 1))) (hf_sub hl (by omega))
  have hp : 2 ^ (l.length + 1) = 2 * 2 ^ l.length := by rw [Nat.pow_succ]; omega
  have back : ∀ w, has X w → ∃ u b, b < 2 ∧ w = 2 * u + b ∧ has (hf X b (2 ^ (l.length + 1))) u := fun w hw =>
   ⟨w / 2, w % 2, by omega, by omega, (hf_has hl (by omega)).2 ⟨by have := hX w hw; simp only [List.length_cons] at this; omega, by rw [show 2 * (w / 2) + w % 2 = w by omega]; exact hw⟩⟩
  constructor
  · intro ho
    obtain ⟨hb, ht⟩ := join_op ho (.inl rfl)
    have hbe := F.beq_true _ _ hb
    have e1 := i1.1 ht
    have e0 := i0.1 (hbe ▸ ht)
    refine set_eq fun w => ?_
    unfold alW
    rw [has_bits (pow6 (by omega))]
    constructor
    · exact fun hw => ⟨hX w hw, rfl⟩
    · rintro ⟨hw, _⟩
      have key : ∀ b, b < 2 → w % 2 = b → hf X b (2 ^ (l.length + 1)) = alW l.length → has X w := fun b hb hwb he => by
       have h2 : has (hf X b (2 ^ (l.length + 1))) (w / 2) := by
        rw [he]; unfold alW; rw [has_bits (pow6 (by omega))]; exact ⟨by omega, rfl⟩
       have := ((hf_has hl hb).1 h2).2
       rwa [show 2 * (w / 2) + b = w by omega] at this
      by_cases hw2 : w % 2 = 1
      · exact key 1 (by omega) hw2 e1
      · exact key 0 (by omega) (by omega) e0
  · intro ho
    obtain ⟨hb, ht⟩ := join_op ho (.inr rfl)
    have hbe := F.beq_true _ _ hb
    have e1 := i1.2 ht
    have e0 := i0.2 (hbe ▸ ht)
    refine set_zero.2 fun w hw => ?_
    obtain ⟨u, b, hb2, _, hu⟩ := back w hw
    obtain rfl | rfl : b = 0 ∨ b = 1 := by omega
    · rw [e0] at hu; exact set_zero.1 rfl u hu
    · rw [e1] at hu; exact set_zero.1 rfl u hu
theorem thy_at0 {voc : List (List UInt8)} : (thy voc 0#64).op = 2 := by
 cases voc with
 | nil => unfold thy; rw [if_pos (by simp)]; rfl
 | cons a l => unfold thy; rw [if_pos (by simp)]; rfl
theorem alW_ne {n : Nat} (hn : n ≤ 6) : alW n ≠ 0#64 := fun h => (set_zero.1 h) 0 (by unfold alW; rw [has_bits (pow6 hn)]; exact ⟨Nat.two_pow_pos n, rfl⟩)
theorem thy_at1 {voc : List (List UInt8)} (h6 : voc.length ≤ 6) : (thy voc (alW voc.length)).op = 1 := by
 cases voc with
 | nil =>
  have := alW_ne (n := 0) (by omega)
  unfold alW at this ⊢
  unfold thy
  rw [if_neg (by simp only [List.length_nil, BitVec.and_self]; exact this)]; rfl
 | cons a l =>
  have := alW_ne (n := l.length + 1) h6
  unfold alW at this ⊢
  unfold thy
  simp only [List.length_cons, BitVec.and_self]
  rw [if_neg this, if_pos trivial]; rfl
theorem thy_op1 {voc : List (List UInt8)} (h6 : voc.length ≤ 6) {X : BitVec 64} (hX : Sub voc.length X) : (thy voc X).op = 1 ↔ X = alW voc.length :=
 ⟨(thy_op voc h6 X hX).1, fun h => by rw [h]; exact thy_at1 h6⟩
theorem thy_op2 {voc : List (List UInt8)} (h6 : voc.length ≤ 6) {X : BitVec 64} (hX : Sub voc.length X) : (thy voc X).op = 2 ↔ X = 0#64 :=
 ⟨(thy_op voc h6 X hX).2, fun h => by rw [h]; exact thy_at0⟩
theorem thy_inj {voc : List (List UInt8)} (hv : okNames voc = true) (h6 : voc.length ≤ 6) {X Y : BitVec 64} (hX : Sub voc.length X) (hY : Sub voc.length Y) (h : thy voc X = thy voc Y) : X = Y := set_eq fun w => by
 by_cases hw : w < 2 ^ voc.length
 · have a := thy_val hv h6 X w hw
   have b := thy_val hv h6 Y w hw
   rw [h] at a
   unfold has
   rw [← a, ← b]
 · exact ⟨fun h => absurd (hX w h) hw, fun h => absurd (hY w h) hw⟩
def sp (X : BitVec 64) (b i : Nat) : BitVec 64 := bitsTo (fun u => X.getLsbD (2 * u + b)) i
theorem sp_hf {X : BitVec 64} {b n : Nat} (hn : n ≤ 5) (hb : b < 2) (hX : Sub (n + 1) X) : sp X b 32 = hf X b (2 ^ (n + 1)) := set_eq fun u => by
 rw [hf_has hn hb]
 unfold sp
 rw [has_bits (by omega)]
 have hp := pow6 (show n + 1 ≤ 6 by omega)
 constructor
 · exact fun h => ⟨hX _ h.2, h.2⟩
 · exact fun h => ⟨by omega, h.2⟩
theorem sp_zero (X : BitVec 64) (b : Nat) : sp X b 0 = 0#64 := rfl
theorem sp_succ (X : BitVec 64) (b i : Nat) (hi : i < 32) : sp X b i ||| ((X >>> (2 * i + b)) &&& 1#64) <<< i = sp X b (i + 1) := by
 refine bv_ext fun w hw => ?_
 unfold sp
 rw [BitVec.getLsbD_or, bitsTo_get _ _ _ (by omega), bitsTo_get _ _ _ (by omega), BitVec.getLsbD_shiftLeft, BitVec.getLsbD_and, BitVec.getLsbD_ushiftRight]
 by_cases h : w < i
 · have h1 : w < i + 1 := by omega
   simp [h, h1, hw]
 · by_cases h2 : w = i
   · subst h2
     simp [hw]
   · have h3 : ¬ w < i + 1 := by omega
     have h4 : ¬ w - i = 0 := by omega
     have h5 : (1#64).getLsbD (w - i) = false := by
      rw [BitVec.getLsbD_one]; simp; omega
     simp [h, h3, h5]
theorem hf_mask {X : BitVec 64} {b n : Nat} (hn : n ≤ 5) (hb : b < 2) : hf (X &&& alW (n + 1)) b (2 ^ (n + 1)) = hf X b (2 ^ (n + 1)) := set_eq fun u => by
 rw [hf_has hn hb, hf_has hn hb, has_and, has_bits (pow6 (by omega))]
 exact ⟨fun h => ⟨h.1, h.2.1⟩, fun h => ⟨h.1, h.2, h.1, rfl⟩⟩
theorem thy_mask {voc : List (List UInt8)} (h6 : voc.length ≤ 6) (X : BitVec 64) : thy voc (X &&& alW voc.length) = thy voc X := by
 cases voc with
 | nil =>
  unfold thy alW
  rw [List.length_nil, BitVec.and_assoc, BitVec.and_self]
 | cons a l =>
  have h5 : l.length ≤ 5 := by simp only [List.length_cons] at h6; omega
  have e1 := hf_mask (X := X) (b := 1) h5 (by omega)
  have e0 := hf_mask (X := X) (b := 0) h5 (by omega)
  unfold alW at e1 e0
  unfold thy alW
  rw [List.length_cons, BitVec.and_assoc, BitVec.and_self, e1, e0]
def thyE (voc : List (List UInt8)) (S : BitVec 64) : F × Int := if vocOk voc = true then (thy voc S, 0) else (F.mk 0 [] [], 1)
end Am

namespace Am
open Go
set_option linter.unusedSimpArgs false
set_option linter.unusedVariables false
set_option linter.unusedSectionVars false
def ones (x : BitVec 64) : Nat → Nat
 | 0 => 0
 | n + 1 => ones x n + (x.getLsbD n).toNat
def onesN (x : Nat) : Nat → Nat
 | 0 => 0
 | n + 1 => x % 2 + onesN (x / 2) n
theorem bit_toNat (x n : Nat) : (x.testBit n).toNat = x / 2 ^ n % 2 := by
 rw [Nat.testBit_eq_decide_div_mod_eq]
 rcases Nat.mod_two_eq_zero_or_one (x / 2 ^ n) with h | h <;> simp [h]
theorem onesN_succ (n : Nat) : ∀ x, onesN x (n + 1) = onesN x n + x / 2 ^ n % 2 := by
 induction n with
 | zero => intro x; simp [onesN]
 | succ n ih =>
  intro x
  have h : x / 2 / 2 ^ n = x / 2 ^ (n + 1) := by rw [Nat.div_div_eq_div_mul, Nat.pow_succ, Nat.mul_comm]
  rw [onesN, ih (x / 2), h, onesN]; omega
theorem ones_N (x : BitVec 64) : ∀ n, ones x n = onesN x.toNat n
 | 0 => rfl
 | n + 1 => by rw [ones, ones_N x n, onesN_succ, ← bit_toNat]; rfl
def mk (B m : Nat) : Nat → Nat
 | 0 => 0
 | k + 1 => B * mk B m k + m
theorem and_step (t B q r m M : Nat) (hB : B = 2 ^ t) (hr : r < B) (hm : m < B) : (B * q + r) &&& (B * M + m) = B * (q &&& M) + (r &&& m) := by
 subst hB
 have e := Nat.div_add_mod ((2 ^ t * q + r) &&& (2 ^ t * M + m)) (2 ^ t)
 have hp : 0 < 2 ^ t := Nat.two_pow_pos t
 rw [Nat.and_div_two_pow, Nat.and_mod_two_pow] at e
 have d1 : (2 ^ t * q + r) / 2 ^ t = q := by rw [Nat.mul_add_div hp, Nat.div_eq_of_lt hr]; omega
 have d2 : (2 ^ t * M + m) / 2 ^ t = M := by rw [Nat.mul_add_div hp, Nat.div_eq_of_lt hm]; omega
 have d3 : (2 ^ t * q + r) % 2 ^ t = r := by rw [Nat.mul_add_mod, Nat.mod_eq_of_lt hr]
 have d4 : (2 ^ t * M + m) % 2 ^ t = m := by rw [Nat.mul_add_mod, Nat.mod_eq_of_lt hm]
 rw [d1, d2, d3, d4] at e
 exact e.symm
def s1 (X k : Nat) : Nat := (X / 2 &&& mk 256 85 k) + (X &&& mk 256 85 k)
def s2 (X k : Nat) : Nat := (X / 4 &&& mk 256 51 k) + (X &&& mk 256 51 k)
def s3 (X k : Nat) : Nat := (X / 16 + X) &&& mk 256 15 k
theorem shift_and (s q b m M : Nat) (hs : s ≤ 8) (hb : b < 256) (hm : m < 2 ^ (8 - s)) : ((256 * q + b) / 2 ^ s) &&& (256 * M + m) = 256 * ((q / 2 ^ s) &&& M) + ((b / 2 ^ s) &&& m) := by
 have h1 : (256 * q + b) / 2 ^ s = 256 * (q / 2 ^ s) + (2 ^ (8 - s) * (q % 2 ^ s) + b / 2 ^ s) := by
  have h8 : 256 = 2 ^ (8 - s) * 2 ^ s := by rw [← Nat.pow_add, show 8 - s + s = 8 by omega]
  have hp : 0 < 2 ^ s := Nat.two_pow_pos s
  have hq := Nat.div_add_mod q (2 ^ s)
  have : 256 * q + b = 2 ^ s * (2 ^ (8 - s) * q) + b := by
   conv => lhs; rw [h8]
   rw [Nat.mul_comm (2 ^ (8 - s)), Nat.mul_assoc]
  rw [this, Nat.mul_add_div hp]
  have : 2 ^ (8 - s) * q = 256 * (q / 2 ^ s) + 2 ^ (8 - s) * (q % 2 ^ s) := by
   conv => lhs; rw [← hq]
   rw [Nat.mul_add, ← Nat.mul_assoc, ← h8]
  omega
 have hlow : b / 2 ^ s < 2 ^ (8 - s) := by
  rw [Nat.div_lt_iff_lt_mul (Nat.two_pow_pos s), ← Nat.pow_add, show 8 - s + s = 8 by omega]; exact hb
 have hqs : q % 2 ^ s < 2 ^ s := Nat.mod_lt _ (Nat.two_pow_pos s)
 have hle : 2 ^ (8 - s) ≤ 256 := by
  have := Nat.pow_le_pow_right (show 0 < 2 by omega) (show 8 - s ≤ 8 by omega)
  exact this
 have hsum : 2 ^ (8 - s) * (q % 2 ^ s) + b / 2 ^ s < 256 := by
  have h2 : 2 ^ (8 - s) * (q % 2 ^ s + 1) ≤ 2 ^ (8 - s) * 2 ^ s := Nat.mul_le_mul_left _ hqs
  rw [← Nat.pow_add, show 8 - s + s = 8 by omega, Nat.mul_add] at h2
  omega
 rw [h1, and_step 8 256 (q / 2 ^ s) _ m M rfl hsum (by omega)]
 congr 1
 have e := and_step (8 - s) (2 ^ (8 - s)) (q % 2 ^ s) (b / 2 ^ s) m 0 rfl hlow hm
 simpa using e
theorem s1_step (q b k : Nat) (hb : b < 256) : s1 (256 * q + b) (k + 1) = 256 * s1 q k + s1 b 1 := by
 unfold s1
 have h1 := shift_and 1 q b 85 (mk 256 85 k) (by omega) hb (by decide)
 have h2 := and_step 8 256 q b 85 (mk 256 85 k) rfl hb (by decide)
 simp only [Nat.pow_one] at h1
 simp only [mk, Nat.mul_zero, Nat.zero_add]
 rw [h1, h2]; omega
theorem s2_step (q b k : Nat) (hb : b < 256) : s2 (256 * q + b) (k + 1) = 256 * s2 q k + s2 b 1 := by
 unfold s2
 have h1 := shift_and 2 q b 51 (mk 256 51 k) (by omega) hb (by decide)
 have h2 := and_step 8 256 q b 51 (mk 256 51 k) rfl hb (by decide)
 simp only [show (2 : Nat) ^ 2 = 4 from rfl] at h1
 simp only [mk, Nat.mul_zero, Nat.zero_add]
 rw [h1, h2]; omega
theorem byte_facts : ∀ b, b < 256 → s1 b 1 < 256 ∧ s2 (s1 b 1) 1 < 256 ∧ s2 (s1 b 1) 1 % 16 ≤ 4 ∧ s2 (s1 b 1) 1 / 16 ≤ 4 ∧ (s2 (s1 b 1) 1 / 16 + s2 (s1 b 1) 1) % 16 = onesN b 8 ∧ onesN b 8 ≤ 8 := by decide +kernel
theorem onesN_byte (q b n : Nat) (hb : b < 256) : onesN (256 * q + b) (n + 8) = onesN b 8 + onesN q n := by
 have e : (256 * q + b) / 2 / 2 / 2 / 2 / 2 / 2 / 2 / 2 = q := by omega
 have e2 : b / 2 / 2 / 2 / 2 / 2 / 2 / 2 / 2 = 0 := by omega
 simp only [onesN]
 rw [e]
 omega
def dig (X : Nat) : Nat → Nat
 | 0 => 0
 | k + 1 => 256 * dig (X / 256) k + onesN (X % 256) 8
theorem sw_dig : ∀ (k X : Nat), s2 (s1 X k) k % 16 ≤ 4 ∧ s3 (s2 (s1 X k) k) k = dig X k
 | 0, X => by simp [s1, s2, s3, mk, dig]
 | k + 1, X => by
  obtain ⟨i1, i2⟩ := sw_dig k (X / 256)
  have hb : X % 256 < 256 := Nat.mod_lt _ (by omega)
  have hx : X = 256 * (X / 256) + X % 256 := (Nat.div_add_mod X 256).symm
  obtain ⟨f1, f2, f3, f4, f5, f6⟩ := byte_facts (X % 256) hb
  have e1 : s1 X (k + 1) = 256 * s1 (X / 256) k + s1 (X % 256) 1 := by
   conv => lhs; rw [hx]
   exact s1_step _ _ _ hb
  have e2 : s2 (s1 X (k + 1)) (k + 1) = 256 * s2 (s1 (X / 256) k) k + s2 (s1 (X % 256) 1) 1 := by rw [e1]; exact s2_step _ _ _ f1
  rw [e2, dig]
  generalize s2 (s1 (X / 256) k) k = A at *
  generalize s2 (s1 (X % 256) 1) 1 = n at *
  refine ⟨by omega, ?_⟩
  unfold s3 at i2 ⊢
  have hs : (256 * A + n) / 16 + (256 * A + n) = 256 * (A / 16 + A) + (16 * (A % 16) + n / 16 + n) := by omega
  have h3 := and_step 8 256 (A / 16 + A) (16 * (A % 16) + n / 16 + n) 15 (mk 256 15 k) rfl (by omega) (by decide)
  simp only [mk]
  rw [hs, h3, i2]
  have h4 : (16 * (A % 16) + n / 16 + n) &&& 15 = (16 * (A % 16) + n / 16 + n) % 16 := Nat.and_two_pow_sub_one_eq_mod _ 4
  rw [h4]; omega
theorem dig_sum (X : Nat) : ∃ p0 p1 p2 p3 p4 p5 p6 p7, p0 ≤ 8 ∧ p1 ≤ 8 ∧ p2 ≤ 8 ∧ p3 ≤ 8 ∧ p4 ≤ 8 ∧ p5 ≤ 8 ∧ p6 ≤ 8 ∧ p7 ≤ 8 ∧ onesN X 64 = p0 + p1 + p2 + p3 + p4 + p5 + p6 + p7 ∧ dig X 8 = 256 * (256 * (256 * (256 * (256 * (256 * (256 * (256 * 0 + p7) + p6) + p5) + p4) + p3) + p2) + p1) + p0 := by
 have hb : ∀ Y : Nat, onesN (Y % 256) 8 ≤ 8 := fun Y => (byte_facts (Y % 256) (Nat.mod_lt _ (by omega))).2.2.2.2.2
 have st : ∀ (Y n : Nat), onesN Y (n + 8) = onesN (Y % 256) 8 + onesN (Y / 256) n := fun Y n => by
  have := onesN_byte (Y / 256) (Y % 256) n (Nat.mod_lt _ (by omega))
  rwa [Nat.div_add_mod] at this
 refine ⟨_, _, _, _, _, _, _, _, hb X, hb (X / 256), hb (X / 256 / 256), hb (X / 256 / 256 / 256), hb (X / 256 / 256 / 256 / 256), hb (X / 256 / 256 / 256 / 256 / 256), hb (X / 256 / 256 / 256 / 256 / 256 / 256), hb (X / 256 / 256 / 256 / 256 / 256 / 256 / 256), ?_, rfl⟩
 rw [st X 56, st _ 48, st _ 40, st _ 32, st _ 24, st _ 16, st _ 8, st _ 0]
 simp only [onesN]; omega
theorem fold_dig (y p0 p1 p2 p3 p4 p5 p6 p7 : Nat) (h0 : p0 ≤ 8) (h1 : p1 ≤ 8) (h2 : p2 ≤ 8) (h3 : p3 ≤ 8) (h4 : p4 ≤ 8) (h5 : p5 ≤ 8) (h6 : p6 ≤ 8) (h7 : p7 ≤ 8) (hy : y = 256 * (256 * (256 * (256 * (256 * (256 * (256 * (256 * 0 + p7) + p6) + p5) + p4) + p3) + p2) + p1) + p0) :
 ∃ z u v, z = y + y / 256 ∧ u = z + z / 65536 ∧ v = u + u / 4294967296 ∧ v < 9223372036854775808 ∧ v % 128 = p0 + p1 + p2 + p3 + p4 + p5 + p6 + p7 := by
 have e1 : y / 256 = 256 * (256 * (256 * (256 * (256 * (256 * p7 + p6) + p5) + p4) + p3) + p2) + p1 := by omega
 refine ⟨_, _, _, rfl, rfl, rfl, ?_⟩
 have e2 : y + y / 256 = 256 * (256 * (256 * (256 * (256 * (256 * (256 * p7 + (p6 + p7)) + (p5 + p6)) + (p4 + p5)) + (p3 + p4)) + (p2 + p3)) + (p1 + p2)) + (p0 + p1) := by omega
 generalize y + y / 256 = z at *
 have e3 : z / 65536 = 256 * (256 * (256 * (256 * (256 * p7 + (p6 + p7)) + (p5 + p6)) + (p4 + p5)) + (p3 + p4)) + (p2 + p3) := by omega
 have e4 : z + z / 65536 = 256 * (256 * (256 * (256 * (256 * (256 * (256 * p7 + (p6 + p7)) + (p5 + p6 + p7)) + (p4 + p5 + p6 + p7)) + (p3 + p4 + p5 + p6)) + (p2 + p3 + p4 + p5)) + (p1 + p2 + p3 + p4)) + (p0 + p1 + p2 + p3) := by omega
 generalize z + z / 65536 = u at *
 have e5 : u / 4294967296 = 256 * (256 * (256 * p7 + (p6 + p7)) + (p5 + p6 + p7)) + (p4 + p5 + p6 + p7) := by omega
 clear e1 e2 e3 hy
 omega
theorem uN_bv {a : Nat} (h : a < 18446744073709551616) : D.int .u64 (a : Int) = bvD (BitVec.ofNat 64 a) := by
 unfold bvD; rw [BitVec.toNat_ofNat, Nat.mod_eq_of_lt (by omega)]
theorem bvD_nat (x : BitVec 64) {a : Nat} (h : x.toNat = a) : bvD x = D.int .u64 (a : Int) := by unfold bvD; rw [h]
theorem u_shr {a : Nat} (h : a < 18446744073709551616) (n : Nat) : PO.eval (.bin .shr false) [.int .u64 (a : Int), .int .u64 (n : Int)] = some [.int .u64 ((a / 2 ^ n : Nat) : Int)] := by
 rw [uN_bv h, bv_shr]
 congr 2
 exact bvD_nat _ (by rw [BitVec.toNat_ushiftRight, Nat.shiftRight_eq_div_pow, BitVec.toNat_ofNat, Nat.mod_eq_of_lt (by omega)])
theorem u_and {a b : Nat} (h : a < 18446744073709551616) (h' : b < 18446744073709551616) : PO.eval (.bin .and false) [.int .u64 (a : Int), .int .u64 (b : Int)] = some [.int .u64 ((a &&& b : Nat) : Int)] := by
 rw [uN_bv h, uN_bv h', bv_and]
 congr 2
 exact bvD_nat _ (by rw [BitVec.toNat_and, BitVec.toNat_ofNat, BitVec.toNat_ofNat, Nat.mod_eq_of_lt (by omega), Nat.mod_eq_of_lt (by omega)])
theorem u_add {a b : Nat} (h : a + b < 18446744073709551616) : PO.eval (.bin .add false) [.int .u64 (a : Int), .int .u64 (b : Int)] = some [.int .u64 ((a + b : Nat) : Int)] := by
 show one1 (some (.int .u64 (IntKind.u64.wrap ((a : Int) + (b : Int))))) = _
 rw [wrapU (by omega) (by omega)]; rfl
end Am

namespace Am
open Go
set_option linter.unusedSimpArgs false
set_option linter.unusedVariables false
set_option linter.unusedSectionVars false
def low (x : BitVec 64) : Nat := Lib.ctz 64 x.toNat
theorem low_nat (x : Nat) (h0 : x ≠ 0) (h : x < 2 ^ 64) : ∃ m k, x = 2 ^ k * (2 * m + 1) ∧ k < 64 ∧ Lib.ctz 64 x = k ∧ x &&& (x - 1) = 2 ^ (k + 1) * m := by
 obtain ⟨m, hm, hk⟩ := Lib.ctzFrom_spec 64 x (by omega) h
 refine ⟨m, _, hm, hk, by unfold Lib.ctz; rw [if_neg h0], ?_⟩
 generalize Lib.ctzFrom 64 x = k at *
 have hp : 0 < 2 ^ k := Nat.two_pow_pos k
 have hB : 2 ^ (k + 1) = 2 * 2 ^ k := by rw [Nat.pow_succ]; omega
 have e1 : x = 2 ^ (k + 1) * m + 2 ^ k := by rw [hm, Nat.mul_add, Nat.mul_one, hB, ← Nat.mul_assoc, Nat.mul_comm (2 ^ k) 2]
 have e2 : x - 1 = 2 ^ (k + 1) * m + (2 ^ k - 1) := by omega
 have h3 : 2 ^ k &&& (2 ^ k - 1) = 0 := by rw [Nat.and_two_pow_sub_one_eq_mod]; simp
 rw [e2]
 conv => lhs; rw [e1]
 rw [and_step (k + 1) (2 ^ (k + 1)) m (2 ^ k) (2 ^ k - 1) m rfl (by omega) (by omega), Nat.and_self, h3, Nat.add_zero]
theorem low_spec (x : BitVec 64) (hx : x ≠ 0#64) : low x < 64 ∧ x.getLsbD (low x) = true ∧ (∀ w, w < low x → x.getLsbD w = false) ∧ ∀ w, (x &&& (x - 1#64)).getLsbD w = (x.getLsbD w && !decide (w = low x)) := by
 have hx0 : x.toNat ≠ 0 := fun h => hx (BitVec.eq_of_toNat_eq (by simpa using h))
 obtain ⟨m, k, e, hk, hc, ha⟩ := low_nat x.toNat hx0 x.isLt
 have hlow : low x = k := hc
 rw [hlow]
 have hB : 2 ^ (k + 1) = 2 * 2 ^ k := by rw [Nat.pow_succ]; omega
 have e1 : x.toNat = 2 ^ (k + 1) * m + 2 ^ k := by rw [e, Nat.mul_add, Nat.mul_one, hB, ← Nat.mul_assoc, Nat.mul_comm (2 ^ k) 2]
 have hp : 0 < 2 ^ k := Nat.two_pow_pos k
 have hbit : ∀ w, x.getLsbD w = if w < k + 1 then decide (w = k) else m.testBit (w - (k + 1)) := by
  intro w
  show x.toNat.testBit w = _
  rw [e1, Nat.testBit_two_pow_mul_add _ (by omega)]
  split
  · rw [Nat.testBit_two_pow]; exact decide_eq_decide.2 ⟨fun h => h.symm, fun h => h.symm⟩
  · rfl
 refine ⟨hk, by rw [hbit]; simp, fun w hw => by rw [hbit, if_pos (by omega)]; simp; omega, fun w => ?_⟩
 have hsub : (x - 1#64).toNat = x.toNat - 1 := by
  have h1 := x.isLt
  rw [BitVec.toNat_sub]
  have h2 : (1#64 : BitVec 64).toNat = 1 := rfl
  rw [h2]
  omega
 have h2 : (x &&& (x - 1#64)).getLsbD w = (2 ^ (k + 1) * m).testBit w := by
  show (x &&& (x - 1#64)).toNat.testBit w = _
  rw [BitVec.toNat_and, hsub, ha]
 rw [h2, hbit w]
 have := Nat.testBit_two_pow_mul_add (i := k + 1) m (b := 0) (by omega) w
 rw [Nat.add_zero] at this
 rw [this]
 split
 · rename_i h
   by_cases hw : w = k <;> simp [hw]
 · have : w ≠ k := by omega
   simp [this]
def worldsTo (X : BitVec 64) (n : Nat) : List Nat := (List.range n).filter X.getLsbD
theorem worldsTo_succ (X : BitVec 64) (n : Nat) : worldsTo X (n + 1) = worldsTo X n ++ if X.getLsbD n = true then [n] else [] := by
 unfold worldsTo
 rw [List.range_succ, List.filter_append]
 congr 1
 cases h : X.getLsbD n <;> simp [h]
theorem worldsTo_skip (X : BitVec 64) (a : Nat) : ∀ d, (∀ w, a ≤ w → w < a + d → X.getLsbD w = false) → worldsTo X (a + d) = worldsTo X a
 | 0, _ => rfl
 | d + 1, h => by
  rw [← Nat.add_assoc, worldsTo_succ, h (a + d) (by omega) (by omega), worldsTo_skip X a d (fun w h1 h2 => h w h1 (by omega))]
  simp
theorem worldsTo_len (X : BitVec 64) (n : Nat) : (worldsTo X n).length ≤ n := by
 unfold worldsTo
 exact Nat.le_trans (List.length_filter_le _ _) (by simp)
def from_ (X : BitVec 64) (a : Nat) : BitVec 64 := bitsTo (fun w => decide (a ≤ w) && X.getLsbD w) 64
theorem from_get (X : BitVec 64) (a w : Nat) (hw : w < 64) : (from_ X a).getLsbD w = (decide (a ≤ w) && X.getLsbD w) := by
 unfold from_; rw [bitsTo_get _ _ _ (Nat.le_refl _)]; simp [hw]
theorem from_zero (X : BitVec 64) : from_ X 0 = X := bv_ext fun w hw => by rw [from_get _ _ _ hw]; simp
theorem from_next (X : BitVec 64) (a : Nat) (h : from_ X a ≠ 0#64) : a ≤ low (from_ X a) ∧ low (from_ X a) < 64 ∧ from_ X a &&& (from_ X a - 1#64) = from_ X (low (from_ X a) + 1) ∧ worldsTo X (low (from_ X a) + 1) = worldsTo X a ++ [low (from_ X a)] := by
 obtain ⟨h1, h2, h3, h4⟩ := low_spec _ h
 generalize hk : low (from_ X a) = k at *
 rw [from_get _ _ _ h1] at h2
 simp only [Bool.and_eq_true, decide_eq_true_eq] at h2
 refine ⟨h2.1, h1, bv_ext fun w hw => ?_, ?_⟩
 · rw [h4, from_get _ _ _ hw, from_get _ _ _ hw]
   by_cases hw1 : w < k
   · have := h3 w hw1
     rw [from_get _ _ _ hw] at this
     rw [this]
     have : ¬ k + 1 ≤ w := by omega
     simp [this]
   · by_cases hw2 : w = k
     · subst hw2
       have : ¬ w + 1 ≤ w := by omega
       simp [this]
     · have a1 : k + 1 ≤ w := by omega
       have a2 : a ≤ w := by omega
       simp [a1, a2, hw2]
 · rw [worldsTo_succ, h2.2]
   have := worldsTo_skip X a (k - a) (fun w g1 g2 => by
    have := h3 w (by omega)
    rw [from_get _ _ _ (by omega)] at this
    simpa [g1] using this)
   rw [show a + (k - a) = k by omega] at this
   rw [this]; rfl
theorem from_done (X : BitVec 64) (a : Nat) (ha : a ≤ 64) (h : from_ X a = 0#64) : worldsTo X a = worldsTo X 64 := by
 have := worldsTo_skip X a (64 - a) (fun w g1 g2 => by
  have h0 := (bv_zero_iff _).1 h w (by omega)
  rw [from_get _ _ _ (by omega)] at h0
  simpa [g1] using h0)
 rw [show a + (64 - a) = 64 by omega] at this
 exact this.symm
end Am

namespace Am
open Go
set_option linter.unusedSimpArgs false
set_option linter.unusedVariables false
set_option linter.unusedSectionVars false
theorem mask_get {n : Nat} (hn : n ≤ 6) (X : BitVec 64) (w : Nat) : (X &&& alW n).getLsbD w = (X.getLsbD w && decide (w < 2 ^ n)) := by
 unfold alW
 rw [BitVec.getLsbD_and, bitsTo_get _ _ _ (pow6 hn)]; simp
theorem worlds_all {n : Nat} (hn : n ≤ 6) (X : BitVec 64) : worldsTo (X &&& alW n) 64 = worldsTo X (2 ^ n) := by
 have h64 := pow6 hn
 have h1 := worldsTo_skip (X &&& alW n) (2 ^ n) (64 - 2 ^ n) (fun w h1 h2 => by
  rw [mask_get hn]
  have : ¬ w < 2 ^ n := by omega
  simp [this])
 rw [show 2 ^ n + (64 - 2 ^ n) = 64 by omega] at h1
 rw [h1]
 unfold worldsTo
 refine List.filter_congr fun w hw => ?_
 rw [List.mem_range] at hw
 rw [mask_get hn]; simp [hw]
theorem worlds_none : worldsTo 0#64 64 = [] := by decide +kernel
def forgS (X : BitVec 64) (i n : Nat) : BitVec 64 := bitsTo (fun w => X.getLsbD w || X.getLsbD (w ^^^ 2 ^ i)) n
theorem flip_0 : ∀ i, i < 6 → ∀ w, w < 64 → (w / 2 ^ i % 2 = 0 → (w ^^^ 2 ^ i = w + 2 ^ i ∧ (w + 2 ^ i) / 2 ^ i % 2 = 1)) := by decide +kernel
theorem flip_0' : ∀ i, i < 6 → ∀ w, w < 64 → (w / 2 ^ i % 2 = 0 → (w < 2 ^ i ∨ (w - 2 ^ i) / 2 ^ i % 2 = 1)) := by decide +kernel
theorem flip_1 : ∀ i, i < 6 → ∀ w, w < 64 → (w / 2 ^ i % 2 = 1 → (w ^^^ 2 ^ i = w - 2 ^ i ∧ (w + 2 ^ i) / 2 ^ i % 2 = 0)) := by decide +kernel
theorem flip_1' : ∀ i, i < 6 → ∀ w, w < 64 → (w / 2 ^ i % 2 = 1 → (2 ^ i ≤ w ∧ (w - 2 ^ i) / 2 ^ i % 2 = 0)) := by decide +kernel
theorem forget_eq {n i : Nat} (hn : n ≤ 6) (hi : i < n) (X : BitVec 64) :
 ((X &&& alW n) ||| (((X &&& alW n) &&& bitsTo (fun w => decide (w / 2 ^ i % 2 = 1)) 64) >>> (2 ^ i))) ||| (((X &&& alW n) &&& ~~~(bitsTo (fun w => decide (w / 2 ^ i % 2 = 1)) 64)) <<< (2 ^ i)) = forgS X i (2 ^ n) := by
 have h64 := pow6 hn
 refine bv_ext fun w hw => ?_
 have hback : (w ^^^ 2 ^ i) ^^^ 2 ^ i = w := by rw [Nat.xor_assoc, Nat.xor_self, Nat.xor_zero]
 have hp : 2 ^ i < 2 ^ n := Nat.pow_lt_pow_right (by omega) hi
 have hfl : w ^^^ 2 ^ i < 2 ^ n ↔ w < 2 ^ n := by
  constructor
  · intro h; have := Nat.xor_lt_two_pow h hp; rwa [hback] at this
  · intro h; exact Nat.xor_lt_two_pow h hp
 unfold forgS
 have hY := mask_get hn X
 have hO : ∀ v, (bitsTo (fun w => decide (w / 2 ^ i % 2 = 1)) 64).getLsbD v = (decide (v < 64) && decide (v / 2 ^ i % 2 = 1)) := fun v => bitsTo_get _ _ _ (Nat.le_refl _)
 rw [bitsTo_get _ _ _ h64]
 generalize X &&& alW n = Y at *
 generalize bitsTo (fun w => decide (w / 2 ^ i % 2 = 1)) 64 = O at *
 simp only [BitVec.getLsbD_or, BitVec.getLsbD_ushiftRight, BitVec.getLsbD_shiftLeft, BitVec.getLsbD_and, BitVec.getLsbD_not, hY, hO]
 have hw1 : decide (w < 64) = true := decide_eq_true hw
 rcases Nat.mod_two_eq_zero_or_one (w / 2 ^ i) with h | h
 · obtain ⟨a1, a2⟩ := flip_0 i (by omega) w hw h
   have a3 : 2 ^ i ≤ w → (w - 2 ^ i) / 2 ^ i % 2 = 1 := fun hle => (flip_0' i (by omega) w hw h).resolve_left (by omega)
   rw [a1] at hfl ⊢
   rw [Nat.add_comm (2 ^ i) w, a2]
   have hlt : w < 2 ^ n → w + 2 ^ i < 64 := fun h => by have := hfl.2 h; omega
   by_cases hwn : w < 2 ^ n
   · have b1 := hfl.2 hwn
     have b2 := hlt hwn
     by_cases hle : 2 ^ i ≤ w
     · have a4 := a3 hle
       simp [hwn, b1, b2, a4]
     · have : w < 2 ^ i := by omega
       simp [hwn, b1, b2, this]
   · have b1 : ¬ w + 2 ^ i < 2 ^ n := fun h => hwn (hfl.1 h)
     by_cases hle : 2 ^ i ≤ w
     · have a4 := a3 hle
       simp [hwn, b1, a4]
     · have : w < 2 ^ i := by omega
       simp [hwn, b1, this]
 · obtain ⟨a1, a2⟩ := flip_1 i (by omega) w hw h
   obtain ⟨a3, a4⟩ := flip_1' i (by omega) w hw h
   rw [a1] at hfl ⊢
   rw [Nat.add_comm (2 ^ i) w, a2]
   have b3 : ¬ w < 2 ^ i := by omega
   have b4 : w - 2 ^ i < 64 := Nat.lt_of_le_of_lt (Nat.sub_le _ _) hw
   by_cases hwn : w < 2 ^ n
   · have b1 := hfl.2 hwn
     simp [hwn, b1, b3, b4, a4, hw]
   · have b1 : ¬ w - 2 ^ i < 2 ^ n := fun h => hwn (hfl.1 h)
     simp [hwn, b1, b3, b4, a4, hw]
theorem mask_bits {n : Nat} (hn : n ≤ 6) (X : BitVec 64) : X &&& alW n = bitsTo X.getLsbD (2 ^ n) := bv_ext fun w hw => by
 rw [mask_get hn, bitsTo_get _ _ _ (pow6 hn), Bool.and_comm]
def forgetS (voc : List (List UInt8)) (X : BitVec 64) (i : Int) : BitVec 64 := if vocOk voc = false then 0#64 else if i < 0 then X &&& alW voc.length else forgS X i.toNat (2 ^ voc.length)
theorem int_xor {tb : Bool} {a b : Nat} (ha : a < 9223372036854775808) (hb : b < 9223372036854775808) : PO.eval (.bin .xor tb) [.int .i64 (a : Int), .int .i64 (b : Int)] = some [.int .i64 ((a ^^^ b : Nat) : Int)] := by
 show one1 (some (.int .i64 (IntKind.i64.wrap ((BitVec.ofInt 64 (a : Int) ^^^ BitVec.ofInt 64 (b : Int)).toNat : Int)))) = _
 have h1 : a ^^^ b < 2 ^ 63 := Nat.xor_lt_two_pow (by omega) (by omega)
 rw [ofIntN, ofIntN, BitVec.toNat_xor, BitVec.toNat_ofNat, BitVec.toNat_ofNat, Nat.mod_eq_of_lt (by omega), Nat.mod_eq_of_lt (by omega), wr (by omega) (by omega)]; rfl
end Am

namespace Am
open Go
set_option linter.unusedSimpArgs false
set_option linter.unusedVariables false
set_option linter.unusedSectionVars false
theorem validate_zero {f : F} (h : validate f = 0) : f.size ≤ 600 ∧ f.depth ≤ 20 ∧ good f = true := by
 unfold validate at h
 split at h
 · simp at h
 · rename_i h1
   simp only [Bool.or_eq_true, decide_eq_true_eq, not_or] at h1
   split at h
   · simp at h
   · rename_i h2
     split at h
     · simp at h
     · rename_i h3
       refine ⟨by omega, by omega, ?_⟩
       simp only [Bool.not_eq_true, Bool.not_eq_false'] at h2 h3
       simp [good, h2, h3]
end Am

namespace Am
open Go
set_option linter.unusedSimpArgs false
set_option linter.unusedVariables false
set_option linter.unusedSectionVars false
end Am

namespace Am
open Go
set_option linter.unusedSimpArgs false
set_option linter.unusedVariables false
set_option linter.unusedSectionVars false
section
variable {n : Nat} (hn : n ≤ 64) {K A B M X Y : BitVec 64} {d : Int} {v : Int}
include hn
end
end Am
