/- Plain programs of the functions of the program and lemmas about what they compute. -/
import Derived.Test.YtefkehflmlikmaaGreatDoorAm5
import Derived.Lib.TrailingZeros
set_option linter.unusedSimpArgs false
set_option linter.unusedVariables false
set_option linter.unusedSectionVars false
namespace Am
open Go
set_option linter.unusedSimpArgs false
set_option linter.unusedVariables false
set_option linter.unusedSectionVars false
theorem val_own1 (ys ws : List (List UInt8)) : ∀ f : F, good f = true → (∀ s ∈ F.atomL f, ys.contains s = ws.contains s) → F.val ys f = F.val ws f := by
 refine bySizeF fun f ih hf h => ?_
 have hargs := ((good_iff f).1 hf).2.2
 rw [F.val_eq ys f, F.val_eq ws f]
 rw [F.atomL_eq] at h
 by_cases ho : f.op = 3
 · have ha := atom_noargs hf ho
   rw [if_pos ⟨ho, by simp [ha]⟩] at h
   simp only [ho, valO, Int.reduceEq, if_false, if_true]
   exact h _ (by simp)
 · rw [if_neg (fun x => ho x.1)] at h
   have hm : f.args.map (F.val ys) = f.args.map (F.val ws) := by
    apply List.map_congr_left
    intro x hx
    refine ih x hx (hargs x hx) fun s hs => h s ?_
    have : ∀ l : List F, x ∈ l → s ∈ F.atomLs l := by
     intro l
     induction l with
     | nil => intro h; simp at h
     | cons y l ih =>
      intro h
      simp only [F.atomLs, List.mem_append]
      rcases List.mem_cons.1 h with rfl | h
      · exact .inl hs
      · exact .inr (ih h)
    exact this _ hx
   rw [hm]
   unfold valO
   simp only [ho, if_false]
namespace F
mutual
theorem beq_true : ∀ f g : F, beq f g = true → f = g
 | mk o s a, mk o' s' a', h => by
  simp only [beq, Bool.and_eq_true, decide_eq_true_eq] at h
  obtain ⟨rfl, rfl, h3, h4⟩ := h
  rw [beqs_true a a' h3 h4]
theorem beqs_true : ∀ l l' : List F, l.length = l'.length → beqs l l' = true → l = l'
 | [], [], _, _ => rfl
 | [], _ :: _, h, _ => by simp at h
 | x :: l, [], h, _ => by simp at h
 | x :: l, y :: l', h, h2 => by
  simp only [beqs, Bool.and_eq_true] at h2
  rw [beq_true x y h2.1, beqs_true l l' (by simpa using h) h2.2]
end
end F
def pr (o : Int) (f g : F) : F := F.mk o [] [f, g]
def atF (a : List UInt8) : F := F.mk 3 a []
def noF1 (a : List UInt8) : F := F.mk 4 [] [atF a]
def joinF (a : List UInt8) (t f : F) : F :=
 if F.beq t f = true then t else if t.op = 1 ∧ f.op = 2 then atF a else if t.op = 1 then pr 6 (atF a) f else if t.op = 2 ∧ f.op = 1 then noF1 a else if t.op = 2 then pr 5 (noF1 a) f else
 if f.op = 1 then pr 6 (noF1 a) t else if f.op = 2 then pr 5 (atF a) t else pr 6 (pr 5 (atF a) t) (pr 5 (noF1 a) f)
def hf (S : BitVec 64) (b i : Nat) : BitVec 64 := bitsTo (fun u => decide (2 * u + b < i) && S.getLsbD (2 * u + b)) 64
def thy : List (List UInt8) → BitVec 64 → F
 | [], S => if S &&& bitsTo (fun _ => true) (2 ^ 0) = 0#64 then F.mk 2 [] [] else F.mk 1 [] []
 | a :: l, S => if S &&& bitsTo (fun _ => true) (2 ^ (l.length + 1)) = 0#64 then F.mk 2 [] [] else if S &&& bitsTo (fun _ => true) (2 ^ (l.length + 1)) = bitsTo (fun _ => true) (2 ^ (l.length + 1)) then F.mk 1 [] [] else
  joinF a (thy l (hf S 1 (2 ^ (l.length + 1)))) (thy l (hf S 0 (2 ^ (l.length + 1))))
theorem hf_get {S : BitVec 64} {b N u : Nat} (h : 2 * u + b < N) (hu : u < 64) : (hf S b N).getLsbD u = S.getLsbD (2 * u + b) := by
 unfold hf
 rw [bitsTo_get _ _ _ (Nat.le_refl _)]
 simp [h, hu]
theorem val_pr5 (ys : List (List UInt8)) (f g : F) : F.val ys (pr 5 f g) = (F.val ys f && F.val ys g) := by
 rw [F.val_eq]; simp [pr, valO, F.op_mk, F.args_mk]
theorem val_pr6 (ys : List (List UInt8)) (f g : F) : F.val ys (pr 6 f g) = (F.val ys f || F.val ys g) := by
 rw [F.val_eq]; simp [pr, valO, F.op_mk, F.args_mk]
theorem val_at (ys : List (List UInt8)) (a : List UInt8) : F.val ys (atF a) = ys.contains a := by
 rw [F.val_eq]; simp [atF, valO, F.op_mk, F.name_mk]
theorem val_no (ys : List (List UInt8)) (a : List UInt8) : F.val ys (noF1 a) = !ys.contains a := by
 rw [F.val_eq]; simp [noF1, valO, F.op_mk, F.args_mk, val_at]
theorem val_op1 (ys : List (List UInt8)) {f : F} (h : f.op = 1) : F.val ys f = true := by rw [F.val_eq, valO]; simp [h]
theorem val_op2 (ys : List (List UInt8)) {f : F} (h : f.op = 2) : F.val ys f = false := by rw [F.val_eq, valO]; simp [h]
theorem val_join (ys : List (List UInt8)) (a : List UInt8) (t f : F) : F.val ys (joinF a t f) = if ys.contains a = true then F.val ys t else F.val ys f := by
 unfold joinF
 by_cases h1 : F.beq t f = true
 · rw [if_pos h1, F.beq_true t f h1]; simp
 rw [if_neg h1]
 by_cases h2 : t.op = 1 ∧ f.op = 2
 · rw [if_pos h2, val_at, val_op1 ys h2.1, val_op2 ys h2.2]; cases ys.contains a <;> rfl
 rw [if_neg h2]
 by_cases h3 : t.op = 1
 · rw [if_pos h3, val_pr6, val_at, val_op1 ys h3]; cases ys.contains a <;> simp
 rw [if_neg h3]
 by_cases h4 : t.op = 2 ∧ f.op = 1
 · rw [if_pos h4, val_no, val_op2 ys h4.1, val_op1 ys h4.2]; cases ys.contains a <;> rfl
 rw [if_neg h4]
 by_cases h5 : t.op = 2
 · rw [if_pos h5, val_pr5, val_no, val_op2 ys h5]; cases ys.contains a <;> simp
 rw [if_neg h5]
 by_cases h6 : f.op = 1
 · rw [if_pos h6, val_pr6, val_no, val_op1 ys h6]; cases ys.contains a <;> simp
 rw [if_neg h6]
 by_cases h7 : f.op = 2
 · rw [if_pos h7, val_pr5, val_at, val_op2 ys h7]; cases ys.contains a <;> simp
 rw [if_neg h7, val_pr6, val_pr5, val_pr5, val_at, val_no]; cases ys.contains a <;> simp
def Thy (voc : List (List UInt8)) (f : F) : Prop := good f = true ∧ f.size + 6 ≤ 7 * 2 ^ voc.length ∧ f.depth ≤ 2 * voc.length + 1 ∧ ∀ s ∈ F.atomL f, s ∈ voc
theorem thy_const (voc : List (List UInt8)) {o : Int} (h : o = 1 ∨ o = 2) : Thy voc (F.mk o [] []) := by
 have hp : 0 < 2 ^ voc.length := Nat.pow_pos (by omega)
 refine ⟨by rcases h with rfl | rfl <;> rfl, by simp only [F.size, F.sizes]; omega, by simp [F.depth, F.depths], ?_⟩
 rcases h with rfl | rfl <;> simp [F.atomL, F.atomLs]
theorem good_nd {o : Int} {s : List UInt8} {l : List F} (h1 : counted (F.mk o s l) = true) (h2 : named (F.mk o s l) = true) (h3 : ∀ g ∈ l, good g = true) : good (F.mk o s l) = true := by
 unfold good
 rw [F.allF_eq, F.allF_eq named, h1, h2, F.args_mk, Bool.true_and, Bool.true_and, Bool.and_eq_true, allFs_all, allFs_all, List.all_eq_true, List.all_eq_true]
 refine ⟨fun g hg => ?_, fun g hg => ?_⟩
 · have := h3 g hg; simp only [good, Bool.and_eq_true] at this; exact this.1
 · have := h3 g hg; simp only [good, Bool.and_eq_true] at this; exact this.2
theorem good_at {a : List UInt8} (h : validName a = true) : good (atF a) = true := good_nd rfl (by simp [named, F.op_mk, F.name_mk, h]) (by simp)
theorem good_no {a : List UInt8} (h : validName a = true) : good (noF1 a) = true := good_nd rfl rfl (by simp [good_at h])
theorem good_pr {o : Int} {f g : F} (ho : o = 5 ∨ o = 6) (hf : good f = true) (hg : good g = true) : good (pr o f g) = true := by
 rcases ho with rfl | rfl
 · exact good_nd rfl rfl (by simp [hf, hg])
 · exact good_nd rfl rfl (by simp [hf, hg])
theorem atomL_pr {o : Int} (ho : o ≠ 3) (f g : F) : F.atomL (pr o f g) = F.atomL f ++ F.atomL g := by
 simp [pr, F.atomL, F.atomLs]
theorem atomL_at (a : List UInt8) : F.atomL (atF a) = [a] := by simp [atF, F.atomL]
theorem atomL_no (a : List UInt8) : F.atomL (noF1 a) = [a] := by simp [noF1, F.atomL, F.atomLs, atomL_at]
theorem thy_join {a : List UInt8} {l : List (List UInt8)} (ha : validName a = true) {t f : F} (ht : Thy l t) (hf : Thy l f) : Thy (a :: l) (joinF a t f) := by
 obtain ⟨t1, t2, t3, t4⟩ := ht
 obtain ⟨f1, f2, f3, f4⟩ := hf
 have hp : 2 ^ (a :: l).length = 2 * 2 ^ l.length := by rw [List.length_cons, Nat.pow_succ]; omega
 have hp0 : 0 < 2 ^ l.length := Nat.pow_pos (by omega)
 have s5 : ∀ (o : Int) (f g : F), (pr o f g).size = 1 + (f.size + g.size) := fun o f g => by simp [pr, F.size, F.sizes]
 have d5 : ∀ (o : Int) (f g : F), (pr o f g).depth = max (1 + f.depth) (1 + g.depth) := fun o f g => by simp [pr, F.depth, F.depths]
 have s1 : (atF a).size = 1 := by simp [atF, F.size, F.sizes]
 have s2 : (noF1 a).size = 2 := by simp [noF1, F.size, F.sizes, s1]
 have e1 : (atF a).depth = 0 := by simp [atF, F.depth, F.depths]
 have e2 : (noF1 a).depth = 1 := by simp [noF1, F.depth, F.depths, e1]
 have hl : (a :: l).length = l.length + 1 := rfl
 have hc : ∀ s ∈ F.atomL t, s ∈ a :: l := fun s hs => List.mem_cons_of_mem _ (t4 s hs)
 have hd : ∀ s ∈ F.atomL f, s ∈ a :: l := fun s hs => List.mem_cons_of_mem _ (f4 s hs)
 have ga := good_at ha
 have gn := good_no ha
 have h6 : ∀ f g : F, F.atomL (pr 6 f g) = F.atomL f ++ F.atomL g := atomL_pr (by decide)
 have h5 : ∀ f g : F, F.atomL (pr 5 f g) = F.atomL f ++ F.atomL g := atomL_pr (by decide)
 unfold joinF Thy
 rw [hp, hl]
 (repeat' split)
 · exact ⟨t1, by omega, by omega, hc⟩
 · exact ⟨ga, by omega, by omega, by rw [atomL_at]; simp⟩
 · exact ⟨good_pr (.inr rfl) ga f1, by rw [s5]; omega, by rw [d5]; omega, by rw [h6, atomL_at]; simpa using hd⟩
 · exact ⟨gn, by omega, by omega, by rw [atomL_no]; simp⟩
 · exact ⟨good_pr (.inl rfl) gn f1, by rw [s5]; omega, by rw [d5]; omega, by rw [h5, atomL_no]; simpa using hd⟩
 · exact ⟨good_pr (.inr rfl) gn t1, by rw [s5]; omega, by rw [d5]; omega, by rw [h6, atomL_no]; simpa using hc⟩
 · exact ⟨good_pr (.inl rfl) ga t1, by rw [s5]; omega, by rw [d5]; omega, by rw [h5, atomL_at]; simpa using hc⟩
 · refine ⟨good_pr (.inr rfl) (good_pr (.inl rfl) ga t1) (good_pr (.inl rfl) gn f1), by rw [s5, s5, s5]; omega, by rw [d5, d5, d5]; omega, fun s hs => ?_⟩
   rw [h6, h5, h5, atomL_at, atomL_no] at hs
   simp only [List.mem_append, List.mem_singleton] at hs
   rcases hs with (rfl | hs) | (rfl | hs)
   · simp
   · exact hc s hs
   · simp
   · exact hd s hs
theorem thy_ok : ∀ {voc : List (List UInt8)}, okNames voc = true → ∀ S : BitVec 64, Thy voc (thy voc S)
 | [], _, S => by
  unfold thy
  split
  · exact thy_const [] (.inr rfl)
  · exact thy_const [] (.inl rfl)
 | a :: l, h, S => by
  unfold thy
  split
  · exact thy_const _ (.inr rfl)
  · split
    · exact thy_const _ (.inl rfl)
    · exact thy_join (by simp only [okNames, Bool.and_eq_true] at h; exact h.1) (thy_ok (okNames_tail h) _) (thy_ok (okNames_tail h) _)
theorem val_cons {a : List UInt8} {l : List (List UInt8)} (h : okNames (a :: l) = true) {f : F} (hf : Thy l f) (ys : List (List UInt8)) : F.val (a :: ys) f = F.val ys f := by
 refine val_own1 _ _ f hf.1 fun s hs => ?_
 have := (List.pairwise_cons.1 (okNames_asc h).1).1 s (hf.2.2.2 s hs)
 have hne : s ≠ a := fun e => by subst e; exact List.lt_irrefl _ this
 simp [hne]
theorem thy_val : ∀ {voc : List (List UInt8)}, okNames voc = true → voc.length ≤ 6 → ∀ (S : BitVec 64) (w : Nat), w < 2 ^ voc.length → F.val (yesN voc w) (thy voc S) = S.getLsbD w
 | [], _, _, S, w, hw => by
  have hw0 : w = 0 := by simpa using hw
  subst hw0
  have h0 : S &&& bitsTo (fun _ => true) (2 ^ 0) = 0#64 ↔ S.getLsbD 0 = false := by
   rw [bv_zero_iff]
   constructor
   · intro h
     have := h 0 (by omega)
     rw [BitVec.getLsbD_and, bitsTo_get _ _ _ (by decide)] at this
     simpa using this
   · intro h v hv
     rw [BitVec.getLsbD_and, bitsTo_get _ _ _ (by decide)]
     by_cases hv0 : v = 0
     · subst hv0; rw [h]; rfl
     · simp [hv0]
  unfold thy
  by_cases h : S &&& bitsTo (fun _ => true) (2 ^ 0) = 0#64
  · rw [if_pos h, val_op2 _ rfl, h0.1 h]
  · rw [if_neg h, val_op1 _ rfl]
    cases hs : S.getLsbD 0 with
    | true => rfl
    | false => exact absurd (h0.2 hs) h
 | a :: l, h, h6, S, w, hw => by
  have hN : 2 ^ (l.length + 1) ≤ 64 := pow6 h6
  have hw' : w < 2 ^ (l.length + 1) := hw
  have hand : ∀ v, (S &&& bitsTo (fun _ => true) (2 ^ (l.length + 1))).getLsbD v = (S.getLsbD v && decide (v < 2 ^ (l.length + 1))) := fun v => by
   rw [BitVec.getLsbD_and, bitsTo_get _ _ _ hN]; simp
  unfold thy
  by_cases h1 : S &&& bitsTo (fun _ => true) (2 ^ (l.length + 1)) = 0#64
  · rw [if_pos h1, val_op2 _ rfl]
    have := hand w
    rw [h1] at this
    simpa [hw'] using this
  rw [if_neg h1]
  by_cases h2 : S &&& bitsTo (fun _ => true) (2 ^ (l.length + 1)) = bitsTo (fun _ => true) (2 ^ (l.length + 1))
  · rw [if_pos h2, val_op1 _ rfl]
    have := hand w
    rw [h2, bitsTo_get _ _ _ hN] at this
    simpa [hw'] using this
  rw [if_neg h2, val_join]
  have hl := okNames_tail h
  have h6' : l.length ≤ 6 := by simp only [List.length_cons] at h6; omega
  have hpw : 2 ^ (l.length + 1) = 2 * 2 ^ l.length := by rw [Nat.pow_succ]; omega
  have hu : w / 2 < 2 ^ l.length := by omega
  have hac : (yesN (a :: l) w).contains a = decide (w % 2 = 1) := by
   have := yesN_mem (okNames_asc h).1 (i := 0) (w := w) (by simp)
   simp only [List.getElem_cons_zero, Nat.pow_zero, Nat.div_one] at this
   cases hd : decide (w % 2 = 1) with
   | true => rw [decide_eq_true_eq] at hd; simpa using this.2 hd
   | false => rw [decide_eq_false_iff_not] at hd; simpa using fun h => hd (this.1 h)
  rw [hac]
  rcases Nat.mod_two_eq_zero_or_one w with hb | hb
  · rw [if_neg (by simp [hb])]
    have hy : yesN (a :: l) w = yesN l (w / 2) := by simp [yesN, hb]
    rw [hy, thy_val hl h6' _ _ hu, hf_get (by omega) (by omega)]
    congr 1; omega
  · rw [if_pos (by simp [hb])]
    have hy : yesN (a :: l) w = a :: yesN l (w / 2) := by simp [yesN, hb]
    rw [hy, val_cons h (thy_ok hl _), thy_val hl h6' _ _ hu, hf_get (by omega) (by omega)]
    congr 1; omega
end Am

namespace Am
open Go
set_option linter.unusedSimpArgs false
set_option linter.unusedVariables false
set_option linter.unusedSectionVars false
abbrev has (X : BitVec 64) (w : Nat) : Prop := X.getLsbD w = true
theorem has_lt {X : BitVec 64} {w : Nat} (h : has X w) : w < 64 := by
 refine Decidable.byContradiction fun hn => ?_
 have := BitVec.getLsbD_of_ge X w (by omega)
 rw [has, this] at h; cases h
theorem has_and {X Y : BitVec 64} {w : Nat} : has (X &&& Y) w ↔ has X w ∧ has Y w := by simp [has]
theorem has_diff {X Y : BitVec 64} {w : Nat} : has (X &&& ~~~Y) w ↔ has X w ∧ ¬ has Y w := by
 constructor
 · intro h
   have hw := has_lt h
   simpa [has, hw] using h
 · rintro ⟨h1, h2⟩
   have hw := has_lt h1
   simpa [has, hw, h1] using h2
theorem has_bits {p : Nat → Bool} {n w : Nat} (hn : n ≤ 64) : has (bitsTo p n) w ↔ w < n ∧ p w = true := by rw [has, bitsTo_get _ _ _ hn]; simp
theorem set_eq {X Y : BitVec 64} (h : ∀ w, has X w ↔ has Y w) : X = Y := bv_ext fun w _ => by
 have := h w
 cases hx : X.getLsbD w <;> cases hy : Y.getLsbD w <;> simp [has, hx, hy] at this <;> rfl
theorem set_zero {X : BitVec 64} : X = 0#64 ↔ ∀ w, ¬ has X w := by
 constructor
 · rintro rfl w h; simp [has] at h
 · intro h; exact set_eq fun w => ⟨fun hx => absurd hx (h w), fun h0 => by simp [has] at h0⟩
theorem set_ne {X : BitVec 64} (h : X ≠ 0#64) : ∃ w, has X w := Classical.byContradiction fun hn => h (set_zero.2 fun w hw => hn ⟨w, hw⟩)
theorem min_ex (r : Nat → Int) (P : Nat → Prop) : ∀ N : Nat, (∃ v, v < N ∧ P v) → ∃ w, w < N ∧ P w ∧ ∀ v, v < N → P v → r w ≤ r v
 | 0, ⟨v, h, _⟩ => by omega
 | N + 1, ⟨v, hv, hp⟩ => by
  by_cases hN : ∃ v, v < N ∧ P v
  · obtain ⟨w, h1, h2, h3⟩ := min_ex r P N hN
    by_cases hc : P N ∧ r N < r w
    · refine ⟨N, by omega, hc.1, fun u hu hpu => ?_⟩
      by_cases huN : u = N
      · subst huN; omega
      · have := h3 u (by omega) hpu; omega
    · refine ⟨w, by omega, h2, fun u hu hpu => ?_⟩
      by_cases huN : u = N
      · subst huN
        have : ¬ r u < r w := fun h => hc ⟨hpu, h⟩
        omega
      · exact h3 u (by omega) hpu
  · have : v = N := Classical.byContradiction fun h => hN ⟨v, by omega, hp⟩
    subst this
    refine ⟨v, by omega, hp, fun u hu hpu => ?_⟩
    by_cases huN : u = v
    · subst huN; omega
    · exact absurd ⟨u, by omega, hpu⟩ hN
structure Lst (N : Nat) (r : Nat → Int) (L : BitVec 64 → BitVec 64) : Prop where
 le : N ≤ 64
 get : ∀ S w, has (L S) w ↔ w < N ∧ has S w ∧ ∀ v, v < N → has S v → r w ≤ r v
theorem Lst.ex {N : Nat} {r : Nat → Int} {L : BitVec 64 → BitVec 64} (h : Lst N r L) {S : BitVec 64} {v : Nat} (hv : v < N) (hs : has S v) : ∃ w, has (L S) w := by
 obtain ⟨w, h1, h2, h3⟩ := min_ex r (fun v => has S v) N ⟨v, hv, hs⟩
 exact ⟨w, (h.get S w).2 ⟨h1, h2, h3⟩⟩
section
variable {N : Nat} {r : Nat → Int} {L : BitVec 64 → BitVec 64} (hL : Lst N r L)
include hL
variable {A M K : BitVec 64} (hA : ∀ w, has A w ↔ w < N) (hM : ∀ w, has M w → w < N) (hK : ∀ w, has K w → w < N)
include hA
theorem Lst.rest (w : Nat) : has (L (A &&& ~~~M)) w ↔ w < N ∧ ¬ has M w ∧ ∀ v, v < N → ¬ has M v → r w ≤ r v := by
 rw [hL.get, has_diff]
 constructor
 · rintro ⟨h1, ⟨_, h2⟩, h3⟩
   exact ⟨h1, h2, fun v hv hm => h3 v hv (has_diff.2 ⟨(hA v).2 hv, hm⟩)⟩
 · rintro ⟨h1, h2, h3⟩
   exact ⟨h1, ⟨(hA w).2 h1, h2⟩, fun v hv hm => h3 v hv (has_diff.1 hm).2⟩
end
def Wth (N : Nat) (r : Nat → Int) (M W : BitVec 64) : Prop := ∀ w, has W w ↔ w < N ∧ ((∃ u, u < N ∧ ¬ has M u) → ∀ v, v < N → ¬ has M v → r w ≤ r v) ∧ ((∀ u, u < N → has M u) → ∀ v, v < N → r w ≤ r v)
section
variable {N : Nat} {r : Nat → Int} {L : BitVec 64 → BitVec 64} (hL : Lst N r L) {A M K W V : BitVec 64} (hA : ∀ w, has A w ↔ w < N) (hM : ∀ w, has M w → w < N) (hW : Wth N r M W) (hV : Wth N r K V)
include hL hW
end
end Am

namespace Am
open Go
set_option linter.unusedSimpArgs false
set_option linter.unusedVariables false
set_option linter.unusedSectionVars false
theorem models_good {voc : List (List UInt8)} {f : F} (hv : vocOk voc = true) (hg : good f = true) (hs : f.size ≤ 600) (hd : f.depth ≤ 20) (ha : ∀ s ∈ F.atomL f, s ∈ voc) : modelsE voc f = 0 ∧ modelsS voc f = modN voc f (2 ^ voc.length) := by
 have h1 : validate f = 0 := by
  have h1 : ¬ (f.size : Int) > 600 := by omega
  have h2 : ¬ (f.depth : Int) > 20 := by omega
  simp only [good, Bool.and_eq_true] at hg
  simp [validate, h1, h2, hg.1, hg.2]
 have h2 : atomsIn voc f = true := by
  unfold atomsIn
  rw [List.all_eq_true]
  intro s hs
  have := ha s ((canon_mem _ s).1 hs)
  simpa using this
 have h3 : modelsE voc f = 0 := by simp [modelsE, hv, h1, h2]
 exact ⟨h3, by rw [modelsS, if_pos h3]⟩
theorem letter_voc {n : Nat} (hn : n ≤ 26) {s : List UInt8} (h : letter n s = true) : s ∈ vocN n := by
 unfold letter at h
 split at h
 · rename_i c
   simp only [Bool.and_eq_true, decide_eq_true_eq] at h
   refine List.mem_map.2 ⟨c.toNat - 97, List.mem_range.2 (by omega), ?_⟩
   have : (97 + ((c.toNat - 97 : Nat) : Int)).toNat = c.toNat := by omega
   rw [this]
   simp
 · cases h
theorem lettered_atoms {n : Nat} : ∀ f : F, F.allF (lettered n) f = true → ∀ s ∈ F.atomL f, letter n s = true := by
 refine bySizeF fun f ih h s hs => ?_
 rw [F.allF_eq, Bool.and_eq_true] at h
 rw [F.atomL_eq] at hs
 split at hs
 · rename_i hc
   simp only [List.mem_singleton] at hs
   subst hs
   have := h.1
   unfold lettered at this
   simpa [hc.1] using this
 · have key : ∀ l : List F, (∀ g ∈ l, g ∈ f.args) → ∀ x ∈ F.atomLs l, letter n x = true := by
    intro l
    induction l with
    | nil => intro _ x hx; simp [F.atomLs] at hx
    | cons g l ihl =>
     intro hm x hx
     simp only [F.atomLs, List.mem_append] at hx
     rcases hx with hx | hx
     · exact ih g (hm g (by simp)) (allFs_mem h.2 g (hm g (by simp))) x hx
     · exact ihl (fun g hg => hm g (by simp [hg])) x hx
   exact key f.args (fun g hg => hg) s hs
theorem made_models {n d : Nat} (hn : n ≤ 6) (hd : d ≤ 3) {f : F} (h : Made n d f) : good f = true ∧ f.size ≤ 256 ∧ f.depth ≤ 3 ∧ (∀ s ∈ F.atomL f, s ∈ vocN n) ∧ modelsE (vocN n) f = 0 ∧ modelsS (vocN n) f = modN (vocN n) f (2 ^ n) := by
 obtain ⟨h1, h2, h3, h4⟩ := h
 have hs : f.size ≤ 256 := Nat.le_trans h3 (Nat.pow_le_pow_right (by omega) (by omega : d + 1 ≤ 4))
 have ha : ∀ s ∈ F.atomL f, s ∈ vocN n := fun s hs => letter_voc (by omega) (lettered_atoms f h4 s hs)
 have := models_good (vocN_ok hn) h1 (by omega) (by omega) ha
 rw [vocN_len] at this
 exact ⟨h1, hs, by omega, ha, this⟩
end Am

namespace Am
open Go
set_option linter.unusedSimpArgs false
set_option linter.unusedVariables false
abbrev alW (n : Nat) : BitVec 64 := bitsTo (fun _ => true) (2 ^ n)
def Sub (n : Nat) (X : BitVec 64) : Prop := ∀ w, has X w → w < 2 ^ n
theorem sub_and {n : Nat} (hn : n ≤ 6) {X : BitVec 64} (h : Sub n X) : X &&& alW n = X := set_eq fun w => by
 rw [has_and, has_bits (pow6 hn)]
 exact ⟨fun h => h.1, fun hw => ⟨hw, h w hw, rfl⟩⟩
theorem sub_of_and {n : Nat} (hn : n ≤ 6) (X : BitVec 64) : Sub n (X &&& alW n) := fun w hw => by
 rw [has_and, has_bits (pow6 hn)] at hw
 exact hw.2.1
theorem hf_has {X : BitVec 64} {b n u : Nat} (hn : n ≤ 5) (hb : b < 2) : has (hf X b (2 ^ (n + 1))) u ↔ 2 * u + b < 2 ^ (n + 1) ∧ has X (2 * u + b) := by
 have hp := pow6 (show n + 1 ≤ 6 by omega)
 unfold hf
 rw [has_bits (Nat.le_refl _)]
 simp only [Bool.and_eq_true, decide_eq_true_eq, has]
 constructor
 · exact fun h => h.2
 · exact fun h => ⟨by omega, h⟩
theorem hf_sub {X : BitVec 64} {b n : Nat} (hn : n ≤ 5) (hb : b < 2) : Sub n (hf X b (2 ^ (n + 1))) := fun u hu => by
 have := ((hf_has hn hb).1 hu).1
 rw [Nat.pow_succ] at this
 omega
theorem join_op {a : List UInt8} {t f : F} {o : Int} (h : (joinF a t f).op = o) (ho : o = 1 ∨ o = 2) : F.beq t f = true ∧ t.op = o := by
 unfold joinF at h
 by_cases h1 : F.beq t f = true
 · rw [if_pos h1] at h; exact ⟨h1, h⟩
 rw [if_neg h1] at h
 exfalso
 repeat' split at h
 all_goals (simp only [atF, noF1, pr, F.op_mk] at h; omega)
theorem thy_op : ∀ (voc : List (List UInt8)), voc.length ≤ 6 → ∀ X : BitVec 64, Sub voc.length X → ((thy voc X).op = 1 → X = alW voc.length) ∧ ((thy voc X).op = 2 → X = 0#64)
 | [], _, X, hX => by
  have e := sub_and (n := 0) (by omega) hX
  unfold alW at e
  unfold thy
  rw [e]
  by_cases h0 : X = 0#64
  · rw [if_pos h0]; simp [F.op_mk, h0]
  · rw [if_neg h0]
    refine ⟨fun _ => ?_, fun h => by simp [F.op_mk] at h⟩
    obtain ⟨w, hw⟩ := set_ne h0
    have hw0 : w = 0 := by have := hX w hw; simpa using this
    subst hw0
    refine set_eq fun v => ?_
    unfold alW
    rw [has_bits (by simp)]
    constructor
    · exact fun hv => ⟨hX v hv, rfl⟩
    · rintro ⟨hv, _⟩
      have : v = 0 := by simpa using hv
      rw [this]; exact hw
 | a :: l, h6, X, hX => by
  have hl : l.length ≤ 5 := by simp only [List.length_cons] at h6; omega
  have e := sub_and (n := l.length + 1) (by omega) hX
  unfold alW at e
  unfold thy
  rw [e]
  show (_ → X = alW (l.length + 1)) ∧ _
  by_cases h0 : X = 0#64
  · rw [if_pos h0]; simp [F.op_mk, h0]
  rw [if_neg h0]
  by_cases h1 : X = bitsTo (fun _ => true) (2 ^ (l.length + 1))
  · rw [if_pos h1]; exact ⟨fun _ => h1, fun h => by simp [F.op_mk] at h⟩
  rw [if_neg h1]
  have i1 := thy_op l (by omega) (hf X 1 (2 ^ (l.length + 1))) (hf_sub hl (by omega))
  have i0 := thy_op l (by omega) (hf X 0 (2 ^ (l.length + 1))) (hf_sub hl (by omega))
  have hp : 2 ^ (l.length + 1) = 2 * 2 ^ l.length := by rw [Nat.pow_succ]; omega
  have back : ∀ w, has X w → ∃ u b, b < 2 ∧ w = 2 * u + b ∧ has (hf X b (2 ^ (l.length + 1))) u := fun w hw =>
   ⟨w / 2, w % 2, by omega, by omega, (hf_has hl (by omega)).2 ⟨by have := hX w hw; simp only [List.length_cons] at this; omega, by rw [show 2 * (w / 2) + w % 2 = w by omega]; exact hw⟩⟩
  constructor
  · intro ho
    obtain ⟨hb, ht⟩ := join_op ho (.inl rfl)
    have hbe := F.beq_true _ _ hb
    have e1 := i1.1 ht
    have e0 := i0.1 (hbe ▸ ht)
    refine set_eq fun w => ?_
    unfold alW
    rw [has_bits (pow6 (by omega))]
    constructor
    · exact fun hw => ⟨hX w hw, rfl⟩
    · rintro ⟨hw, _⟩
      have key : ∀ b, b < 2 → w % 2 = b → hf X b (2 ^ (l.length + 1)) = alW l.length → has X w := fun b hb hwb he => by
       have h2 : has (hf X b (2 ^ (l.length + 1))) (w / 2) := by
        rw [he]; unfold alW; rw [has_bits (pow6 (by omega))]; exact ⟨by omega, rfl⟩
       have := ((hf_has hl hb).1 h2).2
       rwa [show 2 * (w / 2) + b = w by omega] at this
      by_cases hw2 : w % 2 = 1
      · exact key 1 (by omega) hw2 e1
      · exact key 0 (by omega) (by omega) e0
  · intro ho
    obtain ⟨hb, ht⟩ := join_op ho (.inr rfl)
    have hbe := F.beq_true _ _ hb
    have e1 := i1.2 ht
    have e0 := i0.2 (hbe ▸ ht)
    refine set_zero.2 fun w hw => ?_
    obtain ⟨u, b, hb2, _, hu⟩ := back w hw
    obtain rfl | rfl : b = 0 ∨ b = 1 := by omega
    · rw [e0] at hu; exact set_zero.1 rfl u hu
    · rw [e1] at hu; exact set_zero.1 rfl u hu
theorem thy_at0 {voc : List (List UInt8)} : (thy voc 0#64).op = 2 := by
 cases voc with
 | nil => unfold thy; rw [if_pos (by simp)]; rfl
 | cons a l => unfold thy; rw [if_pos (by simp)]; rfl
theorem alW_ne {n : Nat} (hn : n ≤ 6) : alW n ≠ 0#64 := fun h => (set_zero.1 h) 0 (by unfold alW; rw [has_bits (pow6 hn)]; exact ⟨Nat.two_pow_pos n, rfl⟩)
theorem thy_at1 {voc : List (List UInt8)} (h6 : voc.length ≤ 6) : (thy voc (alW voc.length)).op = 1 := by
 cases voc with
 | nil =>
  have := alW_ne (n := 0) (by omega)
  unfold alW at this ⊢
  unfold thy
  rw [if_neg (by simp only [List.length_nil, BitVec.and_self]; exact this)]; rfl
 | cons a l =>
  have := alW_ne (n := l.length + 1) h6
  unfold alW at this ⊢
  unfold thy
  simp only [List.length_cons, BitVec.and_self]
  rw [if_neg this, if_pos trivial]; rfl
theorem thy_op1 {voc : List (List UInt8)} (h6 : voc.length ≤ 6) {X : BitVec 64} (hX : Sub voc.length X) : (thy voc X).op = 1 ↔ X = alW voc.length :=
 ⟨(thy_op voc h6 X hX).1, fun h => by rw [h]; exact thy_at1 h6⟩
theorem thy_op2 {voc : List (List UInt8)} (h6 : voc.length ≤ 6) {X : BitVec 64} (hX : Sub voc.length X) : (thy voc X).op = 2 ↔ X = 0#64 :=
 ⟨(thy_op voc h6 X hX).2, fun h => by rw [h]; exact thy_at0⟩
theorem thy_inj {voc : List (List UInt8)} (hv : okNames voc = true) (h6 : voc.length ≤ 6) {X Y : BitVec 64} (hX : Sub voc.length X) (hY : Sub voc.length Y) (h : thy voc X = thy voc Y) : X = Y := set_eq fun w => by
 by_cases hw : w < 2 ^ voc.length
 · have a := thy_val hv h6 X w hw
   have b := thy_val hv h6 Y w hw
   rw [h] at a
   unfold has
   rw [← a, ← b]
 · exact ⟨fun h => absurd (hX w h) hw, fun h => absurd (hY w h) hw⟩
def sp (X : BitVec 64) (b i : Nat) : BitVec 64 := bitsTo (fun u => X.getLsbD (2 * u + b)) i
theorem sp_hf {X : BitVec 64} {b n : Nat} (hn : n ≤ 5) (hb : b < 2) (hX : Sub (n + 1) X) : sp X b 32 = hf X b (2 ^ (n + 1)) := set_eq fun u => by
 rw [hf_has hn hb]
 unfold sp
 rw [has_bits (by omega)]
 have hp := pow6 (show n + 1 ≤ 6 by omega)
 constructor
 · exact fun h => ⟨hX _ h.2, h.2⟩
 · exact fun h => ⟨by omega, h.2⟩
theorem sp_zero (X : BitVec 64) (b : Nat) : sp X b 0 = 0#64 := rfl
theorem sp_succ (X : BitVec 64) (b i : Nat) (hi : i < 32) : sp X b i ||| ((X >>> (2 * i + b)) &&& 1#64) <<< i = sp X b (i + 1) := by
 refine bv_ext fun w hw => ?_
 unfold sp
 rw [BitVec.getLsbD_or, bitsTo_get _ _ _ (by omega), bitsTo_get _ _ _ (by omega), BitVec.getLsbD_shiftLeft, BitVec.getLsbD_and, BitVec.getLsbD_ushiftRight]
 by_cases h : w < i
 · have h1 : w < i + 1 := by omega
   simp [h, h1, hw]
 · by_cases h2 : w = i
   · subst h2
     simp [hw]
   · have h3 : ¬ w < i + 1 := by omega
     have h4 : ¬ w - i = 0 := by omega
     have h5 : (1#64).getLsbD (w - i) = false := by
      rw [BitVec.getLsbD_one]; simp; omega
     simp [h, h3, h5]
theorem hf_mask {X : BitVec 64} {b n : Nat} (hn : n ≤ 5) (hb : b < 2) : hf (X &&& alW (n + 1)) b (2 ^ (n + 1)) = hf X b (2 ^ (n + 1)) := set_eq fun u => by
 rw [hf_has hn hb, hf_has hn hb, has_and, has_bits (pow6 (by omega))]
 exact ⟨fun h => ⟨h.1, h.2.1⟩, fun h => ⟨h.1, h.2, h.1, rfl⟩⟩
theorem thy_mask {voc : List (List UInt8)} (h6 : voc.length ≤ 6) (X : BitVec 64) : thy voc (X &&& alW voc.length) = thy voc X := by
 cases voc with
 | nil =>
  unfold thy alW
  rw [List.length_nil, BitVec.and_assoc, BitVec.and_self]
 | cons a l =>
  have h5 : l.length ≤ 5 := by simp only [List.length_cons] at h6; omega
  have e1 := hf_mask (X := X) (b := 1) h5 (by omega)
  have e0 := hf_mask (X := X) (b := 0) h5 (by omega)
  unfold alW at e1 e0
  unfold thy alW
  rw [List.length_cons, BitVec.and_assoc, BitVec.and_self, e1, e0]
def thyE (voc : List (List UInt8)) (S : BitVec 64) : F × Int := if vocOk voc = true then (thy voc S, 0) else (F.mk 0 [] [], 1)
end Am

namespace Am
open Go
set_option linter.unusedSimpArgs false
set_option linter.unusedVariables false
set_option linter.unusedSectionVars false
def mk (B m : Nat) : Nat → Nat
 | 0 => 0
 | k + 1 => B * mk B m k + m
def s1 (X k : Nat) : Nat := (X / 2 &&& mk 256 85 k) + (X &&& mk 256 85 k)
def s2 (X k : Nat) : Nat := (X / 4 &&& mk 256 51 k) + (X &&& mk 256 51 k)
def s3 (X k : Nat) : Nat := (X / 16 + X) &&& mk 256 15 k
end Am

namespace Am
open Go
set_option linter.unusedSimpArgs false
set_option linter.unusedVariables false
set_option linter.unusedSectionVars false
end Am

namespace Am
open Go
set_option linter.unusedSimpArgs false
set_option linter.unusedVariables false
set_option linter.unusedSectionVars false
end Am

namespace Am
open Go
set_option linter.unusedSimpArgs false
set_option linter.unusedVariables false
set_option linter.unusedSectionVars false
end Am
