/- What functions of the program compute: lemmas. -/
import Derived.Test.YtmjnhmeckloanaaGreatDoorAm5
import Derived.Lib.TrailingZeros
set_option linter.unusedSimpArgs false
set_option linter.unusedVariables false
set_option linter.unusedSectionVars false
namespace Am
open Go
theorem val_own1 (ys ws : List (List UInt8)) : ∀ f : F, good f = true → (∀ s ∈ F.atomL f, ys.contains s = ws.contains s) → F.val ys f = F.val ws f := by
 refine bySizeF fun f ih hf h => ?_
 have hargs := ((good_iff f).1 hf).2.2
 rw [F.val_eq ys f, F.val_eq ws f]
 rw [F.atomL_eq] at h
 by_cases ho : f.op = 3
 · have ha := atom_noargs hf ho
   rw [if_pos ⟨ho, by simp [ha]⟩] at h
   simp only [ho, valO, Int.reduceEq, if_false, if_true]
   exact h _ (by simp)
 · rw [if_neg (fun x => ho x.1)] at h
   have hm : f.args.map (F.val ys) = f.args.map (F.val ws) := by
    apply List.map_congr_left
    intro x hx
    refine ih x hx (hargs x hx) fun s hs => h s ?_
    have : ∀ l : List F, x ∈ l → s ∈ F.atomLs l := by
     intro l
     induction l with
     | nil => intro h; simp at h
     | cons y l ih =>
      intro h
      simp only [F.atomLs, List.mem_append]
      rcases List.mem_cons.1 h with rfl | h
      · exact .inl hs
      · exact .inr (ih h)
    exact this _ hx
   rw [hm]
   unfold valO
   simp only [ho, if_false]
namespace F
mutual
theorem beq_true : ∀ f g : F, beq f g = true → f = g
 | mk o s a, mk o' s' a', h => by
  simp only [beq, Bool.and_eq_true, decide_eq_true_eq] at h
  obtain ⟨rfl, rfl, h3, h4⟩ := h
  rw [beqs_true a a' h3 h4]
theorem beqs_true : ∀ l l' : List F, l.length = l'.length → beqs l l' = true → l = l'
 | [], [], _, _ => rfl
 | [], _ :: _, h, _ => by simp at h
 | x :: l, [], h, _ => by simp at h
 | x :: l, y :: l', h, h2 => by
  simp only [beqs, Bool.and_eq_true] at h2
  rw [beq_true x y h2.1, beqs_true l l' (by simpa using h) h2.2]
end
end F
def pr (o : Int) (f g : F) : F := F.mk o [] [f, g]
def atF (a : List UInt8) : F := F.mk 3 a []
def noF1 (a : List UInt8) : F := F.mk 4 [] [atF a]
def joinF (a : List UInt8) (t f : F) : F :=
 if F.beq t f = true then t else if t.op = 1 ∧ f.op = 2 then atF a else if t.op = 1 then pr 6 (atF a) f else if t.op = 2 ∧ f.op = 1 then noF1 a else if t.op = 2 then pr 5 (noF1 a) f else
 if f.op = 1 then pr 6 (noF1 a) t else if f.op = 2 then pr 5 (atF a) t else pr 6 (pr 5 (atF a) t) (pr 5 (noF1 a) f)
def hf (S : BitVec 64) (b i : Nat) : BitVec 64 := bitsTo (fun u => decide (2 * u + b < i) && S.getLsbD (2 * u + b)) 64
def thy : List (List UInt8) → BitVec 64 → F
 | [], S => if S &&& bitsTo (fun _ => true) (2 ^ 0) = 0#64 then F.mk 2 [] [] else F.mk 1 [] []
 | a :: l, S => if S &&& bitsTo (fun _ => true) (2 ^ (l.length + 1)) = 0#64 then F.mk 2 [] [] else if S &&& bitsTo (fun _ => true) (2 ^ (l.length + 1)) = bitsTo (fun _ => true) (2 ^ (l.length + 1)) then F.mk 1 [] [] else
  joinF a (thy l (hf S 1 (2 ^ (l.length + 1)))) (thy l (hf S 0 (2 ^ (l.length + 1))))
theorem hf_get {S : BitVec 64} {b N u : Nat} (h : 2 * u + b < N) (hu : u < 64) : (hf S b N).getLsbD u = S.getLsbD (2 * u + b) := by
 unfold hf
 rw [bitsTo_get _ _ _ (Nat.le_refl _)]
 simp [h, hu]
theorem val_pr5 (ys : List (List UInt8)) (f g : F) : F.val ys (pr 5 f g) = (F.val ys f && F.val ys g) := by
 rw [F.val_eq]; simp [pr, valO, F.op_mk, F.args_mk]
theorem val_pr6 (ys : List (List UInt8)) (f g : F) : F.val ys (pr 6 f g) = (F.val ys f || F.val ys g) := by
 rw [F.val_eq]; simp [pr, valO, F.op_mk, F.args_mk]
theorem val_at (ys : List (List UInt8)) (a : List UInt8) : F.val ys (atF a) = ys.contains a := by
 rw [F.val_eq]; simp [atF, valO, F.op_mk, F.name_mk]
theorem val_no (ys : List (List UInt8)) (a : List UInt8) : F.val ys (noF1 a) = !ys.contains a := by
 rw [F.val_eq]; simp [noF1, valO, F.op_mk, F.args_mk, val_at]
theorem val_op1 (ys : List (List UInt8)) {f : F} (h : f.op = 1) : F.val ys f = true := by rw [F.val_eq, valO]; simp [h]
theorem val_op2 (ys : List (List UInt8)) {f : F} (h : f.op = 2) : F.val ys f = false := by rw [F.val_eq, valO]; simp [h]
theorem val_join (ys : List (List UInt8)) (a : List UInt8) (t f : F) : F.val ys (joinF a t f) = if ys.contains a = true then F.val ys t else F.val ys f := by
 unfold joinF
 by_cases h1 : F.beq t f = true
 · rw [if_pos h1, F.beq_true t f h1]; simp
 rw [if_neg h1]
 by_cases h2 : t.op = 1 ∧ f.op = 2
 · rw [if_pos h2, val_at, val_op1 ys h2.1, val_op2 ys h2.2]; cases ys.contains a <;> rfl
 rw [if_neg h2]
 by_cases h3 : t.op = 1
 · rw [if_pos h3, val_pr6, val_at, val_op1 ys h3]; cases ys.contains a <;> simp
 rw [if_neg h3]
 by_cases h4 : t.op = 2 ∧ f.op = 1
 · rw [if_pos h4, val_no, val_op2 ys h4.1, val_op1 ys h4.2]; cases ys.contains a <;> rfl
 rw [if_neg h4]
 by_cases h5 : t.op = 2
 · rw [if_pos h5, val_pr5, val_no, val_op2 ys h5]; cases ys.contains a <;> simp
 rw [if_neg h5]
 by_cases h6 : f.op = 1
 · rw [if_pos h6, val_pr6, val_no, val_op1 ys h6]; cases ys.contains a <;> simp
 rw [if_neg h6]
 by_cases h7 : f.op = 2
 · rw [if_pos h7, val_pr5, val_at, val_op2 ys h7]; cases ys.contains a <;> simp
 rw [if_neg h7, val_pr6, val_pr5, val_pr5, val_at, val_no]; cases ys.contains a <;> simp
def Thy (voc : List (List UInt8)) (f : F) : Prop := good f = true ∧ f.size + 6 ≤ 7 * 2 ^ voc.length ∧ f.depth ≤ 2 * voc.length + 1 ∧ ∀ s ∈ F.atomL f, s ∈ voc
theorem thy_const (voc : List (List UInt8)) {o : Int} (h : o = 1 ∨ o = 2) : Thy voc (F.mk o [] []) := by
 have hp : 0 < 2 ^ voc.length := Nat.pow_pos (by omega)
 refine ⟨by rcases h with rfl | rfl <;> rfl, by simp only [F.size, F.sizes]; omega, by simp [F.depth, F.depths], ?_⟩
 rcases h with rfl | rfl <;> simp [F.atomL, F.atomLs]
theorem good_nd {o : Int} {s : List UInt8} {l : List F} (h1 : counted (F.mk o s l) = true) (h2 : named (F.mk o s l) = true) (h3 : ∀ g ∈ l, good g = true) : good (F.mk o s l) = true := by
 unfold good
 rw [F.allF_eq, F.allF_eq named, h1, h2, F.args_mk, Bool.true_and, Bool.true_and, Bool.and_eq_true, allFs_all, allFs_all, List.all_eq_true, List.all_eq_true]
 refine ⟨fun g hg => ?_, fun g hg => ?_⟩
 · have := h3 g hg; simp only [good, Bool.and_eq_true] at this; exact this.1
 · have := h3 g hg; simp only [good, Bool.and_eq_true] at this; exact this.2
theorem good_at {a : List UInt8} (h : validName a = true) : good (atF a) = true := good_nd rfl (by simp [named, F.op_mk, F.name_mk, h]) (by simp)
theorem good_no {a : List UInt8} (h : validName a = true) : good (noF1 a) = true := good_nd rfl rfl (by simp [good_at h])
theorem good_pr {o : Int} {f g : F} (ho : o = 5 ∨ o = 6) (hf : good f = true) (hg : good g = true) : good (pr o f g) = true := by
 rcases ho with rfl | rfl
 · exact good_nd rfl rfl (by simp [hf, hg])
 · exact good_nd rfl rfl (by simp [hf, hg])
theorem atomL_pr {o : Int} (ho : o ≠ 3) (f g : F) : F.atomL (pr o f g) = F.atomL f ++ F.atomL g := by
 simp [pr, F.atomL, F.atomLs]
theorem atomL_at (a : List UInt8) : F.atomL (atF a) = [a] := by simp [atF, F.atomL]
theorem atomL_no (a : List UInt8) : F.atomL (noF1 a) = [a] := by simp [noF1, F.atomL, F.atomLs, atomL_at]
theorem thy_join {a : List UInt8} {l : List (List UInt8)} (ha : validName a = true) {t f : F} (ht : Thy l t) (hf : Thy l f) : Thy (a :: l) (joinF a t f) := by
 obtain ⟨t1, t2, t3, t4⟩ := ht
 obtain ⟨f1, f2, f3, f4⟩ := hf
 have hp : 2 ^ (a :: l).length = 2 * 2 ^ l.length := by rw [List.length_cons, Nat.pow_succ]; omega
 have hp0 : 0 < 2 ^ l.length := Nat.pow_pos (by omega)
 have s5 : ∀ (o : Int) (f g : F), (pr o f g).size = 1 + (f.size + g.size) := fun o f g => by simp [pr, F.size, F.sizes]
 have d5 : ∀ (o : Int) (f g : F), (pr o f g).depth = max (1 + f.depth) (1 + g.depth) := fun o f g => by simp [pr, F.depth, F.depths]
 have s1 : (atF a).size = 1 := by simp [atF, F.size, F.sizes]
 have s2 : (noF1 a).size = 2 := by simp [noF1, F.size, F.sizes, s1]
 have e1 : (atF a).depth = 0 := by simp [atF, F.depth, F.depths]
 have e2 : (noF1 a).depth = 1 := by simp [noF1, F.depth, F.depths, e1]
 have hl : (a :: l).length = l.length + 1 := rfl
 have hc : ∀ s ∈ F.atomL t, s ∈ a :: l := fun s hs => List.mem_cons_of_mem _ (t4 s hs)
 have hd : ∀ s ∈ F.atomL f, s ∈ a :: l := fun s hs => List.mem_cons_of_mem _ (f4 s hs)
 have ga := good_at ha
 have gn := good_no ha
 have h6 : ∀ f g : F, F.atomL (pr 6 f g) = F.atomL f ++ F.atomL g := atomL_pr (by decide)
 have h5 : ∀ f g : F, F.atomL (pr 5 f g) = F.atomL f ++ F.atomL g := atomL_pr (by decide)
 unfold joinF Thy
 rw [hp, hl]
 (repeat' split)
 · exact ⟨t1, by omega, by omega, hc⟩
 · exact ⟨ga, by omega, by omega, by rw [atomL_at]; simp⟩
 · exact ⟨good_pr (.inr rfl) ga f1, by rw [s5]; omega, by rw [d5]; omega, by rw [h6, atomL_at]; simpa using hd⟩
 · exact ⟨gn, by omega, by omega, by rw [atomL_no]; simp⟩
 · exact ⟨good_pr (.inl rfl) gn f1, by rw [s5]; omega, by rw [d5]; omega, by rw [h5, atomL_no]; simpa using hd⟩
 · exact ⟨good_pr (.inr rfl) gn t1, by rw [s5]; omega, by rw [d5]; omega, by rw [h6, atomL_no]; simpa using hc⟩
 · exact ⟨good_pr (.inl rfl) ga t1, by rw [s5]; omega, by rw [d5]; omega, by rw [h5, atomL_at]; simpa using hc⟩
 · refine ⟨good_pr (.inr rfl) (good_pr (.inl rfl) ga t1) (good_pr (.inl rfl) gn f1), by rw [s5, s5, s5]; omega, by rw [d5, d5, d5]; omega, fun s hs => ?_⟩
   rw [h6, h5, h5, atomL_at, atomL_no] at hs
   simp only [List.mem_append, List.mem_singleton] at hs
   rcases hs with (rfl | hs) | (rfl | hs)
   · simp
   · exact hc s hs
   · simp
   · exact hd s hs
theorem thy_ok : ∀ {voc : List (List UInt8)}, okNames voc = true → ∀ S : BitVec 64, Thy voc (thy voc S)
 | [], _, S => by
  unfold thy
  split
  · exact thy_const [] (.inr rfl)
  · exact thy_const [] (.inl rfl)
 | a :: l, h, S => by
  unfold thy
  split
  · exact thy_const _ (.inr rfl)
  · split
    · exact thy_const _ (.inl rfl)
    · exact thy_join (by simp only [okNames, Bool.and_eq_true] at h; exact h.1) (thy_ok (okNames_tail h) _) (thy_ok (okNames_tail h) _)
theorem val_cons {a : List UInt8} {l : List (List UInt8)} (h : okNames (a :: l) = true) {f : F} (hf : Thy l f) (ys : List (List UInt8)) : F.val (a :: ys) f = F.val ys f := by
 refine val_own1 _ _ f hf.1 fun s hs => ?_
 have := (List.pairwise_cons.1 (okNames_asc h).1).1 s (hf.2.2.2 s hs)
 have hne : s ≠ a := fun e => by subst e; exact List.lt_irrefl _ this
 simp [hne]
theorem thy_val : ∀ {voc : List (List UInt8)}, okNames voc = true → voc.length ≤ 6 → ∀ (S : BitVec 64) (w : Nat), w < 2 ^ voc.length → F.val (yesN voc w) (thy voc S) = S.getLsbD w
 | [], _, _, S, w, hw => by
  have hw0 : w = 0 := by simpa using hw
  subst hw0
  have h0 : S &&& bitsTo (fun _ => true) (2 ^ 0) = 0#64 ↔ S.getLsbD 0 = false := by
   rw [bv_zero_iff]
   constructor
   · intro h
     have := h 0 (by omega)
     rw [BitVec.getLsbD_and, bitsTo_get _ _ _ (by decide)] at this
     simpa using this
   · intro h v hv
     rw [BitVec.getLsbD_and, bitsTo_get _ _ _ (by decide)]
     by_cases hv0 : v = 0
     · subst hv0; rw [h]; rfl
     · simp [hv0]
  unfold thy
  by_cases h : S &&& bitsTo (fun _ => true) (2 ^ 0) = 0#64
  · rw [if_pos h, val_op2 _ rfl, h0.1 h]
  · rw [if_neg h, val_op1 _ rfl]
    cases hs : S.getLsbD 0 with
    | true => rfl
    | false => exact absurd (h0.2 hs) h
 | a :: l, h, h6, S, w, hw => by
  have hN : 2 ^ (l.length + 1) ≤ 64 := pow6 h6
  have hw' : w < 2 ^ (l.length + 1) := hw
  have hand : ∀ v, (S &&& bitsTo (fun _ => true) (2 ^ (l.length + 1))).getLsbD v = (S.getLsbD v && decide (v < 2 ^ (l.length + 1))) := fun v => by
   rw [BitVec.getLsbD_and, bitsTo_get _ _ _ hN]; simp
  unfold thy
  by_cases h1 : S &&& bitsTo (fun _ => true) (2 ^ (l.length + 1)) = 0#64
  · rw [if_pos h1, val_op2 _ rfl]
    have := hand w
    rw [h1] at this
    simpa [hw'] using this
  rw [if_neg h1]
  by_cases h2 : S &&& bitsTo (fun _ => true) (2 ^ (l.length + 1)) = bitsTo (fun _ => true) (2 ^ (l.length + 1))
  · rw [if_pos h2, val_op1 _ rfl]
    have := hand w
    rw [h2, bitsTo_get _ _ _ hN] at this
    simpa [hw'] using this
  rw [if_neg h2, val_join]
  have hl := okNames_tail h
  have h6' : l.length ≤ 6 := by simp only [List.length_cons] at h6; omega
  have hpw : 2 ^ (l.length + 1) = 2 * 2 ^ l.length := by rw [Nat.pow_succ]; omega
  have hu : w / 2 < 2 ^ l.length := by omega
  have hac : (yesN (a :: l) w).contains a = decide (w % 2 = 1) := by
   have := yesN_mem (okNames_asc h).1 (i := 0) (w := w) (by simp)
   simp only [List.getElem_cons_zero, Nat.pow_zero, Nat.div_one] at this
   cases hd : decide (w % 2 = 1) with
   | true => rw [decide_eq_true_eq] at hd; simpa using this.2 hd
   | false => rw [decide_eq_false_iff_not] at hd; simpa using fun h => hd (this.1 h)
  rw [hac]
  rcases Nat.mod_two_eq_zero_or_one w with hb | hb
  · rw [if_neg (by simp [hb])]
    have hy : yesN (a :: l) w = yesN l (w / 2) := by simp [yesN, hb]
    rw [hy, thy_val hl h6' _ _ hu, hf_get (by omega) (by omega)]
    congr 1; omega
  · rw [if_pos (by simp [hb])]
    have hy : yesN (a :: l) w = a :: yesN l (w / 2) := by simp [yesN, hb]
    rw [hy, val_cons h (thy_ok hl _), thy_val hl h6' _ _ hu, hf_get (by omega) (by omega)]
    congr 1; omega
end Am

namespace Am
open Go
abbrev has (X : BitVec 64) (w : Nat) : Prop := X.getLsbD w = true
theorem has_lt {X : BitVec 64} {w : Nat} (h : has X w) : w < 64 := by
 refine Decidable.byContradiction fun hn => ?_
 have := BitVec.getLsbD_of_ge X w (by omega)
 rw [has, this] at h; cases h
theorem has_and {X Y : BitVec 64} {w : Nat} : has (X &&& Y) w ↔ has X w ∧ has Y w := by simp [has]
theorem has_or {X Y : BitVec 64} {w : Nat} : has (X ||| Y) w ↔ has X w ∨ has Y w := by simp [has]
theorem has_diff {X Y : BitVec 64} {w : Nat} : has (X &&& ~~~Y) w ↔ has X w ∧ ¬ has Y w := by
 constructor
 · intro h
   have hw := has_lt h
   simpa [has, hw] using h
 · rintro ⟨h1, h2⟩
   have hw := has_lt h1
   simpa [has, hw, h1] using h2
theorem has_bits {p : Nat → Bool} {n w : Nat} (hn : n ≤ 64) : has (bitsTo p n) w ↔ w < n ∧ p w = true := by rw [has, bitsTo_get _ _ _ hn]; simp
theorem has_top {w : Nat} : has (BitVec.allOnes 64) w ↔ w < 64 := by rw [has, BitVec.getLsbD_allOnes]; simp
theorem set_eq {X Y : BitVec 64} (h : ∀ w, has X w ↔ has Y w) : X = Y := bv_ext fun w _ => by
 have := h w
 cases hx : X.getLsbD w <;> cases hy : Y.getLsbD w <;> simp [has, hx, hy] at this <;> rfl
theorem set_zero {X : BitVec 64} : X = 0#64 ↔ ∀ w, ¬ has X w := by
 constructor
 · rintro rfl w h; simp [has] at h
 · intro h; exact set_eq fun w => ⟨fun hx => absurd hx (h w), fun h0 => by simp [has] at h0⟩
theorem set_sub {X Y : BitVec 64} : X &&& ~~~Y = 0#64 ↔ ∀ w, has X w → has Y w := by
 rw [set_zero]
 constructor
 · intro h w hx
   exact Classical.byContradiction fun hy => h w (has_diff.2 ⟨hx, hy⟩)
 · intro h w hw
   rw [has_diff] at hw
   exact hw.2 (h w hw.1)
theorem set_ne {X : BitVec 64} (h : X ≠ 0#64) : ∃ w, has X w := Classical.byContradiction fun hn => h (set_zero.2 fun w hw => hn ⟨w, hw⟩)
theorem min_ex (r : Nat → Int) (P : Nat → Prop) : ∀ N : Nat, (∃ v, v < N ∧ P v) → ∃ w, w < N ∧ P w ∧ ∀ v, v < N → P v → r w ≤ r v
 | 0, ⟨v, h, _⟩ => by omega
 | N + 1, ⟨v, hv, hp⟩ => by
  by_cases hN : ∃ v, v < N ∧ P v
  · obtain ⟨w, h1, h2, h3⟩ := min_ex r P N hN
    by_cases hc : P N ∧ r N < r w
    · refine ⟨N, by omega, hc.1, fun u hu hpu => ?_⟩
      by_cases huN : u = N
      · subst huN; omega
      · have := h3 u (by omega) hpu; omega
    · refine ⟨w, by omega, h2, fun u hu hpu => ?_⟩
      by_cases huN : u = N
      · subst huN
        have : ¬ r u < r w := fun h => hc ⟨hpu, h⟩
        omega
      · exact h3 u (by omega) hpu
  · have : v = N := Classical.byContradiction fun h => hN ⟨v, by omega, hp⟩
    subst this
    refine ⟨v, by omega, hp, fun u hu hpu => ?_⟩
    by_cases huN : u = v
    · subst huN; omega
    · exact absurd ⟨u, by omega, hpu⟩ hN
structure Lst (N : Nat) (r : Nat → Int) (L : BitVec 64 → BitVec 64) : Prop where
 le : N ≤ 64
 get : ∀ S w, has (L S) w ↔ w < N ∧ has S w ∧ ∀ v, v < N → has S v → r w ≤ r v
theorem Lst.ex {N : Nat} {r : Nat → Int} {L : BitVec 64 → BitVec 64} (h : Lst N r L) {S : BitVec 64} {v : Nat} (hv : v < N) (hs : has S v) : ∃ w, has (L S) w := by
 obtain ⟨w, h1, h2, h3⟩ := min_ex r (fun v => has S v) N ⟨v, hv, hs⟩
 exact ⟨w, (h.get S w).2 ⟨h1, h2, h3⟩⟩
theorem leastS_lst {names : List (List UInt8)} {ranks : List Int} (h : orderE names ranks = 0) : Lst ranks.length (fun w => ranks.getD w (-1)) (leastS names ranks) :=
 ⟨(orderE_len h).1, fun S w => least_get h S w⟩
section
variable {N : Nat} {r : Nat → Int} {L : BitVec 64 → BitVec 64} (hL : Lst N r L)
include hL
theorem Lst.top (w : Nat) : has (L (BitVec.allOnes 64)) w ↔ w < N ∧ ∀ v, v < N → r w ≤ r v := by
 rw [hL.get]
 constructor
 · rintro ⟨h1, _, h3⟩
   exact ⟨h1, fun v hv => h3 v hv (has_top.2 (by have := hL.le; omega))⟩
 · rintro ⟨h1, h2⟩
   exact ⟨h1, has_top.2 (by have := hL.le; omega), fun v hv _ => h2 v hv⟩
variable {A M K : BitVec 64} (hA : ∀ w, has A w ↔ w < N) (hM : ∀ w, has M w → w < N) (hK : ∀ w, has K w → w < N)
include hA
theorem Lst.rest (w : Nat) : has (L (A &&& ~~~M)) w ↔ w < N ∧ ¬ has M w ∧ ∀ v, v < N → ¬ has M v → r w ≤ r v := by
 rw [hL.get, has_diff]
 constructor
 · rintro ⟨h1, ⟨_, h2⟩, h3⟩
   exact ⟨h1, h2, fun v hv hm => h3 v hv (has_diff.2 ⟨(hA v).2 hv, hm⟩)⟩
 · rintro ⟨h1, h2, h3⟩
   exact ⟨h1, ⟨(hA w).2 h1, h2⟩, fun v hv hm => h3 v hv (has_diff.1 hm).2⟩
end
def Wth (N : Nat) (r : Nat → Int) (M W : BitVec 64) : Prop := ∀ w, has W w ↔ w < N ∧ ((∃ u, u < N ∧ ¬ has M u) → ∀ v, v < N → ¬ has M v → r w ≤ r v) ∧ ((∀ u, u < N → has M u) → ∀ v, v < N → r w ≤ r v)
section
variable {N : Nat} {r : Nat → Int} {L : BitVec 64 → BitVec 64} (hL : Lst N r L) {A M K W V : BitVec 64} (hA : ∀ w, has A w ↔ w < N) (hM : ∀ w, has M w → w < N) (hW : Wth N r M W) (hV : Wth N r K V)
include hL hW
end
end Am

namespace Am
open Go
def beliefsS (names : List (List UInt8)) (ranks : List Int) : BitVec 64 := leastS names ranks (BitVec.allOnes 64)
theorem models_good {voc : List (List UInt8)} {f : F} (hv : vocOk voc = true) (hg : good f = true) (hs : f.size ≤ 600) (hd : f.depth ≤ 20) (ha : ∀ s ∈ F.atomL f, s ∈ voc) : modelsE voc f = 0 ∧ modelsS voc f = modN voc f (2 ^ voc.length) := by
 have h1 : validate f = 0 := by
  have h1 : ¬ (f.size : Int) > 600 := by omega
  have h2 : ¬ (f.depth : Int) > 20 := by omega
  simp only [good, Bool.and_eq_true] at hg
  simp [validate, h1, h2, hg.1, hg.2]
 have h2 : atomsIn voc f = true := by
  unfold atomsIn
  rw [List.all_eq_true]
  intro s hs
  have := ha s ((canon_mem _ s).1 hs)
  simpa using this
 have h3 : modelsE voc f = 0 := by simp [modelsE, hv, h1, h2]
 exact ⟨h3, by rw [modelsS, if_pos h3]⟩
theorem has_modN {voc : List (List UInt8)} {f : F} {w : Nat} (hv : voc.length ≤ 6) : has (modN voc f (2 ^ voc.length)) w ↔ w < 2 ^ voc.length ∧ F.val (yesN voc w) f = true := has_bits (pow6 hv)
theorem thy_models {voc : List (List UInt8)} (hv : vocOk voc = true) (S : BitVec 64) : modelsE voc (thy voc S) = 0 ∧ modelsS voc (thy voc S) = S &&& allS voc := by
 obtain ⟨t1, t2, t3, t4⟩ := thy_ok (vocOk_names hv) S
 have h6 := vocOk_len hv
 have hp := pow6 h6
 obtain ⟨h1, h2⟩ := models_good hv t1 (by omega) (by omega) t4
 refine ⟨h1, ?_⟩
 rw [h2]
 refine set_eq fun w => ?_
 unfold allS
 rw [if_pos hv, has_modN h6, has_and, has_bits hp]
 constructor
 · rintro ⟨a, b⟩
   rw [thy_val (vocOk_names hv) h6 S w a] at b
   exact ⟨b, a, rfl⟩
 · rintro ⟨a, b, _⟩
   exact ⟨b, by rw [thy_val (vocOk_names hv) h6 S w b]; exact a⟩
theorem letter_voc {n : Nat} (hn : n ≤ 26) {s : List UInt8} (h : letter n s = true) : s ∈ vocN n := by
 unfold letter at h
 split at h
 · rename_i c
   simp only [Bool.and_eq_true, decide_eq_true_eq] at h
   refine List.mem_map.2 ⟨c.toNat - 97, List.mem_range.2 (by omega), ?_⟩
   have : (97 + ((c.toNat - 97 : Nat) : Int)).toNat = c.toNat := by omega
   rw [this]
   simp
 · cases h
theorem lettered_atoms {n : Nat} : ∀ f : F, F.allF (lettered n) f = true → ∀ s ∈ F.atomL f, letter n s = true := by
 refine bySizeF fun f ih h s hs => ?_
 rw [F.allF_eq, Bool.and_eq_true] at h
 rw [F.atomL_eq] at hs
 split at hs
 · rename_i hc
   simp only [List.mem_singleton] at hs
   subst hs
   have := h.1
   unfold lettered at this
   simpa [hc.1] using this
 · have key : ∀ l : List F, (∀ g ∈ l, g ∈ f.args) → ∀ x ∈ F.atomLs l, letter n x = true := by
    intro l
    induction l with
    | nil => intro _ x hx; simp [F.atomLs] at hx
    | cons g l ihl =>
     intro hm x hx
     simp only [F.atomLs, List.mem_append] at hx
     rcases hx with hx | hx
     · exact ih g (hm g (by simp)) (allFs_mem h.2 g (hm g (by simp))) x hx
     · exact ihl (fun g hg => hm g (by simp [hg])) x hx
   exact key f.args (fun g hg => hg) s hs
theorem made_models {n d : Nat} (hn : n ≤ 6) (hd : d ≤ 3) {f : F} (h : Made n d f) : good f = true ∧ f.size ≤ 256 ∧ f.depth ≤ 3 ∧ (∀ s ∈ F.atomL f, s ∈ vocN n) ∧ modelsE (vocN n) f = 0 ∧ modelsS (vocN n) f = modN (vocN n) f (2 ^ n) := by
 obtain ⟨h1, h2, h3, h4⟩ := h
 have hs : f.size ≤ 256 := Nat.le_trans h3 (Nat.pow_le_pow_right (by omega) (by omega : d + 1 ≤ 4))
 have ha : ∀ s ∈ F.atomL f, s ∈ vocN n := fun s hs => letter_voc (by omega) (lettered_atoms f h4 s hs)
 have := models_good (vocN_ok hn) h1 (by omega) (by omega) ha
 rw [vocN_len] at this
 exact ⟨h1, hs, by omega, ha, this⟩
end Am

namespace Am
open Go
def sortI (l : List Int) : List Int := l.mergeSort fun x y => decide (x ≤ y)
theorem sortI_len (l : List Int) : (sortI l).length = l.length := by simp [sortI]
theorem sortI_mem (l : List Int) (x : Int) : x ∈ sortI l ↔ x ∈ l := List.mem_mergeSort
theorem sortI_sorted (l : List Int) : (sortI l).Pairwise fun x y => x ≤ y := by
 have := List.pairwise_mergeSort (le := fun x y : Int => decide (x ≤ y)) (fun a b c h1 h2 => by simp only [decide_eq_true_eq] at *; omega) (fun a b => by simp only [Bool.or_eq_true, decide_eq_true_eq]; omega) l
 exact this.imp fun h => by simpa using h
theorem upToI_ok {zs : List Int} (hs : zs.Pairwise fun x y => x ≤ y) : ∀ m, m ≤ zs.length →
 (∀ x, x ∈ Lib.compactUpTo zs.toArray m ↔ x ∈ zs.take m) ∧ (Lib.compactUpTo zs.toArray m).Pairwise (fun x y => x < y) ∧ ∀ x ∈ Lib.compactUpTo zs.toArray m, ∀ (h : m - 1 < zs.length), x ≤ zs[m - 1] := by
 intro m
 induction m with
 | zero => intro _; simp [Lib.compactUpTo]
 | succ m ih =>
  intro hm
  obtain ⟨h1, h2, h3⟩ := ih (by omega)
  have hg : zs.toArray[m]! = zs[m] := by simp [show m < zs.length by omega]
  have hle : ∀ x ∈ zs.take m, x ≤ zs[m] := by
   intro x hx
   obtain ⟨i, hi, rfl⟩ := List.getElem_of_mem hx
   simp only [List.length_take] at hi
   rw [List.getElem_take]
   exact List.pairwise_iff_getElem.1 hs i m (by omega) (by omega) (by omega)
  rw [Lib.compactUpTo_succ]
  by_cases hk : Lib.keeps zs.toArray m = true
  · rw [if_pos hk, hg]
    refine ⟨fun x => ?_, ?_, ?_⟩
    · rw [List.mem_append, h1, ← take_snoc (show m < zs.length by omega), List.mem_append]
    · rw [List.pairwise_append]
      refine ⟨h2, by simp, fun x hx y hy => ?_⟩
      simp only [List.mem_singleton] at hy
      subst hy
      have hx' := (h1 x).1 hx
      rcases Nat.eq_zero_or_pos m with rfl | hm0
      · simp at hx'
      · have hx3 := h3 x hx (by omega)
        have hlt : zs[m - 1] ≤ zs[m] := List.pairwise_iff_getElem.1 hs (m - 1) m (by omega) (by omega) (by omega)
        have hne : zs[m] ≠ zs[m - 1] := by
         unfold Lib.keeps at hk
         simp only [decide_eq_true_eq] at hk
         have hg' : zs.toArray[m - 1]! = zs[m - 1] := by simp [show m - 1 < zs.length by omega]
         rw [hg, hg'] at hk
         rcases hk with h | h
         · omega
         · exact h
        have hxm := Int.le_trans hx3 hlt
        exact Decidable.byContradiction fun hn => hne (Int.le_antisymm (Int.le_trans (Int.not_lt.1 hn) hx3) hlt)
    · intro x hx h
      simp only [Nat.add_sub_cancel]
      rcases List.mem_append.1 hx with hx | hx
      · exact hle x ((h1 x).1 hx)
      · simp only [List.mem_singleton] at hx; subst hx; exact Int.le_refl _
  · rw [if_neg hk, List.append_nil]
    have hm0 : 0 < m ∧ zs[m] = zs[m - 1] := by
     unfold Lib.keeps at hk
     simp only [decide_eq_true_eq, not_or, Decidable.not_not] at hk
     have hg' : zs.toArray[m - 1]! = zs[m - 1] := by simp [show m - 1 < zs.length by omega]
     rw [hg, hg'] at hk
     exact ⟨by omega, hk.2⟩
    refine ⟨fun x => ?_, h2, ?_⟩
    · rw [h1, ← take_snoc (show m < zs.length by omega), List.mem_append]
      constructor
      · exact .inl
      · rintro (h | h)
        · exact h
        · simp only [List.mem_singleton] at h
          rw [h, hm0.2]
          exact List.mem_take_iff_getElem.2 ⟨m - 1, by omega, rfl⟩
    · intro x hx h
      exact hle x ((h1 x).1 hx)
def canonI (l : List Int) : List Int := Lib.compact (sortI l)
theorem canonI_mem (l : List Int) (x : Int) : x ∈ canonI l ↔ x ∈ l := by
 unfold canonI Lib.compact
 rw [(upToI_ok (sortI_sorted l) _ (Nat.le_refl _)).1, List.take_length, sortI_mem]
theorem canonI_asc (l : List Int) : (canonI l).Pairwise fun x y => x < y := by
 unfold canonI Lib.compact
 exact (upToI_ok (sortI_sorted l) _ (Nat.le_refl _)).2.1
theorem canonI_len (l : List Int) : (canonI l).length ≤ l.length := nodup_le ((canonI_asc l).imp fun h e => by subst e; exact Int.lt_irrefl _ h) fun x hx => (canonI_mem l x).1 hx
def lessN (t : Int) (l : List Int) : Nat := (l.filter fun x => decide (x < t)).length
theorem lessN_le (t : Int) (l : List Int) : lessN t l ≤ l.length := List.length_filter_le _ _
theorem lessN_take : ∀ {l : List Int}, l.Pairwise (fun x y => x < y) → ∀ (t : Int) (i : Nat) (hi : i < l.length), l[i] < t ↔ i < lessN t l
 | [], _, _, i, hi => by simp at hi
 | a :: l, h, t, i, hi => by
  have h' := List.pairwise_cons.1 h
  unfold lessN
  by_cases ha : a < t
  · rw [List.filter_cons_of_pos (by simpa using ha)]
    cases i with
    | zero => simp [ha]
    | succ i =>
     have := lessN_take h'.2 t i (by simpa using hi)
     unfold lessN at this
     simp only [List.getElem_cons_succ, List.length_cons]
     omega
  · rw [List.filter_cons_of_neg (by simpa using ha)]
    have hnone : l.filter (fun x => decide (x < t)) = [] := List.filter_eq_nil_iff.2 fun x hx => by
     have := h'.1 x hx
     simp; omega
    rw [hnone]
    cases i with
    | zero => simp only [List.getElem_cons_zero, List.length_nil]; omega
    | succ i =>
     have := h'.1 _ (List.getElem_mem (show i < l.length by simpa using hi))
     simp only [List.getElem_cons_succ, List.length_nil]
     omega
theorem lessN_below (r : Int) (l : List Int) : lessN r (canonI l) = (belowL r l).length := by
 unfold lessN
 have hn : ((canonI l).filter fun x => decide (x < r)).Nodup := ((canonI_asc l).imp (S := fun a b => a ≠ b) fun h e => by subst e; exact Int.lt_irrefl _ h).filter _
 refine nodup_eq hn (belowL_nodup r l) fun x => ?_
 rw [List.mem_filter, canonI_mem, belowL_mem]
 simp
end Am

namespace Am
open Go
abbrev alW (n : Nat) : BitVec 64 := bitsTo (fun _ => true) (2 ^ n)
def Sub (n : Nat) (X : BitVec 64) : Prop := ∀ w, has X w → w < 2 ^ n
theorem sub_and {n : Nat} (hn : n ≤ 6) {X : BitVec 64} (h : Sub n X) : X &&& alW n = X := set_eq fun w => by
 rw [has_and, has_bits (pow6 hn)]
 exact ⟨fun h => h.1, fun hw => ⟨hw, h w hw, rfl⟩⟩
theorem sub_of_and {n : Nat} (hn : n ≤ 6) (X : BitVec 64) : Sub n (X &&& alW n) := fun w hw => by
 rw [has_and, has_bits (pow6 hn)] at hw
 exact hw.2.1
theorem hf_has {X : BitVec 64} {b n u : Nat} (hn : n ≤ 5) (hb : b < 2) : has (hf X b (2 ^ (n + 1))) u ↔ 2 * u + b < 2 ^ (n + 1) ∧ has X (2 * u + b) := by
 have hp := pow6 (show n + 1 ≤ 6 by omega)
 unfold hf
 rw [has_bits (Nat.le_refl _)]
 simp only [Bool.and_eq_true, decide_eq_true_eq, has]
 constructor
 · exact fun h => h.2
 · exact fun h => ⟨by omega, h⟩
theorem hf_sub {X : BitVec 64} {b n : Nat} (hn : n ≤ 5) (hb : b < 2) : Sub n (hf X b (2 ^ (n + 1))) := fun u hu => by
 have := ((hf_has hn hb).1 hu).1
 rw [Nat.pow_succ] at this
 omega
theorem join_op {a : List UInt8} {t f : F} {o : Int} (h : (joinF a t f).op = o) (ho : o = 1 ∨ o = 2) : F.beq t f = true ∧ t.op = o := by
 unfold joinF at h
 by_cases h1 : F.beq t f = true
 · rw [if_pos h1] at h; exact ⟨h1, h⟩
 rw [if_neg h1] at h
 exfalso
 repeat' split at h
 all_goals (simp only [atF, noF1, pr, F.op_mk] at h; omega)
theorem thy_op : ∀ (voc : List (List UInt8)), voc.length ≤ 6 → ∀ X : BitVec 64, Sub voc.length X → ((thy voc X).op = 1 → X = alW voc.length) ∧ ((thy voc X).op = 2 → X = 0#64)
 | [], _, X, hX => by
  have e := sub_and (n := 0) (by omega) hX
  unfold alW at e
  unfold thy
  rw [e]
  by_cases h0 : X = 0#64
  · rw [if_pos h0]; simp [F.op_mk, h0]
  · rw [if_neg h0]
    refine ⟨fun _ => ?_, fun h => by simp [F.op_mk] at h⟩
    obtain ⟨w, hw⟩ := set_ne h0
    have hw0 : w = 0 := by have := hX w hw; simpa using this
    subst hw0
    refine set_eq fun v => ?_
    unfold alW
    rw [has_bits (by simp)]
    constructor
    · exact fun hv => ⟨hX v hv, rfl⟩
    · rintro ⟨hv, _⟩
      have : v = 0 := by simpa using hv
      rw [this]; exact hw
 | a :: l, h6, X, hX => by
  have hl : l.length ≤ 5 := by simp only [List.length_cons] at h6; omega
  have e := sub_and (n := l.length + 1) (by omega) hX
  unfold alW at e
  unfold thy
  rw [e]
  show (_ → X = alW (l.length + 1)) ∧ _
  by_cases h0 : X = 0#64
  · rw [if_pos h0]; simp [F.op_mk, h0]
  rw [if_neg h0]
  by_cases h1 : X = bitsTo (fun _ => true) (2 ^ (l.length + 1))
  · rw [if_pos h1]; exact ⟨fun _ => h1, fun h => by simp [F.op_mk] at h⟩
  rw [if_neg h1]
  have i1 := thy_op l (by omega) (hf X 1 (2 ^ (l.length + 1))) (hf_sub hl (by omega))
  have i0 := thy_op l (by omega) (hf X 0 (2 ^ (l.length + 1))) (hf_sub hl (by omega))
  have hp : 2 ^ (l.length + 1) = 2 * 2 ^ l.length := by rw [Nat.pow_succ]; omega
  have back : ∀ w, has X w → ∃ u b, b < 2 ∧ w = 2 * u + b ∧ has (hf X b (2 ^ (l.length + 1))) u := fun w hw =>
   ⟨w / 2, w % 2, by omega, by omega, (hf_has hl (by omega)).2 ⟨by have := hX w hw; simp only [List.length_cons] at this; omega, by rw [show 2 * (w / 2) + w % 2 = w by omega]; exact hw⟩⟩
  constructor
  · intro ho
    obtain ⟨hb, ht⟩ := join_op ho (.inl rfl)
    have hbe := F.beq_true _ _ hb
    have e1 := i1.1 ht
    have e0 := i0.1 (hbe ▸ ht)
    refine set_eq fun w => ?_
    unfold alW
    rw [has_bits (pow6 (by omega))]
    constructor
    · exact fun hw => ⟨hX w hw, rfl⟩
    · rintro ⟨hw, _⟩
      have key : ∀ b, b < 2 → w % 2 = b → hf X b (2 ^ (l.length + 1)) = alW l.length → has X w := fun b hb hwb he => by
       have h2 : has (hf X b (2 ^ (l.length + 1))) (w / 2) := by
        rw [he]; unfold alW; rw [has_bits (pow6 (by omega))]; exact ⟨by omega, rfl⟩
       have := ((hf_has hl hb).1 h2).2
       rwa [show 2 * (w / 2) + b = w by omega] at this
      by_cases hw2 : w % 2 = 1
      · exact key 1 (by omega) hw2 e1
      · exact key 0 (by omega) (by omega) e0
  · intro ho
    obtain ⟨hb, ht⟩ := join_op ho (.inr rfl)
    have hbe := F.beq_true _ _ hb
    have e1 := i1.2 ht
    have e0 := i0.2 (hbe ▸ ht)
    refine set_zero.2 fun w hw => ?_
    obtain ⟨u, b, hb2, _, hu⟩ := back w hw
    obtain rfl | rfl : b = 0 ∨ b = 1 := by omega
    · rw [e0] at hu; exact set_zero.1 rfl u hu
    · rw [e1] at hu; exact set_zero.1 rfl u hu
theorem thy_at0 {voc : List (List UInt8)} : (thy voc 0#64).op = 2 := by
 cases voc with
 | nil => unfold thy; rw [if_pos (by simp)]; rfl
 | cons a l => unfold thy; rw [if_pos (by simp)]; rfl
theorem alW_ne {n : Nat} (hn : n ≤ 6) : alW n ≠ 0#64 := fun h => (set_zero.1 h) 0 (by unfold alW; rw [has_bits (pow6 hn)]; exact ⟨Nat.two_pow_pos n, rfl⟩)
theorem thy_at1 {voc : List (List UInt8)} (h6 : voc.length ≤ 6) : (thy voc (alW voc.length)).op = 1 := by
 cases voc with
 | nil =>
  have := alW_ne (n := 0) (by omega)
  unfold alW at this ⊢
  unfold thy
  rw [if_neg (by simp only [List.length_nil, BitVec.and_self]; exact this)]; rfl
 | cons a l =>
  have := alW_ne (n := l.length + 1) h6
  unfold alW at this ⊢
  unfold thy
  simp only [List.length_cons, BitVec.and_self]
  rw [if_neg this, if_pos trivial]; rfl
theorem thy_op1 {voc : List (List UInt8)} (h6 : voc.length ≤ 6) {X : BitVec 64} (hX : Sub voc.length X) : (thy voc X).op = 1 ↔ X = alW voc.length :=
 ⟨(thy_op voc h6 X hX).1, fun h => by rw [h]; exact thy_at1 h6⟩
theorem thy_op2 {voc : List (List UInt8)} (h6 : voc.length ≤ 6) {X : BitVec 64} (hX : Sub voc.length X) : (thy voc X).op = 2 ↔ X = 0#64 :=
 ⟨(thy_op voc h6 X hX).2, fun h => by rw [h]; exact thy_at0⟩
theorem thy_inj {voc : List (List UInt8)} (hv : okNames voc = true) (h6 : voc.length ≤ 6) {X Y : BitVec 64} (hX : Sub voc.length X) (hY : Sub voc.length Y) (h : thy voc X = thy voc Y) : X = Y := set_eq fun w => by
 by_cases hw : w < 2 ^ voc.length
 · have a := thy_val hv h6 X w hw
   have b := thy_val hv h6 Y w hw
   rw [h] at a
   unfold has
   rw [← a, ← b]
 · exact ⟨fun h => absurd (hX w h) hw, fun h => absurd (hY w h) hw⟩
def sp (X : BitVec 64) (b i : Nat) : BitVec 64 := bitsTo (fun u => X.getLsbD (2 * u + b)) i
theorem sp_hf {X : BitVec 64} {b n : Nat} (hn : n ≤ 5) (hb : b < 2) (hX : Sub (n + 1) X) : sp X b 32 = hf X b (2 ^ (n + 1)) := set_eq fun u => by
 rw [hf_has hn hb]
 unfold sp
 rw [has_bits (by omega)]
 have hp := pow6 (show n + 1 ≤ 6 by omega)
 constructor
 · exact fun h => ⟨hX _ h.2, h.2⟩
 · exact fun h => ⟨by omega, h.2⟩
theorem sp_zero (X : BitVec 64) (b : Nat) : sp X b 0 = 0#64 := rfl
theorem sp_succ (X : BitVec 64) (b i : Nat) (hi : i < 32) : sp X b i ||| ((X >>> (2 * i + b)) &&& 1#64) <<< i = sp X b (i + 1) := by
 refine bv_ext fun w hw => ?_
 unfold sp
 rw [BitVec.getLsbD_or, bitsTo_get _ _ _ (by omega), bitsTo_get _ _ _ (by omega), BitVec.getLsbD_shiftLeft, BitVec.getLsbD_and, BitVec.getLsbD_ushiftRight]
 by_cases h : w < i
 · have h1 : w < i + 1 := by omega
   simp [h, h1, hw]
 · by_cases h2 : w = i
   · subst h2
     simp [hw]
   · have h3 : ¬ w < i + 1 := by omega
     have h4 : ¬ w - i = 0 := by omega
     have h5 : (1#64).getLsbD (w - i) = false := by
      rw [BitVec.getLsbD_one]; simp; omega
     simp [h, h3, h5]
theorem hf_mask {X : BitVec 64} {b n : Nat} (hn : n ≤ 5) (hb : b < 2) : hf (X &&& alW (n + 1)) b (2 ^ (n + 1)) = hf X b (2 ^ (n + 1)) := set_eq fun u => by
 rw [hf_has hn hb, hf_has hn hb, has_and, has_bits (pow6 (by omega))]
 exact ⟨fun h => ⟨h.1, h.2.1⟩, fun h => ⟨h.1, h.2, h.1, rfl⟩⟩
theorem thy_mask {voc : List (List UInt8)} (h6 : voc.length ≤ 6) (X : BitVec 64) : thy voc (X &&& alW voc.length) = thy voc X := by
 cases voc with
 | nil =>
  unfold thy alW
  rw [List.length_nil, BitVec.and_assoc, BitVec.and_self]
 | cons a l =>
  have h5 : l.length ≤ 5 := by simp only [List.length_cons] at h6; omega
  have e1 := hf_mask (X := X) (b := 1) h5 (by omega)
  have e0 := hf_mask (X := X) (b := 0) h5 (by omega)
  unfold alW at e1 e0
  unfold thy alW
  rw [List.length_cons, BitVec.and_assoc, BitVec.and_self, e1, e0]
def thyE (voc : List (List UInt8)) (S : BitVec 64) : F × Int := if vocOk voc = true then (thy voc S, 0) else (F.mk 0 [] [], 1)
end Am

namespace Am
open Go
def ones (x : BitVec 64) : Nat → Nat
 | 0 => 0
 | n + 1 => ones x n + (x.getLsbD n).toNat
def onesN (x : Nat) : Nat → Nat
 | 0 => 0
 | n + 1 => x % 2 + onesN (x / 2) n
theorem bit_toNat (x n : Nat) : (x.testBit n).toNat = x / 2 ^ n % 2 := by
 rw [Nat.testBit_eq_decide_div_mod_eq]
 rcases Nat.mod_two_eq_zero_or_one (x / 2 ^ n) with h | h <;> simp [h]
theorem onesN_succ (n : Nat) : ∀ x, onesN x (n + 1) = onesN x n + x / 2 ^ n % 2 := by
 induction n with
 | zero => intro x; simp [onesN]
 | succ n ih =>
  intro x
  have h : x / 2 / 2 ^ n = x / 2 ^ (n + 1) := by rw [Nat.div_div_eq_div_mul, Nat.pow_succ, Nat.mul_comm]
  rw [onesN, ih (x / 2), h, onesN]; omega
theorem ones_N (x : BitVec 64) : ∀ n, ones x n = onesN x.toNat n
 | 0 => rfl
 | n + 1 => by rw [ones, ones_N x n, onesN_succ, ← bit_toNat]; rfl
def mk (B m : Nat) : Nat → Nat
 | 0 => 0
 | k + 1 => B * mk B m k + m
theorem and_step (t B q r m M : Nat) (hB : B = 2 ^ t) (hr : r < B) (hm : m < B) : (B * q + r) &&& (B * M + m) = B * (q &&& M) + (r &&& m) := by
 subst hB
 have e := Nat.div_add_mod ((2 ^ t * q + r) &&& (2 ^ t * M + m)) (2 ^ t)
 have hp : 0 < 2 ^ t := Nat.two_pow_pos t
 rw [Nat.and_div_two_pow, Nat.and_mod_two_pow] at e
 have d1 : (2 ^ t * q + r) / 2 ^ t = q := by rw [Nat.mul_add_div hp, Nat.div_eq_of_lt hr]; omega
 have d2 : (2 ^ t * M + m) / 2 ^ t = M := by rw [Nat.mul_add_div hp, Nat.div_eq_of_lt hm]; omega
 have d3 : (2 ^ t * q + r) % 2 ^ t = r := by rw [Nat.mul_add_mod, Nat.mod_eq_of_lt hr]
 have d4 : (2 ^ t * M + m) % 2 ^ t = m := by rw [Nat.mul_add_mod, Nat.mod_eq_of_lt hm]
 rw [d1, d2, d3, d4] at e
 exact e.symm
def s1 (X k : Nat) : Nat := (X / 2 &&& mk 256 85 k) + (X &&& mk 256 85 k)
def s2 (X k : Nat) : Nat := (X / 4 &&& mk 256 51 k) + (X &&& mk 256 51 k)
def s3 (X k : Nat) : Nat := (X / 16 + X) &&& mk 256 15 k
theorem shift_and (s q b m M : Nat) (hs : s ≤ 8) (hb : b < 256) (hm : m < 2 ^ (8 - s)) : ((256 * q + b) / 2 ^ s) &&& (256 * M + m) = 256 * ((q / 2 ^ s) &&& M) + ((b / 2 ^ s) &&& m) := by
 have h1 : (256 * q + b) / 2 ^ s = 256 * (q / 2 ^ s) + (2 ^ (8 - s) * (q % 2 ^ s) + b / 2 ^ s) := by
  have h8 : 256 = 2 ^ (8 - s) * 2 ^ s := by rw [← Nat.pow_add, show 8 - s + s = 8 by omega]
  have hp : 0 < 2 ^ s := Nat.two_pow_pos s
  have hq := Nat.div_add_mod q (2 ^ s)
  have : 256 * q + b = 2 ^ s * (2 ^ (8 - s) * q) + b := by
   conv => lhs; rw [h8]
   rw [Nat.mul_comm (2 ^ (8 - s)), Nat.mul_assoc]
  rw [this, Nat.mul_add_div hp]
  have : 2 ^ (8 - s) * q = 256 * (q / 2 ^ s) + 2 ^ (8 - s) * (q % 2 ^ s) := by
   conv => lhs; rw [← hq]
   rw [Nat.mul_add, ← Nat.mul_assoc, ← h8]
  omega
 have hlow : b / 2 ^ s < 2 ^ (8 - s) := by
  rw [Nat.div_lt_iff_lt_mul (Nat.two_pow_pos s), ← Nat.pow_add, show 8 - s + s = 8 by omega]; exact hb
 have hqs : q % 2 ^ s < 2 ^ s := Nat.mod_lt _ (Nat.two_pow_pos s)
 have hle : 2 ^ (8 - s) ≤ 256 := by
  have := Nat.pow_le_pow_right (show 0 < 2 by omega) (show 8 - s ≤ 8 by omega)
  exact this
 have hsum : 2 ^ (8 - s) * (q % 2 ^ s) + b / 2 ^ s < 256 := by
  have h2 : 2 ^ (8 - s) * (q % 2 ^ s + 1) ≤ 2 ^ (8 - s) * 2 ^ s := Nat.mul_le_mul_left _ hqs
  rw [← Nat.pow_add, show 8 - s + s = 8 by omega, Nat.mul_add] at h2
  omega
 rw [h1, and_step 8 256 (q / 2 ^ s) _ m M rfl hsum (by omega)]
 congr 1
 have e := and_step (8 - s) (2 ^ (8 - s)) (q % 2 ^ s) (b / 2 ^ s) m 0 rfl hlow hm
 simpa using e
theorem s1_step (q b k : Nat) (hb : b < 256) : s1 (256 * q + b) (k + 1) = 256 * s1 q k + s1 b 1 := by
 unfold s1
 have h1 := shift_and 1 q b 85 (mk 256 85 k) (by omega) hb (by decide)
 have h2 := and_step 8 256 q b 85 (mk 256 85 k) rfl hb (by decide)
 simp only [Nat.pow_one] at h1
 simp only [mk, Nat.mul_zero, Nat.zero_add]
 rw [h1, h2]; omega
theorem s2_step (q b k : Nat) (hb : b < 256) : s2 (256 * q + b) (k + 1) = 256 * s2 q k + s2 b 1 := by
 unfold s2
 have h1 := shift_and 2 q b 51 (mk 256 51 k) (by omega) hb (by decide)
 have h2 := and_step 8 256 q b 51 (mk 256 51 k) rfl hb (by decide)
 simp only [show (2 : Nat) ^ 2 = 4 from rfl] at h1
 simp only [mk, Nat.mul_zero, Nat.zero_add]
 rw [h1, h2]; omega
theorem byte_facts : ∀ b, b < 256 → s1 b 1 < 256 ∧ s2 (s1 b 1) 1 < 256 ∧ s2 (s1 b 1) 1 % 16 ≤ 4 ∧ s2 (s1 b 1) 1 / 16 ≤ 4 ∧ (s2 (s1 b 1) 1 / 16 + s2 (s1 b 1) 1) % 16 = onesN b 8 ∧ onesN b 8 ≤ 8 := by decide +kernel
theorem onesN_byte (q b n : Nat) (hb : b < 256) : onesN (256 * q + b) (n + 8) = onesN b 8 + onesN q n := by
 have e : (256 * q + b) / 2 / 2 / 2 / 2 / 2 / 2 / 2 / 2 = q := by omega
 have e2 : b / 2 / 2 / 2 / 2 / 2 / 2 / 2 / 2 = 0 := by omega
 simp only [onesN]
 rw [e]
 omega
def dig (X : Nat) : Nat → Nat
 | 0 => 0
 | k + 1 => 256 * dig (X / 256) k + onesN (X % 256) 8
theorem sw_dig : ∀ (k X : Nat), s2 (s1 X k) k % 16 ≤ 4 ∧ s3 (s2 (s1 X k) k) k = dig X k
 | 0, X => by simp [s1, s2, s3, mk, dig]
 | k + 1, X => by
  obtain ⟨i1, i2⟩ := sw_dig k (X / 256)
  have hb : X % 256 < 256 := Nat.mod_lt _ (by omega)
  have hx : X = 256 * (X / 256) + X % 256 := (Nat.div_add_mod X 256).symm
  obtain ⟨f1, f2, f3, f4, f5, f6⟩ := byte_facts (X % 256) hb
  have e1 : s1 X (k + 1) = 256 * s1 (X / 256) k + s1 (X % 256) 1 := by
   conv => lhs; rw [hx]
   exact s1_step _ _ _ hb
  have e2 : s2 (s1 X (k + 1)) (k + 1) = 256 * s2 (s1 (X / 256) k) k + s2 (s1 (X % 256) 1) 1 := by rw [e1]; exact s2_step _ _ _ f1
  rw [e2, dig]
  generalize s2 (s1 (X / 256) k) k = A at *
  generalize s2 (s1 (X % 256) 1) 1 = n at *
  refine ⟨by omega, ?_⟩
  unfold s3 at i2 ⊢
  have hs : (256 * A + n) / 16 + (256 * A + n) = 256 * (A / 16 + A) + (16 * (A % 16) + n / 16 + n) := by omega
  have h3 := and_step 8 256 (A / 16 + A) (16 * (A % 16) + n / 16 + n) 15 (mk 256 15 k) rfl (by omega) (by decide)
  simp only [mk]
  rw [hs, h3, i2]
  have h4 : (16 * (A % 16) + n / 16 + n) &&& 15 = (16 * (A % 16) + n / 16 + n) % 16 := Nat.and_two_pow_sub_one_eq_mod _ 4
  rw [h4]; omega
theorem dig_sum (X : Nat) : ∃ p0 p1 p2 p3 p4 p5 p6 p7, p0 ≤ 8 ∧ p1 ≤ 8 ∧ p2 ≤ 8 ∧ p3 ≤ 8 ∧ p4 ≤ 8 ∧ p5 ≤ 8 ∧ p6 ≤ 8 ∧ p7 ≤ 8 ∧ onesN X 64 = p0 + p1 + p2 + p3 + p4 + p5 + p6 + p7 ∧ dig X 8 = 256 * (256 * (256 * (256 * (256 * (256 * (256 * (256 * 0 + p7) + p6) + p5) + p4) + p3) + p2) + p1) + p0 := by
 have hb : ∀ Y : Nat, onesN (Y % 256) 8 ≤ 8 := fun Y => (byte_facts (Y % 256) (Nat.mod_lt _ (by omega))).2.2.2.2.2
 have st : ∀ (Y n : Nat), onesN Y (n + 8) = onesN (Y % 256) 8 + onesN (Y / 256) n := fun Y n => by
  have := onesN_byte (Y / 256) (Y % 256) n (Nat.mod_lt _ (by omega))
  rwa [Nat.div_add_mod] at this
 refine ⟨_, _, _, _, _, _, _, _, hb X, hb (X / 256), hb (X / 256 / 256), hb (X / 256 / 256 / 256), hb (X / 256 / 256 / 256 / 256), hb (X / 256 / 256 / 256 / 256 / 256), hb (X / 256 / 256 / 256 / 256 / 256 / 256), hb (X / 256 / 256 / 256 / 256 / 256 / 256 / 256), ?_, rfl⟩
 rw [st X 56, st _ 48, st _ 40, st _ 32, st _ 24, st _ 16, st _ 8, st _ 0]
 simp only [onesN]; omega
theorem fold_dig (y p0 p1 p2 p3 p4 p5 p6 p7 : Nat) (h0 : p0 ≤ 8) (h1 : p1 ≤ 8) (h2 : p2 ≤ 8) (h3 : p3 ≤ 8) (h4 : p4 ≤ 8) (h5 : p5 ≤ 8) (h6 : p6 ≤ 8) (h7 : p7 ≤ 8) (hy : y = 256 * (256 * (256 * (256 * (256 * (256 * (256 * (256 * 0 + p7) + p6) + p5) + p4) + p3) + p2) + p1) + p0) :
 ∃ z u v, z = y + y / 256 ∧ u = z + z / 65536 ∧ v = u + u / 4294967296 ∧ v < 9223372036854775808 ∧ v % 128 = p0 + p1 + p2 + p3 + p4 + p5 + p6 + p7 := by
 have e1 : y / 256 = 256 * (256 * (256 * (256 * (256 * (256 * p7 + p6) + p5) + p4) + p3) + p2) + p1 := by omega
 refine ⟨_, _, _, rfl, rfl, rfl, ?_⟩
 have e2 : y + y / 256 = 256 * (256 * (256 * (256 * (256 * (256 * (256 * p7 + (p6 + p7)) + (p5 + p6)) + (p4 + p5)) + (p3 + p4)) + (p2 + p3)) + (p1 + p2)) + (p0 + p1) := by omega
 generalize y + y / 256 = z at *
 have e3 : z / 65536 = 256 * (256 * (256 * (256 * (256 * p7 + (p6 + p7)) + (p5 + p6)) + (p4 + p5)) + (p3 + p4)) + (p2 + p3) := by omega
 have e4 : z + z / 65536 = 256 * (256 * (256 * (256 * (256 * (256 * (256 * p7 + (p6 + p7)) + (p5 + p6 + p7)) + (p4 + p5 + p6 + p7)) + (p3 + p4 + p5 + p6)) + (p2 + p3 + p4 + p5)) + (p1 + p2 + p3 + p4)) + (p0 + p1 + p2 + p3) := by omega
 generalize z + z / 65536 = u at *
 have e5 : u / 4294967296 = 256 * (256 * (256 * p7 + (p6 + p7)) + (p5 + p6 + p7)) + (p4 + p5 + p6 + p7) := by omega
 clear e1 e2 e3 hy
 omega
theorem uN_bv {a : Nat} (h : a < 18446744073709551616) : D.int .u64 (a : Int) = bvD (BitVec.ofNat 64 a) := by
 unfold bvD; rw [BitVec.toNat_ofNat, Nat.mod_eq_of_lt (by omega)]
theorem bvD_nat (x : BitVec 64) {a : Nat} (h : x.toNat = a) : bvD x = D.int .u64 (a : Int) := by unfold bvD; rw [h]
theorem u_shr {a : Nat} (h : a < 18446744073709551616) (n : Nat) : PO.eval (.bin .shr false) [.int .u64 (a : Int), .int .u64 (n : Int)] = some [.int .u64 ((a / 2 ^ n : Nat) : Int)] := by
 rw [uN_bv h, bv_shr]
 congr 2
 exact bvD_nat _ (by rw [BitVec.toNat_ushiftRight, Nat.shiftRight_eq_div_pow, BitVec.toNat_ofNat, Nat.mod_eq_of_lt (by omega)])
theorem u_and {a b : Nat} (h : a < 18446744073709551616) (h' : b < 18446744073709551616) : PO.eval (.bin .and false) [.int .u64 (a : Int), .int .u64 (b : Int)] = some [.int .u64 ((a &&& b : Nat) : Int)] := by
 rw [uN_bv h, uN_bv h', bv_and]
 congr 2
 exact bvD_nat _ (by rw [BitVec.toNat_and, BitVec.toNat_ofNat, BitVec.toNat_ofNat, Nat.mod_eq_of_lt (by omega), Nat.mod_eq_of_lt (by omega)])
theorem u_add {a b : Nat} (h : a + b < 18446744073709551616) : PO.eval (.bin .add false) [.int .u64 (a : Int), .int .u64 (b : Int)] = some [.int .u64 ((a + b : Nat) : Int)] := by
 show one1 (some (.int .u64 (IntKind.u64.wrap ((a : Int) + (b : Int))))) = _
 rw [wrapU (by omega) (by omega)]; rfl
end Am

namespace Am
open Go
def low (x : BitVec 64) : Nat := Lib.ctz 64 x.toNat
theorem low_nat (x : Nat) (h0 : x ≠ 0) (h : x < 2 ^ 64) : ∃ m k, x = 2 ^ k * (2 * m + 1) ∧ k < 64 ∧ Lib.ctz 64 x = k ∧ x &&& (x - 1) = 2 ^ (k + 1) * m := by
 obtain ⟨m, hm, hk⟩ := Lib.ctzFrom_spec 64 x (by omega) h
 refine ⟨m, _, hm, hk, by unfold Lib.ctz; rw [if_neg h0], ?_⟩
 generalize Lib.ctzFrom 64 x = k at *
 have hp : 0 < 2 ^ k := Nat.two_pow_pos k
 have hB : 2 ^ (k + 1) = 2 * 2 ^ k := by rw [Nat.pow_succ]; omega
 have e1 : x = 2 ^ (k + 1) * m + 2 ^ k := by rw [hm, Nat.mul_add, Nat.mul_one, hB, ← Nat.mul_assoc, Nat.mul_comm (2 ^ k) 2]
 have e2 : x - 1 = 2 ^ (k + 1) * m + (2 ^ k - 1) := by omega
 have h3 : 2 ^ k &&& (2 ^ k - 1) = 0 := by rw [Nat.and_two_pow_sub_one_eq_mod]; simp
 rw [e2]
 conv => lhs; rw [e1]
 rw [and_step (k + 1) (2 ^ (k + 1)) m (2 ^ k) (2 ^ k - 1) m rfl (by omega) (by omega), Nat.and_self, h3, Nat.add_zero]
theorem low_spec (x : BitVec 64) (hx : x ≠ 0#64) : low x < 64 ∧ x.getLsbD (low x) = true ∧ (∀ w, w < low x → x.getLsbD w = false) ∧ ∀ w, (x &&& (x - 1#64)).getLsbD w = (x.getLsbD w && !decide (w = low x)) := by
 have hx0 : x.toNat ≠ 0 := fun h => hx (BitVec.eq_of_toNat_eq (by simpa using h))
 obtain ⟨m, k, e, hk, hc, ha⟩ := low_nat x.toNat hx0 x.isLt
 have hlow : low x = k := hc
 rw [hlow]
 have hB : 2 ^ (k + 1) = 2 * 2 ^ k := by rw [Nat.pow_succ]; omega
 have e1 : x.toNat = 2 ^ (k + 1) * m + 2 ^ k := by rw [e, Nat.mul_add, Nat.mul_one, hB, ← Nat.mul_assoc, Nat.mul_comm (2 ^ k) 2]
 have hp : 0 < 2 ^ k := Nat.two_pow_pos k
 have hbit : ∀ w, x.getLsbD w = if w < k + 1 then decide (w = k) else m.testBit (w - (k + 1)) := by
  intro w
  show x.toNat.testBit w = _
  rw [e1, Nat.testBit_two_pow_mul_add _ (by omega)]
  split
  · rw [Nat.testBit_two_pow]; exact decide_eq_decide.2 ⟨fun h => h.symm, fun h => h.symm⟩
  · rfl
 refine ⟨hk, by rw [hbit]; simp, fun w hw => by rw [hbit, if_pos (by omega)]; simp; omega, fun w => ?_⟩
 have hsub : (x - 1#64).toNat = x.toNat - 1 := by
  have h1 := x.isLt
  rw [BitVec.toNat_sub]
  have h2 : (1#64 : BitVec 64).toNat = 1 := rfl
  rw [h2]
  omega
 have h2 : (x &&& (x - 1#64)).getLsbD w = (2 ^ (k + 1) * m).testBit w := by
  show (x &&& (x - 1#64)).toNat.testBit w = _
  rw [BitVec.toNat_and, hsub, ha]
 rw [h2, hbit w]
 have := Nat.testBit_two_pow_mul_add (i := k + 1) m (b := 0) (by omega) w
 rw [Nat.add_zero] at this
 rw [this]
 split
 · rename_i h
   by_cases hw : w = k <;> simp [hw]
 · have : w ≠ k := by omega
   simp [this]
def worldsTo (X : BitVec 64) (n : Nat) : List Nat := (List.range n).filter X.getLsbD
theorem worldsTo_succ (X : BitVec 64) (n : Nat) : worldsTo X (n + 1) = worldsTo X n ++ if X.getLsbD n = true then [n] else [] := by
 unfold worldsTo
 rw [List.range_succ, List.filter_append]
 congr 1
 cases h : X.getLsbD n <;> simp [h]
theorem worldsTo_skip (X : BitVec 64) (a : Nat) : ∀ d, (∀ w, a ≤ w → w < a + d → X.getLsbD w = false) → worldsTo X (a + d) = worldsTo X a
 | 0, _ => rfl
 | d + 1, h => by
  rw [← Nat.add_assoc, worldsTo_succ, h (a + d) (by omega) (by omega), worldsTo_skip X a d (fun w h1 h2 => h w h1 (by omega))]
  simp
theorem worldsTo_len (X : BitVec 64) (n : Nat) : (worldsTo X n).length ≤ n := by
 unfold worldsTo
 exact Nat.le_trans (List.length_filter_le _ _) (by simp)
def from_ (X : BitVec 64) (a : Nat) : BitVec 64 := bitsTo (fun w => decide (a ≤ w) && X.getLsbD w) 64
theorem from_get (X : BitVec 64) (a w : Nat) (hw : w < 64) : (from_ X a).getLsbD w = (decide (a ≤ w) && X.getLsbD w) := by
 unfold from_; rw [bitsTo_get _ _ _ (Nat.le_refl _)]; simp [hw]
theorem from_zero (X : BitVec 64) : from_ X 0 = X := bv_ext fun w hw => by rw [from_get _ _ _ hw]; simp
theorem from_next (X : BitVec 64) (a : Nat) (h : from_ X a ≠ 0#64) : a ≤ low (from_ X a) ∧ low (from_ X a) < 64 ∧ from_ X a &&& (from_ X a - 1#64) = from_ X (low (from_ X a) + 1) ∧ worldsTo X (low (from_ X a) + 1) = worldsTo X a ++ [low (from_ X a)] := by
 obtain ⟨h1, h2, h3, h4⟩ := low_spec _ h
 generalize hk : low (from_ X a) = k at *
 rw [from_get _ _ _ h1] at h2
 simp only [Bool.and_eq_true, decide_eq_true_eq] at h2
 refine ⟨h2.1, h1, bv_ext fun w hw => ?_, ?_⟩
 · rw [h4, from_get _ _ _ hw, from_get _ _ _ hw]
   by_cases hw1 : w < k
   · have := h3 w hw1
     rw [from_get _ _ _ hw] at this
     rw [this]
     have : ¬ k + 1 ≤ w := by omega
     simp [this]
   · by_cases hw2 : w = k
     · subst hw2
       have : ¬ w + 1 ≤ w := by omega
       simp [this]
     · have a1 : k + 1 ≤ w := by omega
       have a2 : a ≤ w := by omega
       simp [a1, a2, hw2]
 · rw [worldsTo_succ, h2.2]
   have := worldsTo_skip X a (k - a) (fun w g1 g2 => by
    have := h3 w (by omega)
    rw [from_get _ _ _ (by omega)] at this
    simpa [g1] using this)
   rw [show a + (k - a) = k by omega] at this
   rw [this]; rfl
theorem from_done (X : BitVec 64) (a : Nat) (ha : a ≤ 64) (h : from_ X a = 0#64) : worldsTo X a = worldsTo X 64 := by
 have := worldsTo_skip X a (64 - a) (fun w g1 g2 => by
  have h0 := (bv_zero_iff _).1 h w (by omega)
  rw [from_get _ _ _ (by omega)] at h0
  simpa [g1] using h0)
 rw [show a + (64 - a) = 64 by omega] at this
 exact this.symm
end Am

namespace Am
open Go
theorem mask_get {n : Nat} (hn : n ≤ 6) (X : BitVec 64) (w : Nat) : (X &&& alW n).getLsbD w = (X.getLsbD w && decide (w < 2 ^ n)) := by
 unfold alW
 rw [BitVec.getLsbD_and, bitsTo_get _ _ _ (pow6 hn)]; simp
theorem worlds_all {n : Nat} (hn : n ≤ 6) (X : BitVec 64) : worldsTo (X &&& alW n) 64 = worldsTo X (2 ^ n) := by
 have h64 := pow6 hn
 have h1 := worldsTo_skip (X &&& alW n) (2 ^ n) (64 - 2 ^ n) (fun w h1 h2 => by
  rw [mask_get hn]
  have : ¬ w < 2 ^ n := by omega
  simp [this])
 rw [show 2 ^ n + (64 - 2 ^ n) = 64 by omega] at h1
 rw [h1]
 unfold worldsTo
 refine List.filter_congr fun w hw => ?_
 rw [List.mem_range] at hw
 rw [mask_get hn]; simp [hw]
end Am

namespace Am
open Go
end Am

namespace Am
open Go
def Pat (l m : List Int) : Prop := l.length = m.length ∧ ∀ i j, i < l.length → j < l.length → (l.getD i 0 < l.getD j 0 ↔ m.getD i 0 < m.getD j 0)
theorem Pat.symm {l m : List Int} (h : Pat l m) : Pat m l := ⟨h.1.symm, fun i j hi hj => (h.2 i j (h.1 ▸ hi) (h.1 ▸ hj)).symm⟩
theorem Pat.trans {l m k : List Int} (h : Pat l m) (h' : Pat m k) : Pat l k := ⟨h.1.trans h'.1, fun i j hi hj => (h.2 i j hi hj).trans (h'.2 i j (h.1 ▸ hi) (h.1 ▸ hj))⟩
theorem Pat.eq {l m : List Int} (h : Pat l m) {i j : Nat} (hi : i < l.length) (hj : j < l.length) : l.getD i 0 = l.getD j 0 ↔ m.getD i 0 = m.getD j 0 := by
 have h1 := h.2 i j hi hj
 have h2 := h.2 j i hj hi
 constructor <;> intro e <;> omega
theorem gd {l : List Int} {i : Nat} (h : i < l.length) : l.getD i 0 = l[i] := by simp [h]
theorem below_pat {l m : List Int} (h : Pat l m) {i : Nat} (hi : i < l.length) : ∀ k, k ≤ l.length →
 ∃ js : List Nat, (∀ j ∈ js, j < l.length) ∧ (l.take k).foldl (belowF (l.getD i 0)) [] = js.map (fun j => l.getD j 0) ∧ (m.take k).foldl (belowF (m.getD i 0)) [] = js.map (fun j => m.getD j 0)
 | 0, _ => ⟨[], by simp, by simp, by simp⟩
 | k + 1, hk => by
  obtain ⟨js, h1, h2, h3⟩ := below_pat h hi k (by omega)
  have hm := h.1
  have tl : l.take (k + 1) = l.take k ++ [l.getD k 0] := by rw [List.take_add_one, List.getElem?_eq_getElem (by omega), gd (by omega)]; rfl
  have tm : m.take (k + 1) = m.take k ++ [m.getD k 0] := by rw [List.take_add_one, List.getElem?_eq_getElem (by omega), gd (by omega)]; rfl
  rw [tl, tm, List.foldl_append, List.foldl_append, h2, h3]
  simp only [List.foldl_cons, List.foldl_nil]
  have e1 := h.2 k i (by omega) hi
  have e2 : (l.getD k 0 ∈ js.map fun j => l.getD j 0) ↔ (m.getD k 0 ∈ js.map fun j => m.getD j 0) := by
   simp only [List.mem_map]
   exact ⟨fun ⟨j, hj, he⟩ => ⟨j, hj, (h.eq (h1 j hj) (by omega)).1 he⟩, fun ⟨j, hj, he⟩ => ⟨j, hj, (h.eq (h1 j hj) (by omega)).2 he⟩⟩
  by_cases c : l.getD k 0 < l.getD i 0 ∧ l.getD k 0 ∉ js.map fun j => l.getD j 0
  · have c' : m.getD k 0 < m.getD i 0 ∧ m.getD k 0 ∉ js.map fun j => m.getD j 0 := ⟨e1.1 c.1, fun hx => c.2 (e2.2 hx)⟩
    refine ⟨js ++ [k], fun j hj => ?_, ?_, ?_⟩
    · rcases List.mem_append.1 hj with hj | hj
      · exact h1 j hj
      · simp only [List.mem_singleton] at hj; omega
    · unfold belowF; rw [if_pos c]; simp
    · unfold belowF; rw [if_pos c']; simp
  · have c' : ¬ (m.getD k 0 < m.getD i 0 ∧ m.getD k 0 ∉ js.map fun j => m.getD j 0) := fun ⟨a, b⟩ => c ⟨e1.2 a, fun hx => b (e2.1 hx)⟩
    exact ⟨js, h1, by unfold belowF; rw [if_neg c], by unfold belowF; rw [if_neg c']⟩
theorem norm_pat {l m : List Int} (h : Pat l m) : normS l = normS m := by
 have hm := h.1
 unfold normS
 refine List.ext_getElem (by simp [hm]) fun i h1 h2 => ?_
 have hi : i < l.length := by simpa using h1
 obtain ⟨js, _, e1, e2⟩ := below_pat h hi l.length (Nat.le_refl _)
 rw [List.take_length] at e1
 rw [hm, List.take_length] at e2
 simp only [List.getElem_map, belowL, ← gd hi, ← gd (show i < m.length by omega), e1, e2, List.length_map]
theorem pat_norm (l : List Int) : Pat (normS l) l := by
 refine ⟨by simp [normS], fun i j hi hj => ?_⟩
 have hi' : i < l.length := by simpa [normS] using hi
 have hj' : j < l.length := by simpa [normS] using hj
 rw [gd hi, gd hj, gd hi', gd hj']
 simp only [normS, List.getElem_map]
 constructor
 · intro h
   refine Int.not_le.1 fun hc => ?_
   have := belowL_le l hc
   omega
 · intro h
   have := belowL_lt (List.getElem_mem hi') h
   omega
def Rk (N : Nat) (l : List Int) : Prop := l.length = N ∧ ∀ r ∈ l, 0 ≤ r ∧ r < N
theorem rk_norm (l : List Int) : Rk l.length (normS l) := by
 refine ⟨by simp [normS], fun r hr => ?_⟩
 unfold normS at hr
 obtain ⟨x, hx, rfl⟩ := List.mem_map.1 hr
 have := belowL_bound hx
 omega
end Am

namespace Am
open Go
def nxtP (k : Int) (N : Nat) (m l : BitVec 64) (r : Int) (w : Nat) : Int :=
 if k = 2 then (if m.getLsbD w = true then 3 * (r + 1) - 3 * (N + 1) else 3 * (r + 1))
 else if l.getLsbD w = true then 0 else if k = 3 ∧ ¬ m.getLsbD w = true then 3 * (r + 1) + 1 else 3 * (r + 1)
def nxtPL (k : Int) (o : List Int) (m l : BitVec 64) : List Int := (List.range o.length).map fun w => nxtP k o.length m l (o.getD w 0) w
theorem nxtP_get {k : Int} {o : List Int} {m l : BitVec 64} {w : Nat} (h : w < o.length) : (nxtPL k o m l).getD w 0 = nxtP k o.length m l (o.getD w 0) w := by
 rw [gd (by simpa [nxtPL] using h)]; simp [nxtPL]
theorem rk_get {N : Nat} {o : List Int} (h : Rk N o) {w : Nat} (hw : w < N) : 0 ≤ o.getD w 0 ∧ o.getD w 0 < N := by
 have := h.2 (o.getD w 0) (by rw [gd (by rw [h.1]; exact hw)]; exact List.getElem_mem _)
 exact this
def Nlt (k : Int) (m l : BitVec 64) (r : Nat → Int) (v w : Nat) : Prop :=
 (k = 2 → (has m v ∧ ¬ has m w) ∨ ((has m v ↔ has m w) ∧ r v < r w)) ∧
 (k = 1 → (has l v ∧ ¬ has l w) ∨ (¬ has l v ∧ ¬ has l w ∧ r v < r w)) ∧
 (k = 3 → (has l v ∧ ¬ has l w) ∨ (¬ has l v ∧ ¬ has l w ∧ (r v < r w ∨ (r v = r w ∧ has m v ∧ ¬ has m w))))
theorem nxtP_lt {N : Nat} {o : List Int} (ho : Rk N o) {k : Int} (hk : k = 1 ∨ k = 2 ∨ k = 3) (m l : BitVec 64) {v w : Nat} (hv : v < N) (hw : w < N) :
 (nxtPL k o m l).getD v 0 < (nxtPL k o m l).getD w 0 ↔ Nlt k m l (fun i => o.getD i 0) v w := by
 have h1 := rk_get ho hv
 have h2 := rk_get ho hw
 obtain ⟨rfl, _⟩ := ho
 rw [nxtP_get hv, nxtP_get hw]
 unfold nxtP Nlt has
 simp only
 generalize o.getD v 0 = x at *
 generalize o.getD w 0 = y at *
 rcases hk with rfl | rfl | rfl <;> cases m.getLsbD v <;> cases m.getLsbD w <;> cases l.getLsbD v <;> cases l.getLsbD w <;> simp <;> omega
def nextS (names : List (List UInt8)) (k : Int) (o : List Int) (m : BitVec 64) : List Int := normS (nxtPL k o m (leastS names o m))
theorem next_rk {N : Nat} {o : List Int} (ho : Rk N o) (names : List (List UInt8)) (k : Int) (m : BitVec 64) : Rk N (nextS names k o m) := by
 have := rk_norm (nxtPL k o m (leastS names o m))
 have hl : (nxtPL k o m (leastS names o m)).length = N := by simp [nxtPL, ho.1]
 rw [hl] at this
 exact this
theorem next_lt {N : Nat} {o : List Int} (ho : Rk N o) (names : List (List UInt8)) {k : Int} (hk : k = 1 ∨ k = 2 ∨ k = 3) (m : BitVec 64) {v w : Nat} (hv : v < N) (hw : w < N) :
 (nextS names k o m).getD v 0 < (nextS names k o m).getD w 0 ↔ Nlt k m (leastS names o m) (fun i => o.getD i 0) v w := by
 rw [← nxtP_lt ho hk m _ hv hw]
 have hl : (nextS names k o m).length = N := (next_rk ho names k m).1
 exact (pat_norm _).2 v w (by unfold nextS at hl; omega) (by unfold nextS at hl; omega)
structure Ord (names : List (List UInt8)) (N : Nat) (o : List Int) : Prop where
 ok : orderE names o = 0
 rk : Rk N o
theorem Ord.least {names : List (List UInt8)} {N : Nat} {o : List Int} (h : Ord names N o) (S : BitVec 64) (w : Nat) : has (leastS names o S) w ↔ w < N ∧ has S w ∧ ∀ v, v < N → has S v → ¬ o.getD v 0 < o.getD w 0 := by
 have hl := (leastS_lst h.ok).get S w
 obtain ⟨rfl, _⟩ := h.rk
 have g0 : ∀ {i : Nat}, i < o.length → o.getD i (-1) = o.getD i 0 := fun h => by simp [h]
 rw [hl]
 constructor
 · rintro ⟨h1, h2, h3⟩
   refine ⟨h1, h2, fun v hv hs => ?_⟩
   have := h3 v hv hs
   rw [g0 h1, g0 hv] at this
   omega
 · rintro ⟨h1, h2, h3⟩
   refine ⟨h1, h2, fun v hv hs => ?_⟩
   have := h3 v hv hs
   rw [g0 h1, g0 hv]
   omega
theorem Ord.ex {names : List (List UInt8)} {N : Nat} {o : List Int} (h : Ord names N o) {S : BitVec 64} {v : Nat} (hv : v < N) (hs : has S v) : ∃ w, has (leastS names o S) w := by
 have := (leastS_lst h.ok).ex (S := S) (v := v) (by rw [h.rk.1]; exact hv) hs
 exact this
theorem Ord.le {names : List (List UInt8)} {N : Nat} {o : List Int} (h : Ord names N o) : N ≤ 64 := by
 have := (orderE_len h.ok).1
 rw [h.rk.1] at this; exact this
section
variable {names : List (List UInt8)} {N : Nat} {o : List Int} (h : Ord names N o) {k : Int} (hk : k = 1 ∨ k = 2 ∨ k = 3)
include h hk
theorem next_bel {m : BitVec 64} (hX : Ord names N (nextS names k o m)) (hm : ∃ u, u < N ∧ has m u) : leastS names (nextS names k o m) (BitVec.allOnes 64) = leastS names o m := by
 obtain ⟨u, hu, hmu⟩ := hm
 obtain ⟨z, hz⟩ := h.ex hu hmu
 have hz' := (h.least m z).1 hz
 have h64 := h.le
 refine set_eq fun w => ?_
 rw [hX.least]
 constructor
 · rintro ⟨h1, _, h3⟩
   have hn := h3 z hz'.1 (has_top.2 (by omega))
   rw [next_lt h.rk names hk m hz'.1 h1] at hn
   rcases hk with rfl | rfl | rfl
   · by_cases hw : has (leastS names o m) w
     · exact hw
     · exact absurd ⟨fun e => by omega, fun _ => .inl ⟨hz, hw⟩, fun e => by omega⟩ hn
   · by_cases hw : has m w
     · refine (h.least m w).2 ⟨h1, hw, fun v hv hs hlt => ?_⟩
       have := h3 v hv (has_top.2 (by omega))
       rw [next_lt h.rk names (.inr (.inl rfl)) m hv h1] at this
       exact this ⟨fun _ => .inr ⟨⟨fun _ => hw, fun _ => hs⟩, hlt⟩, fun e => by omega, fun e => by omega⟩
     · exact absurd ⟨fun _ => .inl ⟨hz'.2.1, hw⟩, fun e => by omega, fun e => by omega⟩ hn
   · by_cases hw : has (leastS names o m) w
     · exact hw
     · exact absurd ⟨fun e => by omega, fun e => by omega, fun _ => .inl ⟨hz, hw⟩⟩ hn
 · intro hw
   have hw' := (h.least m w).1 hw
   refine ⟨hw'.1, has_top.2 (by omega), fun v hv _ => ?_⟩
   rw [next_lt h.rk names hk m hv hw'.1]
   rintro ⟨a, b, c⟩
   rcases hk with rfl | rfl | rfl
   · rcases b rfl with ⟨_, hc⟩ | ⟨_, hc, _⟩ <;> exact hc hw
   · rcases a rfl with ⟨_, hc⟩ | ⟨hc, hlt⟩
     · exact hc hw'.2.1
     · exact hw'.2.2 v hv (hc.2 hw'.2.1) hlt
   · rcases c rfl with ⟨_, hc⟩ | ⟨_, hc, _⟩ <;> exact hc hw
end
def itE (names : List (List UInt8)) (ranks : List Int) (f : F) (k : Int) : Int :=
 if orderE names ranks ≠ 0 then orderE names ranks else if ¬ (1 ≤ k ∧ k ≤ 3) then 4 else if modelsE names f ≠ 0 then modelsE names f else if modelsS names f = 0#64 then 9 else 0
end Am

namespace Am
open Go
theorem validate_zero {f : F} (h : validate f = 0) : f.size ≤ 600 ∧ f.depth ≤ 20 ∧ good f = true := by
 unfold validate at h
 split at h
 · simp at h
 · rename_i h1
   simp only [Bool.or_eq_true, decide_eq_true_eq, not_or] at h1
   split at h
   · simp at h
   · rename_i h2
     split at h
     · simp at h
     · rename_i h3
       refine ⟨by omega, by omega, ?_⟩
       simp only [Bool.not_eq_true, Bool.not_eq_false'] at h2 h3
       simp [good, h2, h3]
theorem good_nameB {f : F} (h : good f = true) : F.allF nameB f = true := allF_mono (fun g hg => by simp only [lenB, nameB, decide_eq_true_eq] at hg ⊢; omega) f (good_lenB h)
theorem and_all {n : Nat} (hn : n ≤ 6) {X : BitVec 64} (h : ∀ w, has X w → w < 2 ^ n) : X &&& allS (vocN n) = X := by
 have : allS (vocN n) = alW n := by unfold allS; rw [if_pos (vocN_ok hn), vocN_len]
 rw [this]; exact sub_and hn h
theorem thy_small {n : Nat} (hn : n ≤ 6) (X : BitVec 64) : (thy (vocN n) X).size < 1000000000 ∧ F.allF nameB (thy (vocN n) X) = true := by
 have := thy_ok (vocOk_names (vocN_ok hn)) X
 have h6 := pow6 hn
 rw [Thy, vocN_len] at this
 exact ⟨by have := this.2.1; omega, good_nameB this.1⟩
end Am

namespace Am
open Go
theorem ofInt_wrap (n : Int) : BitVec.ofInt 64 (IntKind.i64.wrap n) = BitVec.ofInt 64 n := by
 apply BitVec.eq_of_toNat_eq
 rw [BitVec.toNat_ofInt, BitVec.toNat_ofInt]
 congr 1
 show IntKind.i64.wrap n % 18446744073709551616 = n % 18446744073709551616
 simp only [IntKind.wrap, IntKind.bits, IntKind.signed, Bool.true_and, decide_eq_true_eq]
 split <;> omega
def dif (v w : Int) : BitVec 64 := (BitVec.ofInt 64 v ^^^ BitVec.ofInt 64 w) &&& 63#64
theorem six_get (i : Nat) : (63#64 : BitVec 64).getLsbD i = decide (i < 6) := by
 rw [show (63#64 : BitVec 64) = bitsTo (fun _ => true) 6 by decide +kernel, bitsTo_get _ _ _ (by omega), Bool.and_true]
theorem dif_get (v w : Int) (i : Nat) : (dif v w).getLsbD i = (decide (i < 6) && ((BitVec.ofInt 64 v).getLsbD i ^^ (BitVec.ofInt 64 w).getLsbD i)) := by
 unfold dif
 rw [BitVec.getLsbD_and, BitVec.getLsbD_xor, six_get, Bool.and_comm]
theorem ones_le {a b : BitVec 64} (h : ∀ w, has a w → has b w) : ∀ n, ones a n ≤ ones b n
 | 0 => Nat.le_refl _
 | n + 1 => by
  have := ones_le h n
  simp only [ones]
  cases ha : a.getLsbD n with
  | false => simp; omega
  | true => rw [h n ha]; omega
theorem ones_lt {a b : BitVec 64} (h : ∀ w, has a w → has b w) {k : Nat} (hb : has b k) (ha : ¬ has a k) : ∀ n, k < n → ones a n < ones b n
 | 0, hk => by omega
 | n + 1, hk => by
  simp only [ones]
  by_cases hkn : k = n
  · subst hkn
    have := ones_le h k
    have h1 : a.getLsbD k = false := by cases hx : a.getLsbD k with
     | false => rfl
     | true => exact absurd hx ha
    have h2 : b.getLsbD k = true := hb
    rw [h1, h2]
    simp only [Bool.toNat_false, Bool.toNat_true]; omega
  · have := ones_lt h hb ha n (by omega)
    cases hx : a.getLsbD n with
    | false => simp; omega
    | true => rw [h n hx]; omega
theorem ones_sub {a b : BitVec 64} (h : ∀ w, has a w → has b w) (hne : a ≠ b) : ones a 64 < ones b 64 := by
 obtain ⟨k, hk⟩ : ∃ k, has b k ∧ ¬ has a k := Classical.byContradiction fun hn => hne (set_eq fun w => ⟨h w, fun hb => Classical.byContradiction fun ha => hn ⟨w, hb, ha⟩⟩)
 exact ones_lt h hk.1 hk.2 64 (has_lt hk.1)
theorem ones_6 (x : BitVec 64) (h : ∀ w, has x w → w < 6) : ∀ k, ones x (6 + k) = ones x 6
 | 0 => rfl
 | k + 1 => by
  show ones x (6 + k) + _ = _
  rw [ones_6 x h k]
  cases hx : x.getLsbD (6 + k) with
  | false => simp
  | true => have := h _ hx; omega
theorem dif_6 (v w : Int) : ∀ i, has (dif v w) i → i < 6 := fun i h => by
 rw [has, dif_get, Bool.and_eq_true, decide_eq_true_eq] at h; exact h.1
def nearP (d : Int) (a b : BitVec 64) : Bool := if d = 1 then decide (ones a 64 < ones b 64) else if d = 2 then decide (a &&& ~~~b = 0#64) && !decide (a = b) else if d = 3 then decide (a = 0#64) && !decide (b = 0#64) else false
theorem near_lt {d : Int} {a b : BitVec 64} (h : nearP d a b = true) : ones a 64 < ones b 64 := by
 unfold nearP at h
 split at h
 · exact of_decide_eq_true h
 split at h
 · simp only [Bool.and_eq_true, decide_eq_true_eq, Bool.not_eq_true', decide_eq_false_iff_not] at h
   exact ones_sub (set_sub.1 h.1) h.2
 split at h
 · simp only [Bool.and_eq_true, decide_eq_true_eq, Bool.not_eq_true', decide_eq_false_iff_not] at h
   obtain ⟨rfl, h2⟩ := h
   exact ones_sub (fun w hw => by simp [has] at hw) fun e => h2 e.symm
 · cases h
def nearS (n : Nat) (v : Int) (X : BitVec 64) (d : Int) : BitVec 64 := bitsTo (fun w => X.getLsbD w && (List.range n).all (fun u => !(X.getLsbD u && nearP d (dif v u) (dif v w)))) n
theorem has_near {n : Nat} (hn : n ≤ 64) {v : Int} {X : BitVec 64} {d : Int} {w : Nat} : has (nearS n v X d) w ↔ w < n ∧ has X w ∧ ∀ u, u < n → has X u → ¬ nearP d (dif v u) (dif v w) = true := by
 unfold nearS
 rw [has_bits hn, Bool.and_eq_true, List.all_eq_true]
 constructor
 · rintro ⟨h1, h2, h3⟩
   refine ⟨h1, h2, fun u hu hx hc => ?_⟩
   have := h3 u (List.mem_range.2 hu)
   rw [hx, hc] at this
   cases this
 · rintro ⟨h1, h2, h3⟩
   refine ⟨h1, h2, fun u hu => ?_⟩
   have hu := List.mem_range.1 hu
   cases hx : X.getLsbD u with
   | false => rfl
   | true =>
    have := h3 u hu hx
    simp only [Bool.not_eq_true] at this
    rw [this]; rfl
def unionT (n : Nat) (K X : BitVec 64) (d : Int) (i : Nat) : BitVec 64 := bitsTo (fun w => (List.range i).any (fun v => K.getLsbD v && (nearS n v X d).getLsbD w)) n
def unionS (n : Nat) (K X : BitVec 64) (d : Int) : BitVec 64 := unionT n K X d n
theorem has_unionT {n : Nat} (hn : n ≤ 64) {K X : BitVec 64} {d : Int} {i w : Nat} : has (unionT n K X d i) w ↔ ∃ v, v < i ∧ has K v ∧ has (nearS n v X d) w := by
 unfold unionT
 rw [has_bits hn, List.any_eq_true]
 constructor
 · rintro ⟨h1, v, h2, h3⟩
   rw [Bool.and_eq_true] at h3
   exact ⟨v, List.mem_range.1 h2, h3.1, h3.2⟩
 · rintro ⟨v, h1, h2, h3⟩
   exact ⟨((has_near hn).1 h3).1, v, List.mem_range.2 h1, by rw [Bool.and_eq_true]; exact ⟨h2, h3⟩⟩
theorem has_union {n : Nat} (hn : n ≤ 64) {K X : BitVec 64} {d : Int} {w : Nat} : has (unionS n K X d) w ↔ ∃ v, v < n ∧ has K v ∧ has (nearS n v X d) w := has_unionT hn
section
variable {n : Nat} (hn : n ≤ 64) {K A B M X Y : BitVec 64} {d : Int} {v : Int}
include hn
theorem union_one {v : Nat} (hv : v < n) : unionS n (1#64 <<< v) M d = nearS n v M d := by
 refine set_eq fun w => ?_
 rw [has_union hn]
 constructor
 · rintro ⟨u, h1, h2, h3⟩
   rw [has, one_shl_get _ _ (by omega), decide_eq_true_eq] at h2
   subst h2; exact h3
 · intro h
   exact ⟨v, hv, by rw [has, one_shl_get _ _ (by omega)]; simp, h⟩
end
def okN (v : Int) (l : List Nat) (d : Int) (w : Nat) : Bool := l.all fun u => !nearP d (dif v u) (dif v w)
def accN (v : Int) (l : List Nat) (d : Int) (i : Nat) : BitVec 64 := bitsTo (fun w => (l.take i).contains w && okN v l d w) 64
theorem has_accN {v : Int} {l : List Nat} {d : Int} {i w : Nat} : has (accN v l d i) w ↔ w < 64 ∧ w ∈ l.take i ∧ okN v l d w = true := by
 unfold accN
 rw [has_bits (by omega), Bool.and_eq_true]
 simp
theorem accN_0 (v : Int) (l : List Nat) (d : Int) : accN v l d 0 = 0#64 := set_zero.2 fun w h => by
 rw [has_accN] at h; simp at h
theorem accN_s {v : Int} {l : List Nat} {d : Int} {i : Nat} (hi : i < l.length) (hw : l[i] < 64) : accN v l d (i + 1) = if okN v l d l[i] = true then accN v l d i ||| 1#64 <<< l[i] else accN v l d i := by
 have ht : ∀ w, w ∈ l.take (i + 1) ↔ w ∈ l.take i ∨ w = l[i] := fun w => by
  rw [List.take_add_one, List.getElem?_eq_getElem hi]; simp only [List.mem_append, Option.toList_some, List.mem_singleton]
 have e1 : ∀ w, has (1#64 <<< l[i]) w ↔ w = l[i] := fun w => by rw [has, one_shl_get _ _ hw, decide_eq_true_eq]
 refine set_eq fun w => ?_
 rw [has_accN, ht]
 by_cases ho : okN v l d l[i] = true
 · rw [if_pos ho, has_or, has_accN, e1]
   constructor
   · rintro ⟨a, b | b, c⟩
     · exact .inl ⟨a, b, c⟩
     · exact .inr b
   · rintro (⟨a, b, c⟩ | rfl)
     · exact ⟨a, .inl b, c⟩
     · exact ⟨hw, .inr rfl, ho⟩
 · rw [if_neg ho, has_accN]
   constructor
   · rintro ⟨a, b | rfl, c⟩
     · exact ⟨a, b, c⟩
     · exact absurd c ho
   · rintro ⟨a, b, c⟩
     exact ⟨a, .inl b, c⟩
theorem mem_worldsTo {X : BitVec 64} {n w : Nat} : w ∈ worldsTo X n ↔ w < n ∧ has X w := by
 unfold worldsTo
 rw [List.mem_filter, List.mem_range]
theorem accN_near {n : Nat} (hn : n ≤ 64) (v : Int) (X : BitVec 64) (d : Int) : accN v (worldsTo X n) d (worldsTo X n).length = nearS n v X d := by
 refine set_eq fun w => ?_
 rw [has_accN, has_near hn, List.take_length, mem_worldsTo]
 unfold okN
 rw [List.all_eq_true]
 constructor
 · rintro ⟨a, b, c⟩
   refine ⟨b.1, b.2, fun u hu hx hc => ?_⟩
   have := c u (mem_worldsTo.2 ⟨hu, hx⟩)
   rw [hc] at this; cases this
 · rintro ⟨a, b, c⟩
   refine ⟨by omega, ⟨a, b⟩, fun u hu => ?_⟩
   rw [mem_worldsTo] at hu
   have := c u hu.1 hu.2
   simpa using this
theorem unionT_list {n : Nat} (hn : n ≤ 64) (K X : BitVec 64) (d : Int) (i : Nat) (hi : i < (worldsTo K n).length) :
 bitsTo (fun w => ((worldsTo K n).take (i + 1)).any fun v => (nearS n v X d).getLsbD w) n = bitsTo (fun w => ((worldsTo K n).take i).any fun v => (nearS n v X d).getLsbD w) n ||| nearS n ((worldsTo K n)[i] : Nat) X d := by
 refine set_eq fun w => ?_
 rw [has_or, has_bits hn, has_bits hn, List.take_add_one, List.getElem?_eq_getElem hi, List.any_append, Bool.or_eq_true]
 simp only [Option.toList_some, List.any_cons, List.any_nil, Bool.or_false]
 constructor
 · rintro ⟨a, b | b⟩
   · exact .inl ⟨a, b⟩
   · exact .inr b
 · rintro (⟨a, b⟩ | b)
   · exact ⟨a, .inl b⟩
   · exact ⟨((has_near hn).1 b).1, .inr b⟩
theorem union_list {n : Nat} (hn : n ≤ 64) (K X : BitVec 64) (d : Int) : bitsTo (fun w => ((worldsTo K n).take (worldsTo K n).length).any fun v => (nearS n v X d).getLsbD w) n = unionS n K X d := by
 refine set_eq fun w => ?_
 rw [has_bits hn, has_union hn, List.take_length, List.any_eq_true]
 constructor
 · rintro ⟨a, v, b, c⟩
   rw [mem_worldsTo] at b
   exact ⟨v, b.1, b.2, c⟩
 · rintro ⟨v, a, b, c⟩
   exact ⟨((has_near hn).1 c).1, v, mem_worldsTo.2 ⟨a, b⟩, c⟩
end Am

namespace Am
open Go
def dsL (w : Nat) (l : List Nat) : Nat := l.foldl (fun (m v : Nat) => min m (ones (dif v w) 64)) 7
def dsS (n : Nat) (X : BitVec 64) (w : Nat) : Nat := dsL w (worldsTo X n)
theorem foldmin_le (w : Nat) : ∀ (l : List Nat) (a : Nat), l.foldl (fun (m v : Nat) => min m (ones (dif v w) 64)) a ≤ a ∧ ∀ v ∈ l, l.foldl (fun (m v : Nat) => min m (ones (dif v w) 64)) a ≤ ones (dif v w) 64
 | [], a => by simp
 | v :: l, a => by
  obtain ⟨h1, h2⟩ := foldmin_le w l (min a (ones (dif v w) 64))
  simp only [List.foldl_cons]
  refine ⟨by omega, fun x hx => ?_⟩
  rcases List.mem_cons.1 hx with rfl | hx
  · omega
  · exact h2 x hx
theorem foldmin_ex (w : Nat) : ∀ (l : List Nat) (a : Nat), l.foldl (fun (m v : Nat) => min m (ones (dif v w) 64)) a = a ∨ ∃ v ∈ l, l.foldl (fun (m v : Nat) => min m (ones (dif v w) 64)) a = ones (dif v w) 64
 | [], a => .inl rfl
 | v :: l, a => by
  simp only [List.foldl_cons]
  rcases foldmin_ex w l (min a (ones (dif v w) 64)) with h | ⟨x, hx, h⟩
  · rw [h]
    by_cases hc : a ≤ ones (dif v w) 64
    · left; omega
    · right; exact ⟨v, List.mem_cons_self, by omega⟩
  · exact .inr ⟨x, List.mem_cons_of_mem _ hx, h⟩
theorem ones_six (v w : Int) : ones (dif v w) 64 ≤ 6 := by
 rw [show ones (dif v w) 64 = ones (dif v w) 6 from ones_6 _ (dif_6 v w) 58]
 have : ∀ k, ones (dif v w) k ≤ k := fun k => by
  induction k with
  | zero => exact Nat.le_refl _
  | succ k ih =>
   have : ((dif v w).getLsbD k).toNat ≤ 1 := by cases (dif v w).getLsbD k <;> simp
   simp only [ones]; omega
 exact this 6
theorem dst_le {n : Nat} {X : BitVec 64} {v : Nat} (hv : v < n) (hx : has X v) (w : Nat) : dsS n X w ≤ ones (dif v w) 64 :=
 (foldmin_le w _ 7).2 v (mem_worldsTo.2 ⟨hv, hx⟩)
theorem dst_ex {n : Nat} {X : BitVec 64} {u : Nat} (hu : u < n) (hx : has X u) (w : Nat) : ∃ v, v < n ∧ has X v ∧ dsS n X w = ones (dif v w) 64 := by
 rcases foldmin_ex w (worldsTo X n) 7 with h | ⟨v, hv, h⟩
 · have h1 := dst_le hu hx w
   have h2 := ones_six u w
   unfold dsS dsL at h1
   omega
 · rw [mem_worldsTo] at hv
   exact ⟨v, hv.1, hv.2, h⟩
theorem dst_6 {n : Nat} {X : BitVec 64} {u : Nat} (hu : u < n) (hx : has X u) (w : Nat) : dsS n X w ≤ 6 := by
 have := dst_le hu hx w
 have := ones_six u w
 omega
def wt (d : Int) : Int := if d ≤ 0 then 0 else 9 ^ (d.toNat - 1)
def sumF (f : Int → Int) (v : List Int) : Int := v.foldl (fun a d => a + f d) 0
def mxF (v : List Int) : Int := v.foldl (fun a d => if d > a then d else a) 0
def baseF (v : List Int) : Int := v.foldl (fun a d => a * 7 + d) 0
def scoreS (kind : Int) (v : List Int) : Int := if kind = 3 then mxF v else if kind = 2 then sumF wt v else sumF id v
theorem sumF_acc (f : Int → Int) : ∀ (v : List Int) (a : Int), v.foldl (fun a d => a + f d) a = a + sumF f v
 | [], a => by simp [sumF]
 | x :: v, a => by
  unfold sumF
  simp only [List.foldl_cons]
  rw [sumF_acc f v (a + f x), sumF_acc f v (0 + f x)]; omega
theorem sumF_cons (f : Int → Int) (x : Int) (v : List Int) : sumF f (x :: v) = f x + sumF f v := by
 unfold sumF
 simp only [List.foldl_cons]
 rw [sumF_acc]; unfold sumF; omega
theorem sumF_perm (f : Int → Int) {a b : List Int} (h : a.Perm b) : sumF f a = sumF f b := by
 induction h with
 | nil => rfl
 | cons x _ ih => rw [sumF_cons, sumF_cons, ih]
 | swap x y l => rw [sumF_cons, sumF_cons, sumF_cons, sumF_cons]; omega
 | trans _ _ h1 h2 => exact h1.trans h2
theorem mxF_acc : ∀ (v : List Int) (a : Int), 0 ≤ a → v.foldl (fun a d => if d > a then d else a) a = max a (mxF v)
 | [], a, h => by simp [mxF]; omega
 | x :: v, a, h => by
  unfold mxF
  simp only [List.foldl_cons]
  by_cases hx : x > 0
  · rw [if_pos hx, mxF_acc v x (by omega), mxF_acc v _ (by split <;> omega)]
    split <;> omega
  · rw [if_neg hx, if_neg (by omega), mxF_acc v a h]
    rfl
theorem mxF_nn (v : List Int) : 0 ≤ mxF v := by
 cases v with
 | nil => simp [mxF]
 | cons x v =>
  unfold mxF
  simp only [List.foldl_cons]
  rw [mxF_acc _ _ (by split <;> omega)]
  split <;> omega
theorem mxF_cons (x : Int) (v : List Int) : mxF (x :: v) = max (max x 0) (mxF v) := by
 unfold mxF
 simp only [List.foldl_cons]
 rw [mxF_acc _ _ (by split <;> omega)]
 unfold mxF
 split <;> omega
theorem mxF_perm {a b : List Int} (h : a.Perm b) : mxF a = mxF b := by
 induction h with
 | nil => rfl
 | cons x _ ih => rw [mxF_cons, mxF_cons, ih]
 | swap x y l => rw [mxF_cons, mxF_cons, mxF_cons, mxF_cons]; omega
 | trans _ _ h1 h2 => exact h1.trans h2
theorem score_perm (kind : Int) {a b : List Int} (h : a.Perm b) : scoreS kind a = scoreS kind b := by
 unfold scoreS; rw [mxF_perm h, sumF_perm wt h, sumF_perm id h]
theorem wt_nn (d : Int) : 0 ≤ wt d := by
 unfold wt; split
 · omega
 · exact Int.pow_nonneg (by omega)
theorem wt_mono {a b : Int} (h : a ≤ b) : wt a ≤ wt b := by
 unfold wt
 split
 · split
   · omega
   · exact Int.pow_nonneg (by omega)
 · rw [if_neg (by omega)]
   exact_mod_cast Nat.pow_le_pow_right (by omega : 0 < 9) (by omega : a.toNat - 1 ≤ b.toNat - 1)
theorem wt_next {a b : Int} (h0 : 0 ≤ a) (h : a < b) : 8 * wt a < wt b := by
 have h1 := wt_mono (show a + 1 ≤ b by omega)
 have h2 : 8 * wt a < wt (a + 1) := by
  unfold wt
  rw [if_neg (by omega : ¬ a + 1 ≤ 0)]
  by_cases ha : a ≤ 0
  · have : a = 0 := by omega
    subst this; decide
  · rw [if_neg ha]
    have e : (a + 1).toNat - 1 = (a.toNat - 1) + 1 := by omega
    rw [e, Int.pow_succ]
    have : (0 : Int) < 9 ^ (a.toNat - 1) := Int.pow_pos (by omega)
    omega
 omega
theorem sumF_bound {f : Int → Int} {c : Int} : ∀ {v : List Int}, (∀ x ∈ v, f x ≤ c) → sumF f v ≤ v.length * c
 | [], _ => by simp [sumF]
 | x :: v, h => by
  have h1 := sumF_bound (f := f) (c := c) (v := v) fun y hy => h y (List.mem_cons_of_mem _ hy)
  have h2 := h x List.mem_cons_self
  rw [sumF_cons, List.length_cons]
  have : ((v.length + 1 : Nat) : Int) * c = v.length * c + c := by rw [Int.natCast_add, Int.add_mul]; simp
  omega
theorem sumF_nn {f : Int → Int} : ∀ {v : List Int}, (∀ x ∈ v, 0 ≤ f x) → 0 ≤ sumF f v
 | [], _ => by simp [sumF]
 | x :: v, h => by
  have h1 := sumF_nn (f := f) (v := v) fun y hy => h y (List.mem_cons_of_mem _ hy)
  have h2 := h x List.mem_cons_self
  rw [sumF_cons]; omega
theorem baseF_acc : ∀ (v : List Int) (a : Int), v.foldl (fun a d => a * 7 + d) a = a * 7 ^ v.length + baseF v
 | [], a => by simp [baseF]
 | x :: v, a => by
  unfold baseF
  simp only [List.foldl_cons]
  rw [baseF_acc v (a * 7 + x), baseF_acc v (0 * 7 + x), List.length_cons, Int.pow_succ]
  generalize (7 : Int) ^ v.length = p
  have : (a * 7 + x) * p = a * (p * 7) + x * p := by rw [Int.add_mul, Int.mul_assoc, Int.mul_comm 7 p]
  rw [this]; simp; omega
theorem baseF_cons (x : Int) (v : List Int) : baseF (x :: v) = x * 7 ^ v.length + baseF v := by
 unfold baseF
 simp only [List.foldl_cons]
 rw [baseF_acc]; unfold baseF; simp
def Dig (v : List Int) : Prop := ∀ x ∈ v, 0 ≤ x ∧ x ≤ 6
theorem baseF_bound : ∀ {v : List Int}, Dig v → 0 ≤ baseF v ∧ baseF v < 7 ^ v.length
 | [], _ => by simp [baseF]
 | x :: v, h => by
  obtain ⟨h1, h2⟩ := baseF_bound (v := v) fun y hy => h y (List.mem_cons_of_mem _ hy)
  obtain ⟨h3, h4⟩ := h x List.mem_cons_self
  rw [baseF_cons, List.length_cons, Int.pow_succ]
  generalize (7 : Int) ^ v.length = p at *
  have e0 : 0 ≤ x * p := Int.mul_nonneg h3 (by omega)
  have e1 : x * p ≤ 6 * p := Int.mul_le_mul_of_nonneg_right h4 (by omega)
  omega
theorem lex_cmp : ∀ {a b : List Int}, a.length = b.length → a.length ≤ 8 → Dig a → Dig b → a.Pairwise (fun x y => y ≤ x) → b.Pairwise (fun x y => y ≤ x) →
 (baseF a < baseF b ∧ sumF wt a < sumF wt b) ∨ a = b ∨ (baseF b < baseF a ∧ sumF wt b < sumF wt a)
 | [], [], _, _, _, _, _, _ => .inr (.inl rfl)
 | [], y :: b, h, _, _, _, _, _ => by simp at h
 | x :: a, [], h, _, _, _, _, _ => by simp at h
 | x :: a, y :: b, h, h8, da, db, sa, sb => by
  have hl : a.length = b.length := by simpa using h
  have da' : Dig a := fun z hz => da z (List.mem_cons_of_mem _ hz)
  have db' : Dig b := fun z hz => db z (List.mem_cons_of_mem _ hz)
  obtain ⟨x0, x6⟩ := da x List.mem_cons_self
  obtain ⟨y0, y6⟩ := db y List.mem_cons_self
  obtain ⟨a0, a1⟩ := baseF_bound da'
  obtain ⟨b0, b1⟩ := baseF_bound db'
  have key : ∀ {x y : Int} {a b : List Int}, a.length = b.length → (x :: a).length ≤ 8 → 0 ≤ x → x < y → (∀ z ∈ a, z ≤ x) → baseF a < 7 ^ a.length → 0 ≤ baseF b → baseF (x :: a) < baseF (y :: b) ∧ sumF wt (x :: a) < sumF wt (y :: b) := by
   intro x y a b hl h8 x0 hxy hz a1 b0
   rw [baseF_cons, baseF_cons, ← hl]
   constructor
   · have hp : (0 : Int) ≤ 7 ^ a.length := Int.pow_nonneg (by omega)
     generalize (7 : Int) ^ a.length = p at *
     have e1 : (x + 1) * p ≤ y * p := Int.mul_le_mul_of_nonneg_right (by omega) hp
     rw [Int.add_mul] at e1
     omega
   · have hb : sumF wt (x :: a) ≤ (x :: a).length * wt x := sumF_bound fun z hz' => by
      rcases List.mem_cons.1 hz' with rfl | h
      · exact Int.le_refl _
      · exact wt_mono (hz z h)
     have hw := wt_nn x
     have h1 : ((x :: a).length : Int) * wt x ≤ 8 * wt x := Int.mul_le_mul_of_nonneg_right (by omega) hw
     have h2 := wt_next x0 hxy
     have h3 : 0 ≤ sumF wt b := sumF_nn fun z _ => wt_nn z
     rw [sumF_cons wt y b]
     omega
  have sa1 := (List.pairwise_cons.1 sa).1
  have sb1 := (List.pairwise_cons.1 sb).1
  rcases Int.lt_trichotomy x y with hxy | rfl | hxy
  · exact .inl (key hl h8 x0 hxy sa1 a1 b0)
  · rcases lex_cmp hl (by simp only [List.length_cons] at h8; omega) da' db' (List.pairwise_cons.1 sa).2 (List.pairwise_cons.1 sb).2 with ⟨h1, h2⟩ | h1 | ⟨h1, h2⟩
    · left
      rw [baseF_cons, baseF_cons, sumF_cons, sumF_cons, hl]
      omega
    · right; left; rw [h1]
    · right; right
      rw [baseF_cons, baseF_cons, sumF_cons, sumF_cons, hl]
      omega
  · exact .inr (.inr (key hl.symm (by simp only [List.length_cons] at h8 ⊢; omega) y0 hxy sb1 b1 a0))
def descI (v : List Int) : List Int := (sortI v).reverse
theorem descI_perm (v : List Int) : (descI v).Perm v := (List.reverse_perm _).trans (List.mergeSort_perm v _)
theorem descI_sorted (v : List Int) : (descI v).Pairwise fun x y => y ≤ x := List.pairwise_reverse.2 (sortI_sorted v)
def keyS (kind : Int) (v : List Int) : Int := if kind = 3 then mxF (descI v) else if kind = 2 then baseF (descI v) else sumF id (descI v)
theorem key_lt {kind : Int} {a b : List Int} (hl : a.length = b.length) (h8 : a.length ≤ 8) (da : Dig a) (db : Dig b) : keyS kind a < keyS kind b ↔ scoreS kind a < scoreS kind b := by
 rw [← score_perm kind (descI_perm a), ← score_perm kind (descI_perm b)]
 unfold keyS scoreS
 split
 · exact Iff.rfl
 split
 · have la := (descI_perm a).length_eq
   have lb := (descI_perm b).length_eq
   rcases lex_cmp (a := descI a) (b := descI b) (by omega) (by omega) (fun x hx => da x ((descI_perm a).mem_iff.1 hx)) (fun x hx => db x ((descI_perm b).mem_iff.1 hx)) (descI_sorted a) (descI_sorted b) with ⟨h1, h2⟩ | h | ⟨h1, h2⟩
   · exact ⟨fun _ => h2, fun _ => h1⟩
   · rw [h]; omega
   · omega
 · exact Iff.rfl
end Am

namespace Am
open Go
def entS (kind : Int) (d : Nat) : Int := ((if kind = 4 then min d 1 else d : Nat) : Int)
def vecS (n : Nat) (ms : List (BitVec 64)) (kind : Int) (w : Nat) : List Int := ms.map fun X => entS kind (dsS n X w)
theorem vec_len (n : Nat) (ms : List (BitVec 64)) (kind : Int) (w : Nat) : (vecS n ms kind w).length = ms.length := by simp [vecS]
def Mods (n : Nat) (ms : List (BitVec 64)) : Prop := ∀ X ∈ ms, ∃ u, u < n ∧ has X u
theorem ent_nn (kind : Int) (d : Nat) : 0 ≤ entS kind d := by unfold entS; omega
theorem ent_le (kind : Int) (d : Nat) : entS kind d ≤ d := by unfold entS; split <;> omega
theorem vec_dig {n : Nat} {ms : List (BitVec 64)} (hm : Mods n ms) (kind : Int) (w : Nat) : Dig (vecS n ms kind w) := by
 intro x hx
 obtain ⟨X, hX, rfl⟩ := List.mem_map.1 hx
 obtain ⟨u, hu, hxu⟩ := hm X hX
 have := dst_6 hu hxu w
 have := ent_le kind (dsS n X w)
 exact ⟨ent_nn _ _, by omega⟩
def keysL (n : Nat) (ms : List (BitVec 64)) (kind : Int) : List Int := (List.range n).map fun w => keyS kind (vecS n ms kind w)
def scoL (n : Nat) (ms : List (BitVec 64)) (kind : Int) : List Int := (List.range n).map fun w => scoreS kind (vecS n ms kind w)
theorem scoL_len (n : Nat) (ms : List (BitVec 64)) (kind : Int) : (scoL n ms kind).length = n := by simp [scoL]
theorem scoL_get {n w : Nat} (ms : List (BitVec 64)) (kind : Int) (h : w < n) : (scoL n ms kind).getD w 0 = scoreS kind (vecS n ms kind w) := by simp [scoL, h]
theorem keysL_get {n w : Nat} (ms : List (BitVec 64)) (kind : Int) (h : w < n) : (keysL n ms kind).getD w 0 = keyS kind (vecS n ms kind w) := by simp [keysL, h]
theorem keys_norm {n : Nat} {ms : List (BitVec 64)} (hm : Mods n ms) (h8 : ms.length ≤ 8) (kind : Int) : normS (keysL n ms kind) = normS (scoL n ms kind) := by
 refine norm_pat ⟨by simp [keysL, scoL], fun i j hi hj => ?_⟩
 have hl : (keysL n ms kind).length = n := by simp [keysL]
 rw [hl] at hi hj
 rw [keysL_get _ _ hi, keysL_get _ _ hj, scoL_get _ _ hi, scoL_get _ _ hj]
 exact key_lt (by rw [vec_len, vec_len]) (by rw [vec_len]; exact h8) (vec_dig hm kind i) (vec_dig hm kind j)
def mrgR (n : Nat) (ms : List (BitVec 64)) (kind : Int) : List Int := normS (scoL n ms kind)
theorem mrg_ord {n : Nat} (hn : n ≤ 6) (ms : List (BitVec 64)) (kind : Int) : Ord (vocN n) (2 ^ n) (mrgR (2 ^ n) ms kind) := by
 refine ⟨some_ok hn (scoL_len _ _ _), ?_⟩
 have := rk_norm (scoL (2 ^ n) ms kind)
 rwa [scoL_len] at this
theorem mrg_lt {n v w : Nat} (ms : List (BitVec 64)) (kind : Int) (hv : v < n) (hw : w < n) : (mrgR n ms kind).getD v 0 < (mrgR n ms kind).getD w 0 ↔ scoreS kind (vecS n ms kind v) < scoreS kind (vecS n ms kind w) := by
 rw [← scoL_get ms kind hv, ← scoL_get ms kind hw]
 have hl : (normS (scoL n ms kind)).length = n := by rw [norm_len, scoL_len]
 exact (pat_norm _).2 v w (by rw [hl]; exact hv) (by rw [hl]; exact hw)
def mrgS (n : Nat) (ms : List (BitVec 64)) (kind : Int) (C : BitVec 64) : BitVec 64 := leastS (vocN n) (mrgR (2 ^ n) ms kind) C
section
variable {n : Nat} (hn : n ≤ 6) {ms ps : List (BitVec 64)} {kind : Int} {C E : BitVec 64}
include hn
theorem has_mrg {w : Nat} : has (mrgS n ms kind C) w ↔ w < 2 ^ n ∧ has C w ∧ ∀ v, v < 2 ^ n → has C v → scoreS kind (vecS (2 ^ n) ms kind w) ≤ scoreS kind (vecS (2 ^ n) ms kind v) := by
 unfold mrgS
 rw [(mrg_ord hn ms kind).least]
 constructor
 · rintro ⟨a, b, c⟩
   refine ⟨a, b, fun v hv hc => ?_⟩
   have := c v hv hc
   rw [mrg_lt ms kind hv a] at this
   omega
 · rintro ⟨a, b, c⟩
   refine ⟨a, b, fun v hv hc => ?_⟩
   rw [mrg_lt ms kind hv a]
   have := c v hv hc
   omega
end
section
variable {n : Nat} (hn : n ≤ 6) {ms ps : List (BitVec 64)} {kind : Int} {C : BitVec 64}
include hn
end
end Am

namespace Am
open Go
structure NearBy (P : Nat → Nat → Prop) (D : Nat → Nat → Nat) (b : Nat) (X : BitVec 64) : Prop where
 le : ∀ z v, P z v → b ≤ D z v
 hit : b = 100 ∨ ∃ z v, P z v ∧ D z v = b
 mem : ∀ z, has X z ↔ ∃ v, P z v ∧ D z v = b
theorem NearBy.nil {P : Nat → Nat → Prop} (D : Nat → Nat → Nat) (h : ∀ z v, ¬ P z v) : NearBy P D 100 0#64 :=
 ⟨fun z v p => absurd p (h z v), .inl rfl, fun z => ⟨fun hz => by simp [has] at hz, fun ⟨v, p, _⟩ => absurd p (h z v)⟩⟩
theorem NearBy.congr {P Q : Nat → Nat → Prop} {D : Nat → Nat → Nat} {b : Nat} {X : BitVec 64} (h : NearBy P D b X) (e : ∀ z v, P z v ↔ Q z v) : NearBy Q D b X := by
 have : P = Q := funext fun z => funext fun v => propext (e z v)
 exact this ▸ h
theorem has_one {w z : Nat} (hw : w < 64) : has (1#64 <<< w) z ↔ z = w := by
 rw [has, one_shl_get _ _ hw]; simp
theorem NearBy.lt {P : Nat → Nat → Prop} {D : Nat → Nat → Nat} {b : Nat} {X : BitVec 64} (h : NearBy P D b X) {w u : Nat} (hw : w < 64) (hd : D w u < b) : NearBy (fun z v => P z v ∨ (z = w ∧ v = u)) D (D w u) (1#64 <<< w) := by
 refine ⟨fun z v p => ?_, .inr ⟨w, u, .inr ⟨rfl, rfl⟩, rfl⟩, fun z => ?_⟩
 · rcases p with p | ⟨rfl, rfl⟩
   · have := h.le z v p; omega
   · exact Nat.le_refl _
 · rw [has_one hw]
   constructor
   · rintro rfl; exact ⟨u, .inr ⟨rfl, rfl⟩, rfl⟩
   · rintro ⟨v, p | ⟨rfl, _⟩, e⟩
     · have := h.le z v p; omega
     · rfl
theorem NearBy.eq {P : Nat → Nat → Prop} {D : Nat → Nat → Nat} {b : Nat} {X : BitVec 64} (h : NearBy P D b X) {w u : Nat} (hw : w < 64) (hd : D w u = b) : NearBy (fun z v => P z v ∨ (z = w ∧ v = u)) D b (X ||| 1#64 <<< w) := by
 refine ⟨fun z v p => ?_, .inr ⟨w, u, .inr ⟨rfl, rfl⟩, hd⟩, fun z => ?_⟩
 · rcases p with p | ⟨rfl, rfl⟩
   · exact h.le z v p
   · omega
 · rw [has_or, has_one hw, h.mem]
   constructor
   · rintro (⟨v, p, e⟩ | rfl)
     · exact ⟨v, .inl p, e⟩
     · exact ⟨u, .inr ⟨rfl, rfl⟩, hd⟩
   · rintro ⟨v, p | ⟨rfl, _⟩, e⟩
     · exact .inl ⟨v, p, e⟩
     · exact .inr rfl
def DownTo (i : Nat) (s : List Int) : Prop := ∀ a b, a < i → a < b → b < s.length → s.getD b 0 ≤ s.getD a 0
theorem swap_get {t : List Int} {i k : Nat} (hi : i < t.length) (hk : k < t.length) (b : Nat) : ((t.set i t[k]).set k t[i]).getD b 0 = if b = k then t.getD i 0 else if b = i then t.getD k 0 else t.getD b 0 := by
 simp only [List.getD_eq_getElem?_getD, List.getElem?_set, List.length_set]
 by_cases h1 : b = k
 · subst h1; simp [hk, hi]
 · by_cases h2 : b = i
   · subst h2; simp [Ne.symm h1, h1, hk, hi]
   · simp [Ne.symm h1, Ne.symm h2, h1, h2]
structure InnerTo (v : List Int) (i k : Nat) (s t : List Int) : Prop where
 perm : t.Perm v
 down : DownTo i t
 top : ∀ b, i < b → b < k → t.getD b 0 ≤ t.getD i 0
 take : t.take i = s.take i
theorem InnerTo.keep {v s t : List Int} {i k : Nat} (h : InnerTo v i k s t) (hle : t.getD k 0 ≤ t.getD i 0) : InnerTo v i (k + 1) s t :=
 ⟨h.perm, h.down, fun b h1 h2 => by
  by_cases e : b = k
  · subst e; exact hle
  · exact h.top b h1 (by omega), h.take⟩
theorem InnerTo.swap {v s t : List Int} {i k : Nat} (h : InnerTo v i k s t) (hik : i < k) (hi : i < t.length) (hk : k < t.length) (hgt : t.getD i 0 < t.getD k 0) : InnerTo v i (k + 1) s ((t.set i t[k]).set k t[i]) := by
 refine ⟨(List.set_set_perm hi hk).trans h.perm, fun a b ha hab hb => ?_, fun b h1 h2 => ?_, ?_⟩
 · rw [swap_get hi hk, swap_get hi hk]
   simp only [List.length_set] at hb
   rw [if_neg (show ¬ a = k by omega), if_neg (show ¬ a = i by omega)]
   split
   · exact h.down a i ha ha hi
   split
   · exact h.down a k ha (by omega) hk
   · exact h.down a b ha hab hb
 · rw [swap_get hi hk, swap_get hi hk]
   rw [if_neg (show ¬ i = k by omega), if_pos rfl]
   split
   · omega
   rw [if_neg (by omega)]
   have := h.top b h1 (by omega)
   omega
 · rw [List.take_set_of_le (by omega), List.take_set_of_le (by omega)]; exact h.take
theorem InnerTo.done {v s t : List Int} {i : Nat} (h : InnerTo v i t.length s t) : DownTo (i + 1) t := fun a b ha hab hb => by
 by_cases e : a = i
 · subst e; exact h.top b hab hb
 · exact h.down a b (by omega) hab hb
end Am

namespace Am
open Go
theorem wt_le {a b : Int} (ha : 0 ≤ a) (hb : 0 ≤ b) : wt a ≤ wt b ↔ a ≤ b := by
 constructor
 · intro h
   refine Decidable.byContradiction fun hc => ?_
   have := wt_next hb (show b < a by omega)
   have := wt_nn b
   omega
 · exact wt_mono
theorem score_one {kind : Int} (hk : kind = 1 ∨ kind = 2 ∨ kind = 3) {a b : Int} (ha : 0 ≤ a) (hb : 0 ≤ b) : scoreS kind [a] ≤ scoreS kind [b] ↔ a ≤ b := by
 rcases hk with rfl | rfl | rfl
 · simp [scoreS, sumF]
 · simp [scoreS, sumF]; exact wt_le ha hb
 · simp only [scoreS, if_true, mxF, List.foldl_cons, List.foldl_nil]
   by_cases h1 : a > 0 <;> by_cases h2 : b > 0 <;> simp only [h1, h2, if_true, if_false] <;> omega
theorem ds_one {N w : Nat} (hw : w < N) (hN : N ≤ 64) (z : Nat) : dsS N (1#64 <<< w) z = ones (dif w z) 64 := by
 obtain ⟨v, hv, hx, h⟩ := dst_ex (n := N) (X := 1#64 <<< w) (u := w) hw ((has_one (by omega)).2 rfl) z
 have : v = w := (has_one (by omega)).1 hx
 rw [h, this]
theorem mrg_one {n : Nat} (hn : n ≤ 6) {w : Nat} (hw : w < 2 ^ n) {kind : Int} (hk : kind = 1 ∨ kind = 2 ∨ kind = 3) (M : BitVec 64) : mrgS n [1#64 <<< w] kind M = nearS (2 ^ n) w M 1 := by
 have h64 : 2 ^ n ≤ 64 := pow6 hn
 have hv : ∀ z, vecS (2 ^ n) [1#64 <<< w] kind z = [((ones (dif w z) 64 : Nat) : Int)] := fun z => by
  simp only [vecS, List.map_cons, List.map_nil, entS, ds_one hw h64]
  rw [if_neg (by omega)]
 refine set_eq fun z => ?_
 rw [has_mrg hn, has_near h64]
 refine and_congr_right fun _ => and_congr_right fun _ => ?_
 constructor
 · intro h u hu hm hc
   have := h u hu hm
   rw [hv, hv, score_one hk (by omega) (by omega)] at this
   have := near_lt hc
   omega
 · intro h v hvn hm
   rw [hv, hv, score_one hk (by omega) (by omega)]
   have := h v hvn hm
   simp only [nearP, if_true, decide_eq_true_eq] at this
   omega
end Am
