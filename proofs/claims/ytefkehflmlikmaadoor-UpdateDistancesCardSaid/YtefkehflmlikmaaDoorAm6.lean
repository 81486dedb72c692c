/- Plain programs of the functions of the program and lemmas about what they compute. -/
import Derived.Test.YtefkehflmlikmaaDoorAm5
import Derived.Lib.TrailingZeros
set_option linter.unusedSimpArgs false
set_option linter.unusedVariables false
set_option linter.unusedSectionVars false
namespace Am
open Go
set_option linter.unusedSimpArgs false
set_option linter.unusedVariables false
set_option linter.unusedSectionVars false
theorem val_own1 (ys ws : List (List UInt8)) : ∀ f : F, good f = true → (∀ s ∈ F.atomL f, ys.contains s = ws.contains s) → F.val ys f = F.val ws f := by
 refine bySizeF fun f ih hf h => ?_
 have hargs := ((good_iff f).1 hf).2.2
 rw [F.val_eq ys f, F.val_eq ws f]
 rw [F.atomL_eq] at h
 by_cases ho : f.op = 3
 · have ha := atom_noargs hf ho
   rw [if_pos ⟨ho, by simp [ha]⟩] at h
   simp only [ho, valO, Int.reduceEq, if_false, if_true]
   exact h _ (by simp)
 · rw [if_neg (fun x => ho x.1)] at h
   have hm : f.args.map (F.val ys) = f.args.map (F.val ws) := by
    apply List.map_congr_left
    intro x hx
    refine ih x hx (hargs x hx) fun s hs => h s ?_
    have : ∀ l : List F, x ∈ l → s ∈ F.atomLs l := by
     intro l
     induction l with
     | nil => intro h; simp at h
     | cons y l ih =>
      intro h
      simp only [F.atomLs, List.mem_append]
      rcases List.mem_cons.1 h with rfl | h
      · exact .inl hs
      · exact .inr (ih h)
    exact this _ hx
   rw [hm]
   unfold valO
   simp only [ho, if_false]
namespace F
mutual
theorem beq_true : ∀ f g : F, beq f g = true → f = g
 | mk o s a, mk o' s' a', h => by
  simp only [beq, Bool.and_eq_true, decide_eq_true_eq] at h
  obtain ⟨rfl, rfl, h3, h4⟩ := h
  rw [beqs_true a a' h3 h4]
theorem beqs_true : ∀ l l' : List F, l.length = l'.length → beqs l l' = true → l = l'
 | [], [], _, _ => rfl
 | [], _ :: _, h, _ => by simp at h
 | x :: l, [], h, _ => by simp at h
 | x :: l, y :: l', h, h2 => by
  simp only [beqs, Bool.and_eq_true] at h2
  rw [beq_true x y h2.1, beqs_true l l' (by simpa using h) h2.2]
end
end F
def pr (o : Int) (f g : F) : F := F.mk o [] [f, g]
def atF (a : List UInt8) : F := F.mk 3 a []
def noF1 (a : List UInt8) : F := F.mk 4 [] [atF a]
def joinF (a : List UInt8) (t f : F) : F :=
 if F.beq t f = true then t else if t.op = 1 ∧ f.op = 2 then atF a else if t.op = 1 then pr 6 (atF a) f else if t.op = 2 ∧ f.op = 1 then noF1 a else if t.op = 2 then pr 5 (noF1 a) f else
 if f.op = 1 then pr 6 (noF1 a) t else if f.op = 2 then pr 5 (atF a) t else pr 6 (pr 5 (atF a) t) (pr 5 (noF1 a) f)
def hf (S : BitVec 64) (b i : Nat) : BitVec 64 := bitsTo (fun u => decide (2 * u + b < i) && S.getLsbD (2 * u + b)) 64
def thy : List (List UInt8) → BitVec 64 → F
 | [], S => if S &&& bitsTo (fun _ => true) (2 ^ 0) = 0#64 then F.mk 2 [] [] else F.mk 1 [] []
 | a :: l, S => if S &&& bitsTo (fun _ => true) (2 ^ (l.length + 1)) = 0#64 then F.mk 2 [] [] else if S &&& bitsTo (fun _ => true) (2 ^ (l.length + 1)) = bitsTo (fun _ => true) (2 ^ (l.length + 1)) then F.mk 1 [] [] else
  joinF a (thy l (hf S 1 (2 ^ (l.length + 1)))) (thy l (hf S 0 (2 ^ (l.length + 1))))
theorem hf_step1 {S : BitVec 64} {b i : Nat} (hb : b < 2) (hi : i < 64) (h : S.getLsbD i = true) (h2 : i % 2 = b) : hf S b i ||| 1#64 <<< (i / 2) = hf S b (i + 1) := by
 refine bv_ext fun w hw => ?_
 unfold hf
 rw [BitVec.getLsbD_or, bitsTo_get _ _ _ (Nat.le_refl _), bitsTo_get _ _ _ (Nat.le_refl _), one_shl_get _ _ (by omega)]
 by_cases hw2 : w = i / 2
 · have : 2 * w + b = i := by omega
   simp [hw, this, h, hw2]
   have h3 : 2 * (i / 2) + b = i := by omega
   simp [h3, h]
   omega
 · have h3 : (2 * w + b < i + 1) = (2 * w + b < i) := propext ⟨fun h => by omega, fun h => by omega⟩
   simp [hw, hw2, h3]
theorem hf_step0 {S : BitVec 64} {b i : Nat} (hb : b < 2) (h : S.getLsbD i = false ∨ i % 2 ≠ b) : hf S b (i + 1) = hf S b i := by
 refine bits_congr (Nat.le_refl _) fun w hw => ?_
 by_cases hw2 : 2 * w + b = i
 · rcases h with h | h
   · rw [hw2, h]; simp
   · omega
 · have h3 : (2 * w + b < i + 1) = (2 * w + b < i) := propext ⟨fun h => by omega, fun h => by omega⟩
   simp [h3]
theorem hf_zero (S : BitVec 64) (b : Nat) : hf S b 0 = 0#64 := by
 unfold hf
 rw [← bits_none]
 exact bits_congr (Nat.le_refl _) fun w hw => by simp
theorem hf_get {S : BitVec 64} {b N u : Nat} (h : 2 * u + b < N) (hu : u < 64) : (hf S b N).getLsbD u = S.getLsbD (2 * u + b) := by
 unfold hf
 rw [bitsTo_get _ _ _ (Nat.le_refl _)]
 simp [h, hu]
theorem val_pr5 (ys : List (List UInt8)) (f g : F) : F.val ys (pr 5 f g) = (F.val ys f && F.val ys g) := by
 rw [F.val_eq]; simp [pr, valO, F.op_mk, F.args_mk]
theorem val_pr6 (ys : List (List UInt8)) (f g : F) : F.val ys (pr 6 f g) = (F.val ys f || F.val ys g) := by
 rw [F.val_eq]; simp [pr, valO, F.op_mk, F.args_mk]
theorem val_at (ys : List (List UInt8)) (a : List UInt8) : F.val ys (atF a) = ys.contains a := by
 rw [F.val_eq]; simp [atF, valO, F.op_mk, F.name_mk]
theorem val_no (ys : List (List UInt8)) (a : List UInt8) : F.val ys (noF1 a) = !ys.contains a := by
 rw [F.val_eq]; simp [noF1, valO, F.op_mk, F.args_mk, val_at]
theorem val_op1 (ys : List (List UInt8)) {f : F} (h : f.op = 1) : F.val ys f = true := by rw [F.val_eq, valO]; simp [h]
theorem val_op2 (ys : List (List UInt8)) {f : F} (h : f.op = 2) : F.val ys f = false := by rw [F.val_eq, valO]; simp [h]
theorem val_join (ys : List (List UInt8)) (a : List UInt8) (t f : F) : F.val ys (joinF a t f) = if ys.contains a = true then F.val ys t else F.val ys f := by
 unfold joinF
 by_cases h1 : F.beq t f = true
 · rw [if_pos h1, F.beq_true t f h1]; simp
 rw [if_neg h1]
 by_cases h2 : t.op = 1 ∧ f.op = 2
 · rw [if_pos h2, val_at, val_op1 ys h2.1, val_op2 ys h2.2]; cases ys.contains a <;> rfl
 rw [if_neg h2]
 by_cases h3 : t.op = 1
 · rw [if_pos h3, val_pr6, val_at, val_op1 ys h3]; cases ys.contains a <;> simp
 rw [if_neg h3]
 by_cases h4 : t.op = 2 ∧ f.op = 1
 · rw [if_pos h4, val_no, val_op2 ys h4.1, val_op1 ys h4.2]; cases ys.contains a <;> rfl
 rw [if_neg h4]
 by_cases h5 : t.op = 2
 · rw [if_pos h5, val_pr5, val_no, val_op2 ys h5]; cases ys.contains a <;> simp
 rw [if_neg h5]
 by_cases h6 : f.op = 1
 · rw [if_pos h6, val_pr6, val_no, val_op1 ys h6]; cases ys.contains a <;> simp
 rw [if_neg h6]
 by_cases h7 : f.op = 2
 · rw [if_pos h7, val_pr5, val_at, val_op2 ys h7]; cases ys.contains a <;> simp
 rw [if_neg h7, val_pr6, val_pr5, val_pr5, val_at, val_no]; cases ys.contains a <;> simp
def Thy (voc : List (List UInt8)) (f : F) : Prop := good f = true ∧ f.size + 6 ≤ 7 * 2 ^ voc.length ∧ f.depth ≤ 2 * voc.length + 1 ∧ ∀ s ∈ F.atomL f, s ∈ voc
theorem thy_const (voc : List (List UInt8)) {o : Int} (h : o = 1 ∨ o = 2) : Thy voc (F.mk o [] []) := by
 have hp : 0 < 2 ^ voc.length := Nat.pow_pos (by omega)
 refine ⟨by rcases h with rfl | rfl <;> rfl, by simp only [F.size, F.sizes]; omega, by simp [F.depth, F.depths], ?_⟩
 rcases h with rfl | rfl <;> simp [F.atomL, F.atomLs]
theorem good_nd {o : Int} {s : List UInt8} {l : List F} (h1 : counted (F.mk o s l) = true) (h2 : named (F.mk o s l) = true) (h3 : ∀ g ∈ l, good g = true) : good (F.mk o s l) = true := by
 unfold good
 rw [F.allF_eq, F.allF_eq named, h1, h2, F.args_mk, Bool.true_and, Bool.true_and, Bool.and_eq_true, allFs_all, allFs_all, List.all_eq_true, List.all_eq_true]
 refine ⟨fun g hg => ?_, fun g hg => ?_⟩
 · have := h3 g hg; simp only [good, Bool.and_eq_true] at this; exact this.1
 · have := h3 g hg; simp only [good, Bool.and_eq_true] at this; exact this.2
theorem good_at {a : List UInt8} (h : validName a = true) : good (atF a) = true := good_nd rfl (by simp [named, F.op_mk, F.name_mk, h]) (by simp)
theorem good_no {a : List UInt8} (h : validName a = true) : good (noF1 a) = true := good_nd rfl rfl (by simp [good_at h])
theorem good_pr {o : Int} {f g : F} (ho : o = 5 ∨ o = 6) (hf : good f = true) (hg : good g = true) : good (pr o f g) = true := by
 rcases ho with rfl | rfl
 · exact good_nd rfl rfl (by simp [hf, hg])
 · exact good_nd rfl rfl (by simp [hf, hg])
theorem atomL_pr {o : Int} (ho : o ≠ 3) (f g : F) : F.atomL (pr o f g) = F.atomL f ++ F.atomL g := by
 simp [pr, F.atomL, F.atomLs]
theorem atomL_at (a : List UInt8) : F.atomL (atF a) = [a] := by simp [atF, F.atomL]
theorem atomL_no (a : List UInt8) : F.atomL (noF1 a) = [a] := by simp [noF1, F.atomL, F.atomLs, atomL_at]
theorem thy_join {a : List UInt8} {l : List (List UInt8)} (ha : validName a = true) {t f : F} (ht : Thy l t) (hf : Thy l f) : Thy (a :: l) (joinF a t f) := by
 obtain ⟨t1, t2, t3, t4⟩ := ht
 obtain ⟨f1, f2, f3, f4⟩ := hf
 have hp : 2 ^ (a :: l).length = 2 * 2 ^ l.length := by rw [List.length_cons, Nat.pow_succ]; omega
 have hp0 : 0 < 2 ^ l.length := Nat.pow_pos (by omega)
 have s5 : ∀ (o : Int) (f g : F), (pr o f g).size = 1 + (f.size + g.size) := fun o f g => by simp [pr, F.size, F.sizes]
 have d5 : ∀ (o : Int) (f g : F), (pr o f g).depth = max (1 + f.depth) (1 + g.depth) := fun o f g => by simp [pr, F.depth, F.depths]
 have s1 : (atF a).size = 1 := by simp [atF, F.size, F.sizes]
 have s2 : (noF1 a).size = 2 := by simp [noF1, F.size, F.sizes, s1]
 have e1 : (atF a).depth = 0 := by simp [atF, F.depth, F.depths]
 have e2 : (noF1 a).depth = 1 := by simp [noF1, F.depth, F.depths, e1]
 have hl : (a :: l).length = l.length + 1 := rfl
 have hc : ∀ s ∈ F.atomL t, s ∈ a :: l := fun s hs => List.mem_cons_of_mem _ (t4 s hs)
 have hd : ∀ s ∈ F.atomL f, s ∈ a :: l := fun s hs => List.mem_cons_of_mem _ (f4 s hs)
 have ga := good_at ha
 have gn := good_no ha
 have h6 : ∀ f g : F, F.atomL (pr 6 f g) = F.atomL f ++ F.atomL g := atomL_pr (by decide)
 have h5 : ∀ f g : F, F.atomL (pr 5 f g) = F.atomL f ++ F.atomL g := atomL_pr (by decide)
 unfold joinF Thy
 rw [hp, hl]
 (repeat' split)
 · exact ⟨t1, by omega, by omega, hc⟩
 · exact ⟨ga, by omega, by omega, by rw [atomL_at]; simp⟩
 · exact ⟨good_pr (.inr rfl) ga f1, by rw [s5]; omega, by rw [d5]; omega, by rw [h6, atomL_at]; simpa using hd⟩
 · exact ⟨gn, by omega, by omega, by rw [atomL_no]; simp⟩
 · exact ⟨good_pr (.inl rfl) gn f1, by rw [s5]; omega, by rw [d5]; omega, by rw [h5, atomL_no]; simpa using hd⟩
 · exact ⟨good_pr (.inr rfl) gn t1, by rw [s5]; omega, by rw [d5]; omega, by rw [h6, atomL_no]; simpa using hc⟩
 · exact ⟨good_pr (.inl rfl) ga t1, by rw [s5]; omega, by rw [d5]; omega, by rw [h5, atomL_at]; simpa using hc⟩
 · refine ⟨good_pr (.inr rfl) (good_pr (.inl rfl) ga t1) (good_pr (.inl rfl) gn f1), by rw [s5, s5, s5]; omega, by rw [d5, d5, d5]; omega, fun s hs => ?_⟩
   rw [h6, h5, h5, atomL_at, atomL_no] at hs
   simp only [List.mem_append, List.mem_singleton] at hs
   rcases hs with (rfl | hs) | (rfl | hs)
   · simp
   · exact hc s hs
   · simp
   · exact hd s hs
theorem thy_ok : ∀ {voc : List (List UInt8)}, okNames voc = true → ∀ S : BitVec 64, Thy voc (thy voc S)
 | [], _, S => by
  unfold thy
  split
  · exact thy_const [] (.inr rfl)
  · exact thy_const [] (.inl rfl)
 | a :: l, h, S => by
  unfold thy
  split
  · exact thy_const _ (.inr rfl)
  · split
    · exact thy_const _ (.inl rfl)
    · exact thy_join (by simp only [okNames, Bool.and_eq_true] at h; exact h.1) (thy_ok (okNames_tail h) _) (thy_ok (okNames_tail h) _)
theorem val_cons {a : List UInt8} {l : List (List UInt8)} (h : okNames (a :: l) = true) {f : F} (hf : Thy l f) (ys : List (List UInt8)) : F.val (a :: ys) f = F.val ys f := by
 refine val_own1 _ _ f hf.1 fun s hs => ?_
 have := (List.pairwise_cons.1 (okNames_asc h).1).1 s (hf.2.2.2 s hs)
 have hne : s ≠ a := fun e => by subst e; exact List.lt_irrefl _ this
 simp [hne]
theorem thy_val : ∀ {voc : List (List UInt8)}, okNames voc = true → voc.length ≤ 6 → ∀ (S : BitVec 64) (w : Nat), w < 2 ^ voc.length → F.val (yesN voc w) (thy voc S) = S.getLsbD w
 | [], _, _, S, w, hw => by
  have hw0 : w = 0 := by simpa using hw
  subst hw0
  have h0 : S &&& bitsTo (fun _ => true) (2 ^ 0) = 0#64 ↔ S.getLsbD 0 = false := by
   rw [bv_zero_iff]
   constructor
   · intro h
     have := h 0 (by omega)
     rw [BitVec.getLsbD_and, bitsTo_get _ _ _ (by decide)] at this
     simpa using this
   · intro h v hv
     rw [BitVec.getLsbD_and, bitsTo_get _ _ _ (by decide)]
     by_cases hv0 : v = 0
     · subst hv0; rw [h]; rfl
     · simp [hv0]
  unfold thy
  by_cases h : S &&& bitsTo (fun _ => true) (2 ^ 0) = 0#64
  · rw [if_pos h, val_op2 _ rfl, h0.1 h]
  · rw [if_neg h, val_op1 _ rfl]
    cases hs : S.getLsbD 0 with
    | true => rfl
    | false => exact absurd (h0.2 hs) h
 | a :: l, h, h6, S, w, hw => by
  have hN : 2 ^ (l.length + 1) ≤ 64 := pow6 h6
  have hw' : w < 2 ^ (l.length + 1) := hw
  have hand : ∀ v, (S &&& bitsTo (fun _ => true) (2 ^ (l.length + 1))).getLsbD v = (S.getLsbD v && decide (v < 2 ^ (l.length + 1))) := fun v => by
   rw [BitVec.getLsbD_and, bitsTo_get _ _ _ hN]; simp
  unfold thy
  by_cases h1 : S &&& bitsTo (fun _ => true) (2 ^ (l.length + 1)) = 0#64
  · rw [if_pos h1, val_op2 _ rfl]
    have := hand w
    rw [h1] at this
    simpa [hw'] using this
  rw [if_neg h1]
  by_cases h2 : S &&& bitsTo (fun _ => true) (2 ^ (l.length + 1)) = bitsTo (fun _ => true) (2 ^ (l.length + 1))
  · rw [if_pos h2, val_op1 _ rfl]
    have := hand w
    rw [h2, bitsTo_get _ _ _ hN] at this
    simpa [hw'] using this
  rw [if_neg h2, val_join]
  have hl := okNames_tail h
  have h6' : l.length ≤ 6 := by simp only [List.length_cons] at h6; omega
  have hpw : 2 ^ (l.length + 1) = 2 * 2 ^ l.length := by rw [Nat.pow_succ]; omega
  have hu : w / 2 < 2 ^ l.length := by omega
  have hac : (yesN (a :: l) w).contains a = decide (w % 2 = 1) := by
   have := yesN_mem (okNames_asc h).1 (i := 0) (w := w) (by simp)
   simp only [List.getElem_cons_zero, Nat.pow_zero, Nat.div_one] at this
   cases hd : decide (w % 2 = 1) with
   | true => rw [decide_eq_true_eq] at hd; simpa using this.2 hd
   | false => rw [decide_eq_false_iff_not] at hd; simpa using fun h => hd (this.1 h)
  rw [hac]
  rcases Nat.mod_two_eq_zero_or_one w with hb | hb
  · rw [if_neg (by simp [hb])]
    have hy : yesN (a :: l) w = yesN l (w / 2) := by simp [yesN, hb]
    rw [hy, thy_val hl h6' _ _ hu, hf_get (by omega) (by omega)]
    congr 1; omega
  · rw [if_pos (by simp [hb])]
    have hy : yesN (a :: l) w = a :: yesN l (w / 2) := by simp [yesN, hb]
    rw [hy, val_cons h (thy_ok hl _), thy_val hl h6' _ _ hu, hf_get (by omega) (by omega)]
    congr 1; omega
end Am

namespace Am
open Go
set_option linter.unusedSimpArgs false
set_option linter.unusedVariables false
set_option linter.unusedSectionVars false
abbrev has (X : BitVec 64) (w : Nat) : Prop := X.getLsbD w = true
theorem has_lt {X : BitVec 64} {w : Nat} (h : has X w) : w < 64 := by
 refine Decidable.byContradiction fun hn => ?_
 have := BitVec.getLsbD_of_ge X w (by omega)
 rw [has, this] at h; cases h
theorem has_and {X Y : BitVec 64} {w : Nat} : has (X &&& Y) w ↔ has X w ∧ has Y w := by simp [has]
theorem has_or {X Y : BitVec 64} {w : Nat} : has (X ||| Y) w ↔ has X w ∨ has Y w := by simp [has]
theorem has_diff {X Y : BitVec 64} {w : Nat} : has (X &&& ~~~Y) w ↔ has X w ∧ ¬ has Y w := by
 constructor
 · intro h
   have hw := has_lt h
   simpa [has, hw] using h
 · rintro ⟨h1, h2⟩
   have hw := has_lt h1
   simpa [has, hw, h1] using h2
theorem has_bits {p : Nat → Bool} {n w : Nat} (hn : n ≤ 64) : has (bitsTo p n) w ↔ w < n ∧ p w = true := by rw [has, bitsTo_get _ _ _ hn]; simp
theorem set_eq {X Y : BitVec 64} (h : ∀ w, has X w ↔ has Y w) : X = Y := bv_ext fun w _ => by
 have := h w
 cases hx : X.getLsbD w <;> cases hy : Y.getLsbD w <;> simp [has, hx, hy] at this <;> rfl
theorem set_zero {X : BitVec 64} : X = 0#64 ↔ ∀ w, ¬ has X w := by
 constructor
 · rintro rfl w h; simp [has] at h
 · intro h; exact set_eq fun w => ⟨fun hx => absurd hx (h w), fun h0 => by simp [has] at h0⟩
theorem set_sub {X Y : BitVec 64} : X &&& ~~~Y = 0#64 ↔ ∀ w, has X w → has Y w := by
 rw [set_zero]
 constructor
 · intro h w hx
   exact Classical.byContradiction fun hy => h w (has_diff.2 ⟨hx, hy⟩)
 · intro h w hw
   rw [has_diff] at hw
   exact hw.2 (h w hw.1)
theorem set_ne {X : BitVec 64} (h : X ≠ 0#64) : ∃ w, has X w := Classical.byContradiction fun hn => h (set_zero.2 fun w hw => hn ⟨w, hw⟩)
theorem ne_of_has {X : BitVec 64} {w : Nat} (h : has X w) : X ≠ 0#64 := fun h0 => (set_zero.1 h0) w h
theorem min_ex (r : Nat → Int) (P : Nat → Prop) : ∀ N : Nat, (∃ v, v < N ∧ P v) → ∃ w, w < N ∧ P w ∧ ∀ v, v < N → P v → r w ≤ r v
 | 0, ⟨v, h, _⟩ => by omega
 | N + 1, ⟨v, hv, hp⟩ => by
  by_cases hN : ∃ v, v < N ∧ P v
  · obtain ⟨w, h1, h2, h3⟩ := min_ex r P N hN
    by_cases hc : P N ∧ r N < r w
    · refine ⟨N, by omega, hc.1, fun u hu hpu => ?_⟩
      by_cases huN : u = N
      · subst huN; omega
      · have := h3 u (by omega) hpu; omega
    · refine ⟨w, by omega, h2, fun u hu hpu => ?_⟩
      by_cases huN : u = N
      · subst huN
        have : ¬ r u < r w := fun h => hc ⟨hpu, h⟩
        omega
      · exact h3 u (by omega) hpu
  · have : v = N := Classical.byContradiction fun h => hN ⟨v, by omega, hp⟩
    subst this
    refine ⟨v, by omega, hp, fun u hu hpu => ?_⟩
    by_cases huN : u = v
    · subst huN; omega
    · exact absurd ⟨u, by omega, hpu⟩ hN
structure Lst (N : Nat) (r : Nat → Int) (L : BitVec 64 → BitVec 64) : Prop where
 le : N ≤ 64
 get : ∀ S w, has (L S) w ↔ w < N ∧ has S w ∧ ∀ v, v < N → has S v → r w ≤ r v
theorem Lst.ex {N : Nat} {r : Nat → Int} {L : BitVec 64 → BitVec 64} (h : Lst N r L) {S : BitVec 64} {v : Nat} (hv : v < N) (hs : has S v) : ∃ w, has (L S) w := by
 obtain ⟨w, h1, h2, h3⟩ := min_ex r (fun v => has S v) N ⟨v, hv, hs⟩
 exact ⟨w, (h.get S w).2 ⟨h1, h2, h3⟩⟩
section
variable {N : Nat} {r : Nat → Int} {L : BitVec 64 → BitVec 64} (hL : Lst N r L)
include hL
variable {A M K : BitVec 64} (hA : ∀ w, has A w ↔ w < N) (hM : ∀ w, has M w → w < N) (hK : ∀ w, has K w → w < N)
include hA
theorem Lst.rest (w : Nat) : has (L (A &&& ~~~M)) w ↔ w < N ∧ ¬ has M w ∧ ∀ v, v < N → ¬ has M v → r w ≤ r v := by
 rw [hL.get, has_diff]
 constructor
 · rintro ⟨h1, ⟨_, h2⟩, h3⟩
   exact ⟨h1, h2, fun v hv hm => h3 v hv (has_diff.2 ⟨(hA v).2 hv, hm⟩)⟩
 · rintro ⟨h1, h2, h3⟩
   exact ⟨h1, ⟨(hA w).2 h1, h2⟩, fun v hv hm => h3 v hv (has_diff.1 hm).2⟩
end
def Wth (N : Nat) (r : Nat → Int) (M W : BitVec 64) : Prop := ∀ w, has W w ↔ w < N ∧ ((∃ u, u < N ∧ ¬ has M u) → ∀ v, v < N → ¬ has M v → r w ≤ r v) ∧ ((∀ u, u < N → has M u) → ∀ v, v < N → r w ≤ r v)
section
variable {N : Nat} {r : Nat → Int} {L : BitVec 64 → BitVec 64} (hL : Lst N r L) {A M K W V : BitVec 64} (hA : ∀ w, has A w ↔ w < N) (hM : ∀ w, has M w → w < N) (hW : Wth N r M W) (hV : Wth N r K V)
include hL hW
end
end Am

namespace Am
open Go
set_option linter.unusedSimpArgs false
set_option linter.unusedVariables false
set_option linter.unusedSectionVars false
theorem models_good {voc : List (List UInt8)} {f : F} (hv : vocOk voc = true) (hg : good f = true) (hs : f.size ≤ 600) (hd : f.depth ≤ 20) (ha : ∀ s ∈ F.atomL f, s ∈ voc) : modelsE voc f = 0 ∧ modelsS voc f = modN voc f (2 ^ voc.length) := by
 have h1 : validate f = 0 := by
  have h1 : ¬ (f.size : Int) > 600 := by omega
  have h2 : ¬ (f.depth : Int) > 20 := by omega
  simp only [good, Bool.and_eq_true] at hg
  simp [validate, h1, h2, hg.1, hg.2]
 have h2 : atomsIn voc f = true := by
  unfold atomsIn
  rw [List.all_eq_true]
  intro s hs
  have := ha s ((canon_mem _ s).1 hs)
  simpa using this
 have h3 : modelsE voc f = 0 := by simp [modelsE, hv, h1, h2]
 exact ⟨h3, by rw [modelsS, if_pos h3]⟩
theorem has_modN {voc : List (List UInt8)} {f : F} {w : Nat} (hv : voc.length ≤ 6) : has (modN voc f (2 ^ voc.length)) w ↔ w < 2 ^ voc.length ∧ F.val (yesN voc w) f = true := has_bits (pow6 hv)
theorem thy_models {voc : List (List UInt8)} (hv : vocOk voc = true) (S : BitVec 64) : modelsE voc (thy voc S) = 0 ∧ modelsS voc (thy voc S) = S &&& allS voc := by
 obtain ⟨t1, t2, t3, t4⟩ := thy_ok (vocOk_names hv) S
 have h6 := vocOk_len hv
 have hp := pow6 h6
 obtain ⟨h1, h2⟩ := models_good hv t1 (by omega) (by omega) t4
 refine ⟨h1, ?_⟩
 rw [h2]
 refine set_eq fun w => ?_
 unfold allS
 rw [if_pos hv, has_modN h6, has_and, has_bits hp]
 constructor
 · rintro ⟨a, b⟩
   rw [thy_val (vocOk_names hv) h6 S w a] at b
   exact ⟨b, a, rfl⟩
 · rintro ⟨a, b, _⟩
   exact ⟨b, by rw [thy_val (vocOk_names hv) h6 S w b]; exact a⟩
theorem letter_voc {n : Nat} (hn : n ≤ 26) {s : List UInt8} (h : letter n s = true) : s ∈ vocN n := by
 unfold letter at h
 split at h
 · rename_i c
   simp only [Bool.and_eq_true, decide_eq_true_eq] at h
   refine List.mem_map.2 ⟨c.toNat - 97, List.mem_range.2 (by omega), ?_⟩
   have : (97 + ((c.toNat - 97 : Nat) : Int)).toNat = c.toNat := by omega
   rw [this]
   simp
 · cases h
theorem lettered_atoms {n : Nat} : ∀ f : F, F.allF (lettered n) f = true → ∀ s ∈ F.atomL f, letter n s = true := by
 refine bySizeF fun f ih h s hs => ?_
 rw [F.allF_eq, Bool.and_eq_true] at h
 rw [F.atomL_eq] at hs
 split at hs
 · rename_i hc
   simp only [List.mem_singleton] at hs
   subst hs
   have := h.1
   unfold lettered at this
   simpa [hc.1] using this
 · have key : ∀ l : List F, (∀ g ∈ l, g ∈ f.args) → ∀ x ∈ F.atomLs l, letter n x = true := by
    intro l
    induction l with
    | nil => intro _ x hx; simp [F.atomLs] at hx
    | cons g l ihl =>
     intro hm x hx
     simp only [F.atomLs, List.mem_append] at hx
     rcases hx with hx | hx
     · exact ih g (hm g (by simp)) (allFs_mem h.2 g (hm g (by simp))) x hx
     · exact ihl (fun g hg => hm g (by simp [hg])) x hx
   exact key f.args (fun g hg => hg) s hs
theorem made_models {n d : Nat} (hn : n ≤ 6) (hd : d ≤ 3) {f : F} (h : Made n d f) : good f = true ∧ f.size ≤ 256 ∧ f.depth ≤ 3 ∧ (∀ s ∈ F.atomL f, s ∈ vocN n) ∧ modelsE (vocN n) f = 0 ∧ modelsS (vocN n) f = modN (vocN n) f (2 ^ n) := by
 obtain ⟨h1, h2, h3, h4⟩ := h
 have hs : f.size ≤ 256 := Nat.le_trans h3 (Nat.pow_le_pow_right (by omega) (by omega : d + 1 ≤ 4))
 have ha : ∀ s ∈ F.atomL f, s ∈ vocN n := fun s hs => letter_voc (by omega) (lettered_atoms f h4 s hs)
 have := models_good (vocN_ok hn) h1 (by omega) (by omega) ha
 rw [vocN_len] at this
 exact ⟨h1, hs, by omega, ha, this⟩
end Am

namespace Am
open Go
set_option linter.unusedSimpArgs false
set_option linter.unusedVariables false
abbrev alW (n : Nat) : BitVec 64 := bitsTo (fun _ => true) (2 ^ n)
def Sub (n : Nat) (X : BitVec 64) : Prop := ∀ w, has X w → w < 2 ^ n
theorem sub_and {n : Nat} (hn : n ≤ 6) {X : BitVec 64} (h : Sub n X) : X &&& alW n = X := set_eq fun w => by
 rw [has_and, has_bits (pow6 hn)]
 exact ⟨fun h => h.1, fun hw => ⟨hw, h w hw, rfl⟩⟩
theorem sub_of_and {n : Nat} (hn : n ≤ 6) (X : BitVec 64) : Sub n (X &&& alW n) := fun w hw => by
 rw [has_and, has_bits (pow6 hn)] at hw
 exact hw.2.1
def sp (X : BitVec 64) (b i : Nat) : BitVec 64 := bitsTo (fun u => X.getLsbD (2 * u + b)) i
end Am

namespace Am
open Go
set_option linter.unusedSimpArgs false
set_option linter.unusedVariables false
set_option linter.unusedSectionVars false
def ones (x : BitVec 64) : Nat → Nat
 | 0 => 0
 | n + 1 => ones x n + (x.getLsbD n).toNat
def onesN (x : Nat) : Nat → Nat
 | 0 => 0
 | n + 1 => x % 2 + onesN (x / 2) n
theorem bit_toNat (x n : Nat) : (x.testBit n).toNat = x / 2 ^ n % 2 := by
 rw [Nat.testBit_eq_decide_div_mod_eq]
 rcases Nat.mod_two_eq_zero_or_one (x / 2 ^ n) with h | h <;> simp [h]
theorem onesN_succ (n : Nat) : ∀ x, onesN x (n + 1) = onesN x n + x / 2 ^ n % 2 := by
 induction n with
 | zero => intro x; simp [onesN]
 | succ n ih =>
  intro x
  have h : x / 2 / 2 ^ n = x / 2 ^ (n + 1) := by rw [Nat.div_div_eq_div_mul, Nat.pow_succ, Nat.mul_comm]
  rw [onesN, ih (x / 2), h, onesN]; omega
theorem ones_N (x : BitVec 64) : ∀ n, ones x n = onesN x.toNat n
 | 0 => rfl
 | n + 1 => by rw [ones, ones_N x n, onesN_succ, ← bit_toNat]; rfl
def mk (B m : Nat) : Nat → Nat
 | 0 => 0
 | k + 1 => B * mk B m k + m
theorem and_step (t B q r m M : Nat) (hB : B = 2 ^ t) (hr : r < B) (hm : m < B) : (B * q + r) &&& (B * M + m) = B * (q &&& M) + (r &&& m) := by
 subst hB
 have e := Nat.div_add_mod ((2 ^ t * q + r) &&& (2 ^ t * M + m)) (2 ^ t)
 have hp : 0 < 2 ^ t := Nat.two_pow_pos t
 rw [Nat.and_div_two_pow, Nat.and_mod_two_pow] at e
 have d1 : (2 ^ t * q + r) / 2 ^ t = q := by rw [Nat.mul_add_div hp, Nat.div_eq_of_lt hr]; omega
 have d2 : (2 ^ t * M + m) / 2 ^ t = M := by rw [Nat.mul_add_div hp, Nat.div_eq_of_lt hm]; omega
 have d3 : (2 ^ t * q + r) % 2 ^ t = r := by rw [Nat.mul_add_mod, Nat.mod_eq_of_lt hr]
 have d4 : (2 ^ t * M + m) % 2 ^ t = m := by rw [Nat.mul_add_mod, Nat.mod_eq_of_lt hm]
 rw [d1, d2, d3, d4] at e
 exact e.symm
def s1 (X k : Nat) : Nat := (X / 2 &&& mk 256 85 k) + (X &&& mk 256 85 k)
def s2 (X k : Nat) : Nat := (X / 4 &&& mk 256 51 k) + (X &&& mk 256 51 k)
def s3 (X k : Nat) : Nat := (X / 16 + X) &&& mk 256 15 k
theorem shift_and (s q b m M : Nat) (hs : s ≤ 8) (hb : b < 256) (hm : m < 2 ^ (8 - s)) : ((256 * q + b) / 2 ^ s) &&& (256 * M + m) = 256 * ((q / 2 ^ s) &&& M) + ((b / 2 ^ s) &&& m) := by
 have h1 : (256 * q + b) / 2 ^ s = 256 * (q / 2 ^ s) + (2 ^ (8 - s) * (q % 2 ^ s) + b / 2 ^ s) := by
  have h8 : 256 = 2 ^ (8 - s) * 2 ^ s := by rw [← Nat.pow_add, show 8 - s + s = 8 by omega]
  have hp : 0 < 2 ^ s := Nat.two_pow_pos s
  have hq := Nat.div_add_mod q (2 ^ s)
  have : 256 * q + b = 2 ^ s * (2 ^ (8 - s) * q) + b := by
   conv => lhs; rw [h8]
   rw [Nat.mul_comm (2 ^ (8 - s)), Nat.mul_assoc]
  rw [this, Nat.mul_add_div hp]
  have : 2 ^ (8 - s) * q = 256 * (q / 2 ^ s) + 2 ^ (8 - s) * (q % 2 ^ s) := by
   conv => lhs; rw [← hq]
   rw [Nat.mul_add, ← Nat.mul_assoc, ← h8]
  omega
 have hlow : b / 2 ^ s < 2 ^ (8 - s) := by
  rw [Nat.div_lt_iff_lt_mul (Nat.two_pow_pos s), ← Nat.pow_add, show 8 - s + s = 8 by omega]; exact hb
 have hqs : q % 2 ^ s < 2 ^ s := Nat.mod_lt _ (Nat.two_pow_pos s)
 have hle : 2 ^ (8 - s) ≤ 256 := by
  have := Nat.pow_le_pow_right (show 0 < 2 by omega) (show 8 - s ≤ 8 by omega)
  exact this
 have hsum : 2 ^ (8 - s) * (q % 2 ^ s) + b / 2 ^ s < 256 := by
  have h2 : 2 ^ (8 - s) * (q % 2 ^ s + 1) ≤ 2 ^ (8 - s) * 2 ^ s := Nat.mul_le_mul_left _ hqs
  rw [← Nat.pow_add, show 8 - s + s = 8 by omega, Nat.mul_add] at h2
  omega
 rw [h1, and_step 8 256 (q / 2 ^ s) _ m M rfl hsum (by omega)]
 congr 1
 have e := and_step (8 - s) (2 ^ (8 - s)) (q % 2 ^ s) (b / 2 ^ s) m 0 rfl hlow hm
 simpa using e
theorem s1_step (q b k : Nat) (hb : b < 256) : s1 (256 * q + b) (k + 1) = 256 * s1 q k + s1 b 1 := by
 unfold s1
 have h1 := shift_and 1 q b 85 (mk 256 85 k) (by omega) hb (by decide)
 have h2 := and_step 8 256 q b 85 (mk 256 85 k) rfl hb (by decide)
 simp only [Nat.pow_one] at h1
 simp only [mk, Nat.mul_zero, Nat.zero_add]
 rw [h1, h2]; omega
theorem s2_step (q b k : Nat) (hb : b < 256) : s2 (256 * q + b) (k + 1) = 256 * s2 q k + s2 b 1 := by
 unfold s2
 have h1 := shift_and 2 q b 51 (mk 256 51 k) (by omega) hb (by decide)
 have h2 := and_step 8 256 q b 51 (mk 256 51 k) rfl hb (by decide)
 simp only [show (2 : Nat) ^ 2 = 4 from rfl] at h1
 simp only [mk, Nat.mul_zero, Nat.zero_add]
 rw [h1, h2]; omega
theorem byte_facts : ∀ b, b < 256 → s1 b 1 < 256 ∧ s2 (s1 b 1) 1 < 256 ∧ s2 (s1 b 1) 1 % 16 ≤ 4 ∧ s2 (s1 b 1) 1 / 16 ≤ 4 ∧ (s2 (s1 b 1) 1 / 16 + s2 (s1 b 1) 1) % 16 = onesN b 8 ∧ onesN b 8 ≤ 8 := by decide +kernel
theorem onesN_byte (q b n : Nat) (hb : b < 256) : onesN (256 * q + b) (n + 8) = onesN b 8 + onesN q n := by
 have e : (256 * q + b) / 2 / 2 / 2 / 2 / 2 / 2 / 2 / 2 = q := by omega
 have e2 : b / 2 / 2 / 2 / 2 / 2 / 2 / 2 / 2 = 0 := by omega
 simp only [onesN]
 rw [e]
 omega
def dig (X : Nat) : Nat → Nat
 | 0 => 0
 | k + 1 => 256 * dig (X / 256) k + onesN (X % 256) 8
theorem sw_dig : ∀ (k X : Nat), s2 (s1 X k) k % 16 ≤ 4 ∧ s3 (s2 (s1 X k) k) k = dig X k
 | 0, X => by simp [s1, s2, s3, mk, dig]
 | k + 1, X => by
  obtain ⟨i1, i2⟩ := sw_dig k (X / 256)
  have hb : X % 256 < 256 := Nat.mod_lt _ (by omega)
  have hx : X = 256 * (X / 256) + X % 256 := (Nat.div_add_mod X 256).symm
  obtain ⟨f1, f2, f3, f4, f5, f6⟩ := byte_facts (X % 256) hb
  have e1 : s1 X (k + 1) = 256 * s1 (X / 256) k + s1 (X % 256) 1 := by
   conv => lhs; rw [hx]
   exact s1_step _ _ _ hb
  have e2 : s2 (s1 X (k + 1)) (k + 1) = 256 * s2 (s1 (X / 256) k) k + s2 (s1 (X % 256) 1) 1 := by rw [e1]; exact s2_step _ _ _ f1
  rw [e2, dig]
  generalize s2 (s1 (X / 256) k) k = A at *
  generalize s2 (s1 (X % 256) 1) 1 = n at *
  refine ⟨by omega, ?_⟩
  unfold s3 at i2 ⊢
  have hs : (256 * A + n) / 16 + (256 * A + n) = 256 * (A / 16 + A) + (16 * (A % 16) + n / 16 + n) := by omega
  have h3 := and_step 8 256 (A / 16 + A) (16 * (A % 16) + n / 16 + n) 15 (mk 256 15 k) rfl (by omega) (by decide)
  simp only [mk]
  rw [hs, h3, i2]
  have h4 : (16 * (A % 16) + n / 16 + n) &&& 15 = (16 * (A % 16) + n / 16 + n) % 16 := Nat.and_two_pow_sub_one_eq_mod _ 4
  rw [h4]; omega
theorem dig_sum (X : Nat) : ∃ p0 p1 p2 p3 p4 p5 p6 p7, p0 ≤ 8 ∧ p1 ≤ 8 ∧ p2 ≤ 8 ∧ p3 ≤ 8 ∧ p4 ≤ 8 ∧ p5 ≤ 8 ∧ p6 ≤ 8 ∧ p7 ≤ 8 ∧ onesN X 64 = p0 + p1 + p2 + p3 + p4 + p5 + p6 + p7 ∧ dig X 8 = 256 * (256 * (256 * (256 * (256 * (256 * (256 * (256 * 0 + p7) + p6) + p5) + p4) + p3) + p2) + p1) + p0 := by
 have hb : ∀ Y : Nat, onesN (Y % 256) 8 ≤ 8 := fun Y => (byte_facts (Y % 256) (Nat.mod_lt _ (by omega))).2.2.2.2.2
 have st : ∀ (Y n : Nat), onesN Y (n + 8) = onesN (Y % 256) 8 + onesN (Y / 256) n := fun Y n => by
  have := onesN_byte (Y / 256) (Y % 256) n (Nat.mod_lt _ (by omega))
  rwa [Nat.div_add_mod] at this
 refine ⟨_, _, _, _, _, _, _, _, hb X, hb (X / 256), hb (X / 256 / 256), hb (X / 256 / 256 / 256), hb (X / 256 / 256 / 256 / 256), hb (X / 256 / 256 / 256 / 256 / 256), hb (X / 256 / 256 / 256 / 256 / 256 / 256), hb (X / 256 / 256 / 256 / 256 / 256 / 256 / 256), ?_, rfl⟩
 rw [st X 56, st _ 48, st _ 40, st _ 32, st _ 24, st _ 16, st _ 8, st _ 0]
 simp only [onesN]; omega
theorem fold_dig (y p0 p1 p2 p3 p4 p5 p6 p7 : Nat) (h0 : p0 ≤ 8) (h1 : p1 ≤ 8) (h2 : p2 ≤ 8) (h3 : p3 ≤ 8) (h4 : p4 ≤ 8) (h5 : p5 ≤ 8) (h6 : p6 ≤ 8) (h7 : p7 ≤ 8) (hy : y = 256 * (256 * (256 * (256 * (256 * (256 * (256 * (256 * 0 + p7) + p6) + p5) + p4) + p3) + p2) + p1) + p0) :
 ∃ z u v, z = y + y / 256 ∧ u = z + z / 65536 ∧ v = u + u / 4294967296 ∧ v < 9223372036854775808 ∧ v % 128 = p0 + p1 + p2 + p3 + p4 + p5 + p6 + p7 := by
 have e1 : y / 256 = 256 * (256 * (256 * (256 * (256 * (256 * p7 + p6) + p5) + p4) + p3) + p2) + p1 := by omega
 refine ⟨_, _, _, rfl, rfl, rfl, ?_⟩
 have e2 : y + y / 256 = 256 * (256 * (256 * (256 * (256 * (256 * (256 * p7 + (p6 + p7)) + (p5 + p6)) + (p4 + p5)) + (p3 + p4)) + (p2 + p3)) + (p1 + p2)) + (p0 + p1) := by omega
 generalize y + y / 256 = z at *
 have e3 : z / 65536 = 256 * (256 * (256 * (256 * (256 * p7 + (p6 + p7)) + (p5 + p6)) + (p4 + p5)) + (p3 + p4)) + (p2 + p3) := by omega
 have e4 : z + z / 65536 = 256 * (256 * (256 * (256 * (256 * (256 * (256 * p7 + (p6 + p7)) + (p5 + p6 + p7)) + (p4 + p5 + p6 + p7)) + (p3 + p4 + p5 + p6)) + (p2 + p3 + p4 + p5)) + (p1 + p2 + p3 + p4)) + (p0 + p1 + p2 + p3) := by omega
 generalize z + z / 65536 = u at *
 have e5 : u / 4294967296 = 256 * (256 * (256 * p7 + (p6 + p7)) + (p5 + p6 + p7)) + (p4 + p5 + p6 + p7) := by omega
 clear e1 e2 e3 hy
 omega
theorem uN_bv {a : Nat} (h : a < 18446744073709551616) : D.int .u64 (a : Int) = bvD (BitVec.ofNat 64 a) := by
 unfold bvD; rw [BitVec.toNat_ofNat, Nat.mod_eq_of_lt (by omega)]
theorem bvD_nat (x : BitVec 64) {a : Nat} (h : x.toNat = a) : bvD x = D.int .u64 (a : Int) := by unfold bvD; rw [h]
theorem u_shr {a : Nat} (h : a < 18446744073709551616) (n : Nat) : PO.eval (.bin .shr false) [.int .u64 (a : Int), .int .u64 (n : Int)] = some [.int .u64 ((a / 2 ^ n : Nat) : Int)] := by
 rw [uN_bv h, bv_shr]
 congr 2
 exact bvD_nat _ (by rw [BitVec.toNat_ushiftRight, Nat.shiftRight_eq_div_pow, BitVec.toNat_ofNat, Nat.mod_eq_of_lt (by omega)])
theorem u_and {a b : Nat} (h : a < 18446744073709551616) (h' : b < 18446744073709551616) : PO.eval (.bin .and false) [.int .u64 (a : Int), .int .u64 (b : Int)] = some [.int .u64 ((a &&& b : Nat) : Int)] := by
 rw [uN_bv h, uN_bv h', bv_and]
 congr 2
 exact bvD_nat _ (by rw [BitVec.toNat_and, BitVec.toNat_ofNat, BitVec.toNat_ofNat, Nat.mod_eq_of_lt (by omega), Nat.mod_eq_of_lt (by omega)])
theorem u_add {a b : Nat} (h : a + b < 18446744073709551616) : PO.eval (.bin .add false) [.int .u64 (a : Int), .int .u64 (b : Int)] = some [.int .u64 ((a + b : Nat) : Int)] := by
 show one1 (some (.int .u64 (IntKind.u64.wrap ((a : Int) + (b : Int))))) = _
 rw [wrapU (by omega) (by omega)]; rfl
end Am

namespace Am
open Go
set_option linter.unusedSimpArgs false
set_option linter.unusedVariables false
set_option linter.unusedSectionVars false
def low (x : BitVec 64) : Nat := Lib.ctz 64 x.toNat
theorem low_nat (x : Nat) (h0 : x ≠ 0) (h : x < 2 ^ 64) : ∃ m k, x = 2 ^ k * (2 * m + 1) ∧ k < 64 ∧ Lib.ctz 64 x = k ∧ x &&& (x - 1) = 2 ^ (k + 1) * m := by
 obtain ⟨m, hm, hk⟩ := Lib.ctzFrom_spec 64 x (by omega) h
 refine ⟨m, _, hm, hk, by unfold Lib.ctz; rw [if_neg h0], ?_⟩
 generalize Lib.ctzFrom 64 x = k at *
 have hp : 0 < 2 ^ k := Nat.two_pow_pos k
 have hB : 2 ^ (k + 1) = 2 * 2 ^ k := by rw [Nat.pow_succ]; omega
 have e1 : x = 2 ^ (k + 1) * m + 2 ^ k := by rw [hm, Nat.mul_add, Nat.mul_one, hB, ← Nat.mul_assoc, Nat.mul_comm (2 ^ k) 2]
 have e2 : x - 1 = 2 ^ (k + 1) * m + (2 ^ k - 1) := by omega
 have h3 : 2 ^ k &&& (2 ^ k - 1) = 0 := by rw [Nat.and_two_pow_sub_one_eq_mod]; simp
 rw [e2]
 conv => lhs; rw [e1]
 rw [and_step (k + 1) (2 ^ (k + 1)) m (2 ^ k) (2 ^ k - 1) m rfl (by omega) (by omega), Nat.and_self, h3, Nat.add_zero]
theorem low_spec (x : BitVec 64) (hx : x ≠ 0#64) : low x < 64 ∧ x.getLsbD (low x) = true ∧ (∀ w, w < low x → x.getLsbD w = false) ∧ ∀ w, (x &&& (x - 1#64)).getLsbD w = (x.getLsbD w && !decide (w = low x)) := by
 have hx0 : x.toNat ≠ 0 := fun h => hx (BitVec.eq_of_toNat_eq (by simpa using h))
 obtain ⟨m, k, e, hk, hc, ha⟩ := low_nat x.toNat hx0 x.isLt
 have hlow : low x = k := hc
 rw [hlow]
 have hB : 2 ^ (k + 1) = 2 * 2 ^ k := by rw [Nat.pow_succ]; omega
 have e1 : x.toNat = 2 ^ (k + 1) * m + 2 ^ k := by rw [e, Nat.mul_add, Nat.mul_one, hB, ← Nat.mul_assoc, Nat.mul_comm (2 ^ k) 2]
 have hp : 0 < 2 ^ k := Nat.two_pow_pos k
 have hbit : ∀ w, x.getLsbD w = if w < k + 1 then decide (w = k) else m.testBit (w - (k + 1)) := by
  intro w
  show x.toNat.testBit w = _
  rw [e1, Nat.testBit_two_pow_mul_add _ (by omega)]
  split
  · rw [Nat.testBit_two_pow]; exact decide_eq_decide.2 ⟨fun h => h.symm, fun h => h.symm⟩
  · rfl
 refine ⟨hk, by rw [hbit]; simp, fun w hw => by rw [hbit, if_pos (by omega)]; simp; omega, fun w => ?_⟩
 have hsub : (x - 1#64).toNat = x.toNat - 1 := by
  have h1 := x.isLt
  rw [BitVec.toNat_sub]
  have h2 : (1#64 : BitVec 64).toNat = 1 := rfl
  rw [h2]
  omega
 have h2 : (x &&& (x - 1#64)).getLsbD w = (2 ^ (k + 1) * m).testBit w := by
  show (x &&& (x - 1#64)).toNat.testBit w = _
  rw [BitVec.toNat_and, hsub, ha]
 rw [h2, hbit w]
 have := Nat.testBit_two_pow_mul_add (i := k + 1) m (b := 0) (by omega) w
 rw [Nat.add_zero] at this
 rw [this]
 split
 · rename_i h
   by_cases hw : w = k <;> simp [hw]
 · have : w ≠ k := by omega
   simp [this]
def worldsTo (X : BitVec 64) (n : Nat) : List Nat := (List.range n).filter X.getLsbD
theorem worldsTo_succ (X : BitVec 64) (n : Nat) : worldsTo X (n + 1) = worldsTo X n ++ if X.getLsbD n = true then [n] else [] := by
 unfold worldsTo
 rw [List.range_succ, List.filter_append]
 congr 1
 cases h : X.getLsbD n <;> simp [h]
theorem worldsTo_skip (X : BitVec 64) (a : Nat) : ∀ d, (∀ w, a ≤ w → w < a + d → X.getLsbD w = false) → worldsTo X (a + d) = worldsTo X a
 | 0, _ => rfl
 | d + 1, h => by
  rw [← Nat.add_assoc, worldsTo_succ, h (a + d) (by omega) (by omega), worldsTo_skip X a d (fun w h1 h2 => h w h1 (by omega))]
  simp
theorem worldsTo_len (X : BitVec 64) (n : Nat) : (worldsTo X n).length ≤ n := by
 unfold worldsTo
 exact Nat.le_trans (List.length_filter_le _ _) (by simp)
def from_ (X : BitVec 64) (a : Nat) : BitVec 64 := bitsTo (fun w => decide (a ≤ w) && X.getLsbD w) 64
theorem from_get (X : BitVec 64) (a w : Nat) (hw : w < 64) : (from_ X a).getLsbD w = (decide (a ≤ w) && X.getLsbD w) := by
 unfold from_; rw [bitsTo_get _ _ _ (Nat.le_refl _)]; simp [hw]
theorem from_zero (X : BitVec 64) : from_ X 0 = X := bv_ext fun w hw => by rw [from_get _ _ _ hw]; simp
theorem from_next (X : BitVec 64) (a : Nat) (h : from_ X a ≠ 0#64) : a ≤ low (from_ X a) ∧ low (from_ X a) < 64 ∧ from_ X a &&& (from_ X a - 1#64) = from_ X (low (from_ X a) + 1) ∧ worldsTo X (low (from_ X a) + 1) = worldsTo X a ++ [low (from_ X a)] := by
 obtain ⟨h1, h2, h3, h4⟩ := low_spec _ h
 generalize hk : low (from_ X a) = k at *
 rw [from_get _ _ _ h1] at h2
 simp only [Bool.and_eq_true, decide_eq_true_eq] at h2
 refine ⟨h2.1, h1, bv_ext fun w hw => ?_, ?_⟩
 · rw [h4, from_get _ _ _ hw, from_get _ _ _ hw]
   by_cases hw1 : w < k
   · have := h3 w hw1
     rw [from_get _ _ _ hw] at this
     rw [this]
     have : ¬ k + 1 ≤ w := by omega
     simp [this]
   · by_cases hw2 : w = k
     · subst hw2
       have : ¬ w + 1 ≤ w := by omega
       simp [this]
     · have a1 : k + 1 ≤ w := by omega
       have a2 : a ≤ w := by omega
       simp [a1, a2, hw2]
 · rw [worldsTo_succ, h2.2]
   have := worldsTo_skip X a (k - a) (fun w g1 g2 => by
    have := h3 w (by omega)
    rw [from_get _ _ _ (by omega)] at this
    simpa [g1] using this)
   rw [show a + (k - a) = k by omega] at this
   rw [this]; rfl
theorem from_done (X : BitVec 64) (a : Nat) (ha : a ≤ 64) (h : from_ X a = 0#64) : worldsTo X a = worldsTo X 64 := by
 have := worldsTo_skip X a (64 - a) (fun w g1 g2 => by
  have h0 := (bv_zero_iff _).1 h w (by omega)
  rw [from_get _ _ _ (by omega)] at h0
  simpa [g1] using h0)
 rw [show a + (64 - a) = 64 by omega] at this
 exact this.symm
end Am

namespace Am
open Go
set_option linter.unusedSimpArgs false
set_option linter.unusedVariables false
set_option linter.unusedSectionVars false
theorem mask_get {n : Nat} (hn : n ≤ 6) (X : BitVec 64) (w : Nat) : (X &&& alW n).getLsbD w = (X.getLsbD w && decide (w < 2 ^ n)) := by
 unfold alW
 rw [BitVec.getLsbD_and, bitsTo_get _ _ _ (pow6 hn)]; simp
theorem worlds_all {n : Nat} (hn : n ≤ 6) (X : BitVec 64) : worldsTo (X &&& alW n) 64 = worldsTo X (2 ^ n) := by
 have h64 := pow6 hn
 have h1 := worldsTo_skip (X &&& alW n) (2 ^ n) (64 - 2 ^ n) (fun w h1 h2 => by
  rw [mask_get hn]
  have : ¬ w < 2 ^ n := by omega
  simp [this])
 rw [show 2 ^ n + (64 - 2 ^ n) = 64 by omega] at h1
 rw [h1]
 unfold worldsTo
 refine List.filter_congr fun w hw => ?_
 rw [List.mem_range] at hw
 rw [mask_get hn]; simp [hw]
end Am

namespace Am
open Go
set_option linter.unusedSimpArgs false
set_option linter.unusedVariables false
set_option linter.unusedSectionVars false
theorem validate_zero {f : F} (h : validate f = 0) : f.size ≤ 600 ∧ f.depth ≤ 20 ∧ good f = true := by
 unfold validate at h
 split at h
 · simp at h
 · rename_i h1
   simp only [Bool.or_eq_true, decide_eq_true_eq, not_or] at h1
   split at h
   · simp at h
   · rename_i h2
     split at h
     · simp at h
     · rename_i h3
       refine ⟨by omega, by omega, ?_⟩
       simp only [Bool.not_eq_true, Bool.not_eq_false'] at h2 h3
       simp [good, h2, h3]
theorem good_nameB {f : F} (h : good f = true) : F.allF nameB f = true := allF_mono (fun g hg => by simp only [lenB, nameB, decide_eq_true_eq] at hg ⊢; omega) f (good_lenB h)
theorem and_all {n : Nat} (hn : n ≤ 6) {X : BitVec 64} (h : ∀ w, has X w → w < 2 ^ n) : X &&& allS (vocN n) = X := by
 have : allS (vocN n) = alW n := by unfold allS; rw [if_pos (vocN_ok hn), vocN_len]
 rw [this]; exact sub_and hn h
theorem all_sub {n : Nat} (hn : n ≤ 6) (X : BitVec 64) : ∀ w, has (X &&& allS (vocN n)) w → w < 2 ^ n := by
 have : allS (vocN n) = alW n := by unfold allS; rw [if_pos (vocN_ok hn), vocN_len]
 rw [this]; exact sub_of_and hn X
theorem thy_small {n : Nat} (hn : n ≤ 6) (X : BitVec 64) : (thy (vocN n) X).size < 1000000000 ∧ F.allF nameB (thy (vocN n) X) = true := by
 have := thy_ok (vocOk_names (vocN_ok hn)) X
 have h6 := pow6 hn
 rw [Thy, vocN_len] at this
 exact ⟨by have := this.2.1; omega, good_nameB this.1⟩
end Am

namespace Am
open Go
set_option linter.unusedSimpArgs false
set_option linter.unusedVariables false
set_option linter.unusedSectionVars false
theorem ofInt_wrap (n : Int) : BitVec.ofInt 64 (IntKind.i64.wrap n) = BitVec.ofInt 64 n := by
 apply BitVec.eq_of_toNat_eq
 rw [BitVec.toNat_ofInt, BitVec.toNat_ofInt]
 congr 1
 show IntKind.i64.wrap n % 18446744073709551616 = n % 18446744073709551616
 simp only [IntKind.wrap, IntKind.bits, IntKind.signed, Bool.true_and, decide_eq_true_eq]
 split <;> omega
def dif (v w : Int) : BitVec 64 := (BitVec.ofInt 64 v ^^^ BitVec.ofInt 64 w) &&& 63#64
theorem six_get (i : Nat) : (63#64 : BitVec 64).getLsbD i = decide (i < 6) := by
 rw [show (63#64 : BitVec 64) = bitsTo (fun _ => true) 6 by decide +kernel, bitsTo_get _ _ _ (by omega), Bool.and_true]
theorem dif_get (v w : Int) (i : Nat) : (dif v w).getLsbD i = (decide (i < 6) && ((BitVec.ofInt 64 v).getLsbD i ^^ (BitVec.ofInt 64 w).getLsbD i)) := by
 unfold dif
 rw [BitVec.getLsbD_and, BitVec.getLsbD_xor, six_get, Bool.and_comm]
theorem ones_zero : ∀ n, ones 0#64 n = 0
 | 0 => rfl
 | n + 1 => by rw [ones, ones_zero n]; simp
theorem ones_le {a b : BitVec 64} (h : ∀ w, has a w → has b w) : ∀ n, ones a n ≤ ones b n
 | 0 => Nat.le_refl _
 | n + 1 => by
  have := ones_le h n
  simp only [ones]
  cases ha : a.getLsbD n with
  | false => simp; omega
  | true => rw [h n ha]; omega
theorem ones_lt {a b : BitVec 64} (h : ∀ w, has a w → has b w) {k : Nat} (hb : has b k) (ha : ¬ has a k) : ∀ n, k < n → ones a n < ones b n
 | 0, hk => by omega
 | n + 1, hk => by
  simp only [ones]
  by_cases hkn : k = n
  · subst hkn
    have := ones_le h k
    have h1 : a.getLsbD k = false := by cases hx : a.getLsbD k with
     | false => rfl
     | true => exact absurd hx ha
    have h2 : b.getLsbD k = true := hb
    rw [h1, h2]
    simp only [Bool.toNat_false, Bool.toNat_true]; omega
  · have := ones_lt h hb ha n (by omega)
    cases hx : a.getLsbD n with
    | false => simp; omega
    | true => rw [h n hx]; omega
theorem ones_tri {a b c : BitVec 64} (h : ∀ w, has c w → has a w ∨ has b w) : ∀ n, ones c n ≤ ones a n + ones b n
 | 0 => by simp [ones]
 | n + 1 => by
  have := ones_tri h n
  simp only [ones]
  cases hc : c.getLsbD n with
  | false => simp; omega
  | true =>
   rcases h n hc with h1 | h1 <;> rw [show _ = true from h1] <;> simp only [Bool.toNat_true] <;> omega
theorem ones_sub {a b : BitVec 64} (h : ∀ w, has a w → has b w) (hne : a ≠ b) : ones a 64 < ones b 64 := by
 obtain ⟨k, hk⟩ : ∃ k, has b k ∧ ¬ has a k := Classical.byContradiction fun hn => hne (set_eq fun w => ⟨h w, fun hb => Classical.byContradiction fun ha => hn ⟨w, hb, ha⟩⟩)
 exact ones_lt h hk.1 hk.2 64 (has_lt hk.1)
theorem dif_self (v : Int) : dif v v = 0#64 := set_zero.2 fun w h => by rw [has, dif_get] at h; simp at h
theorem dif_comm (v w : Int) : dif v w = dif w v := by unfold dif; rw [BitVec.xor_comm]
theorem dif_tri (u v w : Int) : ones (dif u w) 64 ≤ ones (dif u v) 64 + ones (dif v w) 64 := by
 refine ones_tri (fun i h => ?_) 64
 rw [has, dif_get, Bool.and_eq_true, decide_eq_true_eq] at h
 rw [has, has, dif_get, dif_get]
 obtain ⟨h1, h2⟩ := h
 simp only [h1, decide_true, Bool.true_and]
 cases h3 : (BitVec.ofInt 64 u).getLsbD i <;> cases h4 : (BitVec.ofInt 64 v).getLsbD i <;> cases h5 : (BitVec.ofInt 64 w).getLsbD i <;> simp_all
theorem dif_nat {v w : Nat} (hv : v < 64) (hw : w < 64) : dif v w = BitVec.ofNat 64 (v ^^^ w) := by
 have h : v ^^^ w < 2 ^ 6 := Nat.xor_lt_two_pow (by omega) (by omega)
 apply BitVec.eq_of_toNat_eq
 unfold dif
 rw [ofIntN, ofIntN, BitVec.toNat_and, show (63#64 : BitVec 64).toNat = 2 ^ 6 - 1 from rfl, Nat.and_two_pow_sub_one_eq_mod, BitVec.toNat_xor, BitVec.toNat_ofNat, BitVec.toNat_ofNat, BitVec.toNat_ofNat, Nat.mod_eq_of_lt (by omega : v < 2 ^ 64), Nat.mod_eq_of_lt (by omega : w < 2 ^ 64),
  Nat.mod_eq_of_lt h, Nat.mod_eq_of_lt (by omega)]
theorem dif_zero {v w : Nat} (hv : v < 64) (hw : w < 64) : dif v w = 0#64 ↔ v = w := by
 rw [dif_nat hv hw]
 have h : v ^^^ w < 2 ^ 6 := Nat.xor_lt_two_pow (by omega) (by omega)
 constructor
 · intro e
   have e1 : (BitVec.ofNat 64 (v ^^^ w)).toNat = 0 := by rw [e]; rfl
   rw [BitVec.toNat_ofNat, Nat.mod_eq_of_lt (by omega)] at e1
   refine Nat.eq_of_testBit_eq fun i => ?_
   have e2 : (v ^^^ w).testBit i = false := by rw [e1]; simp
   rw [Nat.testBit_xor] at e2
   cases hv' : v.testBit i <;> cases hw' : w.testBit i <;> simp_all
 · rintro rfl
   simp
def nearP (d : Int) (a b : BitVec 64) : Bool := if d = 1 then decide (ones a 64 < ones b 64) else if d = 2 then decide (a &&& ~~~b = 0#64) && !decide (a = b) else if d = 3 then decide (a = 0#64) && !decide (b = 0#64) else false
theorem near_lt {d : Int} {a b : BitVec 64} (h : nearP d a b = true) : ones a 64 < ones b 64 := by
 unfold nearP at h
 split at h
 · exact of_decide_eq_true h
 split at h
 · simp only [Bool.and_eq_true, decide_eq_true_eq, Bool.not_eq_true', decide_eq_false_iff_not] at h
   exact ones_sub (set_sub.1 h.1) h.2
 split at h
 · simp only [Bool.and_eq_true, decide_eq_true_eq, Bool.not_eq_true', decide_eq_false_iff_not] at h
   obtain ⟨rfl, h2⟩ := h
   exact ones_sub (fun w hw => by simp [has] at hw) fun e => h2 e.symm
 · cases h
theorem near_tr {d : Int} {a b c : BitVec 64} (h1 : nearP d a b = true) (h2 : nearP d b c = true) : nearP d a c = true := by
 have l1 := near_lt h1
 have l2 := near_lt h2
 unfold nearP at h1 h2 ⊢
 split at h1
 · rename_i hd; rw [if_pos hd]; exact decide_eq_true (by omega)
 rename_i hd1
 split at h1
 · rename_i hd
   rw [if_neg hd1, if_pos hd] at h2 ⊢
   simp only [Bool.and_eq_true, decide_eq_true_eq, Bool.not_eq_true', decide_eq_false_iff_not] at h1 h2 ⊢
   refine ⟨set_sub.2 fun w hw => set_sub.1 h2.1 w (set_sub.1 h1.1 w hw), ?_⟩
   rintro rfl; omega
 rename_i hd2
 split at h1
 · rename_i hd
   rw [if_neg hd1, if_neg hd2, if_pos hd] at h2 ⊢
   simp only [Bool.and_eq_true, decide_eq_true_eq, Bool.not_eq_true', decide_eq_false_iff_not] at h1 h2 ⊢
   exact ⟨h1.1, h2.2⟩
 · cases h1
theorem near_mod {d : Int} (hd : d ≠ 2) {a b c : BitVec 64} (h : nearP d a c = true) : nearP d a b = true ∨ nearP d b c = true := by
 unfold nearP at h ⊢
 split at h
 · rename_i h1
   rw [if_pos h1, if_pos h1]
   simp only [decide_eq_true_eq] at h ⊢; omega
 · rename_i h1
   rw [if_neg h1, if_neg h1, if_neg hd, if_neg hd]
   split at h
   · rename_i h3
     rw [if_pos h3, if_pos h3]
     simp only [Bool.and_eq_true, decide_eq_true_eq, Bool.not_eq_true', decide_eq_false_iff_not] at h ⊢
     by_cases hb : b = 0#64
     · exact .inr ⟨hb, h.2⟩
     · exact .inl ⟨h.1, hb⟩
   · cases h
theorem near_zero {d : Int} (h1 : 1 ≤ d) (h3 : d ≤ 3) {b : BitVec 64} (hb : b ≠ 0#64) : nearP d 0#64 b = true := by
 have hl : ones 0#64 64 < ones b 64 := ones_sub (fun w hw => by simp [has] at hw) fun e => hb e.symm
 unfold nearP
 rcases (by omega : d = 1 ∨ d = 2 ∨ d = 3) with rfl | rfl | rfl
 · simp [hl]
 · simp; exact fun e => hb e.symm
 · simp [hb]
theorem near_12 {a b : BitVec 64} (h : nearP 2 a b = true) : nearP 1 a b = true := decide_eq_true (near_lt h)
theorem near_23 {a b : BitVec 64} (h : nearP 3 a b = true) : nearP 2 a b = true := by
 simp only [nearP, Int.reduceEq, if_false, if_true, Bool.and_eq_true, decide_eq_true_eq, Bool.not_eq_true', decide_eq_false_iff_not] at h ⊢
 obtain ⟨rfl, h⟩ := h
 exact ⟨by simp, fun e => h e.symm⟩
def nearS (n : Nat) (v : Int) (X : BitVec 64) (d : Int) : BitVec 64 := bitsTo (fun w => X.getLsbD w && (List.range n).all (fun u => !(X.getLsbD u && nearP d (dif v u) (dif v w)))) n
theorem has_near {n : Nat} (hn : n ≤ 64) {v : Int} {X : BitVec 64} {d : Int} {w : Nat} : has (nearS n v X d) w ↔ w < n ∧ has X w ∧ ∀ u, u < n → has X u → ¬ nearP d (dif v u) (dif v w) = true := by
 unfold nearS
 rw [has_bits hn, Bool.and_eq_true, List.all_eq_true]
 constructor
 · rintro ⟨h1, h2, h3⟩
   refine ⟨h1, h2, fun u hu hx hc => ?_⟩
   have := h3 u (List.mem_range.2 hu)
   rw [hx, hc] at this
   cases this
 · rintro ⟨h1, h2, h3⟩
   refine ⟨h1, h2, fun u hu => ?_⟩
   have hu := List.mem_range.1 hu
   cases hx : X.getLsbD u with
   | false => rfl
   | true =>
    have := h3 u hu hx
    simp only [Bool.not_eq_true] at this
    rw [this]; rfl
theorem near_ex {n : Nat} (hn : n ≤ 64) (v : Int) (X : BitVec 64) (d : Int) : ∀ (k u : Nat), ones (dif v u) 64 ≤ k → u < n → has X u → ∃ w, has (nearS n v X d) w ∧ (w = u ∨ nearP d (dif v w) (dif v u) = true) := by
 intro k
 induction k with
 | zero =>
  intro u hk hu hx
  exact ⟨u, (has_near hn).2 ⟨hu, hx, fun x _ _ hc => by have := near_lt hc; omega⟩, .inl rfl⟩
 | succ k ih =>
  intro u hk hu hx
  by_cases hb : ∃ x, x < n ∧ has X x ∧ nearP d (dif v x) (dif v u) = true
  · obtain ⟨x, h1, h2, h3⟩ := hb
    obtain ⟨w, hw, hor⟩ := ih x (by have := near_lt h3; omega) h1 h2
    refine ⟨w, hw, .inr ?_⟩
    rcases hor with rfl | h
    · exact h3
    · exact near_tr h h3
  · exact ⟨u, (has_near hn).2 ⟨hu, hx, fun x h1 h2 h3 => hb ⟨x, h1, h2, h3⟩⟩, .inl rfl⟩
theorem near_ex' {n : Nat} (hn : n ≤ 64) (v : Int) (X : BitVec 64) (d : Int) {u : Nat} (hu : u < n) (hx : has X u) : ∃ w, has (nearS n v X d) w ∧ (w = u ∨ nearP d (dif v w) (dif v u) = true) := near_ex hn v X d _ u (Nat.le_refl _) hu hx
def unionT (n : Nat) (K X : BitVec 64) (d : Int) (i : Nat) : BitVec 64 := bitsTo (fun w => (List.range i).any (fun v => K.getLsbD v && (nearS n v X d).getLsbD w)) n
def unionS (n : Nat) (K X : BitVec 64) (d : Int) : BitVec 64 := unionT n K X d n
theorem has_unionT {n : Nat} (hn : n ≤ 64) {K X : BitVec 64} {d : Int} {i w : Nat} : has (unionT n K X d i) w ↔ ∃ v, v < i ∧ has K v ∧ has (nearS n v X d) w := by
 unfold unionT
 rw [has_bits hn, List.any_eq_true]
 constructor
 · rintro ⟨h1, v, h2, h3⟩
   rw [Bool.and_eq_true] at h3
   exact ⟨v, List.mem_range.1 h2, h3.1, h3.2⟩
 · rintro ⟨v, h1, h2, h3⟩
   exact ⟨((has_near hn).1 h3).1, v, List.mem_range.2 h1, by rw [Bool.and_eq_true]; exact ⟨h2, h3⟩⟩
theorem has_union {n : Nat} (hn : n ≤ 64) {K X : BitVec 64} {d : Int} {w : Nat} : has (unionS n K X d) w ↔ ∃ v, v < n ∧ has K v ∧ has (nearS n v X d) w := has_unionT hn
section
variable {n : Nat} (hn : n ≤ 64) {K A B M X Y : BitVec 64} {d : Int} {v : Int}
include hn
theorem near_sub {w : Nat} (h : has (nearS n v M d) w) : has M w ∧ w < n := ⟨((has_near hn).1 h).2.1, ((has_near hn).1 h).1⟩
theorem union_sub {w : Nat} (h : has (unionS n A M d) w) : has M w ∧ w < n := by
 obtain ⟨v, _, _, h⟩ := (has_union hn).1 h
 exact near_sub hn h
theorem upd1 : unionS n A M d &&& ~~~M = 0#64 := set_sub.2 fun w h => (union_sub hn h).1
theorem near_in (d1 : 1 ≤ d) (d3 : d ≤ 3) {u : Nat} (hu : u < n) (hm : has M u) (w : Nat) : has (nearS n u M d) w ↔ w = u := by
 rw [has_near hn]
 constructor
 · rintro ⟨h1, h2, h3⟩
   refine Classical.byContradiction fun hne => h3 u hu hm ?_
   rw [dif_self]
   exact near_zero d1 d3 fun e => hne ((dif_zero (by omega) (by omega)).1 e).symm
 · rintro rfl
   refine ⟨hu, hm, fun x _ _ hc => ?_⟩
   rw [dif_self] at hc
   have := near_lt hc
   rw [ones_zero] at this; omega
theorem upd2 (d1 : 1 ≤ d) (d3 : d ≤ 3) (hA : ∀ w, has A w → w < n) (h : A &&& ~~~M = 0#64) : unionS n A M d = A := by
 refine set_eq fun w => ?_
 rw [has_union hn]
 constructor
 · rintro ⟨v, h1, h2, h3⟩
   rw [near_in hn d1 d3 h1 (set_sub.1 h v h2)] at h3
   subst h3; exact h2
 · intro hw
   exact ⟨w, hA w hw, hw, (near_in hn d1 d3 (hA w hw) (set_sub.1 h w hw) w).2 rfl⟩
theorem upd3 (hA : ∀ w, has A w → w < n) (hM : ∀ w, has M w → w < n) (h1 : A ≠ 0#64) (h2 : M ≠ 0#64) : unionS n A M d ≠ 0#64 := by
 obtain ⟨v, hv⟩ := set_ne h1
 obtain ⟨u, hu⟩ := set_ne h2
 obtain ⟨w, hw, _⟩ := near_ex' hn (v : Int) M d (hM u hu) hu
 exact ne_of_has ((has_union hn).2 ⟨v, hA v hv, hv, hw⟩)
theorem upd8 : unionS n (A ||| B) M d = unionS n A M d ||| unionS n B M d := by
 refine set_eq fun w => ?_
 rw [has_or, has_union hn, has_union hn, has_union hn]
 constructor
 · rintro ⟨v, h1, h2, h3⟩
   rw [has_or] at h2
   rcases h2 with h2 | h2
   · exact .inl ⟨v, h1, h2, h3⟩
   · exact .inr ⟨v, h1, h2, h3⟩
 · rintro (⟨v, h1, h2, h3⟩ | ⟨v, h1, h2, h3⟩)
   · exact ⟨v, h1, has_or.2 (.inl h2), h3⟩
   · exact ⟨v, h1, has_or.2 (.inr h2), h3⟩
theorem upd5 : unionS n A M d &&& K &&& ~~~(unionS n A (M &&& K) d) = 0#64 := by
 refine set_sub.2 fun w h => ?_
 rw [has_and, has_union hn] at h
 obtain ⟨⟨v, h1, h2, h3⟩, hk⟩ := h
 obtain ⟨a, b, c⟩ := (has_near hn).1 h3
 exact (has_union hn).2 ⟨v, h1, h2, (has_near hn).2 ⟨a, has_and.2 ⟨b, hk⟩, fun u hu hx => c u hu (has_and.1 hx).1⟩⟩
theorem upd6a (h1 : unionS n A M d &&& ~~~K = 0#64) (h2 : unionS n A K d &&& ~~~M = 0#64) (w : Nat) (h : has (unionS n A M d) w) : has (unionS n A K d) w := by
 obtain ⟨v, hv, ha, h3⟩ := (has_union hn).1 h
 obtain ⟨a, b, c⟩ := (has_near hn).1 h3
 refine (has_union hn).2 ⟨v, hv, ha, (has_near hn).2 ⟨a, set_sub.1 h1 w h, fun u hu hx hc => ?_⟩⟩
 obtain ⟨u', hu', hor⟩ := near_ex' hn (v : Int) K d hu hx
 have hm := set_sub.1 h2 u' ((has_union hn).2 ⟨v, hv, ha, hu'⟩)
 refine c u' (near_sub hn hu').2 hm ?_
 rcases hor with rfl | h
 · exact hc
 · exact near_tr h hc
theorem upd6 (h1 : unionS n A M d &&& ~~~K = 0#64) (h2 : unionS n A K d &&& ~~~M = 0#64) : unionS n A M d = unionS n A K d :=
 set_eq fun w => ⟨upd6a hn h1 h2 w, upd6a hn h2 h1 w⟩
theorem union_one {v : Nat} (hv : v < n) : unionS n (1#64 <<< v) M d = nearS n v M d := by
 refine set_eq fun w => ?_
 rw [has_union hn]
 constructor
 · rintro ⟨u, h1, h2, h3⟩
   rw [has, one_shl_get _ _ (by omega), decide_eq_true_eq] at h2
   subst h2; exact h3
 · intro h
   exact ⟨v, hv, by rw [has, one_shl_get _ _ (by omega)]; simp, h⟩
theorem upd7 : nearS n v M d &&& nearS n v K d &&& ~~~(nearS n v (M ||| K) d) = 0#64 := by
 refine set_sub.2 fun w h => ?_
 rw [has_and, has_near hn, has_near hn] at h
 obtain ⟨⟨a, b, c⟩, _, b', c'⟩ := h
 refine (has_near hn).2 ⟨a, has_or.2 (.inl b), fun u hu hx => ?_⟩
 rcases has_or.1 hx with hx | hx
 · exact c u hu hx
 · exact c' u hu hx
theorem upd9 (hd : d ≠ 2) (h : nearS n v M d &&& K ≠ 0#64) : nearS n v (M &&& K) d &&& ~~~(nearS n v M d &&& K) = 0#64 := by
 obtain ⟨w0, h0⟩ := set_ne h
 rw [has_and, has_near hn] at h0
 obtain ⟨⟨a0, b0, c0⟩, k0⟩ := h0
 refine set_sub.2 fun u hu => ?_
 obtain ⟨a, b, c⟩ := (has_near hn).1 hu
 rw [has_and] at b
 refine has_and.2 ⟨(has_near hn).2 ⟨a, b.1, fun x hx hm hc => ?_⟩, b.2⟩
 rcases near_mod hd (b := dif v w0) hc with h | h
 · exact c0 x hx hm h
 · exact c w0 a0 (has_and.2 ⟨b0, k0⟩) h
theorem near_h_i : nearS n v M 1 &&& ~~~(nearS n v M 2) = 0#64 := by
 refine set_sub.2 fun w h => ?_
 obtain ⟨a, b, c⟩ := (has_near hn).1 h
 exact (has_near hn).2 ⟨a, b, fun u hu hx hc => c u hu hx (near_12 hc)⟩
theorem near_i_d : nearS n v M 2 &&& ~~~(nearS n v M 3) = 0#64 := by
 refine set_sub.2 fun w h => ?_
 obtain ⟨a, b, c⟩ := (has_near hn).1 h
 exact (has_near hn).2 ⟨a, b, fun u hu hx hc => c u hu hx (near_23 hc)⟩
theorem near_none {L : BitVec 64} (hL : ∀ w, has L w ↔ w < n) : nearS n v M d = 0#64 ↔ M &&& L = 0#64 := by
 constructor
 · intro h
   refine set_zero.2 fun u hu => ?_
   rw [has_and, hL] at hu
   obtain ⟨w, hw, _⟩ := near_ex' hn v M d hu.2 hu.1
   exact set_zero.1 h w hw
 · intro h
   refine set_zero.2 fun w hw => ?_
   obtain ⟨a, b, _⟩ := (has_near hn).1 hw
   exact set_zero.1 h w (has_and.2 ⟨b, (hL w).2 a⟩)
end
def okN (v : Int) (l : List Nat) (d : Int) (w : Nat) : Bool := l.all fun u => !nearP d (dif v u) (dif v w)
def accN (v : Int) (l : List Nat) (d : Int) (i : Nat) : BitVec 64 := bitsTo (fun w => (l.take i).contains w && okN v l d w) 64
theorem has_accN {v : Int} {l : List Nat} {d : Int} {i w : Nat} : has (accN v l d i) w ↔ w < 64 ∧ w ∈ l.take i ∧ okN v l d w = true := by
 unfold accN
 rw [has_bits (by omega), Bool.and_eq_true]
 simp
theorem accN_0 (v : Int) (l : List Nat) (d : Int) : accN v l d 0 = 0#64 := set_zero.2 fun w h => by
 rw [has_accN] at h; simp at h
theorem accN_s {v : Int} {l : List Nat} {d : Int} {i : Nat} (hi : i < l.length) (hw : l[i] < 64) : accN v l d (i + 1) = if okN v l d l[i] = true then accN v l d i ||| 1#64 <<< l[i] else accN v l d i := by
 have ht : ∀ w, w ∈ l.take (i + 1) ↔ w ∈ l.take i ∨ w = l[i] := fun w => by
  rw [List.take_add_one, List.getElem?_eq_getElem hi]; simp only [List.mem_append, Option.toList_some, List.mem_singleton]
 have e1 : ∀ w, has (1#64 <<< l[i]) w ↔ w = l[i] := fun w => by rw [has, one_shl_get _ _ hw, decide_eq_true_eq]
 refine set_eq fun w => ?_
 rw [has_accN, ht]
 by_cases ho : okN v l d l[i] = true
 · rw [if_pos ho, has_or, has_accN, e1]
   constructor
   · rintro ⟨a, b | b, c⟩
     · exact .inl ⟨a, b, c⟩
     · exact .inr b
   · rintro (⟨a, b, c⟩ | rfl)
     · exact ⟨a, .inl b, c⟩
     · exact ⟨hw, .inr rfl, ho⟩
 · rw [if_neg ho, has_accN]
   constructor
   · rintro ⟨a, b | rfl, c⟩
     · exact ⟨a, b, c⟩
     · exact absurd c ho
   · rintro ⟨a, b, c⟩
     exact ⟨a, .inl b, c⟩
theorem mem_worldsTo {X : BitVec 64} {n w : Nat} : w ∈ worldsTo X n ↔ w < n ∧ has X w := by
 unfold worldsTo
 rw [List.mem_filter, List.mem_range]
theorem accN_near {n : Nat} (hn : n ≤ 64) (v : Int) (X : BitVec 64) (d : Int) : accN v (worldsTo X n) d (worldsTo X n).length = nearS n v X d := by
 refine set_eq fun w => ?_
 rw [has_accN, has_near hn, List.take_length, mem_worldsTo]
 unfold okN
 rw [List.all_eq_true]
 constructor
 · rintro ⟨a, b, c⟩
   refine ⟨b.1, b.2, fun u hu hx hc => ?_⟩
   have := c u (mem_worldsTo.2 ⟨hu, hx⟩)
   rw [hc] at this; cases this
 · rintro ⟨a, b, c⟩
   refine ⟨by omega, ⟨a, b⟩, fun u hu => ?_⟩
   rw [mem_worldsTo] at hu
   have := c u hu.1 hu.2
   simpa using this
theorem unionT_list {n : Nat} (hn : n ≤ 64) (K X : BitVec 64) (d : Int) (i : Nat) (hi : i < (worldsTo K n).length) :
 bitsTo (fun w => ((worldsTo K n).take (i + 1)).any fun v => (nearS n v X d).getLsbD w) n = bitsTo (fun w => ((worldsTo K n).take i).any fun v => (nearS n v X d).getLsbD w) n ||| nearS n ((worldsTo K n)[i] : Nat) X d := by
 refine set_eq fun w => ?_
 rw [has_or, has_bits hn, has_bits hn, List.take_add_one, List.getElem?_eq_getElem hi, List.any_append, Bool.or_eq_true]
 simp only [Option.toList_some, List.any_cons, List.any_nil, Bool.or_false]
 constructor
 · rintro ⟨a, b | b⟩
   · exact .inl ⟨a, b⟩
   · exact .inr b
 · rintro (⟨a, b⟩ | b)
   · exact ⟨a, .inl b⟩
   · exact ⟨((has_near hn).1 b).1, .inr b⟩
theorem union_list {n : Nat} (hn : n ≤ 64) (K X : BitVec 64) (d : Int) : bitsTo (fun w => ((worldsTo K n).take (worldsTo K n).length).any fun v => (nearS n v X d).getLsbD w) n = unionS n K X d := by
 refine set_eq fun w => ?_
 rw [has_bits hn, has_union hn, List.take_length, List.any_eq_true]
 constructor
 · rintro ⟨a, v, b, c⟩
   rw [mem_worldsTo] at b
   exact ⟨v, b.1, b.2, c⟩
 · rintro ⟨v, a, b, c⟩
   exact ⟨((has_near hn).1 c).1, v, mem_worldsTo.2 ⟨a, b⟩, c⟩
end Am
