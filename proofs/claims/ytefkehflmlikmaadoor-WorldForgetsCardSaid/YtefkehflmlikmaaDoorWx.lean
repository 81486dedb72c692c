/- Plain programs of the functions of the program and lemmas about what they compute. -/
import Derived.Test.YtefkehflmlikmaaDoorWv
set_option linter.unusedSimpArgs false
set_option linter.unusedVariables false
set_option linter.unusedSectionVars false
namespace Go.Proofs.YtefkehflmlikmaaDoor
open Go Am
set_option maxRecDepth 100000
set_option linter.unusedSimpArgs false
set_option linter.unusedVariables false
theorem subF1 (f g : F) : PO.eval (.subL 3) [.sl (F.encs [f, g]), .int .i64 0, .int .i64 1] = some [.sl (F.encs [f])] := by
 simp [PO.eval, F.encs, F.enc_eq]
theorem val_pr7 (ys : List (List UInt8)) (f g : F) : F.val ys (F.mk 7 [] [f, g]) = (!F.val ys f || F.val ys g) := by
 rw [F.val_eq]
 simp only [F.op_mk, F.args_mk, F.name_mk, List.map_cons, List.map_nil]
 cases F.val ys f <;> cases F.val ys g <;> simp [valO]
theorem val_pr8 (ys : List (List UInt8)) (f g : F) : F.val ys (F.mk 8 [] [f, g]) = (F.val ys f == F.val ys g) := by
 rw [F.val_eq]
 simp only [F.op_mk, F.args_mk, F.name_mk, List.map_cons, List.map_nil]
 cases F.val ys f <;> cases F.val ys g <;> simp [valO]
theorem algebra_run (l0 : List Int) : run tb 2 [numsD l0] = some [.bool true] := by
 have aw := awake03_run
 obtain ⟨l, hl, hn⟩ := new_run l0
 obtain ⟨f, p, hp, f1, f2, f3, f4, f5, f6, hf⟩ := gen_run 5 3 (by omega) (by omega) (by omega) l hl 0 (by omega)
 obtain ⟨g, q, hq, g1, g2, g3, g4, g5, g6, hg⟩ := gen_run 5 3 (by omega) (by omega) (by omega) l hl p hp
 have hf : run tb 18 [.int .i64 5, .int .i64 3, numsD l, .int .i64 0] = some [.int .i64 f.op, .str f.name, .sl (F.encs f.args), numsD l, .int .i64 p] := hf
 have hg : run tb 18 [.int .i64 5, .int .i64 3, numsD l, .int .i64 p] = some [.int .i64 g.op, .str g.name, .sl (F.encs g.args), numsD l, .int .i64 q] := hg
 have hv5 : run tb 8 [.int .i64 5] = some [strsD (vocN 5)] := voc_run 5 (by omega)
 have hvo := vocN_ok (n := 5) (by omega)
 have hlen : (vocN 5).length < 1000000000 := by rw [vocN_len]; omega
 have h2p : (2 : Nat) ^ 5 = 2 ^ (vocN 5).length := by rw [vocN_len]
 have hal : allS (vocN 5) = alW (vocN 5).length := by unfold allS; rw [if_pos hvo]
 have hasF : ∀ w, has (modelsS (vocN 5) f) w ↔ w < 2 ^ (vocN 5).length ∧ F.val (yesN (vocN 5) w) f = true := fun w => by rw [f6, h2p, has_N hvo]
 have hasG : ∀ w, has (modelsS (vocN 5) g) w ↔ w < 2 ^ (vocN 5).length ∧ F.val (yesN (vocN 5) w) g = true := fun w => by rw [g6, h2p, has_N hvo]
 have hasA : ∀ w, has (allS (vocN 5)) w ↔ w < 2 ^ (vocN 5).length := fun w => by rw [hal]; unfold alW; rw [has_bits (pow6 (vocOk_len hvo))]; simp
 have two : ∀ x ∈ [f, g], ∀ s ∈ F.atomL x, s ∈ vocN 5 := fun x hx s hs => by
  simp only [List.mem_cons, List.not_mem_nil, or_false] at hx
  rcases hx with rfl | rfl
  · exact f4 s hs
  · exact g4 s hs
 have good2 : ∀ x ∈ [f, g], good x = true := by simp [f1, g1]
 have sz : ∀ o : Int, (F.mk o [] [f, g]).size = 1 + (f.size + g.size) := fun o => by simp [F.size, F.sizes]
 have dp : ∀ o : Int, (F.mk o [] [f, g]).depth = max (1 + f.depth) (1 + g.depth) := fun o => by simp [F.depth, F.depths]
 have mo : ∀ o : Int, (o = 5 ∨ o = 6 ∨ o = 7 ∨ o = 8) → modelsE (vocN 5) (F.mk o [] [f, g]) = 0 ∧ modelsS (vocN 5) (F.mk o [] [f, g]) = modN (vocN 5) (F.mk o [] [f, g]) (2 ^ (vocN 5).length) := fun o ho =>
  mk_models hvo (by omega) (by rcases ho with rfl | rfl | rfl | rfl <;> exact good_nd rfl rfl good2) (by rw [sz]; omega) (by rw [dp]; omega) two
 have rn : ∀ o : Int, (o = 5 ∨ o = 6 ∨ o = 7 ∨ o = 8) → run tb 15 [strsD (vocN 5), .int .i64 o, .str [], .sl (F.encs [f, g])] = some [bvD (modN (vocN 5) (F.mk o [] [f, g]) (2 ^ (vocN 5).length)), .int .i64 0] := fun o ho => by
  have h1 := modelsW_run (vocN 5) (F.mk o [] [f, g]) hlen (by rw [sz]; omega)
  rw [(mo o ho).1, (mo o ho).2] at h1
  simpa only [rowF, F.op_mk, F.name_mk, F.args_mk] using h1
 have r5 := rn 5 (by omega)
 have r6 := rn 6 (by omega)
 have r7 := rn 7 (by omega)
 have r8 := rn 8 (by omega)
 have e5 : modN (vocN 5) (F.mk 5 [] [f, g]) (2 ^ (vocN 5).length) = modelsS (vocN 5) f &&& modelsS (vocN 5) g := set_eq fun w => by
  rw [has_N hvo, has_and, hasF, hasG, show F.mk 5 [] [f, g] = pr 5 f g from rfl, val_pr5]
  cases F.val (yesN (vocN 5) w) f <;> cases F.val (yesN (vocN 5) w) g <;> simp <;> omega
 have e6 : modN (vocN 5) (F.mk 6 [] [f, g]) (2 ^ (vocN 5).length) = modelsS (vocN 5) f ||| modelsS (vocN 5) g := set_eq fun w => by
  rw [has_N hvo, has_or, hasF, hasG, show F.mk 6 [] [f, g] = pr 6 f g from rfl, val_pr6]
  cases F.val (yesN (vocN 5) w) f <;> cases F.val (yesN (vocN 5) w) g <;> simp <;> omega
 have e7 : modN (vocN 5) (F.mk 7 [] [f, g]) (2 ^ (vocN 5).length) = (allS (vocN 5) &&& ~~~modelsS (vocN 5) f) ||| modelsS (vocN 5) g := set_eq fun w => by
  rw [has_N hvo, has_or, has_diff, hasA, hasF, hasG, val_pr7]
  cases F.val (yesN (vocN 5) w) f <;> cases F.val (yesN (vocN 5) w) g <;> simp <;> omega
 have e8 : modN (vocN 5) (F.mk 8 [] [f, g]) (2 ^ (vocN 5).length) = allS (vocN 5) &&& ~~~(modelsS (vocN 5) f ^^^ modelsS (vocN 5) g) := set_eq fun w => by
  have hx : has (modelsS (vocN 5) f ^^^ modelsS (vocN 5) g) w ↔ ¬ (has (modelsS (vocN 5) f) w ↔ has (modelsS (vocN 5) g) w) := by
   unfold has
   rw [BitVec.getLsbD_xor]
   cases (modelsS (vocN 5) f).getLsbD w <;> cases (modelsS (vocN 5) g).getLsbD w <;> simp
  rw [has_N hvo, has_diff, hasA, hx, hasF, hasG, val_pr8]
  cases F.val (yesN (vocN 5) w) f <;> cases F.val (yesN (vocN 5) w) g <;> simp <;> omega
 rw [e5] at r5
 rw [e6] at r6
 rw [e7] at r7
 rw [e8] at r8
 obtain ⟨n1, n2⟩ := ng_models hvo f1 f2 f3 f4
 have sng : (ng f).size = 1 + f.size := by simp [ng, F.size, F.sizes]
 have r4 := modelsW_run (vocN 5) (ng f) hlen (by omega)
 rw [n1, n2, ← h2p, ← f6] at r4
 simp only [rowF, ng, F.op_mk, F.name_mk, F.args_mk] at r4
 have hmf := modelsW_run (vocN 5) f hlen (by omega)
 have hmg := modelsW_run (vocN 5) g hlen (by omega)
 rw [f5] at hmf
 rw [g5] at hmg
 simp only [rowF] at hmf hmg
 have hent := entails_run (vocN 5) f g hlen (by omega) (by omega)
 simp only [entE, f5, g5, ne_eq, not_true_eq_false, if_false] at hent
 have hall := all_run (vocN 5) hlen
 have sa := size_run (modelsS (vocN 5) f)
 have sn := size_run (allS (vocN 5) &&& ~~~modelsS (vocN 5) f)
 have h32 : ones (modelsS (vocN 5) f) 64 + ones (allS (vocN 5) &&& ~~~modelsS (vocN 5) f) 64 = 32 := by
  have h := ones_compl (modelsS (vocN 5) f) (vocOk_len hvo) (fun w hw => ((hasF w).1 hw).1) 64 (Nat.le_refl _)
  rw [← hal] at h
  rw [h, vocN_len]; rfl
 have k2 := mk32 f g
 have k3 := subF1 f g
 generalize ones (modelsS (vocN 5) f) 64 = o1 at *
 generalize ones (allS (vocN 5) &&& ~~~modelsS (vocN 5) f) 64 = o2 at *
 have h32' : IntKind.i64.wrap ((o1 : Int) + (o2 : Int)) = 32 := by rw [wr (by omega) (by omega)]; omega
 clear hasF hasG hasA e5 e6 e7 e8 mo rn n2 f6 g6 h32 hal
 generalize modelsS (vocN 5) f = A at *
 generalize modelsS (vocN 5) g = B at *
 generalize allS (vocN 5) = W at *
 generalize hN : W &&& ~~~A = NA at *
 refine run_ir (x := ir2) rfl ?_
 have ed : decide (A &&& ~~~B = 0#64) = decide (A &&& ~~~B = 0#64) := rfl
 simp (disch := omega) only [ir2, ir2p1, ir2p0, stepQ, stepL, eq_self, aBin, reduceIte, Int.reduceEq, Int.reduceLT, Int.reduceLE, Int.reduceGT, Int.reduceGE, bvQ, wu, shl_norm, shr_norm, and1_norm, hn, hv5, callQ_S, hf, hg, k2, hmf, hmg, callQ_tvi, callQ_tv, hall, ibne, k3, r4, r5, r6, r7, r8, hent, callQ_tbi, hN, ebb, sa, sn, h32', aw]
theorem get_Str {l : List (List UInt8)} {i : Nat} (h : i < l.length) : PO.eval (.get 0 1) [strsD l, .int .i64 i] = some [.str l[i]] := by simp [PO.eval, strsD, strR, h]
theorem forg_twice (X : BitVec 64) {i n : Nat} (hi : i < n) (hn : n ≤ 6) : forgS (forgS X i (2 ^ n)) i (2 ^ n) = forgS X i (2 ^ n) := by
 have h64 := pow6 hn
 refine bv_ext fun w hw => ?_
 have hback : (w ^^^ 2 ^ i) ^^^ 2 ^ i = w := by rw [Nat.xor_assoc, Nat.xor_self, Nat.xor_zero]
 have hp : 2 ^ i < 2 ^ n := Nat.pow_lt_pow_right (by omega) hi
 unfold forgS
 rw [bitsTo_get _ _ _ h64, bitsTo_get _ _ _ h64, bitsTo_get _ _ _ h64]
 by_cases h : w < 2 ^ n
 · have h2 : w ^^^ 2 ^ i < 2 ^ n := Nat.xor_lt_two_pow h hp
   simp only [bitsTo_get _ _ _ h64, h, h2, decide_true, Bool.true_and, hback]
   cases X.getLsbD w <;> cases X.getLsbD (w ^^^ 2 ^ i) <;> rfl
 · simp [h]
theorem forget_sub (X : BitVec 64) (i : Nat) {n : Nat} (hn : n ≤ 6) (hX : ∀ w, has X w → w < 2 ^ n) : X &&& ~~~forgS X i (2 ^ n) = 0#64 := set_zero.2 fun w hw => by
 rw [has_diff] at hw
 refine hw.2 ?_
 unfold has forgS
 rw [bitsTo_get _ _ _ (pow6 hn)]
 have h1 := hX w hw.1
 have h2 : X.getLsbD w = true := hw.1
 simp [h1, h2]
end Go.Proofs.YtefkehflmlikmaaDoor

namespace Go.Proofs.YtefkehflmlikmaaDoor
open Go Am
set_option maxRecDepth 100000
set_option linter.unusedSimpArgs false
set_option linter.unusedVariables false
def topF : F := F.mk 1 [] []
def botF : F := F.mk 2 [] []
def setW (w i : Nat) (b : Bool) : Nat := if decide (w / 2 ^ i % 2 = 1) = b then w else w ^^^ 2 ^ i
theorem bit_facts : ∀ i, i < 6 → ∀ w, w < 64 → ∀ j, j < 6 → ((w ^^^ 2 ^ i) / 2 ^ j % 2 = if j = i then 1 - w / 2 ^ i % 2 else w / 2 ^ j % 2) := by decide +kernel
theorem setW_bit {i j w : Nat} (hi : i < 6) (hj : j < 6) (hw : w < 64) (b : Bool) : (setW w i b / 2 ^ j % 2 = 1) ↔ if j = i then b = true else w / 2 ^ j % 2 = 1 := by
 have hb := bit_facts i hi w hw j hj
 unfold setW
 by_cases h : decide (w / 2 ^ i % 2 = 1) = b
 · rw [if_pos h]
   by_cases hji : j = i
   · subst hji
     rw [if_pos rfl, ← h]; simp
   · rw [if_neg hji]
 · rw [if_neg h, hb]
   by_cases hji : j = i
   · subst hji
     rw [if_pos rfl, if_pos rfl]
     cases b with
     | true => have : ¬ w / 2 ^ j % 2 = 1 := by simpa using h
               simp; omega
     | false => have : w / 2 ^ j % 2 = 1 := by simpa using h
                simp; omega
   · rw [if_neg hji, if_neg hji]
theorem val_set {voc : List (List UInt8)} (hv : vocOk voc = true) {i : Nat} (hi : i < voc.length) {w : Nat} (hw : w < 64) (b : Bool) {f : F} (hf : good f = true) :
 F.val (yesN voc w) (F.subst voc[i] (if b then topF else botF) f) = F.val (yesN voc (setW w i b)) f := by
 have h6 := vocOk_len hv
 have hasc := (okNames_asc (vocOk_names hv)).1
 refine val_subst (yesN voc w) (yesN voc (setW w i b)) voc[i] _ ?_ (fun s hs => ?_) f hf
 · have h1 := yesN_mem hasc (w := setW w i b) hi
   have h2 := setW_bit (w := w) (i := i) (j := i) (by omega) (by omega) hw b
   rw [if_pos rfl] at h2
   have hval : F.val (yesN voc w) (if b then topF else botF) = b := by cases b <;> rfl
   rw [hval]
   cases b with
   | true => simpa using h1.2 (h2.2 rfl)
   | false =>
    have : ¬ voc[i] ∈ yesN voc (setW w i false) := fun hm => by have := h2.1 (h1.1 hm); cases this
    simpa using this
 · by_cases hm : s ∈ voc
   · obtain ⟨j, hj, rfl⟩ := List.getElem_of_mem hm
     have hji : j ≠ i := fun e => hs (by subst e; rfl)
     have h1 := yesN_mem hasc (w := setW w i b) hj
     have h2 := yesN_mem hasc (w := w) hj
     have h3 := setW_bit (w := w) (i := i) (j := j) (by omega) (by omega) hw b
     rw [if_neg hji] at h3
     have : voc[j] ∈ yesN voc (setW w i b) ↔ voc[j] ∈ yesN voc w := by rw [h1, h2, h3]
     rw [Bool.eq_iff_iff]; simpa using this
   · have n1 : ¬ s ∈ yesN voc (setW w i b) := fun h => hm (yesN_sub _ _ _ h)
     have n2 : ¬ s ∈ yesN voc w := fun h => hm (yesN_sub _ _ _ h)
     rw [Bool.eq_iff_iff]; simp [n1, n2]
theorem forgets03_run (l0 : List Int) : run tb 4 [numsD l0] = some [.bool true] := by
 have aw := awake03_run
 obtain ⟨l, hl, hn⟩ := new_run l0
 obtain ⟨f, p, hp, f1, f2, f3, f4, f5, f6, hf⟩ := gen_run 4 3 (by omega) (by omega) (by omega) l hl 0 (by omega)
 obtain ⟨k, q, k0, k1, hq, hk⟩ := n_run 4 l p hl hp (by omega) (by omega)
 obtain ⟨k, rfl⟩ := Int.eq_ofNat_of_zero_le k0
 have hf : run tb 18 [.int .i64 4, .int .i64 3, numsD l, .int .i64 0] = some [.int .i64 f.op, .str f.name, .sl (F.encs f.args), numsD l, .int .i64 p] := hf
 have hv4 : run tb 8 [.int .i64 4] = some [strsD (vocN 4)] := voc_run 4 (by omega)
 have hvo := vocN_ok (n := 4) (by omega)
 have hl4 : (vocN 4).length = 4 := vocN_len 4
 have hlen : (vocN 4).length < 1000000000 := by omega
 have hkl : k < (vocN 4).length := by omega
 have gk := get_Str hkl
 have ck := chk_Str hkl
 obtain ⟨i, hi, hni, hix⟩ := idxOf_at (k := 0) (List.getElem_mem hkl)
 rw [Nat.zero_add] at hix
 rw [← hni] at gk hix
 have at0 : ∀ b : Bool, F.atomL (if b then topF else botF) = [] := fun b => by cases b <;> rfl
 have gd : ∀ b : Bool, good (if b then topF else botF) = true := fun b => by cases b <;> rfl
 have sz : ∀ b : Bool, (F.subst (vocN 4)[i] (if b then topF else botF) f).size ≤ 256 := fun b => by
  have := size_subst (vocN 4)[i] (if b then topF else botF) f
  have h1 : (if b then topF else botF).size = 1 := by cases b <;> rfl
  rw [h1, Nat.mul_one] at this
  omega
 have dp : ∀ b : Bool, (F.subst (vocN 4)[i] (if b then topF else botF) f).depth ≤ 3 := fun b => by
  have := depth_subst (vocN 4)[i] (if b then topF else botF) f
  have h1 : (if b then topF else botF).depth = 0 := by cases b <;> rfl
  omega
 have gs : ∀ b : Bool, good (F.subst (vocN 4)[i] (if b then topF else botF) f) = true := fun b => good_subst _ (gd b) f f1
 have asb : ∀ b : Bool, ∀ s ∈ F.atomL (F.subst (vocN 4)[i] (if b then topF else botF) f), s ∈ vocN 4 := fun b => atoms_subst _ _ (at0 b) (vocN 4) f f4
 have vs : ∀ (b : Bool) (w : Nat), w < 64 → F.val (yesN (vocN 4) w) (F.subst (vocN 4)[i] (if b then topF else botF) f) = F.val (yesN (vocN 4) (setW w i b)) f := fun b w hw => val_set hvo hi hw b f1
 have st := subst_run (vocN 4)[i] f topF (by omega) (by decide)
 have sb := subst_run (vocN 4)[i] f botF (by omega) (by decide)
 have sz1 := sz true
 have sz0 := sz false
 have dp1 := dp true
 have dp0 := dp false
 have gs1 := gs true
 have gs0 := gs false
 have as1 := asb true
 have as0 := asb false
 have vs1 := vs true
 have vs0 := vs false
 simp only [if_true, Bool.false_eq_true, if_false] at sz1 sz0 dp1 dp0 gs1 gs0 as1 as0 vs1 vs0
 generalize F.subst (vocN 4)[i] topF f = t at *
 generalize F.subst (vocN 4)[i] botF f = u at *
 simp only [rowF, topF, botF, F.op_mk, F.name_mk, F.args_mk, F.encs, List.cons_append, List.nil_append] at st sb
 have szm : (F.mk 6 [] [t, u]).size = 1 + (t.size + u.size) := by simp [F.size, F.sizes]
 have dpm : (F.mk 6 [] [t, u]).depth = max (1 + t.depth) (1 + u.depth) := by simp [F.depth, F.depths]
 obtain ⟨m1, m2⟩ := mk_models hvo (o := 6) (by decide) (args := [t, u]) (good_pr (.inr rfl) gs1 gs0) (by omega) (by omega) (fun x hx s hs => by
  simp only [List.mem_cons, List.not_mem_nil, or_false] at hx
  rcases hx with rfl | rfl
  · exact as1 s hs
  · exact as0 s hs)
 have hm := modelsW_run (vocN 4) (F.mk 6 [] [t, u]) hlen (by omega)
 rw [m1, m2] at hm
 simp only [rowF, F.op_mk, F.name_mk, F.args_mk] at hm
 have hmf := modelsW_run (vocN 4) f hlen (by omega)
 rw [f5] at hmf
 simp only [rowF] at hmf
 have h2p : (2 : Nat) ^ 4 = 2 ^ (vocN 4).length := by rw [hl4]
 have hasF : ∀ w, has (modelsS (vocN 4) f) w ↔ w < 2 ^ (vocN 4).length ∧ F.val (yesN (vocN 4) w) f = true := fun w => by rw [f6, h2p, has_N hvo]
 have hp : 2 ^ i < 2 ^ (vocN 4).length := Nat.pow_lt_pow_right (by omega) hi
 have h64 := pow6 (vocOk_len hvo)
 have hfo := forget_run (vocN 4) (modelsS (vocN 4) f) (vocN 4)[i] hlen
 rw [hix] at hfo
 have heq : forgetS (vocN 4) (modelsS (vocN 4) f) (i : Int) = modN (vocN 4) (F.mk 6 [] [t, u]) (2 ^ (vocN 4).length) := by
  unfold forgetS
  rw [if_neg (by simp [hvo]), if_neg (by omega), Int.toNat_natCast]
  refine set_eq fun w => ?_
  rw [has_N hvo, show F.mk 6 [] [t, u] = pr 6 t u from rfl, val_pr6]
  unfold forgS
  rw [has_bits h64]
  constructor
  · rintro ⟨hw, h⟩
    refine ⟨hw, ?_⟩
    rw [vs1 w (by omega), vs0 w (by omega)]
    have hfl : w ^^^ 2 ^ i < 2 ^ (vocN 4).length := Nat.xor_lt_two_pow hw hp
    simp only [Bool.or_eq_true] at h ⊢
    have hor : F.val (yesN (vocN 4) w) f = true ∨ F.val (yesN (vocN 4) (w ^^^ 2 ^ i)) f = true := h.imp (fun h => ((hasF w).1 h).2) (fun h => ((hasF _).1 h).2)
    by_cases hb : w / 2 ^ i % 2 = 1
    · have e1 : setW w i true = w := by unfold setW; rw [if_pos (by simp [hb])]
      have e0 : setW w i false = w ^^^ 2 ^ i := by unfold setW; rw [if_neg (by simp [hb])]
      rw [e1, e0]; exact hor
    · have e1 : setW w i true = w ^^^ 2 ^ i := by unfold setW; rw [if_neg (by simp [hb])]
      have e0 : setW w i false = w := by unfold setW; rw [if_pos (by simp [hb])]
      rw [e1, e0]; exact hor.symm
  · rintro ⟨hw, h⟩
    refine ⟨hw, ?_⟩
    rw [vs1 w (by omega), vs0 w (by omega)] at h
    have hfl : w ^^^ 2 ^ i < 2 ^ (vocN 4).length := Nat.xor_lt_two_pow hw hp
    simp only [Bool.or_eq_true] at h ⊢
    by_cases hb : w / 2 ^ i % 2 = 1
    · have e1 : setW w i true = w := by unfold setW; rw [if_pos (by simp [hb])]
      have e0 : setW w i false = w ^^^ 2 ^ i := by unfold setW; rw [if_neg (by simp [hb])]
      rw [e1, e0] at h
      exact h.imp (fun h => (hasF w).2 ⟨hw, h⟩) (fun h => (hasF _).2 ⟨hfl, h⟩)
    · have e1 : setW w i true = w ^^^ 2 ^ i := by unfold setW; rw [if_neg (by simp [hb])]
      have e0 : setW w i false = w := by unfold setW; rw [if_pos (by simp [hb])]
      rw [e1, e0] at h
      exact (h.imp (fun h => (hasF _).2 ⟨hfl, h⟩) (fun h => (hasF w).2 ⟨hw, h⟩)).symm
 have hsub : modelsS (vocN 4) f &&& ~~~modN (vocN 4) (F.mk 6 [] [t, u]) (2 ^ (vocN 4).length) = 0#64 := by
  rw [← heq]
  unfold forgetS
  rw [if_neg (by simp [hvo]), if_neg (by omega), Int.toNat_natCast]
  exact forget_sub _ _ (vocOk_len hvo) fun w hw => ((hasF w).1 hw).1
 have hft := forget_run (vocN 4) (modN (vocN 4) (F.mk 6 [] [t, u]) (2 ^ (vocN 4).length)) (vocN 4)[i] hlen
 have htw : forgetS (vocN 4) (modN (vocN 4) (F.mk 6 [] [t, u]) (2 ^ (vocN 4).length)) (i : Int) = modN (vocN 4) (F.mk 6 [] [t, u]) (2 ^ (vocN 4).length) := by
  rw [← heq]
  unfold forgetS
  rw [if_neg (by simp [hvo]), if_neg (by omega), Int.toNat_natCast, if_neg (by simp [hvo]), if_neg (by omega)]
  exact forg_twice _ hi (vocOk_len hvo)
 rw [hix, htw] at hft
 rw [heq] at hfo
 have kt := mk32 t u
 clear heq htw hasF f6 m2 vs vs1 vs0
 generalize modN (vocN 4) (F.mk 6 [] [t, u]) (2 ^ (vocN 4).length) = B at *
 generalize modelsS (vocN 4) f = A at *
 generalize (vocN 4)[i] = nm at *
 refine run_ir (x := ir4) rfl ?_
 simp (disch := omega) only [ir4, stepQ, stepL, eq_self, aBin, reduceIte, Int.reduceEq, Int.reduceLT, Int.reduceLE, Int.reduceGT, Int.reduceGE, bvQ, wu, shl_norm, shr_norm, and1_norm, hn, hv4, callQ_S, hf, hk, ck, gk, hmf, st, sb, kt, hm, hfo, hft, hsub, callQ_tvi, callQ_tv, aw]
theorem back03_run (X : BitVec 64) (l0 : List Int) : run tb 1 [bvD X, numsD l0] = some [.bool true] := by
 have aw := awake03_run
 obtain ⟨l, hl, hn⟩ := new_run l0
 obtain ⟨n, p, n0, n1, hp, hnr⟩ := n_run 7 l 0 hl (by omega) (by omega) (by omega)
 obtain ⟨n, rfl⟩ := Int.eq_ofNat_of_zero_le n0
 have hn6 : n ≤ 6 := by omega
 have hnr : run tb 7 [.int .i64 7, numsD l, .int .i64 0] = some [.int .i64 n, numsD l, .int .i64 p] := hnr
 have hvn := voc_run n (by omega)
 have hv4 : run tb 8 [.int .i64 4] = some [strsD (vocN 4)] := voc_run 4 (by omega)
 have hvo := vocN_ok hn6
 have hvo4 := vocN_ok (n := 4) (by omega)
 have hlen : (vocN n).length < 1000000000 := by rw [vocN_len]; omega
 have hlen4 : (vocN 4).length < 1000000000 := by rw [vocN_len]; omega
 obtain ⟨f, q, hq, f1, f2, f3, f4, f5, f6, hf⟩ := gen_run 4 3 (by omega) (by omega) (by omega) l hl p hp
 obtain ⟨g, q2, hq2, g1, g2, g3, g4, g5, g6, hg⟩ := gen_run 4 2 (by omega) (by omega) (by omega) l hl q hq
 have hf : run tb 18 [.int .i64 4, .int .i64 3, numsD l, .int .i64 p] = some [.int .i64 f.op, .str f.name, .sl (F.encs f.args), numsD l, .int .i64 q] := hf
 have hg : run tb 18 [.int .i64 4, .int .i64 2, numsD l, .int .i64 q] = some [.int .i64 g.op, .str g.name, .sl (F.encs g.args), numsD l, .int .i64 q2] := hg
 have th : ∀ (v : List (List UInt8)) (hv : vocOk v = true) (S : BitVec 64), run tb 11 [strsD v, bvD S] = some [.int .i64 (thy v S).op, .str (thy v S).name, .sl (F.encs (thy v S).args), .int .i64 0] := fun v hv S => by
  have h := theoryW_run v (by have := vocOk_len hv; omega) S
  unfold thyE at h
  rw [if_pos hv] at h
  exact h
 have tX := th (vocN n) hvo X
 obtain ⟨t1, t2⟩ := thy_models hvo X
 obtain ⟨y1, y2, y3, y4⟩ := thy_ok (vocOk_names hvo) X
 have h64 := pow6 (vocOk_len hvo)
 have mX := modelsW_run (vocN n) (thy (vocN n) X) hlen (by omega)
 rw [t1, t2] at mX
 have vX := validate18_run (thy (vocN n) X) (by omega)
 have hva : validate (thy (vocN n) X) = 0 := by
  refine Decidable.byContradiction fun hc => ?_
  have : modelsE (vocN n) (thy (vocN n) X) ≠ 0 := by simp [modelsE, hvo, hc]
  exact this t1
 rw [hva] at vX
 have aX := all_run (vocN n) hlen
 simp only [rowF] at mX vX
 have mf := modelsW_run (vocN 4) f hlen4 (by omega)
 have mg := modelsW_run (vocN 4) g hlen4 (by omega)
 rw [f5] at mf
 rw [g5] at mg
 simp only [rowF] at mf mg
 have tf := th (vocN 4) hvo4 (modelsS (vocN 4) f)
 have tg := th (vocN 4) hvo4 (modelsS (vocN 4) g)
 obtain ⟨a1, a2, a3, a4⟩ := thy_ok (vocOk_names hvo4) (modelsS (vocN 4) f)
 obtain ⟨b1, b2, b3, b4⟩ := thy_ok (vocOk_names hvo4) (modelsS (vocN 4) g)
 rw [vocN_len] at a2 a3 b2 b3
 have fm := formatW_run (thy (vocN 4) (modelsS (vocN 4) f)) (by omega) (by omega)
 have tp := text_pos _ a1
 have tl := text_le (thy (vocN 4) (modelsS (vocN 4) f)) ((by simp only [good, Bool.and_eq_true] at a1; exact a1.2))
 have hvf : validate (thy (vocN 4) (modelsS (vocN 4) f)) = 0 := by
  refine Decidable.byContradiction fun hc => ?_
  have : modelsE (vocN 4) (thy (vocN 4) (modelsS (vocN 4) f)) ≠ 0 := by simp [modelsE, hvo4, hc]
  exact this (thy_models hvo4 _).1
 have hno : decide (((F.text (thy (vocN 4) (modelsS (vocN 4) f))).length : Int) > 4096) = false := decide_eq_false (by omega)
 have hfs : formatS (thy (vocN 4) (modelsS (vocN 4) f)) = F.text (thy (vocN 4) (modelsS (vocN 4) f)) := by unfold formatS; simp [hvf, hno]
 have hfe : formatE (thy (vocN 4) (modelsS (vocN 4) f)) = 0 := by unfold formatE; simp [hvf, hno]
 rw [hfs, hfe] at fm
 simp only [rowF] at fm
 have sm := same22_run (thy (vocN 4) (modelsS (vocN 4) f)) (thy (vocN 4) (modelsS (vocN 4) g)) (by omega) (by omega)
 simp only [rowF, List.cons_append, List.nil_append] at sm
 have subF : ∀ {x : F}, modelsS (vocN 4) x = modN (vocN 4) x (2 ^ 4) → Sub (vocN 4).length (modelsS (vocN 4) x) := fun {x} h w hw => by
  rw [h, show (2 : Nat) ^ 4 = 2 ^ (vocN 4).length by rw [vocN_len], has_N hvo4] at hw
  exact hw.1
 have hsame : F.beq (thy (vocN 4) (modelsS (vocN 4) f)) (thy (vocN 4) (modelsS (vocN 4) g)) = decide (modelsS (vocN 4) f = modelsS (vocN 4) g) := by
  by_cases hc : modelsS (vocN 4) f = modelsS (vocN 4) g
  · rw [hc, F.beq_refl, decide_eq_true rfl]
  · rw [decide_eq_false hc]
    refine Bool.eq_false_iff.2 fun hb => hc ?_
    exact thy_inj (vocOk_names hvo4) (vocOk_len hvo4) (subF f6) (subF g6) (F.beq_true _ _ hb)
 rw [hsame] at sm
 have tpos : ((F.text (thy (vocN 4) (modelsS (vocN 4) f))).length : Int) > 0 := by omega
 clear hsame hfs hfe hno tl subF f6 g6 t2 hvf hva y1 y2 y3 y4 a1 a2 a3 a4 b1 b2 b3 b4 th tp
 generalize F.text (thy (vocN 4) (modelsS (vocN 4) f)) = tx at *
 generalize thy (vocN 4) (modelsS (vocN 4) f) = ff at *
 generalize thy (vocN 4) (modelsS (vocN 4) g) = gg at *
 generalize modelsS (vocN 4) f = A at *
 generalize modelsS (vocN 4) g = B at *
 generalize thy (vocN n) X = xx at *
 generalize hAX : allS (vocN n) = W at *
 refine run_ir (x := ir1) rfl ?_
 simp (disch := omega) only [ir1, ir1p0, stepQ, stepL, eq_self, aBin, reduceIte, Int.reduceEq, Int.reduceLT, Int.reduceLE, Int.reduceGT, Int.reduceGE, bvQ, wu, shl_norm, shr_norm, and1_norm, hn, hnr, hvn, hv4, callQ_S, tX, mX, vX, aX, hf, hg, mf, mg, tf, tg, fm, sm, callQ_tvi, callQ_tv, callQ_ti, ibne, tpos, ebb, aw]
end Go.Proofs.YtefkehflmlikmaaDoor
