/- Plain programs of the functions of the program and lemmas about what they compute. -/
import Derived.Test.YtefkehflmlikmaaGreatDoorWv
set_option linter.unusedSimpArgs false
set_option linter.unusedVariables false
set_option linter.unusedSectionVars false
namespace Go.Proofs.YtefkehflmlikmaaGreatDoor
open Go Am
set_option maxRecDepth 100000
set_option linter.unusedSimpArgs false
set_option linter.unusedVariables false
theorem entailsR_run (voc : List (List UInt8)) (f g : F) (hv : voc.length < 1000000000) (hs : ∀ s ∈ voc, s.length < 9223372036854775808) (hf : f.size < 1000000000) (hg : g.size < 1000000000) (bf : F.allF nameB f = true) (bg : F.allF nameB g = true) :
 run tb 13 [strsD voc, .int .i64 f.op, .str f.name, .sl (F.encs f.args), .int .i64 g.op, .str g.name, .sl (F.encs g.args)] = some [.bool (entE voc f g).1, .int .i64 (entE voc f g).2] := by
 refine run_ir (x := ir13) rfl ?_
 have h1 := modelsR_run voc f hv hs hf bf
 have h2 := modelsR_run voc g hv hs hg bg
 simp only [rowF] at h1 h2
 unfold entE
 by_cases c1 : modelsE voc f = 0
 · rw [if_neg (by simp [c1])]
   rw [c1] at h1
   by_cases c2 : modelsE voc g = 0
   · rw [if_neg (by simp [c2])]
     rw [c2] at h2
     simp (disch := omega) only [ir13, stepQ, stepL, eq_self, aBin, reduceIte, Int.reduceEq, Int.reduceLT, Int.reduceLE, Int.reduceGT, Int.reduceGE, bvQ, wu, shl_norm, shr_norm, and1_norm, h1, h2, ibne]
   · rw [if_pos c2]
     simp (disch := omega) only [ir13, stepQ, stepL, eq_self, aBin, reduceIte, Int.reduceEq, Int.reduceLT, Int.reduceLE, Int.reduceGT, Int.reduceGE, bvQ, wu, shl_norm, shr_norm, and1_norm, h1, h2, ibne, c2]
 · rw [if_pos c1]
   simp (disch := omega) only [ir13, stepQ, stepL, eq_self, aBin, reduceIte, Int.reduceEq, Int.reduceLT, Int.reduceLE, Int.reduceGT, Int.reduceGE, bvQ, wu, shl_norm, shr_norm, and1_norm, h1, ibne, c1]
def Fit3 (f : F) : Prop := f.size ≤ 1000 ∧ F.allF nameB f = true
theorem good_fit {f : F} (h : good f = true) (hs : f.size ≤ 256) : Fit3 f := ⟨by omega, good_nameB h⟩
theorem near_fit {f f' : F} (h : good f = true) (hs : f.size ≤ 256) (hn : Near f f') : Fit3 f' := by
 obtain ⟨a, _, c⟩ := hn
 have := c 100 (Nat.le_refl _) (allF_mono (fun g hg => by simp only [lenB, decide_eq_true_eq] at hg ⊢; omega) f (good_lenB h))
 exact ⟨by omega, allF_mono (fun g hg => by simp only [lenB, nameB, decide_eq_true_eq] at hg ⊢; omega) f' this⟩
theorem models03_run (raw : List (List UInt8)) (x : F) (l0 : List Int) (hr0 : raw.length ≤ 9223372036854775807) : run tb 0 (strsD raw :: rowF x ++ [numsD l0]) = some [.bool true] := by
 have sm := short03_run raw hr0
 have aw := awake03_run
 have sf := small_run x
 have nd := nodes_run x 100 (by omega)
 simp only [rowF, List.cons_append, List.nil_append, Int.cast_ofNat_Int] at sf nd ⊢
 refine run_ir (x := ir0) rfl ?_
 cases c1 : (raw.all (fun s => decide (s.length ≤ 60)) && decide (raw.length ≤ 12)) with
 | false =>
  rw [c1] at sm
  simp (disch := omega) only [ir0, ir0p3, stepQ, stepL, eq_self, aBin, reduceIte, Int.reduceEq, Int.reduceLT, Int.reduceLE, Int.reduceGT, Int.reduceGE, sm]
 | true =>
 rw [c1] at sm
 simp only [Bool.and_eq_true, decide_eq_true_eq, List.all_eq_true] at c1
 cases c2 : smallF x with
 | false =>
  rw [c2] at sf
  simp (disch := omega) only [ir0, ir0p3, stepQ, stepL, eq_self, aBin, reduceIte, Int.reduceEq, Int.reduceLT, Int.reduceLE, Int.reduceGT, Int.reduceGE, sm, sf]
 | true =>
 rw [c2] at sf
 have hx : Fit3 x := by
  unfold smallF at c2
  simp only [Bool.and_eq_true, decide_eq_true_eq] at c2
  exact ⟨by omega, allF_mono (fun g hg => by simp only [shortB, nameB, decide_eq_true_eq] at hg ⊢; omega) x c2.2.2⟩
 by_cases c3 : (((min x.size (100 + 1) : Nat) : Int) > 100)
 · simp (disch := omega) only [ir0, ir0p3, stepQ, stepL, eq_self, aBin, reduceIte, Int.reduceEq, Int.reduceLT, Int.reduceLE, Int.reduceGT, Int.reduceGE, sm, sf, nd, c3]
 obtain ⟨l, hl, hn⟩ := new_run l0
 obtain ⟨f, p, hp, f1, f2, f3, f4, f5, f6, hf⟩ := gen_run 4 3 (by omega) (by omega) (by omega) l hl 0 (by omega)
 obtain ⟨g, q, hq, g1, g2, g3, g4, g5, g6, hg⟩ := gen_run 3 3 (by omega) (by omega) (by omega) l hl p hp
 have hf : run tb 5 [.int .i64 4, .int .i64 3, numsD l, .int .i64 0] = some [.int .i64 f.op, .str f.name, .sl (F.encs f.args), numsD l, .int .i64 p] := hf
 have hg : run tb 5 [.int .i64 3, .int .i64 3, numsD l, .int .i64 p] = some [.int .i64 g.op, .str g.name, .sl (F.encs g.args), numsD l, .int .i64 q] := hg
 have hv4 : run tb 6 [.int .i64 4] = some [strsD (vocN 4)] := voc_run 4 (by omega)
 obtain ⟨r, q1, r0, r1, hq1, hr⟩ := n_run 7 l q hl hq (by omega) (by omega)
 obtain ⟨n, rfl⟩ := Int.eq_ofNat_of_zero_le r0
 have hr : run tb 7 [.int .i64 7, numsD l, .int .i64 q] = some [.int .i64 n, numsD l, .int .i64 q1] := hr
 have hvn := voc_run n (by omega)
 obtain ⟨o, q2, ho, hq2, hod⟩ := odd_run l q1 hl hq1
 obtain ⟨vs, hvs⟩ : ∃ vs : List (List (List UInt8)), vs = [raw, vocN 4, vocN n, o] := ⟨_, rfl⟩
 have hmk : PO.eval (.mk 1 4) [strsD raw, strsD (vocN 4), strsD (vocN n), strsD o] = some [lsD vs] := by subst hvs; rfl
 have hsh : ∀ v ∈ vs, Short v := by
  subst hvs
  intro v hv
  simp only [List.mem_cons, List.not_mem_nil, or_false] at hv
  rcases hv with rfl | rfl | rfl | rfl
  · exact ⟨by omega, fun s hs => by have := c1.1 s hs; omega⟩
  · exact vocN_sh (by omega)
  · exact vocN_sh (by omega)
  · exact ho
 have lvs : vs.length = 4 := by subst hvs; rfl
 clear hvs
 have gfit := good_fit g1 g2
 have ffit := good_fit f1 f2
 simp (disch := omega) only [ir0, ir0p3, stepQ, stepL, eq_self, aBin, reduceIte, Int.reduceEq, Int.reduceLT, Int.reduceLE, Int.reduceGT, Int.reduceGE, sm, sf, nd, c3, hn, hf, hg, hr, hvn, hv4, callQ_S, hod, hmk, len_LS]
 refine loop_k (σ := Nat) vs.length (fun _ q => q ≤ l.length) (fun i q => [.int .i64 i, numsD l, .int .i64 q]) (fun _ _ => [.bool true]) ?_ ?_ 0 q2 (Nat.zero_le _) hq2
 · rintro i q hL' hi hq hL
   obtain ⟨f', q', hq', hnear, hS⟩ := spoilt_run l hl f (by omega) (good_nameB f1) q hq
   have hnext := hL q' hq'
   obtain ⟨k1, k2⟩ := hsh vs[i] (List.getElem_mem hi)
   have hgt := get_LS hi
   have hc := chk_LS hi
   generalize vs[i] = v at *
   have f'fit := near_fit f1 f2 hnear
   obtain ⟨xs, hxs⟩ : ∃ xs : List F, xs = [x, f, f'] := ⟨_, rfl⟩
   have hmk2 : PO.eval (.mk 3 3) [.int .i64 x.op, .str x.name, .sl (F.encs x.args), .int .i64 f.op, .str f.name, .sl (F.encs f.args), .int .i64 f'.op, .str f'.name, .sl (F.encs f'.args)] = some [.sl (F.encs xs)] := by
    subst hxs; simp [PO.eval, chunks, F.encs, F.enc_eq]
   have lxs : xs.length = 3 := by subst hxs; rfl
   have hfit : ∀ y ∈ xs, Fit3 y := by
    subst hxs
    intro y hy
    simp only [List.mem_cons, List.not_mem_nil, or_false] at hy
    rcases hy with rfl | rfl | rfl <;> assumption
   clear hxs
   simp only [rowF, List.cons_append, List.nil_append] at hS
   simp (disch := omega) only [ir0p2, stepQ, stepL, eq_self, aBin, reduceIte, Int.reduceEq, Int.reduceLT, Int.reduceLE, Int.reduceGT, Int.reduceGE, bvQ, wu, shl_norm, shr_norm, and1_norm, hi, hc, hgt, hS, hmk2, len_F]
   refine loop_k (σ := Unit) xs.length (fun _ _ => True) (fun j _ => [.int .i64 j]) (fun _ _ => [.bool true]) ?_ ?_ 0 () (Nat.zero_le _) trivial
   · rintro j _ M hj _ hM
     have hnx := hM () trivial
     have gv := get_F hj
     have cv := chk_F hj
     obtain ⟨y1, y2⟩ := hfit _ (List.getElem_mem hj)
     generalize xs[j] = y at *
     have e1 := modelsW_run v y (by omega) (by omega)
     have e2 := modelsR_run v y (by omega) (fun s hs => by have := k2 s hs; omega) (by omega) y2
     have e3 := entails_run v y g (by omega) (by omega) (by omega)
     have e4 := entailsR_run v y g (by omega) (fun s hs => by have := k2 s hs; omega) (by omega) (by omega) y2 gfit.2
     have e5 := entails_run v g y (by omega) (by omega) (by omega)
     have e6 := entailsR_run v g y (by omega) (fun s hs => by have := k2 s hs; omega) (by omega) (by omega) gfit.2 y2
     simp only [rowF, List.cons_append, List.nil_append] at e1 e2 gv
     have nbb : ∀ b : Bool, PO.eval (.bin .neq true) [.bool b, .bool b] = some [.bool false] := fun b => by cases b <;> rfl
     generalize entE v y g = z1 at *
     generalize entE v g y = z2 at *
     generalize modelsE v y = z3 at *
     generalize modelsS v y = z4 at *
     simp (disch := omega) only [ir0p1, ir0p0, stepQ, stepL, eq_self, aBin, reduceIte, Int.reduceEq, Int.reduceLT, Int.reduceLE, Int.reduceGT, Int.reduceGE, bvQ, wu, shl_norm, shr_norm, and1_norm, hj, cv, gv, e1, e2, e3, e4, e5, e6, nbb, ibne, wr, natS, hnx]
   · rintro _ M _
     simp (disch := omega) only [ir0p1, stepQ, stepL, eq_self, aBin, reduceIte, Int.reduceEq, Int.reduceLT, Int.reduceLE, Int.reduceGT, Int.reduceGE, Nat.lt_irrefl, wr, natS, hnext]
 · rintro q L _
   simp (disch := omega) only [ir0p2, stepQ, stepL, eq_self, aBin, reduceIte, Int.reduceEq, Int.reduceLT, Int.reduceLE, Int.reduceGT, Int.reduceGE, Nat.lt_irrefl, aw]
end Go.Proofs.YtefkehflmlikmaaGreatDoor
