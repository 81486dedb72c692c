/- Plain programs of the functions of the program and lemmas about what they compute. -/
import Derived.Test.YtefkehflmlikmaaGreatDoorWd
import Derived.Test.YtefkehflmlikmaaGreatDoorOd
import Derived.Test.YtefkehflmlikmaaGreatDoorAm6
set_option linter.unusedSimpArgs false
set_option linter.unusedVariables false
set_option linter.unusedSectionVars false
namespace Go.Proofs.YtefkehflmlikmaaGreatDoor
open Go Am
set_option maxRecDepth 100000
set_option linter.unusedSimpArgs false
set_option linter.unusedVariables false
def fpq : F := F.mk 7 [] [F.mk 3 [112] [], F.mk 3 [113] []]
def tpq : F := F.mk 6 [] [F.mk 4 [] [F.mk 3 [112] []], F.mk 3 [113] []]
def vpq : List (List UInt8) := [[112], [113]]
theorem formatW_run (f : F) (hs : f.size < 1000000000) (hd : f.depth < 1000) : run tb 35 (rowF f) = some [.str (formatS f), .int .i64 (formatE f)] := by
 refine run_ext (E := fmtE) rfl ?_
 unfold fmtE
 rw [show rowF f = f.enc from (F.enc_eq f).symm, F.decN_enc f _ hd]
 simp only [show f.size < 4611686018427387904 by omega, if_true]
theorem awake03_run : run tb 14 [] = some [.bool true] := by
 have h1 : run tb 33 [.str [112, 32, 45, 62, 32, 113]] = some [.int .i64 7, .str [], .sl (F.encs fpq.args), .int .i64 0, .int .i64 0] := exN_run (m := 1000) 1000 _ _ _ (by kernel_rfl)
 have hv : vocOk vpq = true := rfl
 have h2 := modelsW_run vpq fpq (by decide) (by decide)
 obtain ⟨m1, m2⟩ := models_good (voc := vpq) (f := fpq) hv rfl (by decide) (by decide) (by decide)
 have m3 : modN vpq fpq (2 ^ vpq.length) = 13#64 := by decide +kernel
 rw [m1, m2, m3] at h2
 have h3 := theoryW_run vpq (by decide) 13#64
 have t1 : thyE vpq 13#64 = (tpq, 0) := by
  unfold thyE
  rw [if_pos hv, show thy vpq 13#64 = tpq by rfl]
 rw [t1] at h3
 have h4 := formatW_run tpq (by decide) (by decide)
 rw [show formatS tpq = [126, 112, 32, 124, 32, 113] by rfl, show formatE tpq = 0 by rfl] at h4
 have h5 : run tb 36 [strsD vpq, bvD 8#64, .str [113]] = some [bvD 10#64] := exN_run (m := 1000) 1000 _ _ _ (by kernel_rfl)
 have h6 := all_run vpq (by decide)
 rw [show allS vpq = 15#64 by decide +kernel] at h6
 have h7 : run tb 37 [bvD 13#64] = some [.int .i64 3] := exN_run (m := 1000) 1000 _ _ _ (by kernel_rfl)
 have l13 : D.int .u64 13 = bvD 13#64 := rfl
 have l8 : D.int .u64 8 = bvD 8#64 := rfl
 have l10 : D.int .u64 10 = bvD 10#64 := rfl
 have l15 : D.int .u64 15 = bvD 15#64 := rfl
 have mk : PO.eval (.mk 1 2) [.str [112], .str [113]] = some [strsD vpq] := rfl
 have sb : ∀ a : List UInt8, PO.eval (.bin .eql false) [.str a, .str a] = some [.bool true] := fun a => by simp [PO.eval, aBin, one1]
 simp only [rowF, show fpq.op = 7 from rfl, show fpq.name = [] from rfl, show tpq.op = 6 from rfl, show tpq.name = [] from rfl] at h2 h3 h4
 refine run_ir (x := ir14) rfl ?_
 generalize F.encs fpq.args = A at *
 generalize F.encs tpq.args = B at *
 simp (disch := omega) only [ir14, stepQ, stepL, eq_self, aBin, reduceIte, Int.reduceEq, Int.reduceLT, Int.reduceLE, Int.reduceGT, Int.reduceGE, bvQ, wu, shl_norm, shr_norm, and1_norm, l13, l8, l10, l15, mk, h1, h2, h3, h4, h5, h6, h7, sb, callQ_tvi, callQ_tv, List.cons_append, List.nil_append]
def entE (voc : List (List UInt8)) (f g : F) : Bool × Int := if modelsE voc f ≠ 0 then (false, modelsE voc f) else if modelsE voc g ≠ 0 then (false, modelsE voc g) else (decide (modelsS voc f &&& ~~~modelsS voc g = 0#64), 0)
theorem entails_run (voc : List (List UInt8)) (f g : F) (hv : voc.length < 1000000000) (hf : f.size < 1000000000) (hg : g.size < 1000000000) : run tb 12 [strsD voc, .int .i64 f.op, .str f.name, .sl (F.encs f.args), .int .i64 g.op, .str g.name, .sl (F.encs g.args)] = some [.bool (entE voc f g).1, .int .i64 (entE voc f g).2] := by
 refine run_ir (x := ir12) rfl ?_
 have h1 := modelsW_run voc f hv hf
 have h2 := modelsW_run voc g hv hg
 simp only [rowF] at h1 h2
 unfold entE
 by_cases c1 : modelsE voc f = 0
 · rw [if_neg (by simp [c1])]
   rw [c1] at h1
   by_cases c2 : modelsE voc g = 0
   · rw [if_neg (by simp [c2])]
     rw [c2] at h2
     simp (disch := omega) only [ir12, stepQ, stepL, eq_self, aBin, reduceIte, Int.reduceEq, Int.reduceLT, Int.reduceLE, Int.reduceGT, Int.reduceGE, bvQ, wu, shl_norm, shr_norm, and1_norm, h1, h2, ibne]
   · rw [if_pos c2]
     simp (disch := omega) only [ir12, stepQ, stepL, eq_self, aBin, reduceIte, Int.reduceEq, Int.reduceLT, Int.reduceLE, Int.reduceGT, Int.reduceGE, bvQ, wu, shl_norm, shr_norm, and1_norm, h1, h2, ibne, c2]
 · rw [if_pos c1]
   simp (disch := omega) only [ir12, stepQ, stepL, eq_self, aBin, reduceIte, Int.reduceEq, Int.reduceLT, Int.reduceLE, Int.reduceGT, Int.reduceGE, bvQ, wu, shl_norm, shr_norm, and1_norm, h1, ibne, c1]
def lsD (vs : List (List (List UInt8))) : D := .sl (vs.map fun v => [strsD v])
theorem get_LS {vs : List (List (List UInt8))} {i : Nat} (h : i < vs.length) : PO.eval (.get 0 1) [lsD vs, .int .i64 i] = some [strsD vs[i]] := by simp [PO.eval, lsD, h]
theorem chk_LS {vs : List (List (List UInt8))} {i : Nat} (h : i < vs.length) : PO.eval .chk [lsD vs, .int .i64 i] = some [] := ev_chk (by omega) (by simp; omega)
theorem len_LS (vs : List (List (List UInt8))) : PO.eval .lenL [lsD vs] = some [.int .i64 vs.length] := by simp [lsD, ev_lenL]
def Short (v : List (List UInt8)) : Prop := v.length ≤ 26 ∧ ∀ s ∈ v, s.length ≤ 60
theorem vocN_sh {n : Nat} (h : n ≤ 26) : Short (vocN n) := ⟨by rw [vocN_len]; exact h, fun s hs => by rw [vocN_short s hs]; omega⟩
theorem short03_run (v : List (List UInt8)) (hv : v.length ≤ 9223372036854775807) : run tb 1 [strsD v] = some [.bool (v.all (fun s => decide (s.length ≤ 60)) && decide (v.length ≤ 12))] := by
 refine run_ir (x := ir1) rfl ?_
 simp (disch := omega) only [ir1, stepQ, stepL, eq_self, aBin, reduceIte, Int.reduceEq, Int.reduceLT, Int.reduceLE, Int.reduceGT, Int.reduceGE, len_S]
 show _ = some [D.bool ((v.drop 0).all (fun s => decide (s.length ≤ 60)) && decide (v.length ≤ 12))]
 refine loop_k (σ := Unit) v.length (fun _ _ => True) (fun i _ => [.int .i64 i]) (fun i _ => [.bool ((v.drop i).all (fun s => decide (s.length ≤ 60)) && decide (v.length ≤ 12))]) ?_ ?_ 0 () (Nat.zero_le _) trivial
 · rintro i _ M hi _ hM
   have hnext := hM () trivial
   rw [drop_s hi, List.all_cons]
   by_cases h : v[i].length ≤ 60
   · have hg : ¬ (v[i].length : Int) > 60 := by omega
     rw [decide_eq_true h, Bool.true_and]
     simp (disch := omega) only [ir1p0, stepQ, stepL, eq_self, aBin, reduceIte, Int.reduceEq, Int.reduceLT, Int.reduceLE, Int.reduceGT, Int.reduceGE, hi, row_S, hg, wr, natS, hnext]
   · have hg : (v[i].length : Int) > 60 := by omega
     rw [decide_eq_false h, Bool.false_and, Bool.false_and]
     simp (disch := omega) only [ir1p0, stepQ, stepL, eq_self, aBin, reduceIte, Int.reduceEq, Int.reduceLT, Int.reduceLE, Int.reduceGT, Int.reduceGE, hi, row_S, hg]
 · rintro _ M _
   rw [drop_e, List.all_nil, Bool.true_and]
   by_cases h : v.length ≤ 12
   · simp (disch := omega) only [ir1p0, stepQ, stepL, eq_self, aBin, reduceIte, Int.reduceEq, Int.reduceLT, Int.reduceLE, Int.reduceGT, Int.reduceGE, Nat.lt_irrefl, len_S, show ((v.length : Int) ≤ 12) = True by simp; omega, h, decide_true]
   · simp (disch := omega) only [ir1p0, stepQ, stepL, eq_self, aBin, reduceIte, Int.reduceEq, Int.reduceLT, Int.reduceLE, Int.reduceGT, Int.reduceGE, Nat.lt_irrefl, len_S, show ((v.length : Int) ≤ 12) = False by simp; omega, h, decide_false]
theorem set_Str {l : List (List UInt8)} {i : Nat} (h : i < l.length) (s : List UInt8) : PO.eval (.set 0 1) [strsD l, .int .i64 i, .str s] = some [strsD (l.set i s)] := by
 have h1 : (l.map strR)[i]? = some (strR l[i]) := by simp [h]
 simp [PO.eval, strsD, h, setD, strR, List.map_set]
theorem chk_Str {l : List (List UInt8)} {i : Nat} (h : i < l.length) : PO.eval .chk [strsD l, .int .i64 i] = some [] := ev_chk (by omega) (by simp; omega)
theorem odd_run (l : List Int) (p : Nat) (hl : l.length ≤ 2000) (hp : p ≤ l.length) : ∃ (v : List (List UInt8)) (b : Nat), Short v ∧ b ≤ l.length ∧ run tb 8 [numsD l, .int .i64 p] = some [strsD v, numsD l, .int .i64 b] := by
 obtain ⟨r, q, r0, r1, hq, hr⟩ := n_run 9 l p hl hp (by omega) (by omega)
 obtain ⟨n, rfl⟩ := Int.eq_ofNat_of_zero_le r0
 have hvo := voc_run n (by omega)
 by_cases h0 : 0 < n
 · obtain ⟨k, q1, k0, k1, hq1, hk⟩ := n_run (n : Int) l q hl hq (by omega) (by omega)
   obtain ⟨k, rfl⟩ := Int.eq_ofNat_of_zero_le k0
   obtain ⟨ts, hts⟩ : ∃ ts : List (List UInt8), ts = [[97], [], [65], [122, 122], [98]] := ⟨_, rfl⟩
   have hmk : PO.eval (.mk 1 5) [.str [97], .str [], .str [65], .str [122, 122], .str [98]] = some [strsD ts] := by subst hts; rfl
   obtain ⟨s, q2, hs, hq2, hsr⟩ := text_run ts (by subst hts; decide) (by subst hts; decide) l hl q1 hq1
   have hs2 : s.length ≤ 60 := by
    subst hts
    simp only [List.mem_cons, List.not_mem_nil, or_false] at hs
    rcases hs with rfl | rfl | rfl | rfl | rfl <;> decide
   clear hts
   have hk2 : k < (vocN n).length := by rw [vocN_len]; omega
   have hst := set_Str hk2 s
   have hck := chk_Str hk2
   refine ⟨(vocN n).set k s, q2, ⟨by rw [List.length_set, vocN_len]; omega, fun x hx => ?_⟩, hq2, run_ir (x := ir8) rfl ?_⟩
   · rcases List.mem_or_eq_of_mem_set hx with h | rfl
     · rw [vocN_short x h]; omega
     · exact hs2
   · have hgt : (n : Int) > 0 := by omega
     have hle : PO.eval .lenL [strsD (vocN n)] = some [.int .i64 n] := by rw [len_S, vocN_len]
     simp (disch := omega) only [ir8, ir8p0, stepQ, stepL, eq_self, aBin, reduceIte, Int.reduceEq, Int.reduceLT, Int.reduceLE, Int.reduceGT, Int.reduceGE, hr, hvo, callQ_S, hle, hgt, hk, hmk, hsr, hck, hst]
 · obtain rfl : n = 0 := by omega
   refine ⟨vocN 0, q, vocN_sh (by omega), hq, run_ir (x := ir8) rfl ?_⟩
   have hle : PO.eval .lenL [strsD (vocN 0)] = some [.int .i64 0] := rfl
   have hr : run tb 7 [.int .i64 9, numsD l, .int .i64 p] = some [.int .i64 0, numsD l, .int .i64 q] := hr
   have hvo : run tb 6 [.int .i64 0] = some [strsD (vocN 0)] := hvo
   simp (disch := omega) only [ir8, ir8p0, stepQ, stepL, eq_self, aBin, reduceIte, Int.reduceEq, Int.reduceLT, Int.reduceLE, Int.reduceGT, Int.reduceGE, hr, hvo, callQ_S, hle]
end Go.Proofs.YtefkehflmlikmaaGreatDoor

namespace Go.Proofs.YtefkehflmlikmaaGreatDoor
open Go Am
set_option maxRecDepth 100000
set_option linter.unusedSimpArgs false
set_option linter.unusedVariables false
theorem gen_run (n d : Nat) (h1 : 1 ≤ n) (hn : n ≤ 6) (hd : d ≤ 3) (l : List Int) (hl : l.length ≤ 2000) (p : Nat) (hp : p ≤ l.length) :
 ∃ (f : F) (b : Nat), b ≤ l.length ∧ good f = true ∧ f.size ≤ 256 ∧ f.depth ≤ 3 ∧ (∀ s ∈ F.atomL f, s ∈ vocN n) ∧ modelsE (vocN n) f = 0 ∧ modelsS (vocN n) f = modN (vocN n) f (2 ^ n) ∧
  run tb 5 [.int .i64 n, .int .i64 d, numsD l, .int .i64 p] = some [.int .i64 f.op, .str f.name, .sl (F.encs f.args), numsD l, .int .i64 b] := by
 obtain ⟨f, b, hb, hm, hr⟩ := formula_run n h1 (by omega) l hl d (by omega) p hp
 obtain ⟨a1, a2, a3, a4, a5, a6⟩ := made_models hn hd hm
 exact ⟨f, b, hb, a1, a2, a3, a4, a5, a6, hr⟩
end Go.Proofs.YtefkehflmlikmaaGreatDoor
