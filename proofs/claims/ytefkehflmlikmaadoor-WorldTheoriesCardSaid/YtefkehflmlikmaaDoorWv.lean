/- Plain programs of the functions of the program and lemmas about what they compute. -/
import Derived.Test.YtefkehflmlikmaaDoorWd
import Derived.Test.YtefkehflmlikmaaDoorOd
import Derived.Test.YtefkehflmlikmaaDoorAm6
set_option linter.unusedSimpArgs false
set_option linter.unusedVariables false
set_option linter.unusedSectionVars false
namespace Go.Proofs.YtefkehflmlikmaaDoor
open Go Am
set_option maxRecDepth 100000
set_option linter.unusedSimpArgs false
set_option linter.unusedVariables false
def fpq : F := F.mk 7 [] [F.mk 3 [112] [], F.mk 3 [113] []]
def tpq : F := F.mk 6 [] [F.mk 4 [] [F.mk 3 [112] []], F.mk 3 [113] []]
def vpq : List (List UInt8) := [[112], [113]]
theorem formatW_run (f : F) (hs : f.size < 1000000000) (hd : f.depth < 1000) : run tb 19 (rowF f) = some [.str (formatS f), .int .i64 (formatE f)] := by
 refine run_ext (E := fmtE) rfl ?_
 unfold fmtE
 rw [show rowF f = f.enc from (F.enc_eq f).symm, F.decN_enc f _ hd]
 simp only [show f.size < 4611686018427387904 by omega, if_true]
theorem awake03_run : run tb 14 [] = some [.bool true] := by
 have h1 : run tb 31 [.str [112, 32, 45, 62, 32, 113]] = some [.int .i64 7, .str [], .sl (F.encs fpq.args), .int .i64 0, .int .i64 0] := exN_run (m := 1000) 1000 _ _ _ (by kernel_rfl)
 have hv : vocOk vpq = true := rfl
 have h2 := modelsW_run vpq fpq (by decide) (by decide)
 obtain ⟨m1, m2⟩ := models_good (voc := vpq) (f := fpq) hv rfl (by decide) (by decide) (by decide)
 have m3 : modN vpq fpq (2 ^ vpq.length) = 13#64 := by decide +kernel
 rw [m1, m2, m3] at h2
 have h3 := theoryW_run vpq (by decide) 13#64
 have t1 : thyE vpq 13#64 = (tpq, 0) := by
  unfold thyE
  rw [if_pos hv, show thy vpq 13#64 = tpq by rfl]
 rw [t1] at h3
 have h4 := formatW_run tpq (by decide) (by decide)
 rw [show formatS tpq = [126, 112, 32, 124, 32, 113] by rfl, show formatE tpq = 0 by rfl] at h4
 have h5 : run tb 23 [strsD vpq, bvD 8#64, .str [113]] = some [bvD 10#64] := exN_run (m := 1000) 1000 _ _ _ (by kernel_rfl)
 have h6 := all_run vpq (by decide)
 rw [show allS vpq = 15#64 by decide +kernel] at h6
 have h7 : run tb 21 [bvD 13#64] = some [.int .i64 3] := exN_run (m := 1000) 1000 _ _ _ (by kernel_rfl)
 have l13 : D.int .u64 13 = bvD 13#64 := rfl
 have l8 : D.int .u64 8 = bvD 8#64 := rfl
 have l10 : D.int .u64 10 = bvD 10#64 := rfl
 have l15 : D.int .u64 15 = bvD 15#64 := rfl
 have mk : PO.eval (.mk 1 2) [.str [112], .str [113]] = some [strsD vpq] := rfl
 have sb : ∀ a : List UInt8, PO.eval (.bin .eql false) [.str a, .str a] = some [.bool true] := fun a => by simp [PO.eval, aBin, one1]
 simp only [rowF, show fpq.op = 7 from rfl, show fpq.name = [] from rfl, show tpq.op = 6 from rfl, show tpq.name = [] from rfl] at h2 h3 h4
 refine run_ir (x := ir14) rfl ?_
 generalize F.encs fpq.args = A at *
 generalize F.encs tpq.args = B at *
 simp (disch := omega) only [ir14, stepQ, stepL, eq_self, aBin, reduceIte, Int.reduceEq, Int.reduceLT, Int.reduceLE, Int.reduceGT, Int.reduceGE, bvQ, wu, shl_norm, shr_norm, and1_norm, l13, l8, l10, l15, mk, h1, h2, h3, h4, h5, h6, h7, sb, callQ_tvi, callQ_tv, List.cons_append, List.nil_append]
def entE (voc : List (List UInt8)) (f g : F) : Bool × Int := if modelsE voc f ≠ 0 then (false, modelsE voc f) else if modelsE voc g ≠ 0 then (false, modelsE voc g) else (decide (modelsS voc f &&& ~~~modelsS voc g = 0#64), 0)
theorem entails_run (voc : List (List UInt8)) (f g : F) (hv : voc.length < 1000000000) (hf : f.size < 1000000000) (hg : g.size < 1000000000) : run tb 20 [strsD voc, .int .i64 f.op, .str f.name, .sl (F.encs f.args), .int .i64 g.op, .str g.name, .sl (F.encs g.args)] = some [.bool (entE voc f g).1, .int .i64 (entE voc f g).2] := by
 refine run_ir (x := ir20) rfl ?_
 have h1 := modelsW_run voc f hv hf
 have h2 := modelsW_run voc g hv hg
 simp only [rowF] at h1 h2
 unfold entE
 by_cases c1 : modelsE voc f = 0
 · rw [if_neg (by simp [c1])]
   rw [c1] at h1
   by_cases c2 : modelsE voc g = 0
   · rw [if_neg (by simp [c2])]
     rw [c2] at h2
     simp (disch := omega) only [ir20, stepQ, stepL, eq_self, aBin, reduceIte, Int.reduceEq, Int.reduceLT, Int.reduceLE, Int.reduceGT, Int.reduceGE, bvQ, wu, shl_norm, shr_norm, and1_norm, h1, h2, ibne]
   · rw [if_pos c2]
     simp (disch := omega) only [ir20, stepQ, stepL, eq_self, aBin, reduceIte, Int.reduceEq, Int.reduceLT, Int.reduceLE, Int.reduceGT, Int.reduceGE, bvQ, wu, shl_norm, shr_norm, and1_norm, h1, h2, ibne, c2]
 · rw [if_pos c1]
   simp (disch := omega) only [ir20, stepQ, stepL, eq_self, aBin, reduceIte, Int.reduceEq, Int.reduceLT, Int.reduceLE, Int.reduceGT, Int.reduceGE, bvQ, wu, shl_norm, shr_norm, and1_norm, h1, ibne, c1]
theorem size_run (x : BitVec 64) : run tb 21 [bvD x] = some [.int .i64 (ones x 64)] := by
 refine run_ir (x := ir21) rfl ?_
 have h := ones_run x
 simp (disch := omega) only [ir21, stepQ, stepL, eq_self, aBin, reduceIte, Int.reduceEq, Int.reduceLT, Int.reduceLE, Int.reduceGT, Int.reduceGE, h]
theorem forget_run (voc : List (List UInt8)) (X : BitVec 64) (s : List UInt8) (hl : voc.length < 1000000000) : run tb 23 [strsD voc, bvD X, .str s] = some [bvD (forgetS voc X (idxOf s 0 voc))] := by
 refine run_ir (x := ir23) rfl ?_
 have h1 := all_run voc hl
 have h2 := index_run voc s (by omega)
 unfold forgetS
 unfold allS at h1
 cases hv : vocOk voc with
 | false =>
  rw [hv] at h1
  simp only [Bool.false_eq_true, if_false] at h1
  rw [if_pos rfl]
  by_cases hi : idxOf s 0 voc < 0
  · simp (disch := omega) only [ir23, ir23p0, stepQ, stepL, eq_self, aBin, reduceIte, Int.reduceEq, Int.reduceLT, Int.reduceLE, Int.reduceGT, Int.reduceGE, bvQ, wu, shl_norm, shr_norm, and1_norm, h1, h2, hi, BitVec.and_zero]
  · simp (disch := omega) only [ir23, ir23p0, stepQ, stepL, eq_self, aBin, reduceIte, Int.reduceEq, Int.reduceLT, Int.reduceLE, Int.reduceGT, Int.reduceGE, bvQ, wu, shl_norm, shr_norm, and1_norm, h1, h2, hi, BitVec.and_zero]
 | true =>
  have h6 := vocOk_len hv
  rw [hv, if_pos rfl] at h1
  rw [if_neg (by simp)]
  by_cases hi : idxOf s 0 voc < 0
  · rw [if_pos hi]
    simp (disch := omega) only [ir23, ir23p0, stepQ, stepL, eq_self, aBin, reduceIte, Int.reduceEq, Int.reduceLT, Int.reduceLE, Int.reduceGT, Int.reduceGE, bvQ, wu, shl_norm, shr_norm, and1_norm, h1, h2, hi]
  · rw [if_neg hi]
    have hm : s ∈ voc := by
     have := idxOf_ge s voc 0
     rw [decide_eq_true (by omega)] at this
     simpa using this.symm
    obtain ⟨i, hlt, _, hx⟩ := idxOf_at (k := 0) hm
    rw [Nat.zero_add] at hx
    rw [hx] at h2 ⊢
    have hi' : ¬ (i : Int) < 0 := by omega
    have htr := true_run i (by omega)
    have hfo := forget_eq h6 hlt X
    rw [Int.toNat_natCast]
    by_cases hz : X &&& alW voc.length = 0#64
    · rw [hz, BitVec.zero_and, BitVec.zero_and, BitVec.zero_ushiftRight, BitVec.zero_shiftLeft, BitVec.or_zero, BitVec.or_zero] at hfo
      rw [← hfo]
      simp (disch := omega) only [ir23, ir23p0, stepQ, stepL, eq_self, aBin, reduceIte, Int.reduceEq, Int.reduceLT, Int.reduceLE, Int.reduceGT, Int.reduceGE, bvQ, wu, shl_norm, shr_norm, and1_norm, h1, h2, hi', hz]
    · have s1 : ∀ Y : BitVec 64, Y <<< (1#64 <<< i).toNat = Y <<< 2 ^ i := fun Y => by
       rw [BitVec.toNat_shiftLeft, Nat.shiftLeft_eq]
       have : 2 ^ i < 2 ^ 64 := Nat.pow_lt_pow_right (by omega) (by omega)
       rw [show (1#64 : BitVec 64).toNat = 1 from rfl, Nat.one_mul, Nat.mod_eq_of_lt this]
      have s2 : ∀ Y : BitVec 64, Y >>> (1#64 <<< i).toNat = Y >>> 2 ^ i := fun Y => by
       rw [BitVec.toNat_shiftLeft, Nat.shiftLeft_eq]
       have : 2 ^ i < 2 ^ 64 := Nat.pow_lt_pow_right (by omega) (by omega)
       rw [show (1#64 : BitVec 64).toNat = 1 from rfl, Nat.one_mul, Nat.mod_eq_of_lt this]
      rw [← hfo]
      simp (disch := omega) only [ir23, ir23p0, stepQ, stepL, eq_self, aBin, reduceIte, Int.reduceEq, Int.reduceLT, Int.reduceLE, Int.reduceGT, Int.reduceGE, bvQ, wu, shl_norm, shr_norm, and1_norm, h1, h2, hi', hz, htr, s1, s2]
def lsD (vs : List (List (List UInt8))) : D := .sl (vs.map fun v => [strsD v])
theorem get_LS {vs : List (List (List UInt8))} {i : Nat} (h : i < vs.length) : PO.eval (.get 0 1) [lsD vs, .int .i64 i] = some [strsD vs[i]] := by simp [PO.eval, lsD, h]
theorem chk_LS {vs : List (List (List UInt8))} {i : Nat} (h : i < vs.length) : PO.eval .chk [lsD vs, .int .i64 i] = some [] := ev_chk (by omega) (by simp; omega)
theorem len_LS (vs : List (List (List UInt8))) : PO.eval .lenL [lsD vs] = some [.int .i64 vs.length] := by simp [lsD, ev_lenL]
def Short (v : List (List UInt8)) : Prop := v.length ≤ 26 ∧ ∀ s ∈ v, s.length ≤ 60
theorem vocN_sh {n : Nat} (h : n ≤ 26) : Short (vocN n) := ⟨by rw [vocN_len]; exact h, fun s hs => by rw [vocN_short s hs]; omega⟩
theorem short03_run (v : List (List UInt8)) (hv : v.length ≤ 9223372036854775807) : run tb 5 [strsD v] = some [.bool (v.all (fun s => decide (s.length ≤ 60)) && decide (v.length ≤ 12))] := by
 refine run_ir (x := ir5) rfl ?_
 simp (disch := omega) only [ir5, stepQ, stepL, eq_self, aBin, reduceIte, Int.reduceEq, Int.reduceLT, Int.reduceLE, Int.reduceGT, Int.reduceGE, len_S]
 show _ = some [D.bool ((v.drop 0).all (fun s => decide (s.length ≤ 60)) && decide (v.length ≤ 12))]
 refine loop_k (σ := Unit) v.length (fun _ _ => True) (fun i _ => [.int .i64 i]) (fun i _ => [.bool ((v.drop i).all (fun s => decide (s.length ≤ 60)) && decide (v.length ≤ 12))]) ?_ ?_ 0 () (Nat.zero_le _) trivial
 · rintro i _ M hi _ hM
   have hnext := hM () trivial
   rw [drop_s hi, List.all_cons]
   by_cases h : v[i].length ≤ 60
   · have hg : ¬ (v[i].length : Int) > 60 := by omega
     rw [decide_eq_true h, Bool.true_and]
     simp (disch := omega) only [ir5p0, stepQ, stepL, eq_self, aBin, reduceIte, Int.reduceEq, Int.reduceLT, Int.reduceLE, Int.reduceGT, Int.reduceGE, hi, row_S, hg, wr, natS, hnext]
   · have hg : (v[i].length : Int) > 60 := by omega
     rw [decide_eq_false h, Bool.false_and, Bool.false_and]
     simp (disch := omega) only [ir5p0, stepQ, stepL, eq_self, aBin, reduceIte, Int.reduceEq, Int.reduceLT, Int.reduceLE, Int.reduceGT, Int.reduceGE, hi, row_S, hg]
 · rintro _ M _
   rw [drop_e, List.all_nil, Bool.true_and]
   by_cases h : v.length ≤ 12
   · simp (disch := omega) only [ir5p0, stepQ, stepL, eq_self, aBin, reduceIte, Int.reduceEq, Int.reduceLT, Int.reduceLE, Int.reduceGT, Int.reduceGE, Nat.lt_irrefl, len_S, show ((v.length : Int) ≤ 12) = True by simp; omega, h, decide_true]
   · simp (disch := omega) only [ir5p0, stepQ, stepL, eq_self, aBin, reduceIte, Int.reduceEq, Int.reduceLT, Int.reduceLE, Int.reduceGT, Int.reduceGE, Nat.lt_irrefl, len_S, show ((v.length : Int) ≤ 12) = False by simp; omega, h, decide_false]
theorem set_Str {l : List (List UInt8)} {i : Nat} (h : i < l.length) (s : List UInt8) : PO.eval (.set 0 1) [strsD l, .int .i64 i, .str s] = some [strsD (l.set i s)] := by
 have h1 : (l.map strR)[i]? = some (strR l[i]) := by simp [h]
 simp [PO.eval, strsD, h, setD, strR, List.map_set]
theorem chk_Str {l : List (List UInt8)} {i : Nat} (h : i < l.length) : PO.eval .chk [strsD l, .int .i64 i] = some [] := ev_chk (by omega) (by simp; omega)
theorem odd_run (l : List Int) (p : Nat) (hl : l.length ≤ 2000) (hp : p ≤ l.length) : ∃ (v : List (List UInt8)) (b : Nat), Short v ∧ b ≤ l.length ∧ run tb 9 [numsD l, .int .i64 p] = some [strsD v, numsD l, .int .i64 b] := by
 obtain ⟨r, q, r0, r1, hq, hr⟩ := n_run 9 l p hl hp (by omega) (by omega)
 obtain ⟨n, rfl⟩ := Int.eq_ofNat_of_zero_le r0
 have hvo := voc_run n (by omega)
 by_cases h0 : 0 < n
 · obtain ⟨k, q1, k0, k1, hq1, hk⟩ := n_run (n : Int) l q hl hq (by omega) (by omega)
   obtain ⟨k, rfl⟩ := Int.eq_ofNat_of_zero_le k0
   obtain ⟨ts, hts⟩ : ∃ ts : List (List UInt8), ts = [[97], [], [65], [122, 122], [98]] := ⟨_, rfl⟩
   have hmk : PO.eval (.mk 1 5) [.str [97], .str [], .str [65], .str [122, 122], .str [98]] = some [strsD ts] := by subst hts; rfl
   obtain ⟨s, q2, hs, hq2, hsr⟩ := text_run ts (by subst hts; decide) (by subst hts; decide) l hl q1 hq1
   have hs2 : s.length ≤ 60 := by
    subst hts
    simp only [List.mem_cons, List.not_mem_nil, or_false] at hs
    rcases hs with rfl | rfl | rfl | rfl | rfl <;> decide
   clear hts
   have hk2 : k < (vocN n).length := by rw [vocN_len]; omega
   have hst := set_Str hk2 s
   have hck := chk_Str hk2
   refine ⟨(vocN n).set k s, q2, ⟨by rw [List.length_set, vocN_len]; omega, fun x hx => ?_⟩, hq2, run_ir (x := ir9) rfl ?_⟩
   · rcases List.mem_or_eq_of_mem_set hx with h | rfl
     · rw [vocN_short x h]; omega
     · exact hs2
   · have hgt : (n : Int) > 0 := by omega
     have hle : PO.eval .lenL [strsD (vocN n)] = some [.int .i64 n] := by rw [len_S, vocN_len]
     simp (disch := omega) only [ir9, ir9p0, stepQ, stepL, eq_self, aBin, reduceIte, Int.reduceEq, Int.reduceLT, Int.reduceLE, Int.reduceGT, Int.reduceGE, hr, hvo, callQ_S, hle, hgt, hk, hmk, hsr, hck, hst]
 · obtain rfl : n = 0 := by omega
   refine ⟨vocN 0, q, vocN_sh (by omega), hq, run_ir (x := ir9) rfl ?_⟩
   have hle : PO.eval .lenL [strsD (vocN 0)] = some [.int .i64 0] := rfl
   have hr : run tb 7 [.int .i64 9, numsD l, .int .i64 p] = some [.int .i64 0, numsD l, .int .i64 q] := hr
   have hvo : run tb 8 [.int .i64 0] = some [strsD (vocN 0)] := hvo
   simp (disch := omega) only [ir9, ir9p0, stepQ, stepL, eq_self, aBin, reduceIte, Int.reduceEq, Int.reduceLT, Int.reduceLE, Int.reduceGT, Int.reduceGE, hr, hvo, callQ_S, hle]
end Go.Proofs.YtefkehflmlikmaaDoor

namespace Go.Proofs.YtefkehflmlikmaaDoor
open Go Am
set_option maxRecDepth 100000
set_option linter.unusedSimpArgs false
set_option linter.unusedVariables false
theorem thyE_small (voc : List (List UInt8)) (S : BitVec 64) : (thyE voc S).1.size < 1000000000 := by
 unfold thyE
 split
 · rename_i hv
   have h1 := (thy_ok (vocOk_names hv) S).2.1
   have h2 := pow6 (vocOk_len hv)
   show (thy voc S).size < _
   omega
 · decide
theorem theories_run (raw : List (List UInt8)) (X : BitVec 64) (l0 : List Int) (hr0 : raw.length ≤ 9223372036854775807) : run tb 0 [strsD raw, bvD X, numsD l0] = some [.bool true] := by
 have sm := short03_run raw hr0
 have aw := awake03_run
 refine run_ir (x := ir0) rfl ?_
 cases c1 : (raw.all (fun s => decide (s.length ≤ 60)) && decide (raw.length ≤ 12)) with
 | false =>
  rw [c1] at sm
  simp (disch := omega) only [ir0, stepQ, stepL, eq_self, aBin, reduceIte, Int.reduceEq, Int.reduceLT, Int.reduceLE, Int.reduceGT, Int.reduceGE, sm]
 | true =>
  rw [c1] at sm
  simp only [Bool.and_eq_true, decide_eq_true_eq, List.all_eq_true] at c1
  obtain ⟨l, hl, hn⟩ := new_run l0
  obtain ⟨r, p, r0, r1, hp, hr⟩ := n_run 7 l 0 hl (by omega) (by omega) (by omega)
  obtain ⟨n, rfl⟩ := Int.eq_ofNat_of_zero_le r0
  have hr : run tb 7 [.int .i64 7, numsD l, .int .i64 0] = some [.int .i64 n, numsD l, .int .i64 p] := hr
  have hvn := voc_run n (by omega)
  have hv6 := voc_run 6 (by omega)
  have hv6 : run tb 8 [.int .i64 6] = some [strsD (vocN 6)] := hv6
  obtain ⟨o, q, ho, hq, hod⟩ := odd_run l p hl hp
  obtain ⟨vs, hvs⟩ : ∃ vs : List (List (List UInt8)), vs = [raw, vocN n, vocN 6, o] := ⟨_, rfl⟩
  have hmk : PO.eval (.mk 1 4) [strsD raw, strsD (vocN n), strsD (vocN 6), strsD o] = some [lsD vs] := by subst hvs; rfl
  have hsh : ∀ v ∈ vs, Short v := by
   subst hvs
   intro v hv
   simp only [List.mem_cons, List.not_mem_nil, or_false] at hv
   rcases hv with rfl | rfl | rfl | rfl
   · exact ⟨by omega, fun s hs => by have := c1.1 s hs; omega⟩
   · exact vocN_sh (by omega)
   · exact vocN_sh (by omega)
   · exact ho
  have lvs : vs.length = 4 := by subst hvs; rfl
  clear hvs
  simp (disch := omega) only [ir0, stepQ, stepL, eq_self, aBin, reduceIte, Int.reduceEq, Int.reduceLT, Int.reduceLE, Int.reduceGT, Int.reduceGE, sm, hn, hr, hvn, hv6, callQ_S, hod, hmk, len_LS]
  refine loop_k (σ := Nat) vs.length (fun _ q => q ≤ l.length) (fun i q => [.int .i64 i, numsD l, .int .i64 q]) (fun _ _ => [.bool true]) ?_ ?_ 0 q (Nat.zero_le _) hq
  · rintro i q L hi hq hL
    obtain ⟨S, q', hq', hS⟩ := set_run l q hl hq
    have hnext := hL q' hq'
    obtain ⟨k1, k2⟩ := hsh vs[i] (List.getElem_mem hi)
    have hg := get_LS hi
    have hc := chk_LS hi
    generalize vs[i] = v at *
    obtain ⟨xs, hxs⟩ : ∃ xs : List (BitVec 64), xs = [X, S] := ⟨_, rfl⟩
    have hmk2 : PO.eval (.mk 1 2) [bvD X, bvD S] = some [bvsD xs] := by subst hxs; rfl
    have lxs : xs.length = 2 := by subst hxs; rfl
    clear hxs
    simp (disch := omega) only [ir0p2, stepQ, stepL, eq_self, aBin, reduceIte, Int.reduceEq, Int.reduceLT, Int.reduceLE, Int.reduceGT, Int.reduceGE, bvQ, wu, shl_norm, shr_norm, and1_norm, hi, hc, hg, hS, hmk2, len_V]
    refine loop_k (σ := Unit) xs.length (fun _ _ => True) (fun j _ => [.int .i64 j]) (fun _ _ => [.bool true]) ?_ ?_ 0 () (Nat.zero_le _) trivial
    · rintro j _ M hj _ hM
      have hnx := hM () trivial
      have gv := get_V hj
      have cv := chk_V hj
      generalize xs[j] = x at *
      have h1 := theoryW_run v (by omega) x
      have h2 := theoryR_run v (by omega) (fun s hs => by have := k2 s hs; omega) x
      have hz := thyE_small v x
      generalize (thyE v x).1 = f at *
      generalize (thyE v x).2 = e at *
      have h3 := same22_run f f hz hz
      rw [F.beq_refl] at h3
      simp only [rowF, List.cons_append, List.nil_append] at h1 h2 h3
      simp (disch := omega) only [ir0p1, ir0p0, stepQ, stepL, eq_self, aBin, reduceIte, Int.reduceEq, Int.reduceLT, Int.reduceLE, Int.reduceGT, Int.reduceGE, bvQ, wu, shl_norm, shr_norm, and1_norm, hj, cv, gv, h1, h2, h3, ibne, wr, natS, hnx]
    · rintro _ M _
      simp (disch := omega) only [ir0p1, stepQ, stepL, eq_self, aBin, reduceIte, Int.reduceEq, Int.reduceLT, Int.reduceLE, Int.reduceGT, Int.reduceGE, Nat.lt_irrefl, wr, natS, hnext]
  · rintro q L _
    simp (disch := omega) only [ir0p2, stepQ, stepL, eq_self, aBin, reduceIte, Int.reduceEq, Int.reduceLT, Int.reduceLE, Int.reduceGT, Int.reduceGE, Nat.lt_irrefl, aw]
theorem gen_run (n d : Nat) (h1 : 1 ≤ n) (hn : n ≤ 6) (hd : d ≤ 3) (l : List Int) (hl : l.length ≤ 2000) (p : Nat) (hp : p ≤ l.length) :
 ∃ (f : F) (b : Nat), b ≤ l.length ∧ good f = true ∧ f.size ≤ 256 ∧ f.depth ≤ 3 ∧ (∀ s ∈ F.atomL f, s ∈ vocN n) ∧ modelsE (vocN n) f = 0 ∧ modelsS (vocN n) f = modN (vocN n) f (2 ^ n) ∧
  run tb 18 [.int .i64 n, .int .i64 d, numsD l, .int .i64 p] = some [.int .i64 f.op, .str f.name, .sl (F.encs f.args), numsD l, .int .i64 b] := by
 obtain ⟨f, b, hb, hm, hr⟩ := formula_run n h1 (by omega) l hl d (by omega) p hp
 obtain ⟨a1, a2, a3, a4, a5, a6⟩ := made_models hn hd hm
 exact ⟨f, b, hb, a1, a2, a3, a4, a5, a6, hr⟩
theorem ebb (b : Bool) : PO.eval (.bin .eql true) [.bool b, .bool b] = some [.bool true] := by cases b <;> rfl
theorem mk31 (f : F) : PO.eval (.mk 3 1) [.int .i64 f.op, .str f.name, .sl (F.encs f.args)] = some [.sl (F.encs [f])] := by simp [PO.eval, chunks, F.encs, F.enc_eq]
theorem mk32 (f g : F) : PO.eval (.mk 3 2) [.int .i64 f.op, .str f.name, .sl (F.encs f.args), .int .i64 g.op, .str g.name, .sl (F.encs g.args)] = some [.sl (F.encs [f, g])] := by rw [ev_mk32]; simp [F.encs, F.enc_eq]
theorem entails03_run (l0 : List Int) : run tb 3 [numsD l0] = some [.bool true] := by
 have aw := awake03_run
 obtain ⟨l, hl, hn⟩ := new_run l0
 obtain ⟨f, p, hp, f1, f2, f3, f4, f5, f6, hf⟩ := gen_run 4 3 (by omega) (by omega) (by omega) l hl 0 (by omega)
 obtain ⟨g, q, hq, g1, g2, g3, g4, g5, g6, hg⟩ := gen_run 4 3 (by omega) (by omega) (by omega) l hl p hp
 obtain ⟨h, q2, hq2, h1, h2, h3, h4, h5, h6, hh⟩ := gen_run 4 2 (by omega) (by omega) (by omega) l hl q hq
 have hf : run tb 18 [.int .i64 4, .int .i64 3, numsD l, .int .i64 0] = some [.int .i64 f.op, .str f.name, .sl (F.encs f.args), numsD l, .int .i64 p] := hf
 have hg : run tb 18 [.int .i64 4, .int .i64 3, numsD l, .int .i64 p] = some [.int .i64 g.op, .str g.name, .sl (F.encs g.args), numsD l, .int .i64 q] := hg
 have hh : run tb 18 [.int .i64 4, .int .i64 2, numsD l, .int .i64 q] = some [.int .i64 h.op, .str h.name, .sl (F.encs h.args), numsD l, .int .i64 q2] := hh
 have hv4 : run tb 8 [.int .i64 4] = some [strsD (vocN 4)] := voc_run 4 (by omega)
 have hvo := vocN_ok (n := 4) (by omega)
 have hlen : (vocN 4).length < 1000000000 := by rw [vocN_len]; omega
 have e1 := entails_run (vocN 4) f g hlen (by omega) (by omega)
 have e2 := entails_run (vocN 4) g h hlen (by omega) (by omega)
 have e3 := entails_run (vocN 4) f h hlen (by omega) (by omega)
 have e4 := entails_run (vocN 4) f f hlen (by omega) (by omega)
 simp only [entE, f5, g5, h5, ne_eq, not_true_eq_false, if_false] at e1 e2 e3 e4
 have hff : modelsS (vocN 4) f &&& ~~~modelsS (vocN 4) f = 0#64 := BitVec.and_not_self _
 rw [hff, decide_eq_true rfl] at e4
 have sng : (ng g).size = 1 + g.size := by simp [ng, F.size, F.sizes]
 have dng : (ng g).depth = 1 + g.depth := by simp [ng, F.depth, F.depths]
 have ang : F.atomL (ng g) = F.atomL g := by simp [ng, F.atomL, F.atomLs]
 have gng : good (ng g) = true := good_nd rfl rfl (by simpa using g1)
 have sm : (F.mk 5 [] [f, ng g]).size = 1 + (f.size + (ng g).size) := by simp [F.size, F.sizes]
 have dm : (F.mk 5 [] [f, ng g]).depth = max (1 + f.depth) (1 + (ng g).depth) := by simp [F.depth, F.depths]
 obtain ⟨m1, m2⟩ := mk_models hvo (o := 5) (by decide) (args := [f, ng g]) (good_pr (.inl rfl) f1 gng) (by omega) (by omega) (fun x hx s hs => by
  simp only [List.mem_cons, List.not_mem_nil, or_false] at hx
  rcases hx with rfl | rfl
  · exact f4 s hs
  · rw [ang] at hs; exact g4 s hs)
 have m3 : modelsS (vocN 4) (F.mk 5 [] [f, ng g]) = modelsS (vocN 4) f &&& ~~~modelsS (vocN 4) g := set_eq fun w => by
  rw [m2, f6, g6, has_diff, show (2 : Nat) ^ 4 = 2 ^ (vocN 4).length by rw [vocN_len], has_N hvo, has_N hvo, has_N hvo, show F.mk 5 [] [f, ng g] = pr 5 f (ng g) from rfl, val_pr5, val_ng]
  cases F.val (yesN (vocN 4) w) f <;> cases F.val (yesN (vocN 4) w) g <;> simp
 have hm := modelsW_run (vocN 4) (F.mk 5 [] [f, ng g]) hlen (by omega)
 rw [m1, m3] at hm
 simp only [rowF, F.op_mk, F.name_mk, F.args_mk] at hm
 have k1 := mk31 g
 have k2 := mk32 f (ng g)
 simp only [ng, F.op_mk, F.name_mk, F.args_mk] at k2 hm
 refine run_ir (x := ir3) rfl ?_
 have trans : modelsS (vocN 4) f &&& ~~~modelsS (vocN 4) g = 0#64 → modelsS (vocN 4) g &&& ~~~modelsS (vocN 4) h = 0#64 → modelsS (vocN 4) f &&& ~~~modelsS (vocN 4) h = 0#64 := fun a b => set_zero.2 fun w hw => by
  rw [has_diff] at hw
  by_cases hgw : has (modelsS (vocN 4) g) w
  · exact set_zero.1 b w (has_diff.2 ⟨hgw, hw.2⟩)
  · exact set_zero.1 a w (has_diff.2 ⟨hw.1, hgw⟩)
 generalize modelsS (vocN 4) f &&& ~~~modelsS (vocN 4) g = A at *
 generalize modelsS (vocN 4) g &&& ~~~modelsS (vocN 4) h = B at *
 generalize modelsS (vocN 4) f &&& ~~~modelsS (vocN 4) h = C at *
 by_cases a : A = 0#64
 · by_cases b : B = 0#64
   · have c := trans a b
     rw [decide_eq_true a] at e1
     rw [decide_eq_true b] at e2
     rw [decide_eq_true c] at e3
     simp (disch := omega) only [ir3, ir3p0, stepQ, stepL, eq_self, aBin, reduceIte, Int.reduceEq, Int.reduceLT, Int.reduceLE, Int.reduceGT, Int.reduceGE, bvQ, wu, shl_norm, shr_norm, and1_norm, hn, hv4, callQ_S, hf, hg, hh, e1, e2, e3, e4, callQ_tbi, callQ_tvi, k1, k2, hm, ibne, a, ebb, aw]
   · rw [decide_eq_true a] at e1
     rw [decide_eq_false b] at e2
     by_cases c : C = 0#64
     · rw [decide_eq_true c] at e3
       simp (disch := omega) only [ir3, ir3p0, stepQ, stepL, eq_self, aBin, reduceIte, Int.reduceEq, Int.reduceLT, Int.reduceLE, Int.reduceGT, Int.reduceGE, bvQ, wu, shl_norm, shr_norm, and1_norm, hn, hv4, callQ_S, hf, hg, hh, e1, e2, e3, e4, callQ_tbi, callQ_tvi, k1, k2, hm, ibne, a, ebb, aw]
     · rw [decide_eq_false c] at e3
       simp (disch := omega) only [ir3, ir3p0, stepQ, stepL, eq_self, aBin, reduceIte, Int.reduceEq, Int.reduceLT, Int.reduceLE, Int.reduceGT, Int.reduceGE, bvQ, wu, shl_norm, shr_norm, and1_norm, hn, hv4, callQ_S, hf, hg, hh, e1, e2, e3, e4, callQ_tbi, callQ_tvi, k1, k2, hm, ibne, a, ebb, aw]
 · rw [decide_eq_false a] at e1
   generalize decide (B = 0#64) = bb at *
   by_cases c : C = 0#64
   · rw [decide_eq_true c] at e3
     cases bb <;> simp (disch := omega) only [ir3, ir3p0, stepQ, stepL, eq_self, aBin, reduceIte, Int.reduceEq, Int.reduceLT, Int.reduceLE, Int.reduceGT, Int.reduceGE, bvQ, wu, shl_norm, shr_norm, and1_norm, hn, hv4, callQ_S, hf, hg, hh, e1, e2, e3, e4, callQ_tbi, callQ_tvi, k1, k2, hm, ibne, a, ebb, aw]
   · rw [decide_eq_false c] at e3
     cases bb <;> simp (disch := omega) only [ir3, ir3p0, stepQ, stepL, eq_self, aBin, reduceIte, Int.reduceEq, Int.reduceLT, Int.reduceLE, Int.reduceGT, Int.reduceGE, bvQ, wu, shl_norm, shr_norm, and1_norm, hn, hv4, callQ_S, hf, hg, hh, e1, e2, e3, e4, callQ_tbi, callQ_tvi, k1, k2, hm, ibne, a, ebb, aw]
end Go.Proofs.YtefkehflmlikmaaDoor
