/- What functions of the program compute: lemmas. -/
import Derived.Test.YtnfecjmddbehiaaAm7
import Derived.Test.YtnfecjmddbehiaaAm6
set_option linter.unusedSimpArgs false
set_option linter.unusedVariables false
set_option linter.unusedSectionVars false
namespace Am
open Go
def mkQ (N s i n : Nat) : Brc := (i + 1,n / s / N,n / s % N,n % s)
def upN (hh : Nat → Nat → Bool) (N s i n : Nat) : List Brc := ((List.range n).filter fun m => !hh i m).map (mkQ N s i)
def upI (hh : Nat → Nat → Bool) (N : Nat) (sec : Nat → Nat) (i : Nat) : List Brc := (List.range i).flatMap fun j => upN hh N (sec j) j (N * N * sec j)
section
variable (hh : Nat → Nat → Bool) (N : Nat) (sec : Nat → Nat)
theorem upN_zero (s i : Nat) : upN hh N s i 0 = [] := rfl
theorem upN_yes {s i n : Nat} (h : hh i n = true) : upN hh N s i (n + 1) = upN hh N s i n := by
 simp [upN,List.range_succ,List.filter_append,h]
theorem upN_no {s i n : Nat} (h : hh i n = false) : upN hh N s i (n + 1) = upN hh N s i n ++ [mkQ N s i n] := by
 simp [upN,List.range_succ,List.filter_append,h]
theorem upI_succ (i : Nat) : upI hh N sec (i + 1) = upI hh N sec i ++ upN hh N (sec i) i (N * N * sec i) := by
 simp [upI,List.range_succ,List.flatMap_append]
theorem upN_pre {s i n m : Nat} (h : n ≤ m) : upN hh N s i n <+: upN hh N s i m := by
 obtain ⟨k,rfl⟩ := Nat.exists_eq_add_of_le h
 unfold upN
 rw [List.range_add,List.filter_append,List.map_append]
 exact List.prefix_append _ _
theorem upI_pre {i m : Nat} (h : i ≤ m) : upI hh N sec i <+: upI hh N sec m := by
 obtain ⟨k,rfl⟩ := Nat.exists_eq_add_of_le h
 unfold upI
 rw [List.range_add,List.flatMap_append]
 exact List.prefix_append _ _
theorem up_at {i m n : Nat} (hi : i < m) (hn : n < N * N * sec i) (h : hh i n = false) : ∃ hl : (upI hh N sec i ++ upN hh N (sec i) i n).length < (upI hh N sec m).length,(upI hh N sec m)[(upI hh N sec i ++ upN hh N (sec i) i n).length] = mkQ N (sec i) i n := by
 have h1 : (upI hh N sec i ++ upN hh N (sec i) i n) ++ [mkQ N (sec i) i n] <+: upI hh N sec m := by
  rw [List.append_assoc,← upN_no hh N h]
  refine List.IsPrefix.trans ?_ (upI_pre hh N sec hi)
  rw [upI_succ]
  exact (List.prefix_append_right_inj _).2 (upN_pre hh N hn)
 have hl := h1.length_le
 refine ⟨by simp at hl ⊢; omega,?_⟩
 have h2 := h1.getElem (i := (upI hh N sec i ++ upN hh N (sec i) i n).length) (by simp)
 rw [← h2]
 simp
end
theorem upI_brL {h : Nat → Nat → Nat → Nat → Bool} {all fst N : Nat} (hN : 0 < N) : upI (fun i n => h (i + 1) (n / (if i < fst then 1 else N) / N) (n / (if i < fst then 1 else N) % N) (n % (if i < fst then 1 else N))) N (fun i => if i < fst then 1 else N) all = brL h all fst N := by
 unfold upI brL
 refine flatMap_cg fun i _ => ?_
 have hs : 0 < (if i < fst then 1 else N) := by split <;> omega
 rw [← range_trip hN hs]
 unfold upN
 rw [List.filter_map,List.map_map]
 rfl
def brV (b : Brc) : List Value := [.agg #[.int .i64 b.1,.int .i64 b.2.1,.int .i64 b.2.2.1,.int .i64 b.2.2.2]]
def brA (b : Brc) : List AV := [.agg [.d (.int .i64 b.1),.d (.int .i64 b.2.1),.d (.int .i64 b.2.2.1),.d (.int .i64 b.2.2.2)]]
def brD (b : Brc) : List D := [.int .i64 b.1,.int .i64 b.2.1,.int .i64 b.2.2.1,.int .i64 b.2.2.2]
theorem br_rep (w : World) (C : Com) (ρ : Rho) (H : Heap) (b : Brc) : RepAll w C ρ H (brA b) (brV b) := by
 refine ⟨rfl,fun i h h' => ?_⟩
 obtain rfl : i = 0 := by simp [brA] at h; exact h
 refine .agg _ _ rfl (fun v hv => ?_) fun j hj hj' => ?_
 · simp only [List.mem_cons,List.not_mem_nil,or_false] at hv
   rcases hv with rfl | rfl | rfl | rfl <;> rfl
 · match j,hj with
   | 0,_ => exact .d _ _ (.int _ _)
   | 1,_ => exact .d _ _ (.int _ _)
   | 2,_ => exact .d _ _ (.int _ _)
   | 3,_ => exact .d _ _ (.int _ _)
theorem rep_int {w : World} {C : Com} {ρ : Rho} {H : Heap} {k : IntKind} {n : Int} {v : Value} (h : RepA w C ρ H (.d (.int k n)) v) : v = .int k n := by
 cases h with | d _ _ h => cases h; rfl
theorem br_inv {w : World} {C : Com} {ρ : Rho} {H : Heap} {b : Brc} {vs : List Value} (h : RepAll w C ρ H (brA b) vs) : vs = brV b := by
 obtain ⟨h1,h2⟩ := h
 match vs,h1 with
 | [v],_ =>
  have h0 := h2 0 (by simp [brA]) (by simp)
  simp only [brA,List.getElem_cons_zero] at h0
  cases h0 with
  | agg _ us hl _ hu =>
   match us,hl with
   | [a,b,c,d],_ =>
    have ha := rep_int (hu 0 (by simp) (by simp))
    have hb := rep_int (hu 1 (by simp) (by simp))
    have hc := rep_int (hu 2 (by simp) (by simp))
    have hd := rep_int (hu 3 (by simp) (by simp))
    simp only [List.getElem_cons_zero,List.getElem_cons_succ] at ha hb hc hd
    subst ha hb hc hd
    rfl
theorem upI_cg {hh hh' : Nat → Nat → Bool} {N : Nat} {sec sec' : Nat → Nat} {m : Nat} (h1 : ∀ i,i < m → sec i = sec' i) (h2 : ∀ i,i < m → ∀ n,hh i n = hh' i n) : upI hh N sec m = upI hh' N sec' m := by
 unfold upI
 refine flatMap_cg fun i hi => ?_
 have hi := List.mem_range.1 hi
 rw [h1 i hi]
 unfold upN
 have : (fun m => !hh i m) = fun m => !hh' i m := by funext n; rw [h2 i hi]
 rw [this]
def hB (kind a : Int) (rows : List (List Int)) (p k f g : Nat) : Bool := holdsB kind (BitVec.ofNat 64 (szT a - 1)) (tOf rows) p (BitVec.ofNat 64 k) (BitVec.ofNat 64 f) (BitVec.ofNat 64 g)
def bQ (kind a : Int) (rows : List (List Int)) : List Brc := brL (hB kind a rows) (postN kind).1 (postN kind).2 (szT a)
def chkE (a : Int) (rows : List (List Int)) (kind : Int) : Int := if vldB a rows = true then (if (postN kind).1 = 0 then 4 else 0) else 1
theorem chkE_ok {a : Int} {rows : List (List Int)} {kind : Int} : chkE a rows kind = 0 ↔ Vld a rows ∧ (kind = 1 ∨ kind = 2 ∨ kind = 3) := by
 unfold chkE
 rw [← vldB_iff]
 by_cases h : vldB a rows = true
 · rw [if_pos h]
   unfold postN
   by_cases h1 : kind = 1
   · simp [h1,h]
   · by_cases h2 : kind = 2
     · simp [h2,h]
     · by_cases h3 : kind = 3
       · simp [h3,h]
       · simp [h1,h2,h3]
 · rw [if_neg h]; simp [h]
def chkV (kind a : Int) (rows : List (List Int)) : List D := if chkE a rows kind = 0 then (match (bQ kind a rows).head? with
    | some b => brD b ++ [.bool true,.int .i64 0]
    | none => [.int .i64 0,.int .i64 0,.int .i64 0,.int .i64 0,.bool false,.int .i64 0])
 else [.int .i64 0,.int .i64 0,.int .i64 0,.int .i64 0,.bool false,.int .i64 (chkE a rows kind)]
def cntV (m : Nat) (l : List Brc) : List Int := (List.range m).map fun p => ((l.countP fun b => decide (b.1 = p + 1) : Nat) : Int)
theorem cntV_nil (m : Nat) : cntV m [] = List.replicate m 0 := by
 refine List.ext_getElem (by simp [cntV]) fun i h1 h2 => by simp [cntV]
theorem cntV_len (m : Nat) (l : List Brc) : (cntV m l).length = m := by simp [cntV]
theorem cntV_get {m : Nat} (l : List Brc) {p : Nat} (h : p < m) : (cntV m l)[p]? = some ((l.countP fun b => decide (b.1 = p + 1) : Nat) : Int) := by simp [cntV,h]
theorem cntV_snoc {m : Nat} (l : List Brc) (b : Brc) {p : Nat} (hb : b.1 = p + 1) : (cntV m l).set p (((l.countP fun b => decide (b.1 = p + 1) : Nat) : Int) + 1) = cntV m (l ++ [b]) := by
 refine List.ext_getElem (by simp [cntV]) fun i h1 h2 => ?_
 have hi : i < m := by simpa [cntV] using h2
 simp only [cntV,List.getElem_set,List.getElem_map,List.getElem_range,List.countP_append,List.countP_cons,List.countP_nil,hb]
 by_cases c : p = i
 · subst c; simp
 · rw [if_neg c]
   simp [c]
theorem trip_len (N s : Nat) : (trip N s).length = N * (N * s) := by
 simp [trip,List.length_flatMap,List.map_const']
theorem brL_len (h : Nat → Nat → Nat → Nat → Bool) (all fst N : Nat) (hN : 0 < N) : (brL h all fst N).length ≤ all * (N * (N * N)) := by
 unfold brL
 rw [List.length_flatMap]
 have key : ∀ m : Nat,((List.range m).map fun i => (((trip N (if i < fst then 1 else N)).filter fun x => !h (i + 1) x.1 x.2.1 x.2.2).map fun x => (i + 1,x)).length).sum ≤ m * (N * (N * N)) := by
  intro m
  induction m with
  | zero => simp
  | succ m ih =>
   rw [List.range_succ,List.map_append,List.sum_append,Nat.succ_mul]
   refine Nat.add_le_add ih ?_
   simp only [List.map_cons,List.map_nil,List.sum_cons,List.sum_nil,Nat.add_zero,List.length_map]
   refine Nat.le_trans (List.length_filter_le _ _) ?_
   rw [trip_len]
   refine Nat.mul_le_mul_left _ (Nat.mul_le_mul_left _ ?_)
   split <;> omega
 exact key all
theorem bQ_len {kind a : Int} {rows : List (List Int)} (hv : Vld a rows) : (bQ kind a rows).length ≤ 28672 := by
 have h0 : 0 < szT a := by rcases hv.at_ with rfl | rfl <;> decide
 refine Nat.le_trans (brL_len _ _ _ _ h0) ?_
 have h1 : (postN kind).1 ≤ 7 := by
  unfold postN; split
  · decide
  · split
    · decide
    · split <;> decide
 have h16 := szT_le a
 exact Nat.le_trans (Nat.mul_le_mul h1 (Nat.mul_le_mul h16 (Nat.mul_le_mul h16 h16))) (by decide)
theorem bQ_mem {kind a : Int} {rows : List (List Int)} {b : Brc} (h : b ∈ bQ kind a rows) : 1 ≤ b.1 ∧ b.1 ≤ (postN kind).1 := ⟨((mem_brL b).1 h).1,((mem_brL b).1 h).2.1⟩
end Am

namespace Am
open Go
abbrev OO := List (List UInt8) × List Int
def osD (l : List OO) : D := .sl (l.map fun o => [strsD o.1,numsD o.2])
theorem row_O {l : List OO} {i : Nat} (h : i < l.length) : PO.eval (.row 2) [osD l,.int .i64 i] = some [strsD l[i].1,numsD l[i].2] :=
 ev_row (by omega) (by simp [h]) rfl
theorem row_O0 {l : List OO} (h : 0 < l.length) : PO.eval (.row 2) [osD l,.int .i64 0] = some [strsD l[0].1,numsD l[0].2] := row_O h
theorem len_O (l : List OO) : PO.eval .lenL [osD l] = some [.int .i64 l.length] := by simp [osD,ev_lenL]
structure Sane (l : List OO) : Prop where
 n : l.length < 1000000000
 nm : ∀ o ∈ l,o.1.length < 1000000000
 st : ∀ o ∈ l,∀ s ∈ o.1,s.length < 9223372036854775808
 rk : ∀ o ∈ l,o.2.length < 1000000000
def badO (nm : List (List UInt8)) (o : OO) : Bool := !decide (orderE o.1 o.2 = 0) || (decide (o.1.length < 1) || (decide (o.1.length > 2) || !decide (o.1 = nm)))
def badO3 (nm : List (List UInt8)) (o : OO) : Bool := !decide (orderE o.1 o.2 = 0) || !decide (o.1 = nm)
def bse (kind : Int) (i : Nat) : BitVec 64 := if kind = 3 then 1#64 <<< i else BitVec.ofNat 64 i
def badB (kind : Int) (i : Nat) (o : OO) : Bool := !decide (bse kind i = 0#64) && !decide (beliefsS o.1 o.2 = bse kind i)
def anyI (q : Nat → OO → Bool) : Nat → List OO → Bool
 | _,[] => false
 | i,o :: l => q i o || anyI q (i + 1) l
theorem anyI_drop (q : Nat → OO → Bool) {l : List OO} {i : Nat} (h : i < l.length) : anyI q i (l.drop i) = (q i l[i] || anyI q (i + 1) (l.drop (i + 1))) := by
 rw [List.drop_eq_getElem_cons h]; rfl
def nam0 (l : List OO) : List (List UInt8) := (l.getD 0 ([],[])).1
def wantN (kind : Int) (n : Nat) : Nat := if kind = 3 then 2 ^ n else 2 ^ (2 ^ n)
def mkE (l : List OO) (kind : Int) : Int := if (postN kind).1 = 0 then 4 else if l.length = 0 then 1 else if l.any (badO (nam0 l)) = true then 1 else if l.length ≠ wantN kind (nam0 l).length then 1 else if anyI (badB kind) 0 l = true then 7 else 0
def uniU (l : List OO) (k f : BitVec 64) : Nat → BitVec 64
 | 0 => 0#64
 | m + 1 => if k.getLsbD m = true then uniU l k f m ||| leastS (l.getD m ([],[])).1 (l.getD m ([],[])).2 f else uniU l k f m
def entB (kind : Int) (l : List OO) (N k f : Nat) : BitVec 64 := if kind = 1 then leastS (l.getD k ([],[])).1 (l.getD k ([],[])).2 (BitVec.ofNat 64 f)
 else if kind = 2 then BitVec.ofNat 64 k ||| leastS (l.getD k ([],[])).1 (l.getD k ([],[])).2 (BitVec.ofNat 64 (N - 1 - f))
 else uniU l (BitVec.ofNat 64 k) (BitVec.ofNat 64 f) l.length
def rowT (kind : Int) (l : List OO) (N k : Nat) : List Int := (List.range N).map fun f => ((entB kind l N k f).toNat : Int)
def mkT (kind : Int) (l : List OO) (N : Nat) : List (List Int) := (List.range N).map fun k => rowT kind l N k
structure MkO (l : List OO) (kind : Int) : Prop where
 kd : kind = 1 ∨ kind = 2 ∨ kind = 3
 pos : 0 < l.length
 at_ : (nam0 l).length = 1 ∨ (nam0 l).length = 2
 ok : ∀ o ∈ l,orderE o.1 o.2 = 0
 nm : ∀ o ∈ l,o.1 = nam0 l
 len : l.length = wantN kind (nam0 l).length
theorem any_bad {l : List OO} (h : l.any (badO (nam0 l)) = false) (hp : 0 < l.length) : ((nam0 l).length = 1 ∨ (nam0 l).length = 2) ∧ (∀ o ∈ l,orderE o.1 o.2 = 0) ∧ ∀ o ∈ l,o.1 = nam0 l := by
 have key : ∀ o ∈ l,orderE o.1 o.2 = 0 ∧ ¬ o.1.length < 1 ∧ ¬ o.1.length > 2 ∧ o.1 = nam0 l := fun o ho => by
  have := List.any_eq_false.1 h o ho
  simp only [badO,Bool.or_eq_true,Bool.not_eq_true',decide_eq_true_eq,decide_eq_false_iff_not,not_or,Classical.not_not] at this
  exact ⟨this.1,this.2.1,this.2.2.1,this.2.2.2⟩
 have h0 : l[0] ∈ l := List.getElem_mem hp
 have e0 : nam0 l = l[0].1 := by simp [nam0,hp]
 refine ⟨?_,fun o ho => (key o ho).1,fun o ho => (key o ho).2.2.2⟩
 have := key _ h0
 rw [e0]; omega
theorem post_kd {kind : Int} (h : ¬ (postN kind).1 = 0) : kind = 1 ∨ kind = 2 ∨ kind = 3 := by
 unfold postN at h
 by_cases h1 : kind = 1
 · exact .inl h1
 · by_cases h2 : kind = 2
   · exact .inr (.inl h2)
   · by_cases h3 : kind = 3
     · exact .inr (.inr h3)
     · simp [h1,h2,h3] at h
theorem mkE_cases (l : List OO) (kind : Int) : (mkE l kind = 4 ∧ (postN kind).1 = 0) ∨ (¬ (postN kind).1 = 0 ∧ l.length = 0 ∧ mkE l kind = 1) ∨ (¬ (postN kind).1 = 0 ∧ 0 < l.length ∧ l.any (badO (nam0 l)) = true ∧ mkE l kind = 1) ∨
 (¬ (postN kind).1 = 0 ∧ 0 < l.length ∧ l.any (badO (nam0 l)) = false ∧ l.length ≠ wantN kind (nam0 l).length ∧ mkE l kind = 1) ∨ (MkO l kind ∧ mkE l kind = if anyI (badB kind) 0 l = true then 7 else 0) := by
 unfold mkE
 by_cases h1 : (postN kind).1 = 0
 · exact .inl ⟨by rw [if_pos h1],h1⟩
 · rw [if_neg h1]
   by_cases h2 : l.length = 0
   · exact .inr (.inl ⟨h1,h2,by rw [if_pos h2]⟩)
   · rw [if_neg h2]
     have hp : 0 < l.length := by omega
     by_cases h3 : l.any (badO (nam0 l)) = true
     · exact .inr (.inr (.inl ⟨h1,hp,h3,by rw [if_pos h3]⟩))
     · rw [if_neg h3]
       have h3' := Bool.eq_false_iff.2 h3
       by_cases h4 : l.length ≠ wantN kind (nam0 l).length
       · exact .inr (.inr (.inr (.inl ⟨h1,hp,h3',h4,by rw [if_pos h4]⟩)))
       · rw [if_neg h4]
         obtain ⟨a1,a2,a3⟩ := any_bad h3' hp
         exact .inr (.inr (.inr (.inr ⟨⟨post_kd h1,hp,a1,a2,a3,Classical.not_not.1 h4⟩,rfl⟩)))
theorem iv_shr (tb : Bool) (kk : IntKind) (x : BitVec 64) (w : Nat) : PO.eval (.bin .shr tb) [ivD x,.int kk (w : Int)] = some [ivD (x >>> w)] := by
 show one1 (if 0 ≤ (w : Int) then some (.int .i64 (((x.toNat : Int)).fdiv (2 ^ (min ((w : Int)).toNat 64)))) else none) = _
 rw [if_pos (by omega),Int.toNat_natCast,shr_nat]; rfl
theorem bit_one (x : BitVec 64) (w : Nat) : decide ((x >>> w) &&& 1#64 = 1#64) = x.getLsbD w := by
 rw [Bool.eq_iff_iff,decide_eq_true_eq]
 constructor
 · intro h
   have := congrArg (fun y : BitVec 64 => y.getLsbD 0) h
   simpa using this
 · intro h
   refine set_eq fun i => ?_
   rw [has_and]
   have h1 : has 1#64 i ↔ i = 0 := by
    have : has (1#64 <<< 0) i ↔ i = 0 := by rw [has,one_shl_get _ _ (by omega),decide_eq_true_eq]
    simpa using this
   rw [h1]
   constructor
   · exact fun x => x.2
   · rintro rfl
     exact ⟨by rw [has,BitVec.getLsbD_ushiftRight]; simpa using h,rfl⟩
theorem shr_sml {x : BitVec 64} (h : Sml x) (w : Nat) : Sml (x >>> w) := by
 unfold Sml at *
 rw [BitVec.toNat_ushiftRight,Nat.shiftRight_eq_div_pow]
 exact Nat.lt_of_le_of_lt (Nat.div_le_self _ _) h
theorem iv_bit {x : BitVec 64} (h : Sml x) (w : Nat) : PO.eval (.bin .and false) [ivD (x >>> w),.int .i64 1] = some [ivD (x >>> w &&& 1#64)] := iv_and false (y := 1#64) (shr_sml h w)
theorem iv_one (x : BitVec 64) (w : Nat) : PO.eval (.bin .eql false) [ivD (x >>> w &&& 1#64),.int .i64 1] = some [.bool (x.getLsbD w)] := by
 rw [← bit_one]; exact iv_eql false _ 1#64
theorem int_iv {n : Nat} (h : n < 18446744073709551616) : D.int .i64 (n : Int) = ivD (BitVec.ofNat 64 n) := by
 unfold ivD; rw [BitVec.toNat_ofNat,Nat.mod_eq_of_lt (by omega)]
theorem ov_lt {N : Nat} {x : BitVec 64} (h : Ovr N x) : x.toNat < 2 ^ N := by
 refine Nat.lt_pow_two_of_testBit _ fun i hi => ?_
 rw [← BitVec.getLsbD]
 exact Bool.eq_false_iff.2 fun hx => by have := h i hx; omega
theorem least_ov {names : List (List UInt8)} {ranks : List Int} (h : orderE names ranks = 0) (S : BitVec 64) : Ovr (2 ^ names.length) (leastS names ranks S) := fun w hw => by
 have := ((leastS_lst h).get S w).1 hw
 rw [(orderE_zero h).2.1] at this
 exact this.1
theorem uni_ov {l : List OO} {N : Nat} (h : ∀ o ∈ l,∀ S,Ovr N (leastS o.1 o.2 S)) (k f : BitVec 64) : ∀ m,m ≤ l.length → Ovr N (uniU l k f m)
 | 0,_ => fun w hw => absurd hw ((set_zero.1 rfl) w)
 | m + 1,hm => fun w hw => by
  have hm' : m < l.length := by omega
  unfold uniU at hw
  split at hw
  · rcases has_or.1 hw with h1 | h1
    · exact uni_ov h k f m (by omega) w h1
    · have e : l.getD m ([],[]) = l[m] := by simp [hm']
      rw [e] at h1
      exact h _ (List.getElem_mem hm') f w h1
  · exact uni_ov h k f m (by omega) w hw
section
variable {l : List OO} {kind : Int} (h : MkO l kind)
include h
theorem MkO.ov {o : OO} (ho : o ∈ l) (S : BitVec 64) : Ovr (2 ^ (nam0 l).length) (leastS o.1 o.2 S) := by
 have := least_ov (h.ok o ho) S
 rwa [h.nm o ho] at this ⊢
theorem MkO.sz : szT ((nam0 l).length : Int) = 2 ^ (2 ^ (nam0 l).length) := by
 rcases h.at_ with e | e <;> rw [e] <;> rfl
theorem MkO.lt {o : OO} (ho : o ∈ l) (S : BitVec 64) : (leastS o.1 o.2 S).toNat < 16 := by
 have := ov_lt (h.ov ho S)
 rcases h.at_ with e | e
 · rw [e] at this; omega
 · rw [e] at this; omega
theorem MkO.uni (k f : BitVec 64) {m : Nat} (hm : m ≤ l.length) : (uniU l k f m).toNat < 16 := by
 have := ov_lt (uni_ov (fun o ho => h.ov ho) k f m hm)
 rcases h.at_ with e | e
 · rw [e] at this; omega
 · rw [e] at this; omega
end
def fil (l : List Int) (i : Nat) : List Int := (List.range l.length).map fun (k : Nat) => if k < i then l.getD k 0 else 0
theorem fil_len (l : List Int) (i : Nat) : (fil l i).length = l.length := by simp [fil]
theorem fil_zero (l : List Int) : List.replicate l.length 0 = fil l 0 := by
 unfold fil
 refine List.ext_getElem (by simp) fun i h1 h2 => ?_
 simp
theorem fil_succ {l : List Int} {i : Nat} (hi : i < l.length) : (fil l i).set i (l.getD i 0) = fil l (i + 1) := by
 unfold fil
 refine List.ext_getElem (by simp) fun k h1 h2 => ?_
 rw [List.getElem_set]
 simp only [List.getElem_map,List.getElem_range]
 by_cases h : i = k
 · subst h; simp
 · have : (k < i + 1) = (k < i) := propext ⟨fun h => by omega,fun h => by omega⟩
   simp [h,this]
theorem fil_end (l : List Int) : fil l l.length = l := by
 unfold fil
 refine List.ext_getElem (by simp) fun k h1 h2 => ?_
 simp [h2]
theorem fil_at {l : List Int} {i : Nat} (hi : i < l.length) : (fil l i).set i 0 = fil l i := by
 refine List.ext_getElem (by simp) fun k h1 h2 => ?_
 rw [List.getElem_set]
 split
 · rename_i hk; subst hk; simp [fil]
 · rfl
theorem row_len (kind : Int) (l : List OO) (N k : Nat) : (rowT kind l N k).length = N := by simp [rowT]
theorem row_get {kind : Int} {l : List OO} {N k f : Nat} (h : f < N) : (rowT kind l N k).getD f 0 = ((entB kind l N k f).toNat : Int) := by simp [rowT,h]
theorem tab_take (kind : Int) (l : List OO) {N k : Nat} (h : k < N) : (mkT kind l N).take (k + 1) = (mkT kind l N).take k ++ [rowT kind l N k] := by
 rw [List.take_add_one,List.getElem?_eq_getElem (by simpa [mkT] using h)]
 simp [mkT]
theorem tab_len (kind : Int) (l : List OO) (N : Nat) : (mkT kind l N).length = N := by simp [mkT]
theorem app_T {rows : List (List Int)} {r : List Int} (h : rows.length < 1000000000) : PO.eval (.app 1 24) [tabD rows,.sl [[numsD r]]] = some [tabD (rows ++ [r])] := by
 have := ev_app (sz := 1) (bt := 24) (xs := rows.map fun r => [numsD r]) (ys := [[numsD r]]) (by simp; omega) (by simp; omega) rfl
 simpa [tabD] using this
theorem tab_nil : D.sl [] = tabD [] := rfl
structure FitO (n : Nat) (K : BitVec 64) (o : OO) : Prop where
 nm : o.1 = vocN n
 ok : orderE o.1 o.2 = 0
 len : o.2.length = 2 ^ n
 bel : K ≠ 0#64 → beliefsS o.1 o.2 = K
theorem fit_norm {n : Nat} (hn : n ≤ 6) {K : BitVec 64} {rs : List Int} (hl : rs.length = 2 ^ n) (hK : Ovr (2 ^ n) K) (h : ∀ w,w < 2 ^ n → (K.getLsbD w = true → rs.getD w 0 = 0) ∧ (¬ K.getLsbD w = true → 1 ≤ rs.getD w 0)) : FitO n K (vocN n,normS rs) := by
 have hnl : (normS rs).length = 2 ^ n := by rw [← hl]; simp [normS]
 have hok : orderE (vocN n) (normS rs) = 0 := by
  unfold orderE
  rw [if_pos ⟨vocN_ok hn,by rw [hnl,vocN_len]⟩,if_pos (norm_ok rs)]
 refine ⟨rfl,hok,hnl,fun hK0 => ?_⟩
 have hp := pat_norm rs
 have hL := leastS_lst hok
 obtain ⟨u,hu⟩ := set_ne hK0
 have hu2 := hK u hu
 have hu0 := (h u hu2).1 hu
 have hle : ∀ a b,a < 2 ^ n → b < 2 ^ n → ((normS rs).getD a (-1) ≤ (normS rs).getD b (-1) ↔ rs.getD a 0 ≤ rs.getD b 0) := fun a b ha hb => by
  have e1 : (normS rs).getD a (-1) = (normS rs).getD a 0 := by simp [show a < (normS rs).length by omega]
  have e2 : (normS rs).getD b (-1) = (normS rs).getD b 0 := by simp [show b < (normS rs).length by omega]
  rw [e1,e2]
  have := hp.2 b a (by omega) (by omega)
  constructor
  · intro h; exact Int.not_lt.1 fun hx => by have := this.2 hx; omega
  · intro h; exact Int.not_lt.1 fun hx => by have := this.1 hx; omega
 refine set_eq fun w => ?_
 show has (leastS (vocN n) (normS rs) (BitVec.allOnes 64)) w ↔ has K w
 rw [hL.top,hnl]
 constructor
 · rintro ⟨h1,h2⟩
   have h3 := (hle w u h1 hu2).1 (h2 u hu2)
   exact Classical.byContradiction fun hn => by have := (h w h1).2 hn; omega
 · intro hw
   have hw2 := hK w hw
   refine ⟨hw2,fun v hv => (hle w v hw2 hv).2 ?_⟩
   have h1 := (h w hw2).1 hw
   by_cases hv2 : K.getLsbD v = true
   · have := (h v hv).1 hv2; omega
   · have := (h v hv).2 hv2; omega
end Am

namespace Am
open Go
theorem ov_small {N k : Nat} (hN : N = 2 ∨ N = 4) (hk : k < 2 ^ N) : Ovr N (BitVec.ofNat 64 k) := fun w hw => by
 have h1 : (BitVec.ofNat 64 k).toNat = k := by
  rw [BitVec.toNat_ofNat,Nat.mod_eq_of_lt]
  rcases hN with rfl | rfl <;> omega
 have h2 : (BitVec.ofNat 64 k).getLsbD w = true := hw
 rw [BitVec.getLsbD,h1] at h2
 exact Classical.byContradiction fun hn => by
  have := Nat.testBit_lt_two_pow (x := k) (i := w) (Nat.lt_of_lt_of_le hk (Nat.pow_le_pow_right (by omega) (by omega)))
  rw [this] at h2; cases h2
structure FitL (n : Nat) (kind : Int) (os : List OO) : Prop where
 len : os.length = wantN kind n
 fit : ∀ i (h : i < os.length),FitO n (bse kind i) os[i]
theorem fitL_sane {n : Nat} (hn : n = 1 ∨ n = 2) {kind : Int} {os : List OO} (h : FitL n kind os) : Sane os := by
 have key : ∀ o ∈ os,o.1 = vocN n ∧ o.2.length = 2 ^ n := fun o ho => by
  obtain ⟨i,hi,rfl⟩ := List.getElem_of_mem ho
  exact ⟨(h.fit i hi).nm,(h.fit i hi).len⟩
 have h4 : 2 ^ n ≤ 4 := by rcases hn with rfl | rfl <;> decide
 have h16 : 2 ^ (2 ^ n) ≤ 16 := by rcases hn with rfl | rfl <;> decide
 refine ⟨?_,fun o ho => ?_,fun o ho s hs => ?_,fun o ho => ?_⟩
 · rw [h.len]; unfold wantN; split <;> omega
 · rw [(key o ho).1,vocN_len]; omega
 · rw [(key o ho).1] at hs; rw [vocN_short s hs]; omega
 · rw [(key o ho).2]; omega
def tabG (m : Nat) (G : Nat → Nat → BitVec 64) : List (List Int) := (List.range m).map fun k => (List.range m).map fun f => ((G k f).toNat : Int)
theorem mkT_G (kind : Int) (l : List OO) (N : Nat) : mkT kind l N = tabG N (entB kind l N) := rfl
theorem tabG_len (m : Nat) (G : Nat → Nat → BitVec 64) : (tabG m G).length = m := by simp [tabG]
theorem tabG_row {m : Nat} {G : Nat → Nat → BitVec 64} {r : List Int} (h : r ∈ tabG m G) : r.length = m := by
 obtain ⟨k,_,rfl⟩ := List.mem_map.1 h
 simp
theorem tabG_vld {a : Int} (ha : a = 1 ∨ a = 2) {G : Nat → Nat → BitVec 64} (h : ∀ k f,k < szT a → f < szT a → (G k f).toNat < szT a) : Vld a (tabG (szT a) G) := by
 refine ⟨ha,tabG_len _ _,fun r hr => tabG_row hr,fun r hr x hx => ?_⟩
 obtain ⟨k,hk,rfl⟩ := List.mem_map.1 hr
 obtain ⟨f,hf,rfl⟩ := List.mem_map.1 hx
 have := h k f (List.mem_range.1 hk) (List.mem_range.1 hf)
 exact ⟨by omega,by omega⟩
theorem tabG_t {m : Nat} {G : Nat → Nat → BitVec 64} {k f : BitVec 64} (hk : k.toNat < m) (hf : f.toNat < m) : tOf (tabG m G) k f = G k.toNat f.toNat := by
 unfold tOf tabG
 simp [hk,hf]
theorem bQ_nil {kind a : Int} {rows : List (List Int)} (h : ∀ p k f g,1 ≤ p → p ≤ (postN kind).1 → k < szT a → f < szT a → g < szT a → hB kind a rows p k f g = true) : bQ kind a rows = [] := by
 refine List.eq_nil_iff_forall_not_mem.2 fun b hb => ?_
 obtain ⟨h1,h2,h3,h4,h5,_,h6⟩ := (mem_brL b).1 hb
 rw [h _ _ _ _ h1 h2 h3 h4 h5] at h6
 cases h6
theorem szT_pow {n : Nat} (hn : n = 1 ∨ n = 2) : szT (n : Int) = 2 ^ (2 ^ n) := by rcases hn with rfl | rfl <;> rfl
theorem toNat_small {x m : Nat} (h : x < m) (hm : m ≤ 16) : (BitVec.ofNat 64 x).toNat = x := by
 rw [BitVec.toNat_ofNat]; exact Nat.mod_eq_of_lt (by omega)
theorem pow_cases {n : Nat} (hn : n = 1 ∨ n = 2) : 2 ^ n = 2 ∨ 2 ^ n = 4 := by rcases hn with rfl | rfl <;> simp
theorem anyI_true {q : Nat → OO → Bool} : ∀ {l : List OO} {i : Nat},anyI q i l = true → ∃ (j : Nat) (h : j < l.length),q (i + j) l[j] = true
 | [],i,h => by simp [anyI] at h
 | o :: l,i,h => by
  simp only [anyI,Bool.or_eq_true] at h
  rcases h with h | h
  · exact ⟨0,by simp,h⟩
  · obtain ⟨j,hj,h⟩ := anyI_true h
    refine ⟨j + 1,by simp; omega,?_⟩
    rw [show i + (j + 1) = i + 1 + j by omega]
    simpa using h
theorem fitL_at {n : Nat} {kind : Int} {os : List OO} (h : FitL n kind os) {i : Nat} (hi : i < os.length) : FitO n (bse kind i) (os.getD i ([],[])) := by
 rw [List.getD_eq_getElem?_getD,List.getElem?_eq_getElem hi]
 exact h.fit i hi
theorem fitL_mk {n : Nat} (hn : n = 1 ∨ n = 2) {kind : Int} (hk : kind = 1 ∨ kind = 2 ∨ kind = 3) {os : List OO} (h : FitL n kind os) : mkE os kind = 0 ∧ nam0 os = vocN n ∧ MkO os kind := by
 have hp : 0 < os.length := by rw [h.len]; unfold wantN; split <;> exact Nat.two_pow_pos _
 have hnam : nam0 os = vocN n := (fitL_at h hp).nm
 have hk0 : ¬ (postN kind).1 = 0 := by rcases hk with rfl | rfl | rfl <;> decide
 have hany : os.any (badO (nam0 os)) = false := by
  rw [List.any_eq_false]
  intro o ho
  obtain ⟨i,hi,rfl⟩ := List.getElem_of_mem ho
  have hf := h.fit i hi
  have h1 : ¬ os[i].1.length < 1 := by rw [hf.nm,vocN_len]; omega
  have h2 : ¬ os[i].1.length > 2 := by rw [hf.nm,vocN_len]; omega
  have h3 : os[i].1 = nam0 os := by rw [hf.nm,hnam]
  unfold badO
  rw [decide_eq_true hf.ok,decide_eq_false h1,decide_eq_false h2,decide_eq_true h3]
  decide
 have hlen : os.length = wantN kind (nam0 os).length := by rw [h.len,hnam,vocN_len]
 have hb : ¬ anyI (badB kind) 0 os = true := fun hc => by
  obtain ⟨j,hj,hc⟩ := anyI_true hc
  rw [Nat.zero_add] at hc
  unfold badB at hc
  rw [Bool.and_eq_true,Bool.not_eq_true',Bool.not_eq_true',decide_eq_false_iff_not,decide_eq_false_iff_not] at hc
  exact hc.2 ((h.fit j hj).bel hc.1)
 have hE : mkE os kind = 0 := by
  unfold mkE
  rw [if_neg hk0,if_neg (by omega),if_neg (by rw [hany]; decide),if_neg (by simpa using hlen),if_neg hb]
 refine ⟨hE,hnam,?_⟩
 rcases mkE_cases os kind with c | c | c | c | c
 · omega
 · omega
 · omega
 · omega
 · exact c.1
theorem has_uni (l : List OO) (k f : BitVec 64) : ∀ (m w : Nat),has (uniU l k f m) w ↔ ∃ v,v < m ∧ has k v ∧ has (leastS (l.getD v ([],[])).1 (l.getD v ([],[])).2 f) w
 | 0,w => ⟨fun h => absurd h (by simp [uniU,has]),fun ⟨v,h,_⟩ => absurd h (by omega)⟩
 | m + 1,w => by
  have ih := has_uni l k f m w
  have step : has (uniU l k f (m + 1)) w ↔ has (uniU l k f m) w ∨ (has k m ∧ has (leastS (l.getD m ([],[])).1 (l.getD m ([],[])).2 f) w) := by
   by_cases hk : k.getLsbD m = true
   · simp only [uniU,if_pos hk,has_or]
     exact or_congr_right ⟨fun h => ⟨hk,h⟩,fun h => h.2⟩
   · simp only [uniU,if_neg hk]
     exact ⟨.inl,fun h => h.resolve_right fun h => hk h.1⟩
  rw [step,ih]
  constructor
  · rintro (⟨v,h1,h2,h3⟩ | ⟨h2,h3⟩)
    · exact ⟨v,by omega,h2,h3⟩
    · exact ⟨m,by omega,h2,h3⟩
  · rintro ⟨v,h1,h2,h3⟩
    by_cases hv : v = m
    · subst hv; exact .inr ⟨h2,h3⟩
    · exact .inl ⟨v,by omega,h2,h3⟩
theorem allA {n : Nat} (hn : n = 1 ∨ n = 2) (w : Nat) : has (BitVec.ofNat 64 (szT (n : Int) - 1)) w ↔ w < 2 ^ n := by
 by_cases hw : w < 64
 · rcases hn with rfl | rfl
   · have : ∀ w,w < 64 → ((BitVec.ofNat 64 (szT ((1 : Nat) : Int) - 1)).getLsbD w = true ↔ w < 2 ^ 1) := by decide +kernel
     exact this w hw
   · have : ∀ w,w < 64 → ((BitVec.ofNat 64 (szT ((2 : Nat) : Int) - 1)).getLsbD w = true ↔ w < 2 ^ 2) := by decide +kernel
     exact this w hw
 · have : 2 ^ n ≤ 4 := by rcases hn with rfl | rfl <;> decide
   exact ⟨fun h => absurd (has_lt h) hw,fun h => by omega⟩
theorem comA {n : Nat} (hn : n = 1 ∨ n = 2) {f : Nat} (hf : f < szT (n : Int)) : BitVec.ofNat 64 (2 ^ (2 ^ n) - 1 - f) = BitVec.ofNat 64 (szT (n : Int) - 1) &&& ~~~BitVec.ofNat 64 f := by
 rcases hn with rfl | rfl
 · have : ∀ f,f < 4 → BitVec.ofNat 64 (2 ^ (2 ^ 1) - 1 - f) = BitVec.ofNat 64 (szT ((1 : Nat) : Int) - 1) &&& ~~~BitVec.ofNat 64 f := by decide +kernel
   exact this f hf
 · have : ∀ f,f < 16 → BitVec.ofNat 64 (2 ^ (2 ^ 2) - 1 - f) = BitVec.ofNat 64 (szT ((2 : Nat) : Int) - 1) &&& ~~~BitVec.ofNat 64 f := by decide +kernel
   exact this f hf
theorem bv_self (x : BitVec 64) : BitVec.ofNat 64 x.toNat = x := by simp
theorem fit_tab {n : Nat} (hn : n = 1 ∨ n = 2) {kind : Int} (hk : kind = 1 ∨ kind = 2 ∨ kind = 3) {os : List OO} (h : FitL n kind os) : Vld (n : Int) (mkT kind os (2 ^ (2 ^ n))) ∧ bQ kind (n : Int) (mkT kind os (2 ^ (2 ^ n))) = [] := by
 obtain ⟨hE,hnam,hM⟩ := fitL_mk hn hk h
 have hsz := szT_pow hn
 have hN4 : 2 ^ n ≤ 4 := by rcases hn with rfl | rfl <;> decide
 have h16 : 2 ^ (2 ^ n) ≤ 16 := by rcases hn with rfl | rfl <;> decide
 have hov : ∀ o ∈ os,∀ S,Ovr (2 ^ n) (leastS o.1 o.2 S) := fun o ho S => by have := hM.ov ho S; rwa [hnam,vocN_len] at this
 have ovn : ∀ {k : Nat},k < 2 ^ (2 ^ n) → Ovr (2 ^ n) (BitVec.ofNat 64 k) := fun hk => ov_small (pow_cases hn) hk
 have ovlt : ∀ {x : BitVec 64},Ovr (2 ^ n) x → x.toNat < szT (n : Int) := fun hx => by rw [hsz]; exact ov_lt hx
 have memD : ∀ {i : Nat},i < os.length → os.getD i ([],[]) ∈ os := fun {i} hi => by
  rw [List.getD_eq_getElem?_getD,List.getElem?_eq_getElem hi]; exact List.getElem_mem hi
 have hlst : ∀ {i : Nat},i < os.length → Lst (2 ^ n) (fun w => (os.getD i ([],[])).2.getD w (-1)) (leastS (os.getD i ([],[])).1 (os.getD i ([],[])).2) := fun {i} hi => by
  have := leastS_lst (fitL_at h hi).ok
  rwa [(fitL_at h hi).len] at this
 have hfit : ∀ {i : Nat},i < os.length → Fit (bse kind i) (leastS (os.getD i ([],[])).1 (os.getD i ([],[])).2) := fun {i} hi => (fitL_at h hi).bel
 rw [mkT_G]
 rw [← hsz]
 rcases hk with rfl | rfl | rfl
 · have hlen : os.length = szT (n : Int) := by rw [h.len,hsz]; rfl
   refine ⟨tabG_vld (by rcases hn with rfl | rfl <;> decide) fun k f hk hf => ovlt ?_,bQ_nil fun p k f g _ _ hk hf hg => ?_⟩
   · exact hov _ (memD (by omega)) _
   · have k64 := toNat_small hk (szT_le _)
     have hf' := hfit (i := k) (by omega)
     have : bse 1 k = BitVec.ofNat 64 k := rfl
     rw [this] at hf'
     exact rev_none (hlst (i := k) (by omega)) hf' (fun x hx => by
      rw [tabG_t (by rw [k64]; exact hk) (ovlt hx)]
      unfold entB
      rw [if_pos rfl,k64,bv_self]) (ovn (by rw [← hsz]; exact hf)) p
 · have hlen : os.length = szT (n : Int) := by rw [h.len,hsz]; rfl
   refine ⟨tabG_vld (by rcases hn with rfl | rfl <;> decide) fun k f hk hf => ?_,bQ_nil fun p k f g _ _ hk hf hg => ?_⟩
   · unfold entB
     rw [if_neg (by decide),if_pos rfl]
     exact or_lt (by rw [toNat_small hk (szT_le _)]; exact hk) (ovlt (hov _ (memD (by omega)) _))
   · have k64 := toNat_small hk (szT_le _)
     have hf' := hfit (i := k) (by omega)
     have : bse 2 k = BitVec.ofNat 64 k := rfl
     rw [this] at hf'
     exact con_none (hlst (i := k) (by omega)) (allA hn) hf' (fun x hx => by
      rw [tabG_t (by rw [k64]; exact hk) (ovlt hx)]
      unfold entB
      rw [if_neg (by decide),if_pos rfl,k64]
      have := comA hn (ovlt hx)
      rw [← hsz,bv_self] at this
      rw [this]) (ovn (by rw [← hsz]; exact hf)) (ovn (by rw [← hsz]; exact hg)) p
 · have hlen : os.length = 2 ^ n := by rw [h.len]; rfl
   refine ⟨tabG_vld (by rcases hn with rfl | rfl <;> decide) fun k f hk hf => ovlt ?_,bQ_nil fun p k f g _ _ hk hf hg => ?_⟩
   · unfold entB
     rw [if_neg (by decide),if_neg (by decide)]
     exact uni_ov hov _ _ _ (Nat.le_refl _)
   · refine upd_none (N := 2 ^ n) (r := fun i w => (os.getD i ([],[])).2.getD w (-1)) (L := fun i => leastS (os.getD i ([],[])).1 (os.getD i ([],[])).2) (fun v hv => hlst (by omega)) (fun v hv w => ?_) (fun k f hk hf w => ?_) hN4 (ovn (by rw [← hsz]; exact hk)) (ovn (by rw [← hsz]; exact hf)) (ovn (by rw [← hsz]; exact hg)) p
     · have h1 := hfit (i := v) (by omega)
       have h2 : bse 3 v = 1#64 <<< v := rfl
       rw [h2] at h1
       have h3 : ∀ w,has (1#64 <<< v) w ↔ w = v := fun w => by
        rw [has,one_shl_get _ _ (by omega)]; simp
       have h4 : (1#64 <<< v) ≠ 0#64 := ne_of_has ((h3 v).2 rfl)
       rw [h1 h4]
       exact h3 w
     · rw [tabG_t (ovlt hk) (ovlt hf)]
       unfold entB
       rw [if_neg (by decide),if_neg (by decide),bv_self,bv_self,has_uni,hlen]
end Am
