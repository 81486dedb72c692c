/- What functions of the program compute: lemmas. -/
import Derived.Test.YtjicfdolcieliaaAt1
import Derived.Test.YtjicfdolcieliaaAm3
import Derived.Test.YtjicfdolcieliaaAm6
import Derived.Test.YtjicfdolcieliaaSb1
import Derived.Test.YtjicfdolcieliaaAm5
import Derived.RangeFuncBox
import Derived.RangeFuncLeaves
import Derived.Shelf.Abstract
import Derived.WalkKit
import Derived.OwnWalkIn
import Derived.TacticsInMore
import Derived.LoopNIn
import Derived.LoopIn
import Derived.Maps.AppendAt
import Derived.KernelRfl
import Derived.Test.YtjicfdolcieliaaProg
import Derived.ChangeKeysEq
import Derived.Shelf.SlicesE.Clone
set_option linter.unusedSimpArgs false
set_option linter.unusedVariables false
set_option linter.unusedSectionVars false
namespace Go.Proofs.Ytjicfdolcieliaa
open Go Go.Proofs Go.RowKit Go.Shelf Go.Sort
attribute [local go_sem] Oper.semAt_some
def upto {α : Type} (f : Nat → α) (k : Nat) : List α := (List.range k).map f
theorem upto_succ {α : Type} (f : Nat → α) (k : Nat) : upto f (k + 1) = upto f k ++ [f k] := by simp [upto,List.range_succ]
theorem upto_length {α : Type} (f : Nat → α) (k : Nat) : (upto f k).length = k := by simp [upto]
theorem upto_all (zs : List Int) : upto (fun j => zs[j]?.getD 0) zs.length = zs := by
 apply List.ext_getElem
 · simp [upto]
 · intro i h1 h2
   simp [upto,h2]
theorem upto_take (zs : List Int) {k : Nat} (hk : k ≤ zs.length) : upto (fun j => zs[j]?.getD 0) k = zs.take k := by
 apply List.ext_getElem
 · simp [upto,hk]
 · intro i h1 h2
   have : i < zs.length := by simp [upto] at h1; omega
   simp [upto,this]
set_option maxRecDepth 100000 in
set_option maxHeartbeats 2000000 in
theorem values1_in (F : Fence) (n : Nat) (h7 : F.fn 48) (hro : F.round = none) (hn : 1 ≤ n) (l Bs n₀ b off len cap : Nat) (zs : List Int) (hreach : len * 8 ≤ 140737488351232) (hb : b < n₀) (J Jx : List Int → World → Prop)
 (hY : ∀ pre x W,J pre W → pre.length < len → YieldAt F (n - 1) Try.prog l #[.int .i64 x] W fun e W' =>
  (e = .returned (.bool true) ∧ J (pre ++ [x]) W' ∧ Below n₀ W W') ∨ (e = .returned (.bool false) ∧ Jx (pre ++ [x]) W'))
 (W : World) (hBs : W.cell? ⟨Bs,0,none⟩ = some (.slice (some ⟨b,off,none⟩) len cap)) (hc : ∀ j,j < len → W.cell? ⟨b,off + j,none⟩ = some (.int .i64 (zs[j]?.getD 0))) (h0 : J [] W) :
 CallsIn F n Try.prog 48 #[.func (.yield l) #[] #[],.pointer (some ⟨Bs,0,none⟩)] W fun e W' => (∃ v,e = .returned v) ∧
  ((∃ ys,ys = upto (fun j => zs[j]?.getD 0) len ∧ J ys W') ∨ (∃ pre,(∃ k,k ≤ len ∧ pre = upto (fun j => zs[j]?.getD 0) k) ∧ Jx pre W')) := by
 refine callsIn_of_wp Try.func48 rfl h7 ?_ hro
 simp only [Try.ntmps48,List.size_toArray,List.length_cons,List.length_nil,Nat.reduceAdd,Nat.reduceSub,Array.replicate_succ,Array.replicate_zero,List.push_toArray,List.append_toArray,List.nil_append,List.cons_append]
 gi_wp2
 gi_loopw [7] (fun i wr => ∃ k : Nat,k ≤ len ∧ i = .int .i64 k ∧ J (upto (fun j => zs[j]?.getD 0) k) wr ∧ Below n₀ W wr)
  (fun i _ => len - (intOf i).toNat)
 case atStart => exact ⟨0,Nat.zero_le _,rfl,h0,Below.refl _ _⟩
 case round =>
  obtain ⟨k,hk,rfl,hJs,hnx⟩ := hrel
  have hcx : k < len → wr.cell? ⟨b,off + k,none⟩ = some (.int .i64 (zs[k]?.getD 0)) := fun h => (hnx.cell (p := ⟨b,off + k,none⟩) hb).trans (hc k h)
  by_cases hlt : k < len
  · obtain ⟨fn,tmps,assign,body,hy,hR⟩ := hY _ (zs[k]?.getD 0) wr hJs (by rw [upto_length]; exact hlt)
    have hcx' := hcx hlt
    gi_wp2
    refine hR.mono ?_
    rintro e W3 (⟨rfl,hJ3,hk3⟩ | ⟨rfl,hJx3⟩)
    · gi_wp2
      go_roundw
      case rel => exact ⟨k + 1,by omega,by simp,by rw [upto_succ]; exact hJ3,hnx.trans hk3⟩
      case measure => simp [intOf]; omega
    · gi_wp2
      refine bodyPost_ret (results_none rfl _ _ _) rfl ?_
      exact ⟨⟨_,rfl⟩,.inr ⟨_,⟨k + 1,by omega,(upto_succ _ _).symm⟩,hJx3⟩⟩
  · obtain rfl : k = len := by omega
    gi_wp2
    go_end0
    exact ⟨⟨_,rfl⟩,.inl ⟨_,rfl,hJs⟩⟩
def IntsAt (n₀ : Nat) (W : World) (sv : Value) (zs : List Int) : Prop :=
 ((∃ p cap,sv = .slice p 0 cap) ∧ zs = []) ∨ ∃ b off cap,sv = .slice (some ⟨b,off,none⟩) zs.length cap ∧ b < n₀ ∧ ∀ j,j < zs.length → W.cell? ⟨b,off + j,none⟩ = some (.int .i64 (zs[j]?.getD 0))
theorem IntsAt.below {n₀ : Nat} {A B : World} (h : Below n₀ A B) {sv : Value} {zs : List Int} : IntsAt n₀ A sv zs → IntsAt n₀ B sv zs
 | .inl e => .inl e
 | .inr ⟨b,off,cap,e,hb,hc⟩ => .inr ⟨b,off,cap,e,hb,fun j hj => (h.cell (p := ⟨b,off + j,none⟩) hb).trans (hc j hj)⟩
set_option maxRecDepth 100000 in
set_option maxHeartbeats 1000000 in
theorem values1_nil_in (F : Fence) (n : Nat) (h7 : F.fn 48) (hro : F.round = none) (l Bs : Nat) (p : Option Addr) (cap : Nat) (J : List Int → World → Prop) (W : World) (hBs : W.cell? ⟨Bs,0,none⟩ = some (.slice p 0 cap)) (h0 : J [] W) :
 CallsIn F n Try.prog 48 #[.func (.yield l) #[] #[],.pointer (some ⟨Bs,0,none⟩)] W fun e W' => (∃ v,e = .returned v) ∧ J [] W' := by
 refine callsIn_of_wp Try.func48 rfl h7 ?_ hro
 simp only [Try.ntmps48,List.size_toArray,List.length_cons,List.length_nil,Nat.reduceAdd,Nat.reduceSub,Array.replicate_succ,Array.replicate_zero,List.push_toArray,List.append_toArray,List.nil_append,List.cons_append]
 gi_wp2
 gi_loopw [7] (fun i wr => i = .int .i64 0 ∧ J [] wr) (fun _ _ => 0)
 case atStart => exact ⟨rfl,h0⟩
 case round =>
  obtain ⟨rfl,hJs⟩ := hrel
  gi_wp2
  go_end0
  exact ⟨⟨_,rfl⟩,hJs⟩
set_option maxHeartbeats 1000000 in
theorem values_in (F : Fence) (n : Nat) (h5 : F.fn 28) (hro : F.round = none) (a : Option Addr) (len cap : Nat) (w : World) :
 CallsIn F n Try.prog 28 #[.slice a len cap] w fun e w' => e = .returned (.func (.func 48) #[] #[.pointer (some ⟨w.heap.size,0,none⟩)]) ∧ w' = w.alloc (.cells #[.slice a len cap] 22) := by
 refine callsIn_of_wp Try.func28 rfl h5 ?_ hro
 simp only [Try.ntmps28,List.size_toArray,List.length_cons,List.length_nil,Nat.reduceAdd,Nat.reduceSub,Array.replicate_succ,Array.replicate_zero,List.push_toArray,List.append_toArray,List.nil_append,List.cons_append]
 gi_wp2
 go_ret
 exact ⟨rfl,rfl⟩
theorem values_stops (F : Fence) (n : Nat) (h7 : F.fn 48) (hro : F.round = none) (hn : 1 ≤ n) (Bs n₀ : Nat) (sv : Value) (zs : List Int) (hreach : zs.length * 8 ≤ 140737488351232) (w : World) (hBs : Bs < w.heap.size) (hn₀ : n₀ ≤ w.heap.size)
 (hc : w.cell? ⟨Bs,0,none⟩ = some sv) (hI : IntsAt n₀ w sv zs) :
 SeqStopsK F n Try.prog 48 #[.pointer (some ⟨Bs,0,none⟩)] (fun x : Int => #[Value.int .i64 x]) (Below n₀) (fun ys => ys = zs) (fun pre => pre <+: zs) zs.length w := fun l J Jx W hW _ _ hY h0 => by
 have hc' := (hW.cell (p := ⟨Bs,0,none⟩) hBs).trans hc
 rcases hI.below (hW.mono hn₀) with ⟨⟨p,cap,rfl⟩,rfl⟩ | ⟨b,off,cap,rfl,hb,hcs⟩
 · exact (values1_nil_in F n h7 hro l Bs p cap J W hc' h0).mono fun e W' ⟨he,hj⟩ => ⟨he,.inl ⟨_,rfl,hj⟩⟩
 · refine (values1_in F n h7 hro hn l Bs n₀ b off zs.length cap zs hreach hb J Jx hY W hc' hcs h0).mono ?_
   rintro e W' ⟨he,⟨ys,rfl,hj⟩ | ⟨pre,⟨k,hk,rfl⟩,hj⟩⟩
   · exact ⟨he,.inl ⟨_,upto_all zs,hj⟩⟩
   · exact ⟨he,.inr ⟨_,by rw [upto_take zs hk]; exact List.take_prefix _ _,hj⟩⟩
theorem infoInt : (Try.prog.info? 3).map (fun i => (i.zero,i.size,i.bytes)) = some (some (.int .i64 0),1,8) := by kernel_rfl
set_option maxRecDepth 100000 in
set_option maxHeartbeats 2000000 in
theorem appendSeq_in (F : Fence) (n : Nat) (h3 : F.fn 53) (h5 : F.fn 48) (hro : F.round = none) (hn : 3 ≤ n) (Bv : Nat) (sv : Value) (xs : List Int) (hbytes : xs.length * 8 ≤ 140737488351232) (w : World)
 (hBv : Bv < w.heap.size) (hcv : w.cell? ⟨Bv,0,none⟩ = some sv) (hL : IntsAt w.heap.size w sv xs) :
 CallsIn F n Try.prog 53 #[.slice none 0 0,.func (.func 48) #[] #[.pointer (some ⟨Bv,0,none⟩)]] w fun e W' => ∃ v,e = .returned v ∧ W'.ownsRow w.heap.size 3 1 v xs.length (xs.map (Value.int .i64)) ∧ (v = .slice none 0 0 ↔ xs = []) ∧ Below w.heap.size w W' := by
 have h1 : 1 ≤ n := by omega
 obtain ⟨i0,hi,hz0,hz1,hz2⟩ := info_parts infoInt
 refine callsIn_of_wp_marks Try.func53 rfl h3 ?_ hro
 simp only [Try.ntmps53,List.size_toArray,List.length_cons,List.length_nil,Nat.reduceAdd,Nat.reduceSub,Array.replicate_succ,Array.replicate_zero,List.push_toArray,List.append_toArray,List.nil_append,List.cons_append]
 gi_wp2
 have bO := Boxed.new w 22 (.slice none 0 0)
 have hB0 : Below w.heap.size w (w.alloc (.cells #[.slice none 0 0] 22)) := (Below.refl _ w).alloc (Nat.le_refl _) _
 refine wpIn_rangeFunc_ownG hro h1 (gf := 48) (lb := #[.pointer (some ⟨Bv,0,none⟩)]) rfl h5 (enters_of Try.func48 (by kernel_rfl) rfl)
  (values_stops F (n - 1) h5 hro (by omega) Bv w.heap.size sv xs hbytes _ (by simp; omega) (by simp) ((hB0.cell (p := ⟨Bv,0,none⟩) hBv).trans hcv) (hL.below hB0)) belowK_t (belowK_b (by simp)) (Below.refl _ _) (fun _ => rfl)
  (fun pre W => (∃ v,Boxed W w.heap.size 22 v ∧ W.ownsRow w.heap.size 3 1 v pre.length (pre.map (Value.int .i64)) ∧ (v = .slice none 0 0 ↔ pre = [])) ∧ Below w.heap.size w W)
  (fun _ _ _ => False)
  (OwnFrom.and (Own.from (holdsRow_own w.heap.size w.heap.size 22 3 1 (fun pre => pre.length) (fun pre => pre.map (Value.int .i64)) (fun pre v => v = .slice none 0 0 ↔ pre = [])) _) (ownFrom_below (Nat.le_refl _) (by simp)))
  (fun _ _ _ _ _ hs _ _ => hs)
  ⟨⟨_,bO,World.ownsRow_nil _ _ _ _,by simp⟩,hB0⟩
  (fun x => { tmps := #[.slice none 0 0,.func (.func 48) #[] #[.pointer (some ⟨Bv,0,none⟩)],.pointer (some ⟨w.heap.size,0,none⟩),undef,.slice none 0 0,.int .i64 x,.func (.func 48) #[] #[.pointer (some ⟨Bv,0,none⟩)],.int .i64 x,undef,undef,undef,undef,undef],defers := [] }) ?assign ?body ?done ?stop
 case assign =>
  intro l x W K hK
  gi_wp2
  exact hK
 case body =>
  rintro l pre x W ⟨⟨v,hv,hrow,hnil⟩,hB⟩ hlt
  have hc := hv.cell
  gi_wp2_with (gi_at_builtin; refine wpListIn_append_own _ rfl _ _ 22 rfl w.heap.size 3 i0 (.int .i64 0) 1 8 Try.underlying22 hi hz0 hz1 hz2 rfl (by decide) _ _ _ rfl (hrow.alloc _) ⟨W.heap.size,0,none⟩ 1 1 [.int .i64 x] rfl rfl (cell_one_new _ _ _) (by simp [Value.oneCell']) (by unfold maxLen; omega) (by omega) (by have := hB.size; simp; omega) ?_; intro v' w1 hown' hgrow _; obtain ⟨g',cap',rfl⟩ := ownsRow_succ hown'; obtain ⟨hv1,hv2,hr2,hk2,hb2⟩ := hv.appended (by decide) hrow hB.size (Nat.le_refl _) hown' hgrow; have hc1 := hv1.cell; have hf1 := hv1.frozen)
  exact ⟨hk2.from _,hb2,⟨_,hv2,by simpa using hr2,by simp⟩,hB.trans hb2⟩
 case done =>
  rintro D ys W hD rfl ⟨⟨v,hv,hrow,hnil⟩,hB⟩ hK
  have hc := hv.cell
  gi_wp2
  refine ⟨by simp,.inl ⟨_,_,rfl,run_takeDeferred hK,?_⟩⟩
  exact ⟨_,results_tmp rfl _ _ _,v,rfl,ownsRow_putObj hrow _ hK rfl,hnil,hB.trans (belowK_b (w := w) (Nat.le_refl _) W D _ _ (by simp at hD; omega) hK rfl rfl)⟩
 case stop =>
  rintro D c pre W _ _ h _
  exact h.elim
end Go.Proofs.Ytjicfdolcieliaa

namespace Go.Proofs.Ytjicfdolcieliaa
open Go Am Go.Proofs Go.RowKit Go.Sort
attribute [local go_sem] Oper.semAt_some
set_option maxRecDepth 100000
variable {G : Glob}
set_option maxHeartbeats 1000000 in
theorem collect_in (F : Fence) (n : Nat) (h8 : F.fn 46) (h11 : F.fn 53) (h5 : F.fn 48) (hro : F.round = none) (hn : 4 ≤ n) (Bv : Nat) (sv : Value) (xs : List Int) (hbytes : xs.length * 8 ≤ 140737488351232) (w : World)
 (hBv : Bv < w.heap.size) (hcv : w.cell? ⟨Bv,0,none⟩ = some sv) (hL : IntsAt w.heap.size w sv xs) :
 CallsIn F n Try.prog 46 #[.func (.func 48) #[] #[.pointer (some ⟨Bv,0,none⟩)]] w fun e W' => ∃ v,e = .returned v ∧ W'.ownsRow w.heap.size 3 1 v xs.length (xs.map (Value.int .i64)) ∧ (v = .slice none 0 0 ↔ xs = []) ∧ Below w.heap.size w W' := by
 have h1 : 1 ≤ n := by omega
 refine callsIn_of_wp Try.func46 rfl h8 ?_ hro
 simp only [Try.ntmps46,List.size_toArray,List.length_cons,List.length_nil,Nat.reduceAdd,Nat.reduceSub,Array.replicate_succ,Array.replicate_zero,List.push_toArray,List.append_toArray,List.nil_append,List.cons_append]
 gi_wp2_with (gi_at_call 53; refine (appendSeq_in F (n - 1) h11 h5 hro (by omega) Bv sv xs hbytes _ hBv hcv hL).mono ?_; rintro e w' ⟨v,rfl,hrow,hnil,hb⟩)
 go_ret
 exact ⟨v,rfl,hrow,hnil,hb⟩
def boxB (xs : List Int) : Blk := { fz := false,ap := false,ty := 22,sz := 1,rows := [[.d (numsD xs)]] }
def intB (fz : Bool) (xs : List Int) : Blk := rowB fz 3 (D.int .i64) xs
theorem hOf_0 (b : Blk) : updH (hOf []) 0 b = hOf [b] := by
 funext x
 cases x with
 | zero => rfl
 | succ x => simp [updH,hOf]
theorem hOf_1 (a b : Blk) : updH (hOf [a]) 1 b = hOf [a,b] := by
 funext x
 match x with
 | 0 => rfl
 | 1 => rfl
 | x + 2 => simp [updH,hOf]
theorem rep_ints {w : World} {C : Com} {xs : List Int} {v : Value} (hcom : ∀ r o,C r o → r < w.heap.size) (h : RepD w C (numsD xs) v) : (∃ a len cap,v = .slice a len cap) ∧ IntsAt w.heap.size w v xs := by
 unfold numsD at h
 generalize hys : xs.map numR = ys at h
 cases h with
 | nil =>
  have : xs = [] := List.map_eq_nil_iff.1 hys
  subst this
  exact ⟨⟨_,_,_,rfl⟩,.inl ⟨⟨none,0,rfl⟩,rfl⟩⟩
 | nilA a =>
  have : xs = [] := List.map_eq_nil_iff.1 hys
  subst this
  exact ⟨⟨_,_,_,rfl⟩,.inl ⟨⟨some a,0,rfl⟩,rfl⟩⟩
 | sl _ r o cap sz vs hcap hsz hC hcell hrec =>
  subst hys
  refine ⟨⟨_,_,_,rfl⟩,?_⟩
  by_cases h0 : xs = []
  · subst h0; exact .inl ⟨⟨_,cap,rfl⟩,rfl⟩
  · have hpos : 0 < (xs.map numR).length := by
     cases xs with
     | nil => exact absurd rfl h0
     | cons a l => simp
    have hs1 : sz = 1 := by
     have := hsz 0 hpos
     simp [numR] at this
     exact this.symm
    subst hs1
    refine .inr ⟨r,o,cap,by simp,hcom r _ (hC 0 0 hpos (by omega)),fun j hj => ?_⟩
    have hj' : j < (xs.map numR).length := by simpa using hj
    have hc := (hcell j 0 hj' (by omega)).1
    have hr := hrec j 0 hj' (by simp [numR])
    simp only [List.getElem_map,numR,List.getElem_cons_zero] at hr
    generalize vs j 0 = u at hr hc
    have : u = .int .i64 xs[j] := by cases hr; rfl
    rw [this] at hc
    simpa [hj] using hc
theorem values_body : Body Try.prog 28 := ⟨Try.f28,Try.func28,by kernel_rfl,by kernel_rfl⟩
theorem collect_body : Body Try.prog 46 := ⟨Try.f46,Try.func46,by kernel_rfl,by kernel_rfl⟩
theorem sortI_body : Body Try.prog 47 := ⟨Try.f47,Try.func47,by kernel_rfl,by kernel_rfl⟩
theorem compactI_body : Body Try.prog 26 := ⟨Try.f26,Try.func26,by kernel_rfl,by kernel_rfl⟩
theorem values_cc (xs : List Int) : CC Try.prog G 28 [] [.d (numsD xs)] [boxB xs] (.clo (.func 48) [] [.ptr 0 1 0 0]) := by
 refine ⟨values_body,fun w C ρ vs hR hG hv => ?_⟩
 obtain ⟨hlen,hv⟩ := hv
 obtain ⟨v,rfl⟩ : ∃ v,vs = [v] := by
  match vs,hlen with
  | [v],_ => exact ⟨v,rfl⟩
 have hp := hv 0 (by simp) (by simp)
 simp only [List.getElem_cons_zero] at hp
 have hd : RepD w C (numsD xs) v := by cases hp; assumption
 obtain ⟨⟨a,len,cap,rfl⟩,_⟩ := rep_ints (fun r o hc => hR.com_lt hc) hd
 refine (callsIn_wide.1 (values_in Fence.wide 5 trivial rfl a len cap w)).mono ?_
 rintro e w' ⟨rfl,rfl⟩
 have hold : ∀ blk0,hOf [] 0 = some blk0 → (boxB xs).sz = blk0.sz ∧ blk0.rows.length < (boxB xs).rows.length := fun blk0 h => by simp [hOf] at h
 have hf : Fits w C ρ (hOf []) (boxB xs) #[.slice a len cap] := by
  refine ⟨by simp [boxB],fun i h => ?_,fun i j hi hj => ?_⟩
  · have hi : i = 0 := by simp [boxB] at h; omega
    subst hi; rfl
  · have hi0 : i = 0 := by simp [boxB] at hi; omega
    subst hi0
    have hj0 : j = 0 := by simp [boxB] at hj; omega
    subst hj0
    exact ⟨_,by simp [boxB],rfl,.d _ _ hd⟩
 have k1 := relH_new hR hold hf rfl
 have k2 := ext_new (cs := #[.slice a len cap]) hR hold
 rw [hOf_0] at k1 k2
 refine ⟨_,C,_,rfl,k1,k2,.clo _ [] [.ptr 0 1 0 0] [] [.pointer (some ⟨w.heap.size,0,none⟩)] rfl rfl (fun i h => by simp at h) fun i h h' => ?_⟩
 have hi0 : i = 0 := by simp at h; omega
 subst hi0
 exact .ptr 0 1 0 0 _ (boxB xs) rfl (Nat.le_refl _) rfl fun _ => ⟨w.heap.size,1,by rw [rhoSet_same]; rfl,rfl⟩
theorem collect_cc (xs : List Int) (hx : xs.length < 1000000000) : CC Try.prog G 46 [boxB xs] [.clo (.func 48) [] [.ptr 0 1 0 0]] [boxB xs,intB false xs] (.own 1 xs.length 0 xs.length) := by
 refine ⟨collect_body,fun w C ρ vs hR hG hv => ?_⟩
 obtain ⟨hlen,hv⟩ := hv
 obtain ⟨v,rfl⟩ : ∃ v,vs = [v] := by
  match vs,hlen with
  | [v],_ => exact ⟨v,rfl⟩
 have hp := hv 0 (by simp) (by simp)
 simp only [List.getElem_cons_zero] at hp
 have hb0 : hOf [boxB xs] 0 = some (boxB xs) := rfl
 obtain ⟨r0,hr0,rfl⟩ : ∃ r0,(∃ s,ρ 0 = some (r0,s)) ∧ v = .func (.func 48) #[] #[.pointer (some ⟨r0,0,none⟩)] := by
  cases hp with
  | clo _ _ _ fv cv hf hc h1 h2 =>
   have : fv = [] := List.eq_nil_of_length_eq_zero hf.symm
   subst this
   obtain ⟨p,rfl⟩ : ∃ p,cv = [p] := by
    match cv,hc with
    | [p],_ => exact ⟨p,rfl⟩
   have hq := h2 0 (by simp) (by simp)
   simp only [List.getElem_cons_zero] at hq
   cases hq with
   | ptr _ _ _ _ _ blk hb hn h1 h =>
    obtain rfl : boxB xs = blk := by simpa [hOf] using hb
    obtain ⟨r,s,h3,rfl⟩ := h rfl
    exact ⟨r,⟨s,h3⟩,by simp⟩
 obtain ⟨s,hr0⟩ := hr0
 have hbk := hR.blk 0 _ hb0
 unfold BlkOK at hbk
 rw [hr0] at hbk
 obtain ⟨⟨cs,lo,hi,m1,m2,m3,m4,m5,m6,m7⟩,n1,n2⟩ := hbk
 obtain ⟨sv,v1,v2,v3⟩ := m7 0 0 (by simp [boxB]) (by simp [boxB])
 simp only [boxB,List.getElem_cons_zero,Nat.zero_mul,Nat.add_zero] at v1 v3
 have hd : RepD w C (numsD xs) sv := by cases v3; assumption
 obtain ⟨_,hI⟩ := rep_ints (fun r o hc => hR.com_lt hc) hd
 have hcell : w.cell? ⟨r0,0,none⟩ = some sv := by rw [cell_eq,m1]; exact v1
 have hlt : r0 < w.heap.size := (Array.getElem?_eq_some_iff.1 m1).1
 refine (callsIn_wide.1 (collect_in Fence.wide 5 trivial trivial trivial rfl (by omega) r0 sv xs (by omega) w hlt hcell hI)).mono ?_
 rintro e w' ⟨v,rfl,hrow,hnil,hb⟩
 have hid : hOf [boxB xs] 1 = none := rfl
 rcases hrow.2 with ⟨rfl,hz⟩ | ⟨g,cap,cur,rfl,hbase,hgb,h1,h2,h3,h4⟩
 · have hx0 : xs = [] := List.eq_nil_of_length_eq_zero hz
   obtain ⟨k1,k2⟩ := relH_none (blk := intB false xs) hR hb hid (by rw [hx0]; rfl) rfl
   rw [hOf_1] at k1 k2
   refine ⟨_,C,_,rfl,k1,k2,?_⟩
   rw [hx0]
   exact .own 1 0 0 0 _ (intB false []) (by rw [← hx0]; rfl) (Nat.le_refl _) rfl fun _ => .inr ⟨if_pos rfl,rfl,rfl,rfl⟩
 · have hsz : cur.size = cap := by rw [h3,Nat.mul_one]
   have hcur : ∀ j (hj : j < xs.length),cur[j]? = some (.int .i64 xs[j]) := fun j hj => by
    have : (cur.toList.take (xs.length * 1))[j]? = (xs.map (Value.int .i64))[j]? := by rw [h4]
    rw [Nat.mul_one,List.getElem?_take] at this
    simpa [hj] using this
   have hf : Fits w' C ρ (hOf [boxB xs]) (intB false xs) cur := by
    refine ⟨by simp [intB,rowB]; omega,fun i h => by simp [intB,rowB],fun i j hi hj => ?_⟩
    have hi' : i < xs.length := by simpa [intB,rowB] using hi
    have hj0 : j = 0 := by simp [intB,rowB] at hj; omega
    subst hj0
    refine ⟨.int .i64 xs[i],by simpa [intB,rowB] using hcur i hi',rfl,?_⟩
    simp only [intB,rowB,List.getElem_map,List.getElem_cons_zero]
    exact .d _ _ (.int _ _)
   have k1 := relH_add (blk := intB false xs) hR hb hid hbase hgb hf rfl
   have k2 := ext_add (cs := cur) (blk := intB false xs) hR hb hid hbase
   rw [hOf_1] at k1 k2
   refine ⟨_,C,_,rfl,k1,k2,?_⟩
   exact .own 1 _ 0 _ _ (intB false xs) rfl (by simp [intB,rowB]) rfl fun _ => .inl ⟨g,cur.size,cap,by rw [rhoSet_same],by simp,h1,by simp [intB,rowB]; omega,by omega⟩
theorem encI_ok : EncOK (Value.int .i64) (D.int .i64) := ⟨fun w C x => .int _ x,fun x => rfl,fun w C x v h => by cases h; rfl⟩
theorem sortI_cc (l : List Int) (hl : l.length < 4611686018427387904) : CC Try.prog G 47 [intB false l] [.own 0 l.length 0 l.length] [intB false (sortI l)] (.tup []) :=
 turn_cc (enc := Value.int .i64) (dE := D.int .i64) (ty := 3) (g := sortI) encI_ok sortI_body sortI_len (fun blk cap l w h1 h2 h3 => Try.slices_Sort_int blk 0 cap l w h1 h2 h3) (fun p cap w => Try.slices_Sort_int_none p cap w) l hl
theorem compactI_len (l : List Int) : (Lib.compact l).length ≤ l.length := by
 unfold Lib.compact Lib.compactUpTo
 rw [List.length_map]
 refine Nat.le_trans (List.length_filter_le _ _) (by simp)
def tailI (l : List Int) : List Int := Lib.compact l ++ List.replicate (l.length - (Lib.compact l).length) 0
theorem compactI_cc (l : List Int) (hl : l.length < 4611686018427387904) : CC Try.prog G 26 [intB false l] [.own 0 l.length 0 l.length] [intB true (tailI l)] (.d (numsD (Lib.compact l))) := by
 have h := front_cc (G := G) (enc := Value.int .i64) (dE := D.int .i64) (ty := 3) encI_ok compactI_body (g := tailI) (k := fun l => (Lib.compact l).length)
  (fun l => by have := compactI_len l; simp [tailI]; omega) (fun l => compactI_len l) (fun blk cap l w h1 h2 h3 => Try.slices_Compact_int blk 0 cap l w h1 h2 h3) (fun p cap w => Try.slices_Compact_int_empty p cap w) l hl
 have ht : (tailI l).take (Lib.compact l).length = Lib.compact l := by simp [tailI]
 simp only [ht] at h
 exact h
end Go.Proofs.Ytjicfdolcieliaa

namespace Go.Proofs.Ytjicfdolcieliaa
open Go Am Go.Proofs Go.RowKit Go.Sort
set_option maxRecDepth 100000
variable {G : Glob}
def unI : List (List D) → Option (List Int)
 | [] => some []
 | [.int .i64 n] :: r => (unI r).map (n :: ·)
 | _ => none
def unNums : D → Option (List Int)
 | .sl xs => unI xs
 | _ => none
theorem unI_ok : ∀ {xs : List (List D)} {l : List Int},unI xs = some l → xs = l.map numR
 | [],l,h => by simp [unI] at h; subst h; rfl
 | r :: xs,l,h => by
  unfold unI at h
  split at h
  · rename_i h0; simp at h0
  · rename_i n r' h0
    simp only [List.cons.injEq] at h0
    obtain ⟨rfl,rfl⟩ := h0
    obtain ⟨l',h1,rfl⟩ := Option.map_eq_some_iff.1 h
    rw [unI_ok h1]; rfl
  · simp at h
theorem unNums_ok {d : D} {l : List Int} (h : unNums d = some l) : d = numsD l := by
 unfold unNums at h
 split at h
 · rw [unI_ok h]; rfl
 · simp at h
theorem unI_num : ∀ l : List Int,unI (l.map numR) = some l
 | [] => rfl
 | n :: l => by simp only [List.map_cons,numR,unI]; rw [unI_num l]; rfl
theorem unNums_num (l : List Int) : unNums (numsD l) = some l := unI_num l
def unSt : List (List D) → Option (List (List UInt8))
 | [] => some []
 | [.str n] :: r => (unSt r).map (n :: ·)
 | _ => none
def unStrs : D → Option (List (List UInt8))
 | .sl xs => unSt xs
 | _ => none
theorem unSt_ok : ∀ {xs : List (List D)} {l : List (List UInt8)},unSt xs = some l → xs = l.map strR
 | [],l,h => by simp [unSt] at h; subst h; rfl
 | r :: xs,l,h => by
  unfold unSt at h
  split at h
  · rename_i h0; simp at h0
  · rename_i n r' h0
    simp only [List.cons.injEq] at h0
    obtain ⟨rfl,rfl⟩ := h0
    obtain ⟨l',h1,rfl⟩ := Option.map_eq_some_iff.1 h
    rw [unSt_ok h1]; rfl
  · simp at h
theorem unStrs_ok {d : D} {l : List (List UInt8)} (h : unStrs d = some l) : d = strsD l := by
 unfold unStrs at h
 split at h
 · rw [unSt_ok h]; rfl
 · simp at h
theorem unSt_str : ∀ l : List (List UInt8),unSt (l.map strR) = some l
 | [] => rfl
 | n :: l => by simp only [List.map_cons,strR,unSt]; rw [unSt_str l]; rfl
theorem unStrs_str (l : List (List UInt8)) : unStrs (strsD l) = some l := unSt_str l
theorem numsD_wf (l : List Int) : D.WF (numsD l) := .sl _ fun r hr c hc => by
 simp only [List.mem_map] at hr
 obtain ⟨s,_,rfl⟩ := hr
 simp only [numR,List.mem_singleton] at hc; subst hc; exact .int _ s
theorem strsD_wf1 (l : List (List UInt8)) : D.WF (strsD l) := .sl _ fun r hr c hc => by
 simp only [List.mem_map] at hr
 obtain ⟨s,_,rfl⟩ := hr
 simp only [strR,List.mem_singleton] at hc; subst hc; exact .str s
def fun1 (k : List Int → Option (List D)) : PF := fun a => match a with
 | [d] => match unNums d with | some l => k l | none => none
 | _ => none
theorem fun1_some {k : List Int → Option (List D)} {a o : List D} (h : fun1 k a = some o) : ∃ l,a = [numsD l] ∧ k l = some o := by
 unfold fun1 at h
 split at h
 · rename_i d
   split at h
   · rename_i l hl; exact ⟨l,by rw [unNums_ok hl],h⟩
   · simp at h
 · simp at h
theorem fun1_run (k : List Int → Option (List D)) (l : List Int) : fun1 k [numsD l] = k l := by
 unfold fun1
 simp only [unNums_num]
def valuesE : PF := fun1 fun l => some [numsD l]
def collectE : PF := fun1 fun l => if l.length < 1000000000 then some [numsD l,numsD l] else none
def sortE : PF := fun1 fun l => if l.length < 1000000000 then some [numsD (sortI l)] else none
def compactE : PF := fun1 fun l => if l.length < 1000000000 then some [numsD (Lib.compact l),numsD (tailI l)] else none
def cloneE : PF := fun a => match a with
 | [d] => match unStrs d with | some l => if l.length < 1000000000 then some [strsD l] else none | none => none
 | _ => none
theorem cloneE_some {a o : List D} (h : cloneE a = some o) : ∃ l,a = [strsD l] ∧ l.length < 1000000000 ∧ o = [strsD l] := by
 unfold cloneE at h
 split at h
 · rename_i d
   split at h
   · rename_i l hl
     split at h
     · rename_i hc; exact ⟨l,by rw [unStrs_ok hl],hc,(Option.some.inj h).symm⟩
     · simp at h
   · simp at h
 · simp at h
theorem valuesE_wf {a o : List D} (h : valuesE a = some o) : EWF o := by
 obtain ⟨l,rfl,hk⟩ := fun1_some h
 clear h
 simp only [Option.some.injEq] at hk; subst hk
 intro d hd; simp only [List.mem_singleton] at hd; subst hd; exact numsD_wf _
theorem collectE_wf {a o : List D} (h : collectE a = some o) : EWF o := by
 obtain ⟨l,rfl,hk⟩ := fun1_some h
 clear h
 split at hk
 · simp only [Option.some.injEq] at hk; subst hk
   intro d hd; simp only [List.mem_cons,List.not_mem_nil,or_false] at hd; rcases hd with rfl | rfl <;> exact numsD_wf _
 · simp at hk
theorem sortE_wf {a o : List D} (h : sortE a = some o) : EWF o := by
 obtain ⟨l,rfl,hk⟩ := fun1_some h
 clear h
 split at hk
 · simp only [Option.some.injEq] at hk; subst hk
   intro d hd; simp only [List.mem_singleton] at hd; subst hd; exact numsD_wf _
 · simp at hk
theorem compactE_wf {a o : List D} (h : compactE a = some o) : EWF o := by
 obtain ⟨l,rfl,hk⟩ := fun1_some h
 clear h
 split at hk
 · simp only [Option.some.injEq] at hk; subst hk
   intro d hd; simp only [List.mem_cons,List.not_mem_nil,or_false] at hd; rcases hd with rfl | rfl <;> exact numsD_wf _
 · simp at hk
theorem cloneE_wf {a o : List D} (h : cloneE a = some o) : EWF o := by
 obtain ⟨l,rfl,_,rfl⟩ := cloneE_some h
 intro d hd; simp only [List.mem_singleton] at hd; subst hd; exact strsD_wf1 _
theorem rowsI (xs : List Int) : (xs.map numR).map (List.map AV.d) = xs.map fun x => [AV.d (.int .i64 x)] := by simp [numR,Function.comp_def]
theorem rowsS (xs : List (List UInt8)) : (xs.map strR).map (List.map AV.d) = xs.map fun x => [AV.d (.str x)] := by simp [strR,Function.comp_def]
theorem compI : ((fun x => List.map AV.d x) ∘ numR) = fun x => [AV.d (D.int .i64 x)] := rfl
theorem compS : ((fun x => List.map AV.d x) ∘ strR) = fun x => [AV.d (D.str x)] := rfl
theorem valuesE_sig : SigOK Try.prog G valuesE sg23 := by
 intro ins outs hwf hl hsl hr hno
 have hw := valuesE_wf hr
 obtain ⟨l,rfl,h⟩ := fun1_some hr
 simp only [Option.some.injEq] at h; subst h
 exact ⟨hw,values_cc l,fun i hi => by simp [sg23,inL] at hi⟩
theorem collectE_sig : SigOK Try.prog G collectE sg42 := by
 intro ins outs hwf hl hsl hr hno
 have hw := collectE_wf hr
 obtain ⟨l,rfl,h⟩ := fun1_some hr
 split at h
 · rename_i hx
   simp only [Option.some.injEq] at h; subst h
   refine ⟨hw,?_,fun i hi => by simp [sg42,inL] at hi⟩
   have := collect_cc (G := G) l hx
   simpa [sg42,hIn,SB.inst,SB.rows,SA.val,numsD,D.rows,rowsI,compI,intB,boxB,rowB,SV.instL,SV.inst,lnL,lnOf,getB,SB.len] using this
 · simp at h
theorem sortE_sig : SigOK Try.prog G sortE sg43 := by
 intro ins outs hwf hl hsl hr hno
 have hw := sortE_wf hr
 obtain ⟨l,rfl,h⟩ := fun1_some hr
 split at h
 · rename_i hx
   simp only [Option.some.injEq] at h; subst h
   have hk : ∀ i,lnL [numsD (sortI l)] sg43.Hout i = lnL [numsD l] sg43.Hin i := fun i => by
    have := sortI_len l
    cases i with
    | zero => simpa [sg43,lnL,lnOf,getB,SB.len,SA.val,numsD,D.rows] using this
    | succ i => simp [sg43,lnL,lnOf,getB]
   refine ⟨hw,?_,fun i _ => hk i⟩
   have := sortI_cc (G := G) l (by omega)
   simpa [sg43,hIn,SB.inst,SB.rows,SA.val,numsD,D.rows,rowsI,compI,intB,boxB,rowB,SV.instL,SV.inst,lnL,lnOf,getB,SB.len] using this
 · simp at h
theorem compactE_sig : SigOK Try.prog G compactE sg25 := by
 intro ins outs hwf hl hsl hr hno
 have hw := compactE_wf hr
 obtain ⟨l,rfl,h⟩ := fun1_some hr
 split at h
 · rename_i hx
   simp only [Option.some.injEq] at h; subst h
   refine ⟨hw,?_,fun i hi => by simp [sg25,inL] at hi⟩
   have := compactI_cc (G := G) l (by omega)
   simpa [sg25,hIn,SB.inst,SB.rows,SA.val,numsD,D.rows,rowsI,compI,intB,boxB,rowB,SV.instL,SV.inst,lnL,lnOf,getB,SB.len] using this
 · simp at h
theorem rep_strs {w : World} {C : Com} {xs : List (List UInt8)} {v : Value} (h : RepD w C (strsD xs) v) : (xs = [] ∧ v = .slice none 0 0) ∨ (xs = [] ∧ ∃ a cap,v = .slice (some a) 0 cap) ∨ (xs ≠ [] ∧ ∃ r o cap,v = .slice (some ⟨r,o,none⟩) xs.length cap ∧ ∀ j (hj : j < xs.length),w.cell? ⟨r,o + j,none⟩ = some (.string ⟨⟨xs[j]⟩⟩)) := by
 unfold strsD at h
 generalize hys : xs.map strR = ys at h
 cases h with
 | nil => exact .inl ⟨List.map_eq_nil_iff.1 hys,rfl⟩
 | nilA a => exact .inr (.inl ⟨List.map_eq_nil_iff.1 hys,a,0,rfl⟩)
 | sl _ r o cap sz vs hcap hsz hC hcell hrec =>
  subst hys
  by_cases h0 : xs = []
  · subst h0; exact .inr (.inl ⟨rfl,_,cap,rfl⟩)
  · have hpos : 0 < (xs.map strR).length := by
     cases xs with
     | nil => exact absurd rfl h0
     | cons a l => simp
    have hs1 : sz = 1 := by
     have := hsz 0 hpos
     simp [strR] at this
     exact this.symm
    subst hs1
    refine .inr (.inr ⟨h0,r,o,cap,by simp,fun j hj => ?_⟩)
    have hj' : j < (xs.map strR).length := by simpa using hj
    have hc := (hcell j 0 hj' (by omega)).1
    have hr := hrec j 0 hj' (by simp [strR])
    simp only [List.getElem_map,strR,List.getElem_cons_zero] at hr
    generalize vs j 0 = u at hr hc
    have : u = .string ⟨⟨xs[j]⟩⟩ := by cases hr; rfl
    rw [this] at hc
    simpa using hc
theorem clone_body : Body Try.prog 29 := ⟨Try.f29,Try.func29,by kernel_rfl,by kernel_rfl⟩
def strB (xs : List (List UInt8)) : Blk := rowB false 9 D.str xs
theorem strs_own {w w' : World} {C : Com} {ρ : Rho} (hR : RelH w C ρ (hOf [])) {xs : List (List UInt8)} {v : Value} (hrow : w'.ownsRow w.heap.size 9 1 v xs.length (xs.map fun s => Value.string ⟨⟨s⟩⟩)) (hb : Below w.heap.size w w') :
 ∃ C' ρ',RelH w' C' ρ' (hOf [strB xs]) ∧ Ext w C ρ (hOf []) w' C' ρ' (hOf [strB xs]) ∧ RepA w' C' ρ' (hOf [strB xs]) (.own 0 xs.length 0 xs.length) v := by
 have hid : hOf [] 0 = none := rfl
 rcases hrow.2 with ⟨rfl,hz⟩ | ⟨g,cap,cur,rfl,hbase,hgb,h1,h2,h3,h4⟩
 · have hx0 : xs = [] := List.eq_nil_of_length_eq_zero hz
   obtain ⟨k1,k2⟩ := relH_none (blk := strB xs) hR hb hid (by rw [hx0]; rfl) rfl
   rw [hOf_0] at k1 k2
   refine ⟨C,_,k1,k2,?_⟩
   rw [hx0]
   exact .own 0 0 0 0 _ (strB []) (by rw [← hx0]; rfl) (Nat.le_refl _) rfl fun _ => .inr ⟨if_pos rfl,rfl,rfl,rfl⟩
 · have hsz : cur.size = cap := by rw [h3,Nat.mul_one]
   have hcur : ∀ j (hj : j < xs.length),cur[j]? = some (.string ⟨⟨xs[j]⟩⟩) := fun j hj => by
    have : (cur.toList.take (xs.length * 1))[j]? = (xs.map fun s => Value.string ⟨⟨s⟩⟩)[j]? := by rw [h4]
    rw [Nat.mul_one,List.getElem?_take] at this
    simpa [hj] using this
   have hf : Fits w' C ρ (hOf []) (strB xs) cur := by
    refine ⟨by simp [strB,rowB]; omega,fun i h => by simp [strB,rowB],fun i j hi hj => ?_⟩
    have hi' : i < xs.length := by simpa [strB,rowB] using hi
    have hj0 : j = 0 := by simp [strB,rowB] at hj; omega
    subst hj0
    refine ⟨.string ⟨⟨xs[i]⟩⟩,by simpa [strB,rowB] using hcur i hi',rfl,?_⟩
    simp only [strB,rowB,List.getElem_map,List.getElem_cons_zero]
    exact .d _ _ (.str _)
   have k1 := relH_add (blk := strB xs) hR hb hid hbase hgb hf rfl
   have k2 := ext_add (cs := cur) (blk := strB xs) hR hb hid hbase
   rw [hOf_0] at k1 k2
   refine ⟨C,_,k1,k2,?_⟩
   exact .own 0 _ 0 _ _ (strB xs) rfl (by simp [strB,rowB]) rfl fun _ => .inl ⟨g,cur.size,cap,by rw [rhoSet_same],by simp,h1,by simp [strB,rowB]; omega,by omega⟩
theorem clone_cc (xs : List (List UInt8)) (hx : xs.length < 1000000000) : CC Try.prog G 29 [] [.d (strsD xs)] [strB xs] (.own 0 xs.length 0 xs.length) := by
 refine ⟨clone_body,fun w C ρ vs hR hG hv => ?_⟩
 obtain ⟨hlen,hv⟩ := hv
 obtain ⟨v,rfl⟩ : ∃ v,vs = [v] := by
  match vs,hlen with
  | [v],_ => exact ⟨v,rfl⟩
 have hp := hv 0 (by simp) (by simp)
 simp only [List.getElem_cons_zero] at hp
 have hd : RepD w C (strsD xs) v := by cases hp; assumption
 rcases rep_strs hd with ⟨rfl,rfl⟩ | ⟨rfl,a,cap,rfl⟩ | ⟨h0,r,o,cap,rfl,hc⟩
 · refine (Try.slices_Clone_string_nil 0 0 w).mono ?_
   rintro e w' ⟨rfl,rfl⟩
   obtain ⟨C',ρ',k1,k2,k3⟩ := strs_own (w' := w') hR (xs := []) (v := .slice none 0 0) (World.ownsRow_nil _ _ _ _) (Below.refl _ _)
   exact ⟨_,C',ρ',rfl,k1,k2,k3⟩
 · refine (Try.slices_Clone_string_zero a cap w).mono ?_
   rintro e w' ⟨v',rfl,hrow,_,hb⟩
   obtain ⟨C',ρ',k1,k2,k3⟩ := strs_own hR (xs := []) hrow hb
   exact ⟨_,C',ρ',rfl,k1,k2,k3⟩
 · refine (Try.slices_Clone_string r o xs.length cap (xs.map fun s => ⟨⟨s⟩⟩) w (by simp) (by omega) (fun j hj => ?_)).mono ?_
   · have hj' : j < xs.length := by simpa using hj
     rw [hc j hj']
     simp [hj']
   rintro e w' ⟨v',rfl,hrow,_,hb⟩
   have hm : ((xs.map fun s => (⟨⟨s⟩⟩ : ByteArray)).take xs.length).map Value.string = xs.map fun s => Value.string ⟨⟨s⟩⟩ := by
    rw [List.take_of_length_le (by simp)]; simp [Function.comp_def]
   rw [hm] at hrow
   obtain ⟨C',ρ',k1,k2,k3⟩ := strs_own hR hrow hb
   exact ⟨_,C',ρ',rfl,k1,k2,k3⟩
theorem cloneE_sig : SigOK Try.prog G cloneE sg26 := by
 intro ins outs hwf hl hsl hr hno
 have hw := cloneE_wf hr
 obtain ⟨l,rfl,hx,rfl⟩ := cloneE_some hr
 refine ⟨hw,?_,fun i hi => by simp [sg26,inL] at hi⟩
 have := clone_cc (G := G) l hx
 simpa [sg26,hIn,SB.inst,SB.rows,SA.val,strsD,D.rows,rowsS,compS,strB,rowB,SV.instL,SV.inst,lnL,lnOf,getB,SB.len] using this
end Go.Proofs.Ytjicfdolcieliaa

namespace Go.Proofs.Ytjicfdolcieliaa
open Go Am Go.Proofs Go.RowKit Go.Sort
set_option maxRecDepth 100000
variable {G : Glob}
def unB : List (List D) → Option (List (BitVec 64))
 | [] => some []
 | [.int .u64 n] :: r => if 0 ≤ n ∧ n < 18446744073709551616 then (unB r).map (BitVec.ofNat 64 n.toNat :: ·) else none
 | _ => none
theorem unB_ok : ∀ {xs : List (List D)} {l : List (BitVec 64)},unB xs = some l → xs = l.map fun x => [bvD x]
 | [],l,h => by simp [unB] at h; subst h; rfl
 | r :: xs,l,h => by
  unfold unB at h
  split at h
  · rename_i h0; simp at h0
  · rename_i n r' h0
    simp only [List.cons.injEq] at h0
    obtain ⟨rfl,rfl⟩ := h0
    split at h
    · rename_i hn
      obtain ⟨l',h1,rfl⟩ := Option.map_eq_some_iff.1 h
      rw [unB_ok h1]
      have h2 : (BitVec.ofNat 64 n.toNat).toNat = n.toNat := by rw [BitVec.toNat_ofNat]; exact Nat.mod_eq_of_lt (by omega)
      simp only [List.map_cons,bvD,h2]
      rw [Int.toNat_of_nonneg hn.1]
    · cases h
  · simp at h
theorem unB_bvs : ∀ l : List (BitVec 64),unB (l.map fun x => [bvD x]) = some l
 | [] => rfl
 | x :: l => by
  have h1 : (0 : Int) ≤ (x.toNat : Int) ∧ (x.toNat : Int) < 18446744073709551616 := by have := x.isLt; omega
  simp only [List.map_cons,bvD,unB,h1,and_self,if_true]
  have := unB_bvs l
  simp only [bvD] at this
  rw [this]
  simp
def cloneVE : PF := fun a => match a with
 | [.sl xs] => match unB xs with | some l => if l.length < 1000000000 then some [bvsD l] else none | none => none
 | _ => none
theorem cloneVE_some {a o : List D} (h : cloneVE a = some o) : ∃ l,a = [bvsD l] ∧ l.length < 1000000000 ∧ o = [bvsD l] := by
 unfold cloneVE at h
 split at h
 · rename_i xs
   split at h
   · rename_i l hl
     split at h
     · rename_i hc; exact ⟨l,by rw [unB_ok hl]; rfl,hc,(Option.some.inj h).symm⟩
     · simp at h
   · simp at h
 · simp at h
theorem cloneVE_run (l : List (BitVec 64)) (h : l.length < 1000000000) : cloneVE [bvsD l] = some [bvsD l] := by
 simp only [cloneVE,bvsD,unB_bvs,h,if_true]
theorem cloneVE_wf {a o : List D} (h : cloneVE a = some o) : EWF o := by
 obtain ⟨l,rfl,_,rfl⟩ := cloneVE_some h
 intro d hd; simp only [List.mem_singleton] at hd; subst hd
 refine .sl _ fun r hr c hc => ?_
 obtain ⟨x,_,rfl⟩ := List.mem_map.1 hr
 simp only [List.mem_singleton] at hc; subst hc
 exact .int _ _
theorem rep_bvs {w : World} {C : Com} {xs : List (BitVec 64)} {v : Value} (h : RepD w C (bvsD xs) v) :
 (xs = [] ∧ v = .slice none 0 0) ∨ (∃ r o cap,v = .slice (some ⟨r,o,none⟩) xs.length cap ∧ ∀ j (hj : j < xs.length),w.cell? ⟨r,o + j,none⟩ = some (.int .u64 (xs[j].toNat : Int))) ∨ ∃ a cap,xs = [] ∧ v = .slice (some a) 0 cap := by
 unfold bvsD at h
 generalize hX : (xs.map fun x => [bvD x]) = X at h
 cases h with
 | nil => exact .inl ⟨by simpa using hX,rfl⟩
 | nilA a => exact .inr (.inr ⟨a,0,by simpa using hX,rfl⟩)
 | sl _ r o cap sz vs hcap hsz hC hcell hrec =>
  subst hX
  by_cases h0 : xs = []
  · subst h0; exact .inr (.inr ⟨_,_,rfl,rfl⟩)
  · have hpos : 0 < (xs.map fun x => [bvD x]).length := by
     cases xs with
     | nil => exact absurd rfl h0
     | cons a l => simp
    have hs1 : sz = 1 := by
     have := hsz 0 hpos
     simp at this
     exact this.symm
    subst hs1
    refine .inr (.inl ⟨r,o,cap,by simp,fun j hj => ?_⟩)
    have hj' : j < (xs.map fun x => [bvD x]).length := by simpa using hj
    have hc := (hcell j 0 hj' (by omega)).1
    have hr := hrec j 0 hj' (by simp)
    simp only [List.getElem_map,List.getElem_cons_zero] at hr
    generalize vs j 0 = u at hr hc
    have : u = .int .u64 (xs[j].toNat : Int) := by unfold bvD at hr; cases hr; rfl
    rw [this] at hc
    simpa using hc
def bvB (xs : List (BitVec 64)) : Blk := rowB false 38 bvD xs
theorem bvs_own {w w' : World} {C : Com} {ρ : Rho} (hR : RelH w C ρ (hOf [])) {xs : List (BitVec 64)} {v : Value} (hrow : w'.ownsRow w.heap.size 38 1 v xs.length (xs.map fun x => Value.int .u64 (x.toNat : Int))) (hb : Below w.heap.size w w') :
 ∃ C' ρ',RelH w' C' ρ' (hOf [bvB xs]) ∧ Ext w C ρ (hOf []) w' C' ρ' (hOf [bvB xs]) ∧ RepA w' C' ρ' (hOf [bvB xs]) (.own 0 xs.length 0 xs.length) v := by
 have hid : hOf [] 0 = none := rfl
 rcases hrow.2 with ⟨rfl,hz⟩ | ⟨g,cap,cur,rfl,hbase,hgb,h1,h2,h3,h4⟩
 · have hx0 : xs = [] := List.eq_nil_of_length_eq_zero hz
   obtain ⟨k1,k2⟩ := relH_none (blk := bvB xs) hR hb hid (by rw [hx0]; rfl) rfl
   rw [hOf_0] at k1 k2
   refine ⟨C,_,k1,k2,?_⟩
   rw [hx0]
   exact .own 0 0 0 0 _ (bvB []) (by rw [← hx0]; rfl) (Nat.le_refl _) rfl fun _ => .inr ⟨if_pos rfl,rfl,rfl,rfl⟩
 · have hsz : cur.size = cap := by rw [h3,Nat.mul_one]
   have hcur : ∀ j (hj : j < xs.length),cur[j]? = some (.int .u64 (xs[j].toNat : Int)) := fun j hj => by
    have : (cur.toList.take (xs.length * 1))[j]? = (xs.map fun x => Value.int .u64 (x.toNat : Int))[j]? := by rw [h4]
    rw [Nat.mul_one,List.getElem?_take] at this
    simpa [hj] using this
   have hf : Fits w' C ρ (hOf []) (bvB xs) cur := by
    refine ⟨by simp [bvB,rowB]; omega,fun i h => by simp [bvB,rowB],fun i j hi hj => ?_⟩
    have hi' : i < xs.length := by simpa [bvB,rowB] using hi
    have hj0 : j = 0 := by simp [bvB,rowB] at hj; omega
    subst hj0
    refine ⟨.int .u64 (xs[i].toNat : Int),by simpa [bvB,rowB] using hcur i hi',rfl,?_⟩
    simp only [bvB,rowB,List.getElem_map,List.getElem_cons_zero]
    exact .d _ _ (.int _ _)
   have k1 := relH_add (blk := bvB xs) hR hb hid hbase hgb hf rfl
   have k2 := ext_add (cs := cur) (blk := bvB xs) hR hb hid hbase
   rw [hOf_0] at k1 k2
   refine ⟨C,_,k1,k2,?_⟩
   exact .own 0 _ 0 _ _ (bvB xs) rfl (by simp [bvB,rowB]) rfl fun _ => .inl ⟨g,cur.size,cap,by rw [rhoSet_same],by simp,h1,by simp [bvB,rowB]; omega,by omega⟩
open Go.Shelf in
set_option maxHeartbeats 2000000 in
theorem cloneE_zero {P : Program} {ρ : Go.Shelf.Ren} (L : SlLaysE0.n41 P ρ) (i0 : TypeInfo) (z : Value) (size bytes : Nat) (hi : P.info? (ρ.t 23) = some i0) (hz0 : i0.zero = some z) (hz1 : i0.size = size) (hz2 : i0.bytes = bytes) (hzs : z.cells.size = size) (hsz : 0 < size)
 (z23 : ∀ w,(Go.sizeOf (ρ.t 23)).run P w = .ok size w) (a : Addr) (c : Nat) (w : World) :
 Calls P (ρ.f 41) #[.slice (some a) 0 c] w fun e w' => ∃ v',e = .returned v' ∧ w'.ownsRow w.heap.size (ρ.t 23) size v' 0 [] ∧ v' ≠ .slice none 0 0 ∧ Below w.heap.size w w' := by
 have mixed := L.mixed; have t4 := L.t4; have a4 := L.a4; have z4 := L.z4; have v4 := L.v4; have t22 := L.t22; have a22 := L.a22; have z22 := L.z22; have v22 := L.v22
 have q22 : ∀ (w : World) (a : Option Addr) (n c n' c' : Nat),(binOp .eql (ρ.t 22) (.slice a n c) (.slice none n' c')).run P w = .ok (.bool a.isNone) w := fun w a n c n' c' => Lib.run_eql_slice_nil w _ _ a n c n' c' L.t22
 have u22 : ∀ w,Sem.run P (underlying (ρ.t 22)) w = .ok (TypeDesc.slice (ρ.t 23)) w := run_underlying t22
 obtain ⟨_,_,FG⟩ := L.f41
 go_enter FG,SlBodyN.n41_ntmps ρ
 go_wp2_with (at_builtin; refine wpList_append_own _ rfl _ _ (ρ.t 22) rfl w.heap.size (ρ.t 23) i0 z size bytes t22 hi hz0 hz1 hz2 hzs hsz _ _ _ rfl (World.ownsRow_made w #[] 0 (Nat.le_refl _) (Nat.zero_le _) (by simp)) a 0 c [] rfl ?qc1 ?qc2 ?qc3 ?qc4 ?qc5 ?qc6 ?_)
 case qc1 => simp
 case qc2 => intro j u hj; simp at hj
 case qc3 => intro u hu; cases hu
 case qc4 => unfold maxLen; omega
 case qc5 => omega
 case qc6 => simp
 intro v' w1 hown hgrow hnil
 go_wp2
 go_ret
 refine ⟨v',rfl,by simpa using hown,?_,?_⟩
 · exact hnil
 · exact ((Below.refl _ w).alloc (Nat.le_refl _) _).grown hgrow (by simp) (by intro k hk; simp [Value.ownBlock] at hk; omega)
theorem cloneV_body : Body Try.prog 34 := ⟨Try.f34,Try.func34,by kernel_rfl,by kernel_rfl⟩
theorem cloneV_call (xs : List (BitVec 64)) (hx : xs.length < 1000000000) (r o cap : Nat) (w : World) (hc : ∀ j (hj : j < xs.length),w.cell? ⟨r,o + j,none⟩ = some (.int .u64 (xs[j].toNat : Int))) :
 Calls Try.prog 34 #[.slice (some ⟨r,o,none⟩) xs.length cap] w fun e w' => ∃ v',e = .returned v' ∧ w'.ownsRow w.heap.size 38 1 v' xs.length (xs.map fun x => Value.int .u64 (x.toNat : Int)) ∧ Below w.heap.size w w' := by
 have hi : (Try.prog.info? 38).map (fun i => (i.zero,i.size,i.bytes)) = some (some (.int .u64 0),1,8) := by kernel_rfl
 cases h : Try.prog.info? 38 with
 | none => rw [h] at hi; cases hi
 | some i0 =>
  rw [h] at hi
  simp only [Option.map_some,Option.some.injEq,Prod.mk.injEq] at hi
  have hcs : Try.prog.cellsOf 38 = 1 := by kernel_rfl
  refine (Try.slices_Clone_f34 i0 (.int .u64 0) 1 8 h hi.1 hi.2.1 hi.2.2 rfl (by omega) (fun w => by rw [run_sizeOf w h,hcs]) r o xs.length cap (xs.map fun x => Value.int .u64 (x.toNat : Int)) w (by simp) (by simp [maxLen]; omega) (by omega) (fun j u hu => ?_) (fun u hu => ?_)).mono ?_
  · obtain ⟨hj,rfl⟩ := List.getElem?_eq_some_iff.1 hu
    rw [List.getElem_map]
    exact hc j (by simpa using hj)
  · obtain ⟨x,_,rfl⟩ := List.mem_map.1 hu
    rfl
  · rintro e w' ⟨v',rfl,hrow,_,hb⟩
    exact ⟨v',rfl,hrow,hb⟩
theorem cloneV_call0 (a : Addr) (cap : Nat) (w : World) :
 Calls Try.prog 34 #[.slice (some a) 0 cap] w fun e w' => ∃ v',e = .returned v' ∧ w'.ownsRow w.heap.size 38 1 v' 0 [] ∧ Below w.heap.size w w' := by
 have hi : (Try.prog.info? 38).map (fun i => (i.zero,i.size,i.bytes)) = some (some (.int .u64 0),1,8) := by kernel_rfl
 cases h : Try.prog.info? 38 with
 | none => rw [h] at hi; cases hi
 | some i0 =>
  rw [h] at hi
  simp only [Option.map_some,Option.some.injEq,Prod.mk.injEq] at hi
  have hcs : Try.prog.cellsOf 38 = 1 := by kernel_rfl
  refine (cloneE_zero Try.laysSlE041_f34 i0 (.int .u64 0) 1 8 h hi.1 hi.2.1 hi.2.2 rfl (by omega) (fun w => (show (Go.sizeOf 38).run Try.prog w = .ok 1 w from by rw [run_sizeOf w h,hcs])) a cap w).mono ?_
  rintro e w' ⟨v',rfl,hrow,_,hb⟩
  exact ⟨v',rfl,hrow,hb⟩
theorem cloneV_cc (xs : List (BitVec 64)) (hx : xs.length < 1000000000) : CC Try.prog G 34 [] [.d (bvsD xs)] [bvB xs] (.own 0 xs.length 0 xs.length) := by
 refine ⟨cloneV_body,fun w C ρ vs hR hG hv => ?_⟩
 obtain ⟨hlen,hv⟩ := hv
 obtain ⟨v,rfl⟩ : ∃ v,vs = [v] := by
  match vs,hlen with
  | [v],_ => exact ⟨v,rfl⟩
 have hp := hv 0 (by simp) (by simp)
 simp only [List.getElem_cons_zero] at hp
 have hd : RepD w C (bvsD xs) v := by cases hp; assumption
 rcases rep_bvs hd with ⟨rfl,rfl⟩ | ⟨r,o,cap,rfl,hc⟩ | ⟨a,cap,rfl,rfl⟩
 · refine (Try.slices_Clone_nil_f34 0 0 w).mono ?_
   rintro e w' ⟨rfl,rfl⟩
   obtain ⟨C',ρ',k1,k2,k3⟩ := bvs_own (w' := w') hR (xs := []) (v := .slice none 0 0) (World.ownsRow_nil _ _ _ _) (Below.refl _ _)
   exact ⟨_,C',ρ',rfl,k1,k2,k3⟩
 · refine (cloneV_call xs hx r o cap w hc).mono ?_
   rintro e w' ⟨v',rfl,hrow,hb⟩
   obtain ⟨C',ρ',k1,k2,k3⟩ := bvs_own hR hrow hb
   exact ⟨_,C',ρ',rfl,k1,k2,k3⟩
 · refine (cloneV_call0 a cap w).mono ?_
   rintro e w' ⟨v',rfl,hrow,hb⟩
   obtain ⟨C',ρ',k1,k2,k3⟩ := bvs_own hR (xs := []) hrow hb
   exact ⟨_,C',ρ',rfl,k1,k2,k3⟩
theorem cloneVE_sig : SigOK Try.prog G cloneVE sg30 := by
 intro ins outs hwf hl hsl hr hno
 have hw := cloneVE_wf hr
 obtain ⟨l,rfl,hx,rfl⟩ := cloneVE_some hr
 refine ⟨hw,?_,fun i hi => by simp [sg30,inL] at hi⟩
 have := cloneV_cc (G := G) l hx
 simpa [sg30,hIn,SB.inst,SB.rows,SA.val,bvsD,D.rows,rowsS,compS,bvB,rowB,SV.instL,SV.inst,lnL,lnOf,getB,SB.len,Function.comp_def] using this
end Go.Proofs.Ytjicfdolcieliaa
