/- What functions of the program compute: lemmas. -/
import Derived.Test.YtojkhlijbpmgpaaGreatAmEv
import Derived.Test.YtojkhlijbpmgpaaGreatSb1
import Derived.Test.YtojkhlijbpmgpaaGreatAm3
import Derived.Test.YtojkhlijbpmgpaaGreatAm4
import Derived.Test.YtojkhlijbpmgpaaGreatAm8
import Derived.Test.YtojkhlijbpmgpaaGreatProg
import Derived.KernelRfl
import Derived.RangeFuncBox
import Derived.RangeFuncLeaves
import Derived.Shelf.Abstract
import Derived.WalkKit
import Derived.OwnWalkIn
import Derived.TacticsInMore
import Derived.LoopNIn
import Derived.LoopIn
import Derived.Maps.AppendAt
set_option linter.unusedSimpArgs false
set_option linter.unusedVariables false
set_option linter.unusedSectionVars false
namespace Go.Proofs.YtojkhlijbpmgpaaGreat
open Go Am
set_option maxRecDepth 100000
end Go.Proofs.YtojkhlijbpmgpaaGreat

namespace Go.Proofs.YtojkhlijbpmgpaaGreat
open Go Am Go.Proofs
set_option maxRecDepth 100000
variable {G : Glob}
end Go.Proofs.YtojkhlijbpmgpaaGreat

namespace Go.Proofs.YtojkhlijbpmgpaaGreat
open Go Am Go.Proofs Go.RowKit
attribute [local go_sem] Oper.semAt_some
set_option maxRecDepth 100000 in
set_option maxHeartbeats 2000000 in
theorem backward1_in (F : Fence) (n : Nat) (h7 : F.fn 148) (hro : F.round = none) (hn : 1 ≤ n) (l Bs b off len cap : Nat) (vs : Nat → Nat → Value) (hreach : len ≤ 140737488355328) (J : Nat → World → Prop) (Jx : World → Prop)
 (hcap : ∀ k W,J k W → W.cell? ⟨Bs,0,none⟩ = some (.slice (some ⟨b,off,none⟩) len cap) ∧ ∀ j c,j < len → c < 3 → W.cell? ⟨b,off + j * 3 + c,none⟩ = some (vs j c))
 (hY : ∀ k,k < len → ∀ W,J k W → YieldAt F (n - 1) Tryz.prog l #[.int .i64 ((len : Int) - 1 - k),.agg #[vs (len - 1 - k) 0,vs (len - 1 - k) 1,vs (len - 1 - k) 2]] W fun e W' => (e = .returned (.bool true) ∧ J (k + 1) W') ∨ (e = .returned (.bool false) ∧ Jx W'))
 (W : World) (h0 : J 0 W) :
 CallsIn F n Tryz.prog 148 #[.func (.yield l) #[] #[],.pointer (some ⟨Bs,0,none⟩)] W fun e W' => (∃ v,e = .returned v) ∧ (J len W' ∨ Jx W') := by
 obtain ⟨hBs,_⟩ := hcap 0 W h0
 refine callsIn_of_wp Tryz.func148 rfl h7 ?_ hro
 simp only [Tryz.ntmps148,List.size_toArray,List.length_cons,List.length_nil,Nat.reduceAdd,Nat.reduceSub,Array.replicate_succ,Array.replicate_zero,List.push_toArray,List.append_toArray,List.nil_append,List.cons_append]
 gi_wp2
 gi_loopw [3] (fun i wr => ∃ k : Nat,k ≤ len ∧ i = .int .i64 ((len : Int) - 1 - k) ∧ J k wr) (fun i _ => (intOf i + 1).toNat)
 case atStart => exact ⟨0,Nat.zero_le _,by simp,h0⟩
 case round =>
  obtain ⟨k,hk,rfl,hJs⟩ := hrel
  obtain ⟨hB,hC⟩ := hcap k wr hJs
  by_cases hlt : k < len
  · have e0 : (0 : Int) ≤ (len : Int) - 1 - k := by omega
    have e1 : (((len : Int) - 1 - k)).toNat = len - 1 - k := by omega
    have e2 : (len : Int) - 1 - k < len := by omega
    have c0 : wr.cell? ⟨b,off + (len - 1 - k) * 3,none⟩ = some (vs (len - 1 - k) 0) := hC (len - 1 - k) 0 (by omega) (by omega)
    have c1 := hC (len - 1 - k) 1 (by omega) (by omega)
    have c2 := hC (len - 1 - k) 2 (by omega) (by omega)
    obtain ⟨fn,tmps,assign,body,hy,hR⟩ := hY k hlt wr hJs
    gi_wp2
    refine hR.mono ?_
    rintro e W3 (⟨rfl,hJ3⟩ | ⟨rfl,hJx3⟩)
    · gi_wp2
      go_roundw
      case rel => exact ⟨k + 1,by omega,by simp; omega,hJ3⟩
      case measure => simp [intOf]; omega
    · gi_wp2
      refine bodyPost_ret (results_none rfl _ _ _) rfl ?_
      exact ⟨⟨_,rfl⟩,.inr hJx3⟩
  · obtain rfl : k = len := by omega
    have e0 : ¬ (0 : Int) ≤ (k : Int) - 1 - k := by omega
    gi_wp2
    go_end0
    exact ⟨⟨_,rfl⟩,.inl hJs⟩
set_option maxRecDepth 100000 in
set_option maxHeartbeats 1000000 in
theorem backward1_nil_in (F : Fence) (n : Nat) (h7 : F.fn 148) (hro : F.round = none) (l Bs : Nat) (p : Option Addr) (cap : Nat) (W : World) (hB : W.cell? ⟨Bs,0,none⟩ = some (.slice p 0 cap)) :
 CallsIn F n Tryz.prog 148 #[.func (.yield l) #[] #[],.pointer (some ⟨Bs,0,none⟩)] W fun e W' => (∃ v,e = .returned v) ∧ W' = W := by
 refine callsIn_of_wp Tryz.func148 rfl h7 ?_ hro
 simp only [Tryz.ntmps148,List.size_toArray,List.length_cons,List.length_nil,Nat.reduceAdd,Nat.reduceSub,Array.replicate_succ,Array.replicate_zero,List.push_toArray,List.append_toArray,List.nil_append,List.cons_append]
 gi_wp2
 gi_loopw [3] (fun i wr => i = .int .i64 (-1) ∧ wr = W) (fun _ _ => 0)
 case atStart => exact ⟨rfl,rfl⟩
 case round =>
  obtain ⟨rfl,rfl⟩ := hrel
  gi_wp2
  go_end0
  exact ⟨⟨_,rfl⟩,rfl⟩
theorem backward_seq {H : Heap} {b0 : Nat} {blk : Blk} {rws : List (List D)} (hb : H b0 = some blk) (hr : blk.rows = [[.d (.sl rws)]]) (hf : blk.fz = true) (h3 : ∀ r ∈ rws,r.length = 3) (hl : rws.length ≤ 140737488355328) :
 SeqAV Tryz.prog 148 [.ptr b0 1 0 0] H (backR rws) (fun _ => False) := by
 refine ⟨fun args w => enters_of Tryz.func148 (by kernel_rfl) rfl args w,fun w C ρ lb hR hlb => ?_⟩
 obtain ⟨hlen,hv⟩ := hlb
 obtain ⟨v,rfl⟩ : ∃ v,lb = [v] := by
  match lb,hlen with
  | [v],_ => exact ⟨v,rfl⟩
 have hp := hv 0 (by simp) (by simp)
 simp only [List.getElem_cons_zero] at hp
 obtain ⟨r0,s0,hr0,rfl⟩ : ∃ r0 s0,ρ b0 = some (r0,s0) ∧ v = .pointer (some ⟨r0,0,none⟩) := by
  cases hp with
  | ptr _ _ _ _ _ blk' hb' hn h1 h =>
   rw [hb] at hb'
   cases hb'
   obtain ⟨r,s,h3,rfl⟩ := h (by rw [hr]; rfl)
   exact ⟨r,s,h3,by simp⟩
 have hbk := hR.blk b0 blk hb
 unfold BlkOK at hbk
 rw [hr0] at hbk
 obtain ⟨⟨cs,lo,hi,m1,m2,m3,m4,m5,m6,m7⟩,n1,n2⟩ := hbk
 obtain ⟨sv,v1,v2,v3⟩ := m7 0 0 (by rw [hr]; simp) (by simp [hr])
 simp only [hr,List.getElem_cons_zero,Nat.zero_mul,Nat.add_zero] at v1 v3
 have hsz : blk.sz = 1 := by have := m6 0 (by rw [hr]; simp); simpa [hr] using this.symm
 have hcell : w.cell? ⟨r0,0,none⟩ = some sv := by rw [cell_eq,m1]; exact v1
 have hcom : C r0 0 := n2 hf 0 (by rw [hr,hsz]; simp)
 have hd : RepD w C (.sl rws) sv := by cases v3; assumption
 by_cases h0 : rws = []
 · subst h0
   obtain ⟨p,cap,rfl⟩ : ∃ p cap,sv = .slice p 0 cap := by
    cases hd with
    | nil => exact ⟨none,0,rfl⟩
    | nilA a => exact ⟨some a,0,rfl⟩
    | sl _ r o cap sz vs hcap hsz hC hcell hrec => exact ⟨_,cap,rfl⟩
   refine ⟨[],fun W => W.cell? ⟨r0,0,none⟩ = some (.slice p 0 cap),rfl,fun k h => by simp [backR] at h,fun l J Jx W hcp hgr hY hJ0 => ?_,fun w' C' ρ' H' hR' he _ => (he.cell _ _ hcom).trans hcell⟩
   refine (backward1_nil_in (Fe none) 4 trivial rfl l r0 p cap W (hcp 0 W hJ0)).mono ?_
   rintro e W' ⟨he,rfl⟩
   exact ⟨he,.inl hJ0⟩
 · have hpos : 0 < rws.length := List.length_pos_iff.2 h0
   cases hd with
   | nil => exact absurd rfl h0
   | nilA a => exact absurd rfl h0
   | sl _ r1 o1 cap sz vs hcap hsz3 hC hcl hrec =>
    have hs3 : sz = 3 := by rw [← hsz3 0 hpos]; exact h3 _ (List.getElem_mem hpos)
    subst hs3
    refine ⟨(List.range rws.length).map fun (k : Nat) => #[.int .i64 ((rws.length : Int) - 1 - k),.agg #[vs (rws.length - 1 - k) 0,vs (rws.length - 1 - k) 1,vs (rws.length - 1 - k) 2]],
     fun W => W.cell? ⟨r0,0,none⟩ = some (.slice (some ⟨r1,o1,none⟩) rws.length cap) ∧ ∀ j c,j < rws.length → c < 3 → W.cell? ⟨r1,o1 + j * 3 + c,none⟩ = some (vs j c),by simp [backR],fun k h h' => ?_,fun l J Jx W hcp hgr hY hJ0 => ?_,fun w' C' ρ' H' hR' he _ => ⟨(he.cell _ _ hcom).trans hcell,fun j c hj hc => (he.cell _ _ (hC j c hj hc)).trans (hcl j c hj hc).1⟩⟩
    · have hk : k < rws.length := by simpa [backR] using h
      have hj : rws.length - 1 - k < rws.length := by omega
      have hrl := h3 _ (List.getElem_mem hj)
      have hg : rws.getD (rws.length - 1 - k) [] = rws[rws.length - 1 - k] := by simp [hj]
      refine ⟨by simp [backR],fun i h1 h2 => ?_⟩
      simp only [backR,List.getElem_map,List.getElem_range,hg] at h1 ⊢
      match i,h1 with
      | 0,_ => exact .d _ _ (.int _ _)
      | 1,_ =>
       refine .agg _ _ (by simp [hrl]) (fun v hv => ?_) fun c hc hc' => ?_
       · simp only [List.mem_cons,List.not_mem_nil,or_false] at hv
         rcases hv with rfl | rfl | rfl
         · exact (hcl _ 0 hj (by omega)).2
         · exact (hcl _ 1 hj (by omega)).2
         · exact (hcl _ 2 hj (by omega)).2
       · have hc3 : c < 3 := by simpa using hc'
         simp only [List.getElem_map]
         refine .d _ _ ?_
         have := hrec _ c hj (by omega)
         obtain rfl | rfl | rfl : c = 0 ∨ c = 1 ∨ c = 2 := by omega
         · exact this
         · exact this
         · exact this
    · have := backward1_in (Fe none) 4 trivial rfl (by omega) l r0 r1 o1 rws.length cap vs hl J Jx hcp (fun k hk W hj => by
       have := hY k (by simpa using hk) W hj
       simpa using this) W hJ0
      simpa using this
theorem back_ok : BackOK Tryz.prog 148 3 := fun H b0 blk rws hb hr hf h3 hl => backward_seq hb hr hf h3 hl
theorem bk_ok {a : Ann} (h : a.backs = [(148,3)]) : AnnOK Tryz.prog a := fun p hp => by
 rw [h] at hp; simp only [List.mem_singleton] at hp; subst hp; exact back_ok
end Go.Proofs.YtojkhlijbpmgpaaGreat
