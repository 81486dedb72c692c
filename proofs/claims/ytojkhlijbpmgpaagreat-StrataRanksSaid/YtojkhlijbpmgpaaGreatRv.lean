/- What functions of the program compute: lemmas. -/
import Derived.Test.YtojkhlijbpmgpaaGreatAmEv
import Derived.Test.YtojkhlijbpmgpaaGreatSb1
import Derived.Test.YtojkhlijbpmgpaaGreatAm3
import Derived.Test.YtojkhlijbpmgpaaGreatAm4
import Derived.Test.YtojkhlijbpmgpaaGreatAmRng
import Derived.Test.YtojkhlijbpmgpaaGreatProg
import Derived.KernelRfl
import Derived.RangeFuncBox
import Derived.RangeFuncLeaves
import Derived.Shelf.Abstract
import Derived.WalkKit
import Derived.OwnWalkIn
import Derived.TacticsInMore
import Derived.LoopNIn
import Derived.LoopIn
import Derived.Maps.AppendAt
set_option linter.unusedSimpArgs false
set_option linter.unusedVariables false
set_option linter.unusedSectionVars false
namespace Go.Proofs.YtojkhlijbpmgpaaGreat
open Go Am
set_option maxRecDepth 100000
def RT : Tab := [
 (3,⟨1,8,true,true,false,none,none,(some .i64),false,false,(some (.int .i64 0)),[],none⟩),
 (9,⟨1,16,true,true,false,none,none,none,true,false,(some (.string ⟨⟨[]⟩⟩)),[],none⟩),
 (37,⟨1,24,true,true,false,(some 39),none,none,false,false,(some (.slice none 0 0)),[],none⟩),
 (39,⟨3,48,true,true,true,none,none,none,false,false,(some (.agg #[(.int .i64 0),(.string ⟨⟨[]⟩⟩),(.slice none 0 0)])),[(0,3),(1,9),(2,37)],(some [(0,1),(1,1),(2,1)])⟩)]
theorem Rtok : TOK Tryz.prog RT := tok_of (by kernel_rfl)
def RSG : SGlob := []
def Rsg0 : Sig := ⟨111,1,[⟨false,true,39,3,.v 0,[]⟩],[.own 0],1,[⟨false,true,39,3,.v 0,[]⟩],(.tup []),false,[]⟩
def Rsigs : List Sig := [Rsg0]
def Ran0 : Ann := (.s none .z (.b (.l ⟨3,[(2,(.atm (.v 0))),(3,(.atm (.v 1))),(4,.junk),(5,.junk),(6,.junk)],[(0,⟨false,true,39,3,.v 2,[]⟩)],1,[]⟩ .z)))
def Rir0p0 : IR := (.op (.bin .lss false) [.v 3,.v 4] (.ite (.v 6) (.op .chk [.v 5,.v 4] (.op (.get 0 3) [.v 5,.v 4] (.op .chk [.v 5,.v 3] (.op (.get 0 3) [.v 5,.v 3] (.op .chk [.v 5,.v 3] (.op (.set 0 3) [.v 5,.v 3,.v 7,.v 8,.v 9] (.op .chk [.v 13,.v 4] (.op (.set 0 3) [.v 13,.v 4,.v 10,.v 11,.v 12] (.op (.bin .add false) [.v 3,.c (.int .i64 1)] (.op (.bin .sub false) [.v 4,.c (.int .i64 1)] (.jump 0 [.v 15,.v 16,.v 14]))))))))))) (.ret [.v 5])))
def Rir0 : IR := (.op .lenL [.v 0] (.op (.bin .sub false) [.v 1,.c (.int .i64 1)] (.loop 3 [.c (.int .i64 0),.v 2,.v 0] Rir0p0)))
theorem Rrd0 : readFn RT RSG Rsigs 3000 Rsg0 Tryz.f111 Ran0 = some Rir0 := by kernel_rfl
def Rtbl : List TE := [.ir Rir0]
theorem Rtbl_ok {G : Glob} : TLok Tryz.prog G RT RSG Rsigs 0 Rtbl := ⟨⟨Rsg0,Tryz.f111,Ran0,3000,rfl,Tryz.func111,Rrd0,.nil⟩,trivial⟩
def Rtb : Nat → TE := tbOf Rtbl
theorem Rtb_ok {G : Glob} : TabOK Tryz.prog G RT RSG Rsigs Rtb := tabOK_of Rtbl_ok
theorem Rgok {G : Glob} : GOK G RSG := ⟨(fun g cs h => by cases h),(fun g cs h => by cases h)⟩
end Go.Proofs.YtojkhlijbpmgpaaGreat

namespace Go.Proofs.YtojkhlijbpmgpaaGreat
open Go Am Go.Proofs
set_option maxRecDepth 100000
variable {G : Glob}
def swp (l : List (List D)) (i : Nat) : List (List D) := (List.range l.length).map fun k => if k < i ∨ l.length ≤ k + i then l.getD (l.length - 1 - k) [] else l.getD k []
theorem swp_len (l : List (List D)) (i : Nat) : (swp l i).length = l.length := by simp [swp]
theorem swp_get (l : List (List D)) (i k : Nat) (hk : k < l.length) : (swp l i)[k]? = some (if k < i ∨ l.length ≤ k + i then l.getD (l.length - 1 - k) [] else l.getD k []) := by
 simp [swp,List.getElem?_map,List.getElem?_range hk]
theorem swp_zero (l : List (List D)) : swp l 0 = l := by
 refine List.ext_getElem? fun k => ?_
 by_cases hk : k < l.length
 · rw [swp_get l 0 k hk,if_neg (by omega),List.getD_eq_getElem?_getD,List.getElem?_eq_getElem hk]; rfl
 · rw [List.getElem?_eq_none (by rw [swp_len]; omega),List.getElem?_eq_none (by omega)]
theorem swp_rev (l : List (List D)) (i : Nat) (h : l.length ≤ 2 * i + 1) (h2 : 2 * i ≤ l.length + 1) : swp l i = l.reverse := by
 refine List.ext_getElem? fun k => ?_
 by_cases hk : k < l.length
 · rw [swp_get l i k hk,List.getElem?_reverse hk,List.getElem?_eq_getElem (by omega)]
   by_cases h3 : k < i ∨ l.length ≤ k + i
   · rw [if_pos h3,List.getD_eq_getElem?_getD,List.getElem?_eq_getElem (by omega)]; rfl
   · rw [if_neg h3,List.getD_eq_getElem?_getD,List.getElem?_eq_getElem hk]
     have : l.length - 1 - k = k := by omega
     simp only [this]; rfl
 · rw [List.getElem?_eq_none (by rw [swp_len]; omega),List.getElem?_eq_none (by simp; omega)]
theorem swp_set (l : List (List D)) (i : Nat) (h : 2 * i + 1 < l.length) : ((swp l i).set i (l.getD (l.length - 1 - i) [])).set (l.length - 1 - i) (l.getD i []) = swp l (i + 1) := by
 refine List.ext_getElem? fun k => ?_
 by_cases hk : k < l.length
 · rw [swp_get l (i + 1) k hk,List.getElem?_set,List.getElem?_set,List.length_set,swp_len]
   by_cases h1 : l.length - 1 - i = k
   · rw [if_pos h1,if_pos (by omega),if_pos (by omega)]
     have : l.length - 1 - k = i := by omega
     rw [this]
   · rw [if_neg h1]
     by_cases h2 : i = k
     · subst h2
       rw [if_pos rfl,if_pos hk,if_pos (by omega)]
     · rw [if_neg h2,swp_get l i k hk]
       by_cases h3 : k < i ∨ l.length ≤ k + i
       · rw [if_pos h3,if_pos (by omega)]
       · rw [if_neg h3,if_neg (by omega)]
 · rw [List.getElem?_eq_none (by simp [swp_len]; omega),List.getElem?_eq_none (by rw [swp_len]; omega)]
theorem row3 {r : List D} (h : r.length = 3) : ∃ a b c,r = [a,b,c] := by
 match r,h with
 | [a,b,c],_ => exact ⟨a,b,c,rfl⟩
theorem rev_run (l : List (List D)) (h3 : ∀ r ∈ l,r.length = 3) (hl : l.length < 1000000000) : run Rtb 0 [.sl l] = some [.sl l.reverse] := by
 refine run_ir (x := Rir0) rfl ?_
 have key := loop_km (run := run Rtb) (body := Rir0p0) (e := [.sl l,.int .i64 l.length,.int .i64 (l.length - 1)]) (J := []) (ι := Nat) (fun i => l.length - i) (fun i => 2 * i ≤ l.length + 1)
  (fun i => [.int .i64 i,.int .i64 (l.length - 1 - i),.sl (swp l i)]) (fun _ => [.sl l.reverse])
  (by
   intro i L hi hL
   by_cases hc : 2 * i + 1 < l.length
   · have hci : ((i : Int) < (l.length : Int) - 1 - i) := by omega
     obtain ⟨a1,b1,c1,e1⟩ := row3 (h3 (l.getD i []) (by rw [List.getD_eq_getElem?_getD,List.getElem?_eq_getElem (by omega)]; exact List.getElem_mem _))
     obtain ⟨a2,b2,c2,e2⟩ := row3 (h3 (l.getD (l.length - 1 - i) []) (by rw [List.getD_eq_getElem?_getD,List.getElem?_eq_getElem (by omega)]; exact List.getElem_mem _))
     have g1 := swp_get l i i (by omega)
     rw [if_neg (by omega),e1] at g1
     have g2 := swp_get l i (l.length - 1 - i) (by omega)
     rw [if_neg (by omega),e2] at g2
     have hs := swp_set l i hc
     rw [e1,e2] at hs
     have hj : ((l.length : Int) - 1 - i).toNat = l.length - 1 - i := by omega
     have g3 : ((swp l i).set i [a2,b2,c2])[l.length - 1 - i]? = some [a2,b2,c2] := by
      rw [List.getElem?_set,if_neg (by omega),g2]
     have hw1 : IntKind.i64.wrap ((i : Int) + 1) = ((i + 1 : Nat) : Int) := by rw [wr (by omega) (by omega)]; omega
     have hw2 : IntKind.i64.wrap ((l.length : Int) - 1 - i - 1) = (l.length : Int) - 1 - ((i + 1 : Nat) : Int) := by rw [wr (by omega) (by omega)]; omega
     have q1 : PO.eval (.bin .lss false) [.int .i64 i,.int .i64 (l.length - 1 - i)] = some [.bool true] := by simp [PO.eval,aBin,one1,hci]
     have q2 : ∀ x : List (List D),x.length = l.length → PO.eval .chk [.sl x,.int .i64 (l.length - 1 - i)] = some [] := fun x hx => by
      simp only [PO.eval,hx]; rw [if_pos (by omega)]
     have q3 : ∀ x : List (List D),x.length = l.length → PO.eval .chk [.sl x,.int .i64 i] = some [] := fun x hx => by
      simp only [PO.eval,hx]; rw [if_pos (by omega)]
     have q4 : PO.eval (.get 0 3) [.sl (swp l i),.int .i64 (l.length - 1 - i)] = some [a2,b2,c2] := by
      simp only [PO.eval,hj]; rw [if_pos (by omega),g2]; rfl
     have q5 : PO.eval (.get 0 3) [.sl (swp l i),.int .i64 i] = some [a1,b1,c1] := by
      simp only [PO.eval,Int.toNat_natCast]; rw [if_pos (by omega),g1]; rfl
     have q6 : PO.eval (.set 0 3) [.sl (swp l i),.int .i64 i,a2,b2,c2] = some [.sl ((swp l i).set i [a2,b2,c2])] := by
      simp only [PO.eval,Int.toNat_natCast]; rw [if_pos (by omega),g1]; rfl
     have q7 : PO.eval (.set 0 3) [.sl ((swp l i).set i [a2,b2,c2]),.int .i64 (l.length - 1 - i),a1,b1,c1] = some [.sl (swp l (i + 1))] := by
      simp only [PO.eval,hj]; rw [if_pos (by omega),g3,← hs]; rfl
     have q8 : PO.eval (.bin .add false) [.int .i64 i,.int .i64 1] = some [.int .i64 ((i + 1 : Nat) : Int)] := by
      rw [← hw1]; rfl
     have q9 : PO.eval (.bin .sub false) [.int .i64 (l.length - 1 - i),.int .i64 1] = some [.int .i64 ((l.length : Int) - 1 - ((i + 1 : Nat) : Int))] := by
      rw [← hw2]; rfl
     have hL' := hL (i + 1) (by omega) (by omega)
     simp [Rir0p0,den,SA.val,q1,q2 _ (swp_len l i),q2 ((swp l i).set i [a2,b2,c2]) (by simp [swp_len]),q3 _ (swp_len l i),q4,q5,q6,q7,q8,q9]
     simpa using hL'
   · have q1 : PO.eval (.bin .lss false) [.int .i64 i,.int .i64 (l.length - 1 - i)] = some [.bool false] := by
      have hci : ¬ ((i : Int) < (l.length : Int) - 1 - i) := by omega
      simp [PO.eval,aBin,one1,hci]
     simp [Rir0p0,den,SA.val,q1,swp_rev l i (by omega) hi])
 have hk := key 0 (by omega)
 have hw : IntKind.i64.wrap ((l.length : Int) - 1) = (l.length : Int) - 1 := wr (by omega) (by omega)
 have q1 : PO.eval (.bin .sub false) [.int .i64 l.length,.int .i64 1] = some [.int .i64 ((l.length : Int) - 1)] := by rw [← hw]; rfl
 have q0 : PO.eval .lenL [.sl l] = some [.int .i64 l.length] := rfl
 rw [swp_zero] at hk
 have h0 : ((0 : Nat) : Int) = 0 := rfl
 rw [h0,Int.sub_zero] at hk
 simp [Rir0,den,SA.val,q0,q1]
 simpa [loopQ,SA.val] using hk
def revFE : PF := fun a => match a with
 | [.sl l] => if l.all (fun r => r.length == 3) = true ∧ l.length < 1000000000 then some [.sl l.reverse] else none
 | _ => none
theorem revFE_some {a o : List D} (h : revFE a = some o) : ∃ l,a = [.sl l] ∧ (∀ r ∈ l,r.length = 3) ∧ l.length < 1000000000 ∧ o = [.sl l.reverse] := by
 unfold revFE at h
 split at h
 · rename_i l
   split at h
   · rename_i hc
     cases h
     exact ⟨l,rfl,fun r hr => by simpa using List.all_eq_true.1 hc.1 r hr,hc.2,rfl⟩
   · simp at h
 · simp at h
theorem revFE_wf' {a o : List D} (ha : EWF a) (h : revFE a = some o) : EWF o := by
 obtain ⟨l,rfl,h3,hl,rfl⟩ := revFE_some h
 intro d hd
 simp only [List.mem_singleton] at hd; subst hd
 have := ha (.sl l) (by simp)
 cases this with
 | sl _ hh => exact .sl _ fun r hr => hh r (List.mem_reverse.1 hr)
theorem revFE_sig : SigOK Tryz.prog G revFE sg37 := by
 intro ins outs hwf hl hsl hr hno
 have hw := revFE_wf' hwf hr
 obtain ⟨l,rfl,h3,hlt,rfl⟩ := revFE_some hr
 have hcc := run_cc (P := Tryz.prog) (G := G) Rtok Rgok (by kernel_rfl) Rtb_ok (i := 0) (sg := Rsg0) rfl (ins := [.sl l]) (outs := [.sl l.reverse]) hwf rfl (fun k hk => by simp [Rsg0] at hk; subst hk; exact ⟨_,rfl⟩) (rev_run l h3 hlt) rfl
 refine ⟨hw,hcc,fun i hi => ?_⟩
 cases i with
 | zero => simp [sg37,lnL,lnOf,getB,SB.len,SA.val,D.rows]
 | succ i => simp [sg37,lnL,lnOf,getB]
end Go.Proofs.YtojkhlijbpmgpaaGreat

namespace Go.Proofs.YtojkhlijbpmgpaaGreat
open Go Am Go.Proofs Go.RowKit
attribute [local go_sem] Oper.semAt_some
set_option maxRecDepth 100000 in
set_option maxHeartbeats 2000000 in
theorem backward1_in (F : Fence) (n : Nat) (h7 : F.fn 148) (hro : F.round = none) (hn : 1 ≤ n) (l Bs b off len cap : Nat) (vs : Nat → Nat → Value) (hreach : len ≤ 140737488355328) (J : Nat → World → Prop) (Jx : World → Prop)
 (hcap : ∀ k W,J k W → W.cell? ⟨Bs,0,none⟩ = some (.slice (some ⟨b,off,none⟩) len cap) ∧ ∀ j c,j < len → c < 3 → W.cell? ⟨b,off + j * 3 + c,none⟩ = some (vs j c))
 (hY : ∀ k,k < len → ∀ W,J k W → YieldAt F (n - 1) Tryz.prog l #[.int .i64 ((len : Int) - 1 - k),.agg #[vs (len - 1 - k) 0,vs (len - 1 - k) 1,vs (len - 1 - k) 2]] W fun e W' => (e = .returned (.bool true) ∧ J (k + 1) W') ∨ (e = .returned (.bool false) ∧ Jx W'))
 (W : World) (h0 : J 0 W) :
 CallsIn F n Tryz.prog 148 #[.func (.yield l) #[] #[],.pointer (some ⟨Bs,0,none⟩)] W fun e W' => (∃ v,e = .returned v) ∧ (J len W' ∨ Jx W') := by
 obtain ⟨hBs,_⟩ := hcap 0 W h0
 refine callsIn_of_wp Tryz.func148 rfl h7 ?_ hro
 simp only [Tryz.ntmps148,List.size_toArray,List.length_cons,List.length_nil,Nat.reduceAdd,Nat.reduceSub,Array.replicate_succ,Array.replicate_zero,List.push_toArray,List.append_toArray,List.nil_append,List.cons_append]
 gi_wp2
 gi_loopw [3] (fun i wr => ∃ k : Nat,k ≤ len ∧ i = .int .i64 ((len : Int) - 1 - k) ∧ J k wr) (fun i _ => (intOf i + 1).toNat)
 case atStart => exact ⟨0,Nat.zero_le _,by simp,h0⟩
 case round =>
  obtain ⟨k,hk,rfl,hJs⟩ := hrel
  obtain ⟨hB,hC⟩ := hcap k wr hJs
  by_cases hlt : k < len
  · have e0 : (0 : Int) ≤ (len : Int) - 1 - k := by omega
    have e1 : (((len : Int) - 1 - k)).toNat = len - 1 - k := by omega
    have e2 : (len : Int) - 1 - k < len := by omega
    have c0 : wr.cell? ⟨b,off + (len - 1 - k) * 3,none⟩ = some (vs (len - 1 - k) 0) := hC (len - 1 - k) 0 (by omega) (by omega)
    have c1 := hC (len - 1 - k) 1 (by omega) (by omega)
    have c2 := hC (len - 1 - k) 2 (by omega) (by omega)
    obtain ⟨fn,tmps,assign,body,hy,hR⟩ := hY k hlt wr hJs
    gi_wp2
    refine hR.mono ?_
    rintro e W3 (⟨rfl,hJ3⟩ | ⟨rfl,hJx3⟩)
    · gi_wp2
      go_roundw
      case rel => exact ⟨k + 1,by omega,by simp; omega,hJ3⟩
      case measure => simp [intOf]; omega
    · gi_wp2
      refine bodyPost_ret (results_none rfl _ _ _) rfl ?_
      exact ⟨⟨_,rfl⟩,.inr hJx3⟩
  · obtain rfl : k = len := by omega
    have e0 : ¬ (0 : Int) ≤ (k : Int) - 1 - k := by omega
    gi_wp2
    go_end0
    exact ⟨⟨_,rfl⟩,.inl hJs⟩
set_option maxRecDepth 100000 in
set_option maxHeartbeats 1000000 in
theorem backward1_nil_in (F : Fence) (n : Nat) (h7 : F.fn 148) (hro : F.round = none) (l Bs : Nat) (p : Option Addr) (cap : Nat) (W : World) (hB : W.cell? ⟨Bs,0,none⟩ = some (.slice p 0 cap)) :
 CallsIn F n Tryz.prog 148 #[.func (.yield l) #[] #[],.pointer (some ⟨Bs,0,none⟩)] W fun e W' => (∃ v,e = .returned v) ∧ W' = W := by
 refine callsIn_of_wp Tryz.func148 rfl h7 ?_ hro
 simp only [Tryz.ntmps148,List.size_toArray,List.length_cons,List.length_nil,Nat.reduceAdd,Nat.reduceSub,Array.replicate_succ,Array.replicate_zero,List.push_toArray,List.append_toArray,List.nil_append,List.cons_append]
 gi_wp2
 gi_loopw [3] (fun i wr => i = .int .i64 (-1) ∧ wr = W) (fun _ _ => 0)
 case atStart => exact ⟨rfl,rfl⟩
 case round =>
  obtain ⟨rfl,rfl⟩ := hrel
  gi_wp2
  go_end0
  exact ⟨⟨_,rfl⟩,rfl⟩
theorem backward_seq {H : Heap} {b0 : Nat} {blk : Blk} {rws : List (List D)} (hb : H b0 = some blk) (hr : blk.rows = [[.d (.sl rws)]]) (hf : blk.fz = true) (h3 : ∀ r ∈ rws,r.length = 3) (hl : rws.length ≤ 140737488355328) :
 SeqAV Tryz.prog 148 [.ptr b0 1 0 0] H (backR rws) (fun _ => False) := by
 refine ⟨fun args w => enters_of Tryz.func148 (by kernel_rfl) rfl args w,fun w C ρ lb hR hlb => ?_⟩
 obtain ⟨hlen,hv⟩ := hlb
 obtain ⟨v,rfl⟩ : ∃ v,lb = [v] := by
  match lb,hlen with
  | [v],_ => exact ⟨v,rfl⟩
 have hp := hv 0 (by simp) (by simp)
 simp only [List.getElem_cons_zero] at hp
 obtain ⟨r0,s0,hr0,rfl⟩ : ∃ r0 s0,ρ b0 = some (r0,s0) ∧ v = .pointer (some ⟨r0,0,none⟩) := by
  cases hp with
  | ptr _ _ _ _ _ blk' hb' hn h1 h =>
   rw [hb] at hb'
   cases hb'
   obtain ⟨r,s,h3,rfl⟩ := h (by rw [hr]; rfl)
   exact ⟨r,s,h3,by simp⟩
 have hbk := hR.blk b0 blk hb
 unfold BlkOK at hbk
 rw [hr0] at hbk
 obtain ⟨⟨cs,lo,hi,m1,m2,m3,m4,m5,m6,m7⟩,n1,n2⟩ := hbk
 obtain ⟨sv,v1,v2,v3⟩ := m7 0 0 (by rw [hr]; simp) (by simp [hr])
 simp only [hr,List.getElem_cons_zero,Nat.zero_mul,Nat.add_zero] at v1 v3
 have hsz : blk.sz = 1 := by have := m6 0 (by rw [hr]; simp); simpa [hr] using this.symm
 have hcell : w.cell? ⟨r0,0,none⟩ = some sv := by rw [cell_eq,m1]; exact v1
 have hcom : C r0 0 := n2 hf 0 (by rw [hr,hsz]; simp)
 have hd : RepD w C (.sl rws) sv := by cases v3; assumption
 by_cases h0 : rws = []
 · subst h0
   obtain ⟨p,cap,rfl⟩ : ∃ p cap,sv = .slice p 0 cap := by
    cases hd with
    | nil => exact ⟨none,0,rfl⟩
    | nilA a => exact ⟨some a,0,rfl⟩
    | sl _ r o cap sz vs hcap hsz hC hcell hrec => exact ⟨_,cap,rfl⟩
   refine ⟨[],fun W => W.cell? ⟨r0,0,none⟩ = some (.slice p 0 cap),rfl,fun k h => by simp [backR] at h,fun l J Jx W hcp hgr hY hJ0 => ?_,fun w' C' ρ' H' hR' he _ => (he.cell _ _ hcom).trans hcell⟩
   refine (backward1_nil_in (Fe none) 4 trivial rfl l r0 p cap W (hcp 0 W hJ0)).mono ?_
   rintro e W' ⟨he,rfl⟩
   exact ⟨he,.inl hJ0⟩
 · have hpos : 0 < rws.length := List.length_pos_iff.2 h0
   cases hd with
   | nil => exact absurd rfl h0
   | nilA a => exact absurd rfl h0
   | sl _ r1 o1 cap sz vs hcap hsz3 hC hcl hrec =>
    have hs3 : sz = 3 := by rw [← hsz3 0 hpos]; exact h3 _ (List.getElem_mem hpos)
    subst hs3
    refine ⟨(List.range rws.length).map fun (k : Nat) => #[.int .i64 ((rws.length : Int) - 1 - k),.agg #[vs (rws.length - 1 - k) 0,vs (rws.length - 1 - k) 1,vs (rws.length - 1 - k) 2]],
     fun W => W.cell? ⟨r0,0,none⟩ = some (.slice (some ⟨r1,o1,none⟩) rws.length cap) ∧ ∀ j c,j < rws.length → c < 3 → W.cell? ⟨r1,o1 + j * 3 + c,none⟩ = some (vs j c),by simp [backR],fun k h h' => ?_,fun l J Jx W hcp hgr hY hJ0 => ?_,fun w' C' ρ' H' hR' he _ => ⟨(he.cell _ _ hcom).trans hcell,fun j c hj hc => (he.cell _ _ (hC j c hj hc)).trans (hcl j c hj hc).1⟩⟩
    · have hk : k < rws.length := by simpa [backR] using h
      have hj : rws.length - 1 - k < rws.length := by omega
      have hrl := h3 _ (List.getElem_mem hj)
      have hg : rws.getD (rws.length - 1 - k) [] = rws[rws.length - 1 - k] := by simp [hj]
      refine ⟨by simp [backR],fun i h1 h2 => ?_⟩
      simp only [backR,List.getElem_map,List.getElem_range,hg] at h1 ⊢
      match i,h1 with
      | 0,_ => exact .d _ _ (.int _ _)
      | 1,_ =>
       refine .agg _ _ (by simp [hrl]) (fun v hv => ?_) fun c hc hc' => ?_
       · simp only [List.mem_cons,List.not_mem_nil,or_false] at hv
         rcases hv with rfl | rfl | rfl
         · exact (hcl _ 0 hj (by omega)).2
         · exact (hcl _ 1 hj (by omega)).2
         · exact (hcl _ 2 hj (by omega)).2
       · have hc3 : c < 3 := by simpa using hc'
         simp only [List.getElem_map]
         refine .d _ _ ?_
         have := hrec _ c hj (by omega)
         obtain rfl | rfl | rfl : c = 0 ∨ c = 1 ∨ c = 2 := by omega
         · exact this
         · exact this
         · exact this
    · have := backward1_in (Fe none) 4 trivial rfl (by omega) l r0 r1 o1 rws.length cap vs hl J Jx hcp (fun k hk W hj => by
       have := hY k (by simpa using hk) W hj
       simpa using this) W hJ0
      simpa using this
theorem back_ok : BackOK Tryz.prog 148 3 := fun H b0 blk rws hb hr hf h3 hl => backward_seq hb hr hf h3 hl
theorem bk_ok {a : Ann} (h : a.backs = [(148,3)]) : AnnOK Tryz.prog a := fun p hp => by
 rw [h] at hp; simp only [List.mem_singleton] at hp; subst hp; exact back_ok
end Go.Proofs.YtojkhlijbpmgpaaGreat
