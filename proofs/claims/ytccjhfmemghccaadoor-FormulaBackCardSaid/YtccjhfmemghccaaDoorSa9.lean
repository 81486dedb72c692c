/- What functions of the program compute: lemmas. -/
import Derived.Test.YtccjhfmemghccaaDoorSa5
set_option linter.unusedSimpArgs false
set_option linter.unusedVariables false
set_option linter.unusedSectionVars false
namespace Go.Proofs.YtccjhfmemghccaaDoor
open Go Am
set_option maxRecDepth 100000
variable {G : Glob}
theorem wordO_le (o : Int) : (wordO o).length ≤ 5 := by unfold wordO; (repeat' split) <;> simp
theorem validName_le {s : List UInt8} (h : validName s = true) : s.length ≤ 12 := by
 simp only [validName, Bool.and_eq_true, Bool.not_eq_true', Bool.or_eq_false_iff, decide_eq_false_iff_not] at h
 omega
theorem headO_le {o : Int} {n : List UInt8} {a : List F} (h : named (.mk o n a) = true) : (headO o n).length ≤ 12 := by
 unfold headO
 split
 · simp
 · split
   · simp
   · split
     · rename_i h3
       simp only [named, F.op, F.name, h3, if_true] at h
       exact validName_le h
     · split <;> simp
mutual
theorem text_le : ∀ f : F, F.allF named f = true → (F.text f).length + 8 ≤ 20 * f.size
 | .mk o n a, h => by
  simp only [F.allF, Bool.and_eq_true] at h
  have h1 := headO_le h.1
  have h2 := texts_le o 0 a h.2
  simp only [F.text, F.size, List.length_append]
  omega
theorem texts_le (o : Int) : ∀ (i : Nat) (l : List F), F.allFs named l = true → (F.texts o i l).length ≤ 20 * F.sizes l
 | _, [], _ => by simp [F.texts]
 | i, g :: l, h => by
  simp only [F.allFs, Bool.and_eq_true] at h
  have h1 := text_le g h.1
  have h2 := texts_le o (i + 1) l h.2
  have h3 := wordO_le o
  simp only [F.texts, F.sizes, List.length_append, List.length_cons]
  (repeat' split) <;> simp <;> omega
end
theorem text_ne {f : F} (h : good f = true) : F.text f ≠ [] := by
 have key : ∀ n : Nat, ∀ f : F, f.size ≤ n → good f = true → F.text f ≠ [] := by
  intro n
  induction n with
  | zero => intro f hf; have := F.size_pos f; omega
  | succ n ih =>
   intro f hf hg
   rw [F.text_eq]
   obtain ⟨h1, h2⟩ := good_named hg
   intro he
   rw [List.append_eq_nil_iff] at he
   obtain ⟨e1, e2⟩ := he
   cases ha : f.args with
   | cons g l =>
    rw [ha, F.texts_cons, List.append_eq_nil_iff] at e2
    have hj : 0 < f.args.length := by rw [ha]; simp
    have hga := good_arg hg 0 hj
    have hlt := F.size_arg f 0 hj
    have hg0 : f.args[0] = g := by simp [ha]
    rw [hg0] at hga hlt
    have := ih g (by omega) hga
    have e3 := e2.1
    simp only [F.piece, List.append_eq_nil_iff] at e3
    have e4 := e3.2
    split at e4
    · simp at e4
    · exact this e4
   | nil =>
    simp only [counted, ha, List.length_nil] at h2
    unfold headO at e1
    split at e1
    · simp at e1
    · split at e1
      · simp at e1
      · split at e1
        · rename_i h3
          exact name_ne hg h3 e1
        · split at e1
          · simp at e1
          · rename_i q1 q2 q3 q4
            simp [q1, q2, q3, q4] at h2
 exact key f.size f (Nat.le_refl _) h
theorem write_cc (hG : G 0 = some wordsD) (f : F) (hs : f.size < 4611686018427387904) (hok : good f = true) (a : AV) (l : List UInt8) (ha : a = nilP ∨ a = selfP) (hl : l.length + (F.text f).length ≤ 70368744177664) :
 CC Tryd.prog G 31 [bld a (bufA l), byt l] [selfP, encA f] [bld (aOf a (F.text f)) (bufA (l ++ F.text f)), byt (l ++ F.text f)] (.tup []) :=
 bySize (Q := fun f => good f = true → ∀ (a : AV) (l : List UInt8), (a = nilP ∨ a = selfP) → l.length + (F.text f).length ≤ 70368744177664 →
  CC Tryd.prog G 31 [bld a (bufA l), byt l] [selfP, encA f] [bld (aOf a (F.text f)) (bufA (l ++ F.text f)), byt (l ++ F.text f)] (.tup []))
  (fun n ih f hn hs hok a l ha hl => write_c hG n ih f hn hs hok a l ha hl) f hs hok a l ha hl
end Go.Proofs.YtccjhfmemghccaaDoor

namespace Go.Proofs.YtccjhfmemghccaaDoor
open Go Am
set_option maxRecDepth 100000
set_option maxHeartbeats 1000000
variable {G : Glob}
theorem hold12 (a : AV) (l : List UInt8) (id : Nat) : [some ({ fz := false, ap := false, ty := 62, sz := 2, rows := [[a.ren (mOf [1, 2] id), .own 2 l.length 0 l.length]] } : Blk), some (byt l)] = [bld a (bufA l), byt l].map fun b => some (b.ren (mOf [1, 2] id)) := by
 simp only [List.map_cons, List.map_nil, byt_ren]; rfl
theorem valid_good {f : F} (h : validate f = 0) : good f = true ∧ f.size ≤ 600 ∧ f.depth ≤ 20 := by
 unfold validate at h
 (repeat' split at h) <;> simp_all [good]
 omega
def formatS (f : F) : List UInt8 := if validate f != 0 then [] else if decide (((F.text f).length : Int) > 4096) then [] else F.text f
def formatE (f : F) : Int := if validate f != 0 then validate f else if decide (((F.text f).length : Int) > 4096) then 2 else 0
theorem format_c (hG : G 0 = some wordsD) (f : F) (hs : f.size < 4611686018427387904) : CC Tryd.prog G 15 [] [encA f] [] (.tup [.d (.str (formatS f)), i64 (formatE f)]) := by
 refine CC.go Tryd.func15 rfl rfl Tryd.ntmps15 (k0 := 0) rfl (Nat.le_of_ble_eq_true rfl) (by rfl) (by rfl) ?_
 refine awp_seq ?_
 refine awp_region (by simp only [slimL, slim1, List.map_cons, List.map_nil, List.getElem?_toArray, List.getElem?_cons_succ, List.getElem?_cons_zero, Option.bind_some]; rfl) ?_
 refine regS_go 3 (by simp only [go_sem, hG]; rfl) ?_
 refine regS_nil ?_
 refine seqK_normal ?_
 refine awp_seq ?_
 refine awp_seq ?_
 refine awp_region (by simp only [slimL, slim1, List.map_cons, List.map_nil, List.getElem?_toArray, List.getElem?_cons_succ, List.getElem?_cons_zero, Option.bind_some]; rfl) ?_
 refine regS_go 1 (by simp only [go_sem, hG]; rfl) ?_
 refine regS_call rfl (by simp only [go_sem, hG]) rfl (by simp only [go_sem, hG]; rfl) (by simp only [go_sem, hG]; rfl) ?_
 refine callK_d (validate_c f hs) rfl rfl rfl ?_
 refine regS_go 1 (by simp only [go_sem, hG]; rfl) ?_
 refine regS_nil ?_
 refine seqK_normal ?_
 refine awp_seq ?_
 refine awp_region (by simp only [slimL, slim1, List.map_cons, List.map_nil, List.getElem?_toArray, List.getElem?_cons_succ, List.getElem?_cons_zero, Option.bind_some]; rfl) ?_
 refine regS_go 2 (by simp only [go_sem, hG]; rfl) ?_
 refine regS_nil ?_
 refine seqK_normal ?_
 refine awp_cond (by simp only [go_sem, hG]; rfl) (fun c0 => ?_) (fun c0 => ?_)
 · skip
   refine awp_seq ?_
   refine awp_region (by simp only [slimL, slim1, List.map_cons, List.map_nil, List.getElem?_toArray, List.getElem?_cons_succ, List.getElem?_cons_zero, Option.bind_some]; rfl) ?_
   refine regS_go 3 (by simp only [go_sem, hG, c0]; rfl) ?_
   refine regS_nil ?_
   refine seqK_normal ?_
   refine awp_ret ?_
   refine seqK_ret ?_
   refine end_d (.inr rfl) (rs := [.tmp 2, .tmp 3]) rfl (by simp only [go_sem, hG, c0]; rfl) ?_
   refine ⟨?_, rfl⟩
   simp only [formatS, formatE, c0, Bool.and_true, Bool.true_and, Bool.and_false, Bool.false_and, Bool.or_true, Bool.true_or, Bool.or_false, Bool.false_or, Bool.not_true, Bool.not_false, Bool.false_eq_true, if_true, if_false, reduceIte]
 · skip
   have hv : validate f = 0 := by simpa using c0
   obtain ⟨hg, hsz, hdp⟩ := valid_good hv
   have htl := text_le f (by simp only [good, Bool.and_eq_true] at hg; exact hg.2)
   have htn := text_ne hg
   have haof : aOf nilP (F.text f) = selfP := aOf_ne _ htn
   have hpos : 0 < (F.text f).length := List.length_pos_iff.2 htn
   refine awp_skip ?_
   refine seqK_normal ?_
   refine awp_seq ?_
   refine awp_region (by simp only [slimL, slim1, List.map_cons, List.map_nil, List.getElem?_toArray, List.getElem?_cons_succ, List.getElem?_cons_zero, Option.bind_some]; rfl) ?_
   refine regS_go 1 (by simp only [go_sem, hG, c0]; rfl) ?_
   refine regS_nil ?_
   refine seqK_ent (Ent.ghostH (k := 0) 1 0 1 5 1 rfl (Nat.le_of_ble_eq_true rfl) (Nat.le_of_ble_eq_true rfl) rfl) ?_
   refine awp_seq ?_
   refine awp_region (by simp only [slimL, slim1, List.map_cons, List.map_nil, List.getElem?_toArray, List.getElem?_cons_succ, List.getElem?_cons_zero, Option.bind_some]; rfl) ?_
   refine regS_go 1 (by simp only [go_sem, hG, c0]; rfl) ?_
   refine regS_call rfl (by simp only [go_sem, hG, c0]) rfl (by simp only [go_sem, hG, c0]; rfl) (by simp only [go_sem, hG, c0]; rfl) ?_
   refine callK_m [1, 2] (write_cc hG f hs hg nilP [] (.inl rfl) (by simp only [List.length_nil]; omega)) rfl rfl rfl (Nat.le_of_ble_eq_true rfl) (Nat.le_of_ble_eq_true rfl) (by simp only [go_sem]; decide) (hold12 nilP [] _) rfl (hin2 nilP [] (.inl rfl)) rfl (by simp only [outHs_2, byt_ren, haof]; rfl) ?_
   refine regS_go 0 (by simp only [go_sem, hG, c0]; rfl) ?_
   refine regS_nil ?_
   refine seqK_normal ?_
   refine awp_seq ?_
   refine awp_seq ?_
   refine awp_region (by simp only [slimL, slim1, List.map_cons, List.map_nil, List.getElem?_toArray, List.getElem?_cons_succ, List.getElem?_cons_zero, Option.bind_some]; rfl) ?_
   refine regS_go 0 (by simp only [go_sem, hG, c0]; rfl) ?_
   refine regS_call rfl (by simp only [go_sem, hG, c0]) rfl (by simp only [go_sem, hG, c0]; rfl) (by simp only [go_sem, hG, c0]; rfl) ?_
   refine callK_m [1, 2] (len_c selfP (.inr rfl) (F.text f)) rfl rfl rfl (Nat.le_of_ble_eq_true rfl) (Nat.le_of_ble_eq_true rfl) (by simp only [go_sem]; decide) (hold12 selfP (F.text f) _) rfl (hin2 selfP _ (.inr rfl)) rfl (by simp only [outHs_2, byt_ren, haof]; rfl) ?_
   refine regS_go 1 (by simp only [go_sem, hG, c0]; rfl) ?_
   refine regS_nil ?_
   refine seqK_normal ?_
   refine awp_cond (by simp only [go_sem, hG, c0]; rfl) (fun c1 => ?_) (fun c1 => ?_)
   · skip
     refine awp_seq ?_
     refine awp_region (by simp only [slimL, slim1, List.map_cons, List.map_nil, List.getElem?_toArray, List.getElem?_cons_succ, List.getElem?_cons_zero, Option.bind_some]; rfl) ?_
     refine regS_go 2 (by simp only [go_sem, hG, c0, c1]; rfl) ?_
     refine regS_nil ?_
     refine seqK_normal ?_
     refine awp_ret ?_
     refine seqK_ret ?_
     refine end_d (.inr rfl) (rs := [.tmp 2, .tmp 3]) rfl (by simp only [go_sem, hG, c0, c1]; rfl) ?_
     refine ⟨?_, rfl⟩
     simp only [formatS, formatE, c0, c1, Bool.and_true, Bool.true_and, Bool.and_false, Bool.false_and, Bool.or_true, Bool.true_or, Bool.or_false, Bool.false_or, Bool.not_true, Bool.not_false, Bool.false_eq_true, if_true, if_false, reduceIte]
   · skip
     refine awp_skip ?_
     refine seqK_normal ?_
     refine awp_seq ?_
     refine awp_region (by simp only [slimL, slim1, List.map_cons, List.map_nil, List.getElem?_toArray, List.getElem?_cons_succ, List.getElem?_cons_zero, Option.bind_some]; rfl) ?_
     refine regS_go 0 (by simp only [go_sem, hG, c0, c1]; rfl) ?_
     refine regS_call rfl (by simp only [go_sem, hG, c0, c1]) rfl (by simp only [go_sem, hG, c0, c1]; rfl) (by simp only [go_sem, hG, c0, c1]; rfl) ?_
     refine callK_m [1, 2] (string_c selfP (.inr rfl) (F.text f) hpos (by omega) (by omega)) rfl rfl rfl (Nat.le_of_ble_eq_true rfl) (Nat.le_of_ble_eq_true rfl) (by simp only [go_sem]; decide) (hold12 selfP (F.text f) _) rfl (hin2 selfP _ (.inr rfl)) rfl (by simp only [outHs_2, byt_ren, haof]; rfl) ?_
     refine regS_go 2 (by simp only [go_sem, hG, c0, c1]; rfl) ?_
     refine regS_nil ?_
     refine seqK_normal ?_
     refine awp_ret ?_
     refine end_d (.inr rfl) (rs := [.tmp 2, .tmp 3]) rfl (by simp only [go_sem, hG, c0, c1]; rfl) ?_
     refine ⟨?_, rfl⟩
     simp only [formatS, formatE, c0, c1, Bool.and_true, Bool.true_and, Bool.and_false, Bool.false_and, Bool.or_true, Bool.true_or, Bool.or_false, Bool.false_or, Bool.not_true, Bool.not_false, Bool.false_eq_true, if_true, if_false, reduceIte]
end Go.Proofs.YtccjhfmemghccaaDoor
