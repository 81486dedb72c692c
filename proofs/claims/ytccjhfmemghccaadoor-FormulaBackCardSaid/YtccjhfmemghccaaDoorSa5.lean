/- What functions of the program compute: lemmas. -/
import Derived.Test.YtccjhfmemghccaaDoorSa4
set_option linter.unusedSimpArgs false
set_option linter.unusedVariables false
set_option linter.unusedSectionVars false
namespace Go.Proofs.YtccjhfmemghccaaDoor
open Go Am
set_option maxRecDepth 100000
set_option maxHeartbeats 1000000
variable {G : Glob}
def wordsD : List D := [.str [], .str [], .str [], .str [], .str [], .str [32, 38, 32], .str [32, 124, 32], .str [32, 45, 62, 32], .str [32, 60, 45, 62, 32]]
def aOf (a : AV) (t : List UInt8) : AV := if t = [] then a else selfP
theorem aOf_ok {a : AV} (ha : a = nilP ∨ a = selfP) (t : List UInt8) : aOf a t = nilP ∨ aOf a t = selfP := by
 unfold aOf; split
 · exact ha
 · exact .inr rfl
theorem aOf_app (a : AV) (s t : List UInt8) : aOf (aOf a s) t = aOf a (s ++ t) := by
 unfold aOf
 by_cases h : s = [] <;> by_cases h' : t = [] <;> simp [h, h']
theorem aOf_ne (a : AV) {t : List UInt8} (h : t ≠ []) : aOf a t = selfP := if_neg h
abbrev boxF (f : F) : Blk := { fz := false, ap := false, ty := 30, sz := 3, rows := [[.d (.int .i64 f.op), .d (.str f.name), .d (.sl (F.encs f.args))]] }
def pre (f : F) (j : Nat) : List UInt8 := txt f j ++ (if decide ((j : Int) > 0) then wordO f.op else [])
theorem pre_s (f : F) (j : Nat) (h : j < f.args.length) : txt f (j + 1) = pre f j ++ (if decide (strength f.args[j] < neededO f.op j) then [40] ++ F.text f.args[j] ++ [41] else F.text f.args[j]) := by
 rw [txt_s f j h, F.piece, pre]; simp only [List.append_assoc]
theorem hinB (a : AV) (ha : a = nilP ∨ a = selfP) (l : List UInt8) (k : Nat) (hk : 2 ≤ k) : (bld a (bufA l)).rows.all (·.all (AV.inK k)) = true := by
 rcases ha with rfl | rfl <;> simp [bld, AV.inK] <;> omega
theorem bld_ren (a : AV) (ha : a = nilP ∨ a = selfP) (l : List UInt8) (id : Nat) : (bld a (bufA l)).ren (mOf [0, 1] id) = bld a (bufA l) := by
 rcases ha with rfl | rfl <;> rfl
theorem write_c (hG : G 0 = some wordsD) (n : Nat) (ih : ∀ g : F, g.size < n → good g = true → ∀ (a : AV) (l : List UInt8), (a = nilP ∨ a = selfP) → l.length + (F.text g).length ≤ 70368744177664 → CC Tryd.prog G 31 [bld a (bufA l), byt l] [selfP, encA g] [bld (aOf a (F.text g)) (bufA (l ++ F.text g)), byt (l ++ F.text g)] (.tup [])) (f : F) (hn : f.size ≤ n) (hs : n < 4611686018427387904) (hok : good f = true) (a : AV) (l : List UInt8) (ha : a = nilP ∨ a = selfP) (hl : l.length + (F.text f).length ≤ 70368744177664) : CC Tryd.prog G 31 [bld a (bufA l), byt l] [selfP, encA f] [bld (aOf a (F.text f)) (bufA (l ++ F.text f)), byt (l ++ F.text f)] (.tup []) := by
 refine CC.go Tryd.func31 rfl rfl Tryd.ntmps31 (k0 := 2) rfl (Nat.le_of_ble_eq_true rfl) (by rfl) (by rfl) ?_
 refine awp_seq ?_
 refine awp_region (by simp only [slimL, slim1, List.map_cons, List.map_nil, List.getElem?_toArray, List.getElem?_cons_succ, List.getElem?_cons_zero, Option.bind_some]; rfl) ?_
 refine regS_go 1 (by simp only [go_sem, hG]; rfl) ?_
 refine regS_nil ?_
 refine seqK_normal ?_
 refine awp_join (ι := Unit) (fun (x : Unit) => (match x with | u => ⟨Am.tl [selfP, .junk, .junk, .ptr 2 1 0 0], Am.hl [some (bld (aOf a (headO f.op f.name)) (bufA (l ++ headO f.op f.name))), some (byt (l ++ headO f.op f.name)), some (boxF f)], 3, 59⟩)) (fun x => match x with | u => True) ?_ ?_
 · rintro u hJ
   try dsimp only at hJ
   dsimp only
   refine awp_seq ?_
   refine awp_region (by simp only [slimL, slim1, List.map_cons, List.map_nil, List.getElem?_toArray, List.getElem?_cons_succ, List.getElem?_cons_zero, Option.bind_some]; rfl) ?_
   refine regS_go 4 (by simp only [go_sem, hG]; rfl) ?_
   refine regS_nil ?_
   refine seqK_normal ?_
   refine awp_block ?_
   refine awp_loopI (ι := Nat) (fun (x : Nat) => (match x with | j => ⟨Am.tl [selfP, .junk, .junk, .ptr 2 1 0 0, .junk, .junk, .junk, .junk, .junk, .junk, .junk, .junk, .junk, .junk, .junk, .junk, .junk, .junk, .junk, .junk, .junk, .junk, .junk, .junk, .junk, .junk, .junk, .d (.sl (F.encs f.args)), i64 (f.args.length : Int), i64 (j : Int)], Am.hl [some (bld (aOf a (txt f j)) (bufA (l ++ txt f j))), some (byt (l ++ txt f j)), some (boxF f)], 3, 59⟩)) (fun x => match x with | j => j ≤ f.args.length) (fun x => match x with | j => f.args.length - j) 0 ?_ ?_ ?_
   · refine Ent.cut (Nat.le_of_ble_eq_true rfl) (Nat.le_of_ble_eq_true rfl) (.keep rfl rfl (.junk (.junk (.keep rfl rfl (.junk (.junk (.junk (.junk (.junk (.junk (.junk (.junk (.junk (.junk (.junk (.junk (.junk (.junk (.junk (.junk (.junk (.junk (.junk (.junk (.junk (.junk (.junk (.keep rfl rfl (.keepE (by simp only [go_sem, hG]; rfl) (by rw [F.encs_len]) rfl (.keep rfl rfl (.nil _))))))))))))))))))))))))))))))) rfl (.cons (by rw [txt_0]; rfl) (.cons (by rw [txt_0]; rfl) (.cons (rfl) (.nil _ _)))) (by simp only [List.all_cons, List.all_nil, hinB _ (aOf_ok ha _) _ 3 (by decide), byt_in, AV.inK, Bool.and_true])
   · exact Nat.zero_le _
   · rintro j hI
     try dsimp only at hI
     dsimp only
     refine awp_seq ?_
     refine awp_region (by simp only [slimL, slim1, List.map_cons, List.map_nil, List.getElem?_toArray, List.getElem?_cons_succ, List.getElem?_cons_zero, Option.bind_some]; rfl) ?_
     refine regS_go 1 (by simp only [go_sem, hG]; rfl) ?_
     refine regS_nil ?_
     refine seqK_normal ?_
     refine awp_seq ?_
     refine awp_cond (by simp only [go_sem, hG]; rfl) (fun c0 => ?_) (fun c0 => ?_)
     · skip
       have hj : j < f.args.length := by simpa using c0
       have hget := F.encs_get f.args j hj
       have hen := F.enc_eq (f.args[j])
       have hlt := F.size_arg f j hj
       have hla := F.sizes_len f.args
       have hse := F.size_eq f
       have hts := txt_s f j hj
       have hle := txt_le f (j + 1) hj
       have hga := good_arg hok j hj
       rw [hts, List.length_append] at hle
       refine awp_skip ?_
       refine seqK_normal ?_
       refine awp_seq ?_
       refine awp_block ?_
       refine awp_seq ?_
       refine awp_region (by simp only [slimL, slim1, List.map_cons, List.map_nil, List.getElem?_toArray, List.getElem?_cons_succ, List.getElem?_cons_zero, Option.bind_some]; rfl) ?_
       refine regS_go 6 (by simp only [go_sem, hG, c0, hget, hen]; rfl) ?_
       refine regS_nil ?_
       refine seqK_normal ?_
       refine awp_join (ι := Unit) (fun (x : Unit) => (match x with | u => ⟨Am.tl [selfP, .junk, .junk, .ptr 2 1 0 0, i64 (j : Int), .ptr 3 1 0 0, .junk, .junk, .junk, .junk, .junk, .junk, .junk, .junk, .junk, .junk, .junk, .junk, .junk, .junk, .junk, .junk, .junk, .junk, .junk, .junk, .junk, .d (.sl (F.encs f.args)), i64 (f.args.length : Int), i64 (j : Int)], Am.hl [some (bld (aOf a (pre f j)) (bufA (l ++ pre f j))), some (byt (l ++ pre f j)), some (boxF f), some (boxF f.args[j])], 4, 59⟩)) (fun x => match x with | u => True) ?_ ?_
       · rintro u hJ
         try dsimp only at hJ
         dsimp only
         refine awp_seq ?_
         refine awp_regionD Tryd.mixed (by simp only [slimL, slim1, List.map_cons, List.map_nil, List.getElem?_toArray, List.getElem?_cons_succ, List.getElem?_cons_zero, Option.bind_some]; rfl) ?_
         refine regD_go 1 (by simp only [go_sem, hG, c0, hget, hen]; rfl) ?_
         refine regD_call rfl (by simp only [go_sem, hG, c0, hget, hen]) rfl (by simp only [go_sem, hG, c0, hget, hen]; rfl) (by simp only [go_sem, hG, c0, hget, hen]; rfl) ?_
         refine callK_d (strength_c _) rfl rfl rfl ?_
         refine regD_go 2 (by simp only [go_sem, hG, c0, hget, hen]; rfl) ?_
         refine regD_call rfl (by simp only [go_sem, hG, c0, hget, hen]) rfl (by simp only [go_sem, hG, c0, hget, hen]; rfl) (by simp only [go_sem, hG, c0, hget, hen]; rfl) ?_
         refine callK_d (needed_c f (j : Int) (by omega) (by omega)) rfl rfl rfl ?_
         refine regD_go 1 (by simp only [go_sem, hG, c0, hget, hen]; rfl) ?_
         refine regD_nil 4 (by kernel_rfl) ?_
         refine seqK_normal ?_
         refine awp_cond (by simp only [go_sem, hG, c0, hget, hen]; rfl) (fun c1 => ?_) (fun c1 => ?_)
         · skip
           have hp1 : txt f (j + 1) = pre f j ++ ([40] ++ F.text f.args[j] ++ [41]) := by
            rw [pre_s f j hj, ← needed_eq]; simp only [c1, if_true]
           have hle2 := txt_le f (j + 1) hj
           rw [hp1] at hle2
           simp only [List.length_append, List.length_cons, List.length_nil] at hle2
           refine awp_seq ?_
           refine awp_region (by simp only [slimL, slim1, List.map_cons, List.map_nil, List.getElem?_toArray, List.getElem?_cons_succ, List.getElem?_cons_zero, Option.bind_some]; rfl) ?_
           refine regS_go 1 (by simp only [go_sem, hG, c0, hget, hen, c1]; rfl) ?_
           refine regS_call rfl (by simp only [go_sem, hG, c0, hget, hen, c1]) rfl (by simp only [go_sem, hG, c0, hget, hen, c1]; rfl) (by simp only [go_sem, hG, c0, hget, hen, c1]; rfl) ?_
           refine callK_m [0, 1] (writeByte_c (aOf a (pre f j)) (aOf_ok ha _) (l ++ pre f j) 40 (by rw [List.length_append]; omega) (by rw [List.length_append]; omega)) rfl rfl rfl (Nat.le_of_ble_eq_true rfl) (Nat.le_of_ble_eq_true rfl) (by simp only [go_sem]; decide) (hold2 (aOf a (pre f j)) (l ++ pre f j) (aOf_ok ha _) _) rfl (hin2 (aOf a (pre f j)) (l ++ pre f j) (aOf_ok ha _)) rfl (by simp only [outHs_2, byt_ren]; rfl) ?_
           refine regS_go 0 (by simp only [go_sem, hG, c0, hget, hen, c1]; rfl) ?_
           refine regS_nil ?_
           refine seqK_normal ?_
           refine awp_seq ?_
           refine awp_region (by simp only [slimL, slim1, List.map_cons, List.map_nil, List.getElem?_toArray, List.getElem?_cons_succ, List.getElem?_cons_zero, Option.bind_some]; rfl) ?_
           refine regS_go 2 (by simp only [go_sem, hG, c0, hget, hen, c1]; rfl) ?_
           refine regS_call rfl (by simp only [go_sem, hG, c0, hget, hen, c1]) rfl (by simp only [go_sem, hG, c0, hget, hen, c1]; rfl) (by simp only [go_sem, hG, c0, hget, hen, c1]; rfl) ?_
           refine callK_m [0, 1] (ih f.args[j] (by omega) hga selfP ((l ++ pre f j) ++ [40]) (.inr rfl) (by simp only [List.length_append, List.length_cons, List.length_nil]; omega)) rfl rfl rfl (Nat.le_of_ble_eq_true rfl) (Nat.le_of_ble_eq_true rfl) (by simp only [go_sem]; decide) (hold2 selfP _ (.inr rfl) _) rfl (hin2 selfP _ (.inr rfl)) rfl (by simp only [outHs_2, byt_ren, bld_ren _ (aOf_ok (.inr rfl) _)]; rfl) ?_
           refine regS_go 0 (by simp only [go_sem, hG, c0, hget, hen, c1]; rfl) ?_
           refine regS_nil ?_
           refine seqK_normal ?_
           refine awp_region (by simp only [slimL, slim1, List.map_cons, List.map_nil, List.getElem?_toArray, List.getElem?_cons_succ, List.getElem?_cons_zero, Option.bind_some]; rfl) ?_
           refine regS_go 1 (by simp only [go_sem, hG, c0, hget, hen, c1]; rfl) ?_
           refine regS_call rfl (by simp only [go_sem, hG, c0, hget, hen, c1]) rfl (by simp only [go_sem, hG, c0, hget, hen, c1]; rfl) (by simp only [go_sem, hG, c0, hget, hen, c1]; rfl) ?_
           refine callK_m [0, 1] (writeByte_c (aOf selfP (F.text f.args[j])) (aOf_ok (.inr rfl) _) (((l ++ pre f j) ++ [40]) ++ F.text f.args[j]) 41 (by simp only [List.length_append, List.length_cons, List.length_nil]; omega) (by simp only [List.length_append, List.length_cons, List.length_nil]; omega)) rfl rfl rfl (Nat.le_of_ble_eq_true rfl) (Nat.le_of_ble_eq_true rfl) (by simp only [go_sem]; decide) (hold2 _ _ (aOf_ok (.inr rfl) _) _) rfl (hin2 _ _ (aOf_ok (.inr rfl) _)) rfl (by simp only [outHs_2, byt_ren]; rfl) ?_
           refine regS_go 0 (by simp only [go_sem, hG, c0, hget, hen, c1]; rfl) ?_
           refine regS_nil ?_
           refine blockK_normal ?_
           refine seqK_normal ?_
           refine awp_region (by simp only [slimL, slim1, List.map_cons, List.map_nil, List.getElem?_toArray, List.getElem?_cons_succ, List.getElem?_cons_zero, Option.bind_some]; rfl) ?_
           refine regS_go 2 (by simp only [go_sem, hG, c0, hget, hen, c1]; rfl) ?_
           refine regS_nil ?_
           refine loopI_normal (j + 1) ?_ ?_ ?_
           · refine Ent.cut (Nat.le_of_ble_eq_true rfl) (Nat.le_of_ble_eq_true rfl) (.keep rfl rfl (.junk (.junk (.keep rfl rfl (.junk (.junk (.junk (.junk (.junk (.junk (.junk (.junk (.junk (.junk (.junk (.junk (.junk (.junk (.junk (.junk (.junk (.junk (.junk (.junk (.junk (.junk (.junk (.keep rfl rfl (.keep rfl rfl (.keepE (by simp only [go_sem, hG, c0, hget, hen, c1]; rfl) (by rw [wr (by omega) (by omega)]; rfl) rfl (.nil _))))))))))))))))))))))))))))))) rfl (.cons (by first | (rw [hp1, aOf_ne a (t := pre f j ++ ([40] ++ F.text f.args[j] ++ [41])) (by simp)]; simp only [← List.append_assoc]; rfl) | (rw [hp1, ← aOf_app, ← List.append_assoc]; rfl)) (.cons (by first | (rw [hp1]; simp only [← List.append_assoc]; rfl) | (rw [hp1, ← List.append_assoc]; rfl)) (.cons (rfl) (.nil _ _)))) (by simp only [List.all_cons, List.all_nil, hinB _ (aOf_ok ha _) _ 3 (by decide), byt_in, AV.inK, Bool.and_true])
           · exact hj
           · omega
         · skip
           have hp1 : txt f (j + 1) = pre f j ++ F.text f.args[j] := by
            rw [pre_s f j hj, ← needed_eq]; simp only [c1, Bool.false_eq_true, if_false]
           have hle2 := txt_le f (j + 1) hj
           rw [hp1] at hle2
           simp only [List.length_append] at hle2
           refine awp_region (by simp only [slimL, slim1, List.map_cons, List.map_nil, List.getElem?_toArray, List.getElem?_cons_succ, List.getElem?_cons_zero, Option.bind_some]; rfl) ?_
           refine regS_go 2 (by simp only [go_sem, hG, c0, hget, hen, c1]; rfl) ?_
           refine regS_call rfl (by simp only [go_sem, hG, c0, hget, hen, c1]) rfl (by simp only [go_sem, hG, c0, hget, hen, c1]; rfl) (by simp only [go_sem, hG, c0, hget, hen, c1]; rfl) ?_
           refine callK_m [0, 1] (ih f.args[j] (by omega) hga (aOf a (pre f j)) (l ++ pre f j) (aOf_ok ha _) (by rw [List.length_append]; omega)) rfl rfl rfl (Nat.le_of_ble_eq_true rfl) (Nat.le_of_ble_eq_true rfl) (by simp only [go_sem]; decide) (hold2 _ _ (aOf_ok ha _) _) rfl (hin2 _ _ (aOf_ok ha _)) rfl (by simp only [outHs_2, byt_ren, bld_ren _ (aOf_ok (aOf_ok ha _) _)]; rfl) ?_
           refine regS_go 0 (by simp only [go_sem, hG, c0, hget, hen, c1]; rfl) ?_
           refine regS_nil ?_
           refine blockK_normal ?_
           refine seqK_normal ?_
           refine awp_region (by simp only [slimL, slim1, List.map_cons, List.map_nil, List.getElem?_toArray, List.getElem?_cons_succ, List.getElem?_cons_zero, Option.bind_some]; rfl) ?_
           refine regS_go 2 (by simp only [go_sem, hG, c0, hget, hen, c1]; rfl) ?_
           refine regS_nil ?_
           refine loopI_normal (j + 1) ?_ ?_ ?_
           · refine Ent.cut (Nat.le_of_ble_eq_true rfl) (Nat.le_of_ble_eq_true rfl) (.keep rfl rfl (.junk (.junk (.keep rfl rfl (.junk (.junk (.junk (.junk (.junk (.junk (.junk (.junk (.junk (.junk (.junk (.junk (.junk (.junk (.junk (.junk (.junk (.junk (.junk (.junk (.junk (.junk (.junk (.keep rfl rfl (.keep rfl rfl (.keepE (by simp only [go_sem, hG, c0, hget, hen, c1]; rfl) (by rw [wr (by omega) (by omega)]; rfl) rfl (.nil _))))))))))))))))))))))))))))))) rfl (.cons (by first | (rw [hp1, aOf_ne a (t := pre f j ++ ([40] ++ F.text f.args[j] ++ [41])) (by simp)]; simp only [← List.append_assoc]; rfl) | (rw [hp1, ← aOf_app, ← List.append_assoc]; rfl)) (.cons (by first | (rw [hp1]; simp only [← List.append_assoc]; rfl) | (rw [hp1, ← List.append_assoc]; rfl)) (.cons (rfl) (.nil _ _)))) (by simp only [List.all_cons, List.all_nil, hinB _ (aOf_ok ha _) _ 3 (by decide), byt_in, AV.inK, Bool.and_true])
           · exact hj
           · omega
       · skip
         refine awp_seq ?_
         refine awp_region (by simp only [slimL, slim1, List.map_cons, List.map_nil, List.getElem?_toArray, List.getElem?_cons_succ, List.getElem?_cons_zero, Option.bind_some]; rfl) ?_
         refine regS_go 2 (by simp only [go_sem, hG, c0, hget, hen]; rfl) ?_
         refine regS_nil ?_
         refine seqK_normal ?_
         refine awp_cond (by simp only [go_sem, hG, c0, hget, hen]; rfl) (fun c2 => ?_) (fun c2 => ?_)
         · skip
           have hj0 : 0 < j := by simpa using c2
           have hop := op_many hok j hj hj0
           have hw1 : 0 ≤ f.op := by omega
           have hw2 : f.op < ((9 : Nat) : Int) := by omega
           have hw3 : (wordsD.drop (f.op.toNat * 1))[0]? = some (.str (wordO f.op)) := by
            rcases hop with h | h | h | h <;> rw [h] <;> rfl
           have hwl : (wordO f.op).length ≤ (F.piece f.op j f.args[j]).length := by
            simp only [F.piece, c2, if_true, List.length_append]; omega
           refine awp_region (by simp only [slimL, slim1, List.map_cons, List.map_nil, List.getElem?_toArray, List.getElem?_cons_succ, List.getElem?_cons_zero, Option.bind_some]; rfl) ?_
           refine regS_go 5 (by simp only [go_sem, hG, c0, hget, hen, c2, hw1, hw2, hw3]; rfl) ?_
           refine regS_call rfl (by simp only [go_sem, hG, c0, hget, hen, c2, hw1, hw2, hw3]) rfl (by simp only [go_sem, hG, c0, hget, hen, c2, hw1, hw2, hw3]; rfl) (by simp only [go_sem, hG, c0, hget, hen, c2, hw1, hw2, hw3]; rfl) ?_
           refine callK_m [0, 1] (writeString_c (aOf a (txt f j)) (aOf_ok ha _) (l ++ txt f j) (wordO f.op) (by rw [List.length_append]; omega) (by rw [List.length_append]; omega)) rfl rfl rfl (Nat.le_of_ble_eq_true rfl) (Nat.le_of_ble_eq_true rfl) (by simp only [go_sem]; decide) (hold2 (aOf a (txt f j)) (l ++ txt f j) (aOf_ok ha _) _) rfl (hin2 (aOf a (txt f j)) (l ++ txt f j) (aOf_ok ha _)) rfl (by simp only [outHs_2, byt_ren]; rfl) ?_
           refine regS_go 0 (by simp only [go_sem, hG, c0, hget, hen, c2, hw1, hw2, hw3]; rfl) ?_
           refine regS_nil ?_
           refine joinK_normal () ?_ ?_
           · refine Ent.cut (Nat.le_of_ble_eq_true rfl) (Nat.le_of_ble_eq_true rfl) (.keep rfl rfl (.junk (.junk (.keep rfl rfl (.keep rfl rfl (.keep rfl rfl (.junk (.junk (.junk (.junk (.junk (.junk (.junk (.junk (.junk (.junk (.junk (.junk (.junk (.junk (.junk (.junk (.junk (.junk (.junk (.junk (.junk (.keep rfl rfl (.keep rfl rfl (.keep rfl rfl (.nil _))))))))))))))))))))))))))))))) rfl (.cons (by (have hp : pre f j = txt f j ++ wordO f.op := (by simp only [pre, c2, if_true])); rw [hp, aOf_ne a (t := txt f j ++ wordO f.op) (by simp [wordO_ne]), ← List.append_assoc]; rfl) (.cons (by (have hp : pre f j = txt f j ++ wordO f.op := (by simp only [pre, c2, if_true])); rw [hp, ← List.append_assoc]; rfl) (.cons (rfl) (.cons (rfl) (.nil _ _))))) (by simp only [List.all_cons, List.all_nil, hinB _ (aOf_ok ha _) _ 4 (by decide), byt_in, AV.inK, Bool.and_true])
           · trivial
         · skip
           refine awp_skip ?_
           refine joinK_normal () ?_ ?_
           · refine Ent.cut (Nat.le_of_ble_eq_true rfl) (Nat.le_of_ble_eq_true rfl) (.keep rfl rfl (.junk (.junk (.keep rfl rfl (.keep rfl rfl (.keep rfl rfl (.junk (.junk (.junk (.junk (.junk (.junk (.junk (.junk (.junk (.junk (.junk (.junk (.junk (.junk (.junk (.junk (.junk (.junk (.junk (.junk (.junk (.keep rfl rfl (.keep rfl rfl (.keep rfl rfl (.nil _))))))))))))))))))))))))))))))) rfl (.cons (by (have hp : pre f j = txt f j := (by simp only [pre, c2, Bool.false_eq_true, if_false, List.append_nil])); rw [hp]; rfl) (.cons (by (have hp : pre f j = txt f j := (by simp only [pre, c2, Bool.false_eq_true, if_false, List.append_nil])); rw [hp]; rfl) (.cons (rfl) (.cons (rfl) (.nil _ _))))) (by simp only [List.all_cons, List.all_nil, hinB _ (aOf_ok ha _) _ 4 (by decide), byt_in, AV.inK, Bool.and_true])
           · trivial
     · skip
       refine awp_exit ?_
       refine seqK_exit (loopI_exit (blockK_exit ?_))
       refine end_m (.inl rfl) (rs := []) rfl (by simp only [go_sem, hG, c0]; rfl) ?_ ?_ (Nat.le_of_ble_eq_true rfl) (hin2 _ _ (aOf_ok ha _)) (by rfl)
       · rfl
       · have hj : j = f.args.length := by simp at c0; omega
         rw [← txt_end f, ← hj]
         exact .cons rfl (.cons rfl (.nil _ _))
 · skip
   refine awp_seq ?_
   refine awp_region (by simp only [slimL, slim1, List.map_cons, List.map_nil, List.getElem?_toArray, List.getElem?_cons_succ, List.getElem?_cons_zero, Option.bind_some]; rfl) ?_
   refine regS_go 2 (by simp only [go_sem, hG]; rfl) ?_
   refine regS_nil ?_
   refine seqK_normal ?_
   refine awp_block ?_
   refine awp_seq ?_
   refine awp_region (by simp only [slimL, slim1, List.map_cons, List.map_nil, List.getElem?_toArray, List.getElem?_cons_succ, List.getElem?_cons_zero, Option.bind_some]; rfl) ?_
   refine regS_go 2 (by simp only [go_sem, hG]; rfl) ?_
   refine regS_nil ?_
   refine seqK_normal ?_
   refine awp_cond (by simp only [go_sem, hG]; rfl) (fun c3 => ?_) (fun c3 => ?_)
   · skip
     refine awp_region (by simp only [slimL, slim1, List.map_cons, List.map_nil, List.getElem?_toArray, List.getElem?_cons_succ, List.getElem?_cons_zero, Option.bind_some]; rfl) ?_
     refine regS_go 1 (by simp only [go_sem, hG, c3]; rfl) ?_
     refine regS_call rfl (by simp only [go_sem, hG, c3]) rfl (by simp only [go_sem, hG, c3]; rfl) (by simp only [go_sem, hG, c3]; rfl) ?_
     refine callK_m [0, 1] (writeByte_c a ha l 49 (by omega) (by omega)) rfl rfl rfl (Nat.le_of_ble_eq_true rfl) (Nat.le_of_ble_eq_true rfl) (by simp only [go_sem]; decide) (hold2 a l ha _) rfl (hin2 a l ha) rfl (by simp only [outHs_2, byt_ren]; rfl) ?_
     refine regS_go 0 (by simp only [go_sem, hG, c3]; rfl) ?_
     refine regS_nil ?_
     refine blockK_normal ?_
     refine joinK_normal () ?_ ?_
     · refine Ent.cut (Nat.le_of_ble_eq_true rfl) (Nat.le_of_ble_eq_true rfl) (.keep rfl rfl (.junk (.junk (.keep rfl rfl (.nil _))))) rfl (.cons (by have hh : headO f.op f.name = [49] := (by simp only [headO, c3, Bool.and_true, Bool.true_and, Bool.and_false, Bool.false_and, Bool.or_true, Bool.true_or, Bool.or_false, Bool.false_or, Bool.not_true, Bool.not_false, Bool.false_eq_true, if_true, if_false, reduceIte]); rw [hh, aOf_ne a (by simp)]; rfl) (.cons (by have hh : headO f.op f.name = [49] := (by simp only [headO, c3, Bool.and_true, Bool.true_and, Bool.and_false, Bool.false_and, Bool.or_true, Bool.true_or, Bool.or_false, Bool.false_or, Bool.not_true, Bool.not_false, Bool.false_eq_true, if_true, if_false, reduceIte]); rw [hh]; rfl) (.cons (rfl) (.nil _ _)))) (by simp only [List.all_cons, List.all_nil, hinB _ (aOf_ok ha _) _ 3 (by decide), byt_in, AV.inK, Bool.and_true])
     · trivial
   · skip
     refine awp_seq ?_
     refine awp_region (by simp only [slimL, slim1, List.map_cons, List.map_nil, List.getElem?_toArray, List.getElem?_cons_succ, List.getElem?_cons_zero, Option.bind_some]; rfl) ?_
     refine regS_go 2 (by simp only [go_sem, hG, c3]; rfl) ?_
     refine regS_nil ?_
     refine seqK_normal ?_
     refine awp_cond (by simp only [go_sem, hG, c3]; rfl) (fun c4 => ?_) (fun c4 => ?_)
     · skip
       refine awp_region (by simp only [slimL, slim1, List.map_cons, List.map_nil, List.getElem?_toArray, List.getElem?_cons_succ, List.getElem?_cons_zero, Option.bind_some]; rfl) ?_
       refine regS_go 1 (by simp only [go_sem, hG, c3, c4]; rfl) ?_
       refine regS_call rfl (by simp only [go_sem, hG, c3, c4]) rfl (by simp only [go_sem, hG, c3, c4]; rfl) (by simp only [go_sem, hG, c3, c4]; rfl) ?_
       refine callK_m [0, 1] (writeByte_c a ha l 48 (by omega) (by omega)) rfl rfl rfl (Nat.le_of_ble_eq_true rfl) (Nat.le_of_ble_eq_true rfl) (by simp only [go_sem]; decide) (hold2 a l ha _) rfl (hin2 a l ha) rfl (by simp only [outHs_2, byt_ren]; rfl) ?_
       refine regS_go 0 (by simp only [go_sem, hG, c3, c4]; rfl) ?_
       refine regS_nil ?_
       refine blockK_normal ?_
       refine joinK_normal () ?_ ?_
       · refine Ent.cut (Nat.le_of_ble_eq_true rfl) (Nat.le_of_ble_eq_true rfl) (.keep rfl rfl (.junk (.junk (.keep rfl rfl (.nil _))))) rfl (.cons (by have hh : headO f.op f.name = [48] := (by simp only [headO, c3, c4, Bool.and_true, Bool.true_and, Bool.and_false, Bool.false_and, Bool.or_true, Bool.true_or, Bool.or_false, Bool.false_or, Bool.not_true, Bool.not_false, Bool.false_eq_true, if_true, if_false, reduceIte]); rw [hh, aOf_ne a (by simp)]; rfl) (.cons (by have hh : headO f.op f.name = [48] := (by simp only [headO, c3, c4, Bool.and_true, Bool.true_and, Bool.and_false, Bool.false_and, Bool.or_true, Bool.true_or, Bool.or_false, Bool.false_or, Bool.not_true, Bool.not_false, Bool.false_eq_true, if_true, if_false, reduceIte]); rw [hh]; rfl) (.cons (rfl) (.nil _ _)))) (by simp only [List.all_cons, List.all_nil, hinB _ (aOf_ok ha _) _ 3 (by decide), byt_in, AV.inK, Bool.and_true])
       · trivial
     · skip
       refine awp_seq ?_
       refine awp_region (by simp only [slimL, slim1, List.map_cons, List.map_nil, List.getElem?_toArray, List.getElem?_cons_succ, List.getElem?_cons_zero, Option.bind_some]; rfl) ?_
       refine regS_go 2 (by simp only [go_sem, hG, c3, c4]; rfl) ?_
       refine regS_nil ?_
       refine seqK_normal ?_
       refine awp_cond (by simp only [go_sem, hG, c3, c4]; rfl) (fun c5 => ?_) (fun c5 => ?_)
       · skip
         refine awp_region (by simp only [slimL, slim1, List.map_cons, List.map_nil, List.getElem?_toArray, List.getElem?_cons_succ, List.getElem?_cons_zero, Option.bind_some]; rfl) ?_
         refine regS_go 3 (by simp only [go_sem, hG, c3, c4, c5]; rfl) ?_
         refine regS_call rfl (by simp only [go_sem, hG, c3, c4, c5]) rfl (by simp only [go_sem, hG, c3, c4, c5]; rfl) (by simp only [go_sem, hG, c3, c4, c5]; rfl) ?_
         refine callK_m [0, 1] (writeString_c a ha l f.name (by (have hh : headO f.op f.name = f.name := (by simp only [headO, c3, c4, c5, Bool.and_true, Bool.true_and, Bool.and_false, Bool.false_and, Bool.or_true, Bool.true_or, Bool.or_false, Bool.false_or, Bool.not_true, Bool.not_false, Bool.false_eq_true, if_true, if_false, reduceIte])); (have h0 := txt_le f 0 (Nat.zero_le _)); rw [txt_0, hh] at h0; omega) (by (have hh : headO f.op f.name = f.name := (by simp only [headO, c3, c4, c5, Bool.and_true, Bool.true_and, Bool.and_false, Bool.false_and, Bool.or_true, Bool.true_or, Bool.or_false, Bool.false_or, Bool.not_true, Bool.not_false, Bool.false_eq_true, if_true, if_false, reduceIte])); (have h0 := txt_le f 0 (Nat.zero_le _)); rw [txt_0, hh] at h0; omega)) rfl rfl rfl (Nat.le_of_ble_eq_true rfl) (Nat.le_of_ble_eq_true rfl) (by simp only [go_sem]; decide) (hold2 a l ha _) rfl (hin2 a l ha) rfl (by simp only [outHs_2, byt_ren]; rfl) ?_
         refine regS_go 0 (by simp only [go_sem, hG, c3, c4, c5]; rfl) ?_
         refine regS_nil ?_
         refine blockK_normal ?_
         refine joinK_normal () ?_ ?_
         · refine Ent.cut (Nat.le_of_ble_eq_true rfl) (Nat.le_of_ble_eq_true rfl) (.keep rfl rfl (.junk (.junk (.keep rfl rfl (.nil _))))) rfl (.cons (by have hh : headO f.op f.name = f.name := (by simp only [headO, c3, c4, c5, Bool.and_true, Bool.true_and, Bool.and_false, Bool.false_and, Bool.or_true, Bool.true_or, Bool.or_false, Bool.false_or, Bool.not_true, Bool.not_false, Bool.false_eq_true, if_true, if_false, reduceIte]); rw [hh, aOf_ne a (name_ne hok c5)]; rfl) (.cons (by have hh : headO f.op f.name = f.name := (by simp only [headO, c3, c4, c5, Bool.and_true, Bool.true_and, Bool.and_false, Bool.false_and, Bool.or_true, Bool.true_or, Bool.or_false, Bool.false_or, Bool.not_true, Bool.not_false, Bool.false_eq_true, if_true, if_false, reduceIte]); rw [hh]; rfl) (.cons (rfl) (.nil _ _)))) (by simp only [List.all_cons, List.all_nil, hinB _ (aOf_ok ha _) _ 3 (by decide), byt_in, AV.inK, Bool.and_true])
         · trivial
       · skip
         refine awp_seq ?_
         refine awp_region (by simp only [slimL, slim1, List.map_cons, List.map_nil, List.getElem?_toArray, List.getElem?_cons_succ, List.getElem?_cons_zero, Option.bind_some]; rfl) ?_
         refine regS_go 2 (by simp only [go_sem, hG, c3, c4, c5]; rfl) ?_
         refine regS_nil ?_
         refine seqK_normal ?_
         refine awp_cond (by simp only [go_sem, hG, c3, c4, c5]; rfl) (fun c6 => ?_) (fun c6 => ?_)
         · skip
           refine awp_region (by simp only [slimL, slim1, List.map_cons, List.map_nil, List.getElem?_toArray, List.getElem?_cons_succ, List.getElem?_cons_zero, Option.bind_some]; rfl) ?_
           refine regS_go 1 (by simp only [go_sem, hG, c3, c4, c5, c6]; rfl) ?_
           refine regS_call rfl (by simp only [go_sem, hG, c3, c4, c5, c6]) rfl (by simp only [go_sem, hG, c3, c4, c5, c6]; rfl) (by simp only [go_sem, hG, c3, c4, c5, c6]; rfl) ?_
           refine callK_m [0, 1] (writeByte_c a ha l 126 (by omega) (by omega)) rfl rfl rfl (Nat.le_of_ble_eq_true rfl) (Nat.le_of_ble_eq_true rfl) (by simp only [go_sem]; decide) (hold2 a l ha _) rfl (hin2 a l ha) rfl (by simp only [outHs_2, byt_ren]; rfl) ?_
           refine regS_go 0 (by simp only [go_sem, hG, c3, c4, c5, c6]; rfl) ?_
           refine regS_nil ?_
           refine blockK_normal ?_
           refine joinK_normal () ?_ ?_
           · refine Ent.cut (Nat.le_of_ble_eq_true rfl) (Nat.le_of_ble_eq_true rfl) (.keep rfl rfl (.junk (.junk (.keep rfl rfl (.nil _))))) rfl (.cons (by have hh : headO f.op f.name = [126] := (by simp only [headO, c3, c4, c5, c6, Bool.and_true, Bool.true_and, Bool.and_false, Bool.false_and, Bool.or_true, Bool.true_or, Bool.or_false, Bool.false_or, Bool.not_true, Bool.not_false, Bool.false_eq_true, if_true, if_false, reduceIte]); rw [hh, aOf_ne a (by simp)]; rfl) (.cons (by have hh : headO f.op f.name = [126] := (by simp only [headO, c3, c4, c5, c6, Bool.and_true, Bool.true_and, Bool.and_false, Bool.false_and, Bool.or_true, Bool.true_or, Bool.or_false, Bool.false_or, Bool.not_true, Bool.not_false, Bool.false_eq_true, if_true, if_false, reduceIte]); rw [hh]; rfl) (.cons (rfl) (.nil _ _)))) (by simp only [List.all_cons, List.all_nil, hinB _ (aOf_ok ha _) _ 3 (by decide), byt_in, AV.inK, Bool.and_true])
           · trivial
         · skip
           refine awp_skip ?_
           refine blockK_normal ?_
           refine joinK_normal () ?_ ?_
           · refine Ent.cut (Nat.le_of_ble_eq_true rfl) (Nat.le_of_ble_eq_true rfl) (.keep rfl rfl (.junk (.junk (.keep rfl rfl (.nil _))))) rfl (.cons (by have hh : headO f.op f.name = [] := (by simp only [headO, c3, c4, c5, c6, Bool.and_true, Bool.true_and, Bool.and_false, Bool.false_and, Bool.or_true, Bool.true_or, Bool.or_false, Bool.false_or, Bool.not_true, Bool.not_false, Bool.false_eq_true, if_true, if_false, reduceIte]); rw [hh, List.append_nil]; rfl) (.cons (by have hh : headO f.op f.name = [] := (by simp only [headO, c3, c4, c5, c6, Bool.and_true, Bool.true_and, Bool.and_false, Bool.false_and, Bool.or_true, Bool.true_or, Bool.or_false, Bool.false_or, Bool.not_true, Bool.not_false, Bool.false_eq_true, if_true, if_false, reduceIte]); rw [hh, List.append_nil]; rfl) (.cons (rfl) (.nil _ _)))) (by simp only [List.all_cons, List.all_nil, hinB _ (aOf_ok ha _) _ 3 (by decide), byt_in, AV.inK, Bool.and_true])
           · trivial
end Go.Proofs.YtccjhfmemghccaaDoor
