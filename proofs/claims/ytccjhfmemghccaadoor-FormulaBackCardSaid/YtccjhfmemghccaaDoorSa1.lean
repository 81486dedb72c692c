/- What functions of the program compute: lemmas. -/
import Derived.Test.YtccjhfmemghccaaDoorSaTy
import Derived.Test.YtccjhfmemghccaaDoorAm4
set_option linter.unusedSimpArgs false
set_option linter.unusedVariables false
set_option linter.unusedSectionVars false
namespace Go.Proofs.YtccjhfmemghccaaDoor
open Go Am
set_option maxRecDepth 100000
set_option maxHeartbeats 1000000
abbrev i64 (n : Int) : AV := .d (.int .i64 n)
theorem Tryd.mixed : Tryd.prog.follows .mixedOrders = true := by kernel_rfl
abbrev encA (f : F) : AV := .agg [.d (.int .i64 f.op), .d (.str f.name), .d (.sl (F.encs f.args))]
variable {G : Glob}
theorem size_c (n : Nat) (ih : ∀ g : F, g.size < n → CC Tryd.prog G 22 [] [encA g] [] (i64 g.size)) (f : F) (hn : f.size ≤ n) (hs : n < 4611686018427387904) : CC Tryd.prog G 22 [] [encA f] [] (i64 f.size) := by
 refine CC.go Tryd.func22 rfl rfl Tryd.ntmps22 (k0 := 0) rfl (Nat.le_of_ble_eq_true rfl) (by rfl) (by rfl) ?_
 refine awp_seq ?_
 refine awp_region (by simp only [slimL, slim1, List.map_cons, List.map_nil, List.getElem?_toArray, List.getElem?_cons_succ, List.getElem?_cons_zero, Option.bind_some]; rfl) ?_
 refine regS_go 2 (by simp only [go_sem]; rfl) ?_
 refine regS_nil ?_
 refine seqK_normal ?_
 refine awp_seq ?_
 refine awp_region (by simp only [slimL, slim1, List.map_cons, List.map_nil, List.getElem?_toArray, List.getElem?_cons_succ, List.getElem?_cons_zero, Option.bind_some]; rfl) ?_
 refine regS_go 1 (by simp only [go_sem]; rfl) ?_
 refine regS_nil ?_
 refine seqK_normal ?_
 refine awp_seq ?_
 refine awp_seq ?_
 refine awp_region (by simp only [slimL, slim1, List.map_cons, List.map_nil, List.getElem?_toArray, List.getElem?_cons_succ, List.getElem?_cons_zero, Option.bind_some]; rfl) ?_
 refine regS_go 4 (by simp only [go_sem]; rfl) ?_
 refine regS_nil ?_
 refine seqK_normal ?_
 refine awp_block ?_
 refine awp_loopI (ι := Nat) (fun (x : Nat) => (match x with | j => ⟨tl [.junk, .junk, .junk, i64 ((1 + F.sizes (f.args.take j) : Nat) : Int), .junk, .junk, .junk, .d (.sl (F.encs f.args)), i64 (f.args.length : Int), i64 (j : Int)], hl [], 0, 19⟩)) (fun x => match x with | j => j ≤ f.args.length) (fun x => match x with | j => f.args.length - j) 0 ?_ ?_ ?_
 · refine Ent.cut (Nat.le_of_ble_eq_true rfl) (Nat.le_of_ble_eq_true rfl) (.junk (.junk (.junk (.keepE (by simp only [go_sem]; rfl) (by simp [F.sizes]) rfl (.junk (.junk (.junk (.keep rfl rfl (.keepE (by simp only [go_sem]; rfl) (by rw [F.encs_len]) rfl (.keep rfl rfl (.nil _))))))))))) rfl (.nil _ _) (rfl)
 · exact Nat.zero_le _
 · rintro j hI
   try dsimp only at hI
   dsimp only
   refine awp_seq ?_
   refine awp_region (by simp only [slimL, slim1, List.map_cons, List.map_nil, List.getElem?_toArray, List.getElem?_cons_succ, List.getElem?_cons_zero, Option.bind_some]; rfl) ?_
   refine regS_go 1 (by simp only [go_sem]; rfl) ?_
   refine regS_nil ?_
   refine seqK_normal ?_
   refine awp_seq ?_
   refine awp_cond (by simp only [go_sem]; rfl) (fun c0 => ?_) (fun c0 => ?_)
   · skip
     have hj : j < f.args.length := by simpa using c0
     have hget := F.encs_get f.args j hj
     have hen := F.enc_eq (f.args[j])
     have hlt := F.size_arg f j hj
     have hla := F.sizes_len f.args
     have hst := F.sizes_take_le f.args (j + 1)
     have hst2 := F.sizes_take f.args j hj
     have hse := F.size_eq f
     refine awp_skip ?_
     refine seqK_normal ?_
     refine awp_seq ?_
     refine awp_block ?_
     refine awp_seq ?_
     refine awp_region (by simp only [slimL, slim1, List.map_cons, List.map_nil, List.getElem?_toArray, List.getElem?_cons_succ, List.getElem?_cons_zero, Option.bind_some]; rfl) ?_
     refine regS_go 4 (by simp only [go_sem, c0, hget, hen]; rfl) ?_
     refine regS_nil ?_
     refine seqK_normal ?_
     refine awp_region (by simp only [slimL, slim1, List.map_cons, List.map_nil, List.getElem?_toArray, List.getElem?_cons_succ, List.getElem?_cons_zero, Option.bind_some]; rfl) ?_
     refine regS_go 2 (by simp only [go_sem, c0, hget, hen]; rfl) ?_
     refine regS_call rfl (by simp only [go_sem, c0, hget, hen]) rfl (by simp only [go_sem, c0, hget, hen]; rfl) (by simp only [go_sem, c0, hget, hen]; rfl) ?_
     refine callK_d (ih (f.args[j]) (by omega)) rfl rfl rfl ?_
     refine regS_go 2 (by simp only [go_sem, c0, hget, hen]; rfl) ?_
     refine regS_nil ?_
     refine blockK_normal ?_
     refine seqK_normal ?_
     refine awp_region (by simp only [slimL, slim1, List.map_cons, List.map_nil, List.getElem?_toArray, List.getElem?_cons_succ, List.getElem?_cons_zero, Option.bind_some]; rfl) ?_
     refine regS_go 2 (by simp only [go_sem, c0, hget, hen]; rfl) ?_
     refine regS_nil ?_
     refine loopI_normal (j + 1) ?_ ?_ ?_
     · refine Ent.cut (Nat.le_of_ble_eq_true rfl) (Nat.le_of_ble_eq_true rfl) (.junk (.junk (.junk (.keepE (by simp only [go_sem, c0, hget, hen]; rfl) (by rw [wr (by omega) (by omega), F.sizes_take _ _ hj]; congr 2; omega) rfl (.junk (.junk (.junk (.keep rfl rfl (.keep rfl rfl (.keepE (by simp only [go_sem, c0, hget, hen]; rfl) (by rw [wr (by omega) (by omega)]; rfl) rfl (.nil _))))))))))) rfl (.nil _ _) (rfl)
     · exact hj
     · omega
   · skip
     refine awp_exit ?_
     refine seqK_exit (loopI_exit (blockK_exit ?_))
     refine seqK_normal ?_
     refine awp_seq ?_
     refine awp_region (by simp only [slimL, slim1, List.map_cons, List.map_nil, List.getElem?_toArray, List.getElem?_cons_succ, List.getElem?_cons_zero, Option.bind_some]; rfl) ?_
     refine regS_go 2 (by simp only [go_sem, c0]; rfl) ?_
     refine regS_nil ?_
     refine seqK_normal ?_
     refine awp_ret ?_
     refine end_d (.inr rfl) (rs := [.tmp 2]) rfl (by simp only [go_sem, c0]; rfl) ?_
     have hj : j = f.args.length := by simp at c0; omega
     refine ⟨?_, rfl⟩
     rw [F.size_eq f, hj, List.take_length]
abbrev bb (b : Bool) : AV := .d (.bool b)
theorem depth_c (n : Nat) (ih : ∀ g : F, g.size < n → CC Tryd.prog G 23 [] [encA g] [] (i64 g.depth)) (f : F) (hn : f.size ≤ n) (hs : n < 4611686018427387904) : CC Tryd.prog G 23 [] [encA f] [] (i64 f.depth) := by
 refine CC.go Tryd.func23 rfl rfl Tryd.ntmps23 (k0 := 0) rfl (Nat.le_of_ble_eq_true rfl) (by rfl) (by rfl) ?_
 refine awp_seq ?_
 refine awp_region (by simp only [slimL, slim1, List.map_cons, List.map_nil, List.getElem?_toArray, List.getElem?_cons_succ, List.getElem?_cons_zero, Option.bind_some]; rfl) ?_
 refine regS_go 2 (by simp only [go_sem]; rfl) ?_
 refine regS_nil ?_
 refine seqK_normal ?_
 refine awp_seq ?_
 refine awp_region (by simp only [slimL, slim1, List.map_cons, List.map_nil, List.getElem?_toArray, List.getElem?_cons_succ, List.getElem?_cons_zero, Option.bind_some]; rfl) ?_
 refine regS_go 1 (by simp only [go_sem]; rfl) ?_
 refine regS_nil ?_
 refine seqK_normal ?_
 refine awp_seq ?_
 refine awp_seq ?_
 refine awp_region (by simp only [slimL, slim1, List.map_cons, List.map_nil, List.getElem?_toArray, List.getElem?_cons_succ, List.getElem?_cons_zero, Option.bind_some]; rfl) ?_
 refine regS_go 4 (by simp only [go_sem]; rfl) ?_
 refine regS_nil ?_
 refine seqK_normal ?_
 refine awp_block ?_
 refine awp_loopI (ι := Nat) (fun (x : Nat) => (match x with | j => ⟨tl [.junk, .junk, .junk, i64 ((F.depths (f.args.take j) : Nat) : Int), .junk, .junk, .junk, .d (.sl (F.encs f.args)), i64 (f.args.length : Int), i64 (j : Int)], hl [], 0, 20⟩)) (fun x => match x with | j => j ≤ f.args.length) (fun x => match x with | j => f.args.length - j) 0 ?_ ?_ ?_
 · refine Ent.cut (Nat.le_of_ble_eq_true rfl) (Nat.le_of_ble_eq_true rfl) (.junk (.junk (.junk (.keepE (by simp only [go_sem]; rfl) (by simp [F.depths]) rfl (.junk (.junk (.junk (.keep rfl rfl (.keepE (by simp only [go_sem]; rfl) (by rw [F.encs_len]) rfl (.keep rfl rfl (.nil _))))))))))) rfl (.nil _ _) (rfl)
 · exact Nat.zero_le _
 · rintro j hI
   try dsimp only at hI
   dsimp only
   refine awp_seq ?_
   refine awp_region (by simp only [slimL, slim1, List.map_cons, List.map_nil, List.getElem?_toArray, List.getElem?_cons_succ, List.getElem?_cons_zero, Option.bind_some]; rfl) ?_
   refine regS_go 1 (by simp only [go_sem]; rfl) ?_
   refine regS_nil ?_
   refine seqK_normal ?_
   refine awp_seq ?_
   refine awp_cond (by simp only [go_sem]; rfl) (fun c0 => ?_) (fun c0 => ?_)
   · skip
     have hj : j < f.args.length := by simpa using c0
     have hget := F.encs_get f.args j hj
     have hen := F.enc_eq (f.args[j])
     have hlt := F.size_arg f j hj
     have hla := F.sizes_len f.args
     have hd1 := F.depth_size (f.args[j])
     have hd2 := F.depths_take_size f.args j
     have hse := F.size_eq f
     refine awp_skip ?_
     refine seqK_normal ?_
     refine awp_seq ?_
     refine awp_block ?_
     refine awp_seq ?_
     refine awp_region (by simp only [slimL, slim1, List.map_cons, List.map_nil, List.getElem?_toArray, List.getElem?_cons_succ, List.getElem?_cons_zero, Option.bind_some]; rfl) ?_
     refine regS_go 4 (by simp only [go_sem, c0, hget, hen]; rfl) ?_
     refine regS_nil ?_
     refine seqK_normal ?_
     refine awp_region (by simp only [slimL, slim1, List.map_cons, List.map_nil, List.getElem?_toArray, List.getElem?_cons_succ, List.getElem?_cons_zero, Option.bind_some]; rfl) ?_
     refine regS_go 2 (by simp only [go_sem, c0, hget, hen]; rfl) ?_
     refine regS_call rfl (by simp only [go_sem, c0, hget, hen]) rfl (by simp only [go_sem, c0, hget, hen]; rfl) (by simp only [go_sem, c0, hget, hen]; rfl) ?_
     refine callK_d (ih (f.args[j]) (by omega)) rfl rfl rfl ?_
     refine regS_go 3 (by simp only [go_sem, c0, hget, hen]; rfl) ?_
     refine regS_nil ?_
     refine blockK_normal ?_
     refine seqK_normal ?_
     refine awp_region (by simp only [slimL, slim1, List.map_cons, List.map_nil, List.getElem?_toArray, List.getElem?_cons_succ, List.getElem?_cons_zero, Option.bind_some]; rfl) ?_
     refine regS_go 2 (by simp only [go_sem, c0, hget, hen]; rfl) ?_
     refine regS_nil ?_
     refine loopI_normal (j + 1) ?_ ?_ ?_
     · refine Ent.cut (Nat.le_of_ble_eq_true rfl) (Nat.le_of_ble_eq_true rfl) (.junk (.junk (.junk (.keepE (by simp only [go_sem, c0, hget, hen]; rfl) (by rw [wr (by omega) (by omega), F.depths_take _ _ hj]; congr 2; split <;> omega) rfl (.junk (.junk (.junk (.keep rfl rfl (.keep rfl rfl (.keepE (by simp only [go_sem, c0, hget, hen]; rfl) (by rw [wr (by omega) (by omega)]; rfl) rfl (.nil _))))))))))) rfl (.nil _ _) (rfl)
     · exact hj
     · omega
   · skip
     refine awp_exit ?_
     refine seqK_exit (loopI_exit (blockK_exit ?_))
     refine seqK_normal ?_
     refine awp_seq ?_
     refine awp_region (by simp only [slimL, slim1, List.map_cons, List.map_nil, List.getElem?_toArray, List.getElem?_cons_succ, List.getElem?_cons_zero, Option.bind_some]; rfl) ?_
     refine regS_go 2 (by simp only [go_sem, c0]; rfl) ?_
     refine regS_nil ?_
     refine seqK_normal ?_
     refine awp_ret ?_
     refine end_d (.inr rfl) (rs := [.tmp 2]) rfl (by simp only [go_sem, c0]; rfl) ?_
     have hj : j = f.args.length := by simp at c0; omega
     refine ⟨?_, rfl⟩
     rw [F.depth_eq f, hj, List.take_length]
theorem strength_c (f : F) : CC Tryd.prog G 48 [] [encA f] [] (i64 (strength f)) := by
 refine CC.go Tryd.func48 rfl rfl Tryd.ntmps48 (k0 := 0) rfl (Nat.le_of_ble_eq_true rfl) (by rfl) (by rfl) ?_
 refine awp_seq ?_
 refine awp_region (by simp only [slimL, slim1, List.map_cons, List.map_nil, List.getElem?_toArray, List.getElem?_cons_succ, List.getElem?_cons_zero, Option.bind_some]; rfl) ?_
 refine regS_go 2 (by simp only [go_sem]; rfl) ?_
 refine regS_nil ?_
 refine seqK_normal ?_
 refine awp_seq ?_
 refine awp_seq ?_
 refine awp_region (by simp only [slimL, slim1, List.map_cons, List.map_nil, List.getElem?_toArray, List.getElem?_cons_succ, List.getElem?_cons_zero, Option.bind_some]; rfl) ?_
 refine regS_go 2 (by simp only [go_sem]; rfl) ?_
 refine regS_nil ?_
 refine seqK_normal ?_
 refine awp_block ?_
 refine awp_seq ?_
 refine awp_region (by simp only [slimL, slim1, List.map_cons, List.map_nil, List.getElem?_toArray, List.getElem?_cons_succ, List.getElem?_cons_zero, Option.bind_some]; rfl) ?_
 refine regS_go 2 (by simp only [go_sem]; rfl) ?_
 refine regS_nil ?_
 refine seqK_normal ?_
 refine awp_cond (by simp only [go_sem]; rfl) (fun c0 => ?_) (fun c0 => ?_)
 · skip
   refine awp_seq ?_
   refine awp_region (by simp only [slimL, slim1, List.map_cons, List.map_nil, List.getElem?_toArray, List.getElem?_cons_succ, List.getElem?_cons_zero, Option.bind_some]; rfl) ?_
   refine regS_go 1 (by simp only [go_sem, c0]; rfl) ?_
   refine regS_nil ?_
   refine seqK_normal ?_
   refine awp_ret ?_
   refine blockK_ret (seqK_ret ?_)
   refine end_d (.inr rfl) (rs := [.tmp 2]) rfl (by simp only [go_sem, c0]; rfl) ?_
   refine ⟨?_, rfl⟩
   simp only [strength, c0, Bool.and_true, Bool.true_and, Bool.and_false, Bool.false_and, Bool.or_true, Bool.true_or, Bool.or_false, Bool.false_or, Bool.not_true, Bool.not_false, Bool.false_eq_true, if_true, if_false, reduceIte]
 · skip
   refine awp_seq ?_
   refine awp_region (by simp only [slimL, slim1, List.map_cons, List.map_nil, List.getElem?_toArray, List.getElem?_cons_succ, List.getElem?_cons_zero, Option.bind_some]; rfl) ?_
   refine regS_go 2 (by simp only [go_sem, c0]; rfl) ?_
   refine regS_nil ?_
   refine seqK_normal ?_
   refine awp_cond (by simp only [go_sem, c0]; rfl) (fun c1 => ?_) (fun c1 => ?_)
   · skip
     refine awp_seq ?_
     refine awp_region (by simp only [slimL, slim1, List.map_cons, List.map_nil, List.getElem?_toArray, List.getElem?_cons_succ, List.getElem?_cons_zero, Option.bind_some]; rfl) ?_
     refine regS_go 1 (by simp only [go_sem, c0, c1]; rfl) ?_
     refine regS_nil ?_
     refine seqK_normal ?_
     refine awp_ret ?_
     refine blockK_ret (seqK_ret ?_)
     refine end_d (.inr rfl) (rs := [.tmp 2]) rfl (by simp only [go_sem, c0, c1]; rfl) ?_
     refine ⟨?_, rfl⟩
     simp only [strength, c0, c1, Bool.and_true, Bool.true_and, Bool.and_false, Bool.false_and, Bool.or_true, Bool.true_or, Bool.or_false, Bool.false_or, Bool.not_true, Bool.not_false, Bool.false_eq_true, if_true, if_false, reduceIte]
   · skip
     refine awp_seq ?_
     refine awp_region (by simp only [slimL, slim1, List.map_cons, List.map_nil, List.getElem?_toArray, List.getElem?_cons_succ, List.getElem?_cons_zero, Option.bind_some]; rfl) ?_
     refine regS_go 2 (by simp only [go_sem, c0, c1]; rfl) ?_
     refine regS_nil ?_
     refine seqK_normal ?_
     refine awp_cond (by simp only [go_sem, c0, c1]; rfl) (fun c2 => ?_) (fun c2 => ?_)
     · skip
       refine awp_seq ?_
       refine awp_region (by simp only [slimL, slim1, List.map_cons, List.map_nil, List.getElem?_toArray, List.getElem?_cons_succ, List.getElem?_cons_zero, Option.bind_some]; rfl) ?_
       refine regS_go 1 (by simp only [go_sem, c0, c1, c2]; rfl) ?_
       refine regS_nil ?_
       refine seqK_normal ?_
       refine awp_ret ?_
       refine blockK_ret (seqK_ret ?_)
       refine end_d (.inr rfl) (rs := [.tmp 2]) rfl (by simp only [go_sem, c0, c1, c2]; rfl) ?_
       refine ⟨?_, rfl⟩
       simp only [strength, c0, c1, c2, Bool.and_true, Bool.true_and, Bool.and_false, Bool.false_and, Bool.or_true, Bool.true_or, Bool.or_false, Bool.false_or, Bool.not_true, Bool.not_false, Bool.false_eq_true, if_true, if_false, reduceIte]
     · skip
       refine awp_seq ?_
       refine awp_region (by simp only [slimL, slim1, List.map_cons, List.map_nil, List.getElem?_toArray, List.getElem?_cons_succ, List.getElem?_cons_zero, Option.bind_some]; rfl) ?_
       refine regS_go 2 (by simp only [go_sem, c0, c1, c2]; rfl) ?_
       refine regS_nil ?_
       refine seqK_normal ?_
       refine awp_cond (by simp only [go_sem, c0, c1, c2]; rfl) (fun c3 => ?_) (fun c3 => ?_)
       · skip
         refine awp_seq ?_
         refine awp_region (by simp only [slimL, slim1, List.map_cons, List.map_nil, List.getElem?_toArray, List.getElem?_cons_succ, List.getElem?_cons_zero, Option.bind_some]; rfl) ?_
         refine regS_go 1 (by simp only [go_sem, c0, c1, c2, c3]; rfl) ?_
         refine regS_nil ?_
         refine seqK_normal ?_
         refine awp_ret ?_
         refine blockK_ret (seqK_ret ?_)
         refine end_d (.inr rfl) (rs := [.tmp 2]) rfl (by simp only [go_sem, c0, c1, c2, c3]; rfl) ?_
         refine ⟨?_, rfl⟩
         simp only [strength, c0, c1, c2, c3, Bool.and_true, Bool.true_and, Bool.and_false, Bool.false_and, Bool.or_true, Bool.true_or, Bool.or_false, Bool.false_or, Bool.not_true, Bool.not_false, Bool.false_eq_true, if_true, if_false, reduceIte]
       · skip
         refine awp_skip ?_
         refine blockK_normal ?_
         refine seqK_normal ?_
         refine awp_seq ?_
         refine awp_region (by simp only [slimL, slim1, List.map_cons, List.map_nil, List.getElem?_toArray, List.getElem?_cons_succ, List.getElem?_cons_zero, Option.bind_some]; rfl) ?_
         refine regS_go 1 (by simp only [go_sem, c0, c1, c2, c3]; rfl) ?_
         refine regS_nil ?_
         refine seqK_normal ?_
         refine awp_ret ?_
         refine end_d (.inr rfl) (rs := [.tmp 2]) rfl (by simp only [go_sem, c0, c1, c2, c3]; rfl) ?_
         refine ⟨?_, rfl⟩
         simp only [strength, c0, c1, c2, c3, Bool.and_true, Bool.true_and, Bool.and_false, Bool.false_and, Bool.or_true, Bool.true_or, Bool.or_false, Bool.false_or, Bool.not_true, Bool.not_false, Bool.false_eq_true, if_true, if_false, reduceIte]
theorem needed_c (f : F) (i : Int) (h0 : 0 ≤ i) (h1 : i < 4611686018427387904) : CC Tryd.prog G 49 [] [encA f, i64 i] [] (i64 (needed f i)) := by
 refine CC.go Tryd.func49 rfl rfl Tryd.ntmps49 (k0 := 0) rfl (Nat.le_of_ble_eq_true rfl) (by rfl) (by rfl) ?_
 refine awp_seq ?_
 refine awp_region (by simp only [slimL, slim1, List.map_cons, List.map_nil, List.getElem?_toArray, List.getElem?_cons_succ, List.getElem?_cons_zero, Option.bind_some]; rfl) ?_
 refine regS_go 2 (by simp only [go_sem]; rfl) ?_
 refine regS_nil ?_
 refine seqK_normal ?_
 refine awp_seq ?_
 refine awp_seq ?_
 refine awp_region (by simp only [slimL, slim1, List.map_cons, List.map_nil, List.getElem?_toArray, List.getElem?_cons_succ, List.getElem?_cons_zero, Option.bind_some]; rfl) ?_
 refine regS_go 2 (by simp only [go_sem]; rfl) ?_
 refine regS_nil ?_
 refine seqK_normal ?_
 refine awp_block ?_
 refine awp_seq ?_
 refine awp_seq ?_
 refine awp_region (by simp only [slimL, slim1, List.map_cons, List.map_nil, List.getElem?_toArray, List.getElem?_cons_succ, List.getElem?_cons_zero, Option.bind_some]; rfl) ?_
 refine regS_go 2 (by simp only [go_sem]; rfl) ?_
 refine regS_nil ?_
 refine seqK_normal ?_
 refine awp_cond (by simp only [go_sem]; rfl) (fun c0 => ?_) (fun c0 => ?_)
 · skip
   refine awp_skip ?_
   refine seqK_normal ?_
   refine awp_cond_t (by simp only [go_sem, c0]) ?_
   refine awp_seq ?_
   refine awp_region (by simp only [slimL, slim1, List.map_cons, List.map_nil, List.getElem?_toArray, List.getElem?_cons_succ, List.getElem?_cons_zero, Option.bind_some]; rfl) ?_
   refine regS_go 1 (by simp only [go_sem, c0]; rfl) ?_
   refine regS_nil ?_
   refine seqK_normal ?_
   refine awp_ret ?_
   refine blockK_ret (seqK_ret ?_)
   refine end_d (.inr rfl) (rs := [.tmp 4]) rfl (by simp only [go_sem, c0]; rfl) ?_
   refine ⟨?_, rfl⟩
   simp only [needed, c0, wr (n := 3 - i) (by omega) (by omega), Bool.and_true, Bool.true_and, Bool.and_false, Bool.false_and, Bool.or_true, Bool.true_or, Bool.or_false, Bool.false_or, Bool.not_true, Bool.not_false, Bool.false_eq_true, if_true, if_false, reduceIte]
 · skip
   refine awp_region (by simp only [slimL, slim1, List.map_cons, List.map_nil, List.getElem?_toArray, List.getElem?_cons_succ, List.getElem?_cons_zero, Option.bind_some]; rfl) ?_
   refine regS_go 2 (by simp only [go_sem, c0]; rfl) ?_
   refine regS_nil ?_
   refine seqK_normal ?_
   refine awp_cond (by simp only [go_sem, c0]; rfl) (fun c1 => ?_) (fun c1 => ?_)
   · skip
     refine awp_seq ?_
     refine awp_region (by simp only [slimL, slim1, List.map_cons, List.map_nil, List.getElem?_toArray, List.getElem?_cons_succ, List.getElem?_cons_zero, Option.bind_some]; rfl) ?_
     refine regS_go 1 (by simp only [go_sem, c0, c1]; rfl) ?_
     refine regS_nil ?_
     refine seqK_normal ?_
     refine awp_ret ?_
     refine blockK_ret (seqK_ret ?_)
     refine end_d (.inr rfl) (rs := [.tmp 4]) rfl (by simp only [go_sem, c0, c1]; rfl) ?_
     refine ⟨?_, rfl⟩
     simp only [needed, c0, c1, wr (n := 3 - i) (by omega) (by omega), Bool.and_true, Bool.true_and, Bool.and_false, Bool.false_and, Bool.or_true, Bool.true_or, Bool.or_false, Bool.false_or, Bool.not_true, Bool.not_false, Bool.false_eq_true, if_true, if_false, reduceIte]
   · skip
     refine awp_seq ?_
     refine awp_region (by simp only [slimL, slim1, List.map_cons, List.map_nil, List.getElem?_toArray, List.getElem?_cons_succ, List.getElem?_cons_zero, Option.bind_some]; rfl) ?_
     refine regS_go 2 (by simp only [go_sem, c0, c1]; rfl) ?_
     refine regS_nil ?_
     refine seqK_normal ?_
     refine awp_cond (by simp only [go_sem, c0, c1]; rfl) (fun c2 => ?_) (fun c2 => ?_)
     · skip
       refine awp_seq ?_
       refine awp_region (by simp only [slimL, slim1, List.map_cons, List.map_nil, List.getElem?_toArray, List.getElem?_cons_succ, List.getElem?_cons_zero, Option.bind_some]; rfl) ?_
       refine regS_go 1 (by simp only [go_sem, c0, c1, c2]; rfl) ?_
       refine regS_nil ?_
       refine seqK_normal ?_
       refine awp_ret ?_
       refine blockK_ret (seqK_ret ?_)
       refine end_d (.inr rfl) (rs := [.tmp 4]) rfl (by simp only [go_sem, c0, c1, c2]; rfl) ?_
       refine ⟨?_, rfl⟩
       simp only [needed, c0, c1, c2, wr (n := 3 - i) (by omega) (by omega), Bool.and_true, Bool.true_and, Bool.and_false, Bool.false_and, Bool.or_true, Bool.true_or, Bool.or_false, Bool.false_or, Bool.not_true, Bool.not_false, Bool.false_eq_true, if_true, if_false, reduceIte]
     · skip
       refine awp_seq ?_
       refine awp_region (by simp only [slimL, slim1, List.map_cons, List.map_nil, List.getElem?_toArray, List.getElem?_cons_succ, List.getElem?_cons_zero, Option.bind_some]; rfl) ?_
       refine regS_go 2 (by simp only [go_sem, c0, c1, c2]; rfl) ?_
       refine regS_nil ?_
       refine seqK_normal ?_
       refine awp_cond (by simp only [go_sem, c0, c1, c2]; rfl) (fun c3 => ?_) (fun c3 => ?_)
       · skip
         refine awp_seq ?_
         refine awp_region (by simp only [slimL, slim1, List.map_cons, List.map_nil, List.getElem?_toArray, List.getElem?_cons_succ, List.getElem?_cons_zero, Option.bind_some]; rfl) ?_
         refine regS_go 3 (by simp only [go_sem, c0, c1, c2, c3]; rfl) ?_
         refine regS_nil ?_
         refine seqK_normal ?_
         refine awp_ret ?_
         refine blockK_ret (seqK_ret ?_)
         refine end_d (.inr rfl) (rs := [.tmp 4]) rfl (by simp only [go_sem, c0, c1, c2, c3]; rfl) ?_
         refine ⟨?_, rfl⟩
         simp only [needed, c0, c1, c2, c3, wr (n := 3 - i) (by omega) (by omega), Bool.and_true, Bool.true_and, Bool.and_false, Bool.false_and, Bool.or_true, Bool.true_or, Bool.or_false, Bool.false_or, Bool.not_true, Bool.not_false, Bool.false_eq_true, if_true, if_false, reduceIte]
       · skip
         refine awp_skip ?_
         refine blockK_normal ?_
         refine seqK_normal ?_
         refine awp_seq ?_
         refine awp_region (by simp only [slimL, slim1, List.map_cons, List.map_nil, List.getElem?_toArray, List.getElem?_cons_succ, List.getElem?_cons_zero, Option.bind_some]; rfl) ?_
         refine regS_go 1 (by simp only [go_sem, c0, c1, c2, c3]; rfl) ?_
         refine regS_nil ?_
         refine seqK_normal ?_
         refine awp_ret ?_
         refine end_d (.inr rfl) (rs := [.tmp 4]) rfl (by simp only [go_sem, c0, c1, c2, c3]; rfl) ?_
         refine ⟨?_, rfl⟩
         simp only [needed, c0, c1, c2, c3, wr (n := 3 - i) (by omega) (by omega), Bool.and_true, Bool.true_and, Bool.and_false, Bool.false_and, Bool.or_true, Bool.true_or, Bool.or_false, Bool.false_or, Bool.not_true, Bool.not_false, Bool.false_eq_true, if_true, if_false, reduceIte]
theorem counted_c (f : F) : CC Tryd.prog G 44 [] [encA f] [] (bb (counted f)) := by
 refine CC.go Tryd.func44 rfl rfl Tryd.ntmps44 (k0 := 0) rfl (Nat.le_of_ble_eq_true rfl) (by rfl) (by rfl) ?_
 refine awp_seq ?_
 refine awp_region (by simp only [slimL, slim1, List.map_cons, List.map_nil, List.getElem?_toArray, List.getElem?_cons_succ, List.getElem?_cons_zero, Option.bind_some]; rfl) ?_
 refine regS_go 2 (by simp only [go_sem, F.encs_len]; rfl) ?_
 refine regS_nil ?_
 refine seqK_normal ?_
 refine awp_seq ?_
 refine awp_region (by simp only [slimL, slim1, List.map_cons, List.map_nil, List.getElem?_toArray, List.getElem?_cons_succ, List.getElem?_cons_zero, Option.bind_some]; rfl) ?_
 refine regS_go 4 (by simp only [go_sem, F.encs_len]; rfl) ?_
 refine regS_nil ?_
 refine seqK_normal ?_
 refine awp_seq ?_
 refine awp_seq ?_
 refine awp_region (by simp only [slimL, slim1, List.map_cons, List.map_nil, List.getElem?_toArray, List.getElem?_cons_succ, List.getElem?_cons_zero, Option.bind_some]; rfl) ?_
 refine regS_go 2 (by simp only [go_sem, F.encs_len]; rfl) ?_
 refine regS_nil ?_
 refine seqK_normal ?_
 refine awp_block ?_
 refine awp_seq ?_
 refine awp_seq ?_
 refine awp_region (by simp only [slimL, slim1, List.map_cons, List.map_nil, List.getElem?_toArray, List.getElem?_cons_succ, List.getElem?_cons_zero, Option.bind_some]; rfl) ?_
 refine regS_go 2 (by simp only [go_sem, F.encs_len]; rfl) ?_
 refine regS_nil ?_
 refine seqK_normal ?_
 refine awp_cond (by simp only [go_sem, F.encs_len]; rfl) (fun c0 => ?_) (fun c0 => ?_)
 · skip
   refine awp_skip ?_
   refine seqK_normal ?_
   refine awp_cond_t (by simp only [go_sem, F.encs_len, c0]) ?_
   refine awp_seq ?_
   refine awp_region (by simp only [slimL, slim1, List.map_cons, List.map_nil, List.getElem?_toArray, List.getElem?_cons_succ, List.getElem?_cons_zero, Option.bind_some]; rfl) ?_
   refine regS_go 3 (by simp only [go_sem, F.encs_len, c0]; rfl) ?_
   refine regS_nil ?_
   refine seqK_normal ?_
   refine awp_ret ?_
   refine blockK_ret (seqK_ret ?_)
   refine end_d (.inr rfl) (rs := [.tmp 2]) rfl (by simp only [go_sem, F.encs_len, c0]; rfl) ?_
   refine ⟨?_, rfl⟩
   simp only [counted, c0, Bool.and_true, Bool.true_and, Bool.and_false, Bool.false_and, Bool.or_true, Bool.true_or, Bool.or_false, Bool.false_or, Bool.not_true, Bool.not_false, Bool.false_eq_true, if_true, if_false, reduceIte]
 · skip
   refine awp_seq ?_
   refine awp_region (by simp only [slimL, slim1, List.map_cons, List.map_nil, List.getElem?_toArray, List.getElem?_cons_succ, List.getElem?_cons_zero, Option.bind_some]; rfl) ?_
   refine regS_go 2 (by simp only [go_sem, F.encs_len, c0]; rfl) ?_
   refine regS_nil ?_
   refine seqK_normal ?_
   refine awp_cond (by simp only [go_sem, F.encs_len, c0]; rfl) (fun c1 => ?_) (fun c1 => ?_)
   · skip
     refine awp_skip ?_
     refine seqK_normal ?_
     refine awp_cond_t (by simp only [go_sem, F.encs_len, c0, c1]) ?_
     refine awp_seq ?_
     refine awp_region (by simp only [slimL, slim1, List.map_cons, List.map_nil, List.getElem?_toArray, List.getElem?_cons_succ, List.getElem?_cons_zero, Option.bind_some]; rfl) ?_
     refine regS_go 3 (by simp only [go_sem, F.encs_len, c0, c1]; rfl) ?_
     refine regS_nil ?_
     refine seqK_normal ?_
     refine awp_ret ?_
     refine blockK_ret (seqK_ret ?_)
     refine end_d (.inr rfl) (rs := [.tmp 2]) rfl (by simp only [go_sem, F.encs_len, c0, c1]; rfl) ?_
     refine ⟨?_, rfl⟩
     simp only [counted, c0, c1, Bool.and_true, Bool.true_and, Bool.and_false, Bool.false_and, Bool.or_true, Bool.true_or, Bool.or_false, Bool.false_or, Bool.not_true, Bool.not_false, Bool.false_eq_true, if_true, if_false, reduceIte]
   · skip
     refine awp_region (by simp only [slimL, slim1, List.map_cons, List.map_nil, List.getElem?_toArray, List.getElem?_cons_succ, List.getElem?_cons_zero, Option.bind_some]; rfl) ?_
     refine regS_go 2 (by simp only [go_sem, F.encs_len, c0, c1]; rfl) ?_
     refine regS_nil ?_
     refine seqK_normal ?_
     refine awp_cond (by simp only [go_sem, F.encs_len, c0, c1]; rfl) (fun c2 => ?_) (fun c2 => ?_)
     · skip
       refine awp_seq ?_
       refine awp_region (by simp only [slimL, slim1, List.map_cons, List.map_nil, List.getElem?_toArray, List.getElem?_cons_succ, List.getElem?_cons_zero, Option.bind_some]; rfl) ?_
       refine regS_go 3 (by simp only [go_sem, F.encs_len, c0, c1, c2]; rfl) ?_
       refine regS_nil ?_
       refine seqK_normal ?_
       refine awp_ret ?_
       refine blockK_ret (seqK_ret ?_)
       refine end_d (.inr rfl) (rs := [.tmp 2]) rfl (by simp only [go_sem, F.encs_len, c0, c1, c2]; rfl) ?_
       refine ⟨?_, rfl⟩
       simp only [counted, c0, c1, c2, Bool.and_true, Bool.true_and, Bool.and_false, Bool.false_and, Bool.or_true, Bool.true_or, Bool.or_false, Bool.false_or, Bool.not_true, Bool.not_false, Bool.false_eq_true, if_true, if_false, reduceIte]
     · skip
       refine awp_seq ?_
       refine awp_region (by simp only [slimL, slim1, List.map_cons, List.map_nil, List.getElem?_toArray, List.getElem?_cons_succ, List.getElem?_cons_zero, Option.bind_some]; rfl) ?_
       refine regS_go 2 (by simp only [go_sem, F.encs_len, c0, c1, c2]; rfl) ?_
       refine regS_nil ?_
       refine seqK_normal ?_
       refine awp_cond (by simp only [go_sem, F.encs_len, c0, c1, c2]; rfl) (fun c3 => ?_) (fun c3 => ?_)
       · skip
         refine awp_seq ?_
         refine awp_region (by simp only [slimL, slim1, List.map_cons, List.map_nil, List.getElem?_toArray, List.getElem?_cons_succ, List.getElem?_cons_zero, Option.bind_some]; rfl) ?_
         refine regS_go 3 (by simp only [go_sem, F.encs_len, c0, c1, c2, c3]; rfl) ?_
         refine regS_nil ?_
         refine seqK_normal ?_
         refine awp_ret ?_
         refine blockK_ret (seqK_ret ?_)
         refine end_d (.inr rfl) (rs := [.tmp 2]) rfl (by simp only [go_sem, F.encs_len, c0, c1, c2, c3]; rfl) ?_
         refine ⟨?_, rfl⟩
         simp only [counted, c0, c1, c2, c3, Bool.and_true, Bool.true_and, Bool.and_false, Bool.false_and, Bool.or_true, Bool.true_or, Bool.or_false, Bool.false_or, Bool.not_true, Bool.not_false, Bool.false_eq_true, if_true, if_false, reduceIte]
       · skip
         refine awp_seq ?_
         refine awp_seq ?_
         refine awp_region (by simp only [slimL, slim1, List.map_cons, List.map_nil, List.getElem?_toArray, List.getElem?_cons_succ, List.getElem?_cons_zero, Option.bind_some]; rfl) ?_
         refine regS_go 2 (by simp only [go_sem, F.encs_len, c0, c1, c2, c3]; rfl) ?_
         refine regS_nil ?_
         refine seqK_normal ?_
         refine awp_cond (by simp only [go_sem, F.encs_len, c0, c1, c2, c3]; rfl) (fun c4 => ?_) (fun c4 => ?_)
         · skip
           refine awp_skip ?_
           refine seqK_normal ?_
           refine awp_cond_t (by simp only [go_sem, F.encs_len, c0, c1, c2, c3, c4]) ?_
           refine awp_seq ?_
           refine awp_region (by simp only [slimL, slim1, List.map_cons, List.map_nil, List.getElem?_toArray, List.getElem?_cons_succ, List.getElem?_cons_zero, Option.bind_some]; rfl) ?_
           refine regS_go 3 (by simp only [go_sem, F.encs_len, c0, c1, c2, c3, c4]; rfl) ?_
           refine regS_ifT 24 (by simp only [go_sem, F.encs_len, c0, c1, c2, c3, c4]; rfl) (fun g5 => ?_) (fun g5 => ?_)
           · skip
             refine regS_go 4 (by simp only [go_sem, F.encs_len, c0, c1, c2, c3, c4, g5]; rfl) ?_
             refine regS_nil ?_
             refine seqK_normal ?_
             refine awp_ret ?_
             refine blockK_ret (seqK_ret ?_)
             refine end_d (.inr rfl) (rs := [.tmp 2]) rfl (by simp only [go_sem, F.encs_len, c0, c1, c2, c3, c4, g5]; rfl) ?_
             refine ⟨?_, rfl⟩
             simp only [counted, c0, c1, c2, c3, c4, g5, Bool.and_true, Bool.true_and, Bool.and_false, Bool.false_and, Bool.or_true, Bool.true_or, Bool.or_false, Bool.false_or, Bool.not_true, Bool.not_false, Bool.false_eq_true, if_true, if_false, reduceIte]
           · skip
             refine regS_go 4 (by simp only [go_sem, F.encs_len, c0, c1, c2, c3, c4, g5]; rfl) ?_
             refine regS_nil ?_
             refine seqK_normal ?_
             refine awp_ret ?_
             refine blockK_ret (seqK_ret ?_)
             refine end_d (.inr rfl) (rs := [.tmp 2]) rfl (by simp only [go_sem, F.encs_len, c0, c1, c2, c3, c4, g5]; rfl) ?_
             refine ⟨?_, rfl⟩
             simp only [counted, c0, c1, c2, c3, c4, g5, Bool.and_true, Bool.true_and, Bool.and_false, Bool.false_and, Bool.or_true, Bool.true_or, Bool.or_false, Bool.false_or, Bool.not_true, Bool.not_false, Bool.false_eq_true, if_true, if_false, reduceIte]
         · skip
           refine awp_region (by simp only [slimL, slim1, List.map_cons, List.map_nil, List.getElem?_toArray, List.getElem?_cons_succ, List.getElem?_cons_zero, Option.bind_some]; rfl) ?_
           refine regS_go 2 (by simp only [go_sem, F.encs_len, c0, c1, c2, c3, c4]; rfl) ?_
           refine regS_nil ?_
           refine seqK_normal ?_
           refine awp_cond (by simp only [go_sem, F.encs_len, c0, c1, c2, c3, c4]; rfl) (fun c6 => ?_) (fun c6 => ?_)
           · skip
             refine awp_seq ?_
             refine awp_region (by simp only [slimL, slim1, List.map_cons, List.map_nil, List.getElem?_toArray, List.getElem?_cons_succ, List.getElem?_cons_zero, Option.bind_some]; rfl) ?_
             refine regS_go 3 (by simp only [go_sem, F.encs_len, c0, c1, c2, c3, c4, c6]; rfl) ?_
             refine regS_ifT 24 (by simp only [go_sem, F.encs_len, c0, c1, c2, c3, c4, c6]; rfl) (fun g7 => ?_) (fun g7 => ?_)
             · skip
               refine regS_go 4 (by simp only [go_sem, F.encs_len, c0, c1, c2, c3, c4, c6, g7]; rfl) ?_
               refine regS_nil ?_
               refine seqK_normal ?_
               refine awp_ret ?_
               refine blockK_ret (seqK_ret ?_)
               refine end_d (.inr rfl) (rs := [.tmp 2]) rfl (by simp only [go_sem, F.encs_len, c0, c1, c2, c3, c4, c6, g7]; rfl) ?_
               refine ⟨?_, rfl⟩
               simp only [counted, c0, c1, c2, c3, c4, c6, g7, Bool.and_true, Bool.true_and, Bool.and_false, Bool.false_and, Bool.or_true, Bool.true_or, Bool.or_false, Bool.false_or, Bool.not_true, Bool.not_false, Bool.false_eq_true, if_true, if_false, reduceIte]
             · skip
               refine regS_go 4 (by simp only [go_sem, F.encs_len, c0, c1, c2, c3, c4, c6, g7]; rfl) ?_
               refine regS_nil ?_
               refine seqK_normal ?_
               refine awp_ret ?_
               refine blockK_ret (seqK_ret ?_)
               refine end_d (.inr rfl) (rs := [.tmp 2]) rfl (by simp only [go_sem, F.encs_len, c0, c1, c2, c3, c4, c6, g7]; rfl) ?_
               refine ⟨?_, rfl⟩
               simp only [counted, c0, c1, c2, c3, c4, c6, g7, Bool.and_true, Bool.true_and, Bool.and_false, Bool.false_and, Bool.or_true, Bool.true_or, Bool.or_false, Bool.false_or, Bool.not_true, Bool.not_false, Bool.false_eq_true, if_true, if_false, reduceIte]
           · skip
             refine awp_seq ?_
             refine awp_seq ?_
             refine awp_region (by simp only [slimL, slim1, List.map_cons, List.map_nil, List.getElem?_toArray, List.getElem?_cons_succ, List.getElem?_cons_zero, Option.bind_some]; rfl) ?_
             refine regS_go 2 (by simp only [go_sem, F.encs_len, c0, c1, c2, c3, c4, c6]; rfl) ?_
             refine regS_nil ?_
             refine seqK_normal ?_
             refine awp_cond (by simp only [go_sem, F.encs_len, c0, c1, c2, c3, c4, c6]; rfl) (fun c8 => ?_) (fun c8 => ?_)
             · skip
               refine awp_skip ?_
               refine seqK_normal ?_
               refine awp_cond_t (by simp only [go_sem, F.encs_len, c0, c1, c2, c3, c4, c6, c8]) ?_
               refine awp_seq ?_
               refine awp_region (by simp only [slimL, slim1, List.map_cons, List.map_nil, List.getElem?_toArray, List.getElem?_cons_succ, List.getElem?_cons_zero, Option.bind_some]; rfl) ?_
               refine regS_go 3 (by simp only [go_sem, F.encs_len, c0, c1, c2, c3, c4, c6, c8]; rfl) ?_
               refine regS_nil ?_
               refine seqK_normal ?_
               refine awp_ret ?_
               refine blockK_ret (seqK_ret ?_)
               refine end_d (.inr rfl) (rs := [.tmp 2]) rfl (by simp only [go_sem, F.encs_len, c0, c1, c2, c3, c4, c6, c8]; rfl) ?_
               refine ⟨?_, rfl⟩
               simp only [counted, c0, c1, c2, c3, c4, c6, c8, Bool.and_true, Bool.true_and, Bool.and_false, Bool.false_and, Bool.or_true, Bool.true_or, Bool.or_false, Bool.false_or, Bool.not_true, Bool.not_false, Bool.false_eq_true, if_true, if_false, reduceIte]
             · skip
               refine awp_region (by simp only [slimL, slim1, List.map_cons, List.map_nil, List.getElem?_toArray, List.getElem?_cons_succ, List.getElem?_cons_zero, Option.bind_some]; rfl) ?_
               refine regS_go 2 (by simp only [go_sem, F.encs_len, c0, c1, c2, c3, c4, c6, c8]; rfl) ?_
               refine regS_nil ?_
               refine seqK_normal ?_
               refine awp_cond (by simp only [go_sem, F.encs_len, c0, c1, c2, c3, c4, c6, c8]; rfl) (fun c9 => ?_) (fun c9 => ?_)
               · skip
                 refine awp_seq ?_
                 refine awp_region (by simp only [slimL, slim1, List.map_cons, List.map_nil, List.getElem?_toArray, List.getElem?_cons_succ, List.getElem?_cons_zero, Option.bind_some]; rfl) ?_
                 refine regS_go 3 (by simp only [go_sem, F.encs_len, c0, c1, c2, c3, c4, c6, c8, c9]; rfl) ?_
                 refine regS_nil ?_
                 refine seqK_normal ?_
                 refine awp_ret ?_
                 refine blockK_ret (seqK_ret ?_)
                 refine end_d (.inr rfl) (rs := [.tmp 2]) rfl (by simp only [go_sem, F.encs_len, c0, c1, c2, c3, c4, c6, c8, c9]; rfl) ?_
                 refine ⟨?_, rfl⟩
                 simp only [counted, c0, c1, c2, c3, c4, c6, c8, c9, Bool.and_true, Bool.true_and, Bool.and_false, Bool.false_and, Bool.or_true, Bool.true_or, Bool.or_false, Bool.false_or, Bool.not_true, Bool.not_false, Bool.false_eq_true, if_true, if_false, reduceIte]
               · skip
                 refine awp_skip ?_
                 refine blockK_normal ?_
                 refine seqK_normal ?_
                 refine awp_seq ?_
                 refine awp_region (by simp only [slimL, slim1, List.map_cons, List.map_nil, List.getElem?_toArray, List.getElem?_cons_succ, List.getElem?_cons_zero, Option.bind_some]; rfl) ?_
                 refine regS_go 1 (by simp only [go_sem, F.encs_len, c0, c1, c2, c3, c4, c6, c8, c9]; rfl) ?_
                 refine regS_nil ?_
                 refine seqK_normal ?_
                 refine awp_ret ?_
                 refine end_d (.inr rfl) (rs := [.tmp 2]) rfl (by simp only [go_sem, F.encs_len, c0, c1, c2, c3, c4, c6, c8, c9]; rfl) ?_
                 refine ⟨?_, rfl⟩
                 simp only [counted, c0, c1, c2, c3, c4, c6, c8, c9, Bool.and_true, Bool.true_and, Bool.and_false, Bool.false_and, Bool.or_true, Bool.true_or, Bool.or_false, Bool.false_or, Bool.not_true, Bool.not_false, Bool.false_eq_true, if_true, if_false, reduceIte]
theorem validName_c (s : List UInt8) : CC Tryd.prog G 53 [] [.d (.str s)] [] (bb (validName s)) := by
 refine CC.go Tryd.func53 rfl rfl Tryd.ntmps53 (k0 := 0) rfl (Nat.le_of_ble_eq_true rfl) (by rfl) (by rfl) ?_
 refine awp_seq ?_
 refine awp_region (by simp only [slimL, slim1, List.map_cons, List.map_nil, List.getElem?_toArray, List.getElem?_cons_succ, List.getElem?_cons_zero, Option.bind_some]; rfl) ?_
 refine regS_go 1 (by simp only [go_sem]; rfl) ?_
 refine regS_nil ?_
 refine seqK_normal ?_
 refine awp_seq ?_
 refine awp_seq ?_
 refine awp_region (by simp only [slimL, slim1, List.map_cons, List.map_nil, List.getElem?_toArray, List.getElem?_cons_succ, List.getElem?_cons_zero, Option.bind_some]; rfl) ?_
 refine regS_go 4 (by simp only [go_sem]; rfl) ?_
 refine regS_ifT 8 (by simp only [go_sem]; rfl) (fun g0 => ?_) (fun g0 => ?_)
 · skip
   refine regS_go 4 (by simp only [go_sem, g0]; rfl) ?_
   refine regS_nil ?_
   refine seqK_normal ?_
   refine awp_cond_t (by simp only [go_sem, g0]) ?_
   refine awp_seq ?_
   refine awp_region (by simp only [slimL, slim1, List.map_cons, List.map_nil, List.getElem?_toArray, List.getElem?_cons_succ, List.getElem?_cons_zero, Option.bind_some]; rfl) ?_
   refine regS_go 1 (by simp only [go_sem, g0]; rfl) ?_
   refine regS_nil ?_
   refine seqK_normal ?_
   refine awp_ret ?_
   refine seqK_ret ?_
   refine end_d (.inr rfl) (rs := [.tmp 2]) rfl (by simp only [go_sem, g0]; rfl) ?_
   refine ⟨?_, rfl⟩
   simp only [validName, g0, Bool.and_true, Bool.true_and, Bool.and_false, Bool.false_and, Bool.or_true, Bool.true_or, Bool.or_false, Bool.false_or, Bool.not_true, Bool.not_false, Bool.false_eq_true, if_true, if_false, reduceIte]
 · skip
   refine regS_go 4 (by simp only [go_sem, g0]; rfl) ?_
   refine regS_nil ?_
   refine seqK_normal ?_
   refine awp_cond (by simp only [go_sem, g0]; rfl) (fun c1 => ?_) (fun c1 => ?_)
   · skip
     refine awp_seq ?_
     refine awp_region (by simp only [slimL, slim1, List.map_cons, List.map_nil, List.getElem?_toArray, List.getElem?_cons_succ, List.getElem?_cons_zero, Option.bind_some]; rfl) ?_
     refine regS_go 1 (by simp only [go_sem, g0, c1]; rfl) ?_
     refine regS_nil ?_
     refine seqK_normal ?_
     refine awp_ret ?_
     refine seqK_ret ?_
     refine end_d (.inr rfl) (rs := [.tmp 2]) rfl (by simp only [go_sem, g0, c1]; rfl) ?_
     refine ⟨?_, rfl⟩
     simp only [validName, g0, c1, Bool.and_true, Bool.true_and, Bool.and_false, Bool.false_and, Bool.or_true, Bool.true_or, Bool.or_false, Bool.false_or, Bool.not_true, Bool.not_false, Bool.false_eq_true, if_true, if_false, reduceIte]
   · skip
     refine awp_skip ?_
     refine seqK_normal ?_
     refine awp_seq ?_
     refine awp_seq ?_
     refine awp_region (by simp only [slimL, slim1, List.map_cons, List.map_nil, List.getElem?_toArray, List.getElem?_cons_succ, List.getElem?_cons_zero, Option.bind_some]; rfl) ?_
     refine regS_go 3 (by simp only [go_sem, g0, c1]; rfl) ?_
     refine regS_nil ?_
     refine seqK_normal ?_
     refine awp_block ?_
     refine awp_loopI (ι := Nat) (fun (x : Nat) => (match x with | j => ⟨tl [.d (.str s), .junk, .junk, .junk, .junk, .junk, .junk, .junk, .junk, .junk, .junk, .junk, .junk, .junk, i64 (s.length : Int), i64 (j : Int)], hl [], 0, 44⟩)) (fun x => match x with | j => j ≤ s.length ∧ s.length ≠ 0 ∧ s.length ≤ 12 ∧ nameFrom j (s.drop j) = nameFrom 0 s) (fun x => match x with | j => s.length - j) 0 ?_ ?_ ?_
     · refine Ent.cut (Nat.le_of_ble_eq_true rfl) (Nat.le_of_ble_eq_true rfl) (.keep rfl rfl (.junk (.junk (.junk (.junk (.junk (.junk (.junk (.junk (.junk (.junk (.junk (.junk (.junk (.keep rfl rfl (.keep rfl rfl (.nil _))))))))))))))))) rfl (.nil _ _) (rfl)
     · exact ⟨Nat.zero_le _, by intro h; simp [h] at g0, by simp at c1; omega, rfl⟩
     · rintro j hI
       try dsimp only at hI
       dsimp only
       refine awp_seq ?_
       refine awp_region (by simp only [slimL, slim1, List.map_cons, List.map_nil, List.getElem?_toArray, List.getElem?_cons_succ, List.getElem?_cons_zero, Option.bind_some]; rfl) ?_
       refine regS_go 1 (by simp only [go_sem, g0, c1]; rfl) ?_
       refine regS_nil ?_
       refine seqK_normal ?_
       refine awp_seq ?_
       refine awp_cond (by simp only [go_sem, g0, c1]; rfl) (fun c2 => ?_) (fun c2 => ?_)
       · skip
         have hj : j < s.length := by simpa using c2
         have hget : s[j]? = some s[j] := List.getElem?_eq_getElem hj
         have hl12 := hI.2.2.1
         refine awp_skip ?_
         refine seqK_normal ?_
         refine awp_seq ?_
         refine awp_block ?_
         refine awp_seq ?_
         refine awp_region (by simp only [slimL, slim1, List.map_cons, List.map_nil, List.getElem?_toArray, List.getElem?_cons_succ, List.getElem?_cons_zero, Option.bind_some]; rfl) ?_
         refine regS_go 2 (by simp only [go_sem, g0, c1, c2, hget]; rfl) ?_
         refine regS_nil ?_
         refine seqK_normal ?_
         refine awp_seq ?_
         refine awp_region (by simp only [slimL, slim1, List.map_cons, List.map_nil, List.getElem?_toArray, List.getElem?_cons_succ, List.getElem?_cons_zero, Option.bind_some]; rfl) ?_
         refine regS_go 4 (by simp only [go_sem, g0, c1, c2, hget]; rfl) ?_
         refine regS_nil ?_
         refine seqK_normal ?_
         refine awp_block ?_
         refine awp_seq ?_
         refine awp_region (by simp only [slimL, slim1, List.map_cons, List.map_nil, List.getElem?_toArray, List.getElem?_cons_succ, List.getElem?_cons_zero, Option.bind_some]; rfl) ?_
         refine regS_go 3 (by simp only [go_sem, g0, c1, c2, hget]; rfl) ?_
         refine regS_ifT 24 (by simp only [go_sem, g0, c1, c2, hget]; rfl) (fun g3 => ?_) (fun g3 => ?_)
         · skip
           refine regS_go 4 (by simp only [go_sem, g0, c1, c2, hget, g3]; rfl) ?_
           refine regS_nil ?_
           refine seqK_normal ?_
           refine awp_cond (by simp only [go_sem, g0, c1, c2, hget, g3]; rfl) (fun c4 => ?_) (fun c4 => ?_)
           · skip
             refine awp_skip ?_
             refine blockK_normal ?_
             refine blockK_normal ?_
             refine seqK_normal ?_
             refine awp_region (by simp only [slimL, slim1, List.map_cons, List.map_nil, List.getElem?_toArray, List.getElem?_cons_succ, List.getElem?_cons_zero, Option.bind_some]; rfl) ?_
             refine regS_go 2 (by simp only [go_sem, g0, c1, c2, hget, g3, c4]; rfl) ?_
             refine regS_nil ?_
             refine loopI_normal (j + 1) ?_ ?_ ?_
             · refine Ent.cut (Nat.le_of_ble_eq_true rfl) (Nat.le_of_ble_eq_true rfl) (.keep rfl rfl (.junk (.junk (.junk (.junk (.junk (.junk (.junk (.junk (.junk (.junk (.junk (.junk (.junk (.keep rfl rfl (.keepE (by simp only [go_sem, g0, c1, c2, hget, g3, c4]; rfl) (by rw [wr (by omega) (by omega)]; rfl) rfl (.nil _))))))))))))))))) rfl (.nil _ _) (rfl)
             · refine ⟨hj, hI.2.1, hI.2.2.1, ?_⟩
               rw [← hI.2.2.2, nameFrom_drop s j hj]
               have h0 : nameOk j s[j] = true := by
                simp only [nameOk, g0, c1, c2, g3, c4, Bool.and_true, Bool.true_and, Bool.and_false, Bool.false_and, Bool.or_true, Bool.true_or, Bool.or_false, Bool.false_or, Bool.not_true, Bool.not_false, Bool.false_eq_true, if_true, if_false, reduceIte]
               rw [h0, Bool.true_and]
             · omega
           · skip
             refine awp_seq ?_
             refine awp_region (by simp only [slimL, slim1, List.map_cons, List.map_nil, List.getElem?_toArray, List.getElem?_cons_succ, List.getElem?_cons_zero, Option.bind_some]; rfl) ?_
             refine regS_go 3 (by simp only [go_sem, g0, c1, c2, hget, g3, c4]; rfl) ?_
             refine regS_ifT 31 (by simp only [go_sem, g0, c1, c2, hget, g3, c4]; rfl) (fun g5 => ?_) (fun g5 => ?_)
             · skip
               refine regS_go 3 (by simp only [go_sem, g0, c1, c2, hget, g3, c4, g5]; rfl) ?_
               refine regS_ifT 34 (by simp only [go_sem, g0, c1, c2, hget, g3, c4, g5]; rfl) (fun g6 => ?_) (fun g6 => ?_)
               · skip
                 refine regS_go 4 (by simp only [go_sem, g0, c1, c2, hget, g3, c4, g5, g6]; rfl) ?_
                 refine regS_ifT 38 (by simp only [go_sem, g0, c1, c2, hget, g3, c4, g5, g6]; rfl) (fun g7 => ?_) (fun g7 => ?_)
                 · skip
                   refine regS_go 5 (by simp only [go_sem, g0, c1, c2, hget, g3, c4, g5, g6, g7]; rfl) ?_
                   refine regS_nil ?_
                   refine seqK_normal ?_
                   refine awp_cond_t (by simp only [go_sem, g0, c1, c2, hget, g3, c4, g5, g6, g7]) ?_
                   refine awp_skip ?_
                   refine blockK_normal ?_
                   refine blockK_normal ?_
                   refine seqK_normal ?_
                   refine awp_region (by simp only [slimL, slim1, List.map_cons, List.map_nil, List.getElem?_toArray, List.getElem?_cons_succ, List.getElem?_cons_zero, Option.bind_some]; rfl) ?_
                   refine regS_go 2 (by simp only [go_sem, g0, c1, c2, hget, g3, c4, g5, g6, g7]; rfl) ?_
                   refine regS_nil ?_
                   refine loopI_normal (j + 1) ?_ ?_ ?_
                   · refine Ent.cut (Nat.le_of_ble_eq_true rfl) (Nat.le_of_ble_eq_true rfl) (.keep rfl rfl (.junk (.junk (.junk (.junk (.junk (.junk (.junk (.junk (.junk (.junk (.junk (.junk (.junk (.keep rfl rfl (.keepE (by simp only [go_sem, g0, c1, c2, hget, g3, c4, g5, g6, g7]; rfl) (by rw [wr (by omega) (by omega)]; rfl) rfl (.nil _))))))))))))))))) rfl (.nil _ _) (rfl)
                   · refine ⟨hj, hI.2.1, hI.2.2.1, ?_⟩
                     rw [← hI.2.2.2, nameFrom_drop s j hj]
                     have h0 : nameOk j s[j] = true := by
                      simp only [nameOk, g0, c1, c2, g3, c4, g5, g6, g7, Bool.and_true, Bool.true_and, Bool.and_false, Bool.false_and, Bool.or_true, Bool.true_or, Bool.or_false, Bool.false_or, Bool.not_true, Bool.not_false, Bool.false_eq_true, if_true, if_false, reduceIte]
                     rw [h0, Bool.true_and]
                   · omega
                 · skip
                   refine regS_go 5 (by simp only [go_sem, g0, c1, c2, hget, g3, c4, g5, g6, g7]; rfl) ?_
                   refine regS_nil ?_
                   refine seqK_normal ?_
                   refine awp_cond (by simp only [go_sem, g0, c1, c2, hget, g3, c4, g5, g6, g7]; rfl) (fun c8 => ?_) (fun c8 => ?_)
                   · skip
                     refine awp_skip ?_
                     refine blockK_normal ?_
                     refine blockK_normal ?_
                     refine seqK_normal ?_
                     refine awp_region (by simp only [slimL, slim1, List.map_cons, List.map_nil, List.getElem?_toArray, List.getElem?_cons_succ, List.getElem?_cons_zero, Option.bind_some]; rfl) ?_
                     refine regS_go 2 (by simp only [go_sem, g0, c1, c2, hget, g3, c4, g5, g6, g7, c8]; rfl) ?_
                     refine regS_nil ?_
                     refine loopI_normal (j + 1) ?_ ?_ ?_
                     · refine Ent.cut (Nat.le_of_ble_eq_true rfl) (Nat.le_of_ble_eq_true rfl) (.keep rfl rfl (.junk (.junk (.junk (.junk (.junk (.junk (.junk (.junk (.junk (.junk (.junk (.junk (.junk (.keep rfl rfl (.keepE (by simp only [go_sem, g0, c1, c2, hget, g3, c4, g5, g6, g7, c8]; rfl) (by rw [wr (by omega) (by omega)]; rfl) rfl (.nil _))))))))))))))))) rfl (.nil _ _) (rfl)
                     · refine ⟨hj, hI.2.1, hI.2.2.1, ?_⟩
                       rw [← hI.2.2.2, nameFrom_drop s j hj]
                       have h0 : nameOk j s[j] = true := by
                        simp only [nameOk, g0, c1, c2, g3, c4, g5, g6, g7, c8, Bool.and_true, Bool.true_and, Bool.and_false, Bool.false_and, Bool.or_true, Bool.true_or, Bool.or_false, Bool.false_or, Bool.not_true, Bool.not_false, Bool.false_eq_true, if_true, if_false, reduceIte]
                       rw [h0, Bool.true_and]
                     · omega
                   · skip
                     refine awp_seq ?_
                     refine awp_region (by simp only [slimL, slim1, List.map_cons, List.map_nil, List.getElem?_toArray, List.getElem?_cons_succ, List.getElem?_cons_zero, Option.bind_some]; rfl) ?_
                     refine regS_go 1 (by simp only [go_sem, g0, c1, c2, hget, g3, c4, g5, g6, g7, c8]; rfl) ?_
                     refine regS_nil ?_
                     refine seqK_normal ?_
                     refine awp_ret ?_
                     refine blockK_ret (blockK_ret (seqK_ret (loopI_ret (blockK_ret (seqK_ret ?_)))))
                     refine end_d (.inr rfl) (rs := [.tmp 2]) rfl (by simp only [go_sem, g0, c1, c2, hget, g3, c4, g5, g6, g7, c8]; rfl) ?_
                     refine ⟨?_, rfl⟩
                     have h0 : nameOk j s[j] = false := by
                      simp only [nameOk, g0, c1, c2, g3, c4, g5, g6, g7, c8, Bool.and_true, Bool.true_and, Bool.and_false, Bool.false_and, Bool.or_true, Bool.true_or, Bool.or_false, Bool.false_or, Bool.not_true, Bool.not_false, Bool.false_eq_true, if_true, if_false, reduceIte]
                     have h1 := hI.2.2.2
                     rw [nameFrom_drop s j hj, h0] at h1
                     simp only [validName, ← h1, Bool.and_true, Bool.true_and, Bool.and_false, Bool.false_and, Bool.or_true, Bool.true_or, Bool.or_false, Bool.false_or, Bool.not_true, Bool.not_false, Bool.false_eq_true, if_true, if_false, reduceIte]
               · skip
                 refine regS_go 9 (by simp only [go_sem, g0, c1, c2, hget, g3, c4, g5, g6]; rfl) ?_
                 refine regS_nil ?_
                 refine seqK_normal ?_
                 refine awp_cond (by simp only [go_sem, g0, c1, c2, hget, g3, c4, g5, g6]; rfl) (fun c9 => ?_) (fun c9 => ?_)
                 · skip
                   refine awp_skip ?_
                   refine blockK_normal ?_
                   refine blockK_normal ?_
                   refine seqK_normal ?_
                   refine awp_region (by simp only [slimL, slim1, List.map_cons, List.map_nil, List.getElem?_toArray, List.getElem?_cons_succ, List.getElem?_cons_zero, Option.bind_some]; rfl) ?_
                   refine regS_go 2 (by simp only [go_sem, g0, c1, c2, hget, g3, c4, g5, g6, c9]; rfl) ?_
                   refine regS_nil ?_
                   refine loopI_normal (j + 1) ?_ ?_ ?_
                   · refine Ent.cut (Nat.le_of_ble_eq_true rfl) (Nat.le_of_ble_eq_true rfl) (.keep rfl rfl (.junk (.junk (.junk (.junk (.junk (.junk (.junk (.junk (.junk (.junk (.junk (.junk (.junk (.keep rfl rfl (.keepE (by simp only [go_sem, g0, c1, c2, hget, g3, c4, g5, g6, c9]; rfl) (by rw [wr (by omega) (by omega)]; rfl) rfl (.nil _))))))))))))))))) rfl (.nil _ _) (rfl)
                   · refine ⟨hj, hI.2.1, hI.2.2.1, ?_⟩
                     rw [← hI.2.2.2, nameFrom_drop s j hj]
                     have h0 : nameOk j s[j] = true := by
                      simp only [nameOk, g0, c1, c2, g3, c4, g5, g6, c9, Bool.and_true, Bool.true_and, Bool.and_false, Bool.false_and, Bool.or_true, Bool.true_or, Bool.or_false, Bool.false_or, Bool.not_true, Bool.not_false, Bool.false_eq_true, if_true, if_false, reduceIte]
                     rw [h0, Bool.true_and]
                   · omega
                 · skip
                   refine awp_seq ?_
                   refine awp_region (by simp only [slimL, slim1, List.map_cons, List.map_nil, List.getElem?_toArray, List.getElem?_cons_succ, List.getElem?_cons_zero, Option.bind_some]; rfl) ?_
                   refine regS_go 1 (by simp only [go_sem, g0, c1, c2, hget, g3, c4, g5, g6, c9]; rfl) ?_
                   refine regS_nil ?_
                   refine seqK_normal ?_
                   refine awp_ret ?_
                   refine blockK_ret (blockK_ret (seqK_ret (loopI_ret (blockK_ret (seqK_ret ?_)))))
                   refine end_d (.inr rfl) (rs := [.tmp 2]) rfl (by simp only [go_sem, g0, c1, c2, hget, g3, c4, g5, g6, c9]; rfl) ?_
                   refine ⟨?_, rfl⟩
                   have h0 : nameOk j s[j] = false := by
                    simp only [nameOk, g0, c1, c2, g3, c4, g5, g6, c9, Bool.and_true, Bool.true_and, Bool.and_false, Bool.false_and, Bool.or_true, Bool.true_or, Bool.or_false, Bool.false_or, Bool.not_true, Bool.not_false, Bool.false_eq_true, if_true, if_false, reduceIte]
                   have h1 := hI.2.2.2
                   rw [nameFrom_drop s j hj, h0] at h1
                   simp only [validName, ← h1, Bool.and_true, Bool.true_and, Bool.and_false, Bool.false_and, Bool.or_true, Bool.true_or, Bool.or_false, Bool.false_or, Bool.not_true, Bool.not_false, Bool.false_eq_true, if_true, if_false, reduceIte]
             · skip
               refine regS_go 12 (by simp only [go_sem, g0, c1, c2, hget, g3, c4, g5]; rfl) ?_
               refine regS_nil ?_
               refine seqK_normal ?_
               refine awp_cond_f (by simp only [go_sem, g0, c1, c2, hget, g3, c4, g5]) ?_
               refine awp_seq ?_
               refine awp_region (by simp only [slimL, slim1, List.map_cons, List.map_nil, List.getElem?_toArray, List.getElem?_cons_succ, List.getElem?_cons_zero, Option.bind_some]; rfl) ?_
               refine regS_go 1 (by simp only [go_sem, g0, c1, c2, hget, g3, c4, g5]; rfl) ?_
               refine regS_nil ?_
               refine seqK_normal ?_
               refine awp_ret ?_
               refine blockK_ret (blockK_ret (seqK_ret (loopI_ret (blockK_ret (seqK_ret ?_)))))
               refine end_d (.inr rfl) (rs := [.tmp 2]) rfl (by simp only [go_sem, g0, c1, c2, hget, g3, c4, g5]; rfl) ?_
               refine ⟨?_, rfl⟩
               have h0 : nameOk j s[j] = false := by
                simp only [nameOk, g0, c1, c2, g3, c4, g5, Bool.and_true, Bool.true_and, Bool.and_false, Bool.false_and, Bool.or_true, Bool.true_or, Bool.or_false, Bool.false_or, Bool.not_true, Bool.not_false, Bool.false_eq_true, if_true, if_false, reduceIte]
               have h1 := hI.2.2.2
               rw [nameFrom_drop s j hj, h0] at h1
               simp only [validName, ← h1, Bool.and_true, Bool.true_and, Bool.and_false, Bool.false_and, Bool.or_true, Bool.true_or, Bool.or_false, Bool.false_or, Bool.not_true, Bool.not_false, Bool.false_eq_true, if_true, if_false, reduceIte]
         · skip
           refine regS_go 4 (by simp only [go_sem, g0, c1, c2, hget, g3]; rfl) ?_
           refine regS_nil ?_
           refine seqK_normal ?_
           refine awp_cond_f (by simp only [go_sem, g0, c1, c2, hget, g3]) ?_
           refine awp_seq ?_
           refine awp_region (by simp only [slimL, slim1, List.map_cons, List.map_nil, List.getElem?_toArray, List.getElem?_cons_succ, List.getElem?_cons_zero, Option.bind_some]; rfl) ?_
           refine regS_go 3 (by simp only [go_sem, g0, c1, c2, hget, g3]; rfl) ?_
           refine regS_ifT 31 (by simp only [go_sem, g0, c1, c2, hget, g3]; rfl) (fun g10 => ?_) (fun g10 => ?_)
           · skip
             refine regS_go 3 (by simp only [go_sem, g0, c1, c2, hget, g3, g10]; rfl) ?_
             refine regS_ifT 34 (by simp only [go_sem, g0, c1, c2, hget, g3, g10]; rfl) (fun g11 => ?_) (fun g11 => ?_)
             · skip
               refine regS_go 4 (by simp only [go_sem, g0, c1, c2, hget, g3, g10, g11]; rfl) ?_
               refine regS_ifT 38 (by simp only [go_sem, g0, c1, c2, hget, g3, g10, g11]; rfl) (fun g12 => ?_) (fun g12 => ?_)
               · skip
                 refine regS_go 5 (by simp only [go_sem, g0, c1, c2, hget, g3, g10, g11, g12]; rfl) ?_
                 refine regS_nil ?_
                 refine seqK_normal ?_
                 refine awp_cond_t (by simp only [go_sem, g0, c1, c2, hget, g3, g10, g11, g12]) ?_
                 refine awp_skip ?_
                 refine blockK_normal ?_
                 refine blockK_normal ?_
                 refine seqK_normal ?_
                 refine awp_region (by simp only [slimL, slim1, List.map_cons, List.map_nil, List.getElem?_toArray, List.getElem?_cons_succ, List.getElem?_cons_zero, Option.bind_some]; rfl) ?_
                 refine regS_go 2 (by simp only [go_sem, g0, c1, c2, hget, g3, g10, g11, g12]; rfl) ?_
                 refine regS_nil ?_
                 refine loopI_normal (j + 1) ?_ ?_ ?_
                 · refine Ent.cut (Nat.le_of_ble_eq_true rfl) (Nat.le_of_ble_eq_true rfl) (.keep rfl rfl (.junk (.junk (.junk (.junk (.junk (.junk (.junk (.junk (.junk (.junk (.junk (.junk (.junk (.keep rfl rfl (.keepE (by simp only [go_sem, g0, c1, c2, hget, g3, g10, g11, g12]; rfl) (by rw [wr (by omega) (by omega)]; rfl) rfl (.nil _))))))))))))))))) rfl (.nil _ _) (rfl)
                 · refine ⟨hj, hI.2.1, hI.2.2.1, ?_⟩
                   rw [← hI.2.2.2, nameFrom_drop s j hj]
                   have h0 : nameOk j s[j] = true := by
                    simp only [nameOk, g0, c1, c2, g3, g10, g11, g12, Bool.and_true, Bool.true_and, Bool.and_false, Bool.false_and, Bool.or_true, Bool.true_or, Bool.or_false, Bool.false_or, Bool.not_true, Bool.not_false, Bool.false_eq_true, if_true, if_false, reduceIte]
                   rw [h0, Bool.true_and]
                 · omega
               · skip
                 refine regS_go 5 (by simp only [go_sem, g0, c1, c2, hget, g3, g10, g11, g12]; rfl) ?_
                 refine regS_nil ?_
                 refine seqK_normal ?_
                 refine awp_cond (by simp only [go_sem, g0, c1, c2, hget, g3, g10, g11, g12]; rfl) (fun c13 => ?_) (fun c13 => ?_)
                 · skip
                   refine awp_skip ?_
                   refine blockK_normal ?_
                   refine blockK_normal ?_
                   refine seqK_normal ?_
                   refine awp_region (by simp only [slimL, slim1, List.map_cons, List.map_nil, List.getElem?_toArray, List.getElem?_cons_succ, List.getElem?_cons_zero, Option.bind_some]; rfl) ?_
                   refine regS_go 2 (by simp only [go_sem, g0, c1, c2, hget, g3, g10, g11, g12, c13]; rfl) ?_
                   refine regS_nil ?_
                   refine loopI_normal (j + 1) ?_ ?_ ?_
                   · refine Ent.cut (Nat.le_of_ble_eq_true rfl) (Nat.le_of_ble_eq_true rfl) (.keep rfl rfl (.junk (.junk (.junk (.junk (.junk (.junk (.junk (.junk (.junk (.junk (.junk (.junk (.junk (.keep rfl rfl (.keepE (by simp only [go_sem, g0, c1, c2, hget, g3, g10, g11, g12, c13]; rfl) (by rw [wr (by omega) (by omega)]; rfl) rfl (.nil _))))))))))))))))) rfl (.nil _ _) (rfl)
                   · refine ⟨hj, hI.2.1, hI.2.2.1, ?_⟩
                     rw [← hI.2.2.2, nameFrom_drop s j hj]
                     have h0 : nameOk j s[j] = true := by
                      simp only [nameOk, g0, c1, c2, g3, g10, g11, g12, c13, Bool.and_true, Bool.true_and, Bool.and_false, Bool.false_and, Bool.or_true, Bool.true_or, Bool.or_false, Bool.false_or, Bool.not_true, Bool.not_false, Bool.false_eq_true, if_true, if_false, reduceIte]
                     rw [h0, Bool.true_and]
                   · omega
                 · skip
                   refine awp_seq ?_
                   refine awp_region (by simp only [slimL, slim1, List.map_cons, List.map_nil, List.getElem?_toArray, List.getElem?_cons_succ, List.getElem?_cons_zero, Option.bind_some]; rfl) ?_
                   refine regS_go 1 (by simp only [go_sem, g0, c1, c2, hget, g3, g10, g11, g12, c13]; rfl) ?_
                   refine regS_nil ?_
                   refine seqK_normal ?_
                   refine awp_ret ?_
                   refine blockK_ret (blockK_ret (seqK_ret (loopI_ret (blockK_ret (seqK_ret ?_)))))
                   refine end_d (.inr rfl) (rs := [.tmp 2]) rfl (by simp only [go_sem, g0, c1, c2, hget, g3, g10, g11, g12, c13]; rfl) ?_
                   refine ⟨?_, rfl⟩
                   have h0 : nameOk j s[j] = false := by
                    simp only [nameOk, g0, c1, c2, g3, g10, g11, g12, c13, Bool.and_true, Bool.true_and, Bool.and_false, Bool.false_and, Bool.or_true, Bool.true_or, Bool.or_false, Bool.false_or, Bool.not_true, Bool.not_false, Bool.false_eq_true, if_true, if_false, reduceIte]
                   have h1 := hI.2.2.2
                   rw [nameFrom_drop s j hj, h0] at h1
                   simp only [validName, ← h1, Bool.and_true, Bool.true_and, Bool.and_false, Bool.false_and, Bool.or_true, Bool.true_or, Bool.or_false, Bool.false_or, Bool.not_true, Bool.not_false, Bool.false_eq_true, if_true, if_false, reduceIte]
             · skip
               refine regS_go 9 (by simp only [go_sem, g0, c1, c2, hget, g3, g10, g11]; rfl) ?_
               refine regS_nil ?_
               refine seqK_normal ?_
               refine awp_cond (by simp only [go_sem, g0, c1, c2, hget, g3, g10, g11]; rfl) (fun c14 => ?_) (fun c14 => ?_)
               · skip
                 refine awp_skip ?_
                 refine blockK_normal ?_
                 refine blockK_normal ?_
                 refine seqK_normal ?_
                 refine awp_region (by simp only [slimL, slim1, List.map_cons, List.map_nil, List.getElem?_toArray, List.getElem?_cons_succ, List.getElem?_cons_zero, Option.bind_some]; rfl) ?_
                 refine regS_go 2 (by simp only [go_sem, g0, c1, c2, hget, g3, g10, g11, c14]; rfl) ?_
                 refine regS_nil ?_
                 refine loopI_normal (j + 1) ?_ ?_ ?_
                 · refine Ent.cut (Nat.le_of_ble_eq_true rfl) (Nat.le_of_ble_eq_true rfl) (.keep rfl rfl (.junk (.junk (.junk (.junk (.junk (.junk (.junk (.junk (.junk (.junk (.junk (.junk (.junk (.keep rfl rfl (.keepE (by simp only [go_sem, g0, c1, c2, hget, g3, g10, g11, c14]; rfl) (by rw [wr (by omega) (by omega)]; rfl) rfl (.nil _))))))))))))))))) rfl (.nil _ _) (rfl)
                 · refine ⟨hj, hI.2.1, hI.2.2.1, ?_⟩
                   rw [← hI.2.2.2, nameFrom_drop s j hj]
                   have h0 : nameOk j s[j] = true := by
                    simp only [nameOk, g0, c1, c2, g3, g10, g11, c14, Bool.and_true, Bool.true_and, Bool.and_false, Bool.false_and, Bool.or_true, Bool.true_or, Bool.or_false, Bool.false_or, Bool.not_true, Bool.not_false, Bool.false_eq_true, if_true, if_false, reduceIte]
                   rw [h0, Bool.true_and]
                 · omega
               · skip
                 refine awp_seq ?_
                 refine awp_region (by simp only [slimL, slim1, List.map_cons, List.map_nil, List.getElem?_toArray, List.getElem?_cons_succ, List.getElem?_cons_zero, Option.bind_some]; rfl) ?_
                 refine regS_go 1 (by simp only [go_sem, g0, c1, c2, hget, g3, g10, g11, c14]; rfl) ?_
                 refine regS_nil ?_
                 refine seqK_normal ?_
                 refine awp_ret ?_
                 refine blockK_ret (blockK_ret (seqK_ret (loopI_ret (blockK_ret (seqK_ret ?_)))))
                 refine end_d (.inr rfl) (rs := [.tmp 2]) rfl (by simp only [go_sem, g0, c1, c2, hget, g3, g10, g11, c14]; rfl) ?_
                 refine ⟨?_, rfl⟩
                 have h0 : nameOk j s[j] = false := by
                  simp only [nameOk, g0, c1, c2, g3, g10, g11, c14, Bool.and_true, Bool.true_and, Bool.and_false, Bool.false_and, Bool.or_true, Bool.true_or, Bool.or_false, Bool.false_or, Bool.not_true, Bool.not_false, Bool.false_eq_true, if_true, if_false, reduceIte]
                 have h1 := hI.2.2.2
                 rw [nameFrom_drop s j hj, h0] at h1
                 simp only [validName, ← h1, Bool.and_true, Bool.true_and, Bool.and_false, Bool.false_and, Bool.or_true, Bool.true_or, Bool.or_false, Bool.false_or, Bool.not_true, Bool.not_false, Bool.false_eq_true, if_true, if_false, reduceIte]
           · skip
             refine regS_go 12 (by simp only [go_sem, g0, c1, c2, hget, g3, g10]; rfl) ?_
             refine regS_nil ?_
             refine seqK_normal ?_
             refine awp_cond_f (by simp only [go_sem, g0, c1, c2, hget, g3, g10]) ?_
             refine awp_seq ?_
             refine awp_region (by simp only [slimL, slim1, List.map_cons, List.map_nil, List.getElem?_toArray, List.getElem?_cons_succ, List.getElem?_cons_zero, Option.bind_some]; rfl) ?_
             refine regS_go 1 (by simp only [go_sem, g0, c1, c2, hget, g3, g10]; rfl) ?_
             refine regS_nil ?_
             refine seqK_normal ?_
             refine awp_ret ?_
             refine blockK_ret (blockK_ret (seqK_ret (loopI_ret (blockK_ret (seqK_ret ?_)))))
             refine end_d (.inr rfl) (rs := [.tmp 2]) rfl (by simp only [go_sem, g0, c1, c2, hget, g3, g10]; rfl) ?_
             refine ⟨?_, rfl⟩
             have h0 : nameOk j s[j] = false := by
              simp only [nameOk, g0, c1, c2, g3, g10, Bool.and_true, Bool.true_and, Bool.and_false, Bool.false_and, Bool.or_true, Bool.true_or, Bool.or_false, Bool.false_or, Bool.not_true, Bool.not_false, Bool.false_eq_true, if_true, if_false, reduceIte]
             have h1 := hI.2.2.2
             rw [nameFrom_drop s j hj, h0] at h1
             simp only [validName, ← h1, Bool.and_true, Bool.true_and, Bool.and_false, Bool.false_and, Bool.or_true, Bool.true_or, Bool.or_false, Bool.false_or, Bool.not_true, Bool.not_false, Bool.false_eq_true, if_true, if_false, reduceIte]
       · skip
         refine awp_exit ?_
         refine seqK_exit (loopI_exit (blockK_exit ?_))
         refine seqK_normal ?_
         refine awp_seq ?_
         refine awp_region (by simp only [slimL, slim1, List.map_cons, List.map_nil, List.getElem?_toArray, List.getElem?_cons_succ, List.getElem?_cons_zero, Option.bind_some]; rfl) ?_
         refine regS_go 1 (by simp only [go_sem, g0, c1, c2]; rfl) ?_
         refine regS_nil ?_
         refine seqK_normal ?_
         refine awp_ret ?_
         refine end_d (.inr rfl) (rs := [.tmp 2]) rfl (by simp only [go_sem, g0, c1, c2]; rfl) ?_
         refine ⟨?_, rfl⟩
         have hj : j = s.length := by simp at c2; omega
         have h0 := hI.2.2.2
         rw [hj, List.drop_length] at h0
         simp only [validName, ← h0, nameFrom, g0, c1, Bool.and_true, Bool.true_and, Bool.and_false, Bool.false_and, Bool.or_true, Bool.true_or, Bool.or_false, Bool.false_or, Bool.not_true, Bool.not_false, Bool.false_eq_true, if_true, if_false, reduceIte]
end Go.Proofs.YtccjhfmemghccaaDoor
