/- What functions of the program compute: lemmas. -/
import Derived.Test.YtccjhfmemghccaaDoorSa1
import Derived.Test.YtccjhfmemghccaaDoorAmOrc
import Derived.Lib.Builder
import Derived.Lib.Walk
import Derived.WalkKit
import Derived.Laws.Externs
set_option linter.unusedSimpArgs false
set_option linter.unusedVariables false
set_option linter.unusedSectionVars false
namespace Go.Proofs.YtccjhfmemghccaaDoor
open Go Am
set_option maxRecDepth 100000
set_option maxHeartbeats 1000000
variable {G : Glob}
abbrev fnA (k : Nat) : AV := .d (.raw (.func (.func k) #[] #[]))
theorem named_c (f : F) : CC Tryd.prog G 45 [] [encA f] [] (bb (named f)) := by
 refine CC.go Tryd.func45 rfl rfl Tryd.ntmps45 (k0 := 0) rfl (Nat.le_of_ble_eq_true rfl) (by rfl) (by rfl) ?_
 refine awp_seq ?_
 refine awp_region (by simp only [slimL, slim1, List.map_cons, List.map_nil, List.getElem?_toArray, List.getElem?_cons_succ, List.getElem?_cons_zero, Option.bind_some]; rfl) ?_
 refine regS_go 2 (by simp only [go_sem]; rfl) ?_
 refine regS_nil ?_
 refine seqK_normal ?_
 refine awp_seq ?_
 refine awp_seq ?_
 refine awp_region (by simp only [slimL, slim1, List.map_cons, List.map_nil, List.getElem?_toArray, List.getElem?_cons_succ, List.getElem?_cons_zero, Option.bind_some]; rfl) ?_
 refine regS_go 3 (by simp only [go_sem]; rfl) ?_
 refine regS_nil ?_
 refine seqK_normal ?_
 refine awp_cond (by simp only [go_sem]; rfl) (fun c0 => ?_) (fun c0 => ?_)
 · skip
   refine awp_seq ?_
   refine awp_region (by simp only [slimL, slim1, List.map_cons, List.map_nil, List.getElem?_toArray, List.getElem?_cons_succ, List.getElem?_cons_zero, Option.bind_some]; rfl) ?_
   refine regS_go 2 (by simp only [go_sem, c0]; rfl) ?_
   refine regS_call rfl (by simp only [go_sem, c0]) rfl (by simp only [go_sem, c0]; rfl) (by simp only [go_sem, c0]; rfl) ?_
   refine callK_d (validName_c _) rfl rfl rfl ?_
   refine regS_go 1 (by simp only [go_sem, c0]; rfl) ?_
   refine regS_nil ?_
   refine seqK_normal ?_
   refine awp_ret ?_
   refine seqK_ret ?_
   refine end_d (.inr rfl) (rs := [.tmp 2]) rfl (by simp only [go_sem, c0]; rfl) ?_
   refine ⟨?_, rfl⟩
   simp only [named, c0, Bool.and_true, Bool.true_and, Bool.and_false, Bool.false_and, Bool.or_true, Bool.true_or, Bool.or_false, Bool.false_or, Bool.not_true, Bool.not_false, Bool.false_eq_true, if_true, if_false, reduceIte]
 · skip
   refine awp_skip ?_
   refine seqK_normal ?_
   refine awp_seq ?_
   refine awp_region (by simp only [slimL, slim1, List.map_cons, List.map_nil, List.getElem?_toArray, List.getElem?_cons_succ, List.getElem?_cons_zero, Option.bind_some]; rfl) ?_
   refine regS_go 4 (by simp only [go_sem, c0]; rfl) ?_
   refine regS_nil ?_
   refine seqK_normal ?_
   refine awp_ret ?_
   refine end_d (.inr rfl) (rs := [.tmp 2]) rfl (by simp only [go_sem, c0]; rfl) ?_
   refine ⟨?_, rfl⟩
   simp only [named, c0, Bool.and_true, Bool.true_and, Bool.and_false, Bool.false_and, Bool.or_true, Bool.true_or, Bool.or_false, Bool.false_or, Bool.not_true, Bool.not_false, Bool.false_eq_true, if_true, if_false, reduceIte]
theorem all_c (k : Nat) (q : F → Bool) (hq : ∀ g, CC Tryd.prog G k [] [encA g] [] (bb (q g))) (n : Nat) (ih : ∀ g : F, g.size < n → CC Tryd.prog G 43 [] [encA g, fnA k] [] (bb (F.allF q g))) (f : F) (hn : f.size ≤ n) (hs : n < 4611686018427387904) : CC Tryd.prog G 43 [] [encA f, fnA k] [] (bb (F.allF q f)) := by
 refine CC.go Tryd.func43 rfl rfl Tryd.ntmps43 (k0 := 0) rfl (Nat.le_of_ble_eq_true rfl) (by rfl) (by rfl) ?_
 refine awp_seq ?_
 refine awp_region (by simp only [slimL, slim1, List.map_cons, List.map_nil, List.getElem?_toArray, List.getElem?_cons_succ, List.getElem?_cons_zero, Option.bind_some]; rfl) ?_
 refine regS_go 2 (by simp only [go_sem]; rfl) ?_
 refine regS_nil ?_
 refine seqK_normal ?_
 refine awp_seq ?_
 refine awp_seq ?_
 refine awp_region (by simp only [slimL, slim1, List.map_cons, List.map_nil, List.getElem?_toArray, List.getElem?_cons_succ, List.getElem?_cons_zero, Option.bind_some]; rfl) ?_
 refine regS_go 2 (by simp only [go_sem]; rfl) ?_
 refine regS_call rfl (by simp only [go_sem]) rfl (by simp only [go_sem]; rfl) (by simp only [go_sem]; rfl) ?_
 refine callK_d (hq _) rfl rfl rfl ?_
 refine regS_go 1 (by simp only [go_sem]; rfl) ?_
 refine regS_nil ?_
 refine seqK_normal ?_
 refine awp_cond (by simp only [go_sem]; rfl) (fun c0 => ?_) (fun c0 => ?_)
 · skip
   refine awp_seq ?_
   refine awp_region (by simp only [slimL, slim1, List.map_cons, List.map_nil, List.getElem?_toArray, List.getElem?_cons_succ, List.getElem?_cons_zero, Option.bind_some]; rfl) ?_
   refine regS_go 1 (by simp only [go_sem, c0]; rfl) ?_
   refine regS_nil ?_
   refine seqK_normal ?_
   refine awp_ret ?_
   refine seqK_ret ?_
   refine end_d (.inr rfl) (rs := [.tmp 4]) rfl (by simp only [go_sem, c0]; rfl) ?_
   refine ⟨?_, rfl⟩
   have h0 : q f = false := by simpa using c0
   rw [F.allF_eq, h0]; rfl
 · skip
   refine awp_skip ?_
   refine seqK_normal ?_
   refine awp_seq ?_
   refine awp_seq ?_
   refine awp_region (by simp only [slimL, slim1, List.map_cons, List.map_nil, List.getElem?_toArray, List.getElem?_cons_succ, List.getElem?_cons_zero, Option.bind_some]; rfl) ?_
   refine regS_go 4 (by simp only [go_sem, c0]; rfl) ?_
   refine regS_nil ?_
   refine seqK_normal ?_
   refine awp_block ?_
   refine awp_loopI (ι := Nat) (fun (x : Nat) => (match x with | j => ⟨tl [.junk, fnA k, .junk, .junk, .junk, .junk, .junk, .junk, .junk, .junk, .junk, .junk, .d (.sl (F.encs f.args)), i64 (f.args.length : Int), i64 (j : Int)], hl [], 0, 23⟩)) (fun x => match x with | j => j ≤ f.args.length ∧ F.allFs q (f.args.take j) = true) (fun x => match x with | j => f.args.length - j) 0 ?_ ?_ ?_
   · refine Ent.cut (Nat.le_of_ble_eq_true rfl) (Nat.le_of_ble_eq_true rfl) (.junk (.keep rfl rfl (.junk (.junk (.junk (.junk (.junk (.junk (.junk (.junk (.junk (.junk (.keep rfl rfl (.keepE (by simp only [go_sem, c0]; rfl) (by rw [F.encs_len]) rfl (.keep rfl rfl (.nil _)))))))))))))))) rfl (.nil _ _) (rfl)
   · exact ⟨Nat.zero_le _, by simp [F.allFs]⟩
   · rintro j hI
     try dsimp only at hI
     dsimp only
     refine awp_seq ?_
     refine awp_region (by simp only [slimL, slim1, List.map_cons, List.map_nil, List.getElem?_toArray, List.getElem?_cons_succ, List.getElem?_cons_zero, Option.bind_some]; rfl) ?_
     refine regS_go 1 (by simp only [go_sem, c0]; rfl) ?_
     refine regS_nil ?_
     refine seqK_normal ?_
     refine awp_seq ?_
     refine awp_cond (by simp only [go_sem, c0]; rfl) (fun c1 => ?_) (fun c1 => ?_)
     · skip
       have hj : j < f.args.length := by simpa using c1
       have hget := F.encs_get f.args j hj
       have hen := F.enc_eq (f.args[j])
       have hlt := F.size_arg f j hj
       have hla := F.sizes_len f.args
       have hse := F.size_eq f
       refine awp_skip ?_
       refine seqK_normal ?_
       refine awp_seq ?_
       refine awp_block ?_
       refine awp_seq ?_
       refine awp_region (by simp only [slimL, slim1, List.map_cons, List.map_nil, List.getElem?_toArray, List.getElem?_cons_succ, List.getElem?_cons_zero, Option.bind_some]; rfl) ?_
       refine regS_go 4 (by simp only [go_sem, c0, c1, hget, hen]; rfl) ?_
       refine regS_nil ?_
       refine seqK_normal ?_
       refine awp_seq ?_
       refine awp_region (by simp only [slimL, slim1, List.map_cons, List.map_nil, List.getElem?_toArray, List.getElem?_cons_succ, List.getElem?_cons_zero, Option.bind_some]; rfl) ?_
       refine regS_go 2 (by simp only [go_sem, c0, c1, hget, hen]; rfl) ?_
       refine regS_call rfl (by simp only [go_sem, c0, c1, hget, hen]) rfl (by simp only [go_sem, c0, c1, hget, hen]; rfl) (by simp only [go_sem, c0, c1, hget, hen]; rfl) ?_
       refine callK_d (ih (f.args[j]) (by omega)) rfl rfl rfl ?_
       refine regS_go 1 (by simp only [go_sem, c0, c1, hget, hen]; rfl) ?_
       refine regS_nil ?_
       refine seqK_normal ?_
       refine awp_cond (by simp only [go_sem, c0, c1, hget, hen]; rfl) (fun c2 => ?_) (fun c2 => ?_)
       · skip
         refine awp_seq ?_
         refine awp_region (by simp only [slimL, slim1, List.map_cons, List.map_nil, List.getElem?_toArray, List.getElem?_cons_succ, List.getElem?_cons_zero, Option.bind_some]; rfl) ?_
         refine regS_go 1 (by simp only [go_sem, c0, c1, hget, hen, c2]; rfl) ?_
         refine regS_nil ?_
         refine seqK_normal ?_
         refine awp_ret ?_
         refine blockK_ret (seqK_ret (loopI_ret (blockK_ret (seqK_ret ?_))))
         refine end_d (.inr rfl) (rs := [.tmp 4]) rfl (by simp only [go_sem, c0, c1, hget, hen, c2]; rfl) ?_
         refine ⟨?_, rfl⟩
         have h0 : F.allF q f.args[j] = false := by simpa using c2
         rw [F.allF_eq, F.allFs_bad q _ j hj h0, Bool.and_false]
       · skip
         refine awp_skip ?_
         refine blockK_normal ?_
         refine seqK_normal ?_
         refine awp_region (by simp only [slimL, slim1, List.map_cons, List.map_nil, List.getElem?_toArray, List.getElem?_cons_succ, List.getElem?_cons_zero, Option.bind_some]; rfl) ?_
         refine regS_go 2 (by simp only [go_sem, c0, c1, hget, hen, c2]; rfl) ?_
         refine regS_nil ?_
         refine loopI_normal (j + 1) ?_ ?_ ?_
         · refine Ent.cut (Nat.le_of_ble_eq_true rfl) (Nat.le_of_ble_eq_true rfl) (.junk (.keep rfl rfl (.junk (.junk (.junk (.junk (.junk (.junk (.junk (.junk (.junk (.junk (.keep rfl rfl (.keep rfl rfl (.keepE (by simp only [go_sem, c0, c1, hget, hen, c2]; rfl) (by rw [wr (by omega) (by omega)]; rfl) rfl (.nil _)))))))))))))))) rfl (.nil _ _) (rfl)
         · have hga : F.allF q f.args[j] = true := by simpa using c2
           exact ⟨hj, by rw [F.allFs_take q _ _ hj, hI.2, hga]; rfl⟩
         · omega
     · skip
       refine awp_exit ?_
       refine seqK_exit (loopI_exit (blockK_exit ?_))
       refine seqK_normal ?_
       refine awp_seq ?_
       refine awp_region (by simp only [slimL, slim1, List.map_cons, List.map_nil, List.getElem?_toArray, List.getElem?_cons_succ, List.getElem?_cons_zero, Option.bind_some]; rfl) ?_
       refine regS_go 1 (by simp only [go_sem, c0, c1]; rfl) ?_
       refine regS_nil ?_
       refine seqK_normal ?_
       refine awp_ret ?_
       refine end_d (.inr rfl) (rs := [.tmp 4]) rfl (by simp only [go_sem, c0, c1]; rfl) ?_
       refine ⟨?_, rfl⟩
       have hj : j = f.args.length := by simp at c1; omega
       have h0 : q f = true := by simpa using c0
       have h1 := hI.2
       rw [hj, List.take_length] at h1
       rw [F.allF_eq, h0, h1]; rfl
theorem size_cc (f : F) (hs : f.size < 4611686018427387904) : CC Tryd.prog G 22 [] [encA f] [] (i64 f.size) := bySize (fun n ih f hn hs => size_c n ih f hn hs) f hs
theorem depth_cc (f : F) (hs : f.size < 4611686018427387904) : CC Tryd.prog G 23 [] [encA f] [] (i64 f.depth) := bySize (fun n ih f hn hs => depth_c n ih f hn hs) f hs
theorem all_cc (k : Nat) (q : F → Bool) (hq : ∀ g, CC Tryd.prog G k [] [encA g] [] (bb (q g))) (f : F) (hs : f.size < 4611686018427387904) : CC Tryd.prog G 43 [] [encA f, fnA k] [] (bb (F.allF q f)) :=
 bySize (fun n ih f hn hs => all_c k q hq n ih f hn hs) f hs
theorem validate_c (f : F) (hs : f.size < 4611686018427387904) : CC Tryd.prog G 30 [] [encA f] [] (i64 (validate f)) := by
 refine CC.go Tryd.func30 rfl rfl Tryd.ntmps30 (k0 := 0) rfl (Nat.le_of_ble_eq_true rfl) (by rfl) (by rfl) ?_
 refine awp_seq ?_
 refine awp_region (by simp only [slimL, slim1, List.map_cons, List.map_nil, List.getElem?_toArray, List.getElem?_cons_succ, List.getElem?_cons_zero, Option.bind_some]; rfl) ?_
 refine regS_go 2 (by simp only [go_sem]; rfl) ?_
 refine regS_nil ?_
 refine seqK_normal ?_
 refine awp_seq ?_
 refine awp_block ?_
 refine awp_seq ?_
 refine awp_region (by simp only [slimL, slim1, List.map_cons, List.map_nil, List.getElem?_toArray, List.getElem?_cons_succ, List.getElem?_cons_zero, Option.bind_some]; rfl) ?_
 refine regS_go 1 (by simp only [go_sem]; rfl) ?_
 refine regS_call rfl (by simp only [go_sem]) rfl (by simp only [go_sem]; rfl) (by simp only [go_sem]; rfl) ?_
 refine callK_d (size_cc f hs) rfl rfl rfl ?_
 refine regS_go 2 (by simp only [go_sem]; rfl) ?_
 refine regS_ifT 7 (by simp only [go_sem]; rfl) (fun g0 => ?_) (fun g0 => ?_)
 · skip
   refine regS_go 5 (by simp only [go_sem, g0]; rfl) ?_
   refine regS_nil ?_
   refine seqK_normal ?_
   refine awp_cond_t (by simp only [go_sem, g0]) ?_
   refine awp_seq ?_
   refine awp_region (by simp only [slimL, slim1, List.map_cons, List.map_nil, List.getElem?_toArray, List.getElem?_cons_succ, List.getElem?_cons_zero, Option.bind_some]; rfl) ?_
   refine regS_go 1 (by simp only [go_sem, g0]; rfl) ?_
   refine regS_nil ?_
   refine seqK_normal ?_
   refine awp_ret ?_
   refine blockK_ret (seqK_ret ?_)
   refine end_d (.inr rfl) (rs := [.tmp 2]) rfl (by simp only [go_sem, g0]; rfl) ?_
   refine ⟨?_, rfl⟩
   try simp only [Bool.not_eq_true', Bool.not_eq_false'] at g0
   simp only [validate, g0, Bool.and_true, Bool.true_and, Bool.and_false, Bool.false_and, Bool.or_true, Bool.true_or, Bool.or_false, Bool.false_or, Bool.not_true, Bool.not_false, Bool.false_eq_true, if_true, if_false, reduceIte]
 · skip
   refine regS_go 1 (by simp only [go_sem, g0]; rfl) ?_
   refine regS_call rfl (by simp only [go_sem, g0]) rfl (by simp only [go_sem, g0]; rfl) (by simp only [go_sem, g0]; rfl) ?_
   refine callK_d (depth_cc f hs) rfl rfl rfl ?_
   refine regS_go 3 (by simp only [go_sem, g0]; rfl) ?_
   refine regS_nil ?_
   refine seqK_normal ?_
   refine awp_cond (by simp only [go_sem, g0]; rfl) (fun c1 => ?_) (fun c1 => ?_)
   · skip
     refine awp_seq ?_
     refine awp_region (by simp only [slimL, slim1, List.map_cons, List.map_nil, List.getElem?_toArray, List.getElem?_cons_succ, List.getElem?_cons_zero, Option.bind_some]; rfl) ?_
     refine regS_go 1 (by simp only [go_sem, g0, c1]; rfl) ?_
     refine regS_nil ?_
     refine seqK_normal ?_
     refine awp_ret ?_
     refine blockK_ret (seqK_ret ?_)
     refine end_d (.inr rfl) (rs := [.tmp 2]) rfl (by simp only [go_sem, g0, c1]; rfl) ?_
     refine ⟨?_, rfl⟩
     try simp only [Bool.not_eq_true', Bool.not_eq_false'] at g0 c1
     simp only [validate, g0, c1, Bool.and_true, Bool.true_and, Bool.and_false, Bool.false_and, Bool.or_true, Bool.true_or, Bool.or_false, Bool.false_or, Bool.not_true, Bool.not_false, Bool.false_eq_true, if_true, if_false, reduceIte]
   · skip
     refine awp_seq ?_
     refine awp_region (by simp only [slimL, slim1, List.map_cons, List.map_nil, List.getElem?_toArray, List.getElem?_cons_succ, List.getElem?_cons_zero, Option.bind_some]; rfl) ?_
     refine regS_go 1 (by simp only [go_sem, g0, c1]; rfl) ?_
     refine regS_call rfl (by simp only [go_sem, g0, c1]) rfl (by simp only [go_sem, g0, c1]; rfl) (by simp only [go_sem, g0, c1]; rfl) ?_
     refine callK_d (all_cc 44 counted counted_c f hs) rfl rfl rfl ?_
     refine regS_go 2 (by simp only [go_sem, g0, c1]; rfl) ?_
     refine regS_nil ?_
     refine seqK_normal ?_
     refine awp_cond (by simp only [go_sem, g0, c1]; rfl) (fun c2 => ?_) (fun c2 => ?_)
     · skip
       refine awp_seq ?_
       refine awp_region (by simp only [slimL, slim1, List.map_cons, List.map_nil, List.getElem?_toArray, List.getElem?_cons_succ, List.getElem?_cons_zero, Option.bind_some]; rfl) ?_
       refine regS_go 1 (by simp only [go_sem, g0, c1, c2]; rfl) ?_
       refine regS_nil ?_
       refine seqK_normal ?_
       refine awp_ret ?_
       refine blockK_ret (seqK_ret ?_)
       refine end_d (.inr rfl) (rs := [.tmp 2]) rfl (by simp only [go_sem, g0, c1, c2]; rfl) ?_
       refine ⟨?_, rfl⟩
       try simp only [Bool.not_eq_true', Bool.not_eq_false'] at g0 c1 c2
       simp only [validate, g0, c1, c2, Bool.and_true, Bool.true_and, Bool.and_false, Bool.false_and, Bool.or_true, Bool.true_or, Bool.or_false, Bool.false_or, Bool.not_true, Bool.not_false, Bool.false_eq_true, if_true, if_false, reduceIte]
     · skip
       refine awp_seq ?_
       refine awp_region (by simp only [slimL, slim1, List.map_cons, List.map_nil, List.getElem?_toArray, List.getElem?_cons_succ, List.getElem?_cons_zero, Option.bind_some]; rfl) ?_
       refine regS_go 1 (by simp only [go_sem, g0, c1, c2]; rfl) ?_
       refine regS_call rfl (by simp only [go_sem, g0, c1, c2]) rfl (by simp only [go_sem, g0, c1, c2]; rfl) (by simp only [go_sem, g0, c1, c2]; rfl) ?_
       refine callK_d (all_cc 45 named named_c f hs) rfl rfl rfl ?_
       refine regS_go 2 (by simp only [go_sem, g0, c1, c2]; rfl) ?_
       refine regS_nil ?_
       refine seqK_normal ?_
       refine awp_cond (by simp only [go_sem, g0, c1, c2]; rfl) (fun c3 => ?_) (fun c3 => ?_)
       · skip
         refine awp_seq ?_
         refine awp_region (by simp only [slimL, slim1, List.map_cons, List.map_nil, List.getElem?_toArray, List.getElem?_cons_succ, List.getElem?_cons_zero, Option.bind_some]; rfl) ?_
         refine regS_go 1 (by simp only [go_sem, g0, c1, c2, c3]; rfl) ?_
         refine regS_nil ?_
         refine seqK_normal ?_
         refine awp_ret ?_
         refine blockK_ret (seqK_ret ?_)
         refine end_d (.inr rfl) (rs := [.tmp 2]) rfl (by simp only [go_sem, g0, c1, c2, c3]; rfl) ?_
         refine ⟨?_, rfl⟩
         try simp only [Bool.not_eq_true', Bool.not_eq_false'] at g0 c1 c2 c3
         simp only [validate, g0, c1, c2, c3, Bool.and_true, Bool.true_and, Bool.and_false, Bool.false_and, Bool.or_true, Bool.true_or, Bool.or_false, Bool.false_or, Bool.not_true, Bool.not_false, Bool.false_eq_true, if_true, if_false, reduceIte]
       · skip
         refine awp_skip ?_
         refine blockK_normal ?_
         refine seqK_normal ?_
         refine awp_seq ?_
         refine awp_region (by simp only [slimL, slim1, List.map_cons, List.map_nil, List.getElem?_toArray, List.getElem?_cons_succ, List.getElem?_cons_zero, Option.bind_some]; rfl) ?_
         refine regS_go 1 (by simp only [go_sem, g0, c1, c2, c3]; rfl) ?_
         refine regS_nil ?_
         refine seqK_normal ?_
         refine awp_ret ?_
         refine end_d (.inr rfl) (rs := [.tmp 2]) rfl (by simp only [go_sem, g0, c1, c2, c3]; rfl) ?_
         refine ⟨?_, rfl⟩
         try simp only [Bool.not_eq_true', Bool.not_eq_false'] at g0 c1 c2 c3
         simp only [validate, g0, c1, c2, c3, Bool.and_true, Bool.true_and, Bool.and_false, Bool.false_and, Bool.or_true, Bool.true_or, Bool.or_false, Bool.false_or, Bool.not_true, Bool.not_false, Bool.false_eq_true, if_true, if_false, reduceIte]
end Go.Proofs.YtccjhfmemghccaaDoor

namespace Go.Proofs.YtccjhfmemghccaaDoor
open Go Am Go.Proofs Go.RowKit
set_option maxHeartbeats 1000000
set_option maxRecDepth 100000
variable {G : Glob}
theorem sizeB : ∃ j, Tryd.prog.info? 62 = some j ∧ j.size = 2 := by
 have h : (Tryd.prog.info? 62).map (·.size) = some 2 := by kernel_rfl
 obtain ⟨j, h1, h2⟩ := Option.map_eq_some_iff.1 h
 exact ⟨j, h1, h2⟩
theorem cc_used (b : Nat) (w : World) (h0 : w.cell? ⟨b, 0, none⟩ = some (.pointer (some ⟨b, 0, none⟩))) :
 Calls Tryd.prog 55 #[.pointer (some ⟨b, 0, none⟩)] w fun e w' => e = .returned (.tuple #[]) ∧ w' = w := by
 obtain ⟨j, hj, _⟩ := sizeB
 go_enter Tryd.func55, Tryd.ntmps55
 go_wp2
 rw [Lib.run_neq_ptr_same w _ Tryd.underlying60 hj]
 go_wp2
 go_end0
 exact ⟨rfl, rfl⟩
theorem lies62 (c : Nat) (hc : 0 < c) : liesAt Tryd.prog Tryd.prog.depth 62 c 0 62 1 = true := by
 have hd : Tryd.prog.depth = (2 * (Tryd.prog.types.size + Made.depth) + 1) + 1 := rfl
 have hs : ∀ d, sameLayout Tryd.prog (d + 1) 62 62 = true := fun d => by
  unfold sameLayout; simp
 have h2 : Tryd.prog.cellsOf 62 = 2 := by kernel_rfl
 have hr : ∀ (d : Nat) (fits : TypeId → Bool), fits 62 = true → rowAt Tryd.prog fits (d + 1) 62 c 0 1 = true := fun d fits hf => by
  unfold rowAt
  have h1 : 1 ≤ c := hc
  simp [h2, hf, h1]
 rw [hd]
 unfold liesAt
 rw [Bool.or_eq_true]
 left
 exact hr _ _ (hs _)
theorem cc_fresh (b cells : Nat) (w : World) (h0 : w.cell? ⟨b, 0, none⟩ = some (.pointer none)) (hsh : w.shape? b = some (62, cells)) (hc : 2 ≤ cells) (hfz : w.frozen? ⟨b, 0, none⟩ = false) :
 Calls Tryd.prog 55 #[.pointer (some ⟨b, 0, none⟩)] w fun e w' => e = .returned (.tuple #[]) ∧ w' = w.setCell ⟨b, 0, none⟩ (.pointer (some ⟨b, 0, none⟩)) := by
 obtain ⟨j, hj, hjs⟩ := sizeB
 go_enter Tryd.func55, Tryd.ntmps55
 go_wp2
 rw [Lib.run_to_unsafe w ⟨b, 0, none⟩ Tryd.underlying60 Tryd.underlying81 hj (by rw [hjs]; decide) hsh (by show 0 < cells; omega)]
 simp only [Result.andThen]
 rw [Oper.upon_value]
 go_wp2
 rw [run_callFunc_extern Tryd.func59 (by kernel_rfl) (by kernel_rfl) (by kernel_rfl) (e := Extern.AbiNoEscape.same) (by kernel_rfl)]
 rw [Lib.run_noEscape]
 simp only [Result.andThen]
 rw [Oper.upon_value]
 go_wp2
 have h2 : Tryd.prog.cellsOf 62 = 2 := by kernel_rfl
 rw [Lib.run_from_unsafe w ⟨b, 0, none⟩ Tryd.underlying81 Tryd.underlying60 hj hsh (lies62 _ (by rw [h2]; omega))]
 simp only [Result.andThen]
 rw [Oper.upon_value]
 go_wp2
 go_end0
 exact ⟨rfl, rfl⟩
abbrev nilP : AV := .d (.raw (.pointer none))
abbrev selfP : AV := .ptr 0 1 0 0
def bld (a buf : AV) : Blk := { fz := false, ap := false, ty := 62, sz := 2, rows := [[a, buf]] }
def byt (l : List UInt8) : Blk := { fz := false, ap := true, ty := 5, sz := 1, rows := l.map fun c => [.d (.int .u8 c.toNat)] }
theorem body90 : Body Tryd.prog 55 := ⟨Tryd.f55, Tryd.func55, rfl, rfl⟩
theorem copyCheck_c (a buf : AV) (ha : a = nilP ∨ a = selfP) (rest : List Blk) : CC Tryd.prog G 55 (bld a buf :: rest) [selfP] (bld selfP buf :: rest) (.d (.raw (.tuple #[]))) := by
 refine ⟨body90, fun w C ρ vs hR hG hv => ?_⟩
 obtain ⟨hl, hv⟩ := hv
 obtain ⟨v, rfl⟩ : ∃ v, vs = [v] := by
  match vs, hl with
  | [v], _ => exact ⟨v, rfl⟩
 have hp := hv 0 (by simp) (by simp)
 simp only [List.getElem_cons_zero] at hp
 have hb : hOf (bld a buf :: rest) 0 = some (bld a buf) := rfl
 have hp0 := hp
 cases hp with
 | ptr _ _ _ _ _ blk hb' hn h1 hpv =>
 rw [hb] at hb'; cases hb'
 obtain ⟨r, s, hr, rfl⟩ := hpv rfl
 obtain ⟨cs, lo, hi, m1, m2, m3, m4, f1, f2, f3⟩ := blk_mem hR hb hr
 obtain ⟨va, c0, c1, c2⟩ := f3 0 0 (by simp [bld]) (by simp [bld])
 have hcell : w.cell? ⟨r, 0, none⟩ = some va := by rw [cell_eq, m1]; simpa [bld] using c0
 have hex : (0 * (bld a buf).sz + 0) = 0 := by simp
 have hH : updH (hOf (bld a buf :: rest)) 0 (bld selfP buf) = hOf (bld selfP buf :: rest) := by
  funext x
  cases x with
  | zero => rfl
  | succ x => rfl
 rw [hex] at hp0 ⊢
 simp only [bld, List.getElem_cons_zero] at c2
 rcases ha with rfl | rfl
 · have hva : va = .pointer none := by have := repA_d c2; cases this; rfl
   subst hva
   have hfz : w.frozen? ⟨r, 0, none⟩ = false := by
    have := m4 rfl 0 (by simp [bld] at f1; omega)
    rw [frozen_eq w r 0 m1]
    simpa using this
   refine (cc_fresh r cs.size w hcell (by simp [World.shape?, m1, bld]) (by simpa [bld] using f1) hfz).mono ?_
   rintro e w' ⟨rfl, rfl⟩
   obtain ⟨k1, k2⟩ := store1 (i := 0) (j := 0) hR hb rfl hr (by simp [bld]) (by simp [bld]) hp0 rfl
   rw [hex] at k1 k2
   have hblk : ({ bld nilP buf with rows := (bld nilP buf).rows.set 0 (((bld nilP buf).rows[0]'(by simp [bld])).set 0 selfP) } : Blk) = bld selfP buf := rfl
   rw [hblk, hH] at k1 k2
   exact ⟨_, C, ρ, rfl, k1, k2, .d _ _ (.raw _)⟩
 · have hva : va = .pointer (some ⟨r, 0, none⟩) := by
    cases c2 with
    | ptr _ _ _ _ _ blk hb' hn h1 hpv =>
    have hb2 : hOf (bld selfP buf :: rest) 0 = some blk := hb'
    rw [hb] at hb2; cases hb2
    obtain ⟨r', s', hr', hh⟩ := hpv rfl
    rw [hr] at hr'; cases hr'
    rw [hh]; simp
   subst hva
   refine (cc_used r w hcell).mono ?_
   rintro e w' ⟨rfl, rfl⟩
   exact ⟨_, C, ρ, rfl, hR, .refl _ _ _ _, .d _ _ (.raw _)⟩
end Go.Proofs.YtccjhfmemghccaaDoor
