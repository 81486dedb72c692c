/- Plain programs of the functions of the program and lemmas about what they compute. -/
import Derived.Test.YtgmnlkjoiakoaaaDoorSa1
set_option linter.unusedSimpArgs false
set_option linter.unusedVariables false
set_option linter.unusedSectionVars false
namespace Go.Proofs.YtgmnlkjoiakoaaaDoor
open Go Am
set_option maxRecDepth 100000
set_option maxHeartbeats 1000000
set_option linter.unusedSimpArgs false
set_option linter.unusedVariables false
variable {G : Glob}
abbrev fnA (k : Nat) : AV := .d (.raw (.func (.func k) #[] #[]))

theorem named_c (f : F) : CC Tryd.prog G 48 [] [encA f] [] (bb (named f)) := by
  refine CC.go Tryd.func48 rfl rfl Tryd.ntmps48 (k0 := 0) rfl (Nat.le_of_ble_eq_true rfl) (by rfl) (by rfl) ?_
  refine awp_seq ?_
  refine awp_region (by simp only [slimL, slim1, List.map_cons, List.map_nil, List.getElem?_toArray, List.getElem?_cons_succ, List.getElem?_cons_zero, Option.bind_some]; rfl) ?_
  refine regS_go 2 (by simp only [go_sem]; rfl) ?_
  refine regS_nil ?_
  refine seqK_normal ?_
  refine awp_seq ?_
  refine awp_seq ?_
  refine awp_region (by simp only [slimL, slim1, List.map_cons, List.map_nil, List.getElem?_toArray, List.getElem?_cons_succ, List.getElem?_cons_zero, Option.bind_some]; rfl) ?_
  refine regS_go 3 (by simp only [go_sem]; rfl) ?_
  refine regS_nil ?_
  refine seqK_normal ?_
  refine awp_cond (by simp only [go_sem]; rfl) (fun c0 => ?_) (fun c0 => ?_)
  · skip
    refine awp_seq ?_
    refine awp_region (by simp only [slimL, slim1, List.map_cons, List.map_nil, List.getElem?_toArray, List.getElem?_cons_succ, List.getElem?_cons_zero, Option.bind_some]; rfl) ?_
    refine regS_go 2 (by simp only [go_sem, c0]; rfl) ?_
    refine regS_call rfl (by simp only [go_sem, c0]) rfl (by simp only [go_sem, c0]; rfl) (by simp only [go_sem, c0]; rfl) ?_
    refine callK_d (validName_c _) rfl rfl rfl ?_
    refine regS_go 1 (by simp only [go_sem, c0]; rfl) ?_
    refine regS_nil ?_
    refine seqK_normal ?_
    refine awp_ret ?_
    refine seqK_ret ?_
    refine end_d (.inr rfl) (rs := [.tmp 2]) rfl (by simp only [go_sem, c0]; rfl) ?_
    refine ⟨?_, rfl⟩
    simp only [named, c0, Bool.and_true, Bool.true_and, Bool.and_false, Bool.false_and, Bool.or_true, Bool.true_or, Bool.or_false, Bool.false_or, Bool.not_true, Bool.not_false, Bool.false_eq_true, if_true, if_false, reduceIte]
  · skip
    refine awp_skip ?_
    refine seqK_normal ?_
    refine awp_seq ?_
    refine awp_region (by simp only [slimL, slim1, List.map_cons, List.map_nil, List.getElem?_toArray, List.getElem?_cons_succ, List.getElem?_cons_zero, Option.bind_some]; rfl) ?_
    refine regS_go 4 (by simp only [go_sem, c0]; rfl) ?_
    refine regS_nil ?_
    refine seqK_normal ?_
    refine awp_ret ?_
    refine end_d (.inr rfl) (rs := [.tmp 2]) rfl (by simp only [go_sem, c0]; rfl) ?_
    refine ⟨?_, rfl⟩
    simp only [named, c0, Bool.and_true, Bool.true_and, Bool.and_false, Bool.false_and, Bool.or_true, Bool.true_or, Bool.or_false, Bool.false_or, Bool.not_true, Bool.not_false, Bool.false_eq_true, if_true, if_false, reduceIte]

theorem all_c (k : Nat) (q : F → Bool) (hq : ∀ g, CC Tryd.prog G k [] [encA g] [] (bb (q g))) (n : Nat) (ih : ∀ g : F, g.size < n → CC Tryd.prog G 46 [] [encA g, fnA k] [] (bb (F.allF q g))) (f : F) (hn : f.size ≤ n) (hs : n < 4611686018427387904) : CC Tryd.prog G 46 [] [encA f, fnA k] [] (bb (F.allF q f)) := by
  refine CC.go Tryd.func46 rfl rfl Tryd.ntmps46 (k0 := 0) rfl (Nat.le_of_ble_eq_true rfl) (by rfl) (by rfl) ?_
  refine awp_seq ?_
  refine awp_region (by simp only [slimL, slim1, List.map_cons, List.map_nil, List.getElem?_toArray, List.getElem?_cons_succ, List.getElem?_cons_zero, Option.bind_some]; rfl) ?_
  refine regS_go 2 (by simp only [go_sem]; rfl) ?_
  refine regS_nil ?_
  refine seqK_normal ?_
  refine awp_seq ?_
  refine awp_seq ?_
  refine awp_region (by simp only [slimL, slim1, List.map_cons, List.map_nil, List.getElem?_toArray, List.getElem?_cons_succ, List.getElem?_cons_zero, Option.bind_some]; rfl) ?_
  refine regS_go 2 (by simp only [go_sem]; rfl) ?_
  refine regS_call rfl (by simp only [go_sem]) rfl (by simp only [go_sem]; rfl) (by simp only [go_sem]; rfl) ?_
  refine callK_d (hq _) rfl rfl rfl ?_
  refine regS_go 1 (by simp only [go_sem]; rfl) ?_
  refine regS_nil ?_
  refine seqK_normal ?_
  refine awp_cond (by simp only [go_sem]; rfl) (fun c0 => ?_) (fun c0 => ?_)
  · skip
    refine awp_seq ?_
    refine awp_region (by simp only [slimL, slim1, List.map_cons, List.map_nil, List.getElem?_toArray, List.getElem?_cons_succ, List.getElem?_cons_zero, Option.bind_some]; rfl) ?_
    refine regS_go 1 (by simp only [go_sem, c0]; rfl) ?_
    refine regS_nil ?_
    refine seqK_normal ?_
    refine awp_ret ?_
    refine seqK_ret ?_
    refine end_d (.inr rfl) (rs := [.tmp 4]) rfl (by simp only [go_sem, c0]; rfl) ?_
    refine ⟨?_, rfl⟩
    have h0 : q f = false := by simpa using c0
    rw [F.allF_eq, h0]; rfl
  · skip
    refine awp_skip ?_
    refine seqK_normal ?_
    refine awp_seq ?_
    refine awp_seq ?_
    refine awp_region (by simp only [slimL, slim1, List.map_cons, List.map_nil, List.getElem?_toArray, List.getElem?_cons_succ, List.getElem?_cons_zero, Option.bind_some]; rfl) ?_
    refine regS_go 4 (by simp only [go_sem, c0]; rfl) ?_
    refine regS_nil ?_
    refine seqK_normal ?_
    refine awp_block ?_
    refine awp_loopI (ι := Nat) (fun (x : Nat) => (match x with | j => ⟨tl [.junk, fnA k, .junk, .junk, .junk, .junk, .junk, .junk, .junk, .junk, .junk, .junk, .d (.sl (F.encs f.args)), i64 (f.args.length : Int), i64 (j : Int)], hl [], 0, 23⟩)) (fun x => match x with | j => j ≤ f.args.length ∧ F.allFs q (f.args.take j) = true) (fun x => match x with | j => f.args.length - j) 0 ?_ ?_ ?_
    · refine Ent.cut (Nat.le_of_ble_eq_true rfl) (Nat.le_of_ble_eq_true rfl) (.junk (.keep rfl rfl (.junk (.junk (.junk (.junk (.junk (.junk (.junk (.junk (.junk (.junk (.keep rfl rfl (.keepE (by simp only [go_sem, c0]; rfl) (by rw [F.encs_len]) rfl (.keep rfl rfl (.nil _)))))))))))))))) rfl (.nil _ _) (rfl)
    · exact ⟨Nat.zero_le _, by simp [F.allFs]⟩
    · rintro j hI
      try dsimp only at hI
      dsimp only
      refine awp_seq ?_
      refine awp_region (by simp only [slimL, slim1, List.map_cons, List.map_nil, List.getElem?_toArray, List.getElem?_cons_succ, List.getElem?_cons_zero, Option.bind_some]; rfl) ?_
      refine regS_go 1 (by simp only [go_sem, c0]; rfl) ?_
      refine regS_nil ?_
      refine seqK_normal ?_
      refine awp_seq ?_
      refine awp_cond (by simp only [go_sem, c0]; rfl) (fun c1 => ?_) (fun c1 => ?_)
      · skip
        have hj : j < f.args.length := by simpa using c1
        have hget := F.encs_get f.args j hj
        have hen := F.enc_eq (f.args[j])
        have hlt := F.size_arg f j hj
        have hla := F.sizes_len f.args
        have hse := F.size_eq f
        refine awp_skip ?_
        refine seqK_normal ?_
        refine awp_seq ?_
        refine awp_block ?_
        refine awp_seq ?_
        refine awp_region (by simp only [slimL, slim1, List.map_cons, List.map_nil, List.getElem?_toArray, List.getElem?_cons_succ, List.getElem?_cons_zero, Option.bind_some]; rfl) ?_
        refine regS_go 4 (by simp only [go_sem, c0, c1, hget, hen]; rfl) ?_
        refine regS_nil ?_
        refine seqK_normal ?_
        refine awp_seq ?_
        refine awp_region (by simp only [slimL, slim1, List.map_cons, List.map_nil, List.getElem?_toArray, List.getElem?_cons_succ, List.getElem?_cons_zero, Option.bind_some]; rfl) ?_
        refine regS_go 2 (by simp only [go_sem, c0, c1, hget, hen]; rfl) ?_
        refine regS_call rfl (by simp only [go_sem, c0, c1, hget, hen]) rfl (by simp only [go_sem, c0, c1, hget, hen]; rfl) (by simp only [go_sem, c0, c1, hget, hen]; rfl) ?_
        refine callK_d (ih (f.args[j]) (by omega)) rfl rfl rfl ?_
        refine regS_go 1 (by simp only [go_sem, c0, c1, hget, hen]; rfl) ?_
        refine regS_nil ?_
        refine seqK_normal ?_
        refine awp_cond (by simp only [go_sem, c0, c1, hget, hen]; rfl) (fun c2 => ?_) (fun c2 => ?_)
        · skip
          refine awp_seq ?_
          refine awp_region (by simp only [slimL, slim1, List.map_cons, List.map_nil, List.getElem?_toArray, List.getElem?_cons_succ, List.getElem?_cons_zero, Option.bind_some]; rfl) ?_
          refine regS_go 1 (by simp only [go_sem, c0, c1, hget, hen, c2]; rfl) ?_
          refine regS_nil ?_
          refine seqK_normal ?_
          refine awp_ret ?_
          refine blockK_ret (seqK_ret (loopI_ret (blockK_ret (seqK_ret ?_))))
          refine end_d (.inr rfl) (rs := [.tmp 4]) rfl (by simp only [go_sem, c0, c1, hget, hen, c2]; rfl) ?_
          refine ⟨?_, rfl⟩
          have h0 : F.allF q f.args[j] = false := by simpa using c2
          rw [F.allF_eq, F.allFs_bad q _ j hj h0, Bool.and_false]
        · skip
          refine awp_skip ?_
          refine blockK_normal ?_
          refine seqK_normal ?_
          refine awp_region (by simp only [slimL, slim1, List.map_cons, List.map_nil, List.getElem?_toArray, List.getElem?_cons_succ, List.getElem?_cons_zero, Option.bind_some]; rfl) ?_
          refine regS_go 2 (by simp only [go_sem, c0, c1, hget, hen, c2]; rfl) ?_
          refine regS_nil ?_
          refine loopI_normal (j + 1) ?_ ?_ ?_
          · refine Ent.cut (Nat.le_of_ble_eq_true rfl) (Nat.le_of_ble_eq_true rfl) (.junk (.keep rfl rfl (.junk (.junk (.junk (.junk (.junk (.junk (.junk (.junk (.junk (.junk (.keep rfl rfl (.keep rfl rfl (.keepE (by simp only [go_sem, c0, c1, hget, hen, c2]; rfl) (by rw [wr (by omega) (by omega)]; rfl) rfl (.nil _)))))))))))))))) rfl (.nil _ _) (rfl)
          · have hga : F.allF q f.args[j] = true := by simpa using c2
            exact ⟨hj, by rw [F.allFs_take q _ _ hj, hI.2, hga]; rfl⟩
          · omega
      · skip
        refine awp_exit ?_
        refine seqK_exit (loopI_exit (blockK_exit ?_))
        refine seqK_normal ?_
        refine awp_seq ?_
        refine awp_region (by simp only [slimL, slim1, List.map_cons, List.map_nil, List.getElem?_toArray, List.getElem?_cons_succ, List.getElem?_cons_zero, Option.bind_some]; rfl) ?_
        refine regS_go 1 (by simp only [go_sem, c0, c1]; rfl) ?_
        refine regS_nil ?_
        refine seqK_normal ?_
        refine awp_ret ?_
        refine end_d (.inr rfl) (rs := [.tmp 4]) rfl (by simp only [go_sem, c0, c1]; rfl) ?_
        refine ⟨?_, rfl⟩
        have hj : j = f.args.length := by simp at c1; omega
        have h0 : q f = true := by simpa using c0
        have h1 := hI.2
        rw [hj, List.take_length] at h1
        rw [F.allF_eq, h0, h1]; rfl


theorem size_cc (f : F) (hs : f.size < 4611686018427387904) : CC Tryd.prog G 17 [] [encA f] [] (i64 f.size) := bySize (fun n ih f hn hs => size_c n ih f hn hs) f hs
theorem depth_cc (f : F) (hs : f.size < 4611686018427387904) : CC Tryd.prog G 19 [] [encA f] [] (i64 f.depth) := bySize (fun n ih f hn hs => depth_c n ih f hn hs) f hs
theorem all_cc (k : Nat) (q : F → Bool) (hq : ∀ g, CC Tryd.prog G k [] [encA g] [] (bb (q g))) (f : F) (hs : f.size < 4611686018427387904) : CC Tryd.prog G 46 [] [encA f, fnA k] [] (bb (F.allF q f)) :=
  bySize (fun n ih f hn hs => all_c k q hq n ih f hn hs) f hs

theorem validate_c (f : F) (hs : f.size < 4611686018427387904) : CC Tryd.prog G 21 [] [encA f] [] (i64 (validate f)) := by
  refine CC.go Tryd.func21 rfl rfl Tryd.ntmps21 (k0 := 0) rfl (Nat.le_of_ble_eq_true rfl) (by rfl) (by rfl) ?_
  refine awp_seq ?_
  refine awp_region (by simp only [slimL, slim1, List.map_cons, List.map_nil, List.getElem?_toArray, List.getElem?_cons_succ, List.getElem?_cons_zero, Option.bind_some]; rfl) ?_
  refine regS_go 2 (by simp only [go_sem]; rfl) ?_
  refine regS_nil ?_
  refine seqK_normal ?_
  refine awp_seq ?_
  refine awp_block ?_
  refine awp_seq ?_
  refine awp_region (by simp only [slimL, slim1, List.map_cons, List.map_nil, List.getElem?_toArray, List.getElem?_cons_succ, List.getElem?_cons_zero, Option.bind_some]; rfl) ?_
  refine regS_go 1 (by simp only [go_sem]; rfl) ?_
  refine regS_call rfl (by simp only [go_sem]) rfl (by simp only [go_sem]; rfl) (by simp only [go_sem]; rfl) ?_
  refine callK_d (size_cc f hs) rfl rfl rfl ?_
  refine regS_go 2 (by simp only [go_sem]; rfl) ?_
  refine regS_ifT 7 (by simp only [go_sem]; rfl) (fun g0 => ?_) (fun g0 => ?_)
  · skip
    refine regS_go 5 (by simp only [go_sem, g0]; rfl) ?_
    refine regS_nil ?_
    refine seqK_normal ?_
    refine awp_cond_t (by simp only [go_sem, g0]) ?_
    refine awp_seq ?_
    refine awp_region (by simp only [slimL, slim1, List.map_cons, List.map_nil, List.getElem?_toArray, List.getElem?_cons_succ, List.getElem?_cons_zero, Option.bind_some]; rfl) ?_
    refine regS_go 1 (by simp only [go_sem, g0]; rfl) ?_
    refine regS_nil ?_
    refine seqK_normal ?_
    refine awp_ret ?_
    refine blockK_ret (seqK_ret ?_)
    refine end_d (.inr rfl) (rs := [.tmp 2]) rfl (by simp only [go_sem, g0]; rfl) ?_
    refine ⟨?_, rfl⟩
    try simp only [Bool.not_eq_true', Bool.not_eq_false'] at g0
    simp only [validate, g0, Bool.and_true, Bool.true_and, Bool.and_false, Bool.false_and, Bool.or_true, Bool.true_or, Bool.or_false, Bool.false_or, Bool.not_true, Bool.not_false, Bool.false_eq_true, if_true, if_false, reduceIte]
  · skip
    refine regS_go 1 (by simp only [go_sem, g0]; rfl) ?_
    refine regS_call rfl (by simp only [go_sem, g0]) rfl (by simp only [go_sem, g0]; rfl) (by simp only [go_sem, g0]; rfl) ?_
    refine callK_d (depth_cc f hs) rfl rfl rfl ?_
    refine regS_go 3 (by simp only [go_sem, g0]; rfl) ?_
    refine regS_nil ?_
    refine seqK_normal ?_
    refine awp_cond (by simp only [go_sem, g0]; rfl) (fun c1 => ?_) (fun c1 => ?_)
    · skip
      refine awp_seq ?_
      refine awp_region (by simp only [slimL, slim1, List.map_cons, List.map_nil, List.getElem?_toArray, List.getElem?_cons_succ, List.getElem?_cons_zero, Option.bind_some]; rfl) ?_
      refine regS_go 1 (by simp only [go_sem, g0, c1]; rfl) ?_
      refine regS_nil ?_
      refine seqK_normal ?_
      refine awp_ret ?_
      refine blockK_ret (seqK_ret ?_)
      refine end_d (.inr rfl) (rs := [.tmp 2]) rfl (by simp only [go_sem, g0, c1]; rfl) ?_
      refine ⟨?_, rfl⟩
      try simp only [Bool.not_eq_true', Bool.not_eq_false'] at g0 c1
      simp only [validate, g0, c1, Bool.and_true, Bool.true_and, Bool.and_false, Bool.false_and, Bool.or_true, Bool.true_or, Bool.or_false, Bool.false_or, Bool.not_true, Bool.not_false, Bool.false_eq_true, if_true, if_false, reduceIte]
    · skip
      refine awp_seq ?_
      refine awp_region (by simp only [slimL, slim1, List.map_cons, List.map_nil, List.getElem?_toArray, List.getElem?_cons_succ, List.getElem?_cons_zero, Option.bind_some]; rfl) ?_
      refine regS_go 1 (by simp only [go_sem, g0, c1]; rfl) ?_
      refine regS_call rfl (by simp only [go_sem, g0, c1]) rfl (by simp only [go_sem, g0, c1]; rfl) (by simp only [go_sem, g0, c1]; rfl) ?_
      refine callK_d (all_cc 47 counted counted_c f hs) rfl rfl rfl ?_
      refine regS_go 2 (by simp only [go_sem, g0, c1]; rfl) ?_
      refine regS_nil ?_
      refine seqK_normal ?_
      refine awp_cond (by simp only [go_sem, g0, c1]; rfl) (fun c2 => ?_) (fun c2 => ?_)
      · skip
        refine awp_seq ?_
        refine awp_region (by simp only [slimL, slim1, List.map_cons, List.map_nil, List.getElem?_toArray, List.getElem?_cons_succ, List.getElem?_cons_zero, Option.bind_some]; rfl) ?_
        refine regS_go 1 (by simp only [go_sem, g0, c1, c2]; rfl) ?_
        refine regS_nil ?_
        refine seqK_normal ?_
        refine awp_ret ?_
        refine blockK_ret (seqK_ret ?_)
        refine end_d (.inr rfl) (rs := [.tmp 2]) rfl (by simp only [go_sem, g0, c1, c2]; rfl) ?_
        refine ⟨?_, rfl⟩
        try simp only [Bool.not_eq_true', Bool.not_eq_false'] at g0 c1 c2
        simp only [validate, g0, c1, c2, Bool.and_true, Bool.true_and, Bool.and_false, Bool.false_and, Bool.or_true, Bool.true_or, Bool.or_false, Bool.false_or, Bool.not_true, Bool.not_false, Bool.false_eq_true, if_true, if_false, reduceIte]
      · skip
        refine awp_seq ?_
        refine awp_region (by simp only [slimL, slim1, List.map_cons, List.map_nil, List.getElem?_toArray, List.getElem?_cons_succ, List.getElem?_cons_zero, Option.bind_some]; rfl) ?_
        refine regS_go 1 (by simp only [go_sem, g0, c1, c2]; rfl) ?_
        refine regS_call rfl (by simp only [go_sem, g0, c1, c2]) rfl (by simp only [go_sem, g0, c1, c2]; rfl) (by simp only [go_sem, g0, c1, c2]; rfl) ?_
        refine callK_d (all_cc 48 named named_c f hs) rfl rfl rfl ?_
        refine regS_go 2 (by simp only [go_sem, g0, c1, c2]; rfl) ?_
        refine regS_nil ?_
        refine seqK_normal ?_
        refine awp_cond (by simp only [go_sem, g0, c1, c2]; rfl) (fun c3 => ?_) (fun c3 => ?_)
        · skip
          refine awp_seq ?_
          refine awp_region (by simp only [slimL, slim1, List.map_cons, List.map_nil, List.getElem?_toArray, List.getElem?_cons_succ, List.getElem?_cons_zero, Option.bind_some]; rfl) ?_
          refine regS_go 1 (by simp only [go_sem, g0, c1, c2, c3]; rfl) ?_
          refine regS_nil ?_
          refine seqK_normal ?_
          refine awp_ret ?_
          refine blockK_ret (seqK_ret ?_)
          refine end_d (.inr rfl) (rs := [.tmp 2]) rfl (by simp only [go_sem, g0, c1, c2, c3]; rfl) ?_
          refine ⟨?_, rfl⟩
          try simp only [Bool.not_eq_true', Bool.not_eq_false'] at g0 c1 c2 c3
          simp only [validate, g0, c1, c2, c3, Bool.and_true, Bool.true_and, Bool.and_false, Bool.false_and, Bool.or_true, Bool.true_or, Bool.or_false, Bool.false_or, Bool.not_true, Bool.not_false, Bool.false_eq_true, if_true, if_false, reduceIte]
        · skip
          refine awp_skip ?_
          refine blockK_normal ?_
          refine seqK_normal ?_
          refine awp_seq ?_
          refine awp_region (by simp only [slimL, slim1, List.map_cons, List.map_nil, List.getElem?_toArray, List.getElem?_cons_succ, List.getElem?_cons_zero, Option.bind_some]; rfl) ?_
          refine regS_go 1 (by simp only [go_sem, g0, c1, c2, c3]; rfl) ?_
          refine regS_nil ?_
          refine seqK_normal ?_
          refine awp_ret ?_
          refine end_d (.inr rfl) (rs := [.tmp 2]) rfl (by simp only [go_sem, g0, c1, c2, c3]; rfl) ?_
          refine ⟨?_, rfl⟩
          try simp only [Bool.not_eq_true', Bool.not_eq_false'] at g0 c1 c2 c3
          simp only [validate, g0, c1, c2, c3, Bool.and_true, Bool.true_and, Bool.and_false, Bool.false_and, Bool.or_true, Bool.true_or, Bool.or_false, Bool.false_or, Bool.not_true, Bool.not_false, Bool.false_eq_true, if_true, if_false, reduceIte]

end Go.Proofs.YtgmnlkjoiakoaaaDoor
