/- Walks of functions of the package formula (Size, Depth, Validate, Format) on the abstract machine. -/
import Derived.Test.YtgmnlkjoiakoaaaDoorSa1
set_option linter.unusedSimpArgs false
set_option linter.unusedVariables false
set_option linter.unusedSectionVars false
namespace Go.Proofs.YtgmnlkjoiakoaaaDoor
open Go Am
set_option maxRecDepth 100000
set_option maxHeartbeats 1000000
set_option linter.unusedSimpArgs false
set_option linter.unusedVariables false
abbrev i64 (n : Int) : AV := .d (.int .i64 n)
theorem Tryd.mixed : Tryd.prog.follows .mixedOrders = true := by kernel_rfl
theorem wr {n : Int} (h0 : -9223372036854775808 ≤ n) (h1 : n < 9223372036854775808) : IntKind.i64.wrap n = n := by
  simp [IntKind.wrap, IntKind.bits, IntKind.signed]; omega

/-- a formula -/
inductive F where
  | mk (op : Int) (name : List UInt8) (args : List F)
namespace F
def op : F → Int | mk o _ _ => o
def name : F → List UInt8 | mk _ n _ => n
def args : F → List F | mk _ _ a => a
mutual
def enc : F → List D | mk o n a => [.int .i64 o, .str n, .sl (encs a)]
def encs : List F → List (List D) | [] => [] | f :: l => f.enc :: encs l
end
theorem encs_map (l : List F) : encs l = l.map enc := by
  induction l with
  | nil => rfl
  | cons f l ih => simp [encs, ih]
theorem enc_eq (f : F) : f.enc = [.int .i64 f.op, .str f.name, .sl (encs f.args)] := by cases f; rfl
theorem encs_get (l : List F) (i : Nat) (h : i < l.length) : (encs l)[i]? = some (l[i]).enc := by rw [encs_map]; simp [h]
theorem encs_len (l : List F) : (encs l).length = l.length := by rw [encs_map]; simp
mutual
def size : F → Nat | mk _ _ a => 1 + sizes a
def sizes : List F → Nat | [] => 0 | f :: l => f.size + sizes l
end
theorem size_eq (f : F) : f.size = 1 + sizes f.args := by cases f; rfl
theorem size_pos (f : F) : 0 < f.size := by rw [size_eq]; omega
theorem sizes_take (l : List F) (i : Nat) (h : i < l.length) : sizes (l.take (i + 1)) = sizes (l.take i) + (l[i]).size := by
  induction l generalizing i with
  | nil => simp at h
  | cons f l ih => cases i with
    | zero => simp [sizes]
    | succ i => simp only [List.take_succ_cons, sizes, List.getElem_cons_succ]; rw [ih i (by simpa using h)]; omega
theorem sizes_len (l : List F) : l.length ≤ sizes l := by
  induction l with
  | nil => simp [sizes]
  | cons f l ih => have := size_pos f; simp [sizes]; omega
theorem sizes_take_le (l : List F) (i : Nat) : sizes (l.take i) ≤ sizes l := by
  induction l generalizing i with
  | nil => simp
  | cons f l ih => cases i with
    | zero => simp [sizes]
    | succ i => simp only [List.take_succ_cons, sizes]; have := ih i; omega
theorem size_arg (f : F) (i : Nat) (h : i < f.args.length) : (f.args[i]).size < f.size := by
  have h1 := sizes_take f.args i h
  have h2 := sizes_take_le f.args (i + 1)
  rw [size_eq f]; omega
end F
abbrev encA (f : F) : AV := .agg [.d (.int .i64 f.op), .d (.str f.name), .d (.sl (F.encs f.args))]
variable {G : Glob}

theorem size_c (n : Nat) (ih : ∀ g : F, g.size < n → CC Tryd.prog G 17 [] [encA g] [] (i64 g.size)) (f : F) (hn : f.size ≤ n) (hs : n < 4611686018427387904) : CC Tryd.prog G 17 [] [encA f] [] (i64 f.size) := by
  refine CC.go Tryd.func17 rfl rfl Tryd.ntmps17 (k0 := 0) rfl (Nat.le_of_ble_eq_true rfl) (by rfl) (by rfl) ?_
  refine awp_seq ?_
  refine awp_region (by simp only [slimL, slim1, List.map_cons, List.map_nil, List.getElem?_toArray, List.getElem?_cons_succ, List.getElem?_cons_zero, Option.bind_some]; rfl) ?_
  refine regS_go 2 (by simp only [go_sem]; rfl) ?_
  refine regS_nil ?_
  refine seqK_normal ?_
  refine awp_seq ?_
  refine awp_region (by simp only [slimL, slim1, List.map_cons, List.map_nil, List.getElem?_toArray, List.getElem?_cons_succ, List.getElem?_cons_zero, Option.bind_some]; rfl) ?_
  refine regS_go 1 (by simp only [go_sem]; rfl) ?_
  refine regS_nil ?_
  refine seqK_normal ?_
  refine awp_seq ?_
  refine awp_seq ?_
  refine awp_region (by simp only [slimL, slim1, List.map_cons, List.map_nil, List.getElem?_toArray, List.getElem?_cons_succ, List.getElem?_cons_zero, Option.bind_some]; rfl) ?_
  refine regS_go 4 (by simp only [go_sem]; rfl) ?_
  refine regS_nil ?_
  refine seqK_normal ?_
  refine awp_block ?_
  refine awp_loopI (ι := Nat) (fun (x : Nat) => (match x with | j => ⟨tl [.junk, .junk, .junk, i64 ((1 + F.sizes (f.args.take j) : Nat) : Int), .junk, .junk, .junk, .d (.sl (F.encs f.args)), i64 (f.args.length : Int), i64 (j : Int)], hl [], 0, 19⟩)) (fun x => match x with | j => j ≤ f.args.length) (fun x => match x with | j => f.args.length - j) 0 ?_ ?_ ?_
  · refine Ent.cut (Nat.le_of_ble_eq_true rfl) (Nat.le_of_ble_eq_true rfl) (.junk (.junk (.junk (.keepE (by simp only [go_sem]; rfl) (by simp [F.sizes]) rfl (.junk (.junk (.junk (.keep rfl rfl (.keepE (by simp only [go_sem]; rfl) (by rw [F.encs_len]) rfl (.keep rfl rfl (.nil _))))))))))) rfl (.nil _ _) (rfl)
  · exact Nat.zero_le _
  · rintro j hI
    try dsimp only at hI
    dsimp only
    refine awp_seq ?_
    refine awp_region (by simp only [slimL, slim1, List.map_cons, List.map_nil, List.getElem?_toArray, List.getElem?_cons_succ, List.getElem?_cons_zero, Option.bind_some]; rfl) ?_
    refine regS_go 1 (by simp only [go_sem]; rfl) ?_
    refine regS_nil ?_
    refine seqK_normal ?_
    refine awp_seq ?_
    refine awp_cond (by simp only [go_sem]; rfl) (fun c0 => ?_) (fun c0 => ?_)
    · skip
      have hj : j < f.args.length := by simpa using c0
      have hget := F.encs_get f.args j hj
      have hen := F.enc_eq (f.args[j])
      have hlt := F.size_arg f j hj
      have hla := F.sizes_len f.args
      have hst := F.sizes_take_le f.args (j + 1)
      have hst2 := F.sizes_take f.args j hj
      have hse := F.size_eq f
      refine awp_skip ?_
      refine seqK_normal ?_
      refine awp_seq ?_
      refine awp_block ?_
      refine awp_seq ?_
      refine awp_region (by simp only [slimL, slim1, List.map_cons, List.map_nil, List.getElem?_toArray, List.getElem?_cons_succ, List.getElem?_cons_zero, Option.bind_some]; rfl) ?_
      refine regS_go 4 (by simp only [go_sem, c0, hget, hen]; rfl) ?_
      refine regS_nil ?_
      refine seqK_normal ?_
      refine awp_region (by simp only [slimL, slim1, List.map_cons, List.map_nil, List.getElem?_toArray, List.getElem?_cons_succ, List.getElem?_cons_zero, Option.bind_some]; rfl) ?_
      refine regS_go 2 (by simp only [go_sem, c0, hget, hen]; rfl) ?_
      refine regS_call rfl (by simp only [go_sem, c0, hget, hen]) rfl (by simp only [go_sem, c0, hget, hen]; rfl) (by simp only [go_sem, c0, hget, hen]; rfl) ?_
      refine callK_d (ih (f.args[j]) (by omega)) rfl rfl rfl ?_
      refine regS_go 2 (by simp only [go_sem, c0, hget, hen]; rfl) ?_
      refine regS_nil ?_
      refine blockK_normal ?_
      refine seqK_normal ?_
      refine awp_region (by simp only [slimL, slim1, List.map_cons, List.map_nil, List.getElem?_toArray, List.getElem?_cons_succ, List.getElem?_cons_zero, Option.bind_some]; rfl) ?_
      refine regS_go 2 (by simp only [go_sem, c0, hget, hen]; rfl) ?_
      refine regS_nil ?_
      refine loopI_normal (j + 1) ?_ ?_ ?_
      · refine Ent.cut (Nat.le_of_ble_eq_true rfl) (Nat.le_of_ble_eq_true rfl) (.junk (.junk (.junk (.keepE (by simp only [go_sem, c0, hget, hen]; rfl) (by rw [wr (by omega) (by omega), F.sizes_take _ _ hj]; congr 2; omega) rfl (.junk (.junk (.junk (.keep rfl rfl (.keep rfl rfl (.keepE (by simp only [go_sem, c0, hget, hen]; rfl) (by rw [wr (by omega) (by omega)]; rfl) rfl (.nil _))))))))))) rfl (.nil _ _) (rfl)
      · exact hj
      · omega
    · skip
      refine awp_exit ?_
      refine seqK_exit (loopI_exit (blockK_exit ?_))
      refine seqK_normal ?_
      refine awp_seq ?_
      refine awp_region (by simp only [slimL, slim1, List.map_cons, List.map_nil, List.getElem?_toArray, List.getElem?_cons_succ, List.getElem?_cons_zero, Option.bind_some]; rfl) ?_
      refine regS_go 2 (by simp only [go_sem, c0]; rfl) ?_
      refine regS_nil ?_
      refine seqK_normal ?_
      refine awp_ret ?_
      refine end_d (.inr rfl) (rs := [.tmp 2]) rfl (by simp only [go_sem, c0]; rfl) ?_
      have hj : j = f.args.length := by simp at c0; omega
      refine ⟨?_, rfl⟩
      rw [F.size_eq f, hj, List.take_length]


namespace F
mutual
def depth : F → Nat | mk _ _ a => depths a
def depths : List F → Nat | [] => 0 | f :: l => max (1 + f.depth) (depths l)
end
theorem depth_eq (f : F) : f.depth = depths f.args := by cases f; rfl
theorem depths_take (l : List F) (i : Nat) (h : i < l.length) : depths (l.take (i + 1)) = max (depths (l.take i)) (1 + (l[i]).depth) := by
  induction l generalizing i with
  | nil => simp at h
  | cons f l ih => cases i with
    | zero => simp [depths]
    | succ i => simp only [List.take_succ_cons, depths, List.getElem_cons_succ]; rw [ih i (by simpa using h)]; omega
mutual
theorem depth_size : ∀ f : F, f.depth < f.size
  | mk _ _ a => by have := depths_size a; simp only [depth, size]; omega
theorem depths_size : ∀ l : List F, depths l ≤ sizes l
  | [] => by simp [depths, sizes]
  | f :: l => by have := depth_size f; have := depths_size l; simp only [depths, sizes]; omega
end
theorem depths_take_size (l : List F) (i : Nat) : depths (l.take i) ≤ sizes l := Nat.le_trans (depths_size _) (sizes_take_le _ _)
end F
def strength (f : F) : Int := if f.op == 8 then 1 else if f.op == 7 then 2 else if f.op == 6 then 3 else if f.op == 5 then 4 else 5
def needed (f : F) (i : Int) : Int := if f.op == 4 || f.op == 5 then 5 else if f.op == 6 then 4 else if f.op == 7 then 3 - i else 2
def counted (f : F) : Bool := if f.op == 1 || f.op == 2 || f.op == 3 then (f.args.length : Int) == 0 else if f.op == 4 then (f.args.length : Int) == 1 else
  if f.op == 5 || f.op == 6 then decide ((f.args.length : Int) ≥ 2) && decide ((f.args.length : Int) ≤ 6) else if f.op == 7 || f.op == 8 then (f.args.length : Int) == 2 else false
def nameOk (i : Nat) (c : UInt8) : Bool := (decide ((c.toNat : Int) ≥ 97) && decide ((c.toNat : Int) ≤ 122)) || (decide ((i : Int) > 0) && ((decide ((c.toNat : Int) ≥ 48) && decide ((c.toNat : Int) ≤ 57)) || ((c.toNat : Int) == 95)))
def nameFrom : Nat → List UInt8 → Bool
  | _, [] => true
  | i, c :: l => nameOk i c && nameFrom (i + 1) l
def validName (s : List UInt8) : Bool := !((s.length : Int) == 0 || decide ((s.length : Int) > 12)) && nameFrom 0 s
theorem nameFrom_drop (s : List UInt8) (j : Nat) (h : j < s.length) : nameFrom j (s.drop j) = (nameOk j s[j] && nameFrom (j + 1) (s.drop (j + 1))) := by
  rw [List.drop_eq_getElem_cons h]; rfl
def named (f : F) : Bool := if f.op == 3 then validName f.name else f.name == []
abbrev bb (b : Bool) : AV := .d (.bool b)

theorem depth_c (n : Nat) (ih : ∀ g : F, g.size < n → CC Tryd.prog G 19 [] [encA g] [] (i64 g.depth)) (f : F) (hn : f.size ≤ n) (hs : n < 4611686018427387904) : CC Tryd.prog G 19 [] [encA f] [] (i64 f.depth) := by
  refine CC.go Tryd.func19 rfl rfl Tryd.ntmps19 (k0 := 0) rfl (Nat.le_of_ble_eq_true rfl) (by rfl) (by rfl) ?_
  refine awp_seq ?_
  refine awp_region (by simp only [slimL, slim1, List.map_cons, List.map_nil, List.getElem?_toArray, List.getElem?_cons_succ, List.getElem?_cons_zero, Option.bind_some]; rfl) ?_
  refine regS_go 2 (by simp only [go_sem]; rfl) ?_
  refine regS_nil ?_
  refine seqK_normal ?_
  refine awp_seq ?_
  refine awp_region (by simp only [slimL, slim1, List.map_cons, List.map_nil, List.getElem?_toArray, List.getElem?_cons_succ, List.getElem?_cons_zero, Option.bind_some]; rfl) ?_
  refine regS_go 1 (by simp only [go_sem]; rfl) ?_
  refine regS_nil ?_
  refine seqK_normal ?_
  refine awp_seq ?_
  refine awp_seq ?_
  refine awp_region (by simp only [slimL, slim1, List.map_cons, List.map_nil, List.getElem?_toArray, List.getElem?_cons_succ, List.getElem?_cons_zero, Option.bind_some]; rfl) ?_
  refine regS_go 4 (by simp only [go_sem]; rfl) ?_
  refine regS_nil ?_
  refine seqK_normal ?_
  refine awp_block ?_
  refine awp_loopI (ι := Nat) (fun (x : Nat) => (match x with | j => ⟨tl [.junk, .junk, .junk, i64 ((F.depths (f.args.take j) : Nat) : Int), .junk, .junk, .junk, .d (.sl (F.encs f.args)), i64 (f.args.length : Int), i64 (j : Int)], hl [], 0, 20⟩)) (fun x => match x with | j => j ≤ f.args.length) (fun x => match x with | j => f.args.length - j) 0 ?_ ?_ ?_
  · refine Ent.cut (Nat.le_of_ble_eq_true rfl) (Nat.le_of_ble_eq_true rfl) (.junk (.junk (.junk (.keepE (by simp only [go_sem]; rfl) (by simp [F.depths]) rfl (.junk (.junk (.junk (.keep rfl rfl (.keepE (by simp only [go_sem]; rfl) (by rw [F.encs_len]) rfl (.keep rfl rfl (.nil _))))))))))) rfl (.nil _ _) (rfl)
  · exact Nat.zero_le _
  · rintro j hI
    try dsimp only at hI
    dsimp only
    refine awp_seq ?_
    refine awp_region (by simp only [slimL, slim1, List.map_cons, List.map_nil, List.getElem?_toArray, List.getElem?_cons_succ, List.getElem?_cons_zero, Option.bind_some]; rfl) ?_
    refine regS_go 1 (by simp only [go_sem]; rfl) ?_
    refine regS_nil ?_
    refine seqK_normal ?_
    refine awp_seq ?_
    refine awp_cond (by simp only [go_sem]; rfl) (fun c0 => ?_) (fun c0 => ?_)
    · skip
      have hj : j < f.args.length := by simpa using c0
      have hget := F.encs_get f.args j hj
      have hen := F.enc_eq (f.args[j])
      have hlt := F.size_arg f j hj
      have hla := F.sizes_len f.args
      have hd1 := F.depth_size (f.args[j])
      have hd2 := F.depths_take_size f.args j
      have hse := F.size_eq f
      refine awp_skip ?_
      refine seqK_normal ?_
      refine awp_seq ?_
      refine awp_block ?_
      refine awp_seq ?_
      refine awp_region (by simp only [slimL, slim1, List.map_cons, List.map_nil, List.getElem?_toArray, List.getElem?_cons_succ, List.getElem?_cons_zero, Option.bind_some]; rfl) ?_
      refine regS_go 4 (by simp only [go_sem, c0, hget, hen]; rfl) ?_
      refine regS_nil ?_
      refine seqK_normal ?_
      refine awp_region (by simp only [slimL, slim1, List.map_cons, List.map_nil, List.getElem?_toArray, List.getElem?_cons_succ, List.getElem?_cons_zero, Option.bind_some]; rfl) ?_
      refine regS_go 2 (by simp only [go_sem, c0, hget, hen]; rfl) ?_
      refine regS_call rfl (by simp only [go_sem, c0, hget, hen]) rfl (by simp only [go_sem, c0, hget, hen]; rfl) (by simp only [go_sem, c0, hget, hen]; rfl) ?_
      refine callK_d (ih (f.args[j]) (by omega)) rfl rfl rfl ?_
      refine regS_go 3 (by simp only [go_sem, c0, hget, hen]; rfl) ?_
      refine regS_nil ?_
      refine blockK_normal ?_
      refine seqK_normal ?_
      refine awp_region (by simp only [slimL, slim1, List.map_cons, List.map_nil, List.getElem?_toArray, List.getElem?_cons_succ, List.getElem?_cons_zero, Option.bind_some]; rfl) ?_
      refine regS_go 2 (by simp only [go_sem, c0, hget, hen]; rfl) ?_
      refine regS_nil ?_
      refine loopI_normal (j + 1) ?_ ?_ ?_
      · refine Ent.cut (Nat.le_of_ble_eq_true rfl) (Nat.le_of_ble_eq_true rfl) (.junk (.junk (.junk (.keepE (by simp only [go_sem, c0, hget, hen]; rfl) (by rw [wr (by omega) (by omega), F.depths_take _ _ hj]; congr 2; split <;> omega) rfl (.junk (.junk (.junk (.keep rfl rfl (.keep rfl rfl (.keepE (by simp only [go_sem, c0, hget, hen]; rfl) (by rw [wr (by omega) (by omega)]; rfl) rfl (.nil _))))))))))) rfl (.nil _ _) (rfl)
      · exact hj
      · omega
    · skip
      refine awp_exit ?_
      refine seqK_exit (loopI_exit (blockK_exit ?_))
      refine seqK_normal ?_
      refine awp_seq ?_
      refine awp_region (by simp only [slimL, slim1, List.map_cons, List.map_nil, List.getElem?_toArray, List.getElem?_cons_succ, List.getElem?_cons_zero, Option.bind_some]; rfl) ?_
      refine regS_go 2 (by simp only [go_sem, c0]; rfl) ?_
      refine regS_nil ?_
      refine seqK_normal ?_
      refine awp_ret ?_
      refine end_d (.inr rfl) (rs := [.tmp 2]) rfl (by simp only [go_sem, c0]; rfl) ?_
      have hj : j = f.args.length := by simp at c0; omega
      refine ⟨?_, rfl⟩
      rw [F.depth_eq f, hj, List.take_length]

theorem strength_c (f : F) : CC Tryd.prog G 72 [] [encA f] [] (i64 (strength f)) := by
  refine CC.go Tryd.func72 rfl rfl Tryd.ntmps72 (k0 := 0) rfl (Nat.le_of_ble_eq_true rfl) (by rfl) (by rfl) ?_
  refine awp_seq ?_
  refine awp_region (by simp only [slimL, slim1, List.map_cons, List.map_nil, List.getElem?_toArray, List.getElem?_cons_succ, List.getElem?_cons_zero, Option.bind_some]; rfl) ?_
  refine regS_go 2 (by simp only [go_sem]; rfl) ?_
  refine regS_nil ?_
  refine seqK_normal ?_
  refine awp_seq ?_
  refine awp_seq ?_
  refine awp_region (by simp only [slimL, slim1, List.map_cons, List.map_nil, List.getElem?_toArray, List.getElem?_cons_succ, List.getElem?_cons_zero, Option.bind_some]; rfl) ?_
  refine regS_go 2 (by simp only [go_sem]; rfl) ?_
  refine regS_nil ?_
  refine seqK_normal ?_
  refine awp_block ?_
  refine awp_seq ?_
  refine awp_region (by simp only [slimL, slim1, List.map_cons, List.map_nil, List.getElem?_toArray, List.getElem?_cons_succ, List.getElem?_cons_zero, Option.bind_some]; rfl) ?_
  refine regS_go 2 (by simp only [go_sem]; rfl) ?_
  refine regS_nil ?_
  refine seqK_normal ?_
  refine awp_cond (by simp only [go_sem]; rfl) (fun c0 => ?_) (fun c0 => ?_)
  · skip
    refine awp_seq ?_
    refine awp_region (by simp only [slimL, slim1, List.map_cons, List.map_nil, List.getElem?_toArray, List.getElem?_cons_succ, List.getElem?_cons_zero, Option.bind_some]; rfl) ?_
    refine regS_go 1 (by simp only [go_sem, c0]; rfl) ?_
    refine regS_nil ?_
    refine seqK_normal ?_
    refine awp_ret ?_
    refine blockK_ret (seqK_ret ?_)
    refine end_d (.inr rfl) (rs := [.tmp 2]) rfl (by simp only [go_sem, c0]; rfl) ?_
    refine ⟨?_, rfl⟩
    simp only [strength, c0, Bool.and_true, Bool.true_and, Bool.and_false, Bool.false_and, Bool.or_true, Bool.true_or, Bool.or_false, Bool.false_or, Bool.not_true, Bool.not_false, Bool.false_eq_true, if_true, if_false, reduceIte]
  · skip
    refine awp_seq ?_
    refine awp_region (by simp only [slimL, slim1, List.map_cons, List.map_nil, List.getElem?_toArray, List.getElem?_cons_succ, List.getElem?_cons_zero, Option.bind_some]; rfl) ?_
    refine regS_go 2 (by simp only [go_sem, c0]; rfl) ?_
    refine regS_nil ?_
    refine seqK_normal ?_
    refine awp_cond (by simp only [go_sem, c0]; rfl) (fun c1 => ?_) (fun c1 => ?_)
    · skip
      refine awp_seq ?_
      refine awp_region (by simp only [slimL, slim1, List.map_cons, List.map_nil, List.getElem?_toArray, List.getElem?_cons_succ, List.getElem?_cons_zero, Option.bind_some]; rfl) ?_
      refine regS_go 1 (by simp only [go_sem, c0, c1]; rfl) ?_
      refine regS_nil ?_
      refine seqK_normal ?_
      refine awp_ret ?_
      refine blockK_ret (seqK_ret ?_)
      refine end_d (.inr rfl) (rs := [.tmp 2]) rfl (by simp only [go_sem, c0, c1]; rfl) ?_
      refine ⟨?_, rfl⟩
      simp only [strength, c0, c1, Bool.and_true, Bool.true_and, Bool.and_false, Bool.false_and, Bool.or_true, Bool.true_or, Bool.or_false, Bool.false_or, Bool.not_true, Bool.not_false, Bool.false_eq_true, if_true, if_false, reduceIte]
    · skip
      refine awp_seq ?_
      refine awp_region (by simp only [slimL, slim1, List.map_cons, List.map_nil, List.getElem?_toArray, List.getElem?_cons_succ, List.getElem?_cons_zero, Option.bind_some]; rfl) ?_
      refine regS_go 2 (by simp only [go_sem, c0, c1]; rfl) ?_
      refine regS_nil ?_
      refine seqK_normal ?_
      refine awp_cond (by simp only [go_sem, c0, c1]; rfl) (fun c2 => ?_) (fun c2 => ?_)
      · skip
        refine awp_seq ?_
        refine awp_region (by simp only [slimL, slim1, List.map_cons, List.map_nil, List.getElem?_toArray, List.getElem?_cons_succ, List.getElem?_cons_zero, Option.bind_some]; rfl) ?_
        refine regS_go 1 (by simp only [go_sem, c0, c1, c2]; rfl) ?_
        refine regS_nil ?_
        refine seqK_normal ?_
        refine awp_ret ?_
        refine blockK_ret (seqK_ret ?_)
        refine end_d (.inr rfl) (rs := [.tmp 2]) rfl (by simp only [go_sem, c0, c1, c2]; rfl) ?_
        refine ⟨?_, rfl⟩
        simp only [strength, c0, c1, c2, Bool.and_true, Bool.true_and, Bool.and_false, Bool.false_and, Bool.or_true, Bool.true_or, Bool.or_false, Bool.false_or, Bool.not_true, Bool.not_false, Bool.false_eq_true, if_true, if_false, reduceIte]
      · skip
        refine awp_seq ?_
        refine awp_region (by simp only [slimL, slim1, List.map_cons, List.map_nil, List.getElem?_toArray, List.getElem?_cons_succ, List.getElem?_cons_zero, Option.bind_some]; rfl) ?_
        refine regS_go 2 (by simp only [go_sem, c0, c1, c2]; rfl) ?_
        refine regS_nil ?_
        refine seqK_normal ?_
        refine awp_cond (by simp only [go_sem, c0, c1, c2]; rfl) (fun c3 => ?_) (fun c3 => ?_)
        · skip
          refine awp_seq ?_
          refine awp_region (by simp only [slimL, slim1, List.map_cons, List.map_nil, List.getElem?_toArray, List.getElem?_cons_succ, List.getElem?_cons_zero, Option.bind_some]; rfl) ?_
          refine regS_go 1 (by simp only [go_sem, c0, c1, c2, c3]; rfl) ?_
          refine regS_nil ?_
          refine seqK_normal ?_
          refine awp_ret ?_
          refine blockK_ret (seqK_ret ?_)
          refine end_d (.inr rfl) (rs := [.tmp 2]) rfl (by simp only [go_sem, c0, c1, c2, c3]; rfl) ?_
          refine ⟨?_, rfl⟩
          simp only [strength, c0, c1, c2, c3, Bool.and_true, Bool.true_and, Bool.and_false, Bool.false_and, Bool.or_true, Bool.true_or, Bool.or_false, Bool.false_or, Bool.not_true, Bool.not_false, Bool.false_eq_true, if_true, if_false, reduceIte]
        · skip
          refine awp_skip ?_
          refine blockK_normal ?_
          refine seqK_normal ?_
          refine awp_seq ?_
          refine awp_region (by simp only [slimL, slim1, List.map_cons, List.map_nil, List.getElem?_toArray, List.getElem?_cons_succ, List.getElem?_cons_zero, Option.bind_some]; rfl) ?_
          refine regS_go 1 (by simp only [go_sem, c0, c1, c2, c3]; rfl) ?_
          refine regS_nil ?_
          refine seqK_normal ?_
          refine awp_ret ?_
          refine end_d (.inr rfl) (rs := [.tmp 2]) rfl (by simp only [go_sem, c0, c1, c2, c3]; rfl) ?_
          refine ⟨?_, rfl⟩
          simp only [strength, c0, c1, c2, c3, Bool.and_true, Bool.true_and, Bool.and_false, Bool.false_and, Bool.or_true, Bool.true_or, Bool.or_false, Bool.false_or, Bool.not_true, Bool.not_false, Bool.false_eq_true, if_true, if_false, reduceIte]

theorem needed_c (f : F) (i : Int) (h0 : 0 ≤ i) (h1 : i < 4611686018427387904) : CC Tryd.prog G 73 [] [encA f, i64 i] [] (i64 (needed f i)) := by
  refine CC.go Tryd.func73 rfl rfl Tryd.ntmps73 (k0 := 0) rfl (Nat.le_of_ble_eq_true rfl) (by rfl) (by rfl) ?_
  refine awp_seq ?_
  refine awp_region (by simp only [slimL, slim1, List.map_cons, List.map_nil, List.getElem?_toArray, List.getElem?_cons_succ, List.getElem?_cons_zero, Option.bind_some]; rfl) ?_
  refine regS_go 2 (by simp only [go_sem]; rfl) ?_
  refine regS_nil ?_
  refine seqK_normal ?_
  refine awp_seq ?_
  refine awp_seq ?_
  refine awp_region (by simp only [slimL, slim1, List.map_cons, List.map_nil, List.getElem?_toArray, List.getElem?_cons_succ, List.getElem?_cons_zero, Option.bind_some]; rfl) ?_
  refine regS_go 2 (by simp only [go_sem]; rfl) ?_
  refine regS_nil ?_
  refine seqK_normal ?_
  refine awp_block ?_
  refine awp_seq ?_
  refine awp_seq ?_
  refine awp_region (by simp only [slimL, slim1, List.map_cons, List.map_nil, List.getElem?_toArray, List.getElem?_cons_succ, List.getElem?_cons_zero, Option.bind_some]; rfl) ?_
  refine regS_go 2 (by simp only [go_sem]; rfl) ?_
  refine regS_nil ?_
  refine seqK_normal ?_
  refine awp_cond (by simp only [go_sem]; rfl) (fun c0 => ?_) (fun c0 => ?_)
  · skip
    refine awp_skip ?_
    refine seqK_normal ?_
    refine awp_cond_t (by simp only [go_sem, c0]) ?_
    refine awp_seq ?_
    refine awp_region (by simp only [slimL, slim1, List.map_cons, List.map_nil, List.getElem?_toArray, List.getElem?_cons_succ, List.getElem?_cons_zero, Option.bind_some]; rfl) ?_
    refine regS_go 1 (by simp only [go_sem, c0]; rfl) ?_
    refine regS_nil ?_
    refine seqK_normal ?_
    refine awp_ret ?_
    refine blockK_ret (seqK_ret ?_)
    refine end_d (.inr rfl) (rs := [.tmp 4]) rfl (by simp only [go_sem, c0]; rfl) ?_
    refine ⟨?_, rfl⟩
    simp only [needed, c0, wr (n := 3 - i) (by omega) (by omega), Bool.and_true, Bool.true_and, Bool.and_false, Bool.false_and, Bool.or_true, Bool.true_or, Bool.or_false, Bool.false_or, Bool.not_true, Bool.not_false, Bool.false_eq_true, if_true, if_false, reduceIte]
  · skip
    refine awp_region (by simp only [slimL, slim1, List.map_cons, List.map_nil, List.getElem?_toArray, List.getElem?_cons_succ, List.getElem?_cons_zero, Option.bind_some]; rfl) ?_
    refine regS_go 2 (by simp only [go_sem, c0]; rfl) ?_
    refine regS_nil ?_
    refine seqK_normal ?_
    refine awp_cond (by simp only [go_sem, c0]; rfl) (fun c1 => ?_) (fun c1 => ?_)
    · skip
      refine awp_seq ?_
      refine awp_region (by simp only [slimL, slim1, List.map_cons, List.map_nil, List.getElem?_toArray, List.getElem?_cons_succ, List.getElem?_cons_zero, Option.bind_some]; rfl) ?_
      refine regS_go 1 (by simp only [go_sem, c0, c1]; rfl) ?_
      refine regS_nil ?_
      refine seqK_normal ?_
      refine awp_ret ?_
      refine blockK_ret (seqK_ret ?_)
      refine end_d (.inr rfl) (rs := [.tmp 4]) rfl (by simp only [go_sem, c0, c1]; rfl) ?_
      refine ⟨?_, rfl⟩
      simp only [needed, c0, c1, wr (n := 3 - i) (by omega) (by omega), Bool.and_true, Bool.true_and, Bool.and_false, Bool.false_and, Bool.or_true, Bool.true_or, Bool.or_false, Bool.false_or, Bool.not_true, Bool.not_false, Bool.false_eq_true, if_true, if_false, reduceIte]
    · skip
      refine awp_seq ?_
      refine awp_region (by simp only [slimL, slim1, List.map_cons, List.map_nil, List.getElem?_toArray, List.getElem?_cons_succ, List.getElem?_cons_zero, Option.bind_some]; rfl) ?_
      refine regS_go 2 (by simp only [go_sem, c0, c1]; rfl) ?_
      refine regS_nil ?_
      refine seqK_normal ?_
      refine awp_cond (by simp only [go_sem, c0, c1]; rfl) (fun c2 => ?_) (fun c2 => ?_)
      · skip
        refine awp_seq ?_
        refine awp_region (by simp only [slimL, slim1, List.map_cons, List.map_nil, List.getElem?_toArray, List.getElem?_cons_succ, List.getElem?_cons_zero, Option.bind_some]; rfl) ?_
        refine regS_go 1 (by simp only [go_sem, c0, c1, c2]; rfl) ?_
        refine regS_nil ?_
        refine seqK_normal ?_
        refine awp_ret ?_
        refine blockK_ret (seqK_ret ?_)
        refine end_d (.inr rfl) (rs := [.tmp 4]) rfl (by simp only [go_sem, c0, c1, c2]; rfl) ?_
        refine ⟨?_, rfl⟩
        simp only [needed, c0, c1, c2, wr (n := 3 - i) (by omega) (by omega), Bool.and_true, Bool.true_and, Bool.and_false, Bool.false_and, Bool.or_true, Bool.true_or, Bool.or_false, Bool.false_or, Bool.not_true, Bool.not_false, Bool.false_eq_true, if_true, if_false, reduceIte]
      · skip
        refine awp_seq ?_
        refine awp_region (by simp only [slimL, slim1, List.map_cons, List.map_nil, List.getElem?_toArray, List.getElem?_cons_succ, List.getElem?_cons_zero, Option.bind_some]; rfl) ?_
        refine regS_go 2 (by simp only [go_sem, c0, c1, c2]; rfl) ?_
        refine regS_nil ?_
        refine seqK_normal ?_
        refine awp_cond (by simp only [go_sem, c0, c1, c2]; rfl) (fun c3 => ?_) (fun c3 => ?_)
        · skip
          refine awp_seq ?_
          refine awp_region (by simp only [slimL, slim1, List.map_cons, List.map_nil, List.getElem?_toArray, List.getElem?_cons_succ, List.getElem?_cons_zero, Option.bind_some]; rfl) ?_
          refine regS_go 3 (by simp only [go_sem, c0, c1, c2, c3]; rfl) ?_
          refine regS_nil ?_
          refine seqK_normal ?_
          refine awp_ret ?_
          refine blockK_ret (seqK_ret ?_)
          refine end_d (.inr rfl) (rs := [.tmp 4]) rfl (by simp only [go_sem, c0, c1, c2, c3]; rfl) ?_
          refine ⟨?_, rfl⟩
          simp only [needed, c0, c1, c2, c3, wr (n := 3 - i) (by omega) (by omega), Bool.and_true, Bool.true_and, Bool.and_false, Bool.false_and, Bool.or_true, Bool.true_or, Bool.or_false, Bool.false_or, Bool.not_true, Bool.not_false, Bool.false_eq_true, if_true, if_false, reduceIte]
        · skip
          refine awp_skip ?_
          refine blockK_normal ?_
          refine seqK_normal ?_
          refine awp_seq ?_
          refine awp_region (by simp only [slimL, slim1, List.map_cons, List.map_nil, List.getElem?_toArray, List.getElem?_cons_succ, List.getElem?_cons_zero, Option.bind_some]; rfl) ?_
          refine regS_go 1 (by simp only [go_sem, c0, c1, c2, c3]; rfl) ?_
          refine regS_nil ?_
          refine seqK_normal ?_
          refine awp_ret ?_
          refine end_d (.inr rfl) (rs := [.tmp 4]) rfl (by simp only [go_sem, c0, c1, c2, c3]; rfl) ?_
          refine ⟨?_, rfl⟩
          simp only [needed, c0, c1, c2, c3, wr (n := 3 - i) (by omega) (by omega), Bool.and_true, Bool.true_and, Bool.and_false, Bool.false_and, Bool.or_true, Bool.true_or, Bool.or_false, Bool.false_or, Bool.not_true, Bool.not_false, Bool.false_eq_true, if_true, if_false, reduceIte]

theorem counted_c (f : F) : CC Tryd.prog G 47 [] [encA f] [] (bb (counted f)) := by
  refine CC.go Tryd.func47 rfl rfl Tryd.ntmps47 (k0 := 0) rfl (Nat.le_of_ble_eq_true rfl) (by rfl) (by rfl) ?_
  refine awp_seq ?_
  refine awp_region (by simp only [slimL, slim1, List.map_cons, List.map_nil, List.getElem?_toArray, List.getElem?_cons_succ, List.getElem?_cons_zero, Option.bind_some]; rfl) ?_
  refine regS_go 2 (by simp only [go_sem, F.encs_len]; rfl) ?_
  refine regS_nil ?_
  refine seqK_normal ?_
  refine awp_seq ?_
  refine awp_region (by simp only [slimL, slim1, List.map_cons, List.map_nil, List.getElem?_toArray, List.getElem?_cons_succ, List.getElem?_cons_zero, Option.bind_some]; rfl) ?_
  refine regS_go 4 (by simp only [go_sem, F.encs_len]; rfl) ?_
  refine regS_nil ?_
  refine seqK_normal ?_
  refine awp_seq ?_
  refine awp_seq ?_
  refine awp_region (by simp only [slimL, slim1, List.map_cons, List.map_nil, List.getElem?_toArray, List.getElem?_cons_succ, List.getElem?_cons_zero, Option.bind_some]; rfl) ?_
  refine regS_go 2 (by simp only [go_sem, F.encs_len]; rfl) ?_
  refine regS_nil ?_
  refine seqK_normal ?_
  refine awp_block ?_
  refine awp_seq ?_
  refine awp_seq ?_
  refine awp_region (by simp only [slimL, slim1, List.map_cons, List.map_nil, List.getElem?_toArray, List.getElem?_cons_succ, List.getElem?_cons_zero, Option.bind_some]; rfl) ?_
  refine regS_go 2 (by simp only [go_sem, F.encs_len]; rfl) ?_
  refine regS_nil ?_
  refine seqK_normal ?_
  refine awp_cond (by simp only [go_sem, F.encs_len]; rfl) (fun c0 => ?_) (fun c0 => ?_)
  · skip
    refine awp_skip ?_
    refine seqK_normal ?_
    refine awp_cond_t (by simp only [go_sem, F.encs_len, c0]) ?_
    refine awp_seq ?_
    refine awp_region (by simp only [slimL, slim1, List.map_cons, List.map_nil, List.getElem?_toArray, List.getElem?_cons_succ, List.getElem?_cons_zero, Option.bind_some]; rfl) ?_
    refine regS_go 3 (by simp only [go_sem, F.encs_len, c0]; rfl) ?_
    refine regS_nil ?_
    refine seqK_normal ?_
    refine awp_ret ?_
    refine blockK_ret (seqK_ret ?_)
    refine end_d (.inr rfl) (rs := [.tmp 2]) rfl (by simp only [go_sem, F.encs_len, c0]; rfl) ?_
    refine ⟨?_, rfl⟩
    simp only [counted, c0, Bool.and_true, Bool.true_and, Bool.and_false, Bool.false_and, Bool.or_true, Bool.true_or, Bool.or_false, Bool.false_or, Bool.not_true, Bool.not_false, Bool.false_eq_true, if_true, if_false, reduceIte]
  · skip
    refine awp_seq ?_
    refine awp_region (by simp only [slimL, slim1, List.map_cons, List.map_nil, List.getElem?_toArray, List.getElem?_cons_succ, List.getElem?_cons_zero, Option.bind_some]; rfl) ?_
    refine regS_go 2 (by simp only [go_sem, F.encs_len, c0]; rfl) ?_
    refine regS_nil ?_
    refine seqK_normal ?_
    refine awp_cond (by simp only [go_sem, F.encs_len, c0]; rfl) (fun c1 => ?_) (fun c1 => ?_)
    · skip
      refine awp_skip ?_
      refine seqK_normal ?_
      refine awp_cond_t (by simp only [go_sem, F.encs_len, c0, c1]) ?_
      refine awp_seq ?_
      refine awp_region (by simp only [slimL, slim1, List.map_cons, List.map_nil, List.getElem?_toArray, List.getElem?_cons_succ, List.getElem?_cons_zero, Option.bind_some]; rfl) ?_
      refine regS_go 3 (by simp only [go_sem, F.encs_len, c0, c1]; rfl) ?_
      refine regS_nil ?_
      refine seqK_normal ?_
      refine awp_ret ?_
      refine blockK_ret (seqK_ret ?_)
      refine end_d (.inr rfl) (rs := [.tmp 2]) rfl (by simp only [go_sem, F.encs_len, c0, c1]; rfl) ?_
      refine ⟨?_, rfl⟩
      simp only [counted, c0, c1, Bool.and_true, Bool.true_and, Bool.and_false, Bool.false_and, Bool.or_true, Bool.true_or, Bool.or_false, Bool.false_or, Bool.not_true, Bool.not_false, Bool.false_eq_true, if_true, if_false, reduceIte]
    · skip
      refine awp_region (by simp only [slimL, slim1, List.map_cons, List.map_nil, List.getElem?_toArray, List.getElem?_cons_succ, List.getElem?_cons_zero, Option.bind_some]; rfl) ?_
      refine regS_go 2 (by simp only [go_sem, F.encs_len, c0, c1]; rfl) ?_
      refine regS_nil ?_
      refine seqK_normal ?_
      refine awp_cond (by simp only [go_sem, F.encs_len, c0, c1]; rfl) (fun c2 => ?_) (fun c2 => ?_)
      · skip
        refine awp_seq ?_
        refine awp_region (by simp only [slimL, slim1, List.map_cons, List.map_nil, List.getElem?_toArray, List.getElem?_cons_succ, List.getElem?_cons_zero, Option.bind_some]; rfl) ?_
        refine regS_go 3 (by simp only [go_sem, F.encs_len, c0, c1, c2]; rfl) ?_
        refine regS_nil ?_
        refine seqK_normal ?_
        refine awp_ret ?_
        refine blockK_ret (seqK_ret ?_)
        refine end_d (.inr rfl) (rs := [.tmp 2]) rfl (by simp only [go_sem, F.encs_len, c0, c1, c2]; rfl) ?_
        refine ⟨?_, rfl⟩
        simp only [counted, c0, c1, c2, Bool.and_true, Bool.true_and, Bool.and_false, Bool.false_and, Bool.or_true, Bool.true_or, Bool.or_false, Bool.false_or, Bool.not_true, Bool.not_false, Bool.false_eq_true, if_true, if_false, reduceIte]
      · skip
        refine awp_seq ?_
        refine awp_region (by simp only [slimL, slim1, List.map_cons, List.map_nil, List.getElem?_toArray, List.getElem?_cons_succ, List.getElem?_cons_zero, Option.bind_some]; rfl) ?_
        refine regS_go 2 (by simp only [go_sem, F.encs_len, c0, c1, c2]; rfl) ?_
        refine regS_nil ?_
        refine seqK_normal ?_
        refine awp_cond (by simp only [go_sem, F.encs_len, c0, c1, c2]; rfl) (fun c3 => ?_) (fun c3 => ?_)
        · skip
          refine awp_seq ?_
          refine awp_region (by simp only [slimL, slim1, List.map_cons, List.map_nil, List.getElem?_toArray, List.getElem?_cons_succ, List.getElem?_cons_zero, Option.bind_some]; rfl) ?_
          refine regS_go 3 (by simp only [go_sem, F.encs_len, c0, c1, c2, c3]; rfl) ?_
          refine regS_nil ?_
          refine seqK_normal ?_
          refine awp_ret ?_
          refine blockK_ret (seqK_ret ?_)
          refine end_d (.inr rfl) (rs := [.tmp 2]) rfl (by simp only [go_sem, F.encs_len, c0, c1, c2, c3]; rfl) ?_
          refine ⟨?_, rfl⟩
          simp only [counted, c0, c1, c2, c3, Bool.and_true, Bool.true_and, Bool.and_false, Bool.false_and, Bool.or_true, Bool.true_or, Bool.or_false, Bool.false_or, Bool.not_true, Bool.not_false, Bool.false_eq_true, if_true, if_false, reduceIte]
        · skip
          refine awp_seq ?_
          refine awp_seq ?_
          refine awp_region (by simp only [slimL, slim1, List.map_cons, List.map_nil, List.getElem?_toArray, List.getElem?_cons_succ, List.getElem?_cons_zero, Option.bind_some]; rfl) ?_
          refine regS_go 2 (by simp only [go_sem, F.encs_len, c0, c1, c2, c3]; rfl) ?_
          refine regS_nil ?_
          refine seqK_normal ?_
          refine awp_cond (by simp only [go_sem, F.encs_len, c0, c1, c2, c3]; rfl) (fun c4 => ?_) (fun c4 => ?_)
          · skip
            refine awp_skip ?_
            refine seqK_normal ?_
            refine awp_cond_t (by simp only [go_sem, F.encs_len, c0, c1, c2, c3, c4]) ?_
            refine awp_seq ?_
            refine awp_region (by simp only [slimL, slim1, List.map_cons, List.map_nil, List.getElem?_toArray, List.getElem?_cons_succ, List.getElem?_cons_zero, Option.bind_some]; rfl) ?_
            refine regS_go 3 (by simp only [go_sem, F.encs_len, c0, c1, c2, c3, c4]; rfl) ?_
            refine regS_ifT 24 (by simp only [go_sem, F.encs_len, c0, c1, c2, c3, c4]; rfl) (fun g5 => ?_) (fun g5 => ?_)
            · skip
              refine regS_go 4 (by simp only [go_sem, F.encs_len, c0, c1, c2, c3, c4, g5]; rfl) ?_
              refine regS_nil ?_
              refine seqK_normal ?_
              refine awp_ret ?_
              refine blockK_ret (seqK_ret ?_)
              refine end_d (.inr rfl) (rs := [.tmp 2]) rfl (by simp only [go_sem, F.encs_len, c0, c1, c2, c3, c4, g5]; rfl) ?_
              refine ⟨?_, rfl⟩
              simp only [counted, c0, c1, c2, c3, c4, g5, Bool.and_true, Bool.true_and, Bool.and_false, Bool.false_and, Bool.or_true, Bool.true_or, Bool.or_false, Bool.false_or, Bool.not_true, Bool.not_false, Bool.false_eq_true, if_true, if_false, reduceIte]
            · skip
              refine regS_go 4 (by simp only [go_sem, F.encs_len, c0, c1, c2, c3, c4, g5]; rfl) ?_
              refine regS_nil ?_
              refine seqK_normal ?_
              refine awp_ret ?_
              refine blockK_ret (seqK_ret ?_)
              refine end_d (.inr rfl) (rs := [.tmp 2]) rfl (by simp only [go_sem, F.encs_len, c0, c1, c2, c3, c4, g5]; rfl) ?_
              refine ⟨?_, rfl⟩
              simp only [counted, c0, c1, c2, c3, c4, g5, Bool.and_true, Bool.true_and, Bool.and_false, Bool.false_and, Bool.or_true, Bool.true_or, Bool.or_false, Bool.false_or, Bool.not_true, Bool.not_false, Bool.false_eq_true, if_true, if_false, reduceIte]
          · skip
            refine awp_region (by simp only [slimL, slim1, List.map_cons, List.map_nil, List.getElem?_toArray, List.getElem?_cons_succ, List.getElem?_cons_zero, Option.bind_some]; rfl) ?_
            refine regS_go 2 (by simp only [go_sem, F.encs_len, c0, c1, c2, c3, c4]; rfl) ?_
            refine regS_nil ?_
            refine seqK_normal ?_
            refine awp_cond (by simp only [go_sem, F.encs_len, c0, c1, c2, c3, c4]; rfl) (fun c6 => ?_) (fun c6 => ?_)
            · skip
              refine awp_seq ?_
              refine awp_region (by simp only [slimL, slim1, List.map_cons, List.map_nil, List.getElem?_toArray, List.getElem?_cons_succ, List.getElem?_cons_zero, Option.bind_some]; rfl) ?_
              refine regS_go 3 (by simp only [go_sem, F.encs_len, c0, c1, c2, c3, c4, c6]; rfl) ?_
              refine regS_ifT 24 (by simp only [go_sem, F.encs_len, c0, c1, c2, c3, c4, c6]; rfl) (fun g7 => ?_) (fun g7 => ?_)
              · skip
                refine regS_go 4 (by simp only [go_sem, F.encs_len, c0, c1, c2, c3, c4, c6, g7]; rfl) ?_
                refine regS_nil ?_
                refine seqK_normal ?_
                refine awp_ret ?_
                refine blockK_ret (seqK_ret ?_)
                refine end_d (.inr rfl) (rs := [.tmp 2]) rfl (by simp only [go_sem, F.encs_len, c0, c1, c2, c3, c4, c6, g7]; rfl) ?_
                refine ⟨?_, rfl⟩
                simp only [counted, c0, c1, c2, c3, c4, c6, g7, Bool.and_true, Bool.true_and, Bool.and_false, Bool.false_and, Bool.or_true, Bool.true_or, Bool.or_false, Bool.false_or, Bool.not_true, Bool.not_false, Bool.false_eq_true, if_true, if_false, reduceIte]
              · skip
                refine regS_go 4 (by simp only [go_sem, F.encs_len, c0, c1, c2, c3, c4, c6, g7]; rfl) ?_
                refine regS_nil ?_
                refine seqK_normal ?_
                refine awp_ret ?_
                refine blockK_ret (seqK_ret ?_)
                refine end_d (.inr rfl) (rs := [.tmp 2]) rfl (by simp only [go_sem, F.encs_len, c0, c1, c2, c3, c4, c6, g7]; rfl) ?_
                refine ⟨?_, rfl⟩
                simp only [counted, c0, c1, c2, c3, c4, c6, g7, Bool.and_true, Bool.true_and, Bool.and_false, Bool.false_and, Bool.or_true, Bool.true_or, Bool.or_false, Bool.false_or, Bool.not_true, Bool.not_false, Bool.false_eq_true, if_true, if_false, reduceIte]
            · skip
              refine awp_seq ?_
              refine awp_seq ?_
              refine awp_region (by simp only [slimL, slim1, List.map_cons, List.map_nil, List.getElem?_toArray, List.getElem?_cons_succ, List.getElem?_cons_zero, Option.bind_some]; rfl) ?_
              refine regS_go 2 (by simp only [go_sem, F.encs_len, c0, c1, c2, c3, c4, c6]; rfl) ?_
              refine regS_nil ?_
              refine seqK_normal ?_
              refine awp_cond (by simp only [go_sem, F.encs_len, c0, c1, c2, c3, c4, c6]; rfl) (fun c8 => ?_) (fun c8 => ?_)
              · skip
                refine awp_skip ?_
                refine seqK_normal ?_
                refine awp_cond_t (by simp only [go_sem, F.encs_len, c0, c1, c2, c3, c4, c6, c8]) ?_
                refine awp_seq ?_
                refine awp_region (by simp only [slimL, slim1, List.map_cons, List.map_nil, List.getElem?_toArray, List.getElem?_cons_succ, List.getElem?_cons_zero, Option.bind_some]; rfl) ?_
                refine regS_go 3 (by simp only [go_sem, F.encs_len, c0, c1, c2, c3, c4, c6, c8]; rfl) ?_
                refine regS_nil ?_
                refine seqK_normal ?_
                refine awp_ret ?_
                refine blockK_ret (seqK_ret ?_)
                refine end_d (.inr rfl) (rs := [.tmp 2]) rfl (by simp only [go_sem, F.encs_len, c0, c1, c2, c3, c4, c6, c8]; rfl) ?_
                refine ⟨?_, rfl⟩
                simp only [counted, c0, c1, c2, c3, c4, c6, c8, Bool.and_true, Bool.true_and, Bool.and_false, Bool.false_and, Bool.or_true, Bool.true_or, Bool.or_false, Bool.false_or, Bool.not_true, Bool.not_false, Bool.false_eq_true, if_true, if_false, reduceIte]
              · skip
                refine awp_region (by simp only [slimL, slim1, List.map_cons, List.map_nil, List.getElem?_toArray, List.getElem?_cons_succ, List.getElem?_cons_zero, Option.bind_some]; rfl) ?_
                refine regS_go 2 (by simp only [go_sem, F.encs_len, c0, c1, c2, c3, c4, c6, c8]; rfl) ?_
                refine regS_nil ?_
                refine seqK_normal ?_
                refine awp_cond (by simp only [go_sem, F.encs_len, c0, c1, c2, c3, c4, c6, c8]; rfl) (fun c9 => ?_) (fun c9 => ?_)
                · skip
                  refine awp_seq ?_
                  refine awp_region (by simp only [slimL, slim1, List.map_cons, List.map_nil, List.getElem?_toArray, List.getElem?_cons_succ, List.getElem?_cons_zero, Option.bind_some]; rfl) ?_
                  refine regS_go 3 (by simp only [go_sem, F.encs_len, c0, c1, c2, c3, c4, c6, c8, c9]; rfl) ?_
                  refine regS_nil ?_
                  refine seqK_normal ?_
                  refine awp_ret ?_
                  refine blockK_ret (seqK_ret ?_)
                  refine end_d (.inr rfl) (rs := [.tmp 2]) rfl (by simp only [go_sem, F.encs_len, c0, c1, c2, c3, c4, c6, c8, c9]; rfl) ?_
                  refine ⟨?_, rfl⟩
                  simp only [counted, c0, c1, c2, c3, c4, c6, c8, c9, Bool.and_true, Bool.true_and, Bool.and_false, Bool.false_and, Bool.or_true, Bool.true_or, Bool.or_false, Bool.false_or, Bool.not_true, Bool.not_false, Bool.false_eq_true, if_true, if_false, reduceIte]
                · skip
                  refine awp_skip ?_
                  refine blockK_normal ?_
                  refine seqK_normal ?_
                  refine awp_seq ?_
                  refine awp_region (by simp only [slimL, slim1, List.map_cons, List.map_nil, List.getElem?_toArray, List.getElem?_cons_succ, List.getElem?_cons_zero, Option.bind_some]; rfl) ?_
                  refine regS_go 1 (by simp only [go_sem, F.encs_len, c0, c1, c2, c3, c4, c6, c8, c9]; rfl) ?_
                  refine regS_nil ?_
                  refine seqK_normal ?_
                  refine awp_ret ?_
                  refine end_d (.inr rfl) (rs := [.tmp 2]) rfl (by simp only [go_sem, F.encs_len, c0, c1, c2, c3, c4, c6, c8, c9]; rfl) ?_
                  refine ⟨?_, rfl⟩
                  simp only [counted, c0, c1, c2, c3, c4, c6, c8, c9, Bool.and_true, Bool.true_and, Bool.and_false, Bool.false_and, Bool.or_true, Bool.true_or, Bool.or_false, Bool.false_or, Bool.not_true, Bool.not_false, Bool.false_eq_true, if_true, if_false, reduceIte]

theorem validName_c (s : List UInt8) : CC Tryd.prog G 76 [] [.d (.str s)] [] (bb (validName s)) := by
  refine CC.go Tryd.func76 rfl rfl Tryd.ntmps76 (k0 := 0) rfl (Nat.le_of_ble_eq_true rfl) (by rfl) (by rfl) ?_
  refine awp_seq ?_
  refine awp_region (by simp only [slimL, slim1, List.map_cons, List.map_nil, List.getElem?_toArray, List.getElem?_cons_succ, List.getElem?_cons_zero, Option.bind_some]; rfl) ?_
  refine regS_go 1 (by simp only [go_sem]; rfl) ?_
  refine regS_nil ?_
  refine seqK_normal ?_
  refine awp_seq ?_
  refine awp_seq ?_
  refine awp_region (by simp only [slimL, slim1, List.map_cons, List.map_nil, List.getElem?_toArray, List.getElem?_cons_succ, List.getElem?_cons_zero, Option.bind_some]; rfl) ?_
  refine regS_go 4 (by simp only [go_sem]; rfl) ?_
  refine regS_ifT 8 (by simp only [go_sem]; rfl) (fun g0 => ?_) (fun g0 => ?_)
  · skip
    refine regS_go 4 (by simp only [go_sem, g0]; rfl) ?_
    refine regS_nil ?_
    refine seqK_normal ?_
    refine awp_cond_t (by simp only [go_sem, g0]) ?_
    refine awp_seq ?_
    refine awp_region (by simp only [slimL, slim1, List.map_cons, List.map_nil, List.getElem?_toArray, List.getElem?_cons_succ, List.getElem?_cons_zero, Option.bind_some]; rfl) ?_
    refine regS_go 1 (by simp only [go_sem, g0]; rfl) ?_
    refine regS_nil ?_
    refine seqK_normal ?_
    refine awp_ret ?_
    refine seqK_ret ?_
    refine end_d (.inr rfl) (rs := [.tmp 2]) rfl (by simp only [go_sem, g0]; rfl) ?_
    refine ⟨?_, rfl⟩
    simp only [validName, g0, Bool.and_true, Bool.true_and, Bool.and_false, Bool.false_and, Bool.or_true, Bool.true_or, Bool.or_false, Bool.false_or, Bool.not_true, Bool.not_false, Bool.false_eq_true, if_true, if_false, reduceIte]
  · skip
    refine regS_go 4 (by simp only [go_sem, g0]; rfl) ?_
    refine regS_nil ?_
    refine seqK_normal ?_
    refine awp_cond (by simp only [go_sem, g0]; rfl) (fun c1 => ?_) (fun c1 => ?_)
    · skip
      refine awp_seq ?_
      refine awp_region (by simp only [slimL, slim1, List.map_cons, List.map_nil, List.getElem?_toArray, List.getElem?_cons_succ, List.getElem?_cons_zero, Option.bind_some]; rfl) ?_
      refine regS_go 1 (by simp only [go_sem, g0, c1]; rfl) ?_
      refine regS_nil ?_
      refine seqK_normal ?_
      refine awp_ret ?_
      refine seqK_ret ?_
      refine end_d (.inr rfl) (rs := [.tmp 2]) rfl (by simp only [go_sem, g0, c1]; rfl) ?_
      refine ⟨?_, rfl⟩
      simp only [validName, g0, c1, Bool.and_true, Bool.true_and, Bool.and_false, Bool.false_and, Bool.or_true, Bool.true_or, Bool.or_false, Bool.false_or, Bool.not_true, Bool.not_false, Bool.false_eq_true, if_true, if_false, reduceIte]
    · skip
      refine awp_skip ?_
      refine seqK_normal ?_
      refine awp_seq ?_
      refine awp_seq ?_
      refine awp_region (by simp only [slimL, slim1, List.map_cons, List.map_nil, List.getElem?_toArray, List.getElem?_cons_succ, List.getElem?_cons_zero, Option.bind_some]; rfl) ?_
      refine regS_go 3 (by simp only [go_sem, g0, c1]; rfl) ?_
      refine regS_nil ?_
      refine seqK_normal ?_
      refine awp_block ?_
      refine awp_loopI (ι := Nat) (fun (x : Nat) => (match x with | j => ⟨tl [.d (.str s), .junk, .junk, .junk, .junk, .junk, .junk, .junk, .junk, .junk, .junk, .junk, .junk, .junk, i64 (s.length : Int), i64 (j : Int)], hl [], 0, 44⟩)) (fun x => match x with | j => j ≤ s.length ∧ s.length ≠ 0 ∧ s.length ≤ 12 ∧ nameFrom j (s.drop j) = nameFrom 0 s) (fun x => match x with | j => s.length - j) 0 ?_ ?_ ?_
      · refine Ent.cut (Nat.le_of_ble_eq_true rfl) (Nat.le_of_ble_eq_true rfl) (.keep rfl rfl (.junk (.junk (.junk (.junk (.junk (.junk (.junk (.junk (.junk (.junk (.junk (.junk (.junk (.keep rfl rfl (.keep rfl rfl (.nil _))))))))))))))))) rfl (.nil _ _) (rfl)
      · exact ⟨Nat.zero_le _, by intro h; simp [h] at g0, by simp at c1; omega, rfl⟩
      · rintro j hI
        try dsimp only at hI
        dsimp only
        refine awp_seq ?_
        refine awp_region (by simp only [slimL, slim1, List.map_cons, List.map_nil, List.getElem?_toArray, List.getElem?_cons_succ, List.getElem?_cons_zero, Option.bind_some]; rfl) ?_
        refine regS_go 1 (by simp only [go_sem, g0, c1]; rfl) ?_
        refine regS_nil ?_
        refine seqK_normal ?_
        refine awp_seq ?_
        refine awp_cond (by simp only [go_sem, g0, c1]; rfl) (fun c2 => ?_) (fun c2 => ?_)
        · skip
          have hj : j < s.length := by simpa using c2
          have hget : s[j]? = some s[j] := List.getElem?_eq_getElem hj
          have hl12 := hI.2.2.1
          refine awp_skip ?_
          refine seqK_normal ?_
          refine awp_seq ?_
          refine awp_block ?_
          refine awp_seq ?_
          refine awp_region (by simp only [slimL, slim1, List.map_cons, List.map_nil, List.getElem?_toArray, List.getElem?_cons_succ, List.getElem?_cons_zero, Option.bind_some]; rfl) ?_
          refine regS_go 2 (by simp only [go_sem, g0, c1, c2, hget]; rfl) ?_
          refine regS_nil ?_
          refine seqK_normal ?_
          refine awp_seq ?_
          refine awp_region (by simp only [slimL, slim1, List.map_cons, List.map_nil, List.getElem?_toArray, List.getElem?_cons_succ, List.getElem?_cons_zero, Option.bind_some]; rfl) ?_
          refine regS_go 4 (by simp only [go_sem, g0, c1, c2, hget]; rfl) ?_
          refine regS_nil ?_
          refine seqK_normal ?_
          refine awp_block ?_
          refine awp_seq ?_
          refine awp_region (by simp only [slimL, slim1, List.map_cons, List.map_nil, List.getElem?_toArray, List.getElem?_cons_succ, List.getElem?_cons_zero, Option.bind_some]; rfl) ?_
          refine regS_go 3 (by simp only [go_sem, g0, c1, c2, hget]; rfl) ?_
          refine regS_ifT 24 (by simp only [go_sem, g0, c1, c2, hget]; rfl) (fun g3 => ?_) (fun g3 => ?_)
          · skip
            refine regS_go 4 (by simp only [go_sem, g0, c1, c2, hget, g3]; rfl) ?_
            refine regS_nil ?_
            refine seqK_normal ?_
            refine awp_cond (by simp only [go_sem, g0, c1, c2, hget, g3]; rfl) (fun c4 => ?_) (fun c4 => ?_)
            · skip
              refine awp_skip ?_
              refine blockK_normal ?_
              refine blockK_normal ?_
              refine seqK_normal ?_
              refine awp_region (by simp only [slimL, slim1, List.map_cons, List.map_nil, List.getElem?_toArray, List.getElem?_cons_succ, List.getElem?_cons_zero, Option.bind_some]; rfl) ?_
              refine regS_go 2 (by simp only [go_sem, g0, c1, c2, hget, g3, c4]; rfl) ?_
              refine regS_nil ?_
              refine loopI_normal (j + 1) ?_ ?_ ?_
              · refine Ent.cut (Nat.le_of_ble_eq_true rfl) (Nat.le_of_ble_eq_true rfl) (.keep rfl rfl (.junk (.junk (.junk (.junk (.junk (.junk (.junk (.junk (.junk (.junk (.junk (.junk (.junk (.keep rfl rfl (.keepE (by simp only [go_sem, g0, c1, c2, hget, g3, c4]; rfl) (by rw [wr (by omega) (by omega)]; rfl) rfl (.nil _))))))))))))))))) rfl (.nil _ _) (rfl)
              · refine ⟨hj, hI.2.1, hI.2.2.1, ?_⟩
                rw [← hI.2.2.2, nameFrom_drop s j hj]
                have h0 : nameOk j s[j] = true := by
                  simp only [nameOk, g0, c1, c2, g3, c4, Bool.and_true, Bool.true_and, Bool.and_false, Bool.false_and, Bool.or_true, Bool.true_or, Bool.or_false, Bool.false_or, Bool.not_true, Bool.not_false, Bool.false_eq_true, if_true, if_false, reduceIte]
                rw [h0, Bool.true_and]
              · omega
            · skip
              refine awp_seq ?_
              refine awp_region (by simp only [slimL, slim1, List.map_cons, List.map_nil, List.getElem?_toArray, List.getElem?_cons_succ, List.getElem?_cons_zero, Option.bind_some]; rfl) ?_
              refine regS_go 3 (by simp only [go_sem, g0, c1, c2, hget, g3, c4]; rfl) ?_
              refine regS_ifT 31 (by simp only [go_sem, g0, c1, c2, hget, g3, c4]; rfl) (fun g5 => ?_) (fun g5 => ?_)
              · skip
                refine regS_go 3 (by simp only [go_sem, g0, c1, c2, hget, g3, c4, g5]; rfl) ?_
                refine regS_ifT 34 (by simp only [go_sem, g0, c1, c2, hget, g3, c4, g5]; rfl) (fun g6 => ?_) (fun g6 => ?_)
                · skip
                  refine regS_go 4 (by simp only [go_sem, g0, c1, c2, hget, g3, c4, g5, g6]; rfl) ?_
                  refine regS_ifT 38 (by simp only [go_sem, g0, c1, c2, hget, g3, c4, g5, g6]; rfl) (fun g7 => ?_) (fun g7 => ?_)
                  · skip
                    refine regS_go 5 (by simp only [go_sem, g0, c1, c2, hget, g3, c4, g5, g6, g7]; rfl) ?_
                    refine regS_nil ?_
                    refine seqK_normal ?_
                    refine awp_cond_t (by simp only [go_sem, g0, c1, c2, hget, g3, c4, g5, g6, g7]) ?_
                    refine awp_skip ?_
                    refine blockK_normal ?_
                    refine blockK_normal ?_
                    refine seqK_normal ?_
                    refine awp_region (by simp only [slimL, slim1, List.map_cons, List.map_nil, List.getElem?_toArray, List.getElem?_cons_succ, List.getElem?_cons_zero, Option.bind_some]; rfl) ?_
                    refine regS_go 2 (by simp only [go_sem, g0, c1, c2, hget, g3, c4, g5, g6, g7]; rfl) ?_
                    refine regS_nil ?_
                    refine loopI_normal (j + 1) ?_ ?_ ?_
                    · refine Ent.cut (Nat.le_of_ble_eq_true rfl) (Nat.le_of_ble_eq_true rfl) (.keep rfl rfl (.junk (.junk (.junk (.junk (.junk (.junk (.junk (.junk (.junk (.junk (.junk (.junk (.junk (.keep rfl rfl (.keepE (by simp only [go_sem, g0, c1, c2, hget, g3, c4, g5, g6, g7]; rfl) (by rw [wr (by omega) (by omega)]; rfl) rfl (.nil _))))))))))))))))) rfl (.nil _ _) (rfl)
                    · refine ⟨hj, hI.2.1, hI.2.2.1, ?_⟩
                      rw [← hI.2.2.2, nameFrom_drop s j hj]
                      have h0 : nameOk j s[j] = true := by
                        simp only [nameOk, g0, c1, c2, g3, c4, g5, g6, g7, Bool.and_true, Bool.true_and, Bool.and_false, Bool.false_and, Bool.or_true, Bool.true_or, Bool.or_false, Bool.false_or, Bool.not_true, Bool.not_false, Bool.false_eq_true, if_true, if_false, reduceIte]
                      rw [h0, Bool.true_and]
                    · omega
                  · skip
                    refine regS_go 5 (by simp only [go_sem, g0, c1, c2, hget, g3, c4, g5, g6, g7]; rfl) ?_
                    refine regS_nil ?_
                    refine seqK_normal ?_
                    refine awp_cond (by simp only [go_sem, g0, c1, c2, hget, g3, c4, g5, g6, g7]; rfl) (fun c8 => ?_) (fun c8 => ?_)
                    · skip
                      refine awp_skip ?_
                      refine blockK_normal ?_
                      refine blockK_normal ?_
                      refine seqK_normal ?_
                      refine awp_region (by simp only [slimL, slim1, List.map_cons, List.map_nil, List.getElem?_toArray, List.getElem?_cons_succ, List.getElem?_cons_zero, Option.bind_some]; rfl) ?_
                      refine regS_go 2 (by simp only [go_sem, g0, c1, c2, hget, g3, c4, g5, g6, g7, c8]; rfl) ?_
                      refine regS_nil ?_
                      refine loopI_normal (j + 1) ?_ ?_ ?_
                      · refine Ent.cut (Nat.le_of_ble_eq_true rfl) (Nat.le_of_ble_eq_true rfl) (.keep rfl rfl (.junk (.junk (.junk (.junk (.junk (.junk (.junk (.junk (.junk (.junk (.junk (.junk (.junk (.keep rfl rfl (.keepE (by simp only [go_sem, g0, c1, c2, hget, g3, c4, g5, g6, g7, c8]; rfl) (by rw [wr (by omega) (by omega)]; rfl) rfl (.nil _))))))))))))))))) rfl (.nil _ _) (rfl)
                      · refine ⟨hj, hI.2.1, hI.2.2.1, ?_⟩
                        rw [← hI.2.2.2, nameFrom_drop s j hj]
                        have h0 : nameOk j s[j] = true := by
                          simp only [nameOk, g0, c1, c2, g3, c4, g5, g6, g7, c8, Bool.and_true, Bool.true_and, Bool.and_false, Bool.false_and, Bool.or_true, Bool.true_or, Bool.or_false, Bool.false_or, Bool.not_true, Bool.not_false, Bool.false_eq_true, if_true, if_false, reduceIte]
                        rw [h0, Bool.true_and]
                      · omega
                    · skip
                      refine awp_seq ?_
                      refine awp_region (by simp only [slimL, slim1, List.map_cons, List.map_nil, List.getElem?_toArray, List.getElem?_cons_succ, List.getElem?_cons_zero, Option.bind_some]; rfl) ?_
                      refine regS_go 1 (by simp only [go_sem, g0, c1, c2, hget, g3, c4, g5, g6, g7, c8]; rfl) ?_
                      refine regS_nil ?_
                      refine seqK_normal ?_
                      refine awp_ret ?_
                      refine blockK_ret (blockK_ret (seqK_ret (loopI_ret (blockK_ret (seqK_ret ?_)))))
                      refine end_d (.inr rfl) (rs := [.tmp 2]) rfl (by simp only [go_sem, g0, c1, c2, hget, g3, c4, g5, g6, g7, c8]; rfl) ?_
                      refine ⟨?_, rfl⟩
                      have h0 : nameOk j s[j] = false := by
                        simp only [nameOk, g0, c1, c2, g3, c4, g5, g6, g7, c8, Bool.and_true, Bool.true_and, Bool.and_false, Bool.false_and, Bool.or_true, Bool.true_or, Bool.or_false, Bool.false_or, Bool.not_true, Bool.not_false, Bool.false_eq_true, if_true, if_false, reduceIte]
                      have h1 := hI.2.2.2
                      rw [nameFrom_drop s j hj, h0] at h1
                      simp only [validName, ← h1, Bool.and_true, Bool.true_and, Bool.and_false, Bool.false_and, Bool.or_true, Bool.true_or, Bool.or_false, Bool.false_or, Bool.not_true, Bool.not_false, Bool.false_eq_true, if_true, if_false, reduceIte]
                · skip
                  refine regS_go 9 (by simp only [go_sem, g0, c1, c2, hget, g3, c4, g5, g6]; rfl) ?_
                  refine regS_nil ?_
                  refine seqK_normal ?_
                  refine awp_cond (by simp only [go_sem, g0, c1, c2, hget, g3, c4, g5, g6]; rfl) (fun c9 => ?_) (fun c9 => ?_)
                  · skip
                    refine awp_skip ?_
                    refine blockK_normal ?_
                    refine blockK_normal ?_
                    refine seqK_normal ?_
                    refine awp_region (by simp only [slimL, slim1, List.map_cons, List.map_nil, List.getElem?_toArray, List.getElem?_cons_succ, List.getElem?_cons_zero, Option.bind_some]; rfl) ?_
                    refine regS_go 2 (by simp only [go_sem, g0, c1, c2, hget, g3, c4, g5, g6, c9]; rfl) ?_
                    refine regS_nil ?_
                    refine loopI_normal (j + 1) ?_ ?_ ?_
                    · refine Ent.cut (Nat.le_of_ble_eq_true rfl) (Nat.le_of_ble_eq_true rfl) (.keep rfl rfl (.junk (.junk (.junk (.junk (.junk (.junk (.junk (.junk (.junk (.junk (.junk (.junk (.junk (.keep rfl rfl (.keepE (by simp only [go_sem, g0, c1, c2, hget, g3, c4, g5, g6, c9]; rfl) (by rw [wr (by omega) (by omega)]; rfl) rfl (.nil _))))))))))))))))) rfl (.nil _ _) (rfl)
                    · refine ⟨hj, hI.2.1, hI.2.2.1, ?_⟩
                      rw [← hI.2.2.2, nameFrom_drop s j hj]
                      have h0 : nameOk j s[j] = true := by
                        simp only [nameOk, g0, c1, c2, g3, c4, g5, g6, c9, Bool.and_true, Bool.true_and, Bool.and_false, Bool.false_and, Bool.or_true, Bool.true_or, Bool.or_false, Bool.false_or, Bool.not_true, Bool.not_false, Bool.false_eq_true, if_true, if_false, reduceIte]
                      rw [h0, Bool.true_and]
                    · omega
                  · skip
                    refine awp_seq ?_
                    refine awp_region (by simp only [slimL, slim1, List.map_cons, List.map_nil, List.getElem?_toArray, List.getElem?_cons_succ, List.getElem?_cons_zero, Option.bind_some]; rfl) ?_
                    refine regS_go 1 (by simp only [go_sem, g0, c1, c2, hget, g3, c4, g5, g6, c9]; rfl) ?_
                    refine regS_nil ?_
                    refine seqK_normal ?_
                    refine awp_ret ?_
                    refine blockK_ret (blockK_ret (seqK_ret (loopI_ret (blockK_ret (seqK_ret ?_)))))
                    refine end_d (.inr rfl) (rs := [.tmp 2]) rfl (by simp only [go_sem, g0, c1, c2, hget, g3, c4, g5, g6, c9]; rfl) ?_
                    refine ⟨?_, rfl⟩
                    have h0 : nameOk j s[j] = false := by
                      simp only [nameOk, g0, c1, c2, g3, c4, g5, g6, c9, Bool.and_true, Bool.true_and, Bool.and_false, Bool.false_and, Bool.or_true, Bool.true_or, Bool.or_false, Bool.false_or, Bool.not_true, Bool.not_false, Bool.false_eq_true, if_true, if_false, reduceIte]
                    have h1 := hI.2.2.2
                    rw [nameFrom_drop s j hj, h0] at h1
                    simp only [validName, ← h1, Bool.and_true, Bool.true_and, Bool.and_false, Bool.false_and, Bool.or_true, Bool.true_or, Bool.or_false, Bool.false_or, Bool.not_true, Bool.not_false, Bool.false_eq_true, if_true, if_false, reduceIte]
              · skip
                refine regS_go 12 (by simp only [go_sem, g0, c1, c2, hget, g3, c4, g5]; rfl) ?_
                refine regS_nil ?_
                refine seqK_normal ?_
                refine awp_cond_f (by simp only [go_sem, g0, c1, c2, hget, g3, c4, g5]) ?_
                refine awp_seq ?_
                refine awp_region (by simp only [slimL, slim1, List.map_cons, List.map_nil, List.getElem?_toArray, List.getElem?_cons_succ, List.getElem?_cons_zero, Option.bind_some]; rfl) ?_
                refine regS_go 1 (by simp only [go_sem, g0, c1, c2, hget, g3, c4, g5]; rfl) ?_
                refine regS_nil ?_
                refine seqK_normal ?_
                refine awp_ret ?_
                refine blockK_ret (blockK_ret (seqK_ret (loopI_ret (blockK_ret (seqK_ret ?_)))))
                refine end_d (.inr rfl) (rs := [.tmp 2]) rfl (by simp only [go_sem, g0, c1, c2, hget, g3, c4, g5]; rfl) ?_
                refine ⟨?_, rfl⟩
                have h0 : nameOk j s[j] = false := by
                  simp only [nameOk, g0, c1, c2, g3, c4, g5, Bool.and_true, Bool.true_and, Bool.and_false, Bool.false_and, Bool.or_true, Bool.true_or, Bool.or_false, Bool.false_or, Bool.not_true, Bool.not_false, Bool.false_eq_true, if_true, if_false, reduceIte]
                have h1 := hI.2.2.2
                rw [nameFrom_drop s j hj, h0] at h1
                simp only [validName, ← h1, Bool.and_true, Bool.true_and, Bool.and_false, Bool.false_and, Bool.or_true, Bool.true_or, Bool.or_false, Bool.false_or, Bool.not_true, Bool.not_false, Bool.false_eq_true, if_true, if_false, reduceIte]
          · skip
            refine regS_go 4 (by simp only [go_sem, g0, c1, c2, hget, g3]; rfl) ?_
            refine regS_nil ?_
            refine seqK_normal ?_
            refine awp_cond_f (by simp only [go_sem, g0, c1, c2, hget, g3]) ?_
            refine awp_seq ?_
            refine awp_region (by simp only [slimL, slim1, List.map_cons, List.map_nil, List.getElem?_toArray, List.getElem?_cons_succ, List.getElem?_cons_zero, Option.bind_some]; rfl) ?_
            refine regS_go 3 (by simp only [go_sem, g0, c1, c2, hget, g3]; rfl) ?_
            refine regS_ifT 31 (by simp only [go_sem, g0, c1, c2, hget, g3]; rfl) (fun g10 => ?_) (fun g10 => ?_)
            · skip
              refine regS_go 3 (by simp only [go_sem, g0, c1, c2, hget, g3, g10]; rfl) ?_
              refine regS_ifT 34 (by simp only [go_sem, g0, c1, c2, hget, g3, g10]; rfl) (fun g11 => ?_) (fun g11 => ?_)
              · skip
                refine regS_go 4 (by simp only [go_sem, g0, c1, c2, hget, g3, g10, g11]; rfl) ?_
                refine regS_ifT 38 (by simp only [go_sem, g0, c1, c2, hget, g3, g10, g11]; rfl) (fun g12 => ?_) (fun g12 => ?_)
                · skip
                  refine regS_go 5 (by simp only [go_sem, g0, c1, c2, hget, g3, g10, g11, g12]; rfl) ?_
                  refine regS_nil ?_
                  refine seqK_normal ?_
                  refine awp_cond_t (by simp only [go_sem, g0, c1, c2, hget, g3, g10, g11, g12]) ?_
                  refine awp_skip ?_
                  refine blockK_normal ?_
                  refine blockK_normal ?_
                  refine seqK_normal ?_
                  refine awp_region (by simp only [slimL, slim1, List.map_cons, List.map_nil, List.getElem?_toArray, List.getElem?_cons_succ, List.getElem?_cons_zero, Option.bind_some]; rfl) ?_
                  refine regS_go 2 (by simp only [go_sem, g0, c1, c2, hget, g3, g10, g11, g12]; rfl) ?_
                  refine regS_nil ?_
                  refine loopI_normal (j + 1) ?_ ?_ ?_
                  · refine Ent.cut (Nat.le_of_ble_eq_true rfl) (Nat.le_of_ble_eq_true rfl) (.keep rfl rfl (.junk (.junk (.junk (.junk (.junk (.junk (.junk (.junk (.junk (.junk (.junk (.junk (.junk (.keep rfl rfl (.keepE (by simp only [go_sem, g0, c1, c2, hget, g3, g10, g11, g12]; rfl) (by rw [wr (by omega) (by omega)]; rfl) rfl (.nil _))))))))))))))))) rfl (.nil _ _) (rfl)
                  · refine ⟨hj, hI.2.1, hI.2.2.1, ?_⟩
                    rw [← hI.2.2.2, nameFrom_drop s j hj]
                    have h0 : nameOk j s[j] = true := by
                      simp only [nameOk, g0, c1, c2, g3, g10, g11, g12, Bool.and_true, Bool.true_and, Bool.and_false, Bool.false_and, Bool.or_true, Bool.true_or, Bool.or_false, Bool.false_or, Bool.not_true, Bool.not_false, Bool.false_eq_true, if_true, if_false, reduceIte]
                    rw [h0, Bool.true_and]
                  · omega
                · skip
                  refine regS_go 5 (by simp only [go_sem, g0, c1, c2, hget, g3, g10, g11, g12]; rfl) ?_
                  refine regS_nil ?_
                  refine seqK_normal ?_
                  refine awp_cond (by simp only [go_sem, g0, c1, c2, hget, g3, g10, g11, g12]; rfl) (fun c13 => ?_) (fun c13 => ?_)
                  · skip
                    refine awp_skip ?_
                    refine blockK_normal ?_
                    refine blockK_normal ?_
                    refine seqK_normal ?_
                    refine awp_region (by simp only [slimL, slim1, List.map_cons, List.map_nil, List.getElem?_toArray, List.getElem?_cons_succ, List.getElem?_cons_zero, Option.bind_some]; rfl) ?_
                    refine regS_go 2 (by simp only [go_sem, g0, c1, c2, hget, g3, g10, g11, g12, c13]; rfl) ?_
                    refine regS_nil ?_
                    refine loopI_normal (j + 1) ?_ ?_ ?_
                    · refine Ent.cut (Nat.le_of_ble_eq_true rfl) (Nat.le_of_ble_eq_true rfl) (.keep rfl rfl (.junk (.junk (.junk (.junk (.junk (.junk (.junk (.junk (.junk (.junk (.junk (.junk (.junk (.keep rfl rfl (.keepE (by simp only [go_sem, g0, c1, c2, hget, g3, g10, g11, g12, c13]; rfl) (by rw [wr (by omega) (by omega)]; rfl) rfl (.nil _))))))))))))))))) rfl (.nil _ _) (rfl)
                    · refine ⟨hj, hI.2.1, hI.2.2.1, ?_⟩
                      rw [← hI.2.2.2, nameFrom_drop s j hj]
                      have h0 : nameOk j s[j] = true := by
                        simp only [nameOk, g0, c1, c2, g3, g10, g11, g12, c13, Bool.and_true, Bool.true_and, Bool.and_false, Bool.false_and, Bool.or_true, Bool.true_or, Bool.or_false, Bool.false_or, Bool.not_true, Bool.not_false, Bool.false_eq_true, if_true, if_false, reduceIte]
                      rw [h0, Bool.true_and]
                    · omega
                  · skip
                    refine awp_seq ?_
                    refine awp_region (by simp only [slimL, slim1, List.map_cons, List.map_nil, List.getElem?_toArray, List.getElem?_cons_succ, List.getElem?_cons_zero, Option.bind_some]; rfl) ?_
                    refine regS_go 1 (by simp only [go_sem, g0, c1, c2, hget, g3, g10, g11, g12, c13]; rfl) ?_
                    refine regS_nil ?_
                    refine seqK_normal ?_
                    refine awp_ret ?_
                    refine blockK_ret (blockK_ret (seqK_ret (loopI_ret (blockK_ret (seqK_ret ?_)))))
                    refine end_d (.inr rfl) (rs := [.tmp 2]) rfl (by simp only [go_sem, g0, c1, c2, hget, g3, g10, g11, g12, c13]; rfl) ?_
                    refine ⟨?_, rfl⟩
                    have h0 : nameOk j s[j] = false := by
                      simp only [nameOk, g0, c1, c2, g3, g10, g11, g12, c13, Bool.and_true, Bool.true_and, Bool.and_false, Bool.false_and, Bool.or_true, Bool.true_or, Bool.or_false, Bool.false_or, Bool.not_true, Bool.not_false, Bool.false_eq_true, if_true, if_false, reduceIte]
                    have h1 := hI.2.2.2
                    rw [nameFrom_drop s j hj, h0] at h1
                    simp only [validName, ← h1, Bool.and_true, Bool.true_and, Bool.and_false, Bool.false_and, Bool.or_true, Bool.true_or, Bool.or_false, Bool.false_or, Bool.not_true, Bool.not_false, Bool.false_eq_true, if_true, if_false, reduceIte]
              · skip
                refine regS_go 9 (by simp only [go_sem, g0, c1, c2, hget, g3, g10, g11]; rfl) ?_
                refine regS_nil ?_
                refine seqK_normal ?_
                refine awp_cond (by simp only [go_sem, g0, c1, c2, hget, g3, g10, g11]; rfl) (fun c14 => ?_) (fun c14 => ?_)
                · skip
                  refine awp_skip ?_
                  refine blockK_normal ?_
                  refine blockK_normal ?_
                  refine seqK_normal ?_
                  refine awp_region (by simp only [slimL, slim1, List.map_cons, List.map_nil, List.getElem?_toArray, List.getElem?_cons_succ, List.getElem?_cons_zero, Option.bind_some]; rfl) ?_
                  refine regS_go 2 (by simp only [go_sem, g0, c1, c2, hget, g3, g10, g11, c14]; rfl) ?_
                  refine regS_nil ?_
                  refine loopI_normal (j + 1) ?_ ?_ ?_
                  · refine Ent.cut (Nat.le_of_ble_eq_true rfl) (Nat.le_of_ble_eq_true rfl) (.keep rfl rfl (.junk (.junk (.junk (.junk (.junk (.junk (.junk (.junk (.junk (.junk (.junk (.junk (.junk (.keep rfl rfl (.keepE (by simp only [go_sem, g0, c1, c2, hget, g3, g10, g11, c14]; rfl) (by rw [wr (by omega) (by omega)]; rfl) rfl (.nil _))))))))))))))))) rfl (.nil _ _) (rfl)
                  · refine ⟨hj, hI.2.1, hI.2.2.1, ?_⟩
                    rw [← hI.2.2.2, nameFrom_drop s j hj]
                    have h0 : nameOk j s[j] = true := by
                      simp only [nameOk, g0, c1, c2, g3, g10, g11, c14, Bool.and_true, Bool.true_and, Bool.and_false, Bool.false_and, Bool.or_true, Bool.true_or, Bool.or_false, Bool.false_or, Bool.not_true, Bool.not_false, Bool.false_eq_true, if_true, if_false, reduceIte]
                    rw [h0, Bool.true_and]
                  · omega
                · skip
                  refine awp_seq ?_
                  refine awp_region (by simp only [slimL, slim1, List.map_cons, List.map_nil, List.getElem?_toArray, List.getElem?_cons_succ, List.getElem?_cons_zero, Option.bind_some]; rfl) ?_
                  refine regS_go 1 (by simp only [go_sem, g0, c1, c2, hget, g3, g10, g11, c14]; rfl) ?_
                  refine regS_nil ?_
                  refine seqK_normal ?_
                  refine awp_ret ?_
                  refine blockK_ret (blockK_ret (seqK_ret (loopI_ret (blockK_ret (seqK_ret ?_)))))
                  refine end_d (.inr rfl) (rs := [.tmp 2]) rfl (by simp only [go_sem, g0, c1, c2, hget, g3, g10, g11, c14]; rfl) ?_
                  refine ⟨?_, rfl⟩
                  have h0 : nameOk j s[j] = false := by
                    simp only [nameOk, g0, c1, c2, g3, g10, g11, c14, Bool.and_true, Bool.true_and, Bool.and_false, Bool.false_and, Bool.or_true, Bool.true_or, Bool.or_false, Bool.false_or, Bool.not_true, Bool.not_false, Bool.false_eq_true, if_true, if_false, reduceIte]
                  have h1 := hI.2.2.2
                  rw [nameFrom_drop s j hj, h0] at h1
                  simp only [validName, ← h1, Bool.and_true, Bool.true_and, Bool.and_false, Bool.false_and, Bool.or_true, Bool.true_or, Bool.or_false, Bool.false_or, Bool.not_true, Bool.not_false, Bool.false_eq_true, if_true, if_false, reduceIte]
            · skip
              refine regS_go 12 (by simp only [go_sem, g0, c1, c2, hget, g3, g10]; rfl) ?_
              refine regS_nil ?_
              refine seqK_normal ?_
              refine awp_cond_f (by simp only [go_sem, g0, c1, c2, hget, g3, g10]) ?_
              refine awp_seq ?_
              refine awp_region (by simp only [slimL, slim1, List.map_cons, List.map_nil, List.getElem?_toArray, List.getElem?_cons_succ, List.getElem?_cons_zero, Option.bind_some]; rfl) ?_
              refine regS_go 1 (by simp only [go_sem, g0, c1, c2, hget, g3, g10]; rfl) ?_
              refine regS_nil ?_
              refine seqK_normal ?_
              refine awp_ret ?_
              refine blockK_ret (blockK_ret (seqK_ret (loopI_ret (blockK_ret (seqK_ret ?_)))))
              refine end_d (.inr rfl) (rs := [.tmp 2]) rfl (by simp only [go_sem, g0, c1, c2, hget, g3, g10]; rfl) ?_
              refine ⟨?_, rfl⟩
              have h0 : nameOk j s[j] = false := by
                simp only [nameOk, g0, c1, c2, g3, g10, Bool.and_true, Bool.true_and, Bool.and_false, Bool.false_and, Bool.or_true, Bool.true_or, Bool.or_false, Bool.false_or, Bool.not_true, Bool.not_false, Bool.false_eq_true, if_true, if_false, reduceIte]
              have h1 := hI.2.2.2
              rw [nameFrom_drop s j hj, h0] at h1
              simp only [validName, ← h1, Bool.and_true, Bool.true_and, Bool.and_false, Bool.false_and, Bool.or_true, Bool.true_or, Bool.or_false, Bool.false_or, Bool.not_true, Bool.not_false, Bool.false_eq_true, if_true, if_false, reduceIte]
        · skip
          refine awp_exit ?_
          refine seqK_exit (loopI_exit (blockK_exit ?_))
          refine seqK_normal ?_
          refine awp_seq ?_
          refine awp_region (by simp only [slimL, slim1, List.map_cons, List.map_nil, List.getElem?_toArray, List.getElem?_cons_succ, List.getElem?_cons_zero, Option.bind_some]; rfl) ?_
          refine regS_go 1 (by simp only [go_sem, g0, c1, c2]; rfl) ?_
          refine regS_nil ?_
          refine seqK_normal ?_
          refine awp_ret ?_
          refine end_d (.inr rfl) (rs := [.tmp 2]) rfl (by simp only [go_sem, g0, c1, c2]; rfl) ?_
          refine ⟨?_, rfl⟩
          have hj : j = s.length := by simp at c2; omega
          have h0 := hI.2.2.2
          rw [hj, List.drop_length] at h0
          simp only [validName, ← h0, nameFrom, g0, c1, Bool.and_true, Bool.true_and, Bool.and_false, Bool.false_and, Bool.or_true, Bool.true_or, Bool.or_false, Bool.false_or, Bool.not_true, Bool.not_false, Bool.false_eq_true, if_true, if_false, reduceIte]

end Go.Proofs.YtgmnlkjoiakoaaaDoor
