/- What functions of the program compute: lemmas. -/
import Derived.Test.YtccjhfmemghccaaDoorSa8
set_option linter.unusedSimpArgs false
set_option linter.unusedVariables false
set_option linter.unusedSectionVars false
namespace Go.Proofs.YtccjhfmemghccaaDoor
open Go Am
set_option maxRecDepth 100000
set_option maxHeartbeats 1000000
variable {G : Glob}
theorem outHs_2 (m : Nat → Nat) (b0 b1 : Blk) : outHs m [b0, b1] = [(m 0, b0.ren m), (m 1, b1.ren m)] := rfl
theorem byt_ren (m : Nat → Nat) (l : List UInt8) : (byt l).ren m = byt l := by
 simp only [byt, Blk.ren, List.map_map]
 congr 1
theorem byt_in (k : Nat) (l : List UInt8) : (byt l).rows.all (·.all (AV.inK k)) = true := by
 simp [byt, AV.inK]
abbrev bufA (l : List UInt8) : AV := .own 1 l.length 0 l.length
theorem hin2 (a : AV) (l : List UInt8) (ha : a = nilP ∨ a = selfP) : [bld a (bufA l), byt l].all (fun b => b.rows.all (·.all (AV.inK [bld a (bufA l), byt l].length))) = true := by
 simp only [List.all_cons, List.all_nil, byt_in, Bool.and_true, List.length_cons, List.length_nil]
 rcases ha with rfl | rfl <;> simp [bld, AV.inK]
theorem hold2 (a : AV) (l : List UInt8) (ha : a = nilP ∨ a = selfP) (id : Nat) : [some (bld a (bufA l)), some (byt l)] = [bld a (bufA l), byt l].map fun b => some (b.ren (mOf [0, 1] id)) := by
 simp only [List.map_cons, List.map_nil, byt_ren]
 rcases ha with rfl | rfl <;> rfl
theorem writeByte_c (a : AV) (ha : a = nilP ∨ a = selfP) (l : List UInt8) (c : UInt8) (h1 : l.length + 1 ≤ 140737488355328) (h2 : l.length + 1 ≤ 9223372036854775807) : CC Tryd.prog G 46 [bld a (bufA l), byt l] [selfP, .d (.int .u8 c.toNat)] [bld selfP (bufA (l ++ [c])), byt (l ++ [c])] (.d (.raw .nilIface)) := by
 refine CC.go Tryd.func46 rfl rfl Tryd.ntmps46 (k0 := 2) rfl (Nat.le_of_ble_eq_true rfl) (by rfl) (by rfl) ?_
 refine awp_seq ?_
 refine awp_region (by simp only [slimL, slim1, List.map_cons, List.map_nil, List.getElem?_toArray, List.getElem?_cons_succ, List.getElem?_cons_zero, Option.bind_some]; rfl) ?_
 refine regS_go 1 (by simp only [go_sem, bld, byt, List.length_map, Nat.mul_one, h1, h2, beq_self_eq_true]; rfl) ?_
 refine regS_nil ?_
 refine seqK_normal ?_
 refine awp_seq ?_
 refine awp_region (by simp only [slimL, slim1, List.map_cons, List.map_nil, List.getElem?_toArray, List.getElem?_cons_succ, List.getElem?_cons_zero, Option.bind_some]; rfl) ?_
 refine regS_go 1 (by simp only [go_sem, bld, byt, List.length_map, Nat.mul_one, h1, h2, beq_self_eq_true]; rfl) ?_
 refine regS_call rfl (by simp only [go_sem, bld, byt, List.length_map, Nat.mul_one, h1, h2, beq_self_eq_true]) rfl (by simp only [go_sem, bld, byt, List.length_map, Nat.mul_one, h1, h2, beq_self_eq_true]; rfl) (by simp only [go_sem, bld, byt, List.length_map, Nat.mul_one, h1, h2, beq_self_eq_true]; rfl) ?_
 refine callK_m [0, 1] (copyCheck_c a (bufA l) ha [byt l]) rfl rfl rfl (Nat.le_of_ble_eq_true rfl) (Nat.le_of_ble_eq_true rfl) (by simp only [go_sem]; decide) (hold2 a l ha _) rfl (hin2 a l ha) rfl (by simp only [outHs_2, byt_ren]; rfl) ?_
 refine regS_go 0 (by simp only [go_sem, bld, byt, List.length_map, Nat.mul_one, h1, h2, beq_self_eq_true]; rfl) ?_
 refine regS_nil ?_
 refine seqK_normal ?_
 refine awp_seq ?_
 refine awp_region (by simp only [slimL, slim1, List.map_cons, List.map_nil, List.getElem?_toArray, List.getElem?_cons_succ, List.getElem?_cons_zero, Option.bind_some]; rfl) ?_
 refine regS_go 11 (by simp only [go_sem, bld, byt, List.length_map, Nat.mul_one, h1, h2, beq_self_eq_true]; rfl) ?_
 refine regS_nil ?_
 refine seqK_normal ?_
 refine awp_seq ?_
 refine awp_region (by simp only [slimL, slim1, List.map_cons, List.map_nil, List.getElem?_toArray, List.getElem?_cons_succ, List.getElem?_cons_zero, Option.bind_some]; rfl) ?_
 refine regS_go 1 (by simp only [go_sem, bld, byt, List.length_map, Nat.mul_one, h1, h2, beq_self_eq_true]; rfl) ?_
 refine regS_nil ?_
 refine seqK_normal ?_
 refine awp_ret ?_
 refine end_m (.inr rfl) (rs := [.tmp 4]) rfl (by simp only [go_sem, bld, byt, List.length_map, Nat.mul_one, h1, h2, beq_self_eq_true]; rfl) ?_ ?_ (Nat.le_of_ble_eq_true rfl) (hin2 selfP _ (.inr rfl)) (by rfl)
 · rfl
 · refine .cons ?_ (.cons ?_ (.nil _ _))
   · simp only [go_sem, bld, bufA, List.length_append]
   · simp only [go_sem, byt, List.map_append, List.map_cons, List.map_nil]
theorem allRows (t : List UInt8) : ((t.map fun c => [AV.d (.int .u8 c.toNat)]).all fun r => r.length == 1 && r.all AV.one) = true := by
 simp [AV.one]
theorem writeString_c (a : AV) (ha : a = nilP ∨ a = selfP) (l t : List UInt8) (h1 : l.length + t.length ≤ 140737488355328) (h2 : l.length + t.length ≤ 9223372036854775807) : CC Tryd.prog G 47 [bld a (bufA l), byt l] [selfP, .d (.str t)] [bld selfP (bufA (l ++ t)), byt (l ++ t)] (.tup [i64 t.length, .d (.raw .nilIface)]) := by
 refine CC.go Tryd.func47 rfl rfl Tryd.ntmps47 (k0 := 2) rfl (Nat.le_of_ble_eq_true rfl) (by rfl) (by rfl) ?_
 refine awp_seq ?_
 refine awp_region (by simp only [slimL, slim1, List.map_cons, List.map_nil, List.getElem?_toArray, List.getElem?_cons_succ, List.getElem?_cons_zero, Option.bind_some]; rfl) ?_
 refine regS_go 2 (by simp only [go_sem, bld, byt, List.length_map, Nat.mul_one, h1, h2, beq_self_eq_true, allRows]; rfl) ?_
 refine regS_nil ?_
 refine seqK_normal ?_
 refine awp_seq ?_
 refine awp_region (by simp only [slimL, slim1, List.map_cons, List.map_nil, List.getElem?_toArray, List.getElem?_cons_succ, List.getElem?_cons_zero, Option.bind_some]; rfl) ?_
 refine regS_go 1 (by simp only [go_sem, bld, byt, List.length_map, Nat.mul_one, h1, h2, beq_self_eq_true, allRows]; rfl) ?_
 refine regS_call rfl (by simp only [go_sem, bld, byt, List.length_map, Nat.mul_one, h1, h2, beq_self_eq_true, allRows]) rfl (by simp only [go_sem, bld, byt, List.length_map, Nat.mul_one, h1, h2, beq_self_eq_true, allRows]; rfl) (by simp only [go_sem, bld, byt, List.length_map, Nat.mul_one, h1, h2, beq_self_eq_true, allRows]; rfl) ?_
 refine callK_m [0, 1] (copyCheck_c a (bufA l) ha [byt l]) rfl rfl rfl (Nat.le_of_ble_eq_true rfl) (Nat.le_of_ble_eq_true rfl) (by simp only [go_sem]; decide) (hold2 a l ha _) rfl (hin2 a l ha) rfl (by simp only [outHs_2, byt_ren]; rfl) ?_
 refine regS_go 0 (by simp only [go_sem, bld, byt, List.length_map, Nat.mul_one, h1, h2, beq_self_eq_true, allRows]; rfl) ?_
 refine regS_nil ?_
 refine seqK_normal ?_
 refine awp_seq ?_
 refine awp_region (by simp only [slimL, slim1, List.map_cons, List.map_nil, List.getElem?_toArray, List.getElem?_cons_succ, List.getElem?_cons_zero, Option.bind_some]; rfl) ?_
 refine regS_go 10 (by simp only [go_sem, bld, byt, List.length_map, Nat.mul_one, h1, h2, beq_self_eq_true, allRows]; rfl) ?_
 refine regS_nil ?_
 refine seqK_normal ?_
 refine awp_seq ?_
 refine awp_region (by simp only [slimL, slim1, List.map_cons, List.map_nil, List.getElem?_toArray, List.getElem?_cons_succ, List.getElem?_cons_zero, Option.bind_some]; rfl) ?_
 refine regS_go 4 (by simp only [go_sem, bld, byt, List.length_map, Nat.mul_one, h1, h2, beq_self_eq_true, allRows]; rfl) ?_
 refine regS_nil ?_
 refine seqK_normal ?_
 refine awp_ret ?_
 refine end_m (.inr rfl) (rs := [.tmp 4, .tmp 5]) rfl (by simp only [go_sem, bld, byt, List.length_map, Nat.mul_one, h1, h2, beq_self_eq_true, allRows]; rfl) ?_ ?_ (Nat.le_of_ble_eq_true rfl) (hin2 selfP _ (.inr rfl)) (by rfl)
 · rfl
 · refine .cons ?_ (.cons ?_ (.nil _ _))
   · simp only [go_sem, bld, bufA, List.length_append]
   · simp only [go_sem, byt, List.map_append]
theorem len_c (a : AV) (ha : a = nilP ∨ a = selfP) (l : List UInt8) : CC Tryd.prog G 32 [bld a (bufA l), byt l] [selfP] [bld a (bufA l), byt l] (i64 l.length) := by
 refine CC.go Tryd.func32 rfl rfl Tryd.ntmps32 (k0 := 2) rfl (Nat.le_of_ble_eq_true rfl) (by rfl) (by rfl) ?_
 refine awp_seq ?_
 refine awp_region (by simp only [slimL, slim1, List.map_cons, List.map_nil, List.getElem?_toArray, List.getElem?_cons_succ, List.getElem?_cons_zero, Option.bind_some]; rfl) ?_
 refine regS_go 1 (by simp only [go_sem, bld, byt, List.length_map]; rfl) ?_
 refine regS_nil ?_
 refine seqK_normal ?_
 refine awp_seq ?_
 refine awp_region (by simp only [slimL, slim1, List.map_cons, List.map_nil, List.getElem?_toArray, List.getElem?_cons_succ, List.getElem?_cons_zero, Option.bind_some]; rfl) ?_
 refine regS_go 6 (by simp only [go_sem, bld, byt, List.length_map]; rfl) ?_
 refine regS_nil ?_
 refine seqK_normal ?_
 refine awp_ret ?_
 refine end_m (.inr rfl) (rs := [.tmp 2]) rfl (by simp only [go_sem, bld, byt, List.length_map]; rfl) ?_ ?_ (Nat.le_of_ble_eq_true rfl) (hin2 a _ ha) (by rfl)
 · rfl
 · exact .cons rfl (.cons rfl (.nil _ _))
theorem bytes_byt (l : List UInt8) : bytesA (l.map fun c => [AV.d (.int .u8 c.toNat)]) = some l := by
 induction l with
 | nil => rfl
 | cons c l ih =>
  simp only [List.map_cons, bytesA, ih]
  have h : (0 : Int) ≤ (c.toNat : Int) ∧ (c.toNat : Int) < 256 := by have := c.toNat_lt; omega
  rw [if_pos h]
  simp
theorem bytes_take (l : List UInt8) : bytesA ((l.map fun c => [AV.d (.int .u8 c.toNat)]).take l.length) = some l := by
 rw [List.take_of_length_le (by simp), bytes_byt]
def bytF (l : List UInt8) : Blk := { byt l with fz := true }
theorem string_c (a : AV) (ha : a = nilP ∨ a = selfP) (l : List UInt8) (h0 : 0 < l.length) (h1 : (0 : Int) < (l.length : Int)) (h2 : (l.length : Int) ≤ 9223372036854775807) : CC Tryd.prog G 33 [bld a (bufA l), byt l] [selfP] [bld a (bufA l), bytF l] (.d (.str l)) := by
 refine CC.go Tryd.func33 rfl rfl Tryd.ntmps33 (k0 := 2) rfl (Nat.le_of_ble_eq_true rfl) (by rfl) (by rfl) ?_
 refine awp_seq ?_
 refine awp_region (by simp only [slimL, slim1, List.map_cons, List.map_nil, List.getElem?_toArray, List.getElem?_cons_succ, List.getElem?_cons_zero, Option.bind_some]; rfl) ?_
 refine regS_go 1 (by simp only [go_sem, bld, byt, List.length_map, bytes_take, h0, h1, h2, Nat.le_refl, List.length_take, Nat.min_self]; rfl) ?_
 refine regS_nil ?_
 refine seqK_normal ?_
 refine awp_seq ?_
 refine awp_regionD Tryd.mixed (by simp only [slimL, slim1, List.map_cons, List.map_nil, List.getElem?_toArray, List.getElem?_cons_succ, List.getElem?_cons_zero, Option.bind_some]; rfl) ?_
 refine regD_go 12 (by simp only [go_sem, bld, byt, List.length_map, bytes_take, h0, h1, h2, Nat.le_refl, List.length_take, Nat.min_self]; rfl) ?_
 refine regD_nil 2 (by kernel_rfl) ?_
 refine seqK_normal ?_
 refine awp_ret ?_
 refine end_m (.inr rfl) (rs := [.tmp 2]) rfl (by simp only [go_sem, bld, byt, List.length_map, bytes_take, h0, h1, h2, Nat.le_refl, List.length_take, Nat.min_self]; rfl) ?_ ?_ (Nat.le_of_ble_eq_true rfl) (hin2 a _ ha) (by rfl)
 · rfl
 · exact .cons rfl (.cons rfl (.nil _ _))
end Go.Proofs.YtccjhfmemghccaaDoor
