/- What functions of the program compute: lemmas. -/
import Derived.Test.YtnfecjmddbehiaaOd
import Derived.Test.YtnfecjmddbehiaaAm8
set_option linter.unusedSimpArgs false
set_option linter.unusedVariables false
set_option linter.unusedSectionVars false
namespace Go.Proofs.Ytnfecjmddbehiaa
open Go Am
set_option maxRecDepth 100000
theorem conv_n (i : Nat) : PO.eval (.conv .u64) [.int .i64 (i : Int)] = some [bvD (BitVec.ofNat 64 i)] := by rw [bv_conv,BitVec.ofInt_natCast]
theorem shl_u {i : Nat} (h : i < 18446744073709551616) : PO.eval (.bin .shl false) [.int .u64 1,bvD (BitVec.ofNat 64 i)] = some [bvD (1#64 <<< i)] := by
 have := bv_shlb false 1#64 (BitVec.ofNat 64 i)
 rw [BitVec.toNat_ofNat,Nat.mod_eq_of_lt (by omega)] at this
 exact this
end Go.Proofs.Ytnfecjmddbehiaa

namespace Go.Proofs.Ytnfecjmddbehiaa
open Go Am
set_option maxRecDepth 100000
def mkV (l : List OO) (kind : Int) : List D := if mkE l kind = 0 then [.int .i64 ((nam0 l).length : Int),tabD (mkT kind l (2 ^ (2 ^ (nam0 l).length))),.int .i64 0] else [.int .i64 0,.sl [],.int .i64 (mkE l kind)]
theorem set_I {l : List Int} {i : Nat} (h : i < l.length) (x : BitVec 64) : PO.eval (.set 0 1) [numsD l,.int .i64 i,ivD x] = some [numsD (l.set i (x.toNat : Int))] := set_N h _
theorem get_I {l : List Int} {i : Nat} {x : BitVec 64} (h : i < l.length) (hx : l[i] = (x.toNat : Int)) : PO.eval (.get 0 1) [numsD l,.int .i64 i] = some [ivD x] := by rw [get_N h,hx]; rfl
end Go.Proofs.Ytnfecjmddbehiaa
