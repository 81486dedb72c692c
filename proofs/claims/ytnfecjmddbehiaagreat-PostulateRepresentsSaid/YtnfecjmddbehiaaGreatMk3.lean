/- What functions of the program compute: lemmas. -/
import Derived.Test.YtnfecjmddbehiaaGreatMk1
import Derived.Test.YtnfecjmddbehiaaGreatOd
set_option linter.unusedSimpArgs false
set_option linter.unusedVariables false
set_option linter.unusedSectionVars false
namespace Go.Proofs.YtnfecjmddbehiaaGreat
open Go Am
set_option maxRecDepth 100000
theorem shl_iu {i : Nat} (h : i<63) : PO.eval (.bin .shl false) [.int .i64 1,bvD (BitVec.ofNat 64 i)]=some [.int .i64 ((2 ^ i : Nat) : Int)]:=by
 have : bvD (BitVec.ofNat 64 i) = .int .u64 (i : Int):=by unfold bvD; rw [BitVec.toNat_ofNat,Nat.mod_eq_of_lt (by omega)]
 rw [this]
 exact int_shl1 false .u64 h
theorem pow_bv (i : Nat) : BitVec.ofNat 64 (2 ^ i)=1#64 <<< i:=by
 apply BitVec.eq_of_toNat_eq
 simp [Nat.shiftLeft_eq]
theorem shr_iu {k w : Nat} (hk : k<18446744073709551616) (hw : w<18446744073709551616) : PO.eval (.bin .shr false) [.int .i64 (k : Int),bvD (BitVec.ofNat 64 w)]=some [ivD (BitVec.ofNat 64 k >>> w)]:=by
 have : bvD (BitVec.ofNat 64 w) = .int .u64 (w : Int):=by unfold bvD; rw [BitVec.toNat_ofNat,Nat.mod_eq_of_lt (by omega)]
 rw [this,int_iv hk]
 exact iv_shr false .u64 _ w
end Go.Proofs.YtnfecjmddbehiaaGreat
