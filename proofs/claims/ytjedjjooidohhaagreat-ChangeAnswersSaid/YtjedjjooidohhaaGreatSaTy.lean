/- Plain programs of the functions of the program and lemmas about what they compute. -/
import Derived.Test.YtjedjjooidohhaaGreatAmOrc
import Derived.Test.YtjedjjooidohhaaGreatProg
import Derived.KernelRfl
set_option linter.unusedSimpArgs false
set_option linter.unusedVariables false
set_option linter.unusedSectionVars false
/-
  Facts on the types of this seat's translation, made by a program of ours out of the dump: size, bytes, zero value, parts.
-/
namespace Go.Proofs.YtjedjjooidohhaaGreat
open Go Am
@[go_sem] theorem Tryz.ty3 : tsz Tryz.prog 3 = 1 ∧ tby Tryz.prog 3 = 8 ∧ tin Tryz.prog 3 = true ∧ tun Tryz.prog 3 = true ∧ tagg Tryz.prog 3 = false ∧ telem Tryz.prog 3 = none ∧ tarr Tryz.prog 3 = none ∧ tint Tryz.prog 3 = some .i64 ∧ tstr Tryz.prog 3 = false ∧ tbool Tryz.prog 3 = false ∧ tzero Tryz.prog 3 = some (.int .i64 0) ∧ tptr Tryz.prog 3 = none ∧ Tryz.prog.cellsOf 3 = 1 :=
  ⟨by kernel_rfl, by kernel_rfl, by kernel_rfl, by kernel_rfl, by kernel_rfl, by kernel_rfl, by kernel_rfl, by kernel_rfl, by kernel_rfl, by kernel_rfl, by kernel_rfl, by kernel_rfl, by kernel_rfl⟩
@[go_sem] theorem Tryz.ty4 : tsz Tryz.prog 4 = 1 ∧ tby Tryz.prog 4 = 1 ∧ tin Tryz.prog 4 = true ∧ tun Tryz.prog 4 = true ∧ tagg Tryz.prog 4 = false ∧ telem Tryz.prog 4 = none ∧ tarr Tryz.prog 4 = none ∧ tint Tryz.prog 4 = none ∧ tstr Tryz.prog 4 = false ∧ tbool Tryz.prog 4 = true ∧ tzero Tryz.prog 4 = some (.bool false) ∧ tptr Tryz.prog 4 = none ∧ Tryz.prog.cellsOf 4 = 1 :=
  ⟨by kernel_rfl, by kernel_rfl, by kernel_rfl, by kernel_rfl, by kernel_rfl, by kernel_rfl, by kernel_rfl, by kernel_rfl, by kernel_rfl, by kernel_rfl, by kernel_rfl, by kernel_rfl, by kernel_rfl⟩
@[go_sem] theorem Tryz.ty5 : tsz Tryz.prog 5 = 1 ∧ tby Tryz.prog 5 = 1 ∧ tin Tryz.prog 5 = true ∧ tun Tryz.prog 5 = true ∧ tagg Tryz.prog 5 = false ∧ telem Tryz.prog 5 = none ∧ tarr Tryz.prog 5 = none ∧ tint Tryz.prog 5 = some .u8 ∧ tstr Tryz.prog 5 = false ∧ tbool Tryz.prog 5 = false ∧ tzero Tryz.prog 5 = some (.int .u8 0) ∧ tptr Tryz.prog 5 = none ∧ Tryz.prog.cellsOf 5 = 1 :=
  ⟨by kernel_rfl, by kernel_rfl, by kernel_rfl, by kernel_rfl, by kernel_rfl, by kernel_rfl, by kernel_rfl, by kernel_rfl, by kernel_rfl, by kernel_rfl, by kernel_rfl, by kernel_rfl, by kernel_rfl⟩
@[go_sem] theorem Tryz.ty9 : tsz Tryz.prog 9 = 1 ∧ tby Tryz.prog 9 = 16 ∧ tin Tryz.prog 9 = true ∧ tun Tryz.prog 9 = true ∧ tagg Tryz.prog 9 = false ∧ telem Tryz.prog 9 = none ∧ tarr Tryz.prog 9 = none ∧ tint Tryz.prog 9 = none ∧ tstr Tryz.prog 9 = true ∧ tbool Tryz.prog 9 = false ∧ tzero Tryz.prog 9 = some (.string ⟨⟨[]⟩⟩) ∧ tptr Tryz.prog 9 = none ∧ Tryz.prog.cellsOf 9 = 1 :=
  ⟨by kernel_rfl, by kernel_rfl, by kernel_rfl, by kernel_rfl, by kernel_rfl, by kernel_rfl, by kernel_rfl, by kernel_rfl, by kernel_rfl, by kernel_rfl, by kernel_rfl, by kernel_rfl, by kernel_rfl⟩
@[go_sem] theorem Tryz.ty22 : tsz Tryz.prog 22 = 1 ∧ tby Tryz.prog 22 = 24 ∧ tin Tryz.prog 22 = true ∧ tun Tryz.prog 22 = true ∧ tagg Tryz.prog 22 = false ∧ telem Tryz.prog 22 = some 9 ∧ tarr Tryz.prog 22 = none ∧ tint Tryz.prog 22 = none ∧ tstr Tryz.prog 22 = false ∧ tbool Tryz.prog 22 = false ∧ tzero Tryz.prog 22 = some (.slice none 0 0) ∧ tptr Tryz.prog 22 = none ∧ Tryz.prog.cellsOf 22 = 1 :=
  ⟨by kernel_rfl, by kernel_rfl, by kernel_rfl, by kernel_rfl, by kernel_rfl, by kernel_rfl, by kernel_rfl, by kernel_rfl, by kernel_rfl, by kernel_rfl, by kernel_rfl, by kernel_rfl, by kernel_rfl⟩
@[go_sem] theorem Tryz.ty23 : tsz Tryz.prog 23 = 1 ∧ tby Tryz.prog 23 = 24 ∧ tin Tryz.prog 23 = true ∧ tun Tryz.prog 23 = true ∧ tagg Tryz.prog 23 = false ∧ telem Tryz.prog 23 = some 3 ∧ tarr Tryz.prog 23 = none ∧ tint Tryz.prog 23 = none ∧ tstr Tryz.prog 23 = false ∧ tbool Tryz.prog 23 = false ∧ tzero Tryz.prog 23 = some (.slice none 0 0) ∧ tptr Tryz.prog 23 = none ∧ Tryz.prog.cellsOf 23 = 1 :=
  ⟨by kernel_rfl, by kernel_rfl, by kernel_rfl, by kernel_rfl, by kernel_rfl, by kernel_rfl, by kernel_rfl, by kernel_rfl, by kernel_rfl, by kernel_rfl, by kernel_rfl, by kernel_rfl, by kernel_rfl⟩
@[go_sem] theorem Tryz.ty27 : tsz Tryz.prog 27 = 1 ∧ tby Tryz.prog 27 = 24 ∧ tin Tryz.prog 27 = true ∧ tun Tryz.prog 27 = true ∧ tagg Tryz.prog 27 = false ∧ telem Tryz.prog 27 = some 29 ∧ tarr Tryz.prog 27 = none ∧ tint Tryz.prog 27 = none ∧ tstr Tryz.prog 27 = false ∧ tbool Tryz.prog 27 = false ∧ tzero Tryz.prog 27 = some (.slice none 0 0) ∧ tptr Tryz.prog 27 = none ∧ Tryz.prog.cellsOf 27 = 1 :=
  ⟨by kernel_rfl, by kernel_rfl, by kernel_rfl, by kernel_rfl, by kernel_rfl, by kernel_rfl, by kernel_rfl, by kernel_rfl, by kernel_rfl, by kernel_rfl, by kernel_rfl, by kernel_rfl, by kernel_rfl⟩
@[go_sem] theorem Tryz.ty29 : tsz Tryz.prog 29 = 3 ∧ tby Tryz.prog 29 = 48 ∧ tin Tryz.prog 29 = true ∧ tun Tryz.prog 29 = true ∧ tagg Tryz.prog 29 = true ∧ telem Tryz.prog 29 = none ∧ tarr Tryz.prog 29 = none ∧ tint Tryz.prog 29 = none ∧ tstr Tryz.prog 29 = false ∧ tbool Tryz.prog 29 = false ∧ tzero Tryz.prog 29 = some (.agg #[(.int .i64 0), (.string ⟨⟨[]⟩⟩), (.slice none 0 0)]) ∧ tptr Tryz.prog 29 = none ∧ Tryz.prog.cellsOf 29 = 3 ∧ tfield Tryz.prog 29 0 = some (0, 3) ∧ tfield Tryz.prog 29 1 = some (1, 9) ∧ tfield Tryz.prog 29 2 = some (2, 27) ∧ tplace Tryz.prog 29 = some [(0, 1), (1, 1), (2, 1)] :=
  ⟨by kernel_rfl, by kernel_rfl, by kernel_rfl, by kernel_rfl, by kernel_rfl, by kernel_rfl, by kernel_rfl, by kernel_rfl, by kernel_rfl, by kernel_rfl, by kernel_rfl, by kernel_rfl, by kernel_rfl, by kernel_rfl, by kernel_rfl, by kernel_rfl, by kernel_rfl⟩
end Go.Proofs.YtjedjjooidohhaaGreat
