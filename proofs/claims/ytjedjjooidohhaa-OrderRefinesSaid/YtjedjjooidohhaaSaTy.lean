/- Plain programs of the functions of the program and lemmas about what they compute. -/
import Derived.Test.YtjedjjooidohhaaAmOrc
import Derived.Test.YtjedjjooidohhaaProg
import Derived.KernelRfl
set_option linter.unusedSimpArgs false
set_option linter.unusedVariables false
set_option linter.unusedSectionVars false
/-
  Facts on the types of this seat's translation, made by a program of ours out of the dump: size, bytes, zero value, parts.
-/
namespace Go.Proofs.Ytjedjjooidohhaa
open Go Am
@[go_sem] theorem Try.ty3 : tsz Try.prog 3 = 1 ∧ tby Try.prog 3 = 8 ∧ tin Try.prog 3 = true ∧ tun Try.prog 3 = true ∧ tagg Try.prog 3 = false ∧ telem Try.prog 3 = none ∧ tarr Try.prog 3 = none ∧ tint Try.prog 3 = some .i64 ∧ tstr Try.prog 3 = false ∧ tbool Try.prog 3 = false ∧ tzero Try.prog 3 = some (.int .i64 0) ∧ tptr Try.prog 3 = none ∧ Try.prog.cellsOf 3 = 1 :=
  ⟨by kernel_rfl, by kernel_rfl, by kernel_rfl, by kernel_rfl, by kernel_rfl, by kernel_rfl, by kernel_rfl, by kernel_rfl, by kernel_rfl, by kernel_rfl, by kernel_rfl, by kernel_rfl, by kernel_rfl⟩
@[go_sem] theorem Try.ty4 : tsz Try.prog 4 = 1 ∧ tby Try.prog 4 = 1 ∧ tin Try.prog 4 = true ∧ tun Try.prog 4 = true ∧ tagg Try.prog 4 = false ∧ telem Try.prog 4 = none ∧ tarr Try.prog 4 = none ∧ tint Try.prog 4 = none ∧ tstr Try.prog 4 = false ∧ tbool Try.prog 4 = true ∧ tzero Try.prog 4 = some (.bool false) ∧ tptr Try.prog 4 = none ∧ Try.prog.cellsOf 4 = 1 :=
  ⟨by kernel_rfl, by kernel_rfl, by kernel_rfl, by kernel_rfl, by kernel_rfl, by kernel_rfl, by kernel_rfl, by kernel_rfl, by kernel_rfl, by kernel_rfl, by kernel_rfl, by kernel_rfl, by kernel_rfl⟩
@[go_sem] theorem Try.ty5 : tsz Try.prog 5 = 1 ∧ tby Try.prog 5 = 1 ∧ tin Try.prog 5 = true ∧ tun Try.prog 5 = true ∧ tagg Try.prog 5 = false ∧ telem Try.prog 5 = none ∧ tarr Try.prog 5 = none ∧ tint Try.prog 5 = some .u8 ∧ tstr Try.prog 5 = false ∧ tbool Try.prog 5 = false ∧ tzero Try.prog 5 = some (.int .u8 0) ∧ tptr Try.prog 5 = none ∧ Try.prog.cellsOf 5 = 1 :=
  ⟨by kernel_rfl, by kernel_rfl, by kernel_rfl, by kernel_rfl, by kernel_rfl, by kernel_rfl, by kernel_rfl, by kernel_rfl, by kernel_rfl, by kernel_rfl, by kernel_rfl, by kernel_rfl, by kernel_rfl⟩
@[go_sem] theorem Try.ty9 : tsz Try.prog 9 = 1 ∧ tby Try.prog 9 = 16 ∧ tin Try.prog 9 = true ∧ tun Try.prog 9 = true ∧ tagg Try.prog 9 = false ∧ telem Try.prog 9 = none ∧ tarr Try.prog 9 = none ∧ tint Try.prog 9 = none ∧ tstr Try.prog 9 = true ∧ tbool Try.prog 9 = false ∧ tzero Try.prog 9 = some (.string ⟨⟨[]⟩⟩) ∧ tptr Try.prog 9 = none ∧ Try.prog.cellsOf 9 = 1 :=
  ⟨by kernel_rfl, by kernel_rfl, by kernel_rfl, by kernel_rfl, by kernel_rfl, by kernel_rfl, by kernel_rfl, by kernel_rfl, by kernel_rfl, by kernel_rfl, by kernel_rfl, by kernel_rfl, by kernel_rfl⟩
@[go_sem] theorem Try.ty22 : tsz Try.prog 22 = 1 ∧ tby Try.prog 22 = 24 ∧ tin Try.prog 22 = true ∧ tun Try.prog 22 = true ∧ tagg Try.prog 22 = false ∧ telem Try.prog 22 = some 3 ∧ tarr Try.prog 22 = none ∧ tint Try.prog 22 = none ∧ tstr Try.prog 22 = false ∧ tbool Try.prog 22 = false ∧ tzero Try.prog 22 = some (.slice none 0 0) ∧ tptr Try.prog 22 = none ∧ Try.prog.cellsOf 22 = 1 :=
  ⟨by kernel_rfl, by kernel_rfl, by kernel_rfl, by kernel_rfl, by kernel_rfl, by kernel_rfl, by kernel_rfl, by kernel_rfl, by kernel_rfl, by kernel_rfl, by kernel_rfl, by kernel_rfl, by kernel_rfl⟩
@[go_sem] theorem Try.ty25 : tsz Try.prog 25 = 1 ∧ tby Try.prog 25 = 24 ∧ tin Try.prog 25 = true ∧ tun Try.prog 25 = true ∧ tagg Try.prog 25 = false ∧ telem Try.prog 25 = some 9 ∧ tarr Try.prog 25 = none ∧ tint Try.prog 25 = none ∧ tstr Try.prog 25 = false ∧ tbool Try.prog 25 = false ∧ tzero Try.prog 25 = some (.slice none 0 0) ∧ tptr Try.prog 25 = none ∧ Try.prog.cellsOf 25 = 1 :=
  ⟨by kernel_rfl, by kernel_rfl, by kernel_rfl, by kernel_rfl, by kernel_rfl, by kernel_rfl, by kernel_rfl, by kernel_rfl, by kernel_rfl, by kernel_rfl, by kernel_rfl, by kernel_rfl, by kernel_rfl⟩
@[go_sem] theorem Try.ty57 : tsz Try.prog 57 = 1 ∧ tby Try.prog 57 = 24 ∧ tin Try.prog 57 = true ∧ tun Try.prog 57 = true ∧ tagg Try.prog 57 = false ∧ telem Try.prog 57 = some 59 ∧ tarr Try.prog 57 = none ∧ tint Try.prog 57 = none ∧ tstr Try.prog 57 = false ∧ tbool Try.prog 57 = false ∧ tzero Try.prog 57 = some (.slice none 0 0) ∧ tptr Try.prog 57 = none ∧ Try.prog.cellsOf 57 = 1 :=
  ⟨by kernel_rfl, by kernel_rfl, by kernel_rfl, by kernel_rfl, by kernel_rfl, by kernel_rfl, by kernel_rfl, by kernel_rfl, by kernel_rfl, by kernel_rfl, by kernel_rfl, by kernel_rfl, by kernel_rfl⟩
@[go_sem] theorem Try.ty59 : tsz Try.prog 59 = 3 ∧ tby Try.prog 59 = 48 ∧ tin Try.prog 59 = true ∧ tun Try.prog 59 = true ∧ tagg Try.prog 59 = true ∧ telem Try.prog 59 = none ∧ tarr Try.prog 59 = none ∧ tint Try.prog 59 = none ∧ tstr Try.prog 59 = false ∧ tbool Try.prog 59 = false ∧ tzero Try.prog 59 = some (.agg #[(.int .i64 0), (.string ⟨⟨[]⟩⟩), (.slice none 0 0)]) ∧ tptr Try.prog 59 = none ∧ Try.prog.cellsOf 59 = 3 ∧ tfield Try.prog 59 0 = some (0, 3) ∧ tfield Try.prog 59 1 = some (1, 9) ∧ tfield Try.prog 59 2 = some (2, 57) ∧ tplace Try.prog 59 = some [(0, 1), (1, 1), (2, 1)] :=
  ⟨by kernel_rfl, by kernel_rfl, by kernel_rfl, by kernel_rfl, by kernel_rfl, by kernel_rfl, by kernel_rfl, by kernel_rfl, by kernel_rfl, by kernel_rfl, by kernel_rfl, by kernel_rfl, by kernel_rfl, by kernel_rfl, by kernel_rfl, by kernel_rfl, by kernel_rfl⟩
end Go.Proofs.Ytjedjjooidohhaa
