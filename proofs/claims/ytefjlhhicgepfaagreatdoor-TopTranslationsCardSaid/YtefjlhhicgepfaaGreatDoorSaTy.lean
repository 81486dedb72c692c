/- Lemmas. -/
import Derived.Test.YtefjlhhicgepfaaGreatDoorAm9
import Derived.Test.YtefjlhhicgepfaaGreatDoorProg
set_option linter.unusedSimpArgs false
set_option linter.unusedVariables false
set_option linter.unusedSectionVars false
namespace Go.Proofs.YtefjlhhicgepfaaGreatDoor
open Go.Proofs.Tryz (prog)
open Go Am
@[go_sem] theorem Tryz.ty3:tsz prog 3=1∧tby prog 3=8∧tin prog 3=true∧tun prog 3=true∧gc prog 3=false∧cb prog 3=none∧iu prog 3=none∧ia prog 3=some .i64∧gj prog 3=false∧d9 prog 3=false∧dn prog 3=some (.int .i64 0)∧ko prog 3=none∧prog.cellsOf 3=1:=
 by and_intros<;>kernel_rfl
@[go_sem] theorem Tryz.ty4:tsz prog 4=1∧tby prog 4=1∧tin prog 4=true∧tun prog 4=true∧gc prog 4=false∧cb prog 4=none∧iu prog 4=none∧ia prog 4=none∧gj prog 4=false∧d9 prog 4=true∧dn prog 4=some (.bool false)∧ko prog 4=none∧prog.cellsOf 4=1:=
 by and_intros<;>kernel_rfl
@[go_sem] theorem Tryz.ty5:tsz prog 5=1∧tby prog 5=1∧tin prog 5=true∧tun prog 5=true∧gc prog 5=false∧cb prog 5=none∧iu prog 5=none∧ia prog 5=some .u8∧gj prog 5=false∧d9 prog 5=false∧dn prog 5=some (.int .u8 0)∧ko prog 5=none∧prog.cellsOf 5=1:=
 by and_intros<;>kernel_rfl
@[go_sem] theorem Tryz.ty9:tsz prog 9=1∧tby prog 9=16∧tin prog 9=true∧tun prog 9=true∧gc prog 9=false∧cb prog 9=none∧iu prog 9=none∧ia prog 9=none∧gj prog 9=true∧d9 prog 9=false∧dn prog 9=some (.string ⟨⟨[]⟩⟩)∧ko prog 9=none∧prog.cellsOf 9=1:=
 by and_intros<;>kernel_rfl
@[go_sem] theorem Tryz.ty21:tsz prog 21=1∧tby prog 21=4∧tin prog 21=true∧tun prog 21=true∧gc prog 21=false∧cb prog 21=none∧iu prog 21=none∧ia prog 21=some .i32∧gj prog 21=false∧d9 prog 21=false∧dn prog 21=some (.int .i32 0)∧ko prog 21=none∧prog.cellsOf 21=1:=
 by and_intros<;>kernel_rfl
@[go_sem] theorem Tryz.ty22:tsz prog 22=1∧tby prog 22=24∧tin prog 22=true∧tun prog 22=true∧gc prog 22=false∧cb prog 22=some 3∧iu prog 22=none∧ia prog 22=none∧gj prog 22=false∧d9 prog 22=false∧dn prog 22=some (.slice none 0 0)∧ko prog 22=none∧prog.cellsOf 22=1:=
 by and_intros<;>kernel_rfl
@[go_sem] theorem Tryz.ty26:tsz prog 26=1∧tby prog 26=24∧tin prog 26=true∧tun prog 26=true∧gc prog 26=false∧cb prog 26=some 9∧iu prog 26=none∧ia prog 26=none∧gj prog 26=false∧d9 prog 26=false∧dn prog 26=some (.slice none 0 0)∧ko prog 26=none∧prog.cellsOf 26=1:=
 by and_intros<;>kernel_rfl
@[go_sem] theorem Tryz.ty29:tsz prog 29=2∧tby prog 29=48∧tin prog 29=true∧tun prog 29=true∧gc prog 29=true∧cb prog 29=none∧iu prog 29=none∧ia prog 29=none∧gj prog 29=false∧d9 prog 29=false∧dn prog 29=some (.agg #[(.slice none 0 0),(.slice none 0 0)])∧ko prog 29=none∧prog.cellsOf 29=2∧gt prog 29 0=some (0,26)∧gt prog 29 1=some (1,22)∧lh prog 29=some [(0,1),(1,1)]:=
 by and_intros<;>kernel_rfl
@[go_sem] theorem Tryz.ty31:tsz prog 31=1∧tby prog 31=24∧tin prog 31=true∧tun prog 31=true∧gc prog 31=false∧cb prog 31=some 39∧iu prog 31=none∧ia prog 31=none∧gj prog 31=false∧d9 prog 31=false∧dn prog 31=some (.slice none 0 0)∧ko prog 31=none∧prog.cellsOf 31=1:=
 by and_intros<;>kernel_rfl
@[go_sem] theorem Tryz.ty32:tsz prog 32=1∧tby prog 32=8∧tin prog 32=true∧tun prog 32=true∧gc prog 32=false∧cb prog 32=none∧iu prog 32=none∧ia prog 32=some .i64∧gj prog 32=false∧d9 prog 32=false∧dn prog 32=some (.int .i64 0)∧ko prog 32=none∧prog.cellsOf 32=1:=
 by and_intros<;>kernel_rfl
@[go_sem] theorem Tryz.ty35:tsz prog 35=1∧tby prog 35=24∧tin prog 35=true∧tun prog 35=true∧gc prog 35=false∧cb prog 35=some 45∧iu prog 35=none∧ia prog 35=none∧gj prog 35=false∧d9 prog 35=false∧dn prog 35=some (.slice none 0 0)∧ko prog 35=none∧prog.cellsOf 35=1:=
 by and_intros<;>kernel_rfl
@[go_sem] theorem Tryz.ty39:tsz prog 39=3∧tby prog 39=48∧tin prog 39=true∧tun prog 39=true∧gc prog 39=true∧cb prog 39=none∧iu prog 39=none∧ia prog 39=none∧gj prog 39=false∧d9 prog 39=false∧dn prog 39=some (.agg #[(.int .i64 0),(.string ⟨⟨[]⟩⟩),(.slice none 0 0)])∧ko prog 39=none∧prog.cellsOf 39=3∧gt prog 39 0=some (0,3)∧gt prog 39 1=some (1,9)∧gt prog 39 2=some (2,31)∧lh prog 39=some [(0,1),(1,1),(2,1)]:=
 by and_intros<;>kernel_rfl
@[go_sem] theorem Tryz.ty45:tsz prog 45=6∧tby prog 45=96∧tin prog 45=true∧tun prog 45=true∧gc prog 45=true∧cb prog 45=none∧iu prog 45=none∧ia prog 45=none∧gj prog 45=false∧d9 prog 45=false∧dn prog 45=some (.agg #[(.int .i64 0),(.string ⟨⟨[]⟩⟩),(.slice none 0 0),(.int .i64 0),(.string ⟨⟨[]⟩⟩),(.slice none 0 0)])∧ko prog 45=none∧prog.cellsOf 45=6∧gt prog 45 0=some (0,39)∧gt prog 45 1=some (3,39)∧lh prog 45=some [(0,3),(3,3)]:=
 by and_intros<;>kernel_rfl
@[go_sem] theorem Tryz.ty54:tsz prog 54=1∧tby prog 54=8∧tin prog 54=true∧tun prog 54=true∧gc prog 54=false∧cb prog 54=none∧iu prog 54=none∧ia prog 54=some .u64∧gj prog 54=false∧d9 prog 54=false∧dn prog 54=some (.int .u64 0)∧ko prog 54=none∧prog.cellsOf 54=1:=
 by and_intros<;>kernel_rfl
@[go_sem] theorem Tryz.ty55:tsz prog 55=1∧tby prog 55=24∧tin prog 55=true∧tun prog 55=true∧gc prog 55=false∧cb prog 55=some 54∧iu prog 55=none∧ia prog 55=none∧gj prog 55=false∧d9 prog 55=false∧dn prog 55=some (.slice none 0 0)∧ko prog 55=none∧prog.cellsOf 55=1:=
 by and_intros<;>kernel_rfl
@[go_sem] theorem Tryz.ty68:tsz prog 68=1∧tby prog 68=24∧tin prog 68=true∧tun prog 68=true∧gc prog 68=false∧cb prog 68=some 5∧iu prog 68=none∧ia prog 68=none∧gj prog 68=false∧d9 prog 68=false∧dn prog 68=some (.slice none 0 0)∧ko prog 68=none∧prog.cellsOf 68=1:=
 by and_intros<;>kernel_rfl
@[go_sem] theorem Tryz.ty77:tsz prog 77=1∧tby prog 77=8∧tin prog 77=true∧tun prog 77=true∧gc prog 77=false∧cb prog 77=none∧iu prog 77=none∧ia prog 77=none∧gj prog 77=false∧d9 prog 77=false∧dn prog 77=some (.pointer none)∧ko prog 77=some 79∧prog.cellsOf 77=1:=
 by and_intros<;>kernel_rfl
@[go_sem] theorem Tryz.ty79:tsz prog 79=2∧tby prog 79=32∧tin prog 79=true∧tun prog 79=true∧gc prog 79=true∧cb prog 79=none∧iu prog 79=none∧ia prog 79=none∧gj prog 79=false∧d9 prog 79=false∧dn prog 79=some (.agg #[(.pointer none),(.slice none 0 0)])∧ko prog 79=none∧prog.cellsOf 79=2∧gt prog 79 0=some (0,77)∧gt prog 79 1=some (1,68)∧lh prog 79=some [(0,1),(1,1)]:=
 by and_intros<;>kernel_rfl
@[go_sem] theorem Tryz.ty130:tsz prog 130=9∧tby prog 130=144∧tin prog 130=true∧tun prog 130=true∧gc prog 130=true∧cb prog 130=none∧iu prog 130=some (9,9)∧ia prog 130=none∧gj prog 130=false∧d9 prog 130=false∧dn prog 130=some (.agg #[(.string ⟨⟨[]⟩⟩),(.string ⟨⟨[]⟩⟩),(.string ⟨⟨[]⟩⟩),(.string ⟨⟨[]⟩⟩),(.string ⟨⟨[]⟩⟩),(.string ⟨⟨[]⟩⟩),(.string ⟨⟨[]⟩⟩),(.string ⟨⟨[]⟩⟩),(.string ⟨⟨[]⟩⟩)])∧ko prog 130=none∧prog.cellsOf 130=9∧lh prog 130=some [(0,1),(1,1),(2,1),(3,1),(4,1),(5,1),(6,1),(7,1),(8,1)]:=
 by and_intros<;>kernel_rfl
@[go_sem] theorem Tryz.ty132:tsz prog 132=1∧tby prog 132=8∧tin prog 132=true∧tun prog 132=true∧gc prog 132=false∧cb prog 132=none∧iu prog 132=none∧ia prog 132=none∧gj prog 132=false∧d9 prog 132=false∧dn prog 132=some (.pointer none)∧ko prog 132=some 5∧prog.cellsOf 132=1:=
 by and_intros<;>kernel_rfl
end Go.Proofs.YtefjlhhicgepfaaGreatDoor
