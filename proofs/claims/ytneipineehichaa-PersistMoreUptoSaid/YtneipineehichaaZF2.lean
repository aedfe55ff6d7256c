/-
  The bodies of the functions that the walks step through, their own variables in the frame; each checked by the kernel against the given program. Written by gen_vc.py.
-/
import Derived.Test.YtneipineehichaaZT
import Derived.Test.YtneipineehichaaZU
set_option linter.defProp false
set_option maxRecDepth 100000
namespace Go.Proofs.Ytneipineehichaa
open Go.W
def vc23 : VC := .seq (.reg [{ g := none, i := .op (some 2) (.assign (.const (.nilFunc))) 38 }]) (.seq (.reg [{ g := none, i := .op (some 6) (.makeMap 59 none) 59 }, { g := none, i := .op (some 3) (.alloc 59) 0 }, { g := none, i := .op none (.store 59 (.tmp 3) (.tmp 6)) 0 }]) (.seq (.seq (.reg [{ g := none, i := .op (some 7) (.move (.tmp 0)) 29 }, { g := none, i := .op (some 8) (.call { callee := .builtin (.len), args := #[.tmp 7], argTypes := #[29] }) 3 }, { g := none, i := .op (some 9) (.move (.const (.int (.i64) 0))) 3 }]) (.block 0 (.loop (.seq (.reg [{ g := none, i := .op (some 10) (.binOp (.lss) 3 (.tmp 9) (.tmp 8) 3) 0 }]) (.seq (.cond (.tmp 10) (.skip) (.exit 0)) (.seq (.block 1 (.seq (.reg [{ g := none, i := .op (some 11) (.indexAddr 29 (.tmp 7) (.tmp 9)) 0 }, { g := none, i := .op (some 12) (.load 3 (.tmp 11)) 3 }, { g := none, i := .op (some 5) (.assign (.tmp 12)) 3 }]) (.reg [{ g := none, i := .op (some 13) (.load 59 (.tmp 3)) 59 }, { g := none, i := .op (some 14) (.move (.tmp 5)) 3 }, { g := none, i := .op none (.mapUpdate 59 (.tmp 13) (.tmp 14) (.const (.bool true))) 0 }]))) (.reg [{ g := none, i := .op (some 15) (.binOp (.add) 3 (.tmp 9) (.const (.int (.i64) 1)) 3) 3 }, { g := none, i := .op (some 9) (.move (.tmp 15)) 3 }]))))))) (.seq (.reg [{ g := none, i := .op (some 16) (.makeFunc (.func 34) #[] #[.tmp 3]) 38 }, { g := none, i := .op (some 2) (.assign (.tmp 16)) 38 }]) (.ret))))
def rs23 : List VRV := [.tmp 2]
theorem ok23 : FnOk Try.prog 23 1 vc23 rs23 := ⟨⟨_, _, ⟨[], []⟩, [], Try.func23, rfl, T.en23, by kernel_rfl, by kernel_rfl, by kernel_rfl, by kernel_rfl, by kernel_rfl, by kernel_rfl, by kernel_rfl⟩⟩
def vc34 : VC := .seq (.reg [{ g := none, i := .op (some 3) (.assign (.const (.bool false))) 4 }]) (.seq (.reg [{ g := none, i := .op (some 4) (.load 59 (.tmp 1)) 59 }, { g := none, i := .op (some 5) (.move (.tmp 0)) 3 }, { g := none, i := .op (some 6) (.lookup 59 (.tmp 4) (.tmp 5) false) 4 }, { g := none, i := .op (some 3) (.assign (.tmp 6)) 4 }]) (.ret))
def rs34 : List VRV := [.tmp 3]
theorem ok34 : FnOk Try.prog 34 2 vc34 rs34 := ⟨⟨_, _, ⟨[], []⟩, [], Try.func34, rfl, T.en34, by kernel_rfl, by kernel_rfl, by kernel_rfl, by kernel_rfl, by kernel_rfl, by kernel_rfl, by kernel_rfl⟩⟩
end Go.Proofs.Ytneipineehichaa
