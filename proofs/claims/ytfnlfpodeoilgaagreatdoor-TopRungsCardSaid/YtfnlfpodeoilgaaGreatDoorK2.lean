/- Each call is as it is told, where those that it asks are: printed by GenEnt.lean. No condition. -/
import Derived.Test.YtfnlfpodeoilgaaGreatDoorD1
set_option linter.all false
set_option maxRecDepth 1000000
namespace Go.Proofs.YtfnlfpodeoilgaaGreatDoor
open Go Go.AM AV AO Tr

theorem k56 : e56.okBy tt gg ft us56 1000000 = true := by kernel_rfl
theorem k57 : e57.okBy tt gg ft us57 1000000 = true := by kernel_rfl
theorem k58 : e58.okBy tt gg ft us58 1000000 = true := by kernel_rfl
theorem k59 : e59.okBy tt gg ft us59 1000000 = true := by kernel_rfl
theorem k60 : e60.okBy tt gg ft us60 1000000 = true := by kernel_rfl
theorem k61 : e61.okBy tt gg ft us61 1000000 = true := by kernel_rfl
theorem k62 : e62.okBy tt gg ft us62 1000000 = true := by kernel_rfl
theorem k63 : e63.okBy tt gg ft us63 1000000 = true := by kernel_rfl
theorem k64 : e64.okBy tt gg ft us64 1000000 = true := by kernel_rfl
theorem k65 : e65.okBy tt gg ft us65 1000000 = true := by kernel_rfl
theorem k66 : e66.okBy tt gg ft us66 1000000 = true := by kernel_rfl
theorem k67 : e67.okBy tt gg ft us67 1000000 = true := by kernel_rfl
theorem k68 : e68.okBy tt gg ft us68 1000000 = true := by kernel_rfl
theorem k69 : e69.okBy tt gg ft us69 1000000 = true := by kernel_rfl
theorem k70 : e70.okBy tt gg ft us70 1000000 = true := by kernel_rfl
theorem k71 : e71.okBy tt gg ft us71 1000000 = true := by kernel_rfl
theorem k72 : e72.okBy tt gg ft us72 1000000 = true := by kernel_rfl
theorem k73 : e73.okBy tt gg ft us73 1000000 = true := by kernel_rfl
theorem k74 : e74.okBy tt gg ft us74 1000000 = true := by kernel_rfl
theorem k75 : e75.okBy tt gg ft us75 1000000 = true := by kernel_rfl
theorem k76 : e76.okBy tt gg ft us76 1000000 = true := by kernel_rfl
theorem k77 : e77.okBy tt gg ft us77 1000000 = true := by kernel_rfl
theorem k78 : e78.okBy tt gg ft us78 1000000 = true := by kernel_rfl
theorem k79 : e79.okBy tt gg ft us79 1000000 = true := by kernel_rfl
theorem k80 : e80.okBy tt gg ft us80 1000000 = true := by kernel_rfl
theorem k81 : e81.okBy tt gg ft us81 1000000 = true := by kernel_rfl
theorem k82 : e82.okBy tt gg ft us82 1000000 = true := by kernel_rfl
theorem k83 : e83.okBy tt gg ft us83 1000000 = true := by kernel_rfl
end Go.Proofs.YtfnlfpodeoilgaaGreatDoor
