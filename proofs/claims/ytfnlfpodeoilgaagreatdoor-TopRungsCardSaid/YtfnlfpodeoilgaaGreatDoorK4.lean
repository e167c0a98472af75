/- Each call is as it is told, where those that it asks are: printed by GenEnt.lean. No condition. -/
import Derived.Test.YtfnlfpodeoilgaaGreatDoorD1
set_option linter.all false
set_option maxRecDepth 1000000
namespace Go.Proofs.YtfnlfpodeoilgaaGreatDoor
open Go Go.AM AV AO Tr

theorem k118 : e118.okBy tt gg ft us118 1000000 = true := by kernel_rfl
theorem k119 : e119.okBy tt gg ft us119 1000000 = true := by kernel_rfl
theorem k120 : e120.okBy tt gg ft us120 1000000 = true := by kernel_rfl
theorem k121 : e121.okBy tt gg ft us121 1000000 = true := by kernel_rfl
theorem k122 : e122.okBy tt gg ft us122 1000000 = true := by kernel_rfl
theorem k123 : e123.okBy tt gg ft us123 1000000 = true := by kernel_rfl
theorem k124 : e124.okBy tt gg ft us124 1000000 = true := by kernel_rfl
theorem k125 : e125.okBy tt gg ft us125 1000000 = true := by kernel_rfl
theorem k126 : e126.okBy tt gg ft us126 1000000 = true := by kernel_rfl
theorem k127 : e127.okBy tt gg ft us127 1000000 = true := by kernel_rfl
theorem k128 : e128.okBy tt gg ft us128 1000000 = true := by kernel_rfl
theorem k129 : e129.okBy tt gg ft us129 1000000 = true := by kernel_rfl
theorem k130 : e130.okBy tt gg ft us130 1000000 = true := by kernel_rfl
theorem k131 : e131.okBy tt gg ft us131 1000000 = true := by kernel_rfl
theorem k132 : e132.okBy tt gg ft us132 1000000 = true := by kernel_rfl
theorem k133 : e133.okBy tt gg ft us133 1000000 = true := by kernel_rfl
theorem k134 : e134.okBy tt gg ft us134 1000000 = true := by kernel_rfl
theorem k135 : e135.okBy tt gg ft us135 1000000 = true := by kernel_rfl
theorem k136 : e136.okBy tt gg ft us136 1000000 = true := by kernel_rfl
theorem k137 : e137.okBy tt gg ft us137 1000000 = true := by kernel_rfl
theorem k138 : e138.okBy tt gg ft us138 1000000 = true := by kernel_rfl
theorem k139 : e139.okBy tt gg ft us139 1000000 = true := by kernel_rfl
theorem k140 : e140.okBy tt gg ft us140 1000000 = true := by kernel_rfl
theorem k141 : e141.okBy tt gg ft us141 1000000 = true := by kernel_rfl
theorem k142 : e142.okBy tt gg ft us142 1000000 = true := by kernel_rfl
theorem k143 : e143.okBy tt gg ft us143 1000000 = true := by kernel_rfl
theorem k144 : e144.okBy tt gg ft us144 1000000 = true := by kernel_rfl
theorem k145 : e145.okBy tt gg ft us145 1000000 = true := by kernel_rfl
theorem k146 : e146.okBy tt gg ft us146 1000000 = true := by kernel_rfl
theorem k147 : e147.okBy tt gg ft us147 1000000 = true := by kernel_rfl
theorem k148 : e148.okBy tt gg ft us148 1000000 = true := by kernel_rfl
theorem k149 : e149.okBy tt gg ft us149 1000000 = true := by kernel_rfl
theorem k150 : e150.okBy tt gg ft us150 1000000 = true := by kernel_rfl
theorem k151 : e151.okBy tt gg ft us151 1000000 = true := by kernel_rfl
theorem k152 : e152.okBy tt gg ft us152 1000000 = true := by kernel_rfl
theorem k153 : e153.okBy tt gg ft us153 1000000 = true := by kernel_rfl
end Go.Proofs.YtfnlfpodeoilgaaGreatDoor
