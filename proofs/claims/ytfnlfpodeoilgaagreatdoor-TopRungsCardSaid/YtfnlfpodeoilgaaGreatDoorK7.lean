/- Each call is as it is told, where those that it asks are: printed by GenEnt.lean. No condition. -/
import Derived.Test.YtfnlfpodeoilgaaGreatDoorD1
set_option linter.all false
set_option maxRecDepth 1000000
namespace Go.Proofs.YtfnlfpodeoilgaaGreatDoor
open Go Go.AM AV AO Tr

theorem k218 : e218.okBy tt gg ft us218 1000000 = true := by kernel_rfl
theorem k219 : e219.okBy tt gg ft us219 1000000 = true := by kernel_rfl
theorem k220 : e220.okBy tt gg ft us220 1000000 = true := by kernel_rfl
theorem k221 : e221.okBy tt gg ft us221 1000000 = true := by kernel_rfl
theorem k222 : e222.okBy tt gg ft us222 1000000 = true := by kernel_rfl
theorem k223 : e223.okBy tt gg ft us223 1000000 = true := by kernel_rfl
theorem k224 : e224.okBy tt gg ft us224 1000000 = true := by kernel_rfl
theorem k225 : e225.okBy tt gg ft us225 1000000 = true := by kernel_rfl
theorem k226 : e226.okBy tt gg ft us226 1000000 = true := by kernel_rfl
theorem k227 : e227.okBy tt gg ft us227 1000000 = true := by kernel_rfl
theorem k228 : e228.okBy tt gg ft us228 1000000 = true := by kernel_rfl
theorem k229 : e229.okBy tt gg ft us229 1000000 = true := by kernel_rfl
theorem k230 : e230.okBy tt gg ft us230 1000000 = true := by kernel_rfl
theorem k231 : e231.okBy tt gg ft us231 1000000 = true := by kernel_rfl
theorem k232 : e232.okBy tt gg ft us232 1000000 = true := by kernel_rfl
end Go.Proofs.YtfnlfpodeoilgaaGreatDoor
