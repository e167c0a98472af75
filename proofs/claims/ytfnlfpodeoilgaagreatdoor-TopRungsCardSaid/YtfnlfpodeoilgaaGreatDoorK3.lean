/- Each call is as it is told, where those that it asks are: printed by GenEnt.lean. No condition. -/
import Derived.Test.YtfnlfpodeoilgaaGreatDoorD1
set_option linter.all false
set_option maxRecDepth 1000000
namespace Go.Proofs.YtfnlfpodeoilgaaGreatDoor
open Go Go.AM AV AO Tr

theorem k84 : e84.okBy tt gg ft us84 1000000 = true := by kernel_rfl
theorem k85 : e85.okBy tt gg ft us85 1000000 = true := by kernel_rfl
theorem k86 : e86.okBy tt gg ft us86 1000000 = true := by kernel_rfl
theorem k87 : e87.okBy tt gg ft us87 1000000 = true := by kernel_rfl
theorem k88 : e88.okBy tt gg ft us88 1000000 = true := by kernel_rfl
theorem k89 : e89.okBy tt gg ft us89 1000000 = true := by kernel_rfl
theorem k90 : e90.okBy tt gg ft us90 1000000 = true := by kernel_rfl
theorem k91 : e91.okBy tt gg ft us91 1000000 = true := by kernel_rfl
theorem k92 : e92.okBy tt gg ft us92 1000000 = true := by kernel_rfl
theorem k93 : e93.okBy tt gg ft us93 1000000 = true := by kernel_rfl
theorem k94 : e94.okBy tt gg ft us94 1000000 = true := by kernel_rfl
theorem k95 : e95.okBy tt gg ft us95 1000000 = true := by kernel_rfl
theorem k96 : e96.okBy tt gg ft us96 1000000 = true := by kernel_rfl
theorem k97 : e97.okBy tt gg ft us97 1000000 = true := by kernel_rfl
theorem k98 : e98.okBy tt gg ft us98 1000000 = true := by kernel_rfl
theorem k99 : e99.okBy tt gg ft us99 1000000 = true := by kernel_rfl
theorem k100 : e100.okBy tt gg ft us100 1000000 = true := by kernel_rfl
theorem k101 : e101.okBy tt gg ft us101 1000000 = true := by kernel_rfl
theorem k102 : e102.okBy tt gg ft us102 1000000 = true := by kernel_rfl
theorem k103 : e103.okBy tt gg ft us103 1000000 = true := by kernel_rfl
theorem k104 : e104.okBy tt gg ft us104 1000000 = true := by kernel_rfl
theorem k105 : e105.okBy tt gg ft us105 1000000 = true := by kernel_rfl
theorem k106 : e106.okBy tt gg ft us106 1000000 = true := by kernel_rfl
theorem k107 : e107.okBy tt gg ft us107 1000000 = true := by kernel_rfl
theorem k108 : e108.okBy tt gg ft us108 1000000 = true := by kernel_rfl
theorem k109 : e109.okBy tt gg ft us109 1000000 = true := by kernel_rfl
theorem k110 : e110.okBy tt gg ft us110 1000000 = true := by kernel_rfl
theorem k111 : e111.okBy tt gg ft us111 1000000 = true := by kernel_rfl
theorem k112 : e112.okBy tt gg ft us112 1000000 = true := by kernel_rfl
theorem k113 : e113.okBy tt gg ft us113 1000000 = true := by kernel_rfl
theorem k114 : e114.okBy tt gg ft us114 1000000 = true := by kernel_rfl
theorem k115 : e115.okBy tt gg ft us115 1000000 = true := by kernel_rfl
theorem k116 : e116.okBy tt gg ft us116 1000000 = true := by kernel_rfl
theorem k117 : e117.okBy tt gg ft us117 1000000 = true := by kernel_rfl
end Go.Proofs.YtfnlfpodeoilgaaGreatDoor
