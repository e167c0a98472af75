/- Each call is as it is told, where those that it asks are: printed by GenEnt.lean. No condition. -/
import Derived.Test.YtfnlfpodeoilgaaGreatDoorD1
set_option linter.all false
set_option maxRecDepth 1000000
namespace Go.Proofs.YtfnlfpodeoilgaaGreatDoor
open Go Go.AM AV AO Tr

theorem k190 : e190.okBy tt gg ft us190 1000000 = true := by kernel_rfl
theorem k191 : e191.okBy tt gg ft us191 1000000 = true := by kernel_rfl
theorem k192 : e192.okBy tt gg ft us192 1000000 = true := by kernel_rfl
theorem k193 : e193.okBy tt gg ft us193 1000000 = true := by kernel_rfl
theorem k194 : e194.okBy tt gg ft us194 1000000 = true := by kernel_rfl
theorem k195 : e195.okBy tt gg ft us195 1000000 = true := by kernel_rfl
theorem k196 : e196.okBy tt gg ft us196 1000000 = true := by kernel_rfl
theorem k197 : e197.okBy tt gg ft us197 1000000 = true := by kernel_rfl
theorem k198 : e198.okBy tt gg ft us198 1000000 = true := by kernel_rfl
theorem k199 : e199.okBy tt gg ft us199 1000000 = true := by kernel_rfl
theorem k200 : e200.okBy tt gg ft us200 1000000 = true := by kernel_rfl
theorem k201 : e201.okBy tt gg ft us201 1000000 = true := by kernel_rfl
theorem k202 : e202.okBy tt gg ft us202 1000000 = true := by kernel_rfl
theorem k203 : e203.okBy tt gg ft us203 1000000 = true := by kernel_rfl
theorem k204 : e204.okBy tt gg ft us204 1000000 = true := by kernel_rfl
theorem k205 : e205.okBy tt gg ft us205 1000000 = true := by kernel_rfl
theorem k206 : e206.okBy tt gg ft us206 1000000 = true := by kernel_rfl
theorem k207 : e207.okBy tt gg ft us207 1000000 = true := by kernel_rfl
theorem k208 : e208.okBy tt gg ft us208 1000000 = true := by kernel_rfl
theorem k209 : e209.okBy tt gg ft us209 1000000 = true := by kernel_rfl
theorem k210 : e210.okBy tt gg ft us210 1000000 = true := by kernel_rfl
theorem k211 : e211.okBy tt gg ft us211 1000000 = true := by kernel_rfl
theorem k212 : e212.okBy tt gg ft us212 1000000 = true := by kernel_rfl
theorem k213 : e213.okBy tt gg ft us213 1000000 = true := by kernel_rfl
theorem k214 : e214.okBy tt gg ft us214 1000000 = true := by kernel_rfl
theorem k215 : e215.okBy tt gg ft us215 1000000 = true := by kernel_rfl
theorem k216 : e216.okBy tt gg ft us216 1000000 = true := by kernel_rfl
theorem k217 : e217.okBy tt gg ft us217 1000000 = true := by kernel_rfl
end Go.Proofs.YtfnlfpodeoilgaaGreatDoor
