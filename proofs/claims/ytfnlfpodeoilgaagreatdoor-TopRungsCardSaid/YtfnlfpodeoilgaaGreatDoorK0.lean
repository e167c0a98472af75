/- Each call is as it is told, where those that it asks are: printed by GenEnt.lean. No condition. -/
import Derived.Test.YtfnlfpodeoilgaaGreatDoorD1
set_option linter.all false
set_option maxRecDepth 1000000
namespace Go.Proofs.YtfnlfpodeoilgaaGreatDoor
open Go Go.AM AV AO Tr

theorem k0 : e0.okBy tt gg ft us0 1000000 = true := by kernel_rfl
theorem k1 : e1.okBy tt gg ft us1 1000000 = true := by kernel_rfl
theorem k2 : e2.okBy tt gg ft us2 1000000 = true := by kernel_rfl
theorem k3 : e3.okBy tt gg ft us3 1000000 = true := by kernel_rfl
theorem k4 : e4.okBy tt gg ft us4 1000000 = true := by kernel_rfl
theorem k5 : e5.okBy tt gg ft us5 1000000 = true := by kernel_rfl
theorem k6 : e6.okBy tt gg ft us6 1000000 = true := by kernel_rfl
theorem k7 : e7.okBy tt gg ft us7 1000000 = true := by kernel_rfl
theorem k8 : e8.okBy tt gg ft us8 1000000 = true := by kernel_rfl
theorem k9 : e9.okBy tt gg ft us9 1000000 = true := by kernel_rfl
theorem k10 : e10.okBy tt gg ft us10 1000000 = true := by kernel_rfl
theorem k11 : e11.okBy tt gg ft us11 1000000 = true := by kernel_rfl
theorem k12 : e12.okBy tt gg ft us12 1000000 = true := by kernel_rfl
theorem k13 : e13.okBy tt gg ft us13 1000000 = true := by kernel_rfl
theorem k14 : e14.okBy tt gg ft us14 1000000 = true := by kernel_rfl
theorem k15 : e15.okBy tt gg ft us15 1000000 = true := by kernel_rfl
theorem k16 : e16.okBy tt gg ft us16 1000000 = true := by kernel_rfl
theorem k17 : e17.okBy tt gg ft us17 1000000 = true := by kernel_rfl
theorem k18 : e18.okBy tt gg ft us18 1000000 = true := by kernel_rfl
theorem k19 : e19.okBy tt gg ft us19 1000000 = true := by kernel_rfl
theorem k20 : e20.okBy tt gg ft us20 1000000 = true := by kernel_rfl
theorem k21 : e21.okBy tt gg ft us21 1000000 = true := by kernel_rfl
theorem k22 : e22.okBy tt gg ft us22 1000000 = true := by kernel_rfl
theorem k23 : e23.okBy tt gg ft us23 1000000 = true := by kernel_rfl
theorem k24 : e24.okBy tt gg ft us24 1000000 = true := by kernel_rfl
end Go.Proofs.YtfnlfpodeoilgaaGreatDoor
