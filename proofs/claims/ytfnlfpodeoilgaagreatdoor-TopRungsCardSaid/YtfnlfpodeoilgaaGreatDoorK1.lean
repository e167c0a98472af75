/- Each call is as it is told, where those that it asks are: printed by GenEnt.lean. No condition. -/
import Derived.Test.YtfnlfpodeoilgaaGreatDoorD1
set_option linter.all false
set_option maxRecDepth 1000000
namespace Go.Proofs.YtfnlfpodeoilgaaGreatDoor
open Go Go.AM AV AO Tr

theorem k25 : e25.okBy tt gg ft us25 1000000 = true := by kernel_rfl
theorem k26 : e26.okBy tt gg ft us26 1000000 = true := by kernel_rfl
theorem k27 : e27.okBy tt gg ft us27 1000000 = true := by kernel_rfl
theorem k28 : e28.okBy tt gg ft us28 1000000 = true := by kernel_rfl
theorem k29 : e29.okBy tt gg ft us29 1000000 = true := by kernel_rfl
theorem k30 : e30.okBy tt gg ft us30 1000000 = true := by kernel_rfl
theorem k31 : e31.okBy tt gg ft us31 1000000 = true := by kernel_rfl
theorem k32 : e32.okBy tt gg ft us32 1000000 = true := by kernel_rfl
theorem k33 : e33.okBy tt gg ft us33 1000000 = true := by kernel_rfl
theorem k34 : e34.okBy tt gg ft us34 1000000 = true := by kernel_rfl
theorem k35 : e35.okBy tt gg ft us35 1000000 = true := by kernel_rfl
theorem k36 : e36.okBy tt gg ft us36 1000000 = true := by kernel_rfl
theorem k37 : e37.okBy tt gg ft us37 1000000 = true := by kernel_rfl
theorem k38 : e38.okBy tt gg ft us38 1000000 = true := by kernel_rfl
theorem k39 : e39.okBy tt gg ft us39 1000000 = true := by kernel_rfl
theorem k40 : e40.okBy tt gg ft us40 1000000 = true := by kernel_rfl
theorem k41 : e41.okBy tt gg ft us41 1000000 = true := by kernel_rfl
theorem k42 : e42.okBy tt gg ft us42 1000000 = true := by kernel_rfl
theorem k43 : e43.okBy tt gg ft us43 1000000 = true := by kernel_rfl
theorem k44 : e44.okBy tt gg ft us44 1000000 = true := by kernel_rfl
theorem k45 : e45.okBy tt gg ft us45 1000000 = true := by kernel_rfl
theorem k46 : e46.okBy tt gg ft us46 1000000 = true := by kernel_rfl
theorem k47 : e47.okBy tt gg ft us47 1000000 = true := by kernel_rfl
theorem k48 : e48.okBy tt gg ft us48 1000000 = true := by kernel_rfl
theorem k49 : e49.okBy tt gg ft us49 1000000 = true := by kernel_rfl
theorem k50 : e50.okBy tt gg ft us50 1000000 = true := by kernel_rfl
theorem k51 : e51.okBy tt gg ft us51 1000000 = true := by kernel_rfl
theorem k52 : e52.okBy tt gg ft us52 1000000 = true := by kernel_rfl
theorem k53 : e53.okBy tt gg ft us53 1000000 = true := by kernel_rfl
theorem k54 : e54.okBy tt gg ft us54 1000000 = true := by kernel_rfl
theorem k55 : e55.okBy tt gg ft us55 1000000 = true := by kernel_rfl
end Go.Proofs.YtfnlfpodeoilgaaGreatDoor
