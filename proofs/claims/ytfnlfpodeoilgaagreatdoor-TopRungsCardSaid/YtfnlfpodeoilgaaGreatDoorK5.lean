/- Each call is as it is told, where those that it asks are: printed by GenEnt.lean. No condition. -/
import Derived.Test.YtfnlfpodeoilgaaGreatDoorD1
set_option linter.all false
set_option maxRecDepth 1000000
namespace Go.Proofs.YtfnlfpodeoilgaaGreatDoor
open Go Go.AM AV AO Tr

theorem k154 : e154.okBy tt gg ft us154 1000000 = true := by kernel_rfl
theorem k155 : e155.okBy tt gg ft us155 1000000 = true := by kernel_rfl
theorem k156 : e156.okBy tt gg ft us156 1000000 = true := by kernel_rfl
theorem k157 : e157.okBy tt gg ft us157 1000000 = true := by kernel_rfl
theorem k158 : e158.okBy tt gg ft us158 1000000 = true := by kernel_rfl
theorem k159 : e159.okBy tt gg ft us159 1000000 = true := by kernel_rfl
theorem k160 : e160.okBy tt gg ft us160 1000000 = true := by kernel_rfl
theorem k161 : e161.okBy tt gg ft us161 1000000 = true := by kernel_rfl
theorem k162 : e162.okBy tt gg ft us162 1000000 = true := by kernel_rfl
theorem k163 : e163.okBy tt gg ft us163 1000000 = true := by kernel_rfl
theorem k164 : e164.okBy tt gg ft us164 1000000 = true := by kernel_rfl
theorem k165 : e165.okBy tt gg ft us165 1000000 = true := by kernel_rfl
theorem k166 : e166.okBy tt gg ft us166 1000000 = true := by kernel_rfl
theorem k167 : e167.okBy tt gg ft us167 1000000 = true := by kernel_rfl
theorem k168 : e168.okBy tt gg ft us168 1000000 = true := by kernel_rfl
theorem k169 : e169.okBy tt gg ft us169 1000000 = true := by kernel_rfl
theorem k170 : e170.okBy tt gg ft us170 1000000 = true := by kernel_rfl
theorem k171 : e171.okBy tt gg ft us171 1000000 = true := by kernel_rfl
theorem k172 : e172.okBy tt gg ft us172 1000000 = true := by kernel_rfl
theorem k173 : e173.okBy tt gg ft us173 1000000 = true := by kernel_rfl
theorem k174 : e174.okBy tt gg ft us174 1000000 = true := by kernel_rfl
theorem k175 : e175.okBy tt gg ft us175 1000000 = true := by kernel_rfl
theorem k176 : e176.okBy tt gg ft us176 1000000 = true := by kernel_rfl
theorem k177 : e177.okBy tt gg ft us177 1000000 = true := by kernel_rfl
theorem k178 : e178.okBy tt gg ft us178 1000000 = true := by kernel_rfl
theorem k179 : e179.okBy tt gg ft us179 1000000 = true := by kernel_rfl
theorem k180 : e180.okBy tt gg ft us180 1000000 = true := by kernel_rfl
theorem k181 : e181.okBy tt gg ft us181 1000000 = true := by kernel_rfl
theorem k182 : e182.okBy tt gg ft us182 1000000 = true := by kernel_rfl
theorem k183 : e183.okBy tt gg ft us183 1000000 = true := by kernel_rfl
theorem k184 : e184.okBy tt gg ft us184 1000000 = true := by kernel_rfl
theorem k185 : e185.okBy tt gg ft us185 1000000 = true := by kernel_rfl
theorem k186 : e186.okBy tt gg ft us186 1000000 = true := by kernel_rfl
theorem k187 : e187.okBy tt gg ft us187 1000000 = true := by kernel_rfl
theorem k188 : e188.okBy tt gg ft us188 1000000 = true := by kernel_rfl
theorem k189 : e189.okBy tt gg ft us189 1000000 = true := by kernel_rfl
end Go.Proofs.YtfnlfpodeoilgaaGreatDoor
