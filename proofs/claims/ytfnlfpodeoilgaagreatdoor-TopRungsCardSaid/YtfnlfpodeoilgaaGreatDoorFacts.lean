/- The row's closed facts, each by itself. No condition. -/
import Derived.Test.YtfnlfpodeoilgaaGreatDoorRows
import Derived.JoinedOf
import Derived.JoinedCond
import GoSem.ClaimGoes
import Derived.KernelRfl
set_option linter.all false
namespace Go.Proofs.YtfnlfpodeoilgaaGreatDoor.topRungs

set_option maxHeartbeats 0 in
set_option maxRecDepth 100000 in
/-- The row's closed facts, each by itself. -/
theorem closed : joinedFacts Tryz.prog 3 Tryz.f3 Rows.topRungsSpec Rows.topRungsRow = true := by
  unfold joinedFacts
  simp only [Bool.and_eq_true]
  refine ⟨⟨⟨⟨⟨⟨⟨⟨⟨⟨⟨⟨⟨⟨⟨⟨⟨⟨⟨⟨⟨⟨⟨⟨⟨⟨⟨⟨⟨⟨⟨?_, ?_⟩, ?_⟩, ?_⟩, ?_⟩, ?_⟩, ?_⟩, ?_⟩, ?_⟩, ?_⟩, ?_⟩, ?_⟩, ?_⟩, ?_⟩, ?_⟩, ?_⟩, ?_⟩, ?_⟩, ?_⟩, ?_⟩, ?_⟩, ?_⟩, ?_⟩, ?_⟩, ?_⟩, ?_⟩, ?_⟩, ?_⟩, ?_⟩, ?_⟩, ?_⟩, ?_⟩
  all_goals (as_aux_lemma => kernel_rfl)

theorem named : Tryz.prog.funcNamed "ratline/ratlinetop.TopRungs" = some 3 := by kernel_rfl

set_option maxHeartbeats 0 in
/-- No goroutine is started by any text that is looked at: its two limbs, each by itself. -/
theorem goesNot : false = Rows.topRungsRow.goesBy Tryz.pinned.checked.prog := by
  have hA : ((Tryz.prog.closure 3).any fun g => (Tryz.prog.funcs[g]?).any Func.goes) = false := by as_aux_lemma => kernel_rfl
  have hC : Tryz.prog.funcs.any Func.goes = false := by as_aux_lemma => kernel_rfl
  have h2 : Tryz.prog.goes 3 = false := by
    unfold Program.goes
    rw [hA, hC, Bool.and_false, Bool.or_false]
  show false = ((Tryz.prog.funcNamed "ratline/ratlinetop.TopRungs").any Tryz.prog.goes || false)
  rw [named, Option.any_some, h2, Bool.or_false]

end Go.Proofs.YtfnlfpodeoilgaaGreatDoor.topRungs
