/- The abstract machine, part O: the model's own steps, in frames that may be rounds of a loop. No condition. -/
import Derived.Test.YtfnlfpodeoilgaaGreatDoorAmN
set_option linter.all false
noncomputable section
namespace Go.AM
open Go.RowKit (Below)

/-- What a frame is, but for what runs in it. -/
structure FB where
  fn : FuncId
  kind : CallKind
  round : Option Nat

def fat (b : FB) (tm : Array Value) (ds : List Deferred) (todo : List Item) : Frame :=
  { fn := b.fn, tmps := tm, todo, defers := ds, mode := .run, kind := b.kind, roundOf := b.round }

theorem fat_eval (b : FB) (tm : Array Value) (ds : List Deferred) (todo : List Item) (x : Operand) : (fat b tm ds todo).eval x = Act.eval ⟨tm, ds⟩ x := by
  cases x <;> rfl
theorem fat_eval' (b : FB) (tm : Array Value) (ds : List Deferred) (todo : List Item) : (fat b tm ds todo).eval = Act.eval ⟨tm, ds⟩ := funext (fat_eval b tm ds todo)

section
variable {P : Program} {b : FB} {tm : Array Value} {ds : List Deferred} {k : List Item} {cs : List Frame} {w : World}

theorem st_skip : step P (lone (fat b tm ds (.code .skip :: k)) cs w) = .next (lone (fat b tm ds k) cs w) :=
  step_lone_go (by simp [stepG, stepG.exec, fat])
theorem st_label {l : Nat} : step P (lone (fat b tm ds (.code (.label l) :: k)) cs w) = .next (lone (fat b tm ds k) cs w) :=
  step_lone_go (by simp [stepG, stepG.exec, fat])
theorem st_inBlock {id : Nat} : step P (lone (fat b tm ds (.inBlock id :: k)) cs w) = .next (lone (fat b tm ds k) cs w) :=
  step_lone_go (by simp [stepG, stepG.exec, fat])
theorem st_inScope {c : Code} : step P (lone (fat b tm ds (.inScope c :: k)) cs w) = .next (lone (fat b tm ds k) cs w) :=
  step_lone_go (by simp [stepG, stepG.exec, fat])
theorem st_seq {x y : Code} : step P (lone (fat b tm ds (.code (.seq x y) :: k)) cs w) = .next (lone (fat b tm ds (.code x :: .code y :: k)) cs w) :=
  step_lone_go (by simp [stepG, stepG.exec, fat])
theorem st_cond {c : Operand} {x y : Code} {t : Bool} (h : Act.eval ⟨tm, ds⟩ c = .bool t) :
    step P (lone (fat b tm ds (.code (.cond c x y) :: k)) cs w) = .next (lone (fat b tm ds (.code (if t then x else y) :: k)) cs w) :=
  step_lone_go (by
    have := fat_eval b tm ds (.code (.cond c x y) :: k) c
    simp only [fat] at this
    simp [stepG, stepG.exec, fat, this, h])
theorem st_block {id : Nat} {c : Code} : step P (lone (fat b tm ds (.code (.block id c) :: k)) cs w) = .next (lone (fat b tm ds (.code c :: .inBlock id :: k)) cs w) :=
  step_lone_go (by simp [stepG, stepG.exec, fat])
theorem st_loop {c : Code} : step P (lone (fat b tm ds (.code (.loop c) :: k)) cs w) = .next (lone (fat b tm ds (.code c :: .inLoop c :: k)) cs w) :=
  step_lone_go (by simp [stepG, stepG.exec, fat])
theorem st_inLoop {c : Code} : step P (lone (fat b tm ds (.inLoop c :: k)) cs w) = .next (lone (fat b tm ds (.code c :: .inLoop c :: k)) cs w) :=
  step_lone_go (by simp [stepG, stepG.exec, fat])
theorem st_scope {c : Code} : step P (lone (fat b tm ds (.code (.scope c) :: k)) cs w) = .next (lone (fat b tm ds (.code c :: .inScope c :: k)) cs w) :=
  step_lone_go (by simp [stepG, stepG.exec, fat])
theorem st_exit {id : Nat} {k' : List Item} (h : exitTo id k = some k') : step P (lone (fat b tm ds (.code (.exit id) :: k)) cs w) = .next (lone (fat b tm ds k') cs w) :=
  step_lone_go (by simp [stepG, stepG.exec, fat, h])
theorem st_goto {l : Nat} {k' : List Item} (h : gotoIn l k = some k') : step P (lone (fat b tm ds (.code (.goto l) :: k)) cs w) = .next (lone (fat b tm ds k') cs w) :=
  step_lone_go (by simp [stepG, stepG.exec, fat, h])

/-- The end of a function. -/
theorem st_ret (h : b.round = none) : step P (lone (fat b tm ds (.code .ret :: k)) cs w) = .next (lone { fat b tm ds (.code .ret :: k) with mode := .returning } cs w) :=
  step_lone_go (by simp [stepG, stepG.exec, fat, h])
theorem st_end (h : b.round = none) : step P (lone (fat b tm ds []) cs w) = .next (lone { fat b tm ds [] with mode := .returning } cs w) :=
  step_lone_go (by simp [stepG, stepG.exec, fat, h])

theorem st_region {id : Nat} {ops : Array Oper} :
    step P (lone (fat b tm ds (.code (.region id ops false) :: k)) cs w) = .next (lone (fat b tm ds (.inRegion ops (List.range ops.size) :: k)) cs w) :=
  step_lone_go (by simp [stepG, stepG.exec, fat])
theorem st_regionDraw {id : Nat} {ops : Array Oper} :
    step P (lone (fat b tm ds (.code (.region id ops true) :: k)) cs w) =
      .next (lone (fat b tm ds (.inRegion ops (Region.schedule (P.follows .mixedOrders) ops (w.tape w.drawn (.order b.fn id))) :: k)) cs { w with drawn := w.drawn + 1 }) :=
  step_lone_go (by simp [stepG, stepG.exec, fat, choose, Sem.run, Question.forced, Question.cut])
theorem st_regionEnd {ops : Array Oper} : step P (lone (fat b tm ds (.inRegion ops [] :: k)) cs w) = .next (lone (fat b tm ds k) cs w) :=
  step_lone_go (by simp [stepG, stepG.exec, fat])

def putT (tm : Array Value) (dst : Option Tmp) (v : Value) : Array Value :=
  match dst with
  | some d => tm.setIfInBounds d v
  | none => tm

theorem fat_finish {ops : Array Oper} {i : Nat} {rest : List Nat} {o : Oper} (ho : ops[i]? = some o) (v : Value) :
    (fat b tm ds (.inRegion ops (i :: rest) :: k)).finish v = fat b (putT tm o.dst v) ds (.inRegion ops rest :: k) := by
  simp only [Frame.finish, fat, ho, Option.bind_some]
  cases o.dst <;> rfl

theorem st_opSkip {ops : Array Oper} {i : Nat} {rest : List Nat} {o : Oper} (ho : ops[i]? = some o) (h : Region.wanted o (yielded ops tm) = false) :
    step P (lone (fat b tm ds (.inRegion ops (i :: rest) :: k)) cs w) = .next (lone (fat b (putT tm o.dst undef) ds (.inRegion ops rest :: k)) cs w) := by
  rw [← fat_finish ho]
  exact step_lone_go (by
    simp only [fat] at *
    simp [stepG, stepG.exec, ho, h])

theorem sg_op {ops : Array Oper} {i : Nat} {rest : List Nat} {o : Oper} (ho : ops[i]? = some o) (hw : Region.wanted o (yielded ops tm) = true)
    (hd : b.round = none ∨ ∀ c, o.op ≠ .defer c) :
    stepG P true { frame := fat b tm ds (.inRegion ops (i :: rest) :: k), callers := cs, status := .running, dying := none } w =
      stepG.apply P true (fat b tm ds (.inRegion ops (i :: rest) :: k)) cs none (execOp (Act.eval ⟨tm, ds⟩) o) w := by
  have he := fat_eval' b tm ds (.inRegion ops (i :: rest) :: k)
  simp only [fat] at he
  simp only [stepG, stepG.exec, stepG.oper, Frame.oper?, fat, ho, hw, he, Option.map_some, Option.getD_some, if_true]
  rcases hd with hr | hne
  · rw [hr]
  · cases hb : b.round with
    | none => rfl
    | some l =>
      cases hop : o.op <;> first | rfl | (exact absurd hop (hne _))

theorem st_opValue {ops : Array Oper} {i : Nat} {rest : List Nat} {o : Oper} {v : Value} {w' : World} (ho : ops[i]? = some o) (hw : Region.wanted o (yielded ops tm) = true)
    (hd : b.round = none ∨ ∀ c, o.op ≠ .defer c) (hr : (execOp (Act.eval ⟨tm, ds⟩) o).run P w = .ok (.value v) w') :
    step P (lone (fat b tm ds (.inRegion ops (i :: rest) :: k)) cs w) = .next (lone (fat b (putT tm o.dst v) ds (.inRegion ops rest :: k)) cs w') := by
  rw [← fat_finish ho]
  exact step_lone_go (by rw [sg_op ho hw hd]; simp [stepG.apply, hr])

theorem st_opUnit {ops : Array Oper} {i : Nat} {rest : List Nat} {o : Oper} {w' : World} (ho : ops[i]? = some o) (hw : Region.wanted o (yielded ops tm) = true)
    (hd : b.round = none ∨ ∀ c, o.op ≠ .defer c) (hr : (execOp (Act.eval ⟨tm, ds⟩) o).run P w = .ok .skip w') :
    step P (lone (fat b tm ds (.inRegion ops (i :: rest) :: k)) cs w) = .next (lone (fat b (putT tm o.dst undef) ds (.inRegion ops rest :: k)) cs w') := by
  rw [← fat_finish ho]
  exact step_lone_go (by rw [sg_op ho hw hd]; simp [stepG.apply, hr])

theorem st_opDefer {ops : Array Oper} {i : Nat} {rest : List Nat} {o : Oper} {d : Deferred} {w' : World} (ho : ops[i]? = some o) (hw : Region.wanted o (yielded ops tm) = true)
    (hd : b.round = none) (hr : (execOp (Act.eval ⟨tm, ds⟩) o).run P w = .ok (.defer d) w') :
    step P (lone (fat b tm ds (.inRegion ops (i :: rest) :: k)) cs w) = .next (lone (fat b (putT tm o.dst undef) (d :: ds) (.inRegion ops rest :: k)) cs w') := by
  rw [← fat_finish ho]
  exact step_lone_go (by rw [sg_op ho hw (.inl hd)]; simp [stepG.apply, hr, fat])

theorem st_opEnter {ops : Array Oper} {i : Nat} {rest : List Nat} {o : Oper} {g : FuncId} {args : Array Value} {w' : World} (ho : ops[i]? = some o)
    (hw : Region.wanted o (yielded ops tm) = true) (hd : b.round = none ∨ ∀ c, o.op ≠ .defer c) (hr : (execOp (Act.eval ⟨tm, ds⟩) o).run P w = .ok (.enter g args) w') :
    step P (lone (fat b tm ds (.inRegion ops (i :: rest) :: k)) cs w) =
      .next (lone (Frame.enter P g args .normal) (fat b tm ds (.inRegion ops (i :: rest) :: k) :: cs) w') :=
  step_lone_go (by rw [sg_op ho hw hd]; simp [stepG.apply, hr, fat])

theorem st_opRound {ops : Array Oper} {i : Nat} {rest : List Nat} {o : Oper} {l : Nat} {g : FuncId} {tms : Array Value} {as body : Code} {w' : World} (ho : ops[i]? = some o)
    (hw : Region.wanted o (yielded ops tm) = true) (hd : b.round = none ∨ ∀ c, o.op ≠ .defer c) (hr : (execOp (Act.eval ⟨tm, ds⟩) o).run P w = .ok (.round l g tms as body) w') :
    step P (lone (fat b tm ds (.inRegion ops (i :: rest) :: k)) cs w) =
      .next (lone (fat ⟨g, .normal, some l⟩ tms [] [.code as, .beginRound, .code body]) (fat b tm ds (.inRegion ops (i :: rest) :: k) :: cs) w') :=
  step_lone_go (by rw [sg_op ho hw hd]; simp [stepG.apply, hr, fat, Frame.round])

/-- A function returns to its caller. -/
theorem st_return {fr c : Frame} {v : Value} (hm : fr.mode = .returning) (hd : fr.defers = []) (hk : fr.kind = .normal) (hf : ∃ fn, P.funcs[fr.fn]? = some fn ∧ (results fn fr.tmps).run P w = .ok v w) :
    step P (lone fr (c :: cs) w) = .next (lone (c.finish v) cs w) := by
  obtain ⟨fn, hf, hr⟩ := hf
  exact step_leave_returned ⟨hm, hd, hk, fn, hf, hr⟩

/-- Rounds. -/
theorem st_beginRound {l : Nat} {L : Loop} (hb : b.round = some l) (hl : w.heap[l]? = some (.loop L)) (hs : L.state = .ready) :
    step P (lone (fat b tm ds (.beginRound :: k)) cs w) = .next (lone (fat b tm ds k) cs { w with heap := w.heap.setIfInBounds l (.loop { L with state := .busy }) }) := by
  have hr : (do Option.elim (some l) (stuck "beginRound: no round") Instr.beginRound; pure Next.skip : Sem Next).run P w =
      .ok .skip { w with heap := w.heap.setIfInBounds l (.loop { L with state := .busy }) } := by
    simp [Instr.beginRound, Instr.getLoop, getObj, setObj, Sem.run, hl, hs, bind, Sem.bind, pure]
  exact step_lone_go (by
    simp only [stepG, stepG.exec, fat, hb]
    simp only [stepG.apply, Sem.runT_eq, hr, if_true, GStep.bare_after, Frame.finish]
    rfl)

theorem st_endRound {l : Nat} {L : Loop} {c : Frame} {jump : Option Code} {todo : List Item} (hb : b.round = some l) (hk : b.kind = .normal) (hl : w.heap[l]? = some (.loop L))
    (ht : (todo = [] ∧ jump = none) ∨ (∃ k', todo = .code .ret :: k' ∧ jump = some .ret) ∨ (∃ id k', todo = .code (.exit id) :: k' ∧ exitTo id k' = none ∧ jump = some (.exit id)) ∨
      (∃ id k', todo = .code (.goto id) :: k' ∧ gotoIn id k' = none ∧ jump = some (.goto id))) :
    step P (lone (fat b tm ds todo) (c :: cs) w) =
      .next (lone (c.finish (.bool jump.isNone)) cs { w with heap := w.heap.setIfInBounds l (.loop { L with state := if jump.isNone then .ready else .done, pending := jump }) }) := by
  have hr : (Instr.endRound l jump).run P w = .ok (.bool jump.isNone) { w with heap := w.heap.setIfInBounds l (.loop { L with state := if jump.isNone then .ready else .done, pending := jump }) } := by
    simp [Instr.endRound, Instr.getLoop, getObj, setObj, Sem.run, hl, bind, Sem.bind, pure]
  refine step_lone_go ?_
  rcases ht with ⟨rfl, rfl⟩ | ⟨k', rfl, rfl⟩ | ⟨id, k', rfl, he, rfl⟩ | ⟨id, k', rfl, he, rfl⟩
  · simp only [stepG, stepG.exec, fat, hb, hk, Sem.runT_eq, hr, GStep.bare_after, doReturn]; rfl
  · simp only [stepG, stepG.exec, fat, hb, hk, Sem.runT_eq, hr, GStep.bare_after, doReturn]; rfl
  · simp only [stepG, stepG.exec, fat, hb, hk, he, Option.elim_none, Sem.runT_eq, hr, GStep.bare_after, doReturn]; rfl
  · simp only [stepG, stepG.exec, fat, hb, hk, he, Option.elim_none, Sem.runT_eq, hr, GStep.bare_after, doReturn]; rfl

/-- A loop over a function: the iterator is called. -/
theorem st_rangeFunc {f : Operand} {params : Array Tmp} {as body : Code} {l : Nat} {mark : List Deferred} {w₁ w₂ : World} {g : FuncId} {args : Array Value}
    (h1 : (Instr.enterLoop b.fn tm params as body b.round).run P w = .ok (l, mark) w₁)
    (h2 : (do let d ← resolve (Act.eval ⟨tm, mark ++ ds⟩) { callee := .value f, args := #[.const (.func (.yield l) #[] #[])], argTypes := #[] } 0; invoke d.target d.args : Sem Next).run P w₁ = .ok (.enter g args) w₂) :
    step P (lone (fat b tm ds (.code (.rangeFunc f params as body) :: k)) cs w) =
      .next (lone (Frame.enter P g args .normal) (fat b tm (mark ++ ds) (.inRangeFunc l :: k) :: cs) w₂) := by
  have he := fat_eval' b tm (mark ++ ds) (.inRangeFunc l :: k)
  simp only [fat] at he
  refine step_lone_go ?_
  simp only [stepG, stepG.exec, fat, Sem.runT_eq, h1, GStep.bare_after]
  rw [he]
  simp only [stepG.apply, Sem.runT_eq, h2, if_true, GStep.bare_after, GStep.bare_go]

theorem fat_finish_range {l : Nat} (v : Value) : (fat b tm ds (.inRangeFunc l :: k)).finish v = fat b tm ds (.endRangeFunc l :: k) := rfl

theorem st_endRange {l : Nat} {L : Loop} (hl : w.heap[l]? = some (.loop L)) (hs : L.state ≠ .busy) :
    step P (lone (fat b tm ds (.endRangeFunc l :: k)) cs w) =
      .next (lone (fat b tm ds ((L.pending.map Item.code).toList ++ k)) cs { w with heap := w.heap.setIfInBounds l (.loop { L with state := .exhausted }) }) := by
  have hs' : (L.state == .busy) = false := by simpa using hs
  have hr : (Instr.endLoop l).run P w = .ok L.pending { w with heap := w.heap.setIfInBounds l (.loop { L with state := .exhausted }) } := by
    simp [Instr.endLoop, Instr.getLoop, getObj, setObj, Sem.run, hl, hs, bind, Sem.bind, pure]
  exact step_lone_go (by simp only [stepG, stepG.exec, fat, Sem.runT_eq, hr, GStep.bare_after]; rfl)

/-- Deferred calls, when a function returns. -/
theorem st_collected {fr : Frame} {r : Nat} {es ds : List Deferred} (hm : fr.mode = .returning) (hd : fr.defers = ⟨.collected r, #[]⟩ :: ds) (hr : w.heap[r]? = some (.deferred (some es))) :
    step P (lone fr cs w) = .next (lone { fr with defers := es ++ ds } cs { w with heap := w.heap.setIfInBounds r (.deferred none) }) := by
  have hrun : (Instr.takeDeferred r).run P w = .ok es { w with heap := w.heap.setIfInBounds r (.deferred none) } := by
    simp [Instr.takeDeferred, getObj, setObj, Sem.run, hr, bind, Sem.bind, pure]
  exact step_lone_go (by simp [stepG, Go.unwind, hm, hd, hrun])

theorem st_deferred {fr : Frame} {fv : Fn} {cap args : Array Value} {ds : List Deferred} {g : FuncId} {as : Array Value} (hm : fr.mode = .returning) (hd : fr.defers = ⟨.fn fv cap, args⟩ :: ds)
    (hi : (invoke (.fn fv cap) args).run P w = .ok (.enter g as) w) :
    step P (lone fr cs w) = .next (lone (Frame.enter P g as .deferred) ({ fr with defers := ds } :: cs) w) :=
  step_defer (by rw [hm]; simp) hd rfl hi

theorem st_deferredBack {fr c : Frame} {v : Value} (hm : fr.mode = .returning) (hd : fr.defers = []) (hk : fr.kind = .deferred) (hf : ∃ fn, P.funcs[fr.fn]? = some fn ∧ (results fn fr.tmps).run P w = .ok v w)
    (hc : c.mode = .returning) : step P (lone fr (c :: cs) w) = .next (lone c cs w) := by
  obtain ⟨fn, hf, hr⟩ := hf
  have := step_going_returned (P := P) (fr := fr) (c := c) (cs := cs) (w := w) (v := v) hk ⟨hm, hd, fn, hf, hr⟩
  rw [this, hc]
  have : { c with mode := settle .returning } = c := by
    obtain ⟨f1, f2, f3, f4, f5, f6, f7⟩ := c
    simp at hc; subst hc; rfl
  rw [this]
end
end Go.AM
