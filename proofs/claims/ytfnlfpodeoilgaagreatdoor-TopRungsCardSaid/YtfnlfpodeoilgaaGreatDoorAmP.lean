/- The abstract machine, part P: an operation, made by the evaluator and by the machine. No condition. -/
import Derived.Test.YtfnlfpodeoilgaaGreatDoorAmO
import Derived.Test.YtfnlfpodeoilgaaGreatDoorAmT
set_option linter.all false
noncomputable section
namespace Go.AM
open Go.RowKit (Below)

theorem aread_run {P : Program} {T : TT} (hT : TOk P T) {G B ρ s w} (h : Rel G B ρ s w) {env : Tr AV} {ev : Operand → Value} (he : OpdR ρ env ev) {o : Oper} {y : AV}
    (hc : clsOf o.op = .read) (ha : aread T G env s o.op = some y) : ∃ r, (execOp ev o).run P w = .ok (.value r) w ∧ VR ρ y r := by
  obtain ⟨dst, op, type, pos, after, guard⟩ := o
  simp only at ha hc
  have wrap : ∀ {q : Sem Value} {r : Value}, q.run P w = .ok r w → (q >>= fun x => pure (Next.value x)).run P w = .ok (.value r) w := by
    intro q r hs; simp [hs]
  unfold aread at ha
  cases op <;> simp only at ha <;> try (simp at ha; done)
  case load t x =>
    cases hx : opd env x with
    | none => rw [hx] at ha; simp at ha
    | some a =>
      rw [hx] at ha; simp only at ha
      obtain ⟨r, h1, h2⟩ := aload_run (P := P) hT h ha (he _ _ hx)
      exact ⟨r, wrap h1, h2⟩
  case lookup t x k ok =>
    cases hx : opd env x with
    | none => rw [hx] at ha; simp at ha
    | some a =>
      cases hk : opd env k with
      | none => rw [hx, hk] at ha; simp at ha
      | some b =>
        rw [hx, hk] at ha; simp only at ha
        obtain ⟨r, h1, h2⟩ := alookup_run (P := P) hT h ha (he _ _ hx) (he _ _ hk)
        exact ⟨r, wrap h1, h2⟩
  case entry x =>
    cases hx : opd env x with
    | none => rw [hx] at ha; simp at ha
    | some a =>
      rw [hx] at ha; simp only at ha
      obtain ⟨r, h1, h2⟩ := anEntry_run (P := P) h ha (he _ _ hx)
      exact ⟨r, wrap h1, h2⟩
  case call c =>
    obtain ⟨callee, ⟨args⟩, ⟨ats⟩⟩ := c
    simp only at ha
    cases callee with
    | value _ => simp [clsOf] at hc
    | invoke _ _ => simp [clsOf] at hc
    | builtin b =>
      have hb : b = .len := by cases b <;> simp [clsOf] at hc <;> rfl
      subst hb
      cases args with
      | nil => simp at ha
      | cons x xs =>
        cases xs with
        | cons => simp at ha
        | nil =>
          simp only at ha
          cases hx : opd env x with
          | none => rw [hx] at ha; simp at ha
          | some a =>
            rw [hx] at ha
            cases ats with
            | nil => simp at ha
            | cons t ts =>
              simp only at ha
              have hv := he _ _ hx
              have hrun : ∀ r, (Builtin.len_ ⟨t :: ts⟩ type #[ev x]).run P w = .ok r w →
                  (execOp ev { dst, op := .call { callee := .builtin .len, args := ⟨[x]⟩, argTypes := ⟨t :: ts⟩ }, type, pos, after, guard }).run P w = .ok (.value r) w := by
                intro r hr
                simp only [execOp, resolve, pure_bind, invoke, builtin]
                have : (⟨[x]⟩ : Array Operand).map ev = #[ev x] := by simp
                rw [this]
                simp [hr]
              cases hl : alen T t a with
              | some z =>
                rw [hl] at ha; simp at ha; subst ha
                obtain ⟨r, h1, h2⟩ := abuiltin_run (P := P) (b := .len) (ts := ⟨t :: ts⟩) (ty := type) (cst := #[]) (us := #[ev x]) hT (by simp only [abuiltin]; exact hl) (.cons hv .nil) w
                refine ⟨r, hrun r ?_, h2⟩
                simp only [builtin, Sem.run_bind, Sem.run_pure] at h1
                cases hq : (Builtin.len_ ⟨t :: ts⟩ type #[ev x]).run P w with
                | ok r' w' => rw [hq] at h1; simp at h1; obtain ⟨rfl, rfl⟩ := h1; rfl
                | halt x w' => rw [hq] at h1; simp at h1
              | none =>
                rw [hl] at ha; simp only at ha
                obtain ⟨r, h1, h2⟩ := alenMap_run (P := P) (ty := type) (ts := ts) hT h ha hv
                exact ⟨r, hrun r h1, h2⟩

/-- What an operation yields in the machine. -/
def Yields' (nx : Next) (r : Value) : Prop := nx = .value r ∨ (nx = .skip ∧ r = undef)

theorem aloud_run {P : Program} {T : TT} (hT : TOk P T) {G B ρ s w} (h : Rel G B ρ s w) {env : Tr AV} {ev : Operand → Value} (he : OpdR ρ env ev) {o : Oper} {y : AV} {s' : St}
    (ha : aloud T env s o.op = some (y, s')) : ∃ ρ' w' nx r, (execOp ev o).run P w = .ok nx w' ∧ Yields' nx r ∧ VR ρ' y r ∧ Rel G B ρ' s' w' ∧ Ext B ρ s w ρ' s' w' := by
  obtain ⟨dst, op, type, pos, after, guard⟩ := o
  simp only at ha
  have unit : ∀ {q : Sem Unit} {w' : World}, q.run P w = .ok () w' → (q >>= fun _ => pure Next.skip).run P w = .ok .skip w' := by
    intro q w' hs; simp [hs]
  have wrap : ∀ {q : Sem Value} {r : Value} {w' : World}, q.run P w = .ok r w' → (q >>= fun x => pure (Next.value x)).run P w = .ok (.value r) w' := by
    intro q r w' hs; simp [hs]
  unfold aloud at ha
  cases op <;> simp only at ha <;> try (simp at ha; done)
  case store t x z =>
    cases hx : opd env x with
    | none => rw [hx] at ha; simp at ha
    | some a =>
      cases hz : opd env z with
      | none => rw [hx, hz] at ha; simp at ha
      | some b =>
        rw [hx, hz] at ha; simp only at ha
        cases hs : astore T s t a b with
        | none => rw [hs] at ha; simp at ha
        | some s1 =>
          rw [hs] at ha; simp only [Option.some.injEq, Prod.mk.injEq] at ha
          obtain ⟨rfl, rfl⟩ := ha
          obtain ⟨w', h1, h2, h3⟩ := astore_run (P := P) hT h hs (he _ _ hx) (he _ _ hz)
          exact ⟨ρ, w', .skip, undef, unit h1, .inr ⟨rfl, rfl⟩, .tuple .nil, h2, h3⟩
  case insert t m k z =>
    cases hm : opd env m with
    | none => rw [hm] at ha; simp at ha
    | some a =>
      cases hk : opd env k with
      | none => rw [hm, hk] at ha; simp at ha
      | some b =>
        cases hz : opd env z with
        | none => rw [hm, hk, hz] at ha; simp at ha
        | some c =>
          rw [hm, hk, hz] at ha; simp only at ha
          cases hs : amapUpdate T s t a b c with
          | none => rw [hs] at ha; simp at ha
          | some s1 =>
            rw [hs] at ha; simp only [Option.some.injEq, Prod.mk.injEq] at ha
            obtain ⟨rfl, rfl⟩ := ha
            obtain ⟨w', h1, h2, h3⟩ := amapUpdate_run (P := P) hT h hs (he _ _ hm) (he _ _ hk) (he _ _ hz)
            exact ⟨ρ, w', .skip, undef, unit h1, .inr ⟨rfl, rfl⟩, .tuple .nil, h2, h3⟩
  case mapUpdate t m k z =>
    cases hm : opd env m with
    | none => rw [hm] at ha; simp at ha
    | some a =>
      cases hk : opd env k with
      | none => rw [hm, hk] at ha; simp at ha
      | some b =>
        cases hz : opd env z with
        | none => rw [hm, hk, hz] at ha; simp at ha
        | some c =>
          rw [hm, hk, hz] at ha; simp only at ha
          cases hs : amapUpdate T s t a b c with
          | none => rw [hs] at ha; simp at ha
          | some s1 =>
            rw [hs] at ha; simp only [Option.some.injEq, Prod.mk.injEq] at ha
            obtain ⟨rfl, rfl⟩ := ha
            obtain ⟨w', h1, h2, h3⟩ := amapUpdate_run (P := P) hT h hs (he _ _ hm) (he _ _ hk) (he _ _ hz)
            exact ⟨ρ, w', .skip, undef, unit h1, .inr ⟨rfl, rfl⟩, .tuple .nil, h2, h3⟩
  case mapEntry t m k =>
    cases hm : opd env m with
    | none => rw [hm] at ha; simp at ha
    | some a =>
      cases hk : opd env k with
      | none => rw [hm, hk] at ha; simp at ha
      | some b =>
        rw [hm, hk] at ha; simp only at ha
        obtain ⟨w', r, h1, h2, h3, h4⟩ := amapEntry_run (P := P) hT h ha (he _ _ hm) (he _ _ hk)
        exact ⟨ρ, w', .value r, r, wrap h1, .inl rfl, h2, h3, h4⟩
  case entryStore t m k z =>
    cases hm : opd env m with
    | none => rw [hm] at ha; simp at ha
    | some a =>
      cases hk : opd env k with
      | none => rw [hm, hk] at ha; simp at ha
      | some b =>
        cases hz : opd env z with
        | none => rw [hm, hk, hz] at ha; simp at ha
        | some c =>
          rw [hm, hk, hz] at ha; simp only at ha
          cases hs : aentryStore s a b c with
          | none => rw [hs] at ha; simp at ha
          | some s1 =>
            rw [hs] at ha; simp only [Option.some.injEq, Prod.mk.injEq] at ha
            obtain ⟨rfl, rfl⟩ := ha
            obtain ⟨w', h1, h2, h3⟩ := aentryStore_run (P := P) (t := t) h hs (he _ _ hm) (he _ _ hk) (he _ _ hz)
            exact ⟨ρ, w', .skip, undef, unit h1, .inr ⟨rfl, rfl⟩, .tuple .nil, h2, h3⟩
  case range t x =>
    cases hx : opd env x with
    | none => rw [hx] at ha; simp at ha
    | some a =>
      rw [hx] at ha; simp only at ha
      obtain ⟨ρ', w', r, h1, h2, h3, h4⟩ := arange_run (P := P) hT h ha (he _ _ hx)
      exact ⟨ρ', w', .value r, r, wrap h1, .inl rfl, h2, h3, h4⟩
  case next x isString =>
    cases isString <;> simp only at ha
    · cases hx : opd env x with
      | none => rw [hx] at ha; simp at ha
      | some a =>
        rw [hx] at ha; simp only at ha
        obtain ⟨w', r, h1, h2, h3, h4⟩ := anext_run (P := P) h type ha (he _ _ hx)
        exact ⟨ρ, w', .value r, r, wrap h1, .inl rfl, h2, h3, h4⟩
    · simp at ha
  case call c =>
    obtain ⟨callee, args, ats⟩ := c
    simp only at ha
    cases callee <;> simp only at ha <;> try (simp at ha; done)
    rename_i b
    cases has : opds env args.toList with
    | none => rw [has] at ha; simp at ha
    | some as =>
      rw [has] at ha; simp only at ha
      have hv := opds_array he has
      have hx : ∃ cst : Array Bool, (execOp ev { dst, op := .call { callee := .builtin b, args, argTypes := ats }, type, pos, after, guard } : Sem Next) =
          builtin b ats type cst (args.map ev) := ⟨_, rfl⟩
      obtain ⟨cst, hx⟩ := hx
      rw [hx]
      generalize args.map ev = us at hv
      obtain ⟨us⟩ := us
      obtain ⟨ats⟩ := ats
      simp only at hv ha
      split at ha
      · -- append
        cases hv with
        | cons hd htl =>
          cases htl with
          | cons hx2 htl2 =>
            cases htl2
            obtain ⟨ρ', w', r, h1, h2, h3, h4⟩ := aappend_run (P := P) (ty := type) hT h ha hd hx2
            exact ⟨ρ', w', .value r, r, by simp only [builtin]; exact wrap h1, .inl rfl, h2, h3, h4⟩
      · cases hv with
        | cons hd htl =>
          cases htl with
          | cons hx2 htl2 =>
            cases htl2
            obtain ⟨w', r, h1, h2, h3, h4⟩ := acopy_run (P := P) (ty := type) hT h ha hd hx2
            exact ⟨ρ, w', .value r, r, by simp only [builtin]; exact wrap h1, .inl rfl, h2, h3, h4⟩
      · cases hv with
        | cons hd htl =>
          cases htl
          obtain ⟨w', r, h1, h2, h3, h4⟩ := aclear_run (P := P) (ty := type) hT h ha hd
          exact ⟨ρ, w', .value r, r, by simp only [builtin]; exact wrap h1, .inl rfl, h2, h3, h4⟩
      · cases hv with
        | cons hd htl =>
          cases htl with
          | cons hx2 htl2 =>
            cases htl2
            obtain ⟨w', r, h1, h2, h3, h4⟩ := adelete_run (P := P) (ty := type) hT h ha hd hx2
            exact ⟨ρ, w', .value r, r, by simp only [builtin]; exact wrap h1, .inl rfl, h2, h3, h4⟩
      · simp at ha

/-- What is called. -/
inductive CallR (ρ : Ren) : ACall → Deferred → Prop
  | enter {g : FuncId} {first captured args : List AV} {us vs ws : List Value} (h1 : VRs ρ first us) (h2 : VRs ρ captured vs) (h3 : VRs ρ args ws) :
      CallR ρ (.enter g (first ++ args ++ captured)) ⟨.fn (.func g) ⟨vs⟩, ⟨us⟩ ++ ⟨ws⟩⟩
  | yield {id b κ : Nat} {args : List AV} {ws : List Value} (h : ρ id 0 = some (b, κ)) (h3 : VRs ρ args ws) : CallR ρ (.yield id args) ⟨.fn (.yield b) #[], #[] ++ ⟨ws⟩⟩

theorem acallee_spec {P : Program} {ρ : Ren} {v : AV} {u : Value} {args : List AV} {ws : List Value} {c : ACall} (h : acallee v args = some c) (hv : VR ρ v u) (ha : VRs ρ args ws) (w : World) :
    ∃ d, (Deferred.ofValue u ⟨ws⟩).run P w = .ok d w ∧ CallR ρ c d := by
  unfold acallee at h
  split at h
  · cases hv with
    | func fn h1 h2 hf => cases h; exact ⟨_, rfl, .enter h1 h2 ha⟩
  · cases hv with
    | yield hy => cases h; exact ⟨_, rfl, .yield hy ha⟩
  · simp at h

theorem acall_run {P : Program} {ρ : Ren} {env : Tr AV} {ev : Operand → Value} (he : OpdR ρ env ev) {o : Oper} {c : ACall} (h : acall env o.op = some c) (w : World) :
    ∃ d, CallR ρ c d ∧ (execOp ev o).run P w = (invoke d.target d.args).run P w := by
  obtain ⟨dst, op, type, pos, after, guard⟩ := o
  simp only at h
  unfold acall at h
  cases op <;> simp only at h <;> try (simp at h; done)
  rename_i cc
  obtain ⟨callee, args, ats⟩ := cc
  simp only at h
  cases callee <;> simp only at h <;> try (simp at h; done)
  rename_i f
  cases hf : opd env f with
  | none => rw [hf] at h; simp at h
  | some v =>
    rw [hf] at h; simp only at h
    cases ha : opds env args.toList with
    | none => rw [ha] at h; simp at h
    | some as =>
      rw [ha] at h; simp only at h
      have hv := opds_array he ha
      have hx : (execOp ev { dst, op := .call { callee := .value f, args, argTypes := ats }, type, pos, after, guard } : Sem Next) =
          (do let d ← Deferred.ofValue (ev f) (args.map ev); invoke d.target d.args) := by
        simp only [execOp, resolve]
      rw [hx]
      generalize args.map ev = us at hv
      obtain ⟨us⟩ := us
      obtain ⟨d, d1, d2⟩ := acallee_spec (P := P) h (he _ _ hf) hv w
      exact ⟨d, d2, by simp [d1]⟩

theorem adefer_run {P : Program} {ρ : Ren} {env : Tr AV} {ev : Operand → Value} (he : OpdR ρ env ev) {o : Oper} {d : ADef} (h : adefer env o.op = some d) (w : World) :
    ∃ d', (execOp ev o).run P w = .ok (.defer d') w ∧ DefR ρ d d' := by
  obtain ⟨dst, op, type, pos, after, guard⟩ := o
  simp only at h
  unfold adefer at h
  cases op <;> simp only at h <;> try (simp at h; done)
  rename_i cc
  obtain ⟨callee, args, ats⟩ := cc
  simp only at h
  cases callee <;> simp only at h <;> try (simp at h; done)
  rename_i f
  cases hf : opd env f with
  | none => rw [hf] at h; simp at h
  | some v =>
    rw [hf] at h
    have hfv := he _ _ hf
    split at h
    · rename_i g first captured hq
      cases hq
      cases ha : opds env args.toList with
      | none => rw [ha] at h; simp at h
      | some as =>
        rw [ha] at h; simp at h; subst h
        have hv := opds_array he ha
        generalize hef : ev f = u at hfv
        generalize hea : args.map ev = us at hv
        obtain ⟨us⟩ := us
        cases hfv with
        | func fn h1 h2 hfn =>
          rename_i us1 vs1
          refine ⟨⟨.fn (.func g) ⟨vs1⟩, ⟨us1⟩ ++ ⟨us⟩⟩, ?_, ?_⟩
          · simp only [execOp, resolve, hef, hea, Deferred.ofValue]; rfl
          · have := DefR.call (ρ := ρ) (fn := .func g) h2 (h1.append hv) hfn
            simpa using this
    · simp at h

theorem callFunc_run {P : Program} {F : FT} (hF : FOk P F) {g : FuncId} {fn : Func} (h : F g = some fn) (args : Array Value) (w : World) : (callFunc g args).run P w = .ok (.enter g args) w := by
  obtain ⟨h1, h2, h3⟩ := hF g fn h
  have h2' : ¬ fn.name = "runtime.NumGoroutine" := by simpa using h2
  have hn : ¬ fn.body = none := by intro e; rw [e] at h3; simp at h3
  simp [callFunc, h1, h2', hn]

end Go.AM
