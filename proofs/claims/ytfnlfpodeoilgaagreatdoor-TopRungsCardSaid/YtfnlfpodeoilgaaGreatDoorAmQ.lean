/- The abstract machine, part Q: what the evaluator does, the machine does: operations, calls, rounds. No condition. -/
import Derived.Test.YtfnlfpodeoilgaaGreatDoorAmP
set_option linter.all false
noncomputable section
namespace Go.AM
open Go.RowKit (Below)

/-- Where code comes to. -/
inductive Lands : AExit → List Item → List Item → Prop
  | normal (k : List Item) : Lands .normal k k
  | exit {id : Nat} {k k' : List Item} (h : exitTo id k' = exitTo id k) : Lands (.exit id) k (.code (.exit id) :: k')
  | goto {l : Nat} {k k' : List Item} (h : gotoIn l k' = gotoIn l k) : Lands (.goto l) k (.code (.goto l) :: k')
  | ret {k k' : List Item} : Lands .ret k (.code .ret :: k')

inductive RoundR (ρ : Ren) : Option Nat → Option Nat → Prop
  | none : RoundR ρ none none
  | some {id l κ : Nat} (h : ρ id 0 = some (l, κ)) : RoundR ρ (some id) (some l)

theorem RoundR.mono {ρ ρ' : Ren} (hle : ρ.le ρ') {a b} (h : RoundR ρ a b) : RoundR ρ' a b := by
  cases h with
  | none => exact .none
  | some h => exact .some (hle _ _ _ h)

structure FrR (ρ : Ren) (cx : Cx) (b : FB) (f : Fr) (tm : Array Value) (ds : List Deferred) : Prop where
  env : EnvR ρ f.env cx.n tm
  defs : DefsR ρ f.defs ds
  fn : b.fn = cx.fn
  round : RoundR ρ cx.round b.round

theorem FrR.mono {ρ ρ' : Ren} (hle : ρ.le ρ') {cx b f tm ds} (h : FrR ρ cx b f tm ds) : FrR ρ' cx b f tm ds :=
  ⟨h.env.mono hle, h.defs.mono hle, h.fn, h.round.mono hle⟩

/-- A function has returned. -/
structure Gone (P : Program) (kind : CallKind) (fr : Frame) (w : World) (v : Value) : Prop where
  mode : fr.mode = .returning
  defers : fr.defers = []
  kind : fr.kind = kind
  fn : ∃ fn, P.funcs[fr.fn]? = some fn ∧ (results fn fr.tmps).run P w = .ok v w

structure Sound (P : Program) (G : Globs) (F : FT) (B : Nat) (r : Rec) : Prop where
  fn : ∀ g args s x, r.call g args s = some x → ∃ fn, F g = some fn
  code : ∀ c cx f s e f' s', r.code c cx f s = some (e, f', s') → ∀ ρ w b tm ds k cs, Rel G B ρ s w → FrR ρ cx b f tm ds →
    ∃ ρ' w' tm' ds' k', Steps P (lone (fat b tm ds (.code c :: k)) cs w) (lone (fat b tm' ds' k') cs w') ∧ Lands e k k' ∧ Rel G B ρ' s' w' ∧ FrR ρ' cx b f' tm' ds' ∧ Ext B ρ s w ρ' s' w'
  scope : ∀ sc c cx f s e f' s', r.scope sc c cx f s = some (e, f', s') → ∀ ρ w b tm ds k cs, Rel G B ρ s w → FrR ρ cx b f tm ds →
    ∃ ρ' w' tm' ds' k', Steps P (lone (fat b tm ds (.code c :: .inScope sc :: k)) cs w) (lone (fat b tm' ds' k') cs w') ∧ Lands e k k' ∧ Rel G B ρ' s' w' ∧ FrR ρ' cx b f' tm' ds' ∧ Ext B ρ s w ρ' s' w'
  call : ∀ g args s v s', r.call g args s = some (v, s') → ∀ ρ w (as : Array Value) kind cs, Rel G B ρ s w → VRs ρ args as.toList →
    ∃ ρ' w' fr u, Steps P (lone (Frame.enter P g as kind) cs w) (lone fr cs w') ∧ Gone P kind fr w' u ∧ fr.fn = g ∧ VR ρ' v u ∧ Rel G B ρ' s' w' ∧ Ext B ρ s w ρ' s' w'
  loop : ∀ c cx f s e f' s', r.loop c cx f s = some (e, f', s') → ∀ ρ w b tm ds k cs, Rel G B ρ s w → FrR ρ cx b f tm ds →
    ∃ ρ' w' tm' ds' k', Steps P (lone (fat b tm ds (.code c :: .inLoop c :: k)) cs w) (lone (fat b tm' ds' k') cs w') ∧ Lands e k k' ∧ Rel G B ρ' s' w' ∧ FrR ρ' cx b f' tm' ds' ∧ Ext B ρ s w ρ' s' w'

theorem putEnv_spec {ρ : Ren} {n : Nat} {env env' : Tr AV} {dst : Option Tmp} {v : AV} {u : Value} {tm : Array Value} (h : putEnv n env dst v = some env') (he : EnvR ρ env n tm) (hv : VR ρ v u) :
    EnvR ρ env' n (putT tm dst u) := by
  unfold putEnv at h
  cases dst with
  | none => simp at h; subst h; exact he
  | some d =>
    simp only at h
    cases hb : d.blt n <;> rw [hb] at h <;> simp only at h
    · simp at h
    · have hd := blt_lt hb
      have hset : env.set d v = env' := by
        cases hs : env.set d v <;> rw [hs] at h <;> simp at h
        exact h
      subst hset
      refine ⟨by simp [putT, he.1], fun t x hx => ?_⟩
      rw [Tr.get_set] at hx
      split at hx
      · rename_i hdt; subst hdt; simp at hx; subst hx
        exact ⟨u, by simp [putT, he.1, hd], hv⟩
      · rename_i hdt
        obtain ⟨q, hq, hr⟩ := he.2 t x hx
        exact ⟨q, by simp only [putT]; rw [Array.getElem?_setIfInBounds_ne hdt]; exact hq, hr⟩

theorem setArgs_spec {ρ : Ren} {n : Nat} : ∀ (ts : List Tmp) (vs : List AV) (env env' : Tr AV) (us : List Value) (tm : Array Value), setArgs n env ts vs = some env' → EnvR ρ env n tm → VRs ρ vs us →
    ts.length = us.length ∧ EnvR ρ env' n ((ts.zip us).foldl (fun tm (p : Tmp × Value) => tm.setIfInBounds p.1 p.2) tm)
  | [], [], env, env', _, tm, h, he, .nil => by simp [setArgs] at h; subst h; exact ⟨rfl, he⟩
  | [], _ :: _, _, _, _, _, h, _, _ => by simp [setArgs] at h
  | _ :: _, [], _, _, _, _, h, _, _ => by simp [setArgs] at h
  | t :: ts, v :: vs, env, env', _, tm, h, he, .cons hv hvs => by
    simp only [setArgs] at h
    cases hp : putEnv n env (some t) v with
    | none => rw [hp] at h; simp at h
    | some e1 =>
      rw [hp] at h; simp only at h
      obtain ⟨h1, h2⟩ := setArgs_spec ts vs e1 env' _ _ h (putEnv_spec hp he hv) hvs
      exact ⟨by simp [h1], by simpa [putT] using h2⟩

theorem Rel.loop {G B ρ s w} (h : Rel G B ρ s w) {id l κ : Nat} {L : ALoop} (hm : ρ id 0 = some (l, κ)) (ho : s.heap.get id = some (.loop L)) :
    ∃ r, w.heap[l]? = some (.loop r) ∧ LoopR ρ L r := by
  obtain ⟨_, _, o, c, ho', hc, hO⟩ := h.obj _ _ _ _ hm
  rw [ho] at ho'; cases ho'
  obtain ⟨_, r, rfl, hr⟩ := hO
  exact ⟨r, hc, hr⟩

theorem Rel.putLoop {G B ρ s w} (h : Rel G B ρ s w) {id l κ : Nat} {L L' : ALoop} {r' : Loop} (hm : ρ id 0 = some (l, κ)) (ho : s.heap.get id = some (.loop L)) (hr : LoopR ρ L' r') :
    Rel G B ρ (s.put id (.loop L')) { w with heap := w.heap.setIfInBounds l (.loop r') } ∧ Ext B ρ s w ρ (s.put id (.loop L')) { w with heap := w.heap.setIfInBounds l (.loop r') } :=
  h.write1 hm ho (fun _ _ _ hO => hO.1) ⟨rfl, r', rfl, hr⟩

section
variable {P : Program} {T : TT} {G : Globs} {F : FT} {B : Nat}

/-- A round. -/
theorem yield_sound {r : Rec} (hr : Sound P G F B r) {id : Nat} {args : List AV} {s s' : St} {v : AV} (h : doYield r id args s = some (v, s')) {ρ : Ren} {w : World} {l κ : Nat} {ws : List Value} {c : Frame} {cs : List Frame}
    (hR : Rel G B ρ s w) (hm : ρ id 0 = some (l, κ)) (ha : VRs ρ args ws) :
    ∃ g tms as body w0, (Instr.yield l ⟨ws⟩).run P w = .ok (.round l g tms as body) w ∧ w0 = w ∧
      ∃ ρ' w' u, Steps P (lone (fat ⟨g, .normal, some l⟩ tms [] [.code as, .beginRound, .code body]) (c :: cs) w) (lone (c.finish u) cs w') ∧ VR ρ' v u ∧ Rel G B ρ' s' w' ∧ Ext B ρ s w ρ' s' w' := by
  unfold doYield at h
  cases ho : s.heap.get id with
  | none => rw [ho] at h; simp at h
  | some o =>
    rw [ho] at h
    cases o <;> simp only at h <;> try (simp at h; done)
    rename_i L
    obtain ⟨lc, l1, l2⟩ := hR.loop hm ho
    cases hsa : setArgs L.n L.env L.params.toList args with
    | none => rw [hsa] at h; simp at h
    | some env =>
      rw [hsa] at h; simp only at h
      obtain ⟨a1, a2⟩ := setArgs_spec _ _ _ _ _ _ hsa l2.tmps ha
      have hyr : (Instr.yield l ⟨ws⟩).run P w = .ok (.round l lc.fn ((lc.params.zip ⟨ws⟩).foldl (fun tmps (t, a) => tmps.setIfInBounds t a) lc.tmps) lc.assign lc.body) w := by
        have hsz : ¬ (⟨ws⟩ : Array Value).size ≠ lc.params.size := by
          rw [l2.params]; simp at a1 ⊢; omega
        simp only [Instr.yield, Instr.getLoop, getObj, bind, Sem.bind, Sem.run, l1, pure, if_neg hsz]
      refine ⟨_, _, _, _, w, hyr, rfl, ?_⟩
      have htm : (lc.params.zip ⟨ws⟩).foldl (fun tmps (t, a) => tmps.setIfInBounds t a) lc.tmps = (L.params.toList.zip ws).foldl (fun tm (p : Tmp × Value) => tm.setIfInBounds p.1 p.2) lc.tmps := by
        rw [l2.params, ← Array.foldl_toList]; simp
      rw [htm]
      have hfr : FrR ρ ⟨L.n, L.fn, some id⟩ ⟨lc.fn, .normal, some l⟩ ⟨env, []⟩ ((L.params.toList.zip ws).foldl (fun tm (p : Tmp × Value) => tm.setIfInBounds p.1 p.2) lc.tmps) [] :=
        ⟨a2, .nil, l2.fn, .some hm⟩
      cases hca : r.code L.assign ⟨L.n, L.fn, some id⟩ ⟨env, []⟩ s with
      | none => rw [hca] at h; simp at h
      | some q =>
        obtain ⟨e, f1, s1⟩ := q
        rw [hca] at h
        cases e <;> simp only at h <;> try (simp at h; done)
        obtain ⟨ρ1, w1, tm1, ds1, k1, c1, c2, c3, c4, c5⟩ := hr.code _ _ _ _ _ _ _ hca ρ w ⟨lc.fn, .normal, some l⟩ _ [] [.beginRound, .code lc.body] (c :: cs) hR hfr
        rw [← l2.assign] at c1
        cases c2
        cases ho1 : s1.heap.get id with
        | none => rw [ho1] at h; simp at h
        | some o1 =>
          rw [ho1] at h
          cases o1 <;> simp only at h <;> try (simp at h; done)
          rename_i L1
          have hm1 := c5.le _ _ _ hm
          obtain ⟨lc1, m1, m2⟩ := c3.loop hm1 ho1
          cases hrd : isReady L1.state <;> rw [hrd] at h <;> simp only at h
          · simp at h
          have hst : lc1.state = .ready := by
            rw [m2.state]; cases hs : L1.state <;> rw [hs] at hrd <;> simp [isReady] at hrd
          have hbr := st_beginRound (P := P) (b := ⟨lc.fn, .normal, some l⟩) (tm := tm1) (ds := ds1) (k := [.code lc.body]) (cs := c :: cs) (w := w1) rfl m1 hst
          have hl2 : LoopR ρ1 (L1.with .busy L1.pending) { lc1 with state := .busy } := ⟨rfl, m2.pending, m2.fn, m2.tmps, m2.params, m2.assign, m2.body, m2.dfr⟩
          obtain ⟨p1, p2⟩ := c3.putLoop hm1 ho1 hl2
          cases hcb : r.code L.body ⟨L.n, L.fn, some id⟩ f1 (s1.put id (.loop (L1.with .busy L1.pending))) with
          | none => rw [hcb] at h; simp at h
          | some q =>
            obtain ⟨e, f2, s2⟩ := q
            rw [hcb] at h; simp only at h
            obtain ⟨ρ2, w2, tm2, ds2, k2, d1, d2, d3, d4, d5⟩ := hr.code _ _ _ _ _ _ _ hcb ρ1 _ ⟨lc.fn, .normal, some l⟩ tm1 ds1 [] (c :: cs) p1 (by exact c4)
            rw [← l2.body] at d1
            cases ho2 : s2.heap.get id with
            | none => rw [ho2] at h; simp at h
            | some o2 =>
              rw [ho2] at h
              cases o2 <;> simp only at h <;> try (simp at h; done)
              rename_i L2
              have hm2 := d5.le _ _ _ hm1
              obtain ⟨lc2, n1, n2⟩ := d3.loop hm2 ho2
              have hsteps : Steps P (lone (fat ⟨lc.fn, .normal, some l⟩ ((L.params.toList.zip ws).foldl (fun tm (p : Tmp × Value) => tm.setIfInBounds p.1 p.2) lc.tmps) [] [.code lc.assign, .beginRound, .code lc.body]) (c :: cs) w)
                  (lone (fat ⟨lc.fn, .normal, some l⟩ tm2 ds2 k2) (c :: cs) w2) := c1.trans (.head hbr d1)
              have hext := c5.trans (p2.trans d5)
              have fin : ∀ (jump : Option Code) (L' : ALoop), L' = L2.with (if jump.isNone then .ready else .done) jump →
                  ((k2 = [] ∧ jump = none) ∨ (∃ k', k2 = .code .ret :: k' ∧ jump = some .ret) ∨ (∃ id k', k2 = .code (.exit id) :: k' ∧ exitTo id k' = none ∧ jump = some (.exit id)) ∨
                    (∃ id k', k2 = .code (.goto id) :: k' ∧ gotoIn id k' = none ∧ jump = some (.goto id))) →
                  ∃ ρ' w' u, Steps P (lone (fat ⟨lc.fn, .normal, some l⟩ ((L.params.toList.zip ws).foldl (fun tm (p : Tmp × Value) => tm.setIfInBounds p.1 p.2) lc.tmps) [] [.code lc.assign, .beginRound, .code lc.body]) (c :: cs) w) (lone (c.finish u) cs w') ∧
                    u = .bool jump.isNone ∧ Rel G B ρ' (s2.put id (.loop L')) w' ∧ Ext B ρ s w ρ' (s2.put id (.loop L')) w' := by
                intro jump L' hL' ht
                have he := st_endRound (P := P) (b := ⟨lc.fn, .normal, some l⟩) (tm := tm2) (ds := ds2) (cs := cs) (c := c) (w := w2) rfl rfl n1 ht
                have hl3 : LoopR ρ2 L' { lc2 with state := if jump.isNone then .ready else .done, pending := jump } := by
                  subst hL'; exact ⟨rfl, rfl, n2.fn, n2.tmps, n2.params, n2.assign, n2.body, n2.dfr⟩
                obtain ⟨q1, q2⟩ := d3.putLoop hm2 ho2 hl3
                exact ⟨ρ2, _, _, hsteps.trans (.one he), rfl, q1, hext.trans q2⟩
              cases d2 with
              | normal =>
                simp only [jumpOf, Option.some.injEq, Prod.mk.injEq] at h
                obtain ⟨rfl, rfl⟩ := h
                obtain ⟨ρ', w', u, f1, rfl, f3, f4⟩ := fin none _ rfl (.inl ⟨rfl, rfl⟩)
                exact ⟨ρ', w', _, f1, .bool _, f3, f4⟩
              | exit hx =>
                simp only [jumpOf, Option.some.injEq, Prod.mk.injEq] at h
                obtain ⟨rfl, rfl⟩ := h
                obtain ⟨ρ', w', u, f1, rfl, f3, f4⟩ := fin (some _) _ rfl (.inr (.inr (.inl ⟨_, _, rfl, by rw [hx]; rfl, rfl⟩)))
                exact ⟨ρ', w', _, f1, .bool _, f3, f4⟩
              | goto hx =>
                simp only [jumpOf, Option.some.injEq, Prod.mk.injEq] at h
                obtain ⟨rfl, rfl⟩ := h
                obtain ⟨ρ', w', u, f1, rfl, f3, f4⟩ := fin (some _) _ rfl (.inr (.inr (.inr ⟨_, _, rfl, by rw [hx]; rfl, rfl⟩)))
                exact ⟨ρ', w', _, f1, .bool _, f3, f4⟩
              | ret =>
                simp only [jumpOf, Option.some.injEq, Prod.mk.injEq] at h
                obtain ⟨rfl, rfl⟩ := h
                obtain ⟨ρ', w', u, f1, rfl, f3, f4⟩ := fin (some _) _ rfl (.inr (.inl ⟨_, rfl, rfl⟩))
                exact ⟨ρ', w', _, f1, .bool _, f3, f4⟩
end
end Go.AM
