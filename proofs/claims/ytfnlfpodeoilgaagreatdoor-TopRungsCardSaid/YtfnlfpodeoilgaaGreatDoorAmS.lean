/- The abstract machine, part S: code, calls, loops over functions; all but regions that draw their order. No condition. -/
import Derived.Test.YtfnlfpodeoilgaaGreatDoorAmR
set_option linter.all false
noncomputable section
namespace Go.AM
open Go.RowKit (Below)

/-- What is asked of regions that draw their order. -/
def DrawSound (P : Program) (T : TT) (G : Globs) (F : FT) (B : Nat) : Prop :=
  ∀ r, Sound P G F B r → ∀ cx (ops : Array Oper) f s e f' s', region T G r cx ops.toList true f s = some (e, f', s') → ∀ ρ w b tm ds k cs id, Rel G B ρ s w → FrR ρ cx b f tm ds →
    ∃ ρ' w' tm' ds' k', Steps P (lone (fat b tm ds (.code (.region id ops true) :: k)) cs w) (lone (fat b tm' ds' k') cs w') ∧ Lands e k k' ∧ Rel G B ρ' s' w' ∧ FrR ρ' cx b f' tm' ds' ∧ Ext B ρ s w ρ' s' w'

theorem Lands.pass {e : AExit} {x : Item} {k k' : List Item} (he : e ≠ .normal) (hx : x.plain = true) (h : Lands e (x :: k) k') : Lands e k k' := by
  cases h with
  | normal => exact absurd rfl he
  | exit h => exact .exit (h.trans (by cases x <;> simp_all [exitTo, Item.plain]))
  | goto h => exact .goto (h.trans (by cases x <;> simp_all [gotoIn, Item.plain]))
  | ret => exact .ret

section
variable {P : Program} {T : TT} (hT : TOk P T) {G : Globs} {F : FT} (hF : FOk P F) {B : Nat}
include hT hF

/-- The deferred calls. -/
theorem unwind_sound {r : Rec} (hr : Sound P G F B r) : ∀ (n : Nat) (ds : List ADef) (s s' : St), unwind r n ds s = some s' → ∀ (ρ : Ren) (w : World) (fr : Frame) (cs : List Frame) (es : List Deferred),
    Rel G B ρ s w → DefsR ρ ds es → fr.mode = .returning → fr.defers = es →
    ∃ ρ' w', Steps P (lone fr cs w) (lone { fr with defers := [] } cs w') ∧ Rel G B ρ' s' w' ∧ Ext B ρ s w ρ' s' w'
  | 0, ds, s, s', h, _, _, _, _, _, _, _, _, _ => by simp [unwind] at h
  | n + 1, ds, s, s', h, ρ, w, fr, cs, es, hR, hds, hm, hd => by
    simp only [unwind] at h
    cases hds with
    | nil =>
      simp at h; subst h
      have : { fr with defers := [] } = fr := by rw [← hd]
      exact ⟨ρ, w, by rw [this]; exact .refl _ _, hR, .refl ..⟩
    | @cons x d xs ds' hx hxs =>
      cases hx with
      | @call fn cap args cap' args' hc ha hf =>
        simp only at h
        cases fn <;> simp only at h <;> try (simp at h; done)
        rename_i g
        cases hcall : r.call g (args ++ cap) s with
        | none => rw [hcall] at h; simp at h
        | some q =>
          obtain ⟨v, s1⟩ := q
          rw [hcall] at h; simp only at h
          obtain ⟨fn, hfn⟩ := hr.fn _ _ _ _ hcall
          have hi : (invoke (.fn (.func g) ⟨cap'⟩) ⟨args'⟩).run P w = .ok (.enter g (⟨args'⟩ ++ ⟨cap'⟩)) w := by
            simp only [invoke]; exact callFunc_run hF hfn _ w
          obtain ⟨ρ1, w1, fr1, u, c1, c2, _, c4, c5, c6⟩ := hr.call _ _ _ _ _ hcall ρ w (⟨args'⟩ ++ ⟨cap'⟩) .deferred ({ fr with defers := ds' } :: cs) hR (by simpa using ha.append hc)
          have s1' := st_deferred (P := P) (cs := cs) (w := w) (fr := fr) hm hd hi
          have s2' := st_deferredBack (P := P) (c := { fr with defers := ds' }) (cs := cs) c2.mode c2.defers c2.kind c2.fn hm
          obtain ⟨ρ2, w2, d1, d2, d3⟩ := unwind_sound hr n xs s1 s' h ρ1 w1 { fr with defers := ds' } cs ds' c5 (hxs.mono c6.le) hm rfl
          exact ⟨ρ2, w2, .head s1' (c1.trans (.head s2' d1)), d2, c6.trans d3⟩
      | @collected id b κ hid =>
        simp only at h
        cases ho : s.heap.get id with
        | none => rw [ho] at h; simp at h
        | some o =>
          rw [ho] at h
          cases o <;> (try simp only at h) <;> try (simp at h; done)
          rename_i dsx
          cases dsx with
          | none => simp at h
          | some es1 =>
            simp only at h
            obtain ⟨_, _, o, c, ho', hc, hO⟩ := hR.obj _ _ _ _ hid
            rw [ho] at ho'; cases ho'
            obtain ⟨_, ds1, rfl, hE⟩ := hO
            obtain ⟨p1, p2⟩ := hR.write1 (o' := .dfr none) (c' := .deferred none) hid ho (fun m _ _ hO => hO.1) ⟨rfl, rfl⟩
            have st := st_collected (P := P) (cs := cs) hm hd hc
            obtain ⟨ρ2, w2, d1, d2, d3⟩ := unwind_sound hr n (es1 ++ xs) _ s' h ρ _ { fr with defers := ds1 ++ ds' } cs (ds1 ++ ds') p1 (hE.append hxs) hm rfl
            exact ⟨ρ2, w2, .head st d1, d2, p2.trans d3⟩

omit hF in
theorem results_sound {ρ : Ren} {s : St} {w : World} (hR : Rel G B ρ s w) {env : Tr AV} {n : Nat} {tm : Array Value} (he : EnvR ρ env n tm) : ∀ (rs : List ResultVar) (l : List AV), aresults T G env s rs = some l →
    ∃ vs, (rs.mapM fun (r : ResultVar) => match r with
      | .tmp t => pure (tm.getD t undef)
      | .cell a t => do loadVar t (← asAddr (tm.getD a undef))).run P w = .ok vs w ∧ VRs ρ l vs
  | [], l, h => by simp [aresults] at h; subst h; exact ⟨[], by simp, .nil⟩
  | v :: rs, l, h => by
    simp only [aresults] at h
    cases v with
    | tmp t =>
      simp only at h
      cases hx : env.get t with
      | none => rw [hx] at h; simp at h
      | some x =>
        rw [hx] at h; simp only at h
        cases hl : aresults T G env s rs with
        | none => rw [hl] at h; simp at h
        | some xs =>
          rw [hl] at h; simp at h; subst h
          obtain ⟨u, hu, hv⟩ := he.2 t x hx
          obtain ⟨vs, h1, h2⟩ := results_sound hR he rs xs hl
          refine ⟨u :: vs, ?_, .cons hv h2⟩
          have hg : tm.getD t undef = u := by simp [Array.getD_eq_getD_getElem?, hu]
          simp only [List.mapM_cons, Sem.run_bind, Sem.run_pure, Result.andThen_ok, h1, hg]
    | cell a t =>
      simp only at h
      cases hx : env.get a with
      | none => rw [hx] at h; simp at h
      | some x =>
        rw [hx] at h; simp only at h
        cases hy : aload T G s t x with
        | none => rw [hy] at h; simp at h
        | some y =>
          rw [hy] at h; simp only at h
          cases hl : aresults T G env s rs with
          | none => rw [hl] at h; simp at h
          | some xs =>
            rw [hl] at h; simp at h; subst h
            obtain ⟨u, hu, hv⟩ := he.2 a x hx
            obtain ⟨ad, q, rfl, q1, q2⟩ := aload_var (P := P) hT hR hy hv
            obtain ⟨vs, h1, h2⟩ := results_sound hR he rs xs hl
            refine ⟨q :: vs, ?_, .cons q2 h2⟩
            have hg : tm.getD a undef = .pointer (some ad) := by simp [Array.getD_eq_getD_getElem?, hu]
            have hq : (asAddr (.pointer (some ad)) : Sem Addr).run P w = .ok ad w := rfl
            simp only [List.mapM_cons, Sem.run_bind, Sem.run_pure, Result.andThen_ok, h1, hg, hq, q1]

omit hT hF in
theorem retVal_sound {ρ : Ren} {l : List AV} {vs : List Value} (h : VRs ρ l vs) : VR ρ (retVal l) (if h : (⟨vs⟩ : Array Value).size = 1 then (⟨vs⟩ : Array Value)[0] else .tuple ⟨vs⟩) := by
  cases h with
  | nil => simpa [retVal] using VR.tuple (.nil)
  | cons h1 t =>
    cases t with
    | nil => simpa [retVal] using h1
    | cons h2 t => simpa [retVal] using VR.tuple (.cons h1 (.cons h2 t))

omit hT hF in
theorem setArgs_enter {ρ : Ren} {n : Nat} {args : List AV} {us : List Value} {env : Tr AV} (h : setArgs n .leaf (List.range args.length) args = some env) (hv : VRs ρ args us) (hle : args.length ≤ n) :
    EnvR ρ env n ((⟨us⟩ : Array Value) ++ Array.replicate (n - us.length) undef) := by
  have hl := hv.length
  have gen : ∀ (k : Nat) (as : List AV) (e e' : Tr AV) (vs : List Value) (tm : Array Value), setArgs n e (List.range' k as.length) as = some e' → VRs ρ as vs → EnvR ρ e n tm → tm.size = n →
      (∀ i v, us[i]? = some v → k ≤ i → vs[i - k]? = some v) → (∀ i v, vs[i]? = some v → us[k + i]? = some v) → (∀ t x, e.get t = some x → ∃ v, us[t]? = some v ∧ VR ρ x v) →
      ∀ t x, e'.get t = some x → ∃ v, us[t]? = some v ∧ VR ρ x v := by
    intro k as
    induction as generalizing k with
    | nil =>
      intro e e' vs tm h _ _ _ _ _ h3
      simp [setArgs] at h; subst h; exact h3
    | cons a as ih =>
      intro e e' vs tm h hv he hs h1 h2 h3
      cases hv with
      | @cons _ v _ vs hva hvas =>
        rw [show List.range' k (a :: as).length = k :: List.range' (k + 1) as.length from by simp [List.range'_succ]] at h
        simp only [setArgs] at h
        cases hp : putEnv n e (some k) a with
        | none => rw [hp] at h; simp at h
        | some e1 =>
          rw [hp] at h; simp only at h
          have hset : e.set k a = e1 := by
            unfold putEnv at hp
            simp only at hp
            cases hb : k.blt n <;> rw [hb] at hp <;> simp only at hp
            · simp at hp
            · cases hq : e.set k a <;> rw [hq] at hp <;> simp at hp
              exact hp
          have hvk : us[k]? = some v := by have := h2 0 v rfl; simpa using this
          refine ih (k + 1) e1 e' vs (putT tm (some k) v) h hvas (putEnv_spec hp he hva) (by simp [putT, hs]) ?_ ?_ ?_
          · intro i u hu hi
            have := h1 i u hu (by omega)
            have e2 : i - k = (i - (k + 1)) + 1 := by omega
            rw [e2] at this; simpa using this
          · intro i u hu
            have := h2 (i + 1) u (by simpa using hu)
            rw [← this]; congr 1; omega
          · intro t x hx
            rw [← hset, Tr.get_set] at hx
            split at hx
            · rename_i hkt; subst hkt; simp at hx; subst hx; exact ⟨v, hvk, hva⟩
            · exact h3 t x hx
  have key := gen 0 args .leaf env us (Array.replicate n undef) (by rw [← List.range_eq_range']; exact h) hv ⟨by simp, fun t x hx => by rw [Tr.get_leaf] at hx; simp at hx⟩ (by simp)
    (fun i v hv _ => by simpa using hv) (fun i v hv => by simpa using hv) (fun t x hx => by rw [Tr.get_leaf] at hx; simp at hx)
  refine ⟨by simp; omega, fun t x hx => ?_⟩
  obtain ⟨v, h1, h2⟩ := key t x hx
  have hlt : t < us.length := (List.getElem?_eq_some_iff.1 h1).1
  exact ⟨v, by rw [Array.getElem?_append_left (by simpa using hlt)]; simpa using h1, h2⟩

theorem call_step {r : Rec} (hr : Sound P G F B r) : ∀ g args s v s', callStep T G F r g args s = some (v, s') → ∀ ρ w (as : Array Value) kind cs, Rel G B ρ s w → VRs ρ args as.toList →
    ∃ ρ' w' fr u, Steps P (lone (Frame.enter P g as kind) cs w) (lone fr cs w') ∧ Gone P kind fr w' u ∧ fr.fn = g ∧ VR ρ' v u ∧ Rel G B ρ' s' w' ∧ Ext B ρ s w ρ' s' w' := by
  intro g args s v s' h ρ w as kind cs hR hv
  unfold callStep at h
  cases hfg : F g with
  | none => rw [hfg] at h; simp at h
  | some fn =>
    rw [hfg] at h; simp only at h
    obtain ⟨f1, f2, f3⟩ := hF g fn hfg
    cases hb : fn.body with
    | none => rw [hb] at h; simp at h
    | some c =>
      rw [hb] at h; simp only at h
      cases hn : args.length.ble fn.ntmps <;> rw [hn] at h <;> simp only at h
      · simp at h
      have hn := Nat.le_of_ble_eq_true hn
      cases hs : setArgs fn.ntmps .leaf (List.range args.length) args with
      | none => rw [hs] at h; simp at h
      | some env =>
        rw [hs] at h; simp only at h
        have hlen := hv.length
        have he : EnvR ρ env fn.ntmps (as ++ Array.replicate (fn.ntmps - as.size) undef) := by
          have := setArgs_enter hs hv hn
          simpa using this
        have henter : Frame.enter P g as kind = fat ⟨g, kind, none⟩ (as ++ Array.replicate (fn.ntmps - as.size) undef) [] [.code c] := by
          simp [Frame.enter, fat, f1, hb]
        cases hc : r.code c ⟨fn.ntmps, g, none⟩ ⟨env, []⟩ s with
        | none => rw [hc] at h; simp at h
        | some q =>
          obtain ⟨e, f, s1⟩ := q
          rw [hc] at h; simp only at h
          obtain ⟨ρ1, w1, tm1, ds1, k1, c1, c2, c3, c4, c5⟩ := hr.code _ _ _ _ _ _ _ hc ρ w ⟨g, kind, none⟩ _ [] [] cs hR ⟨he, .nil, rfl, .none⟩
          have hret : ∃ todo, Steps P (lone (Frame.enter P g as kind) cs w) (lone { fat ⟨g, kind, none⟩ tm1 ds1 todo with mode := .returning } cs w1) := by
            rw [henter]
            cases c2 with
            | normal => exact ⟨[], c1.trans (.one (st_end rfl))⟩
            | ret => exact ⟨_, c1.trans (.one (st_ret rfl))⟩
            | exit => simp at h
            | goto => simp at h
          replace h : (match unwind r 1000 f.defs s1 with
              | none => none
              | some s₂ => match aresults T G f.env s₂ fn.results.toList with
                | none => none
                | some l => some (retVal l, s₂)) = some (v, s') := by
            cases e <;> first | (simp at h; done) | exact h
          obtain ⟨todo, hret⟩ := hret
          cases hu : unwind r 1000 f.defs s1 with
          | none => simp [hu] at h
          | some s2 =>
            rw [hu] at h; simp only at h
            obtain ⟨ρ2, w2, d1, d2, d3⟩ := unwind_sound hT hF hr 1000 f.defs s1 s2 hu ρ1 w1 { fat ⟨g, kind, none⟩ tm1 ds1 todo with mode := .returning } cs ds1 c3 c4.defs rfl rfl
            cases hl : aresults T G f.env s2 fn.results.toList with
            | none => rw [hl] at h; simp at h
            | some l =>
              rw [hl] at h; simp at h; obtain ⟨rfl, rfl⟩ := h
              obtain ⟨vs, r1, r2⟩ := results_sound (P := P) hT d2 (c4.env.mono d3.le) fn.results.toList l hl
              refine ⟨ρ2, w2, _, _, hret.trans d1, ⟨rfl, rfl, rfl, fn, f1, ?_⟩, rfl, retVal_sound r2, d2, c5.trans d3⟩
              simp only [results, Array.mapM_eq_mapM_toList, Sem.run_bind, Sem.run_map]
              erw [r1]
              simp

/-- A loop over a function. -/
theorem range_step {r : Rec} (hr : Sound P G F B r) : ∀ cx fo params as body f s e f' s', rangeF r cx fo params as body f s = some (e, f', s') → ∀ ρ w b tm ds k cs, Rel G B ρ s w → FrR ρ cx b f tm ds →
    ∃ ρ' w' tm' ds' k', Steps P (lone (fat b tm ds (.code (.rangeFunc fo params as body) :: k)) cs w) (lone (fat b tm' ds' k') cs w') ∧ Lands e k k' ∧ Rel G B ρ' s' w' ∧ FrR ρ' cx b f' tm' ds' ∧ Ext B ρ s w ρ' s' w' := by
  intro cx fo params as body f s e f' s' h ρ w b tm ds k cs hR hfr
  unfold rangeF at h
  cases hfv : opd f.env fo with
  | none => rw [hfv] at h; simp at h
  | some fv =>
    rw [hfv] at h; simp only at h
    -- the loop is laid
    have enter : ∀ (d : Nat) (defs1 : List ADef) (s1 : St), rangeOpen cx f s = some (d, defs1, s1) →
        ∃ (ρ2 : Ren) (w2 : World) (l : Nat) (mark : List Deferred) (κ : Nat),
          (Instr.enterLoop b.fn tm params as body b.round).run P w = .ok (l, mark) w2 ∧ ρ2 s1.ctr 0 = some (l, κ) ∧ DefsR ρ2 defs1 (mark ++ ds) ∧
          Rel G B ρ2 (s1.alloc (.loop ⟨.ready, none, cx.fn, f.env, cx.n, params, as, body, d⟩)) w2 ∧ Ext B ρ s w ρ2 (s1.alloc (.loop ⟨.ready, none, cx.fn, f.env, cx.n, params, as, body, d⟩)) w2 := by
      intro d defs1 s1 hd
      unfold rangeOpen at hd
      cases hround : cx.round with
      | none =>
        rw [hround] at hd
        simp at hd; obtain ⟨rfl, rfl, rfl⟩ := hd
        have hbr : b.round = none := by have := hfr.round; rw [hround] at this; exact this.none_of
        obtain ⟨p1, p2⟩ := hR.alloc (κ := 0) (o := .dfr (some [])) (c := .deferred (some [])) ⟨rfl, [], rfl, .nil⟩
        generalize hρ1 : ρ.add s.ctr 0 w.heap.size 0 = ρ1 at p1 p2
        have hdid : ρ1 s.ctr 0 = some (w.heap.size, 0) := by rw [← hρ1]; exact Ren.add_same ..
        have hLR : ∀ ρ3 : Ren, ρ1.le ρ3 → LoopR ρ3 ⟨.ready, none, cx.fn, f.env, cx.n, params, as, body, s.ctr⟩ ⟨.ready, none, b.fn, tm, params, as, body, w.heap.size⟩ := fun ρ3 hle =>
          ⟨rfl, rfl, hfr.fn, hfr.env.mono (p2.le.trans hle), rfl, rfl, rfl, 0, hle _ _ _ hdid⟩
        obtain ⟨q1, q2⟩ := p1.alloc (κ := 0) (o := .loop ⟨.ready, none, cx.fn, f.env, cx.n, params, as, body, s.ctr⟩) (c := .loop ⟨.ready, none, b.fn, tm, params, as, body, w.heap.size⟩)
          ⟨rfl, _, rfl, hLR _ (Ren.le_add (p1.fresh 0))⟩
        refine ⟨_, _, (w.heap.push (.deferred (some []))).size, [⟨.collected w.heap.size, #[]⟩], 0, ?_, Ren.add_same .., ?_, q1, p2.trans q2⟩
        · rw [hbr]
          simp [Instr.enterLoop, newObj, Sem.run, bind, Sem.bind, pure]
        · exact .cons (.collected (q2.le _ _ _ hdid)) (hfr.defs.mono (p2.le.trans q2.le))
      | some id =>
        rw [hround] at hd
        simp only at hd
        have hbr := hfr.round
        rw [hround] at hbr
        cases ho : s.heap.get id with
        | none => rw [ho] at hd; simp at hd
        | some o =>
          rw [ho] at hd
          cases o <;> simp only at hd <;> try (simp at hd; done)
          rename_i l0
          simp at hd; obtain ⟨rfl, rfl, rfl⟩ := hd
          generalize hbrr : b.round = br at hbr
          cases hbr with
          | @some _ l κ hm =>
            obtain ⟨lc, l1, l2⟩ := hR.loop hm ho
            obtain ⟨κd, hκd⟩ := l2.dfr
            have hLR : ∀ ρ3 : Ren, ρ.le ρ3 → LoopR ρ3 ⟨.ready, none, cx.fn, f.env, cx.n, params, as, body, l0.dfr⟩ ⟨.ready, none, b.fn, tm, params, as, body, lc.defers⟩ := fun ρ3 hle =>
              ⟨rfl, rfl, hfr.fn, hfr.env.mono hle, rfl, rfl, rfl, κd, hle _ _ _ hκd⟩
            obtain ⟨q1, q2⟩ := hR.alloc (κ := 0) (o := .loop ⟨.ready, none, cx.fn, f.env, cx.n, params, as, body, l0.dfr⟩) (c := .loop ⟨.ready, none, b.fn, tm, params, as, body, lc.defers⟩)
              ⟨rfl, _, rfl, hLR _ (Ren.le_add (hR.fresh 0))⟩
            refine ⟨_, _, w.heap.size, [], 0, ?_, Ren.add_same .., ?_, q1, q2⟩
            · simp [Instr.enterLoop, Instr.getLoop, getObj, newObj, Sem.run, bind, Sem.bind, pure, l1]
            · exact hfr.defs.mono q2.le
    cases hd : rangeOpen cx f s with
    | none => rw [hd] at h; simp at h
    | some q =>
      obtain ⟨d, defs1, s1⟩ := q
      rw [hd] at h; simp only at h
      obtain ⟨ρ2, w2, l, mark, κ, e1, e2, e3, e4, e5⟩ := enter d defs1 s1 hd
      cases hac : acallee fv [.yield s1.ctr] with
      | none => rw [hac] at h; simp at h
      | some c =>
        rw [hac] at h
        cases c <;> simp only at h <;> try (simp at h; done)
        rename_i g args
        have hfe := (hfr.env.opdR (mark ++ ds) fo fv hfv).mono e5.le
        obtain ⟨dd, g1, g2⟩ := acallee_spec (P := P) hac hfe (.cons (.yield e2) .nil) w2
        cases hcall : r.call g args (s1.alloc (.loop ⟨.ready, none, cx.fn, f.env, cx.n, params, as, body, d⟩)) with
        | none => rw [hcall] at h; simp at h
        | some q =>
          obtain ⟨v, s2⟩ := q
          rw [hcall] at h; simp only at h
          obtain ⟨fn, hfn⟩ := hr.fn _ _ _ _ hcall
          generalize hcc : ACall.enter g args = cc at g2
          cases g2 with
          | yield => cases hcc
          | @enter g' first captured args' us vs ws h1 h2 h3 =>
            cases hcc
            have hinv : (do let d ← resolve (Act.eval ⟨tm, mark ++ ds⟩) { callee := .value fo, args := #[.const (.func (.yield l) #[] #[])], argTypes := #[] } 0; invoke d.target d.args : Sem Next).run P w2 =
                .ok (.enter g (⟨us⟩ ++ ⟨ws⟩ ++ ⟨vs⟩)) w2 := by
              have g1' : (Deferred.ofValue (Act.eval ⟨tm, mark ++ ds⟩ fo) #[.func (.yield l) #[] #[]]).run P w2 = .ok ⟨.fn (.func g) ⟨vs⟩, ⟨us⟩ ++ ⟨ws⟩⟩ w2 := g1
              have hm : (#[Operand.const (.func (.yield l) #[] #[])] : Array Operand).map (Act.eval ⟨tm, mark ++ ds⟩) = #[.func (.yield l) #[] #[]] := by simp [Act.eval]
              simp only [resolve, Sem.run_bind, hm, g1', Result.andThen_ok, invoke]
              exact callFunc_run hF hfn _ w2
            obtain ⟨ρ3, w3, fr, u, c1, c2, _, c4, c5, c6⟩ := hr.call _ _ _ _ _ hcall ρ2 w2 (⟨us⟩ ++ ⟨ws⟩ ++ ⟨vs⟩) .normal (fat b tm (mark ++ ds) (.inRangeFunc l :: k) :: cs) e4 (by simpa using (h1.append h3).append h2)
            have st1 := st_rangeFunc (P := P) (b := b) (tm := tm) (ds := ds) (k := k) (cs := cs) (w := w) e1 hinv
            have st2 := st_return (P := P) (c := fat b tm (mark ++ ds) (.inRangeFunc l :: k)) (cs := cs) c2.mode c2.defers c2.kind c2.fn
            rw [fat_finish_range] at st2
            cases ho : s2.heap.get s1.ctr with
            | none => rw [ho] at h; simp at h
            | some o =>
              rw [ho] at h
              cases o <;> simp only at h <;> try (simp at h; done)
              rename_i L
              have hm3 := c6.le _ _ _ e2
              obtain ⟨lc, l1, l2⟩ := c5.loop hm3 ho
              cases hbz : isBusy L.state <;> rw [hbz] at h <;> simp only at h
              · cases hex : exitOf L.pending with
                | none => rw [hex] at h; simp at h
                | some e' =>
                  rw [hex] at h; simp at h; obtain ⟨rfl, rfl, rfl⟩ := h
                  have hnb : lc.state ≠ .busy := by rw [l2.state]; intro e; rw [e] at hbz; simp [isBusy] at hbz
                  have st3 := st_endRange (P := P) (b := b) (tm := tm) (ds := mark ++ ds) (k := k) (cs := cs) l1 hnb
                  have hLR : LoopR ρ3 (L.with .exhausted L.pending) { lc with state := .exhausted } := ⟨rfl, l2.pending, l2.fn, l2.tmps, l2.params, l2.assign, l2.body, l2.dfr⟩
                  obtain ⟨q1, q2⟩ := c5.putLoop hm3 ho hLR
                  refine ⟨ρ3, _, tm, mark ++ ds, (lc.pending.map Item.code).toList ++ k, .head st1 (c1.trans (.head st2 (.one st3))), ?_, q1,
                    ⟨hfr.env.mono (e5.le.trans c6.le), e3.mono c6.le, hfr.fn, hfr.round.mono (e5.le.trans c6.le)⟩, e5.trans (c6.trans q2)⟩
                  rw [l2.pending]
                  revert hex
                  generalize L.pending = pd
                  intro hex
                  cases pd with
                  | none => simp [exitOf] at hex; subst hex; exact .normal _
                  | some c =>
                    cases c <;> simp [exitOf] at hex <;> subst hex
                    · exact .exit rfl
                    · exact .goto rfl
                    · exact .ret
              · simp at h

theorem code_step (hdraw : DrawSound P T G F B) {r : Rec} (hr : Sound P G F B r) : ∀ c cx f s e f' s', codeStep T G r c cx f s = some (e, f', s') → ∀ ρ w b tm ds k cs, Rel G B ρ s w → FrR ρ cx b f tm ds →
    ∃ ρ' w' tm' ds' k', Steps P (lone (fat b tm ds (.code c :: k)) cs w) (lone (fat b tm' ds' k') cs w') ∧ Lands e k k' ∧ Rel G B ρ' s' w' ∧ FrR ρ' cx b f' tm' ds' ∧ Ext B ρ s w ρ' s' w' := by
  intro c cx f s e f' s' h ρ w b tm ds k cs hR hfr
  cases c with
  | skip => simp [codeStep] at h; obtain ⟨rfl, rfl, rfl⟩ := h; exact ⟨ρ, w, tm, ds, k, .one st_skip, .normal k, hR, hfr, .refl ..⟩
  | label l => simp [codeStep] at h; obtain ⟨rfl, rfl, rfl⟩ := h; exact ⟨ρ, w, tm, ds, k, .one st_label, .normal k, hR, hfr, .refl ..⟩
  | ret => simp [codeStep] at h; obtain ⟨rfl, rfl, rfl⟩ := h; exact ⟨ρ, w, tm, ds, _, .refl _ _, .ret, hR, hfr, .refl ..⟩
  | exit id => simp [codeStep] at h; obtain ⟨rfl, rfl, rfl⟩ := h; exact ⟨ρ, w, tm, ds, _, .refl _ _, .exit rfl, hR, hfr, .refl ..⟩
  | goto l => simp [codeStep] at h; obtain ⟨rfl, rfl, rfl⟩ := h; exact ⟨ρ, w, tm, ds, _, .refl _ _, .goto rfl, hR, hfr, .refl ..⟩
  | refuse w => simp [codeStep] at h
  | region id ops draw =>
    simp only [codeStep] at h
    cases draw with
    | true => exact hdraw r hr cx ops f s e f' s' h ρ w b tm ds k cs id hR hfr
    | false =>
      unfold region at h
      cases ho : opsRun T G r cx ops.toList ops.toList f.env f.defs s with
      | none => simp [ho] at h
      | some q =>
        obtain ⟨env, defs, s1⟩ := q
        simp [ho] at h; obtain ⟨rfl, rfl, rfl⟩ := h
        obtain ⟨ρ1, w1, tm1, ds1, c1, c2, c3, c4, c5⟩ := ops_sound hT hF hr (ops := ops) rfl (b := b) (k := k) (cs := cs) ops.toList 0 f.env env f.defs defs s s1 ρ w tm ds ho rfl hR hfr.env hfr.defs hfr.round
        refine ⟨ρ1, w1, tm1, ds1, k, .head st_region ?_, .normal k, c4, ⟨c2, c3, hfr.fn, hfr.round.mono c5.le⟩, c5⟩
        have : List.range ops.size = List.range' 0 ops.toList.length := by rw [List.range_eq_range']; simp
        rw [this]; exact c1
  | seq x y =>
    simp only [codeStep] at h
    cases hx : r.code x cx f s with
    | none => rw [hx] at h; simp at h
    | some q =>
      obtain ⟨e1, f1, s1⟩ := q
      rw [hx] at h
      obtain ⟨ρ1, w1, tm1, ds1, k1, c1, c2, c3, c4, c5⟩ := hr.code _ _ _ _ _ _ _ hx ρ w b tm ds (.code y :: k) cs hR hfr
      cases e1 with
      | normal =>
        simp only at h
        cases c2
        obtain ⟨ρ2, w2, tm2, ds2, k2, d1, d2, d3, d4, d5⟩ := hr.code _ _ _ _ _ _ _ h ρ1 w1 b tm1 ds1 k cs c3 c4
        exact ⟨ρ2, w2, tm2, ds2, k2, .head st_seq (c1.trans d1), d2, d3, d4, c5.trans d5⟩
      | exit id => simp at h; obtain ⟨rfl, rfl, rfl⟩ := h; exact ⟨ρ1, w1, tm1, ds1, k1, .head st_seq c1, c2.pass (by simp) rfl, c3, c4, c5⟩
      | goto id => simp at h; obtain ⟨rfl, rfl, rfl⟩ := h; exact ⟨ρ1, w1, tm1, ds1, k1, .head st_seq c1, c2.pass (by simp) rfl, c3, c4, c5⟩
      | ret => simp at h; obtain ⟨rfl, rfl, rfl⟩ := h; exact ⟨ρ1, w1, tm1, ds1, k1, .head st_seq c1, c2.pass (by simp) rfl, c3, c4, c5⟩
  | cond c x y =>
    simp only [codeStep] at h
    cases hc : opd f.env c with
    | none => rw [hc] at h; simp at h
    | some q =>
      rw [hc] at h
      have hv := hfr.env.opdR ds c q hc
      generalize hev : Act.eval ⟨tm, ds⟩ c = u at hv
      cases hv <;> try (simp at h; done)
      rename_i t
      cases t with
      | true =>
        simp only at h
        obtain ⟨ρ1, w1, tm1, ds1, k1, c1, c2, c3, c4, c5⟩ := hr.code _ _ _ _ _ _ _ h ρ w b tm ds k cs hR hfr
        exact ⟨ρ1, w1, tm1, ds1, k1, .head (st_cond hev) (by simpa using c1), c2, c3, c4, c5⟩
      | false =>
        simp only at h
        obtain ⟨ρ1, w1, tm1, ds1, k1, c1, c2, c3, c4, c5⟩ := hr.code _ _ _ _ _ _ _ h ρ w b tm ds k cs hR hfr
        exact ⟨ρ1, w1, tm1, ds1, k1, .head (st_cond hev) (by simpa using c1), c2, c3, c4, c5⟩
  | block id x =>
    simp only [codeStep] at h
    cases hx : r.code x cx f s with
    | none => rw [hx] at h; simp at h
    | some q =>
      obtain ⟨e1, f1, s1⟩ := q
      rw [hx] at h
      obtain ⟨ρ1, w1, tm1, ds1, k1, c1, c2, c3, c4, c5⟩ := hr.code _ _ _ _ _ _ _ hx ρ w b tm ds (.inBlock id :: k) cs hR hfr
      cases c2 with
      | normal => simp at h; obtain ⟨rfl, rfl, rfl⟩ := h; exact ⟨ρ1, w1, tm1, ds1, k, .head st_block (c1.trans (.one st_inBlock)), .normal k, c3, c4, c5⟩
      | @exit id' _ k' hx' =>
        simp only at h
        cases hid : id'.beq id <;> rw [hid] at h <;> simp at h <;> obtain ⟨rfl, rfl, rfl⟩ := h
        · have hne := beq_ne hid
          refine ⟨ρ1, w1, tm1, ds1, _, .head st_block c1, .exit (hx'.trans ?_), c3, c4, c5⟩
          have : (id == id') = false := by simp; exact fun h => hne h.symm
          simp [exitTo, this]
        · obtain rfl := beq_iff.1 hid
          refine ⟨ρ1, w1, tm1, ds1, k, .head st_block (c1.trans (.one (st_exit (hx'.trans ?_)))), .normal k, c3, c4, c5⟩
          simp [exitTo]
      | goto hx' => simp at h; obtain ⟨rfl, rfl, rfl⟩ := h; exact ⟨ρ1, w1, tm1, ds1, _, .head st_block c1, .goto (hx'.trans (by simp [gotoIn])), c3, c4, c5⟩
      | ret => simp at h; obtain ⟨rfl, rfl, rfl⟩ := h; exact ⟨ρ1, w1, tm1, ds1, _, .head st_block c1, .ret, c3, c4, c5⟩
  | loop x =>
    simp only [codeStep] at h
    obtain ⟨ρ1, w1, tm1, ds1, k1, c1, c2, c3, c4, c5⟩ := hr.loop _ _ _ _ _ _ _ h ρ w b tm ds k cs hR hfr
    exact ⟨ρ1, w1, tm1, ds1, k1, .head st_loop c1, c2, c3, c4, c5⟩
  | scope x =>
    simp only [codeStep] at h
    obtain ⟨ρ1, w1, tm1, ds1, k1, c1, c2, c3, c4, c5⟩ := hr.scope _ _ _ _ _ _ _ _ h ρ w b tm ds k cs hR hfr
    exact ⟨ρ1, w1, tm1, ds1, k1, .head st_scope c1, c2, c3, c4, c5⟩
  | rangeFunc fo params as body => exact range_step hT hF hr cx fo params as body f s e f' s' (by simpa only [codeStep] using h) ρ w b tm ds k cs hR hfr

omit hT hF in
theorem loop_step {r : Rec} (hr : Sound P G F B r) : ∀ c cx f s e f' s', loopStep r c cx f s = some (e, f', s') → ∀ ρ w b tm ds k cs, Rel G B ρ s w → FrR ρ cx b f tm ds →
    ∃ ρ' w' tm' ds' k', Steps P (lone (fat b tm ds (.code c :: .inLoop c :: k)) cs w) (lone (fat b tm' ds' k') cs w') ∧ Lands e k k' ∧ Rel G B ρ' s' w' ∧ FrR ρ' cx b f' tm' ds' ∧ Ext B ρ s w ρ' s' w' := by
  intro x cx f s e f' s' h ρ w b tm ds k cs hR hfr
  unfold loopStep at h
  cases hx : r.code x cx f s with
  | none => rw [hx] at h; simp at h
  | some q =>
    obtain ⟨e1, f1, s1⟩ := q
    rw [hx] at h
    obtain ⟨ρ1, w1, tm1, ds1, k1, c1, c2, c3, c4, c5⟩ := hr.code _ _ _ _ _ _ _ hx ρ w b tm ds (.inLoop x :: k) cs hR hfr
    cases e1 with
    | normal =>
      simp only at h
      cases c2
      obtain ⟨ρ2, w2, tm2, ds2, k2, d1, d2, d3, d4, d5⟩ := hr.loop _ _ _ _ _ _ _ h ρ1 w1 b tm1 ds1 k cs c3 c4
      exact ⟨ρ2, w2, tm2, ds2, k2, c1.trans (.head st_inLoop d1), d2, d3, d4, c5.trans d5⟩
    | exit id => simp at h; obtain ⟨rfl, rfl, rfl⟩ := h; exact ⟨ρ1, w1, tm1, ds1, k1, c1, c2.pass (by simp) rfl, c3, c4, c5⟩
    | goto id => simp at h; obtain ⟨rfl, rfl, rfl⟩ := h; exact ⟨ρ1, w1, tm1, ds1, k1, c1, c2.pass (by simp) rfl, c3, c4, c5⟩
    | ret => simp at h; obtain ⟨rfl, rfl, rfl⟩ := h; exact ⟨ρ1, w1, tm1, ds1, k1, c1, c2.pass (by simp) rfl, c3, c4, c5⟩

omit hT hF in
theorem scope_step {r : Rec} (hr : Sound P G F B r) : ∀ sc c cx f s e f' s', scopeStep r sc c cx f s = some (e, f', s') → ∀ ρ w b tm ds k cs, Rel G B ρ s w → FrR ρ cx b f tm ds →
    ∃ ρ' w' tm' ds' k', Steps P (lone (fat b tm ds (.code c :: .inScope sc :: k)) cs w) (lone (fat b tm' ds' k') cs w') ∧ Lands e k k' ∧ Rel G B ρ' s' w' ∧ FrR ρ' cx b f' tm' ds' ∧ Ext B ρ s w ρ' s' w' := by
  intro sc c cx f s e f' s' h ρ w b tm ds k cs hR hfr
  unfold scopeStep at h
  cases hx : r.code c cx f s with
  | none => rw [hx] at h; simp at h
  | some q =>
    obtain ⟨e1, f1, s1⟩ := q
    rw [hx] at h
    obtain ⟨ρ1, w1, tm1, ds1, k1, c1, c2, c3, c4, c5⟩ := hr.code _ _ _ _ _ _ _ hx ρ w b tm ds (.inScope sc :: k) cs hR hfr
    cases c2 with
    | normal => simp at h; obtain ⟨rfl, rfl, rfl⟩ := h; exact ⟨ρ1, w1, tm1, ds1, k, c1.trans (.one st_inScope), .normal k, c3, c4, c5⟩
    | exit hx' => simp at h; obtain ⟨rfl, rfl, rfl⟩ := h; exact ⟨ρ1, w1, tm1, ds1, _, c1, .exit (hx'.trans (by simp [exitTo])), c3, c4, c5⟩
    | @goto l _ k' hx' =>
      simp only at h
      cases hl : findLabel sc l with
      | none => rw [hl] at h; simp at h; obtain ⟨rfl, rfl, rfl⟩ := h; exact ⟨ρ1, w1, tm1, ds1, _, c1, .goto (hx'.trans (by simp [gotoIn, hl])), c3, c4, c5⟩
      | some rest =>
        rw [hl] at h; simp only at h
        have hgo : gotoIn l k' = some (.code rest :: .inScope sc :: k) := hx'.trans (by simp [gotoIn, hl])
        obtain ⟨ρ2, w2, tm2, ds2, k2, d1, d2, d3, d4, d5⟩ := hr.scope _ _ _ _ _ _ _ _ h ρ1 w1 b tm1 ds1 k cs c3 c4
        exact ⟨ρ2, w2, tm2, ds2, k2, c1.trans (.head (st_goto hgo) d1), d2, d3, d4, c5.trans d5⟩
    | ret => simp at h; obtain ⟨rfl, rfl, rfl⟩ := h; exact ⟨ρ1, w1, tm1, ds1, _, c1, .ret, c3, c4, c5⟩
end
end Go.AM
