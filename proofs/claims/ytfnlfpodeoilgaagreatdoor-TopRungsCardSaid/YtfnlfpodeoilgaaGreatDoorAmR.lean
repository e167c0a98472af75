/- The abstract machine, part R: operations and regions in the order of the text. No condition. -/
import Derived.Test.YtfnlfpodeoilgaaGreatDoorAmQ
set_option linter.all false
noncomputable section
namespace Go.AM
open Go.RowKit (Below)

theorem RoundR.none_of {ρ : Ren} {b : Option Nat} (h : RoundR ρ Option.none b) : b = Option.none := by cases h; rfl

section
variable {P : Program} {T : TT} (hT : TOk P T) {G : Globs} {F : FT} (hF : FOk P F) {B : Nat}
include hT hF

/-- A call, from within a region. -/
theorem call_sound {r : Rec} (hr : Sound P G F B r) {c : ACall} {s s' : St} {v : AV} (h : doCall r c s = some (v, s')) {ρ : Ren} {w : World} {d : Deferred} (hc : CallR ρ c d) (hR : Rel G B ρ s w)
    {b : FB} {tm : Array Value} {ds : List Deferred} {ops : Array Oper} {i : Nat} {rest : List Nat} {k : List Item} {cs : List Frame} {o : Oper} (ho : ops[i]? = some o)
    (hw : Region.wanted o (yielded ops tm) = true) (hd : b.round = none ∨ ∀ c, o.op ≠ .defer c) (hx : (execOp (Act.eval ⟨tm, ds⟩) o).run P w = (invoke d.target d.args).run P w) :
    ∃ ρ' w' u, Steps P (lone (fat b tm ds (.inRegion ops (i :: rest) :: k)) cs w) (lone (fat b (putT tm o.dst u) ds (.inRegion ops rest :: k)) cs w') ∧ VR ρ' v u ∧ Rel G B ρ' s' w' ∧ Ext B ρ s w ρ' s' w' := by
  cases hc with
  | @enter g first captured args us vs ws h1 h2 h3 =>
    simp only [doCall] at h
    obtain ⟨fn, hfn⟩ := hr.fn _ _ _ _ h
    have hrun : (execOp (Act.eval ⟨tm, ds⟩) o).run P w = .ok (.enter g (⟨us⟩ ++ ⟨ws⟩ ++ ⟨vs⟩)) w := by
      rw [hx]; simp only [invoke]; exact callFunc_run hF hfn _ w
    obtain ⟨ρ', w', fr, u, c1, c2, _, c4, c5, c6⟩ := hr.call _ _ _ _ _ h ρ w (⟨us⟩ ++ ⟨ws⟩ ++ ⟨vs⟩) .normal (fat b tm ds (.inRegion ops (i :: rest) :: k) :: cs) hR (by simpa using (h1.append h3).append h2)
    refine ⟨ρ', w', u, .head (st_opEnter ho hw hd hrun) (c1.trans (.one ?_)), c4, c5, c6⟩
    rw [← fat_finish ho]
    exact st_return c2.mode c2.defers c2.kind c2.fn
  | @yield id l κ args ws h1 h3 =>
    simp only [doCall] at h
    obtain ⟨g, tms, as, body, w0, y1, rfl, ρ', w', u, y2, y3, y4, y5⟩ := yield_sound hr h (c := fat b tm ds (.inRegion ops (i :: rest) :: k)) (cs := cs) hR h1 h3
    have hrun : (execOp (Act.eval ⟨tm, ds⟩) o).run P w0 = .ok (.round l g tms as body) w0 := by
      rw [hx]; simp only [invoke]; simpa using y1
    refine ⟨ρ', w', u, .head (st_opRound ho hw hd hrun) ?_, y3, y4, y5⟩
    rw [← fat_finish ho]; exact y2

theorem op_sound {r : Rec} (hr : Sound P G F B r) {cx : Cx} {o : Oper} {env : Tr AV} {defs defs' : List ADef} {s s' : St} {v : AV} (h : doOp T G r cx o env defs s = some (v, defs', s'))
    {ρ : Ren} {w : World} {b : FB} {tm : Array Value} {ds : List Deferred} {ops : Array Oper} {i : Nat} {rest : List Nat} {k : List Item} {cs : List Frame} (ho : ops[i]? = some o)
    (hw : Region.wanted o (yielded ops tm) = true) (hR : Rel G B ρ s w) (he : OpdR ρ env (Act.eval ⟨tm, ds⟩)) (hds : DefsR ρ defs ds) (hround : RoundR ρ cx.round b.round) :
    ∃ ρ' w' ds' u, Steps P (lone (fat b tm ds (.inRegion ops (i :: rest) :: k)) cs w) (lone (fat b (putT tm o.dst u) ds' (.inRegion ops rest :: k)) cs w') ∧ VR ρ' v u ∧ DefsR ρ' defs' ds' ∧
      Rel G B ρ' s' w' ∧ Ext B ρ s w ρ' s' w' := by
  unfold doOp at h
  cases hcl : clsOf o.op <;> rw [hcl] at h <;> simp only at h
  case pure =>
    have hnd : ∀ c, o.op ≠ .defer c := fun c e => by rw [e] at hcl; simp [clsOf] at hcl
    cases ha : apure T env o.op with
    | none =>
      rw [ha] at h; simp only at h
      cases hb : apeq T s env o.op with
      | none => rw [hb] at h; simp at h
      | some y =>
        rw [hb] at h; simp at h; obtain ⟨rfl, rfl, rfl⟩ := h
        obtain ⟨u, h1, h2⟩ := apeq_run (P := P) hT hR he hb
        exact ⟨ρ, w, ds, u, .one (st_opValue ho hw (.inr hnd) h1), h2, hds, hR, .refl ..⟩
    | some y =>
      rw [ha] at h; simp at h; obtain ⟨rfl, rfl, rfl⟩ := h
      obtain ⟨u, h1, h2⟩ := apure_run (P := P) hT he ha w
      exact ⟨ρ, w, ds, u, .one (st_opValue ho hw (.inr hnd) h1), h2, hds, hR, .refl ..⟩
  case read =>
    have hnd : ∀ c, o.op ≠ .defer c := fun c e => by rw [e] at hcl; simp [clsOf] at hcl
    cases ha : aread T G env s o.op with
    | none => rw [ha] at h; simp at h
    | some y =>
      rw [ha] at h; simp at h; obtain ⟨rfl, rfl, rfl⟩ := h
      obtain ⟨u, h1, h2⟩ := aread_run (P := P) hT hR he hcl ha
      exact ⟨ρ, w, ds, u, .one (st_opValue ho hw (.inr hnd) h1), h2, hds, hR, .refl ..⟩
  case alloc =>
    have hnd : ∀ c, o.op ≠ .defer c := fun c e => by rw [e] at hcl; simp [clsOf] at hcl
    cases ha : aalloc T env o.op with
    | none => rw [ha] at h; simp at h
    | some a =>
      rw [ha] at h; simp at h; obtain ⟨rfl, rfl, rfl⟩ := h
      obtain ⟨u, c, κ, h1, h2⟩ := aalloc_run (P := P) hT he ha w
      obtain ⟨h3, h4⟩ := h2 (ρ.add s.ctr 0 w.heap.size κ) (Ren.le_add (hR.fresh 0))
      obtain ⟨q1, q2⟩ := hR.alloc (κ := κ) h3
      exact ⟨_, _, ds, u, .one (st_opValue ho hw (.inr hnd) h1), h4 _ (Ren.add_same ..), hds.mono q2.le, q1, q2⟩
  case loud =>
    have hnd : ∀ c, o.op ≠ .defer c := fun c e => by rw [e] at hcl; simp [clsOf] at hcl
    cases ha : aloud T env s o.op with
    | none => rw [ha] at h; simp at h
    | some q =>
      obtain ⟨y, s1⟩ := q
      rw [ha] at h; simp at h; obtain ⟨rfl, rfl, rfl⟩ := h
      obtain ⟨ρ', w', nx, u, h1, h2, h3, h4, h5⟩ := aloud_run (P := P) hT hR he ha
      refine ⟨ρ', w', ds, u, .one ?_, h3, hds.mono h5.le, h4, h5⟩
      rcases h2 with rfl | ⟨rfl, rfl⟩
      · exact st_opValue ho hw (.inr hnd) h1
      · exact st_opUnit ho hw (.inr hnd) h1
  case call =>
    have hnd : ∀ c, o.op ≠ .defer c := fun c e => by rw [e] at hcl; simp [clsOf] at hcl
    cases ha : acall env o.op with
    | none => rw [ha] at h; simp at h
    | some c =>
      rw [ha] at h; simp only at h
      cases hdc : doCall r c s with
      | none => rw [hdc] at h; simp at h
      | some q =>
        obtain ⟨y, s1⟩ := q
        rw [hdc] at h; simp at h; obtain ⟨rfl, rfl, rfl⟩ := h
        obtain ⟨d, d1, d2⟩ := acall_run (P := P) he ha w
        obtain ⟨ρ', w', u, c1, c2, c3, c4⟩ := call_sound hT hF hr hdc d1 hR ho hw (.inr hnd) d2 (b := b) (rest := rest) (k := k) (cs := cs)
        exact ⟨ρ', w', ds, u, c1, c2, hds.mono c4.le, c3, c4⟩
  case defer =>
    cases hcr : cx.round with
    | some _ => rw [hcr] at h; simp at h
    | none =>
      rw [hcr] at h hround; simp only at h
      have hbr := hround.none_of
      cases ha : adefer env o.op with
      | none => rw [ha] at h; simp at h
      | some d =>
        rw [ha] at h; simp at h; obtain ⟨rfl, rfl, rfl⟩ := h
        obtain ⟨d', h1, h2⟩ := adefer_run (P := P) he ha w
        exact ⟨ρ, w, d' :: ds, undef, .one (st_opDefer ho hw hbr h1), .tuple .nil, .cons h2 hds, hR, .refl ..⟩

omit hT hF in
/-- The guard, in the machine. -/
theorem awanted_spec {all : List Oper} {env : Tr AV} {g : Option (Nat × Bool)} {q : Bool} (h : awanted all env g = some q) {ops : Array Oper} (hall : ops.toList = all) {tm : Array Value} {ρ : Ren}
    (he : ∀ j p d, g.map (·.1) = some j → nth all j = some p → p.dst = some d → ∀ x, env.get d = some x → ∃ u, tm[d]? = some u ∧ VR ρ x u) {o : Oper} (ho : o.guard = g) :
    Region.wanted o (yielded ops tm) = q := by
  unfold awanted at h
  unfold Region.wanted
  rw [ho]
  cases g with
  | none => simp at h; subst h; rfl
  | some jw =>
    obtain ⟨j, want⟩ := jw
    simp only at h ⊢
    cases hn : nth all j with
    | none => rw [hn] at h; simp at h
    | some p =>
      rw [hn] at h; simp only at h
      cases hd : p.dst with
      | none => rw [hd] at h; simp at h
      | some d =>
        rw [hd] at h; simp only at h
        have hop : ops[j]? = some p := by rw [nth_eq, ← hall] at hn; simpa using hn
        cases hx : env.get d with
        | none => rw [hx] at h; simp at h
        | some x =>
          obtain ⟨u, hu, hv⟩ := he j p d rfl hn hd x hx
          have hy : yielded ops tm j = match u with | .bool b => some b | _ => none := by
            simp only [yielded, hop, Option.bind_some, hd, hu]
            cases u <;> rfl
          rw [hx] at h
          cases hv <;> simp at h
          · rename_i b
            rw [hy, ← h]
            cases b <;> cases want <;> rfl
          · subst h; rw [hy]; rfl

theorem guarded_sound {r : Rec} (hr : Sound P G F B r) {cx : Cx} {all : List Oper} {o : Oper} {env : Tr AV} {defs defs' : List ADef} {s s' : St} {v : AV}
    (h : doGuarded T G r cx all o env defs s = some (v, defs', s'))
    {ρ : Ren} {w : World} {b : FB} {tm : Array Value} {ds : List Deferred} {ops : Array Oper} {i : Nat} {rest : List Nat} {k : List Item} {cs : List Frame} (ho : ops[i]? = some o)
    (hall : ops.toList = all) (hR : Rel G B ρ s w) (he : EnvR ρ env cx.n tm) (hds : DefsR ρ defs ds) (hround : RoundR ρ cx.round b.round) :
    ∃ ρ' w' ds' u, Steps P (lone (fat b tm ds (.inRegion ops (i :: rest) :: k)) cs w) (lone (fat b (putT tm o.dst u) ds' (.inRegion ops rest :: k)) cs w') ∧ VR ρ' v u ∧ DefsR ρ' defs' ds' ∧
      Rel G B ρ' s' w' ∧ Ext B ρ s w ρ' s' w' := by
  unfold doGuarded at h
  cases hwd : awanted all env o.guard with
  | none => rw [hwd] at h; simp at h
  | some q =>
    rw [hwd] at h
    have hw := awanted_spec hwd hall (tm := tm) (ρ := ρ) (fun j p d _ _ _ x hx => he.2 d x hx) rfl
    cases q with
    | true => exact op_sound hT hF hr h ho hw hR (he.opdR ds) hds hround
    | false =>
      simp at h; obtain ⟨rfl, rfl, rfl⟩ := h
      exact ⟨ρ, w, ds, undef, .one (st_opSkip ho hw), .tuple .nil, hds, hR, .refl ..⟩

/-- A region, in the order of the text. -/
theorem ops_sound {r : Rec} (hr : Sound P G F B r) {cx : Cx} {all : List Oper} {ops : Array Oper} (hall : ops.toList = all) {b : FB} {k : List Item} {cs : List Frame} :
    ∀ (os : List Oper) (i : Nat) (env env' : Tr AV) (defs defs' : List ADef) (s s' : St) (ρ : Ren) (w : World) (tm : Array Value) (ds : List Deferred), opsRun T G r cx all os env defs s = some (env', defs', s') →
      all.drop i = os → Rel G B ρ s w → EnvR ρ env cx.n tm → DefsR ρ defs ds → RoundR ρ cx.round b.round →
      ∃ ρ' w' tm' ds', Steps P (lone (fat b tm ds (.inRegion ops (List.range' i os.length) :: k)) cs w) (lone (fat b tm' ds' k) cs w') ∧ EnvR ρ' env' cx.n tm' ∧ DefsR ρ' defs' ds' ∧
        Rel G B ρ' s' w' ∧ Ext B ρ s w ρ' s' w'
  | [], i, env, env', defs, defs', s, s', ρ, w, tm, ds, h, hd, hR, he, hds, hround => by
    simp [opsRun] at h; obtain ⟨rfl, rfl, rfl⟩ := h
    exact ⟨ρ, w, tm, ds, .one st_regionEnd, he, hds, hR, .refl ..⟩
  | o :: os, i, env, env', defs, defs', s, s', ρ, w, tm, ds, h, hd, hR, he, hds, hround => by
    simp only [opsRun] at h
    cases hg : doGuarded T G r cx all o env defs s with
    | none => rw [hg] at h; simp at h
    | some q =>
      obtain ⟨v, defs1, s1⟩ := q
      rw [hg] at h; simp only at h
      cases hp : putEnv cx.n env o.dst v with
      | none => rw [hp] at h; simp at h
      | some env1 =>
        rw [hp] at h; simp only at h
        have hoi : ops[i]? = some o := by
          have h1 : all[i]? = some o := by
            have : (all.drop i)[0]? = some o := by rw [hd]; rfl
            rw [List.getElem?_drop] at this; simpa using this
          rw [← hall] at h1; simpa using h1
        obtain ⟨ρ1, w1, ds1, u, c1, c2, c3, c4, c5⟩ := guarded_sound hT hF hr hg (b := b) (tm := tm) (ds := ds) (rest := List.range' (i + 1) os.length) (k := k) (cs := cs) hoi hall hR he hds hround
        obtain ⟨ρ2, w2, tm2, ds2, d1, d2, d3, d4, d5⟩ := ops_sound hr hall os (i + 1) env1 env' defs1 defs' s1 s' ρ1 w1 (putT tm o.dst u) ds1 h
          (by rw [← List.drop_drop, hd]; rfl) c4 (putEnv_spec hp (he.mono c5.le) c2) c3 (hround.mono c5.le)
        refine ⟨ρ2, w2, tm2, ds2, ?_, d2, d3, d4, c5.trans d5⟩
        rw [show List.range' i (o :: os).length = i :: List.range' (i + 1) os.length from by simp [List.range'_succ]]
        exact c1.trans d1
end
end Go.AM
