/- The abstract machine, part X: what it finds, the machine does. No condition. -/
import Derived.Test.YtfnlfpodeoilgaaGreatDoorAmW
set_option linter.all false
noncomputable section
namespace Go.AM
open Go.RowKit (Below)

section
variable {P : Program} {T : TT} (hT : TOk P T) {G : Globs} {F : FT} (hF : FOk P F) {B : Nat}

theorem Rel.drew {G B ρ s w} (h : Rel G B ρ s w) (n : Nat) : Rel G B ρ s { w with drawn := n } := ⟨h.obj, h.inj, h.size, h.glob⟩

theorem not_isOn (n j : Nat) : ¬ isOn (Array.replicate n false) j := by
  unfold isOn
  rw [Array.getElem?_replicate]
  split <;> simp

include hT hF in
theorem draw_sound (hm : P.follows .mixedOrders = true) : DrawSound P T G F B := by
  intro r hr cx ops f s e f' s' h ρ w b tm ds k cs id hR hfr
  unfold region at h
  simp only at h
  cases hd : drawnRun T G r cx ops.toList f s (masks ops.toList []) (planOf ops.toList (masks ops.toList [])) with
  | none => rw [hd] at h; simp at h
  | some q =>
    obtain ⟨env', defs', sf⟩ := q
    rw [hd] at h; simp at h; obtain ⟨rfl, rfl, rfl⟩ := h
    unfold drawnRun at hd
    split at hd
    · simp at hd
    rename_i hok
    unfold planOk at hok
    simp only [Bool.and_eq_true] at hok
    obtain ⟨⟨ok1, ok2⟩, ok3⟩ := hok
    have hX : Good ops.toList := .of ok1 ok2
    generalize planOf ops.toList (masks ops.toList []) = ps at hd ok3
    let w0 : World := { w with drawn := w.drawn + 1 }
    let X : Rg := ⟨ops.toList, cx.n, f.env, ρ, s, w0⟩
    have hR0 : Rel G B ρ s w0 := hR.drew _
    have st : step P (lone (fat b tm ds (.code (.region id ops true) :: k)) cs w) =
        .next (lone (fat b tm ds (.inRegion ops (Region.linearise.go .any ops ops.size (w.tape w.drawn (.order b.fn id)) (Array.replicate ops.size false) []) :: k)) cs w0) := by
      rw [st_regionDraw]
      simp only [Region.schedule, hm, Bool.true_or, if_true, Region.linearise]; rfl
    have hw : ∀ d S, (∀ j, ¬ d j) → (∀ j, ¬ S j) → WInv T G B X d S f.env s (fun _ => none) ρ w0 tm := fun d S hd hS =>
      ⟨fun i j h => absurd h (hS i), fun i j h => absurd h (hd i), fun i h => absurd h (hS i), fun i o _ h => absurd h (hd i), fun i d' h => absurd h (hd i), hR0, .refl .., hfr.env.1,
        fun t x hx _ => hfr.env.2 t x hx, fun t x hx _ => hfr.env.2 t x hx, fun t x hx _ => hx⟩
    have hb0 : ∀ j, ¬ bits 0 j := fun j => by simp [bits]
    have fin : ∀ (ps : List Phase) (did : Nat) (env1 : Tr AV) (s1 : St) (own : Nat → Option Nat), Inv T G B X (bits did) (isOn (Array.replicate ops.size false)) env1 s1 own ρ w0 tm →
        phasesOk ops.toList (masks ops.toList []) false ps did = true → drawRun T G r cx ops.toList ps env1 f.defs s1 = some (env', defs', sf) →
        ∃ ρ' w' tm' dsf k', Steps P (lone (fat b tm ds (.code (.region id ops true) :: k)) cs w) (lone (fat b tm' dsf k') cs w') ∧ Lands .normal k k' ∧ Rel G B ρ' sf w' ∧ FrR ρ' cx b ⟨env', defs'⟩ tm' dsf ∧ Ext B ρ s w ρ' sf w' := by
      intro ps did env1 s1 own hI hpo hrun
      obtain ⟨ρ', w', tm', dsf, d1, d2, d3, d4, d5⟩ := draw_go (X := X) hT hF hr (cx := cx) rfl hX (ops := ops) rfl (b := b) (k := k) (cs := cs) ops.size (w.tape w.drawn (.order b.fn id)) (Array.replicate ops.size false) ps did env1 s1 own ρ w0 tm ds f.defs
        hI hfr.defs hfr.round (by simp) (by rw [Array.toList_replicate, List.count_replicate]; simp) hpo hrun
      have hext : Ext B ρ s w ρ' sf w' := ⟨d5.le, d5.new, d5.ctr, d5.keep, ⟨d5.below.os, d5.below.tape, d5.below.output, d5.below.size, d5.below.block⟩, d5.newb, d5.frame⟩
      exact ⟨ρ', w', tm', dsf, k, .head st d1, .normal k, d4, ⟨d2, d3, hfr.fn, hfr.round.mono d5.le⟩, hext⟩
    have hInv0 : Inv T G B X (bits 0) (isOn (Array.replicate ops.size false)) f.env s (fun _ => none) ρ w0 tm :=
      ⟨hw _ _ hb0 (not_isOn _), fun i o _ h => absurd h (hb0 i)⟩
    cases ps with
    | nil => exact fin [] 0 f.env s _ hInv0 (by simpa only [phasesOk] using ok3) hd
    | cons ph ps =>
      cases hact : ph.act with
      | some a =>
        refine fin (ph :: ps) 0 f.env s _ hInv0 ?_ hd
        simp only [phasesOk, hact, Option.isSome_some, Bool.or_true] at ok3 ⊢
        exact ok3
      | none =>
        simp only [phasesOk, Bool.true_or, hact, actOk] at ok3
        simp only [drawRun, hact, actRun] at hd
        cases hqk : quietsOk ops.toList (masks ops.toList []) ph.quiet 0 with
        | none => rw [hqk] at ok3; simp at ok3
        | some d =>
          rw [hqk] at ok3; simp only at ok3
          split at ok3
          · simp at ok3
          rename_i hrc
          cases hqr : quietRun T G cx.n ops.toList ph.quiet f.env s with
          | none => rw [hqr] at hd; simp at hd
          | some q =>
            obtain ⟨env2, s2⟩ := q
            rw [hqr] at hd; simp only at hd
            split at hd
            · simp at hd
            rename_i hre
            obtain ⟨own', hI⟩ := (hw _ _ hb0 (not_isOn ops.size)).phase hX (am := maskAt (masks ops.toList []) none) (fun j hj => by simp [maskAt] at hj) hqk hqr hrc hre
            exact fin ps d env2 s2 own' hI ok3 hd

include hT hF in
theorem run_sound (hm : P.follows .mixedOrders = true) : ∀ n, Sound P G F B (run T G F n)
  | 0 => ⟨fun _ _ _ _ h => by simp [run] at h, fun _ _ _ _ _ _ _ h => by simp [run] at h, fun _ _ _ _ _ _ _ _ h => by simp [run] at h, fun _ _ _ _ _ h => by simp [run] at h, fun _ _ _ _ _ _ _ h => by simp [run] at h⟩
  | n + 1 => by
    have ih := run_sound hm n
    refine ⟨?_, code_step hT hF (draw_sound hT hF hm) ih, scope_step ih, call_step hT hF ih, loop_step ih⟩
    intro g args s x h
    simp only [run, callStep] at h
    cases hg : F g with
    | none => rw [hg] at h; simp at h
    | some fn => exact ⟨fn, rfl⟩

theorem Rel.start {w : World} (hG : ∀ g l, G g = some l → ∃ cs e fz, w.heap[g]? = some (.cells cs e fz) ∧ ∀ (j : Nat) (x : AV), l[j]? = some x → ∃ v, cs[j]? = some v ∧ VR (fun _ _ => none) x v) :
    Rel G w.heap.size (fun _ _ => none) ⟨.leaf, 0⟩ w := by
  refine ⟨fun _ _ _ _ h => by simp at h, fun _ _ _ _ _ _ _ h => by simp at h, Nat.le_refl _, fun g l hg => ?_⟩
  obtain ⟨cs, e, fz, h1, h2⟩ := hG g l hg
  exact ⟨(Array.getElem?_eq_some_iff.1 h1).1, cs, e, fz, h1, h2⟩

include hT hF in
/-- What the abstract machine finds of a call, holds of it. -/
theorem calls_of_run (hm : P.follows .mixedOrders = true) {n : Nat} {g : FuncId} {args : List AV} {v : AV} {s' : St} (h : (run T G F n).call g args ⟨.leaf, 0⟩ = some (v, s')) {w : World}
    (hG : ∀ g l, G g = some l → ∃ cs e fz, w.heap[g]? = some (.cells cs e fz) ∧ ∀ (j : Nat) (x : AV), l[j]? = some x → ∃ v, cs[j]? = some v ∧ VR (fun _ _ => none) x v)
    {as : Array Value} (ha : VRs (fun _ _ => none) args as.toList) :
    Calls P g as w fun e w' => ∃ ρ u, e = .returned u ∧ VR ρ v u ∧ Rel G w.heap.size ρ s' w' ∧ Below w.heap.size w w' := by
  intro cs
  obtain ⟨ρ', w', fr, u, c1, c2, c3, c4, c5, c6⟩ := (run_sound hT hF hm n).call g args _ v s' h (fun _ _ => none) w as .normal cs (Rel.start hG) ha
  exact ⟨.returned u, w', fr, ⟨ρ', u, rfl, c4, c5, c6.below⟩, c1, c3, c2.mode, c2.defers, c2.kind, c2.fn⟩
end
end Go.AM
