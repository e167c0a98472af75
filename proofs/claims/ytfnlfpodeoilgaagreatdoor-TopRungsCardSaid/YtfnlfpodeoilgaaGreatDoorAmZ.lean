/- The abstract machine, part Z: states swept, and calls made in small states. No condition. -/
import Derived.Test.YtfnlfpodeoilgaaGreatDoorAmX
set_option linter.all false
noncomputable section
namespace Go.AM
open Go.RowKit (Below)

/-- The renaming of some ids only. -/
def Ren.on (ρ : Ren) (K : Nat → Bool) : Ren := fun id m => match K id with
  | true => ρ id m
  | false => none

theorem Ren.on_le (ρ : Ren) (K : Nat → Bool) : (ρ.on K).le ρ := by
  intro id m x h
  unfold Ren.on at h
  cases hk : K id <;> rw [hk] at h <;> simp at h
  exact h

theorem Ren.on_some {ρ : Ren} {K : Nat → Bool} {id m : Nat} {x : Nat × Nat} (h : ρ id m = some x) (hk : K id = true) : ρ.on K id m = some x := by
  unfold Ren.on; rw [hk]; exact h

/-! Which ids a value mentions. -/
mutual
def okV (K : Nat → Bool) : AV → Bool
  | .ptr a => K a.id
  | .slice a _ _ => K a.id
  | .map id => K id
  | .yield id => K id
  | .func _ xs ys => okVs K xs && okVs K ys
  | .agg xs => okVs K xs
  | .tuple xs => okVs K xs
  | _ => true
def okVs (K : Nat → Bool) : List AV → Bool
  | [] => true
  | x :: xs => okV K x && okVs K xs
end

mutual
theorem VR.on {ρ : Ren} {K : Nat → Bool} : ∀ {x v}, VR ρ x v → okV K x = true → VR (ρ.on K) x v
  | _, _, .bool b, _ => .bool b
  | _, _, .int k n, _ => .int k n
  | _, _, .str s, _ => .str s
  | _, _, .nilp, _ => .nilp
  | _, _, .ptr h, hk => .ptr (Ren.on_some h (by simpa [okV] using hk))
  | _, _, .gptr g o, _ => .gptr g o
  | _, _, .nils, _ => .nils
  | _, _, .sliceK h, hk => .sliceK (Ren.on_some h (by simpa [okV] using hk))
  | _, _, .sliceU h hll hl he hz, hk => .sliceU (Ren.on_some h (by simpa [okV] using hk)) hll hl he hz
  | _, _, .emp b o c, _ => .emp b o c
  | _, _, .nilm, _ => .nilm
  | _, _, .map h, hk => .map (Ren.on_some h (by simpa [okV] using hk))
  | _, _, .func fn h₁ h₂ hf, hk => .func fn (VRs.on h₁ (by simp [okV] at hk; exact hk.1)) (VRs.on h₂ (by simp [okV] at hk; exact hk.2)) hf
  | _, _, .yield h, hk => .yield (Ren.on_some h (by simpa [okV] using hk))
  | _, _, .nilf, _ => .nilf
  | _, _, .nili, _ => .nili
  | _, _, .agg h, hk => .agg (VRs.on h (by simpa [okV] using hk))
  | _, _, .tuple h, hk => .tuple (VRs.on h (by simpa [okV] using hk))
theorem VRs.on {ρ : Ren} {K : Nat → Bool} : ∀ {xs vs}, VRs ρ xs vs → okVs K xs = true → VRs (ρ.on K) xs vs
  | _, _, .nil, _ => .nil
  | _, _, .cons h t, hk => .cons (VR.on h (by simp [okVs] at hk; exact hk.1)) (VRs.on t (by simp [okVs] at hk; exact hk.2))
end

theorem okVs_get {K : Nat → Bool} : ∀ {l : List AV}, okVs K l = true → ∀ (j : Nat) (x : AV), l[j]? = some x → okV K x = true
  | [], _, j, x, h => by simp at h
  | y :: l, hk, 0, x, h => by simp at h; subst h; simp [okVs] at hk; exact hk.1
  | y :: l, hk, j + 1, x, h => by simp [okVs] at hk; simp at h; exact okVs_get hk.2 j x h

/-- An object that mentions only some ids. (Loops and deferred calls are not swept.) -/
def ClosedO (K : Nat → Bool) : AO → Prop
  | .row _ _ t => ∀ i l, t.get i = some l → okVs K l = true
  | .fam _ _ _ t => ∀ i st l, t.get i = some (st, l) → okVs K l = true
  | .mp es _ => ∀ e ∈ es, okV K e.1 = true ∧ okV K e.2.1 = true
  | .iter id _ _ _ => K id = true
  | _ => False

theorem EntsR.on {ρ : Ren} {K : Nat → Bool} {es : List (AV × AV × Nat)} {fs : List MapEntry} (h : EntsR ρ es fs) : (∀ e ∈ es, okV K e.1 = true ∧ okV K e.2.1 = true) → EntsR (ρ.on K) es fs := by
  induction h with
  | nil => intro _; exact .nil
  | cons h t ih =>
    intro hk
    have h1 := hk _ List.mem_cons_self
    cases h with
    | mk hkk hv => exact .cons (.mk (hkk.on h1.1) (hv.on h1.2)) (ih fun e he => hk e (List.mem_cons_of_mem _ he))

theorem ElemsR.on {ρ : Ren} {K : Nat → Bool} {o : AO} {m : Nat} {cs : Array Value} (h : ElemsR ρ o m cs) (hk : ∀ i l, o.elem m i = some l → okVs K l = true) : ElemsR (ρ.on K) o m cs := by
  intro i l hl
  obtain ⟨h1, h2⟩ := h i l hl
  refine ⟨h1, fun j x hx => ?_⟩
  obtain ⟨v, hv, hr⟩ := h2 j x hx
  exact ⟨v, hv, hr.on (okVs_get (hk i l hl) j x hx)⟩

theorem OR.on {ρ : Ren} {K : Nat → Bool} {o : AO} {m κ : Nat} {c : Obj} (h : OR ρ o m κ c) (hk : ClosedO K o) : OR (ρ.on K) o m κ c := by
  cases o with
  | row esz n t =>
    obtain ⟨h1, cs, e, h2, h3, h4⟩ := h
    refine ⟨h1, cs, e, h2, h3, h4.on fun i l hl => ?_⟩
    simp only [AO.elem] at hl
    split at hl
    · exact hk i l hl
    · simp at hl
  | fam esz n cur t =>
    obtain ⟨h1, h2, cs, e, h3, h4, h5⟩ := h
    refine ⟨h1, h2, cs, e, h3, h4, h5.on fun i l hl => ?_⟩
    simp only [AO.elem] at hl
    split at hl
    · split at hl
      · rename_i st l' hg
        split at hl
        · simp at hl; subst hl; exact hk i st l' hg
        · simp at hl
      · simp at hl
    · simp at hl
  | mp es clock =>
    obtain ⟨h1, es', h2, h3⟩ := h
    exact ⟨h1, es', h2, h3.on hk⟩
  | iter id since seen last =>
    obtain ⟨h1, b, κ', h2, h3⟩ := h
    exact ⟨h1, b, κ', Ren.on_some h2 hk, h3⟩
  | loop _ => exact hk.elim
  | dfr _ => exact hk.elim

/-- A state is swept. -/
theorem Rel.sweep {G B ρ s w} (h : Rel G B ρ s w) {K : Nat → Bool} {s' : St} (hc : s.ctr ≤ s'.ctr) (hk : ∀ id, K id = true → s'.heap.get id = s.heap.get id)
    (hcl : ∀ id o, K id = true → s.heap.get id = some o → ClosedO K o) : Rel G B (ρ.on K) s' w := by
  refine ⟨fun id m b κ hm => ?_, fun id m b κ id' m' κ' h1 h2 => h.inj _ _ _ _ _ _ _ (Ren.on_le _ _ _ _ _ h1) (Ren.on_le _ _ _ _ _ h2), h.size, h.glob⟩
  have hK : K id = true := by
    unfold Ren.on at hm
    cases hk : K id with
    | true => rfl
    | false => rw [hk] at hm; simp at hm
  obtain ⟨h1, h2, o, c, h3, h4, h5⟩ := h.obj _ _ _ _ (Ren.on_le _ _ _ _ _ hm)
  exact ⟨by omega, h2, o, c, by rw [hk id hK]; exact h3, h4, h5.on (hcl id o hK h3)⟩

/-- What is known of one call, from one abstract state. -/
def Chunk (P : Program) (G : Globs) (B : Nat) (g : FuncId) (args : List AV) (s : St) (v : AV) (s' : St) : Prop :=
  ∀ ρ w (as : Array Value) kind cs, Rel G B ρ s w → VRs ρ args as.toList →
    ∃ ρ' w' fr u, Steps P (lone (Frame.enter P g as kind) cs w) (lone fr cs w') ∧ Gone P kind fr w' u ∧ fr.fn = g ∧ VR ρ' v u ∧ Rel G B ρ' s' w' ∧ Ext B ρ s w ρ' s' w'

theorem chunk_of_run {P : Program} {T : TT} (hT : TOk P T) {G : Globs} {F : FT} (hF : FOk P F) {B : Nat} (hm : P.follows .mixedOrders = true) {n : Nat} {g : FuncId} {args : List AV} {s s' : St} {v : AV}
    (h : (run T G F n).call g args s = some (v, s')) : Chunk P G B g args s v s' :=
  (run_sound hT hF hm n).call g args s v s' h

/-- The small renaming behind a call, laid over the big one. -/
def Ren.over (ρ ρ' : Ren) (M : Nat → Bool) : Ren := fun id m => match M id with
  | true => ρ' id m
  | false => ρ id m

/-- A call made in a small state, laid back into the big one. -/
theorem lay_back {G : Globs} {B : Nat} {ρ ρ' : Ren} {S s s' S' : St} {w w' : World} {K M : Nat → Bool} (hS : Rel G B ρ S w) (hc : s.ctr = S.ctr) (hsK : ∀ id, K id = true → s.heap.get id = S.heap.get id)
    (hM : ∀ id, id < S.ctr → M id = K id) (hR : Rel G B ρ' s' w') (hE : Ext B (ρ.on K) s w ρ' s' w') (hcl : ∀ id o, M id = true → s'.heap.get id = some o → ClosedO M o)
    (h1 : ∀ id, M id = true → S'.heap.get id = s'.heap.get id) (h2 : ∀ id, M id = false → id < S.ctr → S'.heap.get id = S.heap.get id) (h3 : S'.ctr = s'.ctr) :
    Rel G B (ρ.over ρ' M) S' w' ∧ Ext B ρ S w (ρ.over ρ' M) S' w' ∧ (ρ'.on M).le (ρ.over ρ' M) := by
  have hover : ∀ {id m x}, ρ.over ρ' M id m = some x → (M id = true ∧ ρ' id m = some x) ∨ (M id = false ∧ ρ id m = some x) := by
    intro id m x hx
    unfold Ren.over at hx
    cases hm : M id <;> rw [hm] at hx
    · exact .inr ⟨rfl, hx⟩
    · exact .inl ⟨rfl, hx⟩
  have hctr : S.ctr ≤ s'.ctr := by have := hE.ctr; omega
  have hlt : ∀ {id m x}, ρ id m = some x → id < S.ctr := fun {id m x} hx => by obtain ⟨b, κ⟩ := x; exact (hS.obj _ _ _ _ hx).1
  have hle : ρ.le (ρ.over ρ' M) := by
    intro id m x hx
    have hi := hlt hx
    unfold Ren.over
    cases hm : M id with
    | false => exact hx
    | true => exact hE.le _ _ _ (Ren.on_some hx (by rw [← hM id hi]; exact hm))
  have hle' : (ρ'.on M).le (ρ.over ρ' M) := by
    intro id m x hx
    unfold Ren.on at hx
    unfold Ren.over
    cases hm : M id <;> rw [hm] at hx <;> simp at hx
    exact hx
  have hsw : Rel G B (ρ'.on M) s' w' := hR.sweep (Nat.le_refl _) (fun _ _ => rfl) hcl
  have hmix : ∀ {id m id' m' b κ κ'}, M id = true → ρ' id m = some (b, κ) → M id' = false → ρ id' m' = some (b, κ') → False := by
    intro id m id' m' b κ κ' hm hx hm' hx'
    rcases hE.newb _ _ _ _ hx with ⟨m2, g⟩ | g
    · have hid := (hS.inj _ _ _ _ _ _ _ (Ren.on_le _ _ _ _ _ g) hx').1
      subst hid
      rw [hm] at hm'; simp at hm'
    · have := hS.block_lt hx'
      omega
  refine ⟨⟨?_, ?_, hR.size, hR.glob⟩, ⟨hle, ?_, by omega, ?_, hE.below, ?_, ?_⟩, hle'⟩
  · intro id m b κ hx
    rcases hover hx with ⟨hm, g⟩ | ⟨hm, g⟩
    · obtain ⟨q1, q2, o, c, q3, q4, q5⟩ := hsw.obj _ _ _ _ (Ren.on_some g hm)
      exact ⟨by omega, q2, o, c, by rw [h1 id hm]; exact q3, q4, q5.mono hle'⟩
    · obtain ⟨q1, q2, o, c, q3, q4, q5⟩ := hS.obj _ _ _ _ g
      refine ⟨by omega, q2, o, c, by rw [h2 id hm q1]; exact q3, ?_, q5.mono hle⟩
      rw [hE.frame b (hS.block_lt g) fun id' m' κ' hx' => ?_]
      · exact q4
      · have hid := (hS.inj _ _ _ _ _ _ _ (Ren.on_le _ _ _ _ _ hx') g).1
        subst hid
        unfold Ren.on at hx'
        rw [← hM id' q1, hm] at hx'
        simp at hx'
  · intro id m b κ id' m' κ' hx hx'
    rcases hover hx with ⟨hm, g⟩ | ⟨hm, g⟩ <;> rcases hover hx' with ⟨hm', g'⟩ | ⟨hm', g'⟩
    · exact hR.inj _ _ _ _ _ _ _ g g'
    · exact (hmix hm g hm' g').elim
    · exact (hmix hm' g' hm g).elim
    · exact hS.inj _ _ _ _ _ _ _ g g'
  · intro id m x hx
    rcases hover hx with ⟨hm, g⟩ | ⟨hm, g⟩
    · rcases hE.new _ _ _ g with ⟨m', x', q⟩ | q
      · exact .inl ⟨m', x', Ren.on_le _ _ _ _ _ q⟩
      · exact .inr (by omega)
    · exact .inl ⟨m, x, g⟩
  · intro id hid hno
    cases hm : M id with
    | false => exact h2 id hm hid
    | true =>
      have hK : K id = true := by rw [← hM id hid]; exact hm
      rw [h1 id hm, hE.keep id (by omega) (fun m => ?_), hsK id hK]
      cases hx : ρ.on K id m with
      | none => rfl
      | some x => have := Ren.on_le _ _ _ _ _ hx; rw [hno m] at this; simp at this
  · intro id m b κ hx
    rcases hover hx with ⟨hm, g⟩ | ⟨hm, g⟩
    · rcases hE.newb _ _ _ _ g with ⟨m', q⟩ | q
      · exact .inl ⟨m', Ren.on_le _ _ _ _ _ q⟩
      · exact .inr q
    · exact .inl ⟨m, g⟩
  · intro b hb hno
    exact hE.frame b hb fun id m κ hx => hno id m κ (Ren.on_le _ _ _ _ _ hx)
end Go.AM
