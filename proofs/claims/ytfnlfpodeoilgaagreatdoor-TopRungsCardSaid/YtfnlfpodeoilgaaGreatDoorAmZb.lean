/- The abstract machine, part Zb: a table of calls that were made in small states; the machine that asks it. No condition. -/
import Derived.Test.YtfnlfpodeoilgaaGreatDoorAmZa
set_option linter.all false
noncomputable section
namespace Go.AM
open Go.RowKit (Below)

/-- A call made in a small state that lies further back, which makes nothing that is kept. -/
theorem lay_back2 {G : Globs} {B : Nat} {ρ ρ' : Ren} {S s s' S' : St} {w w' : World} {K M : Nat → Bool} (hS : Rel G B ρ S w) (hc : s.ctr ≤ S.ctr) (hsK : ∀ id, K id = true → s.heap.get id = S.heap.get id)
    (hM : ∀ id, M id = K id) (hlow : ∀ id, M id = true → id < s.ctr) (hR : Rel G B ρ' s' w') (hE : Ext B (ρ.on K) s w ρ' s' w') (hcl : ∀ id o, M id = true → s'.heap.get id = some o → ClosedO M o)
    (h1 : ∀ id, M id = true → S'.heap.get id = s'.heap.get id) (h2 : ∀ id, M id = false → id < S.ctr → S'.heap.get id = S.heap.get id) (h3 : S.ctr ≤ S'.ctr) :
    Rel G B (ρ.over ρ' M) S' w' ∧ Ext B ρ S w (ρ.over ρ' M) S' w' ∧ (ρ'.on M).le (ρ.over ρ' M) := by
  have hover : ∀ {id m x}, ρ.over ρ' M id m = some x → (M id = true ∧ ρ' id m = some x) ∨ (M id = false ∧ ρ id m = some x) := by
    intro id m x hx
    unfold Ren.over at hx
    cases hm : M id <;> rw [hm] at hx
    · exact .inr ⟨rfl, hx⟩
    · exact .inl ⟨rfl, hx⟩
  have hle : ρ.le (ρ.over ρ' M) := by
    intro id m x hx
    unfold Ren.over
    cases hm : M id with
    | false => exact hx
    | true => exact hE.le _ _ _ (Ren.on_some hx (by rw [← hM id]; exact hm))
  have hle' : (ρ'.on M).le (ρ.over ρ' M) := by
    intro id m x hx
    unfold Ren.on at hx
    unfold Ren.over
    cases hm : M id <;> rw [hm] at hx <;> simp at hx
    exact hx
  have hsw : Rel G B (ρ'.on M) s' w' := hR.sweep (Nat.le_refl _) (fun _ _ => rfl) hcl
  have hmix : ∀ {id m id' m' b κ κ'}, M id = true → ρ' id m = some (b, κ) → M id' = false → ρ id' m' = some (b, κ') → False := by
    intro id m id' m' b κ κ' hm hx hm' hx'
    rcases hE.newb _ _ _ _ hx with ⟨m2, g⟩ | g
    · have hid := (hS.inj _ _ _ _ _ _ _ (Ren.on_le _ _ _ _ _ g) hx').1
      subst hid
      rw [hm] at hm'; simp at hm'
    · have := hS.block_lt hx'
      omega
  refine ⟨⟨?_, ?_, hR.size, hR.glob⟩, ⟨hle, ?_, h3, ?_, hE.below, ?_, ?_⟩, hle'⟩
  · intro id m b κ hx
    rcases hover hx with ⟨hm, g⟩ | ⟨hm, g⟩
    · obtain ⟨_, q2, o, c, q3, q4, q5⟩ := hsw.obj _ _ _ _ (Ren.on_some g hm)
      have := hlow id hm
      exact ⟨by omega, q2, o, c, by rw [h1 id hm]; exact q3, q4, q5.mono hle'⟩
    · obtain ⟨q1, q2, o, c, q3, q4, q5⟩ := hS.obj _ _ _ _ g
      refine ⟨by omega, q2, o, c, by rw [h2 id hm q1]; exact q3, ?_, q5.mono hle⟩
      rw [hE.frame b (hS.block_lt g) fun id' m' κ' hx' => ?_]
      · exact q4
      · have hid := (hS.inj _ _ _ _ _ _ _ (Ren.on_le _ _ _ _ _ hx') g).1
        subst hid
        unfold Ren.on at hx'
        rw [← hM id', hm] at hx'
        simp at hx'
  · intro id m b κ id' m' κ' hx hx'
    rcases hover hx with ⟨hm, g⟩ | ⟨hm, g⟩ <;> rcases hover hx' with ⟨hm', g'⟩ | ⟨hm', g'⟩
    · exact hR.inj _ _ _ _ _ _ _ g g'
    · exact (hmix hm g hm' g').elim
    · exact (hmix hm' g' hm g).elim
    · exact hS.inj _ _ _ _ _ _ _ g g'
  · intro id m x hx
    rcases hover hx with ⟨hm, g⟩ | ⟨hm, g⟩
    · rcases hE.new _ _ _ g with ⟨m', x', q⟩ | q
      · exact .inl ⟨m', x', Ren.on_le _ _ _ _ _ q⟩
      · have := hlow id hm; omega
    · exact .inl ⟨m, x, g⟩
  · intro id hid hno
    cases hm : M id with
    | false => exact h2 id hm hid
    | true =>
      have hK : K id = true := by rw [← hM id]; exact hm
      rw [h1 id hm, hE.keep id (hlow id hm) (fun m => ?_), hsK id hK]
      cases hx : ρ.on K id m with
      | none => rfl
      | some x => have := Ren.on_le _ _ _ _ _ hx; rw [hno m] at this; simp at this
  · intro id m b κ hx
    rcases hover hx with ⟨hm, g⟩ | ⟨hm, g⟩
    · rcases hE.newb _ _ _ _ g with ⟨m', q⟩ | q
      · exact .inl ⟨m', Ren.on_le _ _ _ _ _ q⟩
      · exact .inr q
    · exact .inl ⟨m, g⟩
  · intro b hb hno
    exact hE.frame b hb fun id m κ hx => hno id m κ (Ren.on_le _ _ _ _ _ hx)

/-- A call made in a small state: the objects that it may see, what it yields, and the objects that come of it. -/
structure Ent where
  g : FuncId
  args : List AV
  ctr : Nat
  ks : List (Nat × AO)
  v : AV
  ms : List (Nat × AO)
  ctr' : Nat

def lay : List (Nat × AO) → Tr AO → Tr AO
  | [], t => t
  | (i, o) :: l, t => lay l (match t.set i o with
    | .leaf => .leaf
    | .node l x r => .node l x r)

theorem lay_cons (i : Nat) (o : AO) (l : List (Nat × AO)) (t : Tr AO) : lay ((i, o) :: l) t = lay l (t.set i o) := by
  simp only [lay]; cases t.set i o <;> rfl

def Tr.has (t : Tr AO) (i : Nat) : Bool :=
  match t.get i with
  | some _ => true
  | none => false

theorem lay_get : ∀ (l : List (Nat × AO)) (t : Tr AO) (i : Nat) (o : AO), (lay l t).get i = some o → (i, o) ∈ l ∨ t.get i = some o
  | [], _, _, _, h => .inr h
  | (j, p) :: l, t, i, o, h => by
    rw [lay_cons] at h
    rcases lay_get l _ i o h with h1 | h1
    · exact .inl (List.mem_cons_of_mem _ h1)
    · rw [Tr.get_set] at h1
      split at h1
      · rename_i hj; subst hj; simp at h1; subst h1; exact .inl List.mem_cons_self
      · exact .inr h1

theorem lay_other (l : List (Nat × AO)) (t : Tr AO) (i : Nat) (h : ¬ ∃ o, (i, o) ∈ l) : (lay l t).get i = t.get i := by
  induction l generalizing t with
  | nil => rfl
  | cons x l ih =>
    obtain ⟨k, q⟩ := x
    rw [lay_cons, ih _ fun ⟨o, ho⟩ => h ⟨o, List.mem_cons_of_mem _ ho⟩, Tr.get_set_other]
    rintro rfl
    exact h ⟨q, List.mem_cons_self⟩

theorem lay_mem : ∀ (l : List (Nat × AO)) (t : Tr AO) (i : Nat), (∃ o, (i, o) ∈ l) → ∃ o, (i, o) ∈ l ∧ (lay l t).get i = some o
  | [], _, _, h => by simp at h
  | (j, p) :: l, t, i, h => by
    by_cases hl : ∃ o, (i, o) ∈ l
    · obtain ⟨o, h1, h2⟩ := lay_mem l (t.set j p) i hl
      exact ⟨o, List.mem_cons_of_mem _ h1, by rw [lay_cons]; exact h2⟩
    · obtain ⟨o, ho⟩ := h
      rcases List.mem_cons.1 ho with he | he
      · have e1 : i = j := congrArg Prod.fst he
        refine ⟨p, by rw [e1]; exact List.mem_cons_self, ?_⟩
        rw [lay_cons, lay_other l _ i hl, e1, Tr.get_set_same]
      · exact absurd ⟨o, he⟩ hl

theorem has_lay (l : List (Nat × AO)) (i : Nat) : (lay l .leaf).has i = true ↔ ∃ o, (i, o) ∈ l := by
  unfold Tr.has
  constructor
  · intro h
    cases hg : (lay l .leaf).get i with
    | none => rw [hg] at h; simp at h
    | some o =>
      rcases lay_get _ _ _ _ hg with h1 | h1
      · exact ⟨o, h1⟩
      · simp [Tr.get_leaf] at h1
  · intro h
    obtain ⟨o, _, h2⟩ := lay_mem l .leaf i h
    rw [h2]

/-- The objects are those of a heap. -/
def holds (t : Tr AO) : List (Nat × AO) → Bool
  | [] => true
  | (i, o) :: l => match t.get i with
    | some p => match sameO p o with
      | true => holds t l
      | false => false
    | none => false

theorem holds_mem {t : Tr AO} : ∀ {l : List (Nat × AO)}, holds t l = true → ∀ i o, (i, o) ∈ l → t.get i = some o
  | [], _, i, o, h => by simp at h
  | (j, p) :: l, h, i, o, hm => by
    simp only [holds] at h
    split at h <;> try (simp at h; done)
    rename_i q hq
    split at h <;> try (simp at h; done)
    rename_i hs
    rcases List.mem_cons.1 hm with he | he
    · cases he; rw [hq, sameO_eq hs]
    · exact holds_mem h i o he

def shut (K : Nat → Bool) : List (Nat × AO) → Bool
  | [] => true
  | (_, o) :: l => match closedO K o with
    | true => shut K l
    | false => false

theorem shut_mem {K : Nat → Bool} : ∀ {l : List (Nat × AO)}, shut K l = true → ∀ i o, (i, o) ∈ l → ClosedO K o
  | [], _, i, o, h => by simp at h
  | (j, p) :: l, h, i, o, hm => by
    simp only [shut] at h
    split at h <;> try (simp at h; done)
    rename_i hs
    rcases List.mem_cons.1 hm with he | he
    · cases he; exact closedO_spec hs
    · exact shut_mem h i o he

/-- All keys (below a bound) are of a set. -/
def keysIn (b : Nat) (K : Nat → Bool) : List (Nat × AO) → Bool
  | [] => true
  | (i, _) :: l => match i.blt b with
    | false => keysIn b K l
    | true => match K i with
      | true => keysIn b K l
      | false => false

theorem keysIn_mem {b : Nat} {K : Nat → Bool} : ∀ {l : List (Nat × AO)}, keysIn b K l = true → ∀ i o, (i, o) ∈ l → i < b → K i = true
  | [], _, i, o, h => by simp at h
  | (j, p) :: l, h, i, o, hm => by
    simp only [keysIn] at h
    intro hi
    rcases List.mem_cons.1 hm with he | he
    · cases he
      split at h
      · rename_i hb; have := blt_ge hb; omega
      · split at h <;> first | assumption | (simp at h; done)
    · split at h
      · exact keysIn_mem h i o he hi
      · split at h
        · exact keysIn_mem h i o he hi
        · simp at h

def Ent.K (e : Ent) : Nat → Bool := fun i => (lay e.ks .leaf).has i
def Ent.M (e : Ent) : Nat → Bool := fun i => (lay e.ms .leaf).has i

/-- The call is as it is told. -/
def Ent.okAt (e : Ent) (k m : Tr AO) (r : Rec) : Bool :=
  match r.call e.g e.args ⟨k, e.ctr⟩ with
  | none => false
  | some (v, s') => match sameV v e.v with
    | false => false
    | true => match s'.ctr.beq e.ctr' with
      | false => false
      | true => match holds s'.heap e.ms with
        | false => false
        | true => okVs (fun i => k.has i) e.args && (okV (fun i => m.has i) e.v && (shut (fun i => k.has i) e.ks && (shut (fun i => m.has i) e.ms && (keysIn e.ctr (fun i => k.has i) e.ms && keysIn (e.ctr + 1) (fun i => m.has i) e.ks))))

def Ent.ok (e : Ent) (r : Rec) : Bool := e.okAt (lay e.ks .leaf) (lay e.ms .leaf) r

/-- Does the call that is told stand for this one? -/
def Ent.hit (e : Ent) (g : FuncId) (args : List AV) (h : Tr AO) : Bool :=
  match g.beq e.g with
  | false => false
  | true => match sameVs args e.args with
    | false => false
    | true => holds h e.ks

/-- Where a call that is told is asked for: at which counter, and the counter behind it. -/
structure Use where
  at_ : Nat
  e : Ent
  after : Nat

def keysBelow (b : Nat) : List (Nat × AO) → Bool
  | [] => true
  | (i, _) :: l => match i.blt b with
    | true => keysBelow b l
    | false => false

theorem keysBelow_mem {b : Nat} : ∀ {l : List (Nat × AO)}, keysBelow b l = true → ∀ i o, (i, o) ∈ l → i < b
  | [], _, i, o, h => by simp at h
  | (j, p) :: l, h, i, o, hm => by
    simp only [keysBelow] at h
    split at h <;> try (simp at h; done)
    rename_i hb
    rcases List.mem_cons.1 hm with he | he
    · cases he; exact blt_lt hb
    · exact keysBelow_mem h i o he

/-- At its own counter; or further on, where nothing that it makes is kept. -/
def Use.fine (u : Use) : Bool :=
  match u.at_.beq u.e.ctr with
  | true => u.after.beq u.e.ctr'
  | false => u.e.ctr.ble u.at_ && (u.at_.ble u.after && (keysBelow u.e.ctr u.e.ms && keysBelow u.e.ctr u.e.ks))

section
variable (T : TT) (G : Globs) (F : FT)

/-- Calls that are told are not made. -/
def callAsk (O : Nat → Option Use) (r : Rec) (g : FuncId) (args : List AV) (s : St) : Option (AV × St) :=
  match O s.ctr with
  | none => callStep T G F r g args s
  | some u => match u.e.hit g args s.heap with
    | false => callStep T G F r g args s
    | true => match lay u.e.ms s.heap with
      | .leaf => some (u.e.v, ⟨.leaf, u.after⟩)
      | .node l x r => some (u.e.v, ⟨.node l x r, u.after⟩)

def askRun (O : Nat → Option Use) : Nat → Rec
  | 0 => ⟨fun _ _ _ _ => none, fun _ _ _ _ _ => none, fun _ _ _ => none, fun _ _ _ _ => none⟩
  | n + 1 => ⟨fun c cx f s => codeStep T G (askRun O n) c cx f s, fun b c cx f s => scopeStep (askRun O n) b c cx f s, fun g args s => callAsk T G F O (askRun O n) g args s, fun b cx f s => loopStep (askRun O n) b cx f s⟩
end

section
variable {P : Program} {T : TT} {G : Globs} {F : FT}

/-- What is told of a call holds of it. -/
def Ent.Good (P : Program) (G : Globs) (F : FT) (e : Ent) : Prop := ∃ r, (∀ B, Sound P G F B r) ∧ e.ok r = true

theorem Ent.sound {B : Nat} {e : Ent} (hg : e.Good P G F) {g : FuncId} {args : List AV} {S : St} {after : Nat} (hc : Use.fine ⟨S.ctr, e, after⟩ = true) (hh : e.hit g args S.heap = true) :
    (∃ fn, F g = some fn) ∧ Chunk P G B g args S e.v ⟨lay e.ms S.heap, after⟩ := by
  have hce : e.ctr ≤ S.ctr := by
    unfold Use.fine at hc
    split at hc
    · rename_i h; exact Nat.le_of_eq (beq_iff.1 h).symm
    · simp only [Bool.and_eq_true] at hc; exact Nat.le_of_ble_eq_true hc.1
  obtain ⟨r, hr, hok⟩ := hg
  unfold Ent.hit at hh
  split at hh <;> try (simp at hh; done)
  rename_i hgg
  split at hh <;> try (simp at hh; done)
  rename_i hargs
  obtain rfl : g = e.g := beq_iff.1 hgg
  obtain rfl : args = e.args := sameVs_eq hargs
  unfold Ent.ok Ent.okAt at hok
  split at hok <;> try (simp at hok; done)
  rename_i v s' hrun
  split at hok <;> try (simp at hok; done)
  rename_i hv
  split at hok <;> try (simp at hok; done)
  rename_i hct
  split at hok <;> try (simp at hok; done)
  rename_i hms
  simp only [Bool.and_eq_true] at hok
  obtain ⟨k1, k2, k3, k4, k5, k6⟩ := hok
  obtain rfl : v = e.v := sameV_eq hv
  have hct' : s'.ctr = e.ctr' := beq_iff.1 hct
  refine ⟨(hr 0).fn _ _ _ _ hrun, ?_⟩
  intro ρ w as kind cs hR ha
  have hK : ∀ id, e.K id = true ↔ ∃ o, (id, o) ∈ e.ks := has_lay e.ks
  have hM : ∀ id, e.M id = true ↔ ∃ o, (id, o) ∈ e.ms := has_lay e.ms
  have hsK : ∀ id, e.K id = true → (lay e.ks .leaf).get id = S.heap.get id := by
    intro id hid
    obtain ⟨o, h1, h2⟩ := lay_mem e.ks .leaf id ((hK id).1 hid)
    rw [h2, holds_mem hh id o h1]
  have hsw : Rel G B (ρ.on e.K) ⟨lay e.ks .leaf, e.ctr⟩ w := by
    refine ⟨fun id m b κ hm => ?_, fun id m b κ id' m' κ' h1 h2 => hR.inj _ _ _ _ _ _ _ (Ren.on_le _ _ _ _ _ h1) (Ren.on_le _ _ _ _ _ h2), hR.size, hR.glob⟩
    have hKi : e.K id = true := by
      unfold Ren.on at hm
      cases hk : e.K id with
      | true => rfl
      | false => rw [hk] at hm; simp at hm
    obtain ⟨p, hp⟩ := (hK id).1 hKi
    obtain ⟨q1, q2, o, c, q3, q4, q5⟩ := hR.obj _ _ _ _ (Ren.on_le _ _ _ _ _ hm)
    refine ⟨?_, q2, o, c, by show (lay e.ks .leaf).get id = _; rw [hsK id hKi]; exact q3, q4, q5.on ?_⟩
    · unfold Use.fine at hc
      split at hc
      · rename_i h; have := beq_iff.1 h; simp only at this ⊢; omega
      · simp only [Bool.and_eq_true] at hc; exact keysBelow_mem hc.2.2.2 id p hp
    · have := holds_mem hh id p hp
      rw [q3] at this
      obtain rfl : o = p := by simpa using this
      exact shut_mem k3 id o hp
  obtain ⟨ρ', w', fr, u, c1, c2, c3, c4, c5, c6⟩ := (hr B).call _ _ _ _ _ hrun (ρ.on e.K) w as kind cs hsw (ha.on k1)
  have hs' : ∀ id, e.M id = true → ∀ (t : Tr AO), (lay e.ms t).get id = s'.heap.get id := by
    intro id hid t
    obtain ⟨o, h1, h2⟩ := lay_mem e.ms t id ((hM id).1 hid)
    rw [h2, holds_mem hms id o h1]
  have hcl' : ∀ id o, e.M id = true → s'.heap.get id = some o → ClosedO e.M o := by
    intro id o hid ho
    obtain ⟨p, hp⟩ := (hM id).1 hid
    have := holds_mem hms id p hp
    rw [ho] at this
    obtain rfl : o = p := by simpa using this
    exact shut_mem k4 id o hp
  have hoth : ∀ id, e.M id = false → id < S.ctr → (lay e.ms S.heap).get id = S.heap.get id := by
    intro id hid _
    refine lay_other _ _ _ fun hex => ?_
    rw [(hM id).2 hex] at hid; simp at hid
  have hMK : ∀ id, id < e.ctr → e.M id = e.K id := by
    intro id hid
    cases hk : e.K id with
    | true =>
      obtain ⟨o, ho⟩ := (hK id).1 hk
      exact keysIn_mem k6 id o ho (by omega)
    | false =>
      cases hm : e.M id with
      | false => rfl
      | true =>
        obtain ⟨o, ho⟩ := (hM id).1 hm
        have := keysIn_mem k5 id o ho (by omega)
        have hk' : (lay e.ks .leaf).has id = false := hk
        rw [hk'] at this; simp at this
  suffices hlay : Rel G B (ρ.over ρ' e.M) ⟨lay e.ms S.heap, after⟩ w' ∧ Ext B ρ S w (ρ.over ρ' e.M) ⟨lay e.ms S.heap, after⟩ w' ∧ (ρ'.on e.M).le (ρ.over ρ' e.M) by
    obtain ⟨q1, q2, q3⟩ := hlay
    exact ⟨_, w', fr, u, c1, c2, c3, (c4.on k2).mono q3, q1, q2⟩
  unfold Use.fine at hc
  split at hc
  · rename_i hce'
    have hce2 : S.ctr = e.ctr := beq_iff.1 hce'
    have haf : after = e.ctr' := beq_iff.1 hc
    exact lay_back (K := e.K) hR hce2.symm (fun id hid => hsK id hid) (fun id hid => hMK id (by omega)) c5 c6 hcl' (fun id hid => hs' id hid _) hoth (by rw [hct', haf])
  · simp only [Bool.and_eq_true] at hc
    obtain ⟨_, d2, d3, d4⟩ := hc
    have hlow : ∀ id, e.M id = true → id < e.ctr := by
      intro id hid
      obtain ⟨o, ho⟩ := (hM id).1 hid
      exact keysBelow_mem d3 id o ho
    refine lay_back2 (K := e.K) hR (by exact hce) (fun id hid => hsK id hid) (fun id => ?_) hlow c5 c6 hcl' (fun id hid => hs' id hid _) hoth (Nat.le_of_ble_eq_true d2)
    by_cases hid : id < e.ctr
    · exact hMK id hid
    · cases hm : e.M id with
      | true => exact absurd (hlow id hm) hid
      | false =>
        cases hk : e.K id with
        | false => rfl
        | true =>
          obtain ⟨o, ho⟩ := (hK id).1 hk
          exact absurd (keysBelow_mem d4 id o ho) hid

variable (hT : TOk P T) (hF : FOk P F) {B : Nat}

include hT hF in
theorem callAsk_step {r : Rec} (hr : Sound P G F B r) {O : Nat → Option Use} (hO : ∀ c u, O c = some u → u.e.Good P G F ∧ u.at_ = c ∧ u.fine = true) (g : FuncId) (args : List AV) (s : St) (v : AV) (s' : St)
    (h : callAsk T G F O r g args s = some (v, s')) : (∃ fn, F g = some fn) ∧ Chunk P G B g args s v s' := by
  have key : callStep T G F r g args s = some (v, s') → (∃ fn, F g = some fn) ∧ Chunk P G B g args s v s' := by
    intro h
    refine ⟨?_, fun ρ w as kind cs => call_step hT hF hr g args s v s' h ρ w as kind cs⟩
    unfold callStep at h
    cases hg : F g with
    | none => rw [hg] at h; simp at h
    | some fn => exact ⟨fn, rfl⟩
  unfold callAsk at h
  split at h
  · exact key h
  · rename_i u he
    obtain ⟨h1, h2, h3⟩ := hO _ _ he
    split at h
    · exact key h
    · rename_i hh
      have hs : some (u.e.v, (⟨lay u.e.ms s.heap, u.after⟩ : St)) = some (v, s') := by
        rw [← h]; cases lay u.e.ms s.heap <;> rfl
      simp at hs
      obtain ⟨rfl, rfl⟩ := hs
      obtain ⟨at_, e, after⟩ := u
      simp only at h2
      subst h2
      exact Ent.sound h1 h3 hh

include hT hF in
theorem askRun_sound (hm : P.follows .mixedOrders = true) {O : Nat → Option Use} (hO : ∀ c u, O c = some u → u.e.Good P G F ∧ u.at_ = c ∧ u.fine = true) : ∀ n, Sound P G F B (askRun T G F O n)
  | 0 => ⟨fun _ _ _ _ h => by simp [askRun] at h, fun _ _ _ _ _ _ _ h => by simp [askRun] at h, fun _ _ _ _ _ _ _ _ h => by simp [askRun] at h, fun _ _ _ _ _ h => by simp [askRun] at h, fun _ _ _ _ _ _ _ h => by simp [askRun] at h⟩
  | n + 1 => by
    have ih := askRun_sound hm hO n
    refine ⟨?_, code_step hT hF (draw_sound hT hF hm) ih, scope_step ih, ?_, loop_step ih⟩
    · intro g args s x h
      obtain ⟨v, s'⟩ := x
      exact (callAsk_step hT hF ih hO g args s v s' h).1
    · intro g args s v s' h
      exact (callAsk_step hT hF ih hO g args s v s' h).2

/-- Uses laid in a table by their counters. -/
def useTr : List Use → Tr Use
  | [] => .leaf
  | u :: l => (useTr l).set u.at_ u

theorem useTr_get : ∀ (l : List Use) (c : Nat) (u : Use), (useTr l).get c = some u → u ∈ l ∧ u.at_ = c
  | [], c, u, h => by simp [useTr, Tr.get_leaf] at h
  | d :: l, c, u, h => by
    simp only [useTr, Tr.get_set] at h
    split at h
    · rename_i hc; simp at h; subst h; exact ⟨List.mem_cons_self, hc⟩
    · obtain ⟨h1, h2⟩ := useTr_get l c u h; exact ⟨List.mem_cons_of_mem _ h1, h2⟩

def allFine : List Use → Bool
  | [] => true
  | u :: l => match u.fine with
    | true => allFine l
    | false => false

inductive AllGood (P : Program) (G : Globs) (F : FT) : List Use → Prop
  | nil : AllGood P G F []
  | cons {u : Use} {l : List Use} (h : u.e.Good P G F) (t : AllGood P G F l) : AllGood P G F (u :: l)

theorem AllGood.mem : ∀ {l : List Use}, AllGood P G F l → ∀ u, u ∈ l → u.e.Good P G F
  | _, .nil, e, h => by simp at h
  | _, .cons h t, e, hm => by
    rcases List.mem_cons.1 hm with rfl | hm
    · exact h
    · exact t.mem e hm

theorem allFine_mem : ∀ {l : List Use}, allFine l = true → ∀ u, u ∈ l → u.fine = true
  | [], _, u, h => by simp at h
  | d :: l, h, u, hm => by
    simp only [allFine] at h
    split at h <;> try (simp at h; done)
    rename_i hd
    rcases List.mem_cons.1 hm with rfl | hm
    · exact hd
    · exact allFine_mem h u hm

/-- An entry is as it is told, by a machine that asks some others. -/
def Ent.okBy (T : TT) (G : Globs) (F : FT) (e : Ent) (l : List Use) (n : Nat) : Bool :=
  match allFine l with
  | false => false
  | true => e.ok (askRun T G F (fun c => (useTr l).get c) n)

include hT hF in
theorem Ent.good (hm : P.follows .mixedOrders = true) {l : List Use} (hl : AllGood P G F l) {e : Ent} {n : Nat} (h : e.okBy T G F l n = true) : e.Good P G F := by
  unfold Ent.okBy at h
  split at h
  · simp at h
  · rename_i hf
    exact ⟨_, fun _ => askRun_sound hT hF hm (fun c u hu => let ⟨h1, h2⟩ := useTr_get l c u hu; ⟨hl.mem u h1, h2, allFine_mem hf u h1⟩) n, h⟩

/-- The table is told of a call from an empty heap: what it says, holds. -/
theorem Ent.calls {e : Ent} (hg : e.Good P G F) (hk : e.ks = []) (ha0 : e.args = []) (hc : e.ctr = 0) {w : World}
    (hG : ∀ g l, G g = some l → ∃ cs e fz, w.heap[g]? = some (.cells cs e fz) ∧ ∀ (j : Nat) (x : AV), l[j]? = some x → ∃ v, cs[j]? = some v ∧ VR (fun _ _ => none) x v)
    :
    Calls P e.g #[] w fun y w' => ∃ ρ u s', y = .returned u ∧ VR ρ e.v u ∧ Rel G w.heap.size ρ s' w' ∧ Below w.heap.size w w' := by
  intro cs
  have hh : e.hit e.g e.args (⟨.leaf, 0⟩ : St).heap = true := by
    obtain ⟨r, hr, hok⟩ := hg
    unfold Ent.hit
    have h1 : Nat.beq e.g e.g = true := beq_iff.2 rfl
    have h2 : sameVs e.args e.args = true := by rw [ha0]; rfl
    rw [h1, h2, hk]; rfl
  obtain ⟨_, h2⟩ := Ent.sound (B := w.heap.size) hg (S := ⟨.leaf, 0⟩) (after := e.ctr') (by unfold Use.fine; simp [hc]) hh
  obtain ⟨ρ', w', fr, u, c1, c2, c3, c4, c5, c6⟩ := h2 (fun _ _ => none) w #[] .normal cs (Rel.start hG) (by rw [ha0]; exact .nil)
  exact ⟨.returned u, w', fr, ⟨ρ', u, _, rfl, c4, c5, c6.below⟩, c1, c3, c2.mode, c2.defers, c2.kind, c2.fn⟩
end
end Go.AM
