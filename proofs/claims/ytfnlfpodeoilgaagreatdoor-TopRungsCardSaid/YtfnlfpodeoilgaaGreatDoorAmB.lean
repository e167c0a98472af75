/- The abstract machine, part B: heap objects, states, and what it says that a world is one of a state. No condition. -/
import Derived.Test.YtfnlfpodeoilgaaGreatDoorAmA
set_option linter.all false
noncomputable section
namespace Go.AM
open Go.RowKit (Below)

/-! Lists, laid whole where they are written. -/
def nth {α : Type} : List α → Nat → Option α
  | [], _ => none
  | x :: xs, n => match n.beq 0 with
    | true => some x
    | false => nth xs (n - 1)

theorem nth_eq {α : Type} : ∀ (l : List α) (n : Nat), nth l n = l[n]?
  | [], n => by simp [nth]
  | x :: xs, 0 => rfl
  | x :: xs, n + 1 => by simp only [nth, Nat.beq, Nat.add_sub_cancel]; rw [nth_eq xs n]; simp

/-- `new` laid over the head of a list; none: the list is too short. -/
def over {α : Type} : List α → List α → Option (List α)
  | [], l => some l
  | _ :: _, [] => none
  | v :: vs, _ :: xs => match over vs xs with
    | none => none
    | some r => some (v :: r)

def splice {α : Type} : List α → Nat → List α → Option (List α)
  | l, 0, new => over new l
  | [], _ + 1, _ => none
  | x :: xs, n + 1, new => match splice xs n new with
    | none => none
    | some r => some (x :: r)

theorem over_spec {α : Type} : ∀ (new l r : List α), over new l = some r → new.length ≤ l.length ∧ r = new ++ l.drop new.length
  | [], l, r, h => by simp [over] at h; subst h; simp
  | v :: vs, [], r, h => by simp [over] at h
  | v :: vs, x :: xs, r, h => by
    simp only [over] at h
    cases ho : over vs xs with
    | none => rw [ho] at h; simp at h
    | some r' =>
      rw [ho] at h; simp at h; subst h
      obtain ⟨h1, h2⟩ := over_spec vs xs r' ho
      exact ⟨by simpa using h1, by simp [h2]⟩

theorem splice_spec {α : Type} : ∀ (l : List α) (n : Nat) (new r : List α), splice l n new = some r →
    n + new.length ≤ l.length ∧ r = l.take n ++ new ++ l.drop (n + new.length)
  | l, 0, new, r, h => by
    simp only [splice] at h
    obtain ⟨h1, h2⟩ := over_spec new l r h
    exact ⟨by omega, by simp [h2]⟩
  | [], n + 1, new, r, h => by simp [splice] at h
  | x :: xs, n + 1, new, r, h => by
    simp only [splice] at h
    cases ho : splice xs n new with
    | none => rw [ho] at h; simp at h
    | some r' =>
      rw [ho] at h; simp at h; subst h
      obtain ⟨h1, h2⟩ := splice_spec xs n new r' ho
      refine ⟨by simp; omega, ?_⟩
      rw [h2]
      have : n + 1 + new.length = (n + new.length) + 1 := by omega
      simp [this]

/-! Objects. -/
inductive ADef where
  | call (fn : Fn) (captured args : List AV)
  | collected (id : Nat)
  deriving Inhabited

structure ALoop where
  state : LoopState
  pending : Option Code
  fn : FuncId
  env : Tr AV
  n : Nat
  params : Array Tmp
  assign : Code
  body : Code
  dfr : Nat

inductive AO where
  | row (esz n : Nat) (t : Tr (List AV))
  | fam (esz n cur : Nat) (t : Tr (Nat × List AV))
  | mp (es : List (AV × AV × Nat)) (clock : Nat)
  | loop (l : ALoop)
  | dfr (ds : Option (List ADef))
  | iter (mp since : Nat) (seen : List Nat) (stepped : Nat)

def AO.esz : AO → Nat
  | .row esz _ _ | .fam esz _ _ _ => esz
  | _ => 0

/-- The element i of a block, as the member m sees it. -/
def AO.elem (o : AO) (m i : Nat) : Option (List AV) :=
  match o with
  | .row _ n t => match i.blt n with
    | true => t.get i
    | false => none
  | .fam _ n _ t => match i.blt n with
    | true => match t.get i with
      | some (s, l) => match s.ble m with
        | true => some l
        | false => none
      | none => none
    | false => none
  | _ => none

/-- The element i of a block, written by the member m. -/
def AO.setElem (o : AO) (m i : Nat) (l : List AV) : Option AO :=
  match o with
  | .row esz n t => match i.blt n with
    | true => some (.row esz n (t.set i l))
    | false => none
  | .fam esz n cur t => match i.blt n with
    | true => match m.beq cur with
      | true => some (.fam esz n cur (t.set i (cur, l)))
      | false => none
    | false => none
  | _ => none

def EnvR (ρ : Ren) (env : Tr AV) (n : Nat) (tm : Array Value) : Prop :=
  tm.size = n ∧ ∀ t x, env.get t = some x → ∃ v, tm[t]? = some v ∧ VR ρ x v

theorem EnvR.mono {ρ ρ' : Ren} (hle : ρ.le ρ') {env : Tr AV} {n : Nat} {tm : Array Value} (h : EnvR ρ env n tm) : EnvR ρ' env n tm :=
  ⟨h.1, fun t x hx => let ⟨v, hv, hr⟩ := h.2 t x hx; ⟨v, hv, hr.mono hle⟩⟩

inductive EntR (ρ : Ren) : AV × AV × Nat → MapEntry → Prop
  | mk {k v : AV} {k' v' : Value} {b : Nat} (hk : VR ρ k k') (hv : VR ρ v v') : EntR ρ (k, v, b) ⟨k', v', b⟩

inductive EntsR (ρ : Ren) : List (AV × AV × Nat) → List MapEntry → Prop
  | nil : EntsR ρ [] []
  | cons {x : AV × AV × Nat} {e : MapEntry} {xs : List (AV × AV × Nat)} {es : List MapEntry} (h : EntR ρ x e) (t : EntsR ρ xs es) : EntsR ρ (x :: xs) (e :: es)

theorem EntsR.mono {ρ ρ' : Ren} (hle : ρ.le ρ') {xs es} (h : EntsR ρ xs es) : EntsR ρ' xs es := by
  induction h with
  | nil => exact .nil
  | cons h t ih => cases h with | mk hk hv => exact .cons (.mk (hk.mono hle) (hv.mono hle)) ih

inductive DefR (ρ : Ren) : ADef → Deferred → Prop
  | call {fn : Fn} {cap args : List AV} {cap' args' : List Value} (hc : VRs ρ cap cap') (ha : VRs ρ args args') (hf : ∀ l, fn ≠ .yield l) :
      DefR ρ (.call fn cap args) ⟨.fn fn ⟨cap'⟩, ⟨args'⟩⟩
  | collected {id b κ : Nat} (h : ρ id 0 = some (b, κ)) : DefR ρ (.collected id) ⟨.collected b, #[]⟩

theorem DefR.mono {ρ ρ' : Ren} (hle : ρ.le ρ') {x d} (h : DefR ρ x d) : DefR ρ' x d := by
  cases h with
  | call hc ha hf => exact .call (hc.mono hle) (ha.mono hle) hf
  | collected h => exact .collected (hle _ _ _ h)

inductive DefsR (ρ : Ren) : List ADef → List Deferred → Prop
  | nil : DefsR ρ [] []
  | cons {x : ADef} {d : Deferred} {xs : List ADef} {ds : List Deferred} (h : DefR ρ x d) (t : DefsR ρ xs ds) : DefsR ρ (x :: xs) (d :: ds)

theorem DefsR.mono {ρ ρ' : Ren} (hle : ρ.le ρ') {xs ds} (h : DefsR ρ xs ds) : DefsR ρ' xs ds := by
  induction h with
  | nil => exact .nil
  | cons h t ih => exact .cons (h.mono hle) ih

theorem DefsR.append {ρ : Ren} {xs ds ys es} (h : DefsR ρ xs ds) (h' : DefsR ρ ys es) : DefsR ρ (xs ++ ys) (ds ++ es) := by
  induction h with
  | nil => exact h'
  | cons h t ih => exact .cons h ih

structure LoopR (ρ : Ren) (l : ALoop) (r : Loop) : Prop where
  state : r.state = l.state
  pending : r.pending = l.pending
  fn : r.fn = l.fn
  tmps : EnvR ρ l.env l.n r.tmps
  params : r.params = l.params
  assign : r.assign = l.assign
  body : r.body = l.body
  dfr : ∃ κ, ρ l.dfr 0 = some (r.defers, κ)

theorem LoopR.mono {ρ ρ' : Ren} (hle : ρ.le ρ') {l r} (h : LoopR ρ l r) : LoopR ρ' l r :=
  ⟨h.state, h.pending, h.fn, h.tmps.mono hle, h.params, h.assign, h.body, let ⟨κ, hk⟩ := h.dfr; ⟨κ, hle _ _ _ hk⟩⟩

def ElemsR (ρ : Ren) (o : AO) (m : Nat) (cs : Array Value) : Prop :=
  ∀ i l, o.elem m i = some l → l.length = o.esz ∧ ∀ (j : Nat) (x : AV), l[j]? = some x → ∃ v, cs[i * o.esz + j]? = some v ∧ VR ρ x v

theorem ElemsR.mono {ρ ρ' : Ren} (hle : ρ.le ρ') {o m cs} (h : ElemsR ρ o m cs) : ElemsR ρ' o m cs :=
  fun i l hl => ⟨(h i l hl).1, fun j x hx => let ⟨v, hv, hr⟩ := (h i l hl).2 j x hx; ⟨v, hv, hr.mono hle⟩⟩

def OR (ρ : Ren) (o : AO) (m κ : Nat) (c : Obj) : Prop :=
  match o with
  | .row esz n _ => m = 0 ∧ ∃ cs e, c = .cells cs e (0, 0) ∧ cs.size = n * esz ∧ ElemsR ρ o m cs
  | .fam esz _ cur t => m ≤ cur ∧ (0 < esz ∧ ∀ i st l, t.get i = some (st, l) → st ≤ cur) ∧ ∃ cs e, c = .cells cs e (0, 0) ∧ cs.size = κ * esz ∧ ElemsR ρ o m cs
  | .mp es clock => m = 0 ∧ ∃ es', c = .map es' clock ∧ EntsR ρ es es'.toList
  | .loop l => m = 0 ∧ ∃ r, c = .loop r ∧ LoopR ρ l r
  | .dfr none => m = 0 ∧ c = .deferred none
  | .dfr (some ds) => m = 0 ∧ ∃ ds', c = .deferred (some ds') ∧ DefsR ρ ds ds'
  | .iter mp since seen stepped => m = 0 ∧ ∃ b κ', ρ mp 0 = some (b, κ') ∧ c = .mapIter (some b) since ⟨seen⟩ stepped

theorem OR.mono {ρ ρ' : Ren} (hle : ρ.le ρ') {o m κ c} (h : OR ρ o m κ c) : OR ρ' o m κ c := by
  cases o with
  | row => obtain ⟨h1, cs, e, hc, hs, hE⟩ := h; exact ⟨h1, cs, e, hc, hs, hE.mono hle⟩
  | fam => obtain ⟨h1, hz, cs, e, hc, hs, hE⟩ := h; exact ⟨h1, hz, cs, e, hc, hs, hE.mono hle⟩
  | mp => obtain ⟨h1, es', hc, hE⟩ := h; exact ⟨h1, es', hc, hE.mono hle⟩
  | loop => obtain ⟨h1, r, hc, hE⟩ := h; exact ⟨h1, r, hc, hE.mono hle⟩
  | dfr ds => cases ds with
    | none => exact h
    | some ds => obtain ⟨h1, r, hc, hE⟩ := h; exact ⟨h1, r, hc, hE.mono hle⟩
  | iter => obtain ⟨h1, b, κ', hb, hc⟩ := h; exact ⟨h1, b, κ', hle _ _ _ hb, hc⟩

structure St where
  heap : Tr AO
  ctr : Nat

/-- What is known of the package-level variables: the cells of some. -/
abbrev Globs := Nat → Option (List AV)

structure Rel (G : Globs) (B : Nat) (ρ : Ren) (s : St) (w : World) : Prop where
  obj : ∀ id m b κ, ρ id m = some (b, κ) → id < s.ctr ∧ B ≤ b ∧ ∃ o c, s.heap.get id = some o ∧ w.heap[b]? = some c ∧ OR ρ o m κ c
  inj : ∀ id m b κ id' m' κ', ρ id m = some (b, κ) → ρ id' m' = some (b, κ') → id = id' ∧ κ = κ'
  size : B ≤ w.heap.size
  glob : ∀ g l, G g = some l → g < B ∧ ∃ cs e fz, w.heap[g]? = some (.cells cs e fz) ∧ ∀ (j : Nat) (x : AV), l[j]? = some x → ∃ v, cs[j]? = some v ∧ VR (fun _ _ => none) x v

structure Ext (B : Nat) (ρ : Ren) (s : St) (w : World) (ρ' : Ren) (s' : St) (w' : World) : Prop where
  le : ρ.le ρ'
  new : ∀ id m x, ρ' id m = some x → (∃ m' x', ρ id m' = some x') ∨ s.ctr ≤ id
  ctr : s.ctr ≤ s'.ctr
  keep : ∀ id, id < s.ctr → (∀ m, ρ id m = none) → s'.heap.get id = s.heap.get id
  below : Below B w w'
  newb : ∀ id m b κ, ρ' id m = some (b, κ) → (∃ m', ρ id m' = some (b, κ)) ∨ w.heap.size ≤ b
  frame : ∀ b, b < w.heap.size → (∀ id m κ, ρ id m ≠ some (b, κ)) → w'.heap[b]? = w.heap[b]?

theorem Ext.refl (B : Nat) (ρ : Ren) (s : St) (w : World) : Ext B ρ s w ρ s w :=
  ⟨.refl _, fun _ m x h => .inl ⟨m, x, h⟩, Nat.le_refl _, fun _ _ _ => rfl, .refl _ _, fun _ m _ _ h => .inl ⟨m, h⟩, fun _ _ _ => rfl⟩

theorem Ext.trans {B : Nat} {ρ ρ' ρ'' : Ren} {s s' s'' : St} {w w' w'' : World} (h : Ext B ρ s w ρ' s' w') (h' : Ext B ρ' s' w' ρ'' s'' w'') : Ext B ρ s w ρ'' s'' w'' := by
  refine ⟨h.le.trans h'.le, ?_, Nat.le_trans h.ctr h'.ctr, ?_, h.below.trans h'.below, ?_, ?_⟩
  · intro id m x hx
    rcases h'.new id m x hx with ⟨m', x', h1⟩ | h1
    · rcases h.new id m' x' h1 with h2 | h2
      · exact .inl h2
      · exact .inr h2
    · exact .inr (Nat.le_trans h.ctr h1)
  · intro id hid hno
    have hno' : ∀ m, ρ' id m = none := by
      intro m
      cases hm : ρ' id m with
      | none => rfl
      | some x =>
        rcases h.new id m x hm with ⟨m', x', h1⟩ | h1
        · rw [hno m'] at h1; simp at h1
        · omega
    rw [h'.keep id (Nat.lt_of_lt_of_le hid h.ctr) hno', h.keep id hid hno]
  · intro id m b κ hx
    rcases h'.newb id m b κ hx with ⟨m', h1⟩ | h1
    · exact h.newb id m' b κ h1
    · exact .inr (Nat.le_trans h.below.size h1)
  · intro b hb hno
    rw [h'.frame b (Nat.lt_of_lt_of_le hb h.below.size) fun id m κ hx => ?_, h.frame b hb hno]
    rcases h.newb id m b κ hx with ⟨m', h1⟩ | h1
    · exact hno id m' κ h1
    · omega

def Ren.add (ρ : Ren) (id m b κ : Nat) : Ren := fun i n => if i = id ∧ n = m then some (b, κ) else ρ i n

theorem Ren.add_same (ρ : Ren) (id m b κ : Nat) : ρ.add id m b κ id m = some (b, κ) := by simp [Ren.add]
theorem Ren.le_add {ρ : Ren} {id m b κ : Nat} (h : ρ id m = none) : ρ.le (ρ.add id m b κ) := by
  intro i n x hx
  unfold Ren.add
  split
  · rename_i he; obtain ⟨rfl, rfl⟩ := he; rw [h] at hx; simp at hx
  · exact hx
theorem Ren.add_cases {ρ : Ren} {id m b κ i n : Nat} {x : Nat × Nat} (h : ρ.add id m b κ i n = some x) : (i = id ∧ n = m ∧ x = (b, κ)) ∨ ρ i n = some x := by
  unfold Ren.add at h
  split at h
  · rename_i he; exact .inl ⟨he.1, he.2, by simpa using h.symm⟩
  · exact .inr h

def St.alloc (s : St) (o : AO) : St := ⟨s.heap.set s.ctr o, s.ctr + 1⟩
def St.put (s : St) (id : Nat) (o : AO) : St := ⟨s.heap.set id o, s.ctr⟩

theorem Rel.fresh {G B ρ s w} (h : Rel G B ρ s w) (m : Nat) : ρ s.ctr m = none := by
  cases hm : ρ s.ctr m with
  | none => rfl
  | some x => obtain ⟨b, κ⟩ := x; exact absurd (h.obj _ _ _ _ hm).1 (by omega)

theorem Rel.block_lt {G B ρ s w} (h : Rel G B ρ s w) {id m b κ : Nat} (hm : ρ id m = some (b, κ)) : b < w.heap.size := by
  obtain ⟨_, _, _, c, _, hc, _⟩ := h.obj _ _ _ _ hm
  exact (Array.getElem?_eq_some_iff.1 hc).1

/-- A block is made: at an id that is free (fresh, or held back for it). -/
theorem Rel.make {G B ρ s w} (h : Rel G B ρ s w) {id κ : Nat} {o : AO} {c : Obj} {w' : World} (hw : w' = { w with heap := w.heap.push c })
    (hno : ∀ m, ρ id m = none) (hid : id < s.ctr) (ho : s.heap.get id = some o) (hO : OR (ρ.add id 0 w.heap.size κ) o 0 κ c) :
    Rel G B (ρ.add id 0 w.heap.size κ) s w' := by
  have hle : ρ.le (ρ.add id 0 w.heap.size κ) := Ren.le_add (hno 0)
  subst hw
  refine ⟨?_, ?_, ?_, ?_⟩
  · intro i m b k hm
    rcases Ren.add_cases hm with ⟨rfl, rfl, he⟩ | hm
    · simp at he; obtain ⟨rfl, rfl⟩ := he
      exact ⟨hid, h.size, o, c, ho, by simp, hO⟩
    · obtain ⟨h1, h2, o', c', h3, h4, h5⟩ := h.obj _ _ _ _ hm
      refine ⟨h1, h2, o', c', h3, ?_, h5.mono hle⟩
      have := h.block_lt hm
      simp only
      rw [Array.getElem?_push, if_neg (by omega)]; exact h4
  · intro i m b k i' m' k' h1 h2
    rcases Ren.add_cases h1 with ⟨e1, e2, he⟩ | g1 <;> rcases Ren.add_cases h2 with ⟨e3, e4, he'⟩ | g2
    · simp at he he'; exact ⟨by rw [e1, e3], by omega⟩
    · simp at he; exact absurd (h.block_lt g2) (by omega)
    · simp at he'; exact absurd (h.block_lt g1) (by omega)
    · exact h.inj _ _ _ _ _ _ _ g1 g2
  · simp; have := h.size; omega
  · intro g l hg
    obtain ⟨h1, cs, e, fz, h2, h3⟩ := h.glob g l hg
    refine ⟨h1, cs, e, fz, ?_, h3⟩
    have := h.size
    simp only
    rw [Array.getElem?_push, if_neg (by omega)]; exact h2

/-- An object that no block is of may be laid anywhere in the abstract heap. -/
theorem Rel.lay {G B ρ s w} (h : Rel G B ρ s w) {s' : St} (hc : s.ctr ≤ s'.ctr) (hk : ∀ id m x, ρ id m = some x → s'.heap.get id = s.heap.get id) : Rel G B ρ s' w := by
  refine ⟨?_, h.inj, h.size, h.glob⟩
  intro i m b k hm
  obtain ⟨h1, h2, o', c', h3, h4, h5⟩ := h.obj _ _ _ _ hm
  exact ⟨by omega, h2, o', c', by rw [hk _ _ _ hm]; exact h3, h4, h5⟩

theorem Below.push {B : Nat} {w : World} (hB : B ≤ w.heap.size) (c : Obj) : Below B w { w with heap := w.heap.push c } :=
  ⟨rfl, rfl, rfl, by simp, fun k hk => by simp only; rw [Array.getElem?_push, if_neg (by omega)]⟩

/-- A fresh block. -/
theorem Rel.alloc {G B ρ s w} (h : Rel G B ρ s w) {κ : Nat} {o : AO} {c : Obj} (hO : OR (ρ.add s.ctr 0 w.heap.size κ) o 0 κ c) :
    Rel G B (ρ.add s.ctr 0 w.heap.size κ) (s.alloc o) { w with heap := w.heap.push c } ∧
    Ext B ρ s w (ρ.add s.ctr 0 w.heap.size κ) (s.alloc o) { w with heap := w.heap.push c } := by
  have h1 : Rel G B ρ (s.alloc o) w := h.lay (by simp [St.alloc]) fun id m x hx => by
    obtain ⟨b, k⟩ := x
    have := (h.obj _ _ _ _ hx).1
    exact Tr.get_set_other _ _ (by omega)
  refine ⟨h1.make rfl h.fresh (by simp [St.alloc]) (Tr.get_set_same ..) hO, Ren.le_add (h.fresh 0), ?_, by simp [St.alloc], ?_, Below.push h.size c, ?_, ?_⟩
  · intro id m x hx
    rcases Ren.add_cases hx with ⟨rfl, rfl, he⟩ | hx
    · exact .inr (Nat.le_refl _)
    · exact .inl ⟨m, x, hx⟩
  · intro id hid _
    exact Tr.get_set_other _ _ (by omega)
  · intro id m b κ hx
    rcases Ren.add_cases hx with ⟨rfl, rfl, he⟩ | hx
    · simp at he; exact .inr (by omega)
    · exact .inl ⟨m, hx⟩
  · intro b hb _
    simp only
    rw [Array.getElem?_push, if_neg (by omega)]

/-- A block is written. -/
theorem Rel.write {G B ρ s w} (h : Rel G B ρ s w) {id m b κ : Nat} (hm : ρ id m = some (b, κ)) {o' : AO} {c' : Obj}
    (hsame : ∀ m', ρ id m' = some (b, κ) → OR ρ o' m' κ c')
    (hother : ∀ m' b' κ' c o, s.heap.get id = some o → ρ id m' = some (b', κ') → b' ≠ b → OR ρ o m' κ' c → OR ρ o' m' κ' c) :
    Rel G B ρ (s.put id o') { w with heap := w.heap.setIfInBounds b c' } ∧ Ext B ρ s w ρ (s.put id o') { w with heap := w.heap.setIfInBounds b c' } := by
  have hb := h.block_lt hm
  have hB := (h.obj _ _ _ _ hm).2.1
  refine ⟨⟨?_, h.inj, by simp; exact h.size, ?_⟩, .refl _, fun id m x hx => .inl ⟨m, x, hx⟩, Nat.le_refl _, ?_, ⟨rfl, rfl, rfl, by simp, ?_⟩, fun _ m _ _ h => .inl ⟨m, h⟩, ?_⟩
  · intro i n b₁ k₁ hn
    obtain ⟨h1, h2, o₁, c₁, h3, h4, h5⟩ := h.obj _ _ _ _ hn
    by_cases hbb : b₁ = b
    · subst hbb
      obtain ⟨rfl, rfl⟩ := h.inj _ _ _ _ _ _ _ hn hm
      exact ⟨h1, h2, o', c', Tr.get_set_same .., by simp [hb], hsame _ hn⟩
    · by_cases hid : i = id
      · subst hid
        exact ⟨h1, h2, o', c₁, Tr.get_set_same .., by simp only; rw [Array.getElem?_setIfInBounds_ne (Ne.symm hbb)]; exact h4, hother _ _ _ _ _ h3 hn hbb h5⟩
      · exact ⟨h1, h2, o₁, c₁, (Tr.get_set_other _ _ (Ne.symm hid)).trans h3, by simp only; rw [Array.getElem?_setIfInBounds_ne (Ne.symm hbb)]; exact h4, h5⟩
  · intro g l hg
    obtain ⟨h1, cs, e, fz, h2, h3⟩ := h.glob g l hg
    exact ⟨h1, cs, e, fz, by simp only; rw [Array.getElem?_setIfInBounds_ne (by omega)]; exact h2, h3⟩
  · intro i hi hno
    refine Tr.get_set_other _ _ ?_
    rintro rfl
    rw [hno m] at hm; simp at hm
  · intro k hk
    simp only
    rw [Array.getElem?_setIfInBounds_ne (by omega)]
  · intro k _ hno
    simp only
    rw [Array.getElem?_setIfInBounds_ne fun e => hno id m κ (by rw [hm, e])]

/-- An object that is no row of cells has one member. -/
theorem Rel.write1 {G B ρ s w} (h : Rel G B ρ s w) {id b κ : Nat} (hm : ρ id 0 = some (b, κ)) {o o' : AO} {c' : Obj} (ho : s.heap.get id = some o)
    (h1 : ∀ m κ c, OR ρ o m κ c → m = 0) (hO : OR ρ o' 0 κ c') :
    Rel G B ρ (s.put id o') { w with heap := w.heap.setIfInBounds b c' } ∧ Ext B ρ s w ρ (s.put id o') { w with heap := w.heap.setIfInBounds b c' } := by
  have key : ∀ m' b' κ', ρ id m' = some (b', κ') → m' = 0 := fun m' b' κ' hx => by
    obtain ⟨_, _, o₁, c₁, h3, _, h5⟩ := h.obj _ _ _ _ hx
    rw [ho] at h3; cases h3
    exact h1 _ _ _ h5
  refine h.write hm ?_ ?_
  · intro m' hx
    rw [key _ _ _ hx]; exact hO
  · intro m' b' κ' c o₁ _ hx hne _
    have := key _ _ _ hx
    subst this
    rw [hm] at hx; simp at hx; exact absurd hx.1.symm hne

end Go.AM
