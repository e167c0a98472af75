/- The abstract machine, part V: regions that draw their order, made in any order. No condition. -/
import Derived.Test.YtfnlfpodeoilgaaGreatDoorAmU
set_option linter.all false
noncomputable section
namespace Go.AM
open Go.RowKit (Below)

/-- What is fixed while a region runs. -/
structure Rg where
  all : List Oper
  n : Nat
  env0 : Tr AV
  ρ0 : Ren
  s0 : St
  w0 : World

section
variable (T : TT) (G : Globs) (B : Nat) (X : Rg)

def HeldE (env : Tr AV) (i : Nat) (e : Tr AV) : Prop :=
  ∀ t x, e.get t = some x → (env.get t = some x ∧ ∀ j, wr X.all j t → mb (masks X.all []) i j) ∨ (X.env0.get t = some x ∧ ∀ j, wr X.all j t → mb (masks X.all []) j i ∨ j = i)

inductive HeldV (e : Tr AV) (s : St) (ρ : Ren) (own : Nat → Option Nat) (i : Nat) (o : Oper) : AV → Prop
  | skip (h : awanted X.all e o.guard = some false) : HeldV e s ρ own i o (.tuple [])
  | pure {v : AV} (h : awanted X.all e o.guard = some true) (hc : clsOf o.op = .pure) (ha : apure T e o.op = some v) : HeldV e s ρ own i o v
  | read {v : AV} (h : awanted X.all e o.guard = some true) (hc : clsOf o.op = .read) (ha : aread T G e s o.op = some v) : HeldV e s ρ own i o v
  | alloc {id : Nat} {a : ANew} (h : awanted X.all e o.guard = some true) (hc : clsOf o.op = .alloc) (ha : aalloc T e o.op = some a) (ho : own id = some i) (h0 : X.s0.ctr ≤ id) (h1 : id < s.ctr)
      (hno : ∀ m, ρ id m = none) (hh : s.heap.get id = some a.o) : HeldV e s ρ own i o (a.at_ id)

def Held (env : Tr AV) (s : St) (ρ : Ren) (own : Nat → Option Nat) (i : Nat) (o : Oper) : Prop :=
  ∃ e v, HeldE X env i e ∧ HeldV T G X e s ρ own i o v ∧ ∀ d, o.dst = some d → env.get d = some v

/-- Halfway through a region: `D` of the plan is done, `S` by the machine. -/
structure WInv (D S : Nat → Prop) (env : Tr AV) (s : St) (own : Nat → Option Nat) (ρ : Ren) (w : World) (tm : Array Value) : Prop where
  closed : ∀ i j, S i → mb (masks X.all []) i j → S j
  dclosed : ∀ i j, D i → mb (masks X.all []) i j → D j
  subD : ∀ i, S i → D i
  held : ∀ i o, nth X.all i = some o → D i → ¬ S i → isRead o.op = false → Held T G X env s ρ own i o
  dn : ∀ i d, D i → wr X.all i d → d < X.n
  rel : Rel G B ρ s w
  ext : Ext B X.ρ0 X.s0 X.w0 ρ s w
  size : tm.size = X.n
  old : ∀ t x, X.env0.get t = some x → (∀ j, wr X.all j t → ¬ S j) → ∃ u, tm[t]? = some u ∧ VR ρ x u
  new : ∀ t x, env.get t = some x → (∀ j, wr X.all j t → S j) → ∃ u, tm[t]? = some u ∧ VR ρ x u
  fresh : ∀ t x, env.get t = some x → (∃ j, wr X.all j t ∧ ¬ D j) → X.env0.get t = some x

structure Inv (D S : Nat → Prop) (env : Tr AV) (s : St) (own : Nat → Option Nat) (ρ : Ren) (w : World) (tm : Array Value) : Prop extends WInv T G B X D S env s own ρ w tm where
  all_held : ∀ i o, nth X.all i = some o → D i → ¬ S i → Held T G X env s ρ own i o
end

section
variable {P : Program} {T : TT} (hT : TOk P T) {G : Globs} {F : FT} (hF : FOk P F) {B : Nat} {X : Rg} (hX : Good X.all)

theorem Held.move {D : Nat → Prop} {env env' : Tr AV} {s s' : St} {ρ ρ' : Ren} {own own' : Nat → Option Nat} {i : Nat} {o : Oper} (h : Held T G X env s ρ own i o) (hi : nth X.all i = some o) (hX : Good X.all)
    (hD : D i) (hcl : ∀ i j, D i → mb (masks X.all []) i j → D j)
    (hg : ∀ t x, env.get t = some x → (∀ j, wr X.all j t → D j) → env'.get t = some x)
    (hid : ∀ id, own id = some i → id < s.ctr → (∀ m, ρ id m = none) → own' id = some i ∧ id < s'.ctr ∧ (∀ m, ρ' id m = none) ∧ s'.heap.get id = s.heap.get id)
    (hrd : isRead o.op = true → s' = s) : Held T G X env' s' ρ' own' i o := by
  obtain ⟨e, v, h1, h2, h3⟩ := h
  refine ⟨e, v, ?_, ?_, ?_⟩
  · intro t x hx
    rcases h1 t x hx with ⟨g1, g2⟩ | g
    · exact .inl ⟨hg t x g1 fun j hj => hcl _ _ hD (g2 j hj), g2⟩
    · exact .inr g
  · cases h2 with
    | skip h => exact .skip h
    | pure h hc ha => exact .pure h hc ha
    | read h hc ha =>
      have : isRead o.op = true := by simp [isRead, hc]
      rw [hrd this]; exact .read h hc ha
    | alloc h hc ha ho h0 h1 hno hh =>
      obtain ⟨q1, q2, q3, q4⟩ := hid _ ho h1 hno
      exact .alloc h hc ha q1 h0 q2 q3 (by rw [q4]; exact hh)
  · intro d hd
    exact hg d v (h3 d hd) fun j hj => by
      have := hX.uniq i j d ⟨o, hi, hd⟩ hj
      subst this; exact hD

/-- What an operation that is ready names is there. -/
theorem WInv.slots {D S env s own ρ w tm} (h : WInv T G B X D S env s own ρ w tm) {i : Nat} {e : Tr AV} (he : HeldE X env i e) (hr : ∀ j, mb (masks X.all []) i j → S j) (hi : ¬ S i) : EnvR ρ e X.n tm := by
  refine ⟨h.size, fun t x hx => ?_⟩
  rcases he t x hx with ⟨g1, g2⟩ | ⟨g1, g2⟩
  · exact h.new t x g1 fun j hj => hr j (g2 j hj)
  · refine h.old t x g1 fun j hj hS => ?_
    rcases g2 j hj with g | g
    · exact hi (h.closed _ _ hS g)
    · subst g; exact hi hS

/-- The slots of an operation that the plan has not done. -/
theorem WInv.heldE {D S env s own ρ w tm} (hX : Good X.all) (h : WInv T G B X D S env s own ρ w tm) {i : Nat} {o : Oper} (ho : nth X.all i = some o) (hi : ¬ D i) : HeldE X env i (sub env (opSlots X.all o)) := by
  intro t x hx
  obtain ⟨h1, h2⟩ := sub_get hx
  by_cases hw : ∀ j, wr X.all j t → mb (masks X.all []) i j
  · exact .inl ⟨h1, hw⟩
  · simp only [Classical.not_forall] at hw
    obtain ⟨j, hj, hn⟩ := hw
    have hji : mb (masks X.all []) j i ∨ j = i := by
      rcases hX.slot i o t j ho h2 hj with g | g | g
      · exact absurd g hn
      · exact .inl g
      · exact .inr g
    have hnD : ¬ D j := fun hD => by
      rcases hji with g | g
      · exact hi (h.dclosed _ _ hD g)
      · subst g; exact hi hD
    refine .inr ⟨h.fresh t x h1 ⟨j, hj, hnD⟩, fun j' hj' => ?_⟩
    have := hX.uniq _ _ _ hj hj'
    subst this; exact hji

theorem Inv.congr {D S S' env s own ρ w tm} (h : Inv T G B X D S env s own ρ w tm) (he : ∀ j, S j ↔ S' j) : Inv T G B X D S' env s own ρ w tm := by
  have : S = S' := funext fun j => propext (he j)
  subst this; exact h

include hT in
/-- A quiet operation that the plan has done is made. -/
theorem Inv.exec {D S env s own ρ w tm} (hX : Good X.all) (h : Inv T G B X D S env s own ρ w tm) {ops : Array Oper} (hall : ops.toList = X.all) {i : Nat} {o : Oper} (ho : ops[i]? = some o) (hD : D i) (hi : ¬ S i)
    (hr : ∀ j, mb (masks X.all []) i j → S j) (b : FB) (ds : List Deferred) (rest : List Nat) (k : List Item) (cs : List Frame) :
    ∃ ρ' w' tm', Steps P (lone (fat b tm ds (.inRegion ops (i :: rest) :: k)) cs w) (lone (fat b tm' ds (.inRegion ops rest :: k)) cs w') ∧ ρ.le ρ' ∧
      Inv T G B X D (fun j => S j ∨ j = i) env s own ρ' w' tm' := by
  have hn : nth X.all i = some o := by rw [nth_eq, ← hall]; simpa using ho
  obtain ⟨e, v, h1, h2, h3⟩ := h.all_held i o hn hD hi
  have hE := h.toWInv.slots h1 hr hi
  have core : ∃ ρ' w' u, Steps P (lone (fat b tm ds (.inRegion ops (i :: rest) :: k)) cs w) (lone (fat b (putT tm o.dst u) ds (.inRegion ops rest :: k)) cs w') ∧ VR ρ' v u ∧ Rel G B ρ' s w' ∧ ρ.le ρ' ∧
      Ext B X.ρ0 X.s0 X.w0 ρ' s w' ∧ (∀ id j, own id = some j → j ≠ i → (∀ m, ρ id m = none) → ∀ m, ρ' id m = none) := by
    have hw : ∀ q, awanted X.all e o.guard = some q → Region.wanted o (yielded ops tm) = q := fun q hq =>
      awanted_spec hq hall (tm := tm) (ρ := ρ) (fun j p d _ _ _ x hx => hE.2 d x hx) rfl
    cases h2 with
    | skip hg => exact ⟨ρ, w, undef, .one (st_opSkip ho (hw _ hg)), .tuple .nil, h.rel, .refl _, h.ext, fun _ _ _ _ h => h⟩
    | pure hg hc ha =>
      have hnd : ∀ c, o.op ≠ .defer c := fun c e => by rw [e] at hc; simp [clsOf] at hc
      obtain ⟨u, r1, r2⟩ := apure_run (P := P) hT (hE.opdR ds) ha w
      exact ⟨ρ, w, u, .one (st_opValue ho (hw _ hg) (.inr hnd) r1), r2, h.rel, .refl _, h.ext, fun _ _ _ _ h => h⟩
    | read hg hc ha =>
      have hnd : ∀ c, o.op ≠ .defer c := fun c e => by rw [e] at hc; simp [clsOf] at hc
      obtain ⟨u, r1, r2⟩ := aread_run (P := P) hT h.rel (hE.opdR ds) hc ha
      exact ⟨ρ, w, u, .one (st_opValue ho (hw _ hg) (.inr hnd) r1), r2, h.rel, .refl _, h.ext, fun _ _ _ _ h => h⟩
    | @alloc id a hg hc ha hown h0 hlt hno hh =>
      have hnd : ∀ c, o.op ≠ .defer c := fun c e => by rw [e] at hc; simp [clsOf] at hc
      obtain ⟨u, c, κ, r1, r2⟩ := aalloc_run (P := P) hT (hE.opdR ds) ha w
      have hle : ρ.le (ρ.add id 0 w.heap.size κ) := Ren.le_add (hno 0)
      obtain ⟨r3, r4⟩ := r2 (ρ.add id 0 w.heap.size κ) hle
      have hmk := h.rel.make (w' := { w with heap := w.heap.push c }) rfl hno hlt hh r3
      refine ⟨_, _, u, .one (st_opValue ho (hw _ hg) (.inr hnd) r1), r4 _ (Ren.add_same ..), hmk, hle, ⟨h.ext.le.trans hle, ?_, h.ext.ctr, h.ext.keep, h.ext.below.trans (Below.push h.rel.size c), ?_, ?_⟩, ?_⟩
      · intro id' m x hx
        rcases Ren.add_cases hx with ⟨rfl, _, _⟩ | hx
        · exact .inr h0
        · exact h.ext.new id' m x hx
      · intro id' m b' κ' hx
        rcases Ren.add_cases hx with ⟨_, _, he⟩ | hx
        · simp at he; exact .inr (by have := h.ext.below.size; omega)
        · exact h.ext.newb id' m b' κ' hx
      · intro b' hb' hno'
        have := h.ext.below.size
        simp only
        rw [Array.getElem?_push, if_neg (by omega)]
        exact h.ext.frame b' hb' hno'
      · intro id' j hj hji hno' m
        cases hx : ρ.add id 0 w.heap.size κ id' m with
        | none => rfl
        | some x =>
          rcases Ren.add_cases hx with ⟨rfl, _, _⟩ | hx
          · rw [hown] at hj; exact absurd (by simpa using hj.symm) hji
          · rw [hno' m] at hx; simp at hx
  obtain ⟨ρ', w', u, c1, c2, c3, c4, c5, c6⟩ := core
  refine ⟨ρ', w', putT tm o.dst u, c1, c4, ?_⟩
  have hkeep : ∀ j o', nth X.all j = some o' → D j → ¬ (S j ∨ j = i) → Held T G X env s ρ own j o' → Held T G X env s ρ' own j o' := fun j o' hj hDj hSj hH =>
    hH.move (D := D) hj hX hDj h.dclosed (fun t x hx _ => hx) (fun id q1 q2 q3 => ⟨q1, q2, c6 id j q1 (fun e => hSj (.inr e)) q3, rfl⟩) fun _ => rfl
  have hdst : ∀ t, (¬ o.dst = some t) → (putT tm o.dst u)[t]? = tm[t]? := fun t ht => by
    unfold putT
    cases hd : o.dst with
    | none => rfl
    | some d =>
      have hdt : d ≠ t := fun e => ht (by rw [hd, e])
      simp only; rw [Array.getElem?_setIfInBounds_ne hdt]
  refine ⟨⟨?_, h.dclosed, ?_, ?_, h.dn, c3, c5, ?_, ?_, ?_, h.fresh⟩, ?_⟩
  · rintro a j (ha | rfl) hm
    · exact .inl (h.closed _ _ ha hm)
    · exact .inl (hr j hm)
  · rintro j (hj | rfl)
    · exact h.subD j hj
    · exact hD
  · intro j o' hj hDj hSj hrd
    exact hkeep j o' hj hDj hSj (h.all_held j o' hj hDj fun hs => hSj (.inl hs))
  · unfold putT; cases o.dst <;> simp [h.size]
  · intro t x hx hw
    rw [hdst t fun hd => hw i ⟨o, hn, hd⟩ (.inr rfl)]
    obtain ⟨u', g1, g2⟩ := h.old t x hx fun j hj hs => hw j hj (.inl hs)
    exact ⟨u', g1, g2.mono c4⟩
  · intro t x hx hw
    by_cases hd : o.dst = some t
    · have := h3 t hd
      rw [hx] at this; cases this
      have hlt := h.dn i t hD ⟨o, hn, hd⟩
      exact ⟨u, by rw [hd]; simp [putT, h.size, hlt], c2⟩
    · rw [hdst t hd]
      obtain ⟨u', g1, g2⟩ := h.new t x hx fun j hj => by
        rcases hw j hj with g | g
        · exact g
        · subst g
          obtain ⟨p, hp, hpd⟩ := hj
          rw [hn] at hp; cases hp; exact absurd hpd hd
      exact ⟨u', g1, g2.mono c4⟩
  · intro j o' hj hDj hSj
    exact hkeep j o' hj hDj hSj (h.all_held j o' hj hDj fun hs => hSj (.inl hs))

theorem putEnv_get {n : Nat} {env env' : Tr AV} {dst : Option Tmp} {v : AV} (h : putEnv n env dst v = some env') :
    (∀ d, dst = some d → d < n ∧ env'.get d = some v) ∧ ∀ t, dst ≠ some t → env'.get t = env.get t := by
  unfold putEnv at h
  cases dst with
  | none => simp at h; subst h; exact ⟨fun d hd => by simp at hd, fun _ _ => rfl⟩
  | some d =>
    simp only at h
    cases hb : d.blt n <;> rw [hb] at h <;> simp only at h
    · simp at h
    · have hset : env.set d v = env' := by
        cases hs : env.set d v <;> rw [hs] at h <;> simp at h
        exact h
      subst hset
      refine ⟨fun d' hd' => by simp at hd'; subst hd'; exact ⟨blt_lt hb, Tr.get_set_same ..⟩, fun t ht => Tr.get_set_other _ _ fun e => ht (by rw [e])⟩

/-- What a quiet operation does to the abstract heap. -/
theorem quietOne_spec {all : List Oper} {e : Tr AV} {s s' : St} {o : Oper} {v : AV} (h : quietOne T G all e s o = some (v, s')) :
    (awanted all e o.guard = some false ∧ v = .tuple [] ∧ s' = s) ∨ (awanted all e o.guard = some true ∧
      ((clsOf o.op = .pure ∧ apure T e o.op = some v ∧ s' = s) ∨ (clsOf o.op = .read ∧ aread T G e s o.op = some v ∧ s' = s) ∨
       (clsOf o.op = .alloc ∧ ∃ a, aalloc T e o.op = some a ∧ v = a.at_ s.ctr ∧ s' = s.alloc a.o))) := by
  unfold quietOne at h
  cases hg : awanted all e o.guard with
  | none => rw [hg] at h; simp at h
  | some q =>
    rw [hg] at h
    cases q with
    | false => simp at h; obtain ⟨rfl, rfl⟩ := h; exact .inl ⟨rfl, rfl, rfl⟩
    | true =>
      simp only at h
      refine .inr ⟨rfl, ?_⟩
      cases hc : clsOf o.op <;> rw [hc] at h <;> simp only at h <;> try (simp at h; done)
      · cases ha : apure T e o.op <;> rw [ha] at h <;> simp at h
        obtain ⟨rfl, rfl⟩ := h; exact .inl ⟨rfl, rfl, rfl⟩
      · cases ha : aread T G e s o.op <;> rw [ha] at h <;> simp at h
        obtain ⟨rfl, rfl⟩ := h; exact .inr (.inl ⟨rfl, rfl, rfl⟩)
      · cases ha : aalloc T e o.op <;> rw [ha] at h <;> simp at h
        obtain ⟨rfl, rfl⟩ := h; exact .inr (.inr ⟨rfl, _, rfl, rfl, rfl⟩)

/-- The plan does one quiet operation more. -/
theorem WInv.quiet {D S env s own ρ w tm} (hX : Good X.all) (h : WInv T G B X D S env s own ρ w tm) {q : Nat} {o : Oper} (ho : nth X.all q = some o) (hq : ¬ D q) (hm : ∀ j, mb (masks X.all []) q j → D j)
    {v : AV} {s' : St} {env' : Tr AV} (hv : quietOne T G X.all (sub env (opSlots X.all o)) s o = some (v, s')) (hp : putEnv X.n env o.dst v = some env') :
    ∃ own', WInv T G B X (fun j => D j ∨ j = q) S env' s' own' ρ w tm ∧ Held T G X env' s' ρ own' q o ∧ (clsOf o.op ≠ .alloc → s' = s) ∧
      ∀ i o', nth X.all i = some o' → D i → ¬ S i → Held T G X env s ρ own i o' → (isRead o'.op = true → s' = s) → Held T G X env' s' ρ own' i o' := by
  obtain ⟨hp1, hp2⟩ := putEnv_get hp
  have hE := h.heldE hX ho hq
  have hnw : ∀ t, (∀ j, wr X.all j t → D j) → o.dst ≠ some t := fun t ht hd => hq (ht q ⟨o, ho, hd⟩)
  have hgrow : ∀ t x, env.get t = some x → (∀ j, wr X.all j t → D j) → env'.get t = some x := fun t x hx ht => by rw [hp2 t (hnw t ht)]; exact hx
  have hE' : HeldE X env' q (sub env (opSlots X.all o)) := fun t x hx => by
    rcases hE t x hx with ⟨g1, g2⟩ | g
    · exact .inl ⟨hgrow t x g1 fun j hj => hm j (g2 j hj), g2⟩
    · exact .inr g
  have hdst : ∀ d, o.dst = some d → env'.get d = some v := fun d hd => (hp1 d hd).2
  have hs : (s' = s ∧ HeldV T G X (sub env (opSlots X.all o)) s' ρ own q o v ∧ True) ∨
      (clsOf o.op = .alloc ∧ ∃ a, s' = s.alloc a ∧ HeldV T G X (sub env (opSlots X.all o)) s' ρ (fun id => if id = s.ctr then some q else own id) q o v) := by
    rcases quietOne_spec hv with ⟨g1, rfl, rfl⟩ | ⟨g1, (⟨g2, g3, rfl⟩ | ⟨g2, g3, rfl⟩ | ⟨g2, a, g3, rfl, rfl⟩)⟩
    · exact .inl ⟨rfl, .skip g1, trivial⟩
    · exact .inl ⟨rfl, .pure g1 g2 g3, trivial⟩
    · exact .inl ⟨rfl, .read g1 g2 g3, trivial⟩
    · exact .inr ⟨g2, a.o, rfl, .alloc g1 g2 g3 (by simp) h.ext.ctr (by simp [St.alloc]) (fun m => h.rel.fresh m) (by simp [St.alloc, Tr.get_set_same])⟩
  have base : ∀ own', HeldV T G X (sub env (opSlots X.all o)) s' ρ own' q o v → (∀ id, id < s.ctr → own' id = own id) → s.ctr ≤ s'.ctr → (∀ id, id < s.ctr → s'.heap.get id = s.heap.get id) → (clsOf o.op ≠ .alloc → s' = s) →
      WInv T G B X (fun j => D j ∨ j = q) S env' s' own' ρ w tm ∧ Held T G X env' s' ρ own' q o ∧ (clsOf o.op ≠ .alloc → s' = s) ∧
      ∀ i o', nth X.all i = some o' → D i → ¬ S i → Held T G X env s ρ own i o' → (isRead o'.op = true → s' = s) → Held T G X env' s' ρ own' i o' := by
    intro own' hV hown hctr hheap hna
    have hH : Held T G X env' s' ρ own' q o := ⟨_, v, hE', hV, hdst⟩
    have hmv : ∀ i o', nth X.all i = some o' → D i → ¬ S i → Held T G X env s ρ own i o' → (isRead o'.op = true → s' = s) → Held T G X env' s' ρ own' i o' := fun i o' hi hDi hSi hHi hrd =>
      hHi.move (D := D) hi hX hDi h.dclosed hgrow (fun id q1 q2 q3 => ⟨by rw [hown id q2]; exact q1, by omega, q3, hheap id q2⟩) hrd
    refine ⟨⟨h.closed, ?_, fun i hi => .inl (h.subD i hi), ?_, ?_, ?_, ?_, h.size, h.old, ?_, ?_⟩, hH, hna, hmv⟩
    · rintro i j (hi | rfl) hj
      · exact .inl (h.dclosed _ _ hi hj)
      · exact .inl (hm j hj)
    · rintro i o' hi (hDi | rfl) hSi hrd
      · exact hmv i o' hi hDi hSi (h.held i o' hi hDi hSi hrd) (by rw [hrd]; simp)
      · rw [ho] at hi; cases hi; exact hH
    · rintro i d (hDi | rfl) hw
      · exact h.dn i d hDi hw
      · obtain ⟨p, hpp, hpd⟩ := hw
        rw [ho] at hpp; cases hpp; exact (hp1 d hpd).1
    · exact h.rel.lay hctr fun id m x hx => hheap id (by obtain ⟨b, κ⟩ := x; exact (h.rel.obj _ _ _ _ hx).1)
    · refine ⟨h.ext.le, h.ext.new, Nat.le_trans h.ext.ctr hctr, fun id hid hno => ?_, h.ext.below, h.ext.newb, h.ext.frame⟩
      rw [hheap id (Nat.lt_of_lt_of_le hid h.ext.ctr)]; exact h.ext.keep id hid hno
    · intro t x hx ht
      have : env'.get t = env.get t := hp2 t (hnw t fun j hj => h.subD j (ht j hj))
      exact h.new t x (by rw [← this]; exact hx) ht
    · rintro t x hx ⟨j, hj, hnj⟩
      have hjt : o.dst ≠ some t := fun hd => hnj (.inr (hX.uniq _ _ _ hj ⟨o, ho, hd⟩))
      rw [hp2 t hjt] at hx
      exact h.fresh t x hx ⟨j, hj, fun hD => hnj (.inl hD)⟩
  rcases hs with ⟨rfl, hV, _⟩ | ⟨hc, a, rfl, hV⟩
  · exact ⟨own, base own hV (fun _ _ => rfl) (Nat.le_refl _) (fun _ _ => rfl) fun _ => rfl⟩
  · exact ⟨_, base _ hV (fun id hid => by simp; omega) (by simp [St.alloc]) (fun id hid => by simp only [St.alloc]; rw [Tr.get_set_other _ _ (by omega)]) fun hh => absurd hc hh⟩
end
end Go.AM
