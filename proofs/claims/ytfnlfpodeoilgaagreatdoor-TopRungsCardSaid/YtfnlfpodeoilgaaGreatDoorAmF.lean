/- The abstract machine, part F: parts of aggregates, slicing, building; the operations without memory in one. No condition. -/
import Derived.Test.YtfnlfpodeoilgaaGreatDoorAmE
set_option linter.all false
noncomputable section
namespace Go.AM
open Go.RowKit (Below)

def aindex (T : TT) (t : TypeId) (x i : AV) : Option AV :=
  match anat i with
  | none => none
  | some n => match T t with
    | none => none
    | some ti => match ti.desc with
      | .array len e => match n.blt len with
        | false => none
        | true => match x with
          | .agg cs => match elemSize T e with
            | none => none
            | some sz => apart T e cs (n * sz)
          | _ => none
      | .string => match x with
        | .str s => match nth s.data.toList n with
          | none => none
          | some b => some (.int .u8 (.ofNat b.toNat))
        | _ => none
      | _ => none

theorem aindex_run {P : Program} {T : TT} (hT : TOk P T) {ρ : Ren} {t : TypeId} {x i y : AV} {u v : Value} (h : aindex T t x i = some y) (hx : VR ρ x u) (hi : VR ρ i v)
    (w : World) : ∃ r, (Instr.index t u v).run P w = .ok r w ∧ VR ρ y r := by
  unfold aindex at h
  cases hn : anat i with
  | none => rw [hn] at h; simp at h
  | some n =>
    rw [hn] at h; simp only at h
    obtain ⟨k, rfl⟩ := anat_spec hn hi
    cases ht : T t with
    | none => rw [ht] at h; simp at h
    | some ti =>
      rw [ht] at h; simp only at h
      have hu := run_und hT ht w
      cases hd : ti.desc <;> rw [hd] at h hu <;> simp only at h <;> try (simp at h; done)
      · cases hx <;> simp only at h <;> try (simp at h; done)
        rename_i s
        cases hb : nth s.data.toList n with
        | none => rw [hb] at h; simp at h
        | some b =>
          rw [hb] at h; simp at h; subst h
          rw [nth_eq] at hb
          have hlt : n < s.size := by
            have := (List.getElem?_eq_some_iff.1 hb).1
            simpa using this
          have hsb : s[n]? = some b := by
            rw [getElem?_pos s n hlt]
            have : s.data[n]? = some b := by simpa using hb
            have h2 := (Array.getElem?_eq_some_iff.1 this).2
            congr 1
          refine ⟨.int .u8 (b.toNat : Int), ?_, .int _ _⟩
          simp [Instr.index, asIntOf, hu, hsb]
      · rename_i len e
        cases hlt : n.blt len <;> rw [hlt] at h <;> simp only at h
        · simp at h
        · have hlt := blt_lt hlt
          cases hx <;> simp only at h <;> try (simp at h; done)
          rename_i xs us hxs
          cases hs : elemSize T e with
          | none => rw [hs] at h; simp at h
          | some sz =>
            rw [hs] at h; simp only at h
            obtain ⟨r, hr, hv⟩ := apart_run hT hxs h w
            refine ⟨r, ?_, hv⟩
            simp only [Instr.index, asIntOf, Sem.run_bind, Sem.run_pure, Result.andThen_ok, hu]
            rw [if_pos ⟨by omega, by omega⟩]
            simp [elemSize_run hT hs, hr]

def aextract (x : AV) (i : Nat) : Option AV :=
  match x with
  | .tuple vs => nth vs i
  | _ => none

theorem aextract_run {P : Program} {ρ : Ren} {x y : AV} {u : Value} {i : Nat} (h : aextract x i = some y) (hx : VR ρ x u) (w : World) :
    ∃ r, (Instr.extract u i).run P w = .ok r w ∧ VR ρ y r := by
  unfold aextract at h
  cases hx <;> simp only at h <;> try (simp at h; done)
  rename_i xs us hxs
  rw [nth_eq] at h
  obtain ⟨v, hv, hr⟩ := hxs.get _ _ h
  exact ⟨v, by simp [Instr.extract, hv], hr⟩

/-! Slicing. -/
def natO (env : Tr AV) : Option Operand → Option (Option Nat)
  | none => some none
  | some x => match opd env x with
    | none => none
    | some a => match anat a with
      | none => none
      | some n => some (some n)

inductive NatOR : Option Nat → Option Value → Prop
  | none : NatOR none none
  | some (k : IntKind) (n : Nat) : NatOR (some n) (some (.int k (n : Int)))

theorem natO_spec {ρ : Ren} {env : Tr AV} {ev : Operand → Value} (he : OpdR ρ env ev) {x : Option Operand} {n : Option Nat} (h : natO env x = some n) : NatOR n (x.map ev) := by
  cases x with
  | none => simp [natO] at h; subst h; exact .none
  | some x =>
    simp only [natO] at h
    cases h1 : opd env x with
    | none => rw [h1] at h; simp at h
    | some a =>
      rw [h1] at h; simp only at h
      cases h2 : anat a with
      | none => rw [h2] at h; simp at h
      | some m =>
        rw [h2] at h; simp at h; subst h
        obtain ⟨k, hk⟩ := anat_spec h2 (he _ _ h1)
        simp only [Option.map_some, hk]
        exact .some k m

def bnd (len cap : Nat) (lo hi mx : Option Nat) : Option (Nat × Nat × Nat) :=
  match (match mx with
    | none => some cap
    | some v => match v.ble cap with
      | true => some v
      | false => none) with
  | none => none
  | some m => match (match hi with
      | some v => match v.ble m with
        | true => some v
        | false => none
      | none => match mx with
        | none => some len
        | some _ => none) with
    | none => none
    | some h => match (match lo with
        | none => some 0
        | some v => match v.ble h with
          | true => some v
          | false => none) with
      | none => none
      | some l => some (l, h, m)

theorem bnd_spec {len cap l h m : Nat} {lo hi mx : Option Nat} (e : bnd len cap lo hi mx = some (l, h, m)) :
    m ≤ cap ∧ (∀ v, mx = some v → m = v) ∧ (mx = none → m = cap) ∧ ((hi = some h ∧ h ≤ m) ∨ (hi = none ∧ mx = none ∧ h = len)) ∧ ((lo = none ∧ l = 0) ∨ (lo = some l ∧ l ≤ h)) := by
  unfold bnd at e
  cases mx with
  | none =>
    simp only at e
    cases hi with
    | none =>
      simp only at e
      cases lo with
      | none => simp at e; obtain ⟨rfl, rfl, rfl⟩ := e; simp
      | some v =>
        simp only at e
        cases hv : v.ble len <;> rw [hv] at e <;> simp at e
        obtain ⟨rfl, rfl, rfl⟩ := e
        have := Nat.le_of_ble_eq_true hv
        simp; omega
    | some u =>
      simp only at e
      cases hu : u.ble cap <;> rw [hu] at e <;> simp only at e
      · simp at e
      · have := Nat.le_of_ble_eq_true hu
        cases lo with
        | none => simp at e; obtain ⟨rfl, rfl, rfl⟩ := e; simp; omega
        | some v =>
          simp only at e
          cases hv : v.ble u <;> rw [hv] at e <;> simp at e
          obtain ⟨rfl, rfl, rfl⟩ := e
          have := Nat.le_of_ble_eq_true hv
          simp; omega
  | some q =>
    simp only at e
    cases hq : q.ble cap <;> rw [hq] at e <;> simp only at e
    · simp at e
    · have := Nat.le_of_ble_eq_true hq
      cases hi with
      | none => simp at e
      | some u =>
        simp only at e
        cases hu : u.ble q <;> rw [hu] at e <;> simp only at e
        · simp at e
        · have := Nat.le_of_ble_eq_true hu
          cases lo with
          | none => simp at e; obtain ⟨rfl, rfl, rfl⟩ := e; simp; omega
          | some v =>
            simp only at e
            cases hv : v.ble u <;> rw [hv] at e <;> simp at e
            obtain ⟨rfl, rfl, rfl⟩ := e
            have := Nat.le_of_ble_eq_true hv
            simp; omega

theorem run_bound {P : Program} {k : IntKind} {n y : Nat} {code : BoundsCode} (h : n ≤ y) (w : World) : (Instr.sliceBound (.int k (n : Int)) y code).run P w = .ok n w := by
  simp only [Instr.sliceBound, asIntOf, Sem.run_bind, Sem.run_pure, Result.andThen_ok]
  rw [if_pos ⟨by omega, by omega⟩]; simp

/-- The bounds, at whatever capacity fits. -/
theorem run_bounds {P : Program} {isSlice : Bool} {len cap l h m : Nat} {lo hi mx : Option Nat} {lo' hi' mx' : Option Value} (hlo : NatOR lo lo') (hhi : NatOR hi hi') (hmx : NatOR mx mx')
    (hm : (mx = some m ∧ m ≤ cap) ∨ (mx = none ∧ m = cap)) (hh : (hi = some h ∧ h ≤ m) ∨ (hi = none ∧ mx = none ∧ h = len)) (hl : (lo = none ∧ l = 0) ∨ (lo = some l ∧ l ≤ h)) (w : World) :
    (Instr.sliceBounds isSlice len cap lo' hi' mx').run P w = .ok (l, h, m) w := by
  unfold Instr.sliceBounds
  rcases hm with ⟨rfl, hm⟩ | ⟨rfl, rfl⟩ <;> cases hmx <;> rcases hh with ⟨rfl, hh⟩ | ⟨rfl, hh0, hh⟩ <;> cases hhi <;> (try (simp at hh0; done)) <;>
    rcases hl with ⟨rfl, hl⟩ | ⟨rfl, hl⟩ <;> cases hlo <;> simp [run_bound, *] <;> (try (subst hh)) <;> simp [run_bound, *]

def aslice (T : TT) (t : TypeId) (x : AV) (lo hi mx : Option Nat) : Option AV :=
  match T t with
  | none => none
  | some ti => match ti.desc with
    | .slice e => match elemSize T e with
      | none => none
      | some sz => match x with
        | .nils => match bnd 0 0 lo hi mx with
          | none => none
          | some _ => some .nils
        | .emp => match mx with
          | some _ => none
          | none => match bnd 0 0 lo hi none with
            | none => none
            | some _ => some .emp
        | .slice a len (.known c) => match bnd len c lo hi mx with
          | none => none
          | some (l, h, m) => match m.beq l with
            | true => some (.slice a (h - l) (.known (m - l)))
            | false => some (.slice ⟨a.id, a.m, a.off + l * sz⟩ (h - l) (.known (m - l)))
        | .slice a len (.unk esz lb) => match bnd len lb lo hi mx with
          | none => none
          | some (l, h, m) => match mx with
            | some _ => match m.beq l with
              | true => some (.slice a (h - l) (.known (m - l)))
              | false => some (.slice ⟨a.id, a.m, a.off + l * sz⟩ (h - l) (.known (m - l)))
            | none => match l.beq 0 with
              | true => some (.slice a h (.unk esz lb))
              | false => match l.blt lb with
                | true => match sz.beq esz with
                  | true => some (.slice ⟨a.id, a.m, a.off + l * sz⟩ (h - l) (.unk esz (lb - l)))
                  | false => none
                | false => some .emp
        | _ => none
    | .string => match mx with
      | some _ => none
      | none => match x with
        | .str s => match bnd s.size s.size lo hi none with
          | none => none
          | some (l, h, _) => some (.str (s.extract l h))
        | _ => none
    | .array n e => match elemSize T e with
      | none => none
      | some sz => match x with
        | .ptr a => match bnd n n lo hi mx with
          | none => none
          | some (l, h, m) => match m.beq l with
            | true => some (.slice a (h - l) (.known (m - l)))
            | false => some (.slice ⟨a.id, a.m, a.off + l * sz⟩ (h - l) (.known (m - l)))
        | _ => none
    | _ => none

theorem beq_iff {a b : Nat} : a.beq b = true ↔ a = b := by simp
theorem beq_ne {a b : Nat} (h : a.beq b = false) : a ≠ b := fun e => by subst e; simp at h

theorem aslice_run {P : Program} {T : TT} (hT : TOk P T) {ρ : Ren} {t : TypeId} {x y : AV} {u : Value} {lo hi mx : Option Nat} {lo' hi' mx' : Option Value}
    (h : aslice T t x lo hi mx = some y) (hx : VR ρ x u) (hlo : NatOR lo lo') (hhi : NatOR hi hi') (hmx : NatOR mx mx') (w : World) :
    ∃ r, (Instr.sliceAt t u lo' hi' mx').run P w = .ok r w ∧ VR ρ y r := by
  unfold aslice at h
  cases ht : T t with
  | none => rw [ht] at h; simp at h
  | some ti =>
    rw [ht] at h; simp only at h
    have hu := run_und hT ht
    cases hd : ti.desc <;> rw [hd] at h hu <;> simp only at h <;> try (simp at h; done)
    · -- string
      cases mx <;> simp only at h <;> try (simp at h; done)
      cases hx <;> simp only at h <;> try (simp at h; done)
      rename_i s
      cases hb : bnd s.size s.size lo hi none with
      | none => rw [hb] at h; simp at h
      | some q =>
        obtain ⟨l, hh, m⟩ := q
        rw [hb] at h; simp at h; subst h
        obtain ⟨b1, b2, b3, b4, b5⟩ := bnd_spec hb
        cases hmx
        refine ⟨.string (s.extract l hh), ?_, .str _⟩
        have := run_bounds (P := P) (isSlice := false) (len := s.size) (cap := s.size) hlo hhi .none (.inr ⟨rfl, b3 rfl⟩) b4 b5 w
        simp [Instr.sliceAt, hu, Instr.slice, this]
    · -- slice
      rename_i e
      cases hs : elemSize T e with
      | none => rw [hs] at h; simp at h
      | some sz =>
        rw [hs] at h; simp only at h
        have hsz := elemSize_run hT hs
        cases hx <;> simp only at h <;> try (simp at h; done)
        · -- nil
          cases hb : bnd 0 0 lo hi mx with
          | none => rw [hb] at h; simp at h
          | some q =>
            obtain ⟨l, hh, m⟩ := q
            rw [hb] at h; simp at h; subst h
            obtain ⟨b1, b2, b3, b4, b5⟩ := bnd_spec hb
            have hm : (mx = some m ∧ m ≤ 0) ∨ (mx = none ∧ m = 0) := by
              cases mx with
              | none => exact .inr ⟨rfl, b3 rfl⟩
              | some v => exact .inl ⟨by rw [b2 v rfl], b1⟩
            have := run_bounds (P := P) (isSlice := true) (len := 0) (cap := 0) hlo hhi hmx hm b4 b5 w
            refine ⟨.slice none 0 0, ?_, .nils⟩
            simp [Instr.sliceAt, hu, Instr.slice, this, hsz]
            omega
        · -- known
          rename_i id mm off b κ len c hm
          cases hb : bnd len c lo hi mx with
          | none => rw [hb] at h; simp at h
          | some q =>
            obtain ⟨l, hh, m⟩ := q
            rw [hb] at h; simp only at h
            obtain ⟨b1, b2, b3, b4, b5⟩ := bnd_spec hb
            have hm' : (mx = some m ∧ m ≤ c) ∨ (mx = none ∧ m = c) := by
              cases mx with
              | none => exact .inr ⟨rfl, b3 rfl⟩
              | some v => exact .inl ⟨by rw [b2 v rfl], b1⟩
            have hrun := run_bounds (P := P) (isSlice := true) (len := len) (cap := c) hlo hhi hmx hm' b4 b5 w
            cases hml : m.beq l <;> rw [hml] at h <;> simp only [Option.some.injEq] at h <;> subst h
            · refine ⟨_, ?_, .sliceK hm⟩
              simp only [Instr.sliceAt, Instr.slice, Sem.run_bind, hu, hrun, hsz, Result.andThen_ok, Sem.run_pure, if_neg (beq_ne hml), Option.map_some, Addr.add_spot]
            · refine ⟨_, ?_, .sliceK hm⟩
              simp only [Instr.sliceAt, Instr.slice, Sem.run_bind, hu, hrun, hsz, Result.andThen_ok, Sem.run_pure, if_pos (beq_iff.1 hml)]
        · -- unknown
          rename_i id mm off b κ len esz lb hm hll0 hl he hz
          cases hb : bnd len lb lo hi mx with
          | none => rw [hb] at h; simp at h
          | some q =>
            obtain ⟨l, hh, m⟩ := q
            rw [hb] at h; simp only at h
            obtain ⟨b1, b2, b3, b4, b5⟩ := bnd_spec hb
            cases mx with
            | some v =>
              simp only at h
              have hmv := b2 v rfl
              subst hmv
              have hrun := run_bounds (P := P) (isSlice := true) (len := len) (cap := κ - off / esz) hlo hhi hmx (.inl ⟨rfl, by omega⟩) b4 b5 w
              cases hml : m.beq l <;> rw [hml] at h <;> simp only [Option.some.injEq] at h <;> subst h
              · refine ⟨_, ?_, .sliceK hm⟩
                simp only [Instr.sliceAt, Instr.slice, Sem.run_bind, hu, hrun, hsz, Result.andThen_ok, Sem.run_pure, if_neg (beq_ne hml), Option.map_some, Addr.add_spot]
              · refine ⟨_, ?_, .sliceK hm⟩
                simp only [Instr.sliceAt, Instr.slice, Sem.run_bind, hu, hrun, hsz, Result.andThen_ok, Sem.run_pure, if_pos (beq_iff.1 hml)]
            | none =>
              simp only at h
              have hmc := b3 rfl
              have hrun := run_bounds (P := P) (isSlice := true) (len := len) (cap := κ - off / esz) (m := κ - off / esz) hlo hhi hmx (.inr ⟨rfl, rfl⟩)
                (b4.imp (fun ⟨a, c⟩ => ⟨a, by omega⟩) (fun x => x)) b5 w
              have hhl : hh ≤ lb := by rcases b4 with ⟨_, h1⟩ | ⟨_, _, h1⟩ <;> omega
              have hlh : l ≤ hh := by rcases b5 with ⟨_, h1⟩ | ⟨_, h1⟩ <;> omega
              cases hl0 : l.beq 0 <;> rw [hl0] at h <;> simp only at h
              · cases hll : l.blt lb <;> rw [hll] at h <;> simp only at h
                · simp at h; subst h
                  have hll := blt_ge hll
                  have hz0 : hh - l = 0 := by omega
                  by_cases hcap : κ - off / esz = l
                  · refine ⟨.slice (some ⟨b, off, none⟩) 0 (κ - off / esz - l), ?_, .emp _ _ _⟩
                    simp only [Instr.sliceAt, Instr.slice, Sem.run_bind, hu, hrun, hsz, Result.andThen_ok, Sem.run_pure, if_pos hcap, hz0]
                  · refine ⟨.slice (some ⟨b, off + l * sz, none⟩) 0 (κ - off / esz - l), ?_, .emp _ _ _⟩
                    simp only [Instr.sliceAt, Instr.slice, Sem.run_bind, hu, hrun, hsz, Result.andThen_ok, Sem.run_pure, if_neg hcap, hz0, Option.map_some, Addr.add_spot]
                · have hll := blt_lt hll
                  cases hse : sz.beq esz <;> rw [hse] at h <;> simp at h
                  obtain rfl := beq_iff.1 hse
                  subst h
                  have hcap : ¬ κ - off / sz = l := by omega
                  have hdiv : (off + l * sz) / sz = off / sz + l := Nat.add_mul_div_right _ _ hz
                  refine ⟨.slice (some ⟨b, off + l * sz, none⟩) (hh - l) (κ - off / sz - l), ?_, ?_⟩
                  · simp only [Instr.sliceAt, Instr.slice, Sem.run_bind, hu, hrun, hsz, Result.andThen_ok, Sem.run_pure, if_neg hcap, Option.map_some, Addr.add_spot]
                  · have := VR.sliceU (ρ := ρ) (off := off + l * sz) (len := hh - l) (esz := sz) (lb := lb - l) hm (by omega) (by rw [hdiv]; omega) (by rw [Nat.add_mul_mod_self_right]; exact he) hz
                    rw [hdiv] at this
                    have e2 : κ - (off / sz + l) = κ - off / sz - l := by omega
                    rw [e2] at this; exact this
              · simp at h; subst h
                obtain rfl := beq_iff.1 hl0
                refine ⟨.slice (some ⟨b, off, none⟩) hh (κ - off / esz), ?_, .sliceU hm (by omega) hl he hz⟩
                simp only [Instr.sliceAt, Instr.slice, Sem.run_bind, hu, hrun, hsz, Result.andThen_ok, Sem.run_pure, Option.map_some, Addr.add_spot, Nat.zero_mul, Nat.add_zero, Nat.sub_zero]
                simp
        · -- nothing, somewhere
          rename_i b off c
          cases mx <;> simp only at h <;> try (simp at h; done)
          cases hb : bnd 0 0 lo hi none with
          | none => rw [hb] at h; simp at h
          | some q =>
            obtain ⟨l, hh, m⟩ := q
            rw [hb] at h; simp at h; subst h
            obtain ⟨b1, b2, b3, b4, b5⟩ := bnd_spec hb
            have hrun := run_bounds (P := P) (isSlice := true) (len := 0) (cap := c) (m := c) hlo hhi hmx (.inr ⟨rfl, rfl⟩)
              (b4.imp (fun ⟨a, d⟩ => ⟨a, by omega⟩) (fun x => x)) b5 w
            have h0 : hh = 0 := by rcases b4 with ⟨_, h1⟩ | ⟨_, _, h1⟩ <;> omega
            have l0 : l = 0 := by rcases b5 with ⟨_, h1⟩ | ⟨_, h1⟩ <;> omega
            subst h0 l0
            refine ⟨.slice (some ⟨b, off, none⟩) 0 c, ?_, .emp _ _ _⟩
            simp only [Instr.sliceAt, Instr.slice, Sem.run_bind, hu, hrun, hsz, Result.andThen_ok, Sem.run_pure, Option.map_some, Addr.add_spot, Nat.zero_mul, Nat.add_zero, Nat.sub_zero]
            simp
    · -- array
      rename_i n e
      cases hs : elemSize T e with
      | none => rw [hs] at h; simp at h
      | some sz =>
        rw [hs] at h; simp only at h
        have hsz := elemSize_run hT hs
        cases hx <;> simp only at h <;> try (simp at h; done)
        rename_i id mm off b κ hm
        cases hb : bnd n n lo hi mx with
        | none => rw [hb] at h; simp at h
        | some q =>
          obtain ⟨l, hh, m⟩ := q
          rw [hb] at h; simp only at h
          obtain ⟨b1, b2, b3, b4, b5⟩ := bnd_spec hb
          have hm' : (mx = some m ∧ m ≤ n) ∨ (mx = none ∧ m = n) := by
            cases mx with
            | none => exact .inr ⟨rfl, b3 rfl⟩
            | some v => exact .inl ⟨by rw [b2 v rfl], b1⟩
          have hrun := run_bounds (P := P) (isSlice := false) (len := n) (cap := n) hlo hhi hmx hm' b4 b5 w
          cases hml : m.beq l <;> rw [hml] at h <;> simp only [Option.some.injEq] at h <;> subst h
          · refine ⟨_, ?_, .sliceK hm⟩
            simp only [Instr.sliceAt, Sem.run_bind, hu, hrun, hsz, Result.andThen_ok, Sem.run_pure, Instr.sureAddr, if_neg (beq_ne hml), Addr.add_spot]
          · refine ⟨_, ?_, .sliceK hm⟩
            simp only [Instr.sliceAt, Sem.run_bind, hu, hrun, hsz, Result.andThen_ok, Sem.run_pure, Instr.sureAddr, if_pos (beq_iff.1 hml)]

end Go.AM
