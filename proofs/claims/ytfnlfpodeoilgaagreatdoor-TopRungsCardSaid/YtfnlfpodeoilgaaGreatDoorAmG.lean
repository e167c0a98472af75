/- The abstract machine, part G: building; the operations without memory in one. No condition. -/
import Derived.Test.YtfnlfpodeoilgaaGreatDoorAmF
set_option linter.all false
noncomputable section
namespace Go.AM
open Go.RowKit (Below)

theorem splice_vrs {ρ : Ren} {l new r : List AV} {off : Nat} {cs : Array Value} {vs : List Value} (h : splice l off new = some r) (hl : VRs ρ l cs.toList) (hn : VRs ρ new vs) :
    off + vs.length ≤ cs.size ∧ VRs ρ r (owA cs off vs).toList := by
  obtain ⟨h1, h2⟩ := splice_spec _ _ _ _ h
  have e1 := hl.length
  have e2 := hn.length
  have hle : off + vs.length ≤ cs.size := by simp at e1; omega
  refine ⟨hle, VRs.of_get (by subst h2; simp [owA_size] at *; omega) ?_⟩
  intro i x hx
  subst h2
  rw [List.append_assoc, List.getElem?_append] at hx
  have : (owA cs off vs).toList[i]? = (owA cs off vs)[i]? := by simp
  rw [this, owA_get _ _ _ _ hle]
  split at hx
  · rename_i hi
    simp at hi
    rw [List.getElem?_take_of_lt (by omega)] at hx
    obtain ⟨v, hv, hr⟩ := hl.get _ _ hx
    exact ⟨v, by rw [if_neg (by omega)]; simpa using hv, hr⟩
  · rename_i hi
    have hmin : min off l.length = off := by omega
    simp only [List.length_take, hmin] at hi hx
    rw [List.getElem?_append] at hx
    split at hx
    · rename_i hi2
      obtain ⟨v, hv, hr⟩ := hn.get _ _ hx
      refine ⟨v, by rw [if_pos (by omega)]; exact hv, hr⟩
    · rename_i hi2
      rw [List.getElem?_drop] at hx
      obtain ⟨v, hv, hr⟩ := hl.get _ _ hx
      refine ⟨v, ?_, hr⟩
      rw [if_neg (by omega), ← hv]
      have : off + new.length + (i - off - new.length) = i := by omega
      rw [this]; simp

theorem foldl_owA : ∀ (vs : List Value) (cs : Array Value) (off s : Nat),
    (vs.zipIdx s).foldl (fun cs (p : Value × Nat) => cs.setIfInBounds (off + p.2) p.1) cs = owA cs (off + s) vs
  | [], _, _, _ => rfl
  | v :: vs, cs, off, s => by
    simp only [List.zipIdx_cons, List.foldl_cons, owA]
    rw [foldl_owA vs _ off (s + 1)]; rfl

def fillA (env : Tr AV) (place : Nat → Option (Nat × Nat)) (cells : List AV) : List (Nat × Operand) → Option (List AV)
  | [] => some cells
  | (i, x) :: rest => match place i with
    | none => none
    | some (off, size) => match opd env x with
      | none => none
      | some a => match a.cells.length.beq size with
        | false => none
        | true => match splice cells off a.cells with
          | none => none
          | some c => fillA env place c rest

theorem fillA_spec {ρ : Ren} {env : Tr AV} {ev : Operand → Value} (he : OpdR ρ env ev) {place : Nat → Option (Nat × Nat)} : ∀ (parts : List (Nat × Operand)) (cells r : List AV) (cs : Array Value),
    fillA env place cells parts = some r → VRs ρ cells cs.toList → ∃ cs', Instr.fill place cs (parts.map fun p => (p.1, ev p.2)) = some cs' ∧ VRs ρ r cs'.toList
  | [], cells, r, cs, h, hv => by simp [fillA] at h; subst h; exact ⟨cs, rfl, hv⟩
  | (i, x) :: rest, cells, r, cs, h, hv => by
    simp only [fillA] at h
    cases hp : place i with
    | none => rw [hp] at h; simp at h
    | some q =>
      obtain ⟨off, size⟩ := q
      rw [hp] at h; simp only at h
      cases hx : opd env x with
      | none => rw [hx] at h; simp at h
      | some a =>
        rw [hx] at h; simp only at h
        cases hs : a.cells.length.beq size <;> rw [hs] at h <;> simp only at h
        · simp at h
        · cases hsp : splice cells off a.cells with
          | none => rw [hsp] at h; simp at h
          | some c =>
            rw [hsp] at h; simp only at h
            have hva := (he x a hx).cells
            obtain ⟨h1, h2⟩ := splice_vrs hsp hv hva
            obtain ⟨cs', h3, h4⟩ := fillA_spec he rest c r (owA cs off (ev x).cells.toList) h h2
            refine ⟨cs', ?_, h4⟩
            have hlen := hva.length
            have hsz := beq_iff.1 hs
            simp only [List.map_cons, Instr.fill, hp]
            have hc : (decide ((ev x).cells.size ≠ size) || decide (off + (ev x).cells.size > cs.size)) = false := by
              simp at hlen h1 ⊢; omega
            rw [if_neg (by rw [hc]; simp)]
            rw [← h3]
            congr 1
            have := foldl_owA (ev x).cells.toList cs off 0
            simp only [Nat.add_zero] at this
            rw [← this, ← Array.foldl_toList]
            simp

def placesOf (T : TT) : List Field → Option (List (Nat × Nat))
  | [] => some []
  | f :: fs => match elemSize T f.type with
    | none => none
    | some sz => match placesOf T fs with
      | none => none
      | some r => some ((f.offset, sz) :: r)

theorem placesOf_spec {P : Program} {T : TT} (hT : TOk P T) : ∀ (fs : List Field) (r : List (Nat × Nat)), placesOf T fs = some r →
    fs.mapM (fun f => (P.info? f.type).map fun i => (f.offset, i.size)) = some r
  | [], r, h => by simp [placesOf] at h; subst h; rfl
  | f :: fs, r, h => by
    simp only [placesOf] at h
    cases hs : elemSize T f.type with
    | none => rw [hs] at h; simp at h
    | some sz =>
      rw [hs] at h; simp only at h
      cases hr : placesOf T fs with
      | none => rw [hr] at h; simp at h
      | some r' =>
        rw [hr] at h; simp at h; subst h
        unfold elemSize at hs
        cases hf : T f.type with
        | none => rw [hf] at hs; simp at hs
        | some j =>
          rw [hf] at hs; simp at hs; subst hs
          simp [List.mapM_cons, (hT _ _ hf).info, placesOf_spec hT fs r' hr]

/-- Where the parts of a struct or an array lie. -/
def placeOf (T : TT) (ti : TI) : Option (Nat → Option (Nat × Nat)) :=
  match ti.desc with
  | .struct fs => match placesOf T fs.toList with
    | none => none
    | some ps => some (nth ps)
  | .array _ e => match elemSize T e with
    | none => none
    | some sz => some (fun i => some (i * sz, sz))
  | _ => none

def abuild (T : TT) (env : Tr AV) (t : TypeId) (parts : List (Nat × Operand)) : Option AV :=
  match T t with
  | none => none
  | some ti => match ti.zero with
    | none => none
    | some z => match placeOf T ti with
      | none => none
      | some place => match fillA env place z parts with
        | none => none
        | some r => some (.agg r)

theorem abuild_run {P : Program} {T : TT} (hT : TOk P T) {ρ : Ren} {env : Tr AV} {ev : Operand → Value} (he : OpdR ρ env ev) {t : TypeId} {parts : Array (Nat × Operand)} {y : AV}
    (h : abuild T env t parts.toList = some y) (w : World) : ∃ r, (Instr.build t (parts.map fun (i, x) => (i, ev x))).run P w = .ok r w ∧ VR ρ y r := by
  unfold abuild at h
  cases ht : T t with
  | none => rw [ht] at h; simp at h
  | some ti =>
    rw [ht] at h; simp only at h
    cases hz : ti.zero with
    | none => rw [hz] at h; simp at h
    | some z =>
      rw [hz] at h; simp only at h
      cases hp : placeOf T ti with
      | none => rw [hp] at h; simp at h
      | some place =>
        rw [hp] at h; simp only at h
        cases hf : fillA env place z parts.toList with
        | none => rw [hf] at h; simp at h
        | some r =>
          rw [hf] at h; simp at h; subst h
          obtain ⟨zv, z1, z2, _⟩ := (hT t ti ht).zero z hz
          obtain ⟨cs', c1, c2⟩ := fillA_spec he parts.toList z r zv.cells hf (z2.mono (noRen_le ρ))
          have hl : (parts.map fun (i, x) => (i, ev x)).toList = parts.toList.map fun p => (p.1, ev p.2) := by simp
          refine ⟨.agg cs', run_build w t _ cs' ?_, ?_⟩
          · rw [hl]
            unfold Program.built
            rw [(hT t ti ht).info, (hT t ti ht).desc]
            unfold placeOf at hp
            cases hd : ti.desc <;> rw [hd] at hp <;> simp only at hp <;> try (simp at hp; done)
            · rename_i n e
              cases hs : elemSize T e with
              | none => rw [hs] at hp; simp at hp
              | some sz =>
                rw [hs] at hp; simp at hp
                unfold elemSize at hs
                cases hfe : T e with
                | none => rw [hfe] at hs; simp at hs
                | some j =>
                  rw [hfe] at hs; simp at hs; subst hs
                  simp only [z1, (hT _ _ hfe).info]
                  rw [← hp] at c1; exact c1
            · rename_i fs
              cases hps : placesOf T fs.toList with
              | none => rw [hps] at hp; simp at hp
              | some ps =>
                rw [hps] at hp; simp at hp
                simp only [z1, placesOf_spec hT _ _ hps]
                rw [← hp] at c1
                rw [← c1]
                congr 1
                funext i
                rw [nth_eq]; simp
          · obtain ⟨l⟩ := cs'; exact .agg c2

/-! Builtins without memory. -/
def alen (T : TT) (t : TypeId) (x : AV) : Option AV :=
  match T t with
  | none => none
  | some ti => match ti.desc with
    | .slice _ => match x with
      | .slice _ n _ => some (.int .i64 (.ofNat n))
      | .nils => some (.int .i64 0)
      | .emp => some (.int .i64 0)
      | _ => none
    | .string => match x with
      | .str s => some (.int .i64 (.ofNat s.size))
      | _ => none
    | .array n _ => some (.int .i64 (.ofNat n))
    | _ => none

def acap (T : TT) (t : TypeId) (x : AV) : Option AV :=
  match T t with
  | none => none
  | some ti => match ti.desc with
    | .slice _ => match x with
      | .slice _ _ (.known c) => some (.int .i64 (.ofNat c))
      | .nils => some (.int .i64 0)
      | _ => none
    | .array n _ => some (.int .i64 (.ofNat n))
    | _ => none

def amin2 : AV → AV → Option AV
  | .int k x, .int _ y => match ilt y x with
    | true => some (.int k y)
    | false => some (.int k x)
  | _, _ => none
def amax2 : AV → AV → Option AV
  | .int k x, .int _ y => match ilt x y with
    | true => some (.int k y)
    | false => some (.int k x)
  | _, _ => none

/-- The builtins that touch no memory. -/
def abuiltin (T : TT) (b : Builtin) (ts : List TypeId) (args : List AV) : Option AV :=
  match b, args with
  | .len, [x] => match ts with
    | t :: _ => alen T t x
    | [] => none
  | .cap, [x] => match ts with
    | t :: _ => acap T t x
    | [] => none
  | .min, [x, y] => amin2 x y
  | .max, [x, y] => amax2 x y
  | _, _ => none

def opds (env : Tr AV) : List Operand → Option (List AV)
  | [] => some []
  | x :: xs => match opd env x with
    | none => none
    | some a => match opds env xs with
      | none => none
      | some r => some (a :: r)

theorem opds_spec {ρ : Ren} {env : Tr AV} {ev : Operand → Value} (he : OpdR ρ env ev) : ∀ {xs : List Operand} {as : List AV}, opds env xs = some as → VRs ρ as (xs.map ev)
  | [], as, h => by simp [opds] at h; subst h; exact .nil
  | x :: xs, as, h => by
    simp only [opds] at h
    cases h1 : opd env x with
    | none => rw [h1] at h; simp at h
    | some a =>
      rw [h1] at h; simp only at h
      cases h2 : opds env xs with
      | none => rw [h2] at h; simp at h
      | some r => rw [h2] at h; simp at h; subst h; exact .cons (he _ _ h1) (opds_spec he h2)

theorem opds_array {ρ : Ren} {env : Tr AV} {ev : Operand → Value} (he : OpdR ρ env ev) {xs : Array Operand} {as : List AV} (h : opds env xs.toList = some as) : VRs ρ as (xs.map ev).toList := by
  have := opds_spec he h
  simpa using this

theorem abuiltin_run {P : Program} {T : TT} (hT : TOk P T) {ρ : Ren} {b : Builtin} {ts : Array TypeId} {ty : TypeId} {cst : Array Bool} {args : List AV} {us : Array Value} {y : AV}
    (h : abuiltin T b ts.toList args = some y) (ha : VRs ρ args us.toList) (w : World) : ∃ r, (builtin b ts ty cst us).run P w = .ok (.value r) w ∧ VR ρ y r := by
  obtain ⟨ts⟩ := ts
  obtain ⟨us⟩ := us
  unfold abuiltin at h
  split at h
  · -- len
    cases ts with
    | nil => simp at h
    | cons t ts =>
      simp only at h
      simp only at ha
      cases ha with
      | cons hx htl =>
        cases htl
        unfold alen at h
        cases ht : T t with
        | none => rw [ht] at h; simp at h
        | some ti =>
          rw [ht] at h; simp only at h
          have hu := run_und hT ht w
          cases hd : ti.desc <;> rw [hd] at h hu <;> simp only at h <;> try (simp at h; done)
          all_goals
            cases hx <;> simp only [Option.some.injEq] at h <;> (try (simp at h; done)) <;> subst h <;>
              exact ⟨_, by simp [builtin, Builtin.len_, hu, goInt] <;> rfl, .int _ _⟩
  · cases ts with
    | nil => simp at h
    | cons t ts =>
      simp only at h
      simp only at ha
      cases ha with
      | cons hx htl =>
        cases htl
        unfold acap at h
        cases ht : T t with
        | none => rw [ht] at h; simp at h
        | some ti =>
          rw [ht] at h; simp only at h
          have hu := run_und hT ht w
          cases hd : ti.desc <;> rw [hd] at h hu <;> simp only at h <;> try (simp at h; done)
          all_goals
            cases hx <;> simp only [Option.some.injEq] at h <;> (try (simp at h; done)) <;> subst h <;>
              exact ⟨_, by simp [builtin, Builtin.cap_, hu, goInt] <;> rfl, .int _ _⟩
  · simp only at ha
    cases ha with
    | cons hx htl =>
      cases htl with
      | cons hy htl =>
        cases htl
        unfold amin2 at h
        split at h
        · rename_i k x k' y'
          cases hx; cases hy
          cases hl : ilt y' x <;> rw [hl] at h <;> simp at h <;> subst h <;> rw [ilt_eq] at hl <;> simp at hl
          · exact ⟨.int k x, by simp [builtin, Builtin.min_, Builtin.min2, Int.not_lt.2 hl], .int _ _⟩
          · exact ⟨.int k y', by simp [builtin, Builtin.min_, Builtin.min2, hl], .int _ _⟩
        · simp at h
  · simp only at ha
    cases ha with
    | cons hx htl =>
      cases htl with
      | cons hy htl =>
        cases htl
        unfold amax2 at h
        split at h
        · rename_i k x k' y'
          cases hx; cases hy
          cases hl : ilt x y' <;> rw [hl] at h <;> simp at h <;> subst h <;> rw [ilt_eq] at hl <;> simp at hl
          · exact ⟨.int k x, by simp [builtin, Builtin.max_, Builtin.max2, Int.not_lt.2 hl], .int _ _⟩
          · exact ⟨.int k y', by simp [builtin, Builtin.max_, Builtin.max2, hl], .int _ _⟩
        · simp at h
  · simp at h

/-! The operations without memory. -/
def anil (x : AV) : Option AV :=
  match x with
  | .ptr a => some (.ptr a)
  | .gptr g o => some (.gptr g o)
  | _ => none

def apure (T : TT) (env : Tr AV) (op : Op) : Option AV :=
  (match op with
  | .move x | .assign x => fun T env => opd env x
  | .pick c a b => fun T env => match opd env c with
    | some (.bool true) => opd env a
    | some (.bool false) => opd env b
    | _ => none
  | .nilCheck x => fun T env => match opd env x with
    | none => none
    | some a => anil a
  | .binOp op t x y _ => fun T env => match opd env x with
    | none => none
    | some a => match opd env y with
      | none => none
      | some b => abin T op t a b
  | .unOp op _ x => fun T env => match opd env x with
    | none => none
    | some a => aun op a
  | .convert src dst x => fun T env => match opd env x with
    | none => none
    | some a => aconv T src dst a
  | .makeFunc fn first captured => fun T env => match fn with
    | .func f => match opds env first.toList with
      | none => none
      | some xs => match opds env captured.toList with
        | none => none
        | some ys => some (.func (.func f) xs ys)
    | _ => none
  | .fieldAddr s x f => fun T env => match opd env x with
    | none => none
    | some a => afieldAddr T s f a
  | .field s x f => fun T env => match opd env x with
    | none => none
    | some a => afield T s f a
  | .indexAddr t x i => fun T env => match opd env x with
    | none => none
    | some a => match opd env i with
      | none => none
      | some b => aindexAddr T t a b
  | .index t x i => fun T env => match opd env x with
    | none => none
    | some a => match opd env i with
      | none => none
      | some b => aindex T t a b
  | .slice t x lo hi mx => fun T env => match opd env x with
    | none => none
    | some a => match natO env lo with
      | none => none
      | some l => match natO env hi with
        | none => none
        | some h => match natO env mx with
          | none => none
          | some m => aslice T t a l h m
  | .extract x i => fun T env => match opd env x with
    | none => none
    | some a => aextract a i
  | .build t parts => fun T env => abuild T env t parts.toList
  | .call c => fun T env => match c.callee with
    | .builtin b => match opds env c.args.toList with
      | none => none
      | some as => abuiltin T b c.argTypes.toList as
    | _ => none
  | _ => fun T env => none : TT → Tr AV → Option AV) T env

theorem apure_run {P : Program} {T : TT} (hT : TOk P T) {ρ : Ren} {env : Tr AV} {ev : Operand → Value} (he : OpdR ρ env ev) {o : Oper} {y : AV}
    (h : apure T env o.op = some y) (w : World) : ∃ r, (execOp ev o).run P w = .ok (.value r) w ∧ VR ρ y r := by
  obtain ⟨dst, op, type, pos, after, guard⟩ := o
  simp only at h
  have wrap : ∀ {s : Sem Value} {r : Value}, s.run P w = .ok r w → (s >>= fun x => pure (Next.value x)).run P w = .ok (.value r) w := by
    intro s r hs; simp [hs]
  unfold apure at h
  cases op <;> simp only at h <;> try (simp at h; done)
  case move x => exact ⟨_, rfl, he _ _ h⟩
  case assign x => exact ⟨_, rfl, he _ _ h⟩
  case pick c a b =>
    cases hc : opd env c with
    | none => rw [hc] at h; simp at h
    | some q =>
      rw [hc] at h
      have hq := he _ _ hc
      generalize hev : ev c = v at hq
      cases hq <;> (try simp only at h) <;> try (simp at h; done)
      rename_i bb
      cases bb
      · exact ⟨_, by simp [execOp, hev, asBool] <;> rfl, he _ _ h⟩
      · exact ⟨_, by simp [execOp, hev, asBool] <;> rfl, he _ _ h⟩
  case nilCheck x =>
    cases hx : opd env x with
    | none => rw [hx] at h; simp at h
    | some a =>
      rw [hx] at h; simp only at h
      have hr := he _ _ hx
      unfold anil at h
      cases a <;> simp only at h <;> try (simp at h; done)
      · cases h
        generalize hev : ev x = v at hr
        cases hr with
        | ptr hm => exact ⟨_, by simp [execOp, hev] <;> rfl, .ptr hm⟩
      · cases h
        generalize hev : ev x = v at hr
        cases hr
        exact ⟨_, by simp [execOp, hev] <;> rfl, .gptr _ _⟩
  case binOp op t x z yt =>
    cases hx : opd env x with
    | none => rw [hx] at h; simp at h
    | some a =>
      cases hz : opd env z with
      | none => rw [hx, hz] at h; simp at h
      | some b =>
        rw [hx, hz] at h; simp only at h
        obtain ⟨r, h1, h2⟩ := abin_run hT h (he _ _ hx) (he _ _ hz) x z w
        exact ⟨r, wrap h1, h2⟩
  case unOp op t x =>
    cases hx : opd env x with
    | none => rw [hx] at h; simp at h
    | some a =>
      rw [hx] at h; simp only at h
      obtain ⟨r, h1, h2⟩ := aun_run h (he _ _ hx) w
      exact ⟨r, wrap h1, h2⟩
  case convert s d x =>
    cases hx : opd env x with
    | none => rw [hx] at h; simp at h
    | some a =>
      rw [hx] at h; simp only at h
      obtain ⟨r, h1, h2⟩ := aconv_run hT h (he _ _ hx) w
      exact ⟨r, wrap h1, h2⟩
  case makeFunc fn first captured =>
    cases fn <;> simp only at h <;> try (simp at h; done)
    rename_i f
    cases h1 : opds env first.toList with
    | none => rw [h1] at h; simp at h
    | some xs =>
      cases h2 : opds env captured.toList with
      | none => rw [h1, h2] at h; simp at h
      | some ys =>
        rw [h1, h2] at h; simp only [Option.some.injEq] at h; subst h
        refine ⟨.func (.func f) (first.map ev) (captured.map ev), by simp [execOp, Instr.makeFunc], ?_⟩
        have a1 := opds_array he h1
        have a2 := opds_array he h2
        generalize first.map ev = A at *
        generalize captured.map ev = B at *
        obtain ⟨A⟩ := A; obtain ⟨B⟩ := B
        exact .func _ a1 a2 (fun l e => by cases e)
  case slice t x lo hi mx =>
    cases hx : opd env x with
    | none => rw [hx] at h; simp at h
    | some a =>
      rw [hx] at h; simp only at h
      cases h1 : natO env lo with
      | none => rw [h1] at h; simp at h
      | some l =>
        cases h2 : natO env hi with
        | none => rw [h1, h2] at h; simp at h
        | some hh =>
          cases h3 : natO env mx with
          | none => rw [h1, h2, h3] at h; simp at h
          | some m =>
            rw [h1, h2, h3] at h; simp only at h
            obtain ⟨r, r1, r2⟩ := aslice_run hT h (he _ _ hx) (natO_spec he h1) (natO_spec he h2) (natO_spec he h3) w
            exact ⟨r, wrap r1, r2⟩
  case fieldAddr s x f =>
    cases hx : opd env x with
    | none => rw [hx] at h; simp at h
    | some a =>
      rw [hx] at h; simp only at h
      obtain ⟨r, h1, h2⟩ := afieldAddr_run hT h (he _ _ hx) w
      exact ⟨r, wrap h1, h2⟩
  case field s x f =>
    cases hx : opd env x with
    | none => rw [hx] at h; simp at h
    | some a =>
      rw [hx] at h; simp only at h
      obtain ⟨r, h1, h2⟩ := afield_run hT h (he _ _ hx) w
      exact ⟨r, wrap h1, h2⟩
  case indexAddr t x i =>
    cases hx : opd env x with
    | none => rw [hx] at h; simp at h
    | some a =>
      cases hi : opd env i with
      | none => rw [hx, hi] at h; simp at h
      | some b =>
        rw [hx, hi] at h; simp only at h
        obtain ⟨r, h1, h2⟩ := aindexAddr_run hT h (he _ _ hx) (he _ _ hi) w
        exact ⟨r, wrap h1, h2⟩
  case index t x i =>
    cases hx : opd env x with
    | none => rw [hx] at h; simp at h
    | some a =>
      cases hi : opd env i with
      | none => rw [hx, hi] at h; simp at h
      | some b =>
        rw [hx, hi] at h; simp only at h
        obtain ⟨r, h1, h2⟩ := aindex_run hT h (he _ _ hx) (he _ _ hi) w
        exact ⟨r, wrap h1, h2⟩
  case extract x i =>
    cases hx : opd env x with
    | none => rw [hx] at h; simp at h
    | some a =>
      rw [hx] at h; simp only at h
      obtain ⟨r, h1, h2⟩ := aextract_run h (he _ _ hx) w
      exact ⟨r, wrap h1, h2⟩
  case build t parts =>
    obtain ⟨r, h1, h2⟩ := abuild_run hT he h w
    exact ⟨r, wrap h1, h2⟩
  case call c =>
    obtain ⟨callee, args, ats⟩ := c
    simp only at h
    cases callee <;> simp only at h <;> try (simp at h; done)
    rename_i b
    cases ha : opds env args.toList with
    | none => rw [ha] at h; simp at h
    | some as =>
      rw [ha] at h; simp only at h
      obtain ⟨r, h1, h2⟩ := abuiltin_run (P := P) (ty := type) (cst := args.map fun | .const _ => true | _ => false) hT h (opds_array he ha) w
      exact ⟨r, by simp only [execOp, resolve, pure_bind, invoke]; exact h1, h2⟩

end Go.AM
