/- The abstract machine, part M: operations on maps. No condition. -/
import Derived.Test.YtfnlfpodeoilgaaGreatDoorAmL
set_option linter.all false
noncomputable section
namespace Go.AM
open Go.RowKit (Below)

/-- The zero of a type, as one value. -/
def zeroAV (T : TT) (t : TypeId) : Option AV :=
  match T t with
  | none => none
  | some i => match zeroOf T t with
    | none => none
    | some z => match i.agg with
      | true => some (.agg z)
      | false => match z with
        | [y] => match y.single with
          | true => some y
          | false => none
        | _ => none

theorem zeroAV_run {P : Program} {T : TT} (hT : TOk P T) {ρ : Ren} {t : TypeId} {y : AV} (h : zeroAV T t = some y) (w : World) : ∃ v, (zeroValue t).run P w = .ok v w ∧ VR ρ y v := by
  unfold zeroAV at h
  cases ht : T t with
  | none => rw [ht] at h; simp at h
  | some i =>
    rw [ht] at h; simp only at h
    cases hz : zeroOf T t with
    | none => rw [hz] at h; simp at h
    | some z =>
      rw [hz] at h; simp only at h
      obtain ⟨v, i', hi', h1, h2, h3, h4⟩ := zeroOf_run hT hz w
      rw [ht] at hi'; cases hi'
      refine ⟨v, h1, ?_⟩
      cases ha : i.agg <;> rw [ha] at h h4 <;> simp only at h
      · cases z with
        | nil => simp at h
        | cons q qs =>
          cases qs with
          | cons => simp at h
          | nil =>
            simp only at h
            cases hs : q.single <;> rw [hs] at h <;> simp at h
            subst h
            cases v <;> simp at h4
            all_goals
              simp only [Value.cells] at h2
              cases h2 with
              | cons hq _ => exact hq.mono (noRen_le ρ)
      · simp at h; subst h
        cases v <;> simp at h4
        rename_i cs
        obtain ⟨cs⟩ := cs
        exact .agg (h2.mono (noRen_le ρ))

def mapOf (s : St) (x : AV) : Option (List (AV × AV × Nat)) :=
  match x with
  | .nilm => some []
  | .map id => match s.heap.get id with
    | some (.mp es _) => some es
    | _ => none
  | _ => none

def alookup (T : TT) (s : St) (t : TypeId) (x k : AV) (ok : Bool) : Option AV :=
  match T t with
  | none => none
  | some ti => match ti.desc with
    | .map kt e => match T kt with
      | none => none
      | some _ => match mapOf s x with
        | none => none
        | some es => match keyOk T 30 kt k with
          | false => none
          | true => match afind T kt k es 0 with
            | none => none
            | some (some (_, v)) => match ok with
              | true => some (.tuple [v, .bool true])
              | false => some v
            | some none => match zeroAV T e with
              | none => none
              | some z => match ok with
                | true => some (.tuple [z, .bool false])
                | false => some z
    | _ => none

theorem alookup_run {P : Program} {T : TT} (hT : TOk P T) {G B ρ s w} (h : Rel G B ρ s w) {t : TypeId} {x k y : AV} {u v : Value} {ok : Bool} (ha : alookup T s t x k ok = some y)
    (hx : VR ρ x u) (hk : VR ρ k v) : ∃ r, (Instr.lookup t u v ok).run P w = .ok r w ∧ VR ρ y r := by
  unfold alookup at ha
  cases ht : T t with
  | none => rw [ht] at ha; simp at ha
  | some ti =>
    rw [ht] at ha; simp only at ha
    have hu := run_und hT ht w
    cases hd : ti.desc <;> rw [hd] at ha hu <;> simp only at ha <;> try (simp at ha; done)
    rename_i kt e
    cases hkt : T kt with
    | none => rw [hkt] at ha; simp at ha
    | some ki =>
      rw [hkt] at ha; simp only at ha
      cases hm : mapOf s x with
      | none => rw [hm] at ha; simp at ha
      | some es =>
        rw [hm] at ha; simp only at ha
        cases hko : keyOk T 30 kt k <;> rw [hko] at ha <;> simp only at ha
        · simp at ha
        have hck := fun (b : Bool) => keyOk_run (P := P) hT b 30 10000 kt k v hko (by omega) hk w
        have main : ∀ es' : Array MapEntry, EntsR ρ es es'.toList →
            ∃ r, (Sem.run P (Instr.findKey kt v es'.toList) w).andThen (fun a w' => Sem.run P (match a with
                | some (_, v) => do
                  let x ← (pure (v, true) : Sem (Value × Bool))
                  pure (if ok = true then Value.tuple #[x.1, .bool x.2] else x.1)
                | none => do
                  let z ← zeroValue e
                  let x ← (pure (z, false) : Sem (Value × Bool))
                  pure (if ok = true then Value.tuple #[x.1, .bool x.2] else x.1)) w') = .ok r w ∧ VR ρ y r := by
          intro es' hE
          cases hf : afind T kt k es 0 with
          | none => rw [hf] at ha; simp at ha
          | some q =>
            rw [hf] at ha
            obtain ⟨r', r1, r2⟩ := findKey_run (P := P) hT hk hf hE hkt w
            rw [r1]
            cases r2 with
            | none =>
              simp only at ha
              cases hz : zeroAV T e with
              | none => rw [hz] at ha; simp at ha
              | some z =>
                rw [hz] at ha; simp only at ha
                obtain ⟨zv, z1, z2⟩ := zeroAV_run (P := P) (ρ := ρ) hT hz w
                cases ok
                · simp at ha; subst ha; exact ⟨zv, by simp [z1], z2⟩
                · simp at ha; subst ha; exact ⟨.tuple #[zv, .bool false], by simp [z1], .tuple (.cons z2 (.cons (.bool _) .nil))⟩
            | some i hv =>
              cases ok
              · simp at ha; subst ha; exact ⟨_, by simp <;> rfl, hv⟩
              · simp at ha; subst ha; exact ⟨_, by simp <;> rfl, .tuple (.cons hv (.cons (.bool _) .nil))⟩
        cases hx <;> try (simp [mapOf] at hm; done)
        · simp [mapOf] at hm; subst hm
          obtain ⟨r, r1, r2⟩ := main #[] .nil
          refine ⟨r, ?_, r2⟩
          rw [← r1]
          simp only [Instr.lookup, Sem.run_bind, hu, Result.andThen_ok, Sem.run_pure, hck]
          rfl
        · rename_i id b κ hmr
          simp only [mapOf] at hm
          cases ho : s.heap.get id with
          | none => rw [ho] at hm; simp at hm
          | some o =>
            rw [ho] at hm
            cases o <;> simp at hm
            subst hm
            rename_i es clock
            obtain ⟨es', e1, e2⟩ := h.map hmr ho
            obtain ⟨r, r1, r2⟩ := main es' e2
            refine ⟨r, ?_, r2⟩
            rw [← r1]
            simp only [Instr.lookup, Sem.run_bind, hu, Result.andThen_ok, Sem.run_pure, hck, run_getObj_map e1]
            rfl

def alenMap (T : TT) (s : St) (t : TypeId) (x : AV) : Option AV :=
  match T t with
  | none => none
  | some ti => match ti.desc with
    | .map _ _ => match x with
      | .nilm => some (.int .i64 0)
      | .map id => match s.heap.get id with
        | some (.mp es _) => some (.int .i64 (.ofNat es.length))
        | _ => none
      | _ => none
    | _ => none

theorem alenMap_run {P : Program} {T : TT} (hT : TOk P T) {G B ρ s w} (h : Rel G B ρ s w) {t ty : TypeId} {ts : List TypeId} {x y : AV} {u : Value} (ha : alenMap T s t x = some y)
    (hx : VR ρ x u) : ∃ r, (Builtin.len_ ⟨t :: ts⟩ ty #[u]).run P w = .ok r w ∧ VR ρ y r := by
  unfold alenMap at ha
  cases ht : T t with
  | none => rw [ht] at ha; simp at ha
  | some ti =>
    rw [ht] at ha; simp only at ha
    have hu := run_und hT ht w
    cases hd : ti.desc <;> rw [hd] at ha hu <;> simp only at ha <;> try (simp at ha; done)
    cases hx <;> simp only at ha <;> try (simp at ha; done)
    · cases ha; exact ⟨.int .i64 0, by simp [Builtin.len_, hu, goInt], .int _ _⟩
    · rename_i id b κ hmr
      cases ho : s.heap.get id with
      | none => rw [ho] at ha; simp at ha
      | some o =>
        rw [ho] at ha
        cases o <;> simp only at ha <;> try (simp at ha; done)
        rename_i es clock
        cases ha
        obtain ⟨es', e1, e2⟩ := h.map hmr ho
        have := e2.length
        refine ⟨.int .i64 (es.length : Nat), ?_, .int _ _⟩
        simp [Builtin.len_, hu, goInt, run_getObj_map e1, this]

/-- A map that is written: its key and element types, itself, its entries. -/
def mapW (T : TT) (s : St) (t : TypeId) (x k : AV) : Option (TypeId × TypeId × Nat × List (AV × AV × Nat) × Nat) :=
  match T t with
  | none => none
  | some ti => match ti.desc with
    | .map kt e => match T kt with
      | none => none
      | some _ => match x with
        | .map id => match s.heap.get id with
          | some (.mp es clock) => match keyOk T 30 kt k with
            | true => some (kt, e, id, es, clock)
            | false => none
          | _ => none
        | _ => none
    | _ => none

theorem mapW_spec {P : Program} {T : TT} (hT : TOk P T) {G B ρ s w} (h : Rel G B ρ s w) {t kt e : TypeId} {x k : AV} {u v : Value} {id clock : Nat} {es : List (AV × AV × Nat)}
    (ha : mapW T s t x k = some (kt, e, id, es, clock)) (hx : VR ρ x u) (hk : VR ρ k v) :
    (∀ w, (underlying t).run P w = .ok (.map kt e) w) ∧ (∃ ki, T kt = some ki) ∧ x = .map id ∧ s.heap.get id = some (.mp es clock) ∧
      (∀ b w, (Instr.checkKey b 10000 kt v).run P w = .ok () w) ∧ ∃ b κ es', ρ id 0 = some (b, κ) ∧ u = .map (some b) ∧ w.heap[b]? = some (.map es' clock) ∧ EntsR ρ es es'.toList := by
  unfold mapW at ha
  cases ht : T t with
  | none => rw [ht] at ha; simp at ha
  | some ti =>
    rw [ht] at ha; simp only at ha
    have hu := run_und hT ht
    cases hd : ti.desc <;> rw [hd] at ha hu <;> simp only at ha <;> try (simp at ha; done)
    rename_i kt' e'
    cases hkt : T kt' with
    | none => rw [hkt] at ha; simp at ha
    | some ki =>
      rw [hkt] at ha; simp only at ha
      cases hx <;> simp only at ha <;> try (simp at ha; done)
      rename_i id' b κ hmr
      cases ho : s.heap.get id' with
      | none => rw [ho] at ha; simp at ha
      | some o =>
        rw [ho] at ha
        cases o <;> simp only at ha <;> try (simp at ha; done)
        rename_i es' clock'
        cases hko : keyOk T 30 kt' k <;> rw [hko] at ha <;> simp at ha
        obtain ⟨rfl, rfl, rfl, rfl, rfl⟩ := ha
        obtain ⟨es2, e1, e2⟩ := h.map hmr ho
        exact ⟨hu, ⟨ki, hkt⟩, rfl, ho, fun b w => keyOk_run (P := P) hT b 30 10000 _ k v hko (by omega) hk w, b, κ, es2, hmr, rfl, e1, e2⟩

def amapUpdate (T : TT) (s : St) (t : TypeId) (x k v : AV) : Option St :=
  match mapW T s t x k with
  | none => none
  | some (kt, _, id, es, clock) => match afind T kt k es 0 with
    | none => none
    | some none => some (s.put id (.mp (es ++ [(k, v, clock)]) (clock + 1)))
    | some (some (i, _)) => match nth es i with
      | none => none
      | some (k', _, _) => match kb k' k with
        | false => none
        | true => some (s.put id (.mp (setEnt es i k v) clock))

theorem amapUpdate_run {P : Program} {T : TT} (hT : TOk P T) {G B ρ s w} (h : Rel G B ρ s w) {t : TypeId} {x k z : AV} {u v q : Value} {s' : St} (ha : amapUpdate T s t x k z = some s')
    (hx : VR ρ x u) (hk : VR ρ k v) (hz : VR ρ z q) : ∃ w', (Instr.mapUpdate t u v q).run P w = .ok () w' ∧ Rel G B ρ s' w' ∧ Ext B ρ s w ρ s' w' := by
  unfold amapUpdate at ha
  cases hm : mapW T s t x k with
  | none => rw [hm] at ha; simp at ha
  | some g =>
    obtain ⟨kt, e, id, es, clock⟩ := g
    rw [hm] at ha; simp only at ha
    obtain ⟨m1, ⟨ki, m2⟩, rfl, ho, m3, b, κ, es', m4, rfl, m5, m6⟩ := mapW_spec hT h hm hx hk
    cases hf : afind T kt k es 0 with
    | none => rw [hf] at ha; simp at ha
    | some r =>
      rw [hf] at ha
      obtain ⟨r', r1, r2⟩ := findKey_run (P := P) hT hk hf m6 m2 w
      cases r2 with
      | none =>
        simp at ha; subst ha
        obtain ⟨q1, q2⟩ := h.putMap (clock' := clock + 1) (cs := es'.toList ++ [⟨v, q, clock⟩]) m4 ho (m6.append (.cons (.mk hk hz) .nil))
        refine ⟨_, ?_, q1, q2⟩
        have e0 : es'.push ⟨v, q, clock⟩ = ⟨es'.toList ++ [⟨v, q, clock⟩]⟩ := by apply Array.ext'; simp
        simp only [Instr.mapUpdate, Sem.run_bind, m1, Result.andThen_ok, run_getObj_map m5, m3, r1]
        rw [run_setObj_map m5, e0]
      | some i hv =>
        rename_i v0 v0'
        simp only at ha
        rw [nth_eq] at ha
        cases hn : es[i]? with
        | none => rw [hn] at ha; simp at ha
        | some ent =>
          obtain ⟨k0, v1, b1⟩ := ent
          rw [hn] at ha; simp only at ha
          cases hkb : kb k0 k <;> rw [hkb] at ha <;> simp at ha
          subst ha
          obtain ⟨ent', g1, g2⟩ := m6.get _ _ hn
          cases g2 with
          | mk gk gv =>
            rename_i gk' gv'
            obtain ⟨q1, q2⟩ := h.putMap (clock' := clock) (cs := es'.toList.modify i fun e => { e with key := v, val := q }) m4 ho (setEnt_spec hk hz es es'.toList i m6)
            refine ⟨_, ?_, q1, q2⟩
            have e1 : es'[i]? = some ⟨gk', gv', b1⟩ := by simpa using g1
            have e0 : (es'.modify i fun e => { e with key := v, val := q }) = ⟨es'.toList.modify i fun e => { e with key := v, val := q }⟩ := by apply Array.ext'; simp
            simp only [Instr.mapUpdate, Sem.run_bind, m1, Result.andThen_ok, run_getObj_map m5, m3, r1, e1, Option.map_some, Option.getD_some, keyStays_run hkb gk hk]
            rw [run_setObj_map m5, e0]

def amapEntry (T : TT) (s : St) (t : TypeId) (x k : AV) : Option (AV × St) :=
  match mapW T s t x k with
  | none => none
  | some (kt, e, id, es, clock) => match afind T kt k es 0 with
    | none => none
    | some none => match zeroAV T e with
      | none => none
      | some z => some (.tuple [z, .int .i64 (.ofNat clock)], s.put id (.mp (es ++ [(k, z, clock)]) (clock + 1)))
    | some (some (i, v)) => match nth es i with
      | none => none
      | some (k', _, b) => match kb k' k with
        | false => none
        | true => some (.tuple [v, .int .i64 (.ofNat b)], s.put id (.mp (setEnt es i k v) clock))

theorem modify_key (es : List MapEntry) (i : Nat) (k v : Value) (b : Nat) (k0 : Value) (h : es[i]? = some ⟨k0, v, b⟩) :
    (es.modify i fun e => { e with key := k }) = es.modify i fun e => { e with key := k, val := v } := by
  apply List.ext_getElem?
  intro j
  rw [List.getElem?_modify, List.getElem?_modify]
  by_cases hj : i = j
  · subst hj; simp [h]
  · simp [hj]

theorem amapEntry_run {P : Program} {T : TT} (hT : TOk P T) {G B ρ s w} (h : Rel G B ρ s w) {t : TypeId} {x k y : AV} {u v : Value} {s' : St} (ha : amapEntry T s t x k = some (y, s'))
    (hx : VR ρ x u) (hk : VR ρ k v) : ∃ w' r, (Instr.mapEntry t u v).run P w = .ok r w' ∧ VR ρ y r ∧ Rel G B ρ s' w' ∧ Ext B ρ s w ρ s' w' := by
  unfold amapEntry at ha
  cases hm : mapW T s t x k with
  | none => rw [hm] at ha; simp at ha
  | some g =>
    obtain ⟨kt, e, id, es, clock⟩ := g
    rw [hm] at ha; simp only at ha
    obtain ⟨m1, ⟨ki, m2⟩, rfl, ho, m3, b, κ, es', m4, rfl, m5, m6⟩ := mapW_spec hT h hm hx hk
    cases hf : afind T kt k es 0 with
    | none => rw [hf] at ha; simp at ha
    | some r =>
      rw [hf] at ha
      obtain ⟨r', r1, r2⟩ := findKey_run (P := P) hT hk hf m6 m2 w
      cases r2 with
      | none =>
        simp only at ha
        cases hz : zeroAV T e with
        | none => rw [hz] at ha; simp at ha
        | some z =>
          rw [hz] at ha; simp only [Option.some.injEq, Prod.mk.injEq] at ha
          obtain ⟨rfl, rfl⟩ := ha
          obtain ⟨zv, z1, z2⟩ := zeroAV_run (P := P) (ρ := ρ) hT hz w
          obtain ⟨q1, q2⟩ := h.putMap (clock' := clock + 1) (cs := es'.toList ++ [⟨v, zv, clock⟩]) m4 ho (m6.append (.cons (.mk hk z2) .nil))
          refine ⟨_, .tuple #[zv, .int .i64 (clock : Nat)], ?_, .tuple (.cons z2 (.cons (.int _ _) .nil)), q1, q2⟩
          have e0 : es'.push ⟨v, zv, clock⟩ = ⟨es'.toList ++ [⟨v, zv, clock⟩]⟩ := by apply Array.ext'; simp
          simp only [Instr.mapEntry, Sem.run_bind, m1, Result.andThen_ok, run_getObj_map m5, m3, r1, z1]
          rw [run_setObj_map m5, e0]
          simp [goInt]
      | some i hv =>
        rename_i v0 v0'
        simp only at ha
        rw [nth_eq] at ha
        obtain ⟨_, k2, b2, hn'⟩ := afind_lt es 0 i v0 hf
        simp only [Nat.sub_zero] at hn'
        rw [hn'] at ha; simp only at ha
        cases hkb : kb k2 k <;> rw [hkb] at ha <;> simp only [Option.some.injEq, Prod.mk.injEq] at ha
        · simp at ha
        obtain ⟨rfl, rfl⟩ := ha
        obtain ⟨ent', g1, g2⟩ := m6.get _ _ hn'
        cases g2 with
        | mk gk gv =>
          rename_i gk' gv'
          have e1 : es'[i]? = some ⟨gk', gv', b2⟩ := by simpa using g1
          obtain ⟨q1, q2⟩ := h.putMap (clock' := clock) (cs := es'.toList.modify i fun e => { e with key := v, val := gv' }) m4 ho (setEnt_spec hk gv es es'.toList i m6)
          refine ⟨_, .tuple #[v0', .int .i64 (b2 : Nat)], ?_, .tuple (.cons hv (.cons (.int _ _) .nil)), q1, q2⟩
          have e0 : (es'.modify i fun e => { e with key := v }) = ⟨es'.toList.modify i fun e => { e with key := v, val := gv' }⟩ := by
            apply Array.ext'
            rw [Array.toList_modify]
            exact modify_key _ _ _ _ _ _ g1
          simp only [Instr.mapEntry, Sem.run_bind, m1, Result.andThen_ok, run_getObj_map m5, m3, r1, e1, Option.map_some, Option.getD_some, keyStays_run hkb gk hk]
          rw [run_setObj_map m5, e0]
          simp [goInt]

def aentryStore (s : St) (x st v : AV) : Option St :=
  match x with
  | .map id => match s.heap.get id with
    | some (.mp es clock) => match anat st with
      | none => none
      | some n => match findBorn es n 0 with
        | none => none
        | some i => match nth es i with
          | none => none
          | some (k, _, _) => some (s.put id (.mp (setEnt es i k v) clock))
    | _ => none
  | _ => none
where
  findBorn : List (AV × AV × Nat) → Nat → Nat → Option Nat
    | [], _, _ => none
    | (_, _, b) :: es, n, i => match b.beq n with
      | true => some i
      | false => findBorn es n (i + 1)

theorem findBorn_spec {ρ : Ren} (n : Nat) : ∀ (es : List (AV × AV × Nat)) (es' : List MapEntry) (k i : Nat), EntsR ρ es es' → aentryStore.findBorn es n k = some i →
    k ≤ i ∧ es'.findIdx? (fun e => (e.born : Int) == (n : Int)) = some (i - k)
  | [], _, k, i, .nil, h => by simp [aentryStore.findBorn] at h
  | (a, b, c) :: es, _, k, i, .cons (.mk h1 h2) t, h => by
    simp only [aentryStore.findBorn] at h
    cases hb : c.beq n <;> rw [hb] at h <;> simp only at h
    · obtain ⟨q1, q2⟩ := findBorn_spec n es _ (k + 1) i t h
      refine ⟨by omega, ?_⟩
      have hne : ((c : Int) == (n : Int)) = false := by have := beq_ne hb; simp; omega
      simp only [List.findIdx?_cons, hne, q2]
      simp; omega
    · simp at h; subst h
      have he : ((c : Int) == (n : Int)) = true := by have := beq_iff.1 hb; simp; omega
      simp [List.findIdx?_cons, he]

theorem modify_val (es : List MapEntry) (i : Nat) (k v : Value) (b : Nat) (v0 : Value) (h : es[i]? = some ⟨k, v0, b⟩) :
    (es.modify i fun e => { e with val := v }) = es.modify i fun e => { e with key := k, val := v } := by
  apply List.ext_getElem?
  intro j
  rw [List.getElem?_modify, List.getElem?_modify]
  by_cases hj : i = j
  · subst hj; simp [h]
  · simp [hj]

theorem aentryStore_run {P : Program} {G B ρ s w} (h : Rel G B ρ s w) {t : TypeId} {x st z : AV} {u v q : Value} {s' : St} (ha : aentryStore s x st z = some s')
    (hx : VR ρ x u) (hst : VR ρ st v) (hz : VR ρ z q) : ∃ w', (Instr.entryStore t u v q).run P w = .ok () w' ∧ Rel G B ρ s' w' ∧ Ext B ρ s w ρ s' w' := by
  unfold aentryStore at ha
  cases hx <;> simp only at ha <;> try (simp at ha; done)
  rename_i id b κ hm
  cases ho : s.heap.get id with
  | none => rw [ho] at ha; simp at ha
  | some o =>
    rw [ho] at ha
    cases o <;> simp only at ha <;> try (simp at ha; done)
    rename_i es clock
    cases hn : anat st with
    | none => rw [hn] at ha; simp at ha
    | some n =>
      rw [hn] at ha; simp only at ha
      obtain ⟨k, rfl⟩ := anat_spec hn hst
      cases hf : aentryStore.findBorn es n 0 with
      | none => rw [hf] at ha; simp at ha
      | some i =>
        rw [hf] at ha; simp only at ha
        rw [nth_eq] at ha
        cases hi : es[i]? with
        | none => rw [hi] at ha; simp at ha
        | some ent =>
          obtain ⟨k0, v0, b0⟩ := ent
          rw [hi] at ha; simp at ha; subst ha
          obtain ⟨es', e1, e2⟩ := h.map hm ho
          obtain ⟨ent', g1, g2⟩ := e2.get _ _ hi
          cases g2 with
          | mk gk gv =>
            rename_i gk' gv'
            obtain ⟨_, fb⟩ := findBorn_spec (ρ := ρ) n es es'.toList 0 i e2 hf
            obtain ⟨q1, q2⟩ := h.putMap (clock' := clock) (cs := es'.toList.modify i fun e => { e with key := gk', val := q }) hm ho (setEnt_spec gk hz es es'.toList i e2)
            refine ⟨_, ?_, q1, q2⟩
            have e0 : (es'.modify i fun e => { e with val := q }) = ⟨es'.toList.modify i fun e => { e with key := gk', val := q }⟩ := by
              apply Array.ext'
              rw [Array.toList_modify]
              exact modify_val _ _ _ _ _ _ g1
            have fb' : es'.findIdx? (fun e => (e.born : Int) == (n : Int)) = some i := by
              have : ∀ (l : List MapEntry), (l.toArray).findIdx? (fun e => (e.born : Int) == (n : Int)) = l.findIdx? (fun e => (e.born : Int) == (n : Int)) := fun l => by simp
              have h2 := this es'.toList
              rw [Array.toArray_toList] at h2
              rw [h2]; simpa using fb
            simp only [Instr.entryStore, Sem.run_bind, run_getObj_map e1, Result.andThen_ok, asInt, asIntOf, Sem.run_pure, fb']
            rw [run_setObj_map e1, e0]

def adelete (T : TT) (s : St) (t : TypeId) (x k : AV) : Option (AV × St) :=
  match x with
  | .nilm => match T t with
    | none => none
    | some ti => match ti.desc with
      | .map kt _ => match keyOk T 30 kt k with
        | true => some (.tuple [], s)
        | false => none
      | _ => none
  | x => match mapW T s t x k with
    | none => none
    | some (kt, _, id, es, clock) => match afind T kt k es 0 with
      | none => none
      | some none => some (.tuple [], s)
      | some (some (i, _)) => some (.tuple [], s.put id (.mp (delEnt es i) clock))

theorem putSame {w : World} {b : Nat} {o : Obj} (h : w.heap[b]? = some o) : { w with heap := w.heap.setIfInBounds b o } = w := by
  have : w.heap.setIfInBounds b o = w.heap := by
    apply Array.ext_getElem?
    intro j
    rw [Array.getElem?_setIfInBounds]
    split
    · rename_i hj; subst hj; simp [(Array.getElem?_eq_some_iff.1 h).1, ← h]
    · rfl
  rw [this]

theorem adelete_run {P : Program} {T : TT} (hT : TOk P T) {G B ρ s w} (h : Rel G B ρ s w) {t ty : TypeId} {ts : List TypeId} {x k y : AV} {u v : Value} {s' : St} (ha : adelete T s t x k = some (y, s'))
    (hx : VR ρ x u) (hk : VR ρ k v) : ∃ w' r, (Builtin.delete_ ⟨t :: ts⟩ ty #[u, v]).run P w = .ok r w' ∧ VR ρ y r ∧ Rel G B ρ s' w' ∧ Ext B ρ s w ρ s' w' := by
  unfold adelete at ha
  have gen : (match mapW T s t x k with
    | none => none
    | some (kt, _, id, es, clock) => match afind T kt k es 0 with
      | none => none
      | some none => some (AV.tuple [], s)
      | some (some (i, _)) => some (.tuple [], s.put id (.mp (delEnt es i) clock))) = some (y, s') →
      ∃ w' r, (Builtin.delete_ ⟨t :: ts⟩ ty #[u, v]).run P w = .ok r w' ∧ VR ρ y r ∧ Rel G B ρ s' w' ∧ Ext B ρ s w ρ s' w' := by
    intro hb
    clear ha
    cases hm : mapW T s t x k with
    | none => rw [hm] at hb; simp at hb
    | some g =>
      obtain ⟨kt, e, id, es, clock⟩ := g
      rw [hm] at hb; simp only at hb
      obtain ⟨m1, ⟨ki, m2⟩, rfl, ho, m3, b, κ, es', m4, rfl, m5, m6⟩ := mapW_spec hT h hm hx hk
      cases hf : afind T kt k es 0 with
      | none => rw [hf] at hb; simp at hb
      | some r =>
        rw [hf] at hb
        obtain ⟨r', r1, r2⟩ := findKey_run (P := P) hT hk hf m6 m2 w
        cases r2 with
        | none =>
          simp only [Option.some.injEq, Prod.mk.injEq] at hb
          obtain ⟨rfl, rfl⟩ := hb
          refine ⟨w, .tuple #[], ?_, .tuple .nil, h, .refl ..⟩
          simp only [Builtin.delete_, List.getElem?_toArray, List.getElem?_cons_zero, List.getElem?_cons_succ, Sem.run_bind, m1, Result.andThen_ok, run_getObj_map m5, m3, r1]
          rw [run_setObj_map m5, putSame m5]
          simp
        | some i hv =>
          simp only [Option.some.injEq, Prod.mk.injEq] at hb
          obtain ⟨rfl, rfl⟩ := hb
          obtain ⟨q1, q2⟩ := h.putMap (clock' := clock) (cs := es'.toList.eraseIdx i) m4 ho (delEnt_spec es es'.toList i m6)
          refine ⟨_, .tuple #[], ?_, .tuple .nil, q1, q2⟩
          have e0 : es'.eraseIdxIfInBounds i = ⟨es'.toList.eraseIdx i⟩ := by
            apply Array.ext'
            rw [Array.toList_eraseIdxIfInBounds]
          simp only [Builtin.delete_, List.getElem?_toArray, List.getElem?_cons_zero, List.getElem?_cons_succ, Sem.run_bind, m1, Result.andThen_ok, run_getObj_map m5, m3, r1]
          rw [run_setObj_map m5, e0]
          simp
  cases hx with
  | nilm =>
    simp only at ha
    cases ht : T t with
    | none => rw [ht] at ha; simp at ha
    | some ti =>
      rw [ht] at ha; simp only at ha
      have hu := run_und hT ht w
      cases hd : ti.desc <;> rw [hd] at ha hu <;> simp only at ha <;> try (simp at ha; done)
      rename_i kt e
      cases hko : keyOk T 30 kt k <;> rw [hko] at ha <;> simp only [Option.some.injEq, Prod.mk.injEq] at ha
      · simp at ha
      obtain ⟨rfl, rfl⟩ := ha
      refine ⟨w, .tuple #[], ?_, .tuple .nil, h, .refl ..⟩
      simp [Builtin.delete_, hu, keyOk_run (P := P) hT true 30 10000 kt k v hko (by omega) hk w]
  | map hm => exact gen ha
  | _ => first | exact gen ha | (simp only at ha; exact gen ha)

end Go.AM
