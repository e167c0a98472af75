/- The abstract machine, part C: cells are read and written. No condition. -/
import Derived.Test.YtfnlfpodeoilgaaGreatDoorAmB
set_option linter.all false
noncomputable section
namespace Go.AM
open Go.RowKit (Below)

/-! Reading. -/
def readO (o : AO) (m : Nat) : Nat → Nat → Nat → Option (List AV)
  | fuel, off, k => match k.beq 0 with
    | true => some []
    | false => match fuel with
      | 0 => none
      | f + 1 => match o.elem m (off / o.esz) with
        | none => none
        | some l => match (off % o.esz + k).ble o.esz with
          | true => some ((l.drop (off % o.esz)).take k)
          | false => match readO o m f (off + (o.esz - off % o.esz)) (k - (o.esz - off % o.esz)) with
            | none => none
            | some r => some (l.drop (off % o.esz) ++ r)

/-- What is read of a row of cells. -/
def ReadsAs (ρ : Ren) (cs : Array Value) (off k : Nat) (l : List AV) : Prop :=
  l.length = k ∧ ∀ (j : Nat) (x : AV), l[j]? = some x → ∃ v, cs[off + j]? = some v ∧ VR ρ x v

theorem ReadsAs.vrs {ρ : Ren} {cs : Array Value} {off k : Nat} {l : List AV} (h : ReadsAs ρ cs off k l) : VRs ρ l ((cs.toList.drop off).take k) := by
  have hlen : off + k ≤ cs.size ∨ k = 0 := by
    rcases Nat.eq_zero_or_pos k with hk | hk
    · exact .inr hk
    · left
      have h1 : k - 1 < l.length := by have := h.1; omega
      obtain ⟨v, hv, _⟩ := h.2 (k - 1) _ (List.getElem?_eq_getElem h1)
      have := (Array.getElem?_eq_some_iff.1 hv).1
      omega
  refine VRs.of_get ?_ ?_
  · rw [h.1]; simp; omega
  · intro i x hx
    obtain ⟨v, hv, hr⟩ := h.2 i x hx
    have hi : i < k := by have := (List.getElem?_eq_some_iff.1 hx).1; have := h.1; omega
    refine ⟨v, ?_, hr⟩
    rw [List.getElem?_take_of_lt hi, List.getElem?_drop]
    simpa using hv

theorem readO_spec {ρ : Ren} {o : AO} {m : Nat} {cs : Array Value} (hE : ElemsR ρ o m cs) : ∀ (fuel off k : Nat) (l : List AV),
    readO o m fuel off k = some l → ReadsAs ρ cs off k l := by
  intro fuel
  induction fuel with
  | zero =>
    intro off k l h
    unfold readO at h
    cases hk : k.beq 0 with
    | true => rw [hk] at h; simp at h; subst h; have := Nat.eq_of_beq_eq_true hk; subst this; exact ⟨rfl, fun j x hx => by simp at hx⟩
    | false => rw [hk] at h; simp at h
  | succ f ih =>
    intro off k l h
    unfold readO at h
    cases hk : k.beq 0 with
    | true => rw [hk] at h; simp at h; subst h; have := Nat.eq_of_beq_eq_true hk; subst this; exact ⟨rfl, fun j x hx => by simp at hx⟩
    | false =>
      rw [hk] at h; simp only at h
      cases he : o.elem m (off / o.esz) with
      | none => rw [he] at h; simp at h
      | some e =>
        rw [he] at h; simp only at h
        obtain ⟨hl, hp⟩ := hE _ _ he
        have hdm : off / o.esz * o.esz + off % o.esz = off := by rw [Nat.mul_comm]; exact Nat.div_add_mod off o.esz
        cases hb : (off % o.esz + k).ble o.esz with
        | true =>
          rw [hb] at h; simp only [Option.some.injEq] at h; subst h
          have hb' : off % o.esz + k ≤ o.esz := Nat.le_of_ble_eq_true hb
          refine ⟨by simp; omega, ?_⟩
          intro j x hx
          have hj : j < k := by have := (List.getElem?_eq_some_iff.1 hx).1; simp at this; omega
          rw [List.getElem?_take_of_lt hj, List.getElem?_drop] at hx
          obtain ⟨v, hv, hr⟩ := hp _ _ hx
          exact ⟨v, by rw [← hv]; congr 1; omega, hr⟩
        | false =>
          rw [hb] at h; simp only at h
          have hb' : o.esz < off % o.esz + k := by
            rcases Nat.lt_or_ge o.esz (off % o.esz + k) with h' | h'
            · exact h'
            · rw [Nat.ble_eq_true_of_le h'] at hb; simp at hb
          cases hr : readO o m f (off + (o.esz - off % o.esz)) (k - (o.esz - off % o.esz)) with
          | none => rw [hr] at h; simp at h
          | some r =>
            rw [hr] at h; simp only [Option.some.injEq] at h; subst h
            obtain ⟨hrl, hrp⟩ := ih _ _ _ hr
            refine ⟨by simp [hrl, hl]; omega, ?_⟩
            intro j x hx
            rw [List.getElem?_append] at hx
            split at hx
            · rename_i hj
              rw [List.getElem?_drop] at hx
              obtain ⟨v, hv, hr⟩ := hp _ _ hx
              exact ⟨v, by rw [← hv]; congr 1; omega, hr⟩
            · rename_i hj
              simp at hj
              obtain ⟨v, hv, hr⟩ := hrp _ _ hx
              refine ⟨v, ?_, hr⟩
              rw [← hv]; congr 1; simp; omega

theorem OR.cells {ρ o m κ c} (h : OR ρ o m κ c) {fuel off k : Nat} {l : List AV} (hr : readO o m fuel off k = some l) (hk : k ≠ 0) :
    ∃ cs e, c = .cells cs e (0, 0) ∧ ElemsR ρ o m cs := by
  have : ∃ i l, o.elem m i = some l := by
    cases fuel with
    | zero =>
      unfold readO at hr
      cases hb : k.beq 0 with
      | true => exact absurd (Nat.eq_of_beq_eq_true hb) hk
      | false => rw [hb] at hr; simp at hr
    | succ f =>
      unfold readO at hr
      cases hb : k.beq 0 with
      | true => exact absurd (Nat.eq_of_beq_eq_true hb) hk
      | false =>
        rw [hb] at hr; simp only at hr
        cases he : o.elem m (off / o.esz) with
        | none => rw [he] at hr; simp at hr
        | some e => exact ⟨_, _, he⟩
  obtain ⟨i, l', he⟩ := this
  cases o with
  | row => obtain ⟨_, cs, e, hc, _, hE⟩ := h; exact ⟨cs, e, hc, hE⟩
  | fam => obtain ⟨_, _, cs, e, hc, _, hE⟩ := h; exact ⟨cs, e, hc, hE⟩
  | _ => simp [AO.elem] at he

def St.read (s : St) (a : AA) (k : Nat) : Option (List AV) :=
  match s.heap.get a.id with
  | none => none
  | some o => readO o a.m k a.off k

theorem Rel.read {G B ρ s w} (h : Rel G B ρ s w) {id m off b κ k : Nat} {l : List AV} (hm : ρ id m = some (b, κ)) (hr : s.read ⟨id, m, off⟩ k = some l) (hk : k ≠ 0) :
    ∃ cs e, w.heap[b]? = some (.cells cs e (0, 0)) ∧ ReadsAs ρ cs off k l := by
  obtain ⟨_, _, o, c, ho, hc, hO⟩ := h.obj _ _ _ _ hm
  simp only [St.read, ho] at hr
  obtain ⟨cs, e, rfl, hE⟩ := hO.cells hr hk
  exact ⟨cs, e, hc, readO_spec hE _ _ _ _ hr⟩

theorem Addr.add_spot (b off i : Nat) : (⟨b, off, none⟩ : Addr).add i = ⟨b, off + i, none⟩ := by
  unfold Addr.add; split
  · rename_i h; subst h; rfl
  · rfl

theorem cell_of {w : World} {b : Nat} {cs : Array Value} {e : TypeId} {fz : Nat × Nat} (h : w.heap[b]? = some (.cells cs e fz)) (off : Nat) :
    w.cell? ⟨b, off, none⟩ = cs[off]? := by
  simp [World.cell?, h]

theorem run_loadCellsFrom {P : Program} {w : World} {b off : Nat} {cs : Array Value} {e : TypeId} {fz : Nat × Nat} (h : w.heap[b]? = some (.cells cs e fz)) :
    ∀ (n i : Nat) (acc : Array Value), off + i + n ≤ cs.size →
      (loadCellsFrom ⟨b, off, none⟩ i n acc).run P w = .ok (acc ++ ((cs.toList.drop (off + i)).take n).toArray) w := by
  intro n
  induction n with
  | zero => intro i acc _; simp [loadCellsFrom, pure, Sem.run]
  | succ n ih =>
    intro i acc hn
    have hc : w.cell? ⟨b, off + i, none⟩ = some cs[off + i] := by rw [cell_of h]; exact Array.getElem?_eq_getElem (by omega)
    simp only [loadCellsFrom, load, Addr.add_spot, bind, Sem.bind, Sem.run, hc]
    rw [ih (i + 1) _ (by omega)]
    have hd : (cs.toList.drop (off + i)).take (n + 1) = cs[off + i] :: (cs.toList.drop (off + (i + 1))).take n := by
      rw [List.drop_eq_getElem_cons (by simp; omega)]; simp [Nat.add_assoc]
    rw [hd]
    simp

theorem run_loadCells {P : Program} {w : World} {b off n : Nat} {cs : Array Value} {e : TypeId} {fz : Nat × Nat} (h : w.heap[b]? = some (.cells cs e fz))
    (hn : off + n ≤ cs.size) : (loadCells ⟨b, off, none⟩ n).run P w = .ok ((cs.toList.drop off).take n).toArray w := by
  unfold loadCells
  rw [run_loadCellsFrom h n 0 #[] (by omega)]; simp

/-! Writing. -/
def owA (cs : Array Value) (off : Nat) : List Value → Array Value
  | [] => cs
  | v :: vs => owA (cs.setIfInBounds off v) (off + 1) vs

theorem owA_size : ∀ (vs : List Value) (cs : Array Value) (off : Nat), (owA cs off vs).size = cs.size
  | [], _, _ => rfl
  | v :: vs, cs, off => by simp [owA, owA_size vs]

theorem owA_get : ∀ (vs : List Value) (cs : Array Value) (off k : Nat), off + vs.length ≤ cs.size →
    (owA cs off vs)[k]? = if off ≤ k ∧ k < off + vs.length then vs[k - off]? else cs[k]?
  | [], cs, off, k, h => by simp [owA]; omega
  | v :: vs, cs, off, k, h => by
    simp only [List.length_cons] at h
    simp only [owA]
    rw [owA_get vs _ _ k (by simp; omega)]
    by_cases h1 : off + 1 ≤ k ∧ k < off + 1 + vs.length
    · rw [if_pos h1, if_pos (by simp; omega)]
      have : k - off = (k - (off + 1)) + 1 := by omega
      rw [this]; simp
    · rw [if_neg h1]
      by_cases h2 : k = off
      · subst h2
        rw [if_pos (by simp)]
        simp [show k < cs.size by omega]
      · rw [if_neg (by simp; omega), Array.getElem?_setIfInBounds_ne (by omega)]

def single : Value → Bool
  | .agg _ | .tuple _ => false
  | _ => true

theorem VR.single {ρ : Ren} {x : AV} {v : Value} (h : VR ρ x v) (hx : x.single = true) : single v = true := by
  cases h <;> first | rfl | (simp [AV.single] at hx)

def World.putObj (w : World) (b : Nat) (c : Obj) : World := { w with heap := w.heap.setIfInBounds b c }

theorem setCell_eq {w : World} {b off : Nat} {cs : Array Value} {e : TypeId} {fz : Nat × Nat} (h : w.heap[b]? = some (.cells cs e fz)) (v : Value) :
    w.setCell ⟨b, off, none⟩ v = World.putObj w b (.cells (cs.setIfInBounds off v) e fz) := by
  unfold World.setCell World.putObj
  congr 1
  apply Array.ext_getElem?
  intro i
  rw [Array.getElem?_modify, Array.getElem?_setIfInBounds]
  by_cases hi : b = i
  · subst hi
    rw [if_pos rfl, if_pos rfl, if_pos (Array.getElem?_eq_some_iff.1 h).1, h]
    simp
  · simp [hi]

theorem putObj_get {w : World} {b : Nat} {c : Obj} (h : b < w.heap.size) : (World.putObj w b c).heap[b]? = some c := by simp [World.putObj, h]
theorem putObj_put {w : World} {b : Nat} {c c' : Obj} : World.putObj (World.putObj w b c) b c' = World.putObj w b c' := by
  simp [World.putObj, Array.setIfInBounds_setIfInBounds]

theorem run_store {P : Program} {α : Type} {w : World} {b off : Nat} {cs : Array Value} {e : TypeId} (h : w.heap[b]? = some (.cells cs e (0, 0))) {v : Value}
    (hv : single v = true) (ho : off < cs.size) (k : Sem α) :
    (Sem.store .plain ⟨b, off, none⟩ v k).run P w = k.run P (World.putObj w b (.cells (cs.setIfInBounds off v) e (0, 0))) := by
  have hc : w.cell? ⟨b, off, none⟩ = some cs[off] := by rw [cell_of h]; exact Array.getElem?_eq_getElem ho
  have hf : w.frozen? ⟨b, off, none⟩ = false := by simp [World.frozen?, h]
  rw [← setCell_eq h]
  cases v <;> first | (simp [Sem.run, hc, hf]; done) | simp [single] at hv

theorem run_storeCells {P : Program} {b : Nat} {e : TypeId} : ∀ (vs : List Value) (w : World) (cs : Array Value) (off i : Nat), w.heap[b]? = some (.cells cs e (0, 0)) →
    (∀ v ∈ vs, single v = true) → off + i + vs.length ≤ cs.size →
    (storeCells ⟨b, off, none⟩ vs i).run P w = .ok () (World.putObj w b (.cells (owA cs (off + i) vs) e (0, 0)))
  | [], w, cs, off, i, h, _, _ => by
    simp only [storeCells, pure, Sem.run, owA]
    have : w.heap.setIfInBounds b (.cells cs e (0, 0)) = w.heap := by
      apply Array.ext_getElem?
      intro j
      rw [Array.getElem?_setIfInBounds]
      split
      · rename_i hj; subst hj; simp [(Array.getElem?_eq_some_iff.1 h).1, ← h]
      · rfl
    unfold World.putObj
    rw [this]
  | v :: vs, w, cs, off, i, h, hs, hl => by
    simp only [List.length_cons] at hl
    have hb := (Array.getElem?_eq_some_iff.1 h).1
    simp only [storeCells, store, Addr.add_spot, bind, Sem.bind]
    rw [run_store h (hs v (by simp)) (by omega)]
    have := run_storeCells (P := P) vs (World.putObj w b (.cells (cs.setIfInBounds (off + i) v) e (0, 0))) (cs.setIfInBounds (off + i) v) off (i + 1) (putObj_get hb)
      (fun u hu => hs u (by simp [hu])) (by simp; omega)
    change Sem.run P (storeCells ⟨b, off, none⟩ vs (i + 1)) _ = _
    rw [this, putObj_put]
    simp only [owA, Nat.add_assoc]

def writeO (m : Nat) : Nat → AO → Nat → List AV → Option AO
  | fuel, o, off, new => match new with
    | [] => some o
    | x :: xs => match fuel with
      | 0 => none
      | f + 1 => match o.elem m (off / o.esz) with
        | none => none
        | some l => match (off % o.esz).blt o.esz with
          | false => none
          | true => match splice l (off % o.esz) ((x :: xs).take (o.esz - off % o.esz)) with
            | none => none
            | some l' => match o.setElem m (off / o.esz) l' with
              | none => none
              | some o' => writeO m f o' (off + (o.esz - off % o.esz)) ((x :: xs).drop (o.esz - off % o.esz))

theorem AO.setElem_esz {o o' : AO} {m i : Nat} {l : List AV} (h : o.setElem m i l = some o') : o'.esz = o.esz := by
  cases o with
  | row esz n t =>
    simp only [AO.setElem] at h
    cases hb : i.blt n <;> rw [hb] at h <;> simp at h
    subst h; rfl
  | fam esz n cur t =>
    simp only [AO.setElem] at h
    cases hb : i.blt n <;> rw [hb] at h <;> simp at h
    cases hc : m.beq cur <;> rw [hc] at h <;> simp at h
    subst h; rfl
  | _ => simp [AO.setElem] at h

/-- An element is written: what the other elements are stays. -/
theorem AO.setElem_elem {o o' : AO} {m i m' i' : Nat} {l l' : List AV} (h : o.setElem m i l = some o') (h' : o'.elem m' i' = some l') :
    (i' = i ∧ l' = l ∧ (m' = m ∨ ∃ esz n cur t, o = .fam esz n cur t ∧ cur ≤ m') ∨ (∃ esz n t, o = .row esz n t) ∧ i' = i ∧ l' = l) ∨ (i' ≠ i ∧ o.elem m' i' = some l') := by
  cases o with
  | row esz n t =>
    simp only [AO.setElem] at h
    cases hb : i.blt n <;> rw [hb] at h <;> simp at h
    subst h
    simp only [AO.elem] at h' ⊢
    cases hb' : i'.blt n <;> rw [hb'] at h' <;> simp only at h'
    · simp at h'
    · rw [Tr.get_set] at h'
      split at h'
      · rename_i hi; subst hi; simp at h'; exact .inl (.inr ⟨⟨_, _, _, rfl⟩, rfl, h'.symm⟩)
      · rename_i hi; exact .inr ⟨Ne.symm hi, h'⟩
  | fam esz n cur t =>
    simp only [AO.setElem] at h
    cases hb : i.blt n <;> rw [hb] at h <;> simp at h
    cases hc : m.beq cur <;> rw [hc] at h <;> simp at h
    subst h
    have hmc := Nat.eq_of_beq_eq_true hc
    simp only [AO.elem] at h' ⊢
    cases hb' : i'.blt n <;> rw [hb'] at h' <;> simp only at h'
    · simp at h'
    · by_cases hi : i = i'
      · subst hi
        rw [Tr.get_set_same] at h'
        simp only at h'
        cases hs : cur.ble m' <;> rw [hs] at h' <;> simp at h'
        exact .inl (.inl ⟨rfl, h'.symm, .inr ⟨_, _, _, _, rfl, Nat.le_of_ble_eq_true hs⟩⟩)
      · rw [Tr.get_set_other _ _ hi] at h'
        exact .inr ⟨Ne.symm hi, h'⟩
  | _ => simp [AO.setElem] at h

theorem setElem_stamps {esz n cur m i : Nat} {t t' : Tr (Nat × List AV)} {l : List AV} (h : (AO.fam esz n cur t).setElem m i l = some (.fam esz n cur t'))
    (hs : ∀ i st l, t.get i = some (st, l) → st ≤ cur) : ∀ i st l, t'.get i = some (st, l) → st ≤ cur := by
  intro i' st l' h'
  simp only [AO.setElem] at h
  cases hb : i.blt n <;> rw [hb] at h <;> simp at h
  cases hc : m.beq cur <;> rw [hc] at h <;> simp at h
  subst h
  rw [Tr.get_set] at h'
  split at h'
  · simp at h'; omega
  · exact hs _ _ _ h'

theorem mul_step {a b e x : Nat} (h : a < b) (hx : x < e) : a * e + x < b * e := by
  have : (a + 1) * e ≤ b * e := Nat.mul_le_mul_right e h
  rw [Nat.add_mul] at this; omega

/-- One element is written by a member: what becomes of the members of the same block, and of the others. -/
theorem OR.setElem {ρ : Ren} {o o' : AO} {m i κ : Nat} {l old : List AV} {cs cs' : Array Value} {e : TypeId} (h : OR ρ o m κ (.cells cs e (0, 0)))
    (hold : o.elem m i = some old) (hset : o.setElem m i l = some o') (hll : l.length = o.esz) (hsz : cs'.size = cs.size)
    (hout : ∀ k, k < i * o.esz ∨ i * o.esz + o.esz ≤ k → cs'[k]? = cs[k]?)
    (hin : ∀ (j : Nat) (x : AV), l[j]? = some x → ∃ v, cs'[i * o.esz + j]? = some v ∧ VR ρ x v) :
    (∀ m', OR ρ o m' κ (.cells cs e (0, 0)) → OR ρ o' m' κ (.cells cs' e (0, 0))) ∧ (∀ m' κ' c, m' ≠ m → OR ρ o m' κ' c → OR ρ o' m' κ' c) := by
  have hez := AO.setElem_esz hset
  have elems : ∀ m', ElemsR ρ o m' cs → ElemsR ρ o' m' cs' := by
    intro m' hE i' l' hl'
    rw [hez]
    rcases AO.setElem_elem hset hl' with (⟨rfl, rfl, _⟩ | ⟨_, rfl, rfl⟩) | ⟨hne, hl'⟩
    · exact ⟨hll, hin⟩
    · exact ⟨hll, hin⟩
    · obtain ⟨h1, h2⟩ := hE i' l' hl'
      refine ⟨h1, fun j x hx => ?_⟩
      obtain ⟨v, hv, hr⟩ := h2 j x hx
      have hj : j < o.esz := by have := (List.getElem?_eq_some_iff.1 hx).1; omega
      refine ⟨v, ?_, hr⟩
      rw [hout, hv]
      rcases Nat.lt_or_gt_of_ne hne with hlt | hgt
      · left; exact Nat.lt_of_lt_of_le (mul_step hlt hj) (Nat.le_refl _)
      · right
        have : (i + 1) * o.esz ≤ i' * o.esz := Nat.mul_le_mul_right _ hgt
        rw [Nat.add_mul] at this; omega
  constructor
  · intro m' hO
    cases o with
    | row esz n t =>
      have ho' : ∃ t', o' = .row esz n t' := by
        simp only [AO.setElem] at hset
        cases hb : i.blt n <;> rw [hb] at hset <;> simp at hset
        exact ⟨_, hset.symm⟩
      obtain ⟨t', rfl⟩ := ho'
      obtain ⟨h1, cs₁, e₁, hc, hs, hE⟩ := hO
      cases hc
      exact ⟨h1, cs', e, rfl, by rw [hsz]; exact hs, elems _ hE⟩
    | fam esz n cur t =>
      have ho' : ∃ t', o' = .fam esz n cur t' := by
        simp only [AO.setElem] at hset
        cases hb : i.blt n <;> rw [hb] at hset <;> simp at hset
        cases hc : m.beq cur <;> rw [hc] at hset <;> simp at hset
        exact ⟨_, hset.symm⟩
      obtain ⟨t', rfl⟩ := ho'
      obtain ⟨h1, hz, cs₁, e₁, hc, hs, hE⟩ := hO
      cases hc
      exact ⟨h1, ⟨hz.1, setElem_stamps hset hz.2⟩, cs', e, rfl, by rw [hsz]; exact hs, elems _ hE⟩
    | _ => simp [AO.setElem] at hset
  · intro m' κ' c hne hO
    cases o with
    | row esz n t =>
      obtain ⟨h1, _⟩ := h
      obtain ⟨h2, _⟩ := hO
      exact absurd (h2.trans h1.symm) hne
    | fam esz n cur t =>
      have hcur : m = cur := by
        simp only [AO.setElem] at hset
        cases hb : i.blt n <;> rw [hb] at hset <;> simp at hset
        cases hc : m.beq cur <;> rw [hc] at hset <;> simp at hset
        exact Nat.eq_of_beq_eq_true hc
      have ho' : ∃ t', o' = .fam esz n cur t' := by
        simp only [AO.setElem] at hset
        cases hb : i.blt n <;> rw [hb] at hset <;> simp at hset
        cases hc : m.beq cur <;> rw [hc] at hset <;> simp at hset
        exact ⟨_, hset.symm⟩
      obtain ⟨t', rfl⟩ := ho'
      obtain ⟨h1, hz, cs₁, e₁, hc, hs, hE⟩ := hO
      refine ⟨h1, ⟨hz.1, setElem_stamps hset hz.2⟩, cs₁, e₁, hc, hs, fun i' l' hl' => ?_⟩
      rcases AO.setElem_elem hset hl' with (⟨_, _, h3 | ⟨_, _, _, _, h4, h5⟩⟩ | ⟨⟨_, _, _, h3⟩, _⟩) | ⟨_, hl'⟩
      · exact absurd h3 hne
      · cases h4; omega
      · cases h3
      · exact hE i' l' hl'
    | _ => simp [AO.setElem] at hset

/-- Cells are written by a member. -/
theorem writeO_spec {ρ : Ren} {m κ : Nat} {e : TypeId} : ∀ (fuel : Nat) (o : AO) (off : Nat) (new : List AV) (o' : AO) (cs : Array Value) (vs : List Value),
    writeO m fuel o off new = some o' → OR ρ o m κ (.cells cs e (0, 0)) → VRs ρ new vs →
    (new ≠ [] → off + new.length ≤ cs.size) ∧
    (∀ m', OR ρ o m' κ (.cells cs e (0, 0)) → OR ρ o' m' κ (.cells (owA cs off vs) e (0, 0))) ∧ (∀ m' κ' c, m' ≠ m → OR ρ o m' κ' c → OR ρ o' m' κ' c) := by
  intro fuel
  induction fuel with
  | zero =>
    intro o off new o' cs vs hw hO hv
    cases hv with
    | nil => simp [writeO] at hw; subst hw; exact ⟨fun h => absurd rfl h, fun m' h => h, fun m' κ' c _ h => h⟩
    | cons => simp [writeO] at hw
  | succ f ih =>
    intro o off new o' cs vs hw hO hv
    cases hv with
    | nil => simp [writeO] at hw; subst hw; exact ⟨fun h => absurd rfl h, fun m' h => h, fun m' κ' c _ h => h⟩
    | @cons x v xs vs hx hxs =>
      simp only [writeO] at hw
      cases he : o.elem m (off / o.esz) with
      | none => rw [he] at hw; simp at hw
      | some old =>
        rw [he] at hw; simp only at hw
        cases hb : (off % o.esz).blt o.esz with
        | false => rw [hb] at hw; simp at hw
        | true =>
          rw [hb] at hw; simp only at hw
          have hj : off % o.esz < o.esz := by have h9 := hb; simp [Nat.blt] at h9; omega
          generalize hjj : off % o.esz = j at *
          generalize hii : off / o.esz = i at *
          have hdm : i * o.esz + j = off := by rw [← hii, ← hjj, Nat.mul_comm]; exact Nat.div_add_mod off o.esz
          cases hs : splice old j ((x :: xs).take (o.esz - j)) with
          | none => rw [hs] at hw; simp at hw
          | some l' =>
            rw [hs] at hw; simp only at hw
            cases hset : o.setElem m i l' with
            | none => rw [hset] at hw; simp at hw
            | some o₁ =>
              rw [hset] at hw; simp only at hw
              obtain ⟨hs1, hs2⟩ := splice_spec _ _ _ _ hs
              have hE : ElemsR ρ o m cs := by
                cases o with
                | row => obtain ⟨_, cs₁, _, hc, _, hE⟩ := hO; cases hc; exact hE
                | fam => obtain ⟨_, _, cs₁, _, hc, _, hE⟩ := hO; cases hc; exact hE
                | _ => simp [AO.elem] at he
              obtain ⟨hol, hop⟩ := hE _ _ he
              have hcells : i * o.esz + o.esz ≤ cs.size := by
                obtain ⟨v₁, hv₁, _⟩ := hop (o.esz - 1) (old[o.esz - 1]'(by omega)) (List.getElem?_eq_getElem (by omega))
                have := (Array.getElem?_eq_some_iff.1 hv₁).1
                omega
              have hez := AO.setElem_esz hset
              -- the first chunk
              have hvc : VRs ρ (x :: xs) (v :: vs) := .cons hx hxs
              generalize hnew : x :: xs = new at *
              generalize hvals : v :: vs = vals at *
              have hlen := hvc.length
              have hchunk := hvc.take (o.esz - j)
              have hclen := hchunk.length
              have hcl : (new.take (o.esz - j)).length ≤ o.esz - j := by simp; omega
              have key := OR.setElem (cs' := owA cs off (vals.take (o.esz - j))) hO he hset (by rw [hs2]; simp at hs1 ⊢; omega) (owA_size _ _ _)
                (fun k hk => by
                  rw [owA_get _ _ _ _ (by omega), if_neg]
                  omega)
                (fun t y hy => by
                  rw [hs2] at hy
                  have hjl : j ≤ old.length := by omega
                  rw [List.append_assoc, List.getElem?_append] at hy
                  rw [owA_get _ _ _ _ (by omega)]
                  split at hy
                  · rename_i ht
                    simp at ht
                    rw [List.getElem?_take_of_lt (by omega)] at hy
                    rw [if_neg (by omega)]
                    exact hop t y hy
                  · rename_i ht
                    simp at ht
                    have htj : j ≤ t := by omega
                    rw [List.getElem?_append] at hy
                    have hmin : min j old.length = j := by omega
                    simp only [List.length_take, hmin] at hy
                    split at hy
                    · rename_i ht2
                      obtain ⟨u, hu, hr⟩ := hchunk.get _ _ hy
                      rw [if_pos (by simp only [List.length_take] at *; omega)]
                      refine ⟨u, ?_, hr⟩
                      rw [← hu]; congr 1; omega
                    · rename_i ht2
                      rw [List.getElem?_drop] at hy
                      rw [if_neg (by simp only [List.length_take] at *; omega)]
                      obtain ⟨u, hu, hr⟩ := hop _ y hy
                      refine ⟨u, ?_, hr⟩
                      rw [← hu]; congr 1
                      simp only [List.length_take] at *; omega)
              obtain ⟨k1, k2⟩ := key
              obtain ⟨r0, r1, r2⟩ := ih o₁ _ _ o' (owA cs off (vals.take (o.esz - j))) (vals.drop (o.esz - j)) hw (k1 m hO) (hvc.drop _)
              have howA : owA (owA cs off (vals.take (o.esz - j))) (off + (o.esz - j)) (vals.drop (o.esz - j)) = owA cs off vals := by
                rcases Nat.lt_or_ge (o.esz - j) vals.length with hlt | hge
                · have e1 : (vals.take (o.esz - j)).length = o.esz - j := by simp; omega
                  conv => rhs; rw [← List.take_append_drop (o.esz - j) vals]
                  have app : ∀ (a b : List Value) (cs : Array Value) (off : Nat), owA cs off (a ++ b) = owA (owA cs off a) (off + a.length) b := by
                    intro a
                    induction a with
                    | nil => intro b cs off; rfl
                    | cons y ys ih => intro b cs off; simp only [List.cons_append, owA, List.length_cons]; rw [ih]; congr 1; omega
                  rw [app, e1]
                · rw [List.drop_of_length_le hge, List.take_of_length_le hge]; rfl
              rw [howA] at r1
              refine ⟨?_, fun m' h => r1 m' (k1 m' h), fun m' κ' c hne h => r2 m' κ' c hne (k2 m' κ' c hne h)⟩
              intro _
              by_cases hd : new.drop (o.esz - j) = []
              · have : new.length ≤ o.esz - j := by simpa using hd
                omega
              · have := r0 hd
                rw [owA_size] at this
                simp at this; omega

def St.write (s : St) (a : AA) (new : List AV) : Option St :=
  match s.heap.get a.id with
  | none => none
  | some o => match writeO a.m new.length o a.off new with
    | none => none
    | some o' => some (s.put a.id o')

theorem Rel.store {G B ρ s w} (h : Rel G B ρ s w) {id m off b κ : Nat} {new : List AV} {vs : List Value} {s' : St} (hm : ρ id m = some (b, κ))
    (hw : s.write ⟨id, m, off⟩ new = some s') (hv : VRs ρ new vs) (hne : new ≠ []) :
    ∃ cs e, w.heap[b]? = some (.cells cs e (0, 0)) ∧ off + vs.length ≤ cs.size ∧
      Rel G B ρ s' (World.putObj w b (.cells (owA cs off vs) e (0, 0))) ∧ Ext B ρ s w ρ s' (World.putObj w b (.cells (owA cs off vs) e (0, 0))) := by
  obtain ⟨_, _, o, c, ho, hc, hO⟩ := h.obj _ _ _ _ hm
  simp only [St.write, ho] at hw
  cases hw' : writeO m new.length o off new with
  | none => rw [hw'] at hw; simp at hw
  | some o' =>
    rw [hw'] at hw; simp at hw; subst hw
    have : ∃ cs e, c = .cells cs e (0, 0) := by
      cases new with
      | nil => exact absurd rfl hne
      | cons x xs =>
        simp only [List.length_cons, writeO] at hw'
        cases he : o.elem m (off / o.esz) with
        | none => rw [he] at hw'; simp at hw'
        | some old =>
          cases o with
          | row => obtain ⟨_, cs, e, hc, _⟩ := hO; exact ⟨cs, e, hc⟩
          | fam => obtain ⟨_, _, cs, e, hc, _⟩ := hO; exact ⟨cs, e, hc⟩
          | _ => simp [AO.elem] at he
    obtain ⟨cs, e, rfl⟩ := this
    obtain ⟨h1, h2, h3⟩ := writeO_spec _ _ _ _ _ _ _ hw' hO hv
    have := h1 hne
    refine ⟨cs, e, hc, by rw [← hv.length]; exact this, ?_⟩
    refine h.write hm ?_ ?_
    · intro m' hx
      obtain ⟨_, _, o₂, c₂, ho₂, hc₂, hO₂⟩ := h.obj _ _ _ _ hx
      rw [ho] at ho₂; cases ho₂
      rw [hc] at hc₂; cases hc₂
      exact h2 m' hO₂
    · intro m' b' κ' c₁ o₁ ho₁ hx hb hO₁
      rw [ho] at ho₁; cases ho₁
      refine h3 m' κ' c₁ ?_ hO₁
      rintro rfl
      rw [hm] at hx; simp at hx; exact hb hx.1.symm

end Go.AM
