/- The abstract machine, part H: loads, stores, new blocks, append, copy, clear. No condition. -/
import Derived.Test.YtfnlfpodeoilgaaGreatDoorAmG
set_option linter.all false
noncomputable section
namespace Go.AM
open Go.RowKit (Below)

/-! Loads. -/
def St.readAt (G : Globs) (s : St) (x : AV) (k : Nat) : Option (List AV) :=
  match x with
  | .ptr a => s.read a k
  | .gptr g o => match G g with
    | none => none
    | some l => match (o + k).ble l.length with
      | true => some ((l.drop o).take k)
      | false => none
  | _ => none

theorem readAt_spec {G B ρ s w} (h : Rel G B ρ s w) {x : AV} {v : Value} {k : Nat} {l : List AV} (hr : s.readAt G x k = some l) (hx : VR ρ x v) (hk : k ≠ 0) :
    ∃ b off cs e fz, v = .pointer (some ⟨b, off, none⟩) ∧ w.heap[b]? = some (.cells cs e fz) ∧ ReadsAs ρ cs off k l := by
  unfold St.readAt at hr
  cases hx <;> simp only at hr <;> try (simp at hr; done)
  · rename_i id m off b κ hm
    obtain ⟨cs, e, h1, h2⟩ := h.read hm hr hk
    exact ⟨b, off, cs, e, _, rfl, h1, h2⟩
  · rename_i g o
    cases hg : G g with
    | none => rw [hg] at hr; simp at hr
    | some gl =>
      rw [hg] at hr; simp only at hr
      cases hb : (o + k).ble gl.length <;> rw [hb] at hr <;> simp at hr
      subst hr
      have hb := Nat.le_of_ble_eq_true hb
      obtain ⟨_, cs, e, fz, h1, h2⟩ := h.glob g gl hg
      refine ⟨g, o, cs, e, fz, rfl, h1, by simp; omega, ?_⟩
      intro j y hy
      have hj : j < k := by have := (List.getElem?_eq_some_iff.1 hy).1; simp at this; omega
      rw [List.getElem?_take_of_lt hj, List.getElem?_drop] at hy
      obtain ⟨u, hu, hr⟩ := h2 _ _ hy
      exact ⟨u, hu, hr.mono (noRen_le ρ)⟩

theorem ReadsAs.le {ρ : Ren} {cs : Array Value} {off k : Nat} {l : List AV} (h : ReadsAs ρ cs off k l) (hk : k ≠ 0) : off + k ≤ cs.size := by
  have h1 : k - 1 < l.length := by have := h.1; omega
  obtain ⟨v, hv, _⟩ := h.2 (k - 1) _ (List.getElem?_eq_getElem h1)
  have := (Array.getElem?_eq_some_iff.1 hv).1
  omega

def aload (T : TT) (G : Globs) (s : St) (t : TypeId) (x : AV) : Option AV :=
  match T t with
  | none => none
  | some i => match i.agg with
    | true => match i.info.size.beq 0 with
      | true => none
      | false => match s.readAt G x i.info.size with
        | none => none
        | some l => some (.agg l)
    | false => match s.readAt G x 1 with
      | some [y] => some y
      | _ => none

theorem aload_var {P : Program} {T : TT} (hT : TOk P T) {G B ρ s w} (h : Rel G B ρ s w) {t : TypeId} {x y : AV} {v : Value} (hl : aload T G s t x = some y) (hx : VR ρ x v) :
    ∃ a r, v = .pointer (some a) ∧ (loadVar t a).run P w = .ok r w ∧ VR ρ y r := by
  unfold aload at hl
  cases ht : T t with
  | none => rw [ht] at hl; simp at hl
  | some i =>
    rw [ht] at hl; simp only at hl
    cases ha : i.agg <;> rw [ha] at hl <;> simp only at hl
    · cases hr : s.readAt G x 1 with
      | none => rw [hr] at hl; simp at hl
      | some l =>
        rw [hr] at hl
        obtain ⟨b, off, cs, e, fz, rfl, hb, hR⟩ := readAt_spec h hr hx (by omega)
        cases l with
        | nil => simp at hl
        | cons z zs =>
          cases zs with
          | cons => simp at hl
          | nil =>
            simp at hl; subst hl
            obtain ⟨u, hu, hvr⟩ := hR.2 0 z rfl
            refine ⟨_, u, rfl, ?_, hvr⟩
            have hc : w.cell? ⟨b, off, none⟩ = some u := by rw [cell_of hb]; simpa using hu
            simp [loadVar, run_isAgg hT ht, ha, hc]
    · cases hz : i.info.size.beq 0 <;> rw [hz] at hl <;> simp only at hl
      · cases hr : s.readAt G x i.info.size with
        | none => rw [hr] at hl; simp at hl
        | some l =>
          rw [hr] at hl; simp at hl; subst hl
          have hne : i.info.size ≠ 0 := beq_ne hz
          obtain ⟨b, off, cs, e, fz, rfl, hb, hR⟩ := readAt_spec h hr hx hne
          refine ⟨_, .agg ⟨(cs.toList.drop off).take i.info.size⟩, rfl, ?_, .agg hR.vrs⟩
          simp [loadVar, run_isAgg hT ht, ha, run_size hT ht, run_loadCells hb (hR.le hne)]
      · simp at hl

theorem aload_run {P : Program} {T : TT} (hT : TOk P T) {G B ρ s w} (h : Rel G B ρ s w) {t : TypeId} {x y : AV} {v : Value} (hl : aload T G s t x = some y) (hx : VR ρ x v) :
    ∃ r, (Instr.loadAt t v).run P w = .ok r w ∧ VR ρ y r := by
  obtain ⟨a, r, rfl, h1, h2⟩ := aload_var hT h hl hx
  exact ⟨r, by simp [Instr.loadAt, Instr.sureAddr, h1], h2⟩

/-! Stores. -/
def allSingle : List AV → Bool
  | [] => true
  | x :: xs => match x.single with
    | true => allSingle xs
    | false => false

theorem allSingle_vrs {ρ : Ren} : ∀ {xs : List AV} {vs : List Value}, allSingle xs = true → VRs ρ xs vs → ∀ v ∈ vs, single v = true
  | _, _, _, .nil, v, hv => by simp at hv
  | x :: xs, u :: us, h, .cons hx hxs, v, hv => by
    simp only [allSingle] at h
    cases hs : x.single <;> rw [hs] at h <;> simp at h
    rcases List.mem_cons.1 hv with rfl | hv
    · exact hx.single hs
    · exact allSingle_vrs h hxs v hv

def astore (T : TT) (s : St) (t : TypeId) (x y : AV) : Option St :=
  match elemSize T t with
  | none => none
  | some sz => match y.cells.length.beq sz with
    | false => none
    | true => match sz.beq 0 with
      | true => none
      | false => match allSingle y.cells with
        | false => none
        | true => match x with
          | .ptr a => s.write a y.cells
          | _ => none

theorem astore_run {P : Program} {T : TT} (hT : TOk P T) {G B ρ s w} (h : Rel G B ρ s w) {t : TypeId} {x y : AV} {u v : Value} {s' : St} (hs : astore T s t x y = some s')
    (hx : VR ρ x u) (hy : VR ρ y v) : ∃ w', (Instr.storeAt t u v).run P w = .ok () w' ∧ Rel G B ρ s' w' ∧ Ext B ρ s w ρ s' w' := by
  unfold astore at hs
  cases hz : elemSize T t with
  | none => rw [hz] at hs; simp at hs
  | some sz =>
    rw [hz] at hs; simp only at hs
    cases hl : y.cells.length.beq sz <;> rw [hl] at hs <;> simp only at hs
    · simp at hs
    · cases h0 : sz.beq 0 <;> rw [h0] at hs <;> simp only at hs
      · cases ha : allSingle y.cells <;> rw [ha] at hs <;> simp only at hs
        · simp at hs
        · cases hx <;> simp only at hs <;> try (simp at hs; done)
          rename_i id m off b κ hm
          have hvc := hy.cells
          have hlen := hvc.length
          have hl := beq_iff.1 hl
          have h0 := beq_ne h0
          obtain ⟨cs, e, h1, h2, h3, h4⟩ := h.store hm hs hvc (by intro e; rw [e] at hl; simp at hl; omega)
          refine ⟨_, ?_, h3, h4⟩
          have hsc := run_storeCells (P := P) (b := b) (e := e) v.cells.toList w cs off 0 h1 (allSingle_vrs ha hvc) (by simpa using h2)
          have hne : ¬ v.cells.size ≠ sz := by simp at hlen; omega
          simp only [Instr.storeAt, Instr.sureAddr, storeVar, Sem.run_bind, Sem.run_pure, Result.andThen_ok, elemSize_run hT hz, if_neg hne, Sem.run_ite]
          exact hsc
      · simp at hs

/-! New blocks. -/
/-- n elements, each l. -/
def fillTr (l : List AV) : Nat → Tr (List AV)
  | 0 => .leaf
  | n + 1 => (fillTr l n).set n l

theorem fillTr_get (l : List AV) : ∀ (n i : Nat) (x : List AV), (fillTr l n).get i = some x → x = l
  | 0, i, x, h => by simp [fillTr, Tr.get_leaf] at h
  | n + 1, i, x, h => by
    simp only [fillTr, Tr.get_set] at h
    split at h
    · simpa using h.symm
    · exact fillTr_get l n i x h

/-- A new object, and the value that names it. -/
structure ANew where
  o : AO
  at_ : Nat → AV

def zeroOf (T : TT) (t : TypeId) : Option (List AV) :=
  match T t with
  | none => none
  | some i => match i.zero with
    | none => none
    | some z => match z.length.beq i.info.size with
      | true => some z
      | false => none

theorem zeroOf_run {P : Program} {T : TT} (hT : TOk P T) {t : TypeId} {z : List AV} (h : zeroOf T t = some z) (w : World) :
    ∃ v i, T t = some i ∧ (zeroValue t).run P w = .ok v w ∧ VRs (fun _ _ => none) z v.cells.toList ∧ z.length = i.info.size ∧ i.agg = (v matches .agg _) := by
  unfold zeroOf at h
  cases ht : T t with
  | none => rw [ht] at h; simp at h
  | some i =>
    rw [ht] at h; simp only at h
    cases hz : i.zero with
    | none => rw [hz] at h; simp at h
    | some z' =>
      rw [hz] at h; simp only at h
      cases hl : z'.length.beq i.info.size <;> rw [hl] at h <;> simp at h
      subst h
      obtain ⟨v, h1, h2, h3⟩ := run_zero hT ht hz w
      exact ⟨v, i, rfl, h1, h2, beq_iff.1 hl, h3⟩

/-- One variable of its own. -/
def newOne (l : List AV) : ANew := ⟨.row l.length 1 ((Tr.leaf).set 0 l), fun id => .ptr ⟨id, 0, 0⟩⟩

theorem newOne_or {ρ : Ren} {l : List AV} {cs : Array Value} {e : TypeId} {κ : Nat} (h : VRs ρ l cs.toList) : OR ρ (newOne l).o 0 κ (.cells cs e (0, 0)) := by
  refine ⟨rfl, cs, e, rfl, by have := h.length; simp at this; simp [newOne, this], ?_⟩
  intro i x hx
  simp only [AO.elem, newOne] at hx
  cases hb : i.blt 1 <;> rw [hb] at hx <;> simp only at hx
  · simp at hx
  · have : i = 0 := by have := blt_lt hb; omega
    subst this
    rw [Tr.get_set_same] at hx; simp at hx; subst hx
    refine ⟨rfl, fun j y hy => ?_⟩
    obtain ⟨v, hv, hr⟩ := h.get _ _ hy
    exact ⟨v, by simpa using hv, hr⟩

def setParts (env : Tr AV) (sz len : Nat) (t : Tr (List AV)) : List (Nat × Operand) → Option (Tr (List AV))
  | [] => some t
  | (i, x) :: rest => match i.blt len with
    | false => none
    | true => match opd env x with
      | none => none
      | some a => match a.cells.length.beq sz with
        | false => none
        | true => setParts env sz len (t.set i a.cells) rest

/-- The elements of a row of equal ones. -/
def TrR (ρ : Ren) (t : Tr (List AV)) (n sz : Nat) (cs : Array Value) : Prop :=
  cs.size = n * sz ∧ ∀ i l, i < n → t.get i = some l → l.length = sz ∧ ∀ (j : Nat) (x : AV), l[j]? = some x → ∃ v, cs[i * sz + j]? = some v ∧ VR ρ x v

theorem TrR.or {ρ : Ren} {t : Tr (List AV)} {n sz : Nat} {cs : Array Value} {e : TypeId} {κ : Nat} (h : TrR ρ t n sz cs) : OR ρ (.row sz n t) 0 κ (.cells cs e (0, 0)) := by
  refine ⟨rfl, cs, e, rfl, h.1, ?_⟩
  intro i l hl
  simp only [AO.elem] at hl
  cases hb : i.blt n <;> rw [hb] at hl <;> simp only at hl
  · simp at hl
  · exact h.2 i l (blt_lt hb) hl

theorem TrR.set {ρ : Ren} {t : Tr (List AV)} {n sz i : Nat} {cs : Array Value} {l : List AV} {vs : List Value} (h : TrR ρ t n sz cs) (hi : i < n) (hl : l.length = sz) (hv : VRs ρ l vs) :
    TrR ρ (t.set i l) n sz (owA cs (i * sz) vs) := by
  have hlen := hv.length
  have hle : i * sz + vs.length ≤ cs.size := by
    have : (i + 1) * sz ≤ n * sz := Nat.mul_le_mul_right _ hi
    rw [Nat.add_mul] at this; rw [h.1]; omega
  refine ⟨by rw [owA_size]; exact h.1, ?_⟩
  intro i' l' hi' hl'
  rw [Tr.get_set] at hl'
  split at hl'
  · rename_i he; subst he; simp at hl'; subst hl'
    refine ⟨hl, fun j x hx => ?_⟩
    obtain ⟨v, hv', hr⟩ := hv.get _ _ hx
    have hj : j < vs.length := (List.getElem?_eq_some_iff.1 hv').1
    exact ⟨v, by rw [owA_get _ _ _ _ hle, if_pos (by omega)]; rw [← hv']; congr 1; omega, hr⟩
  · rename_i hne
    obtain ⟨h1, h2⟩ := h.2 i' l' hi' hl'
    refine ⟨h1, fun j x hx => ?_⟩
    obtain ⟨v, hv', hr⟩ := h2 j x hx
    have hj : j < sz := by have := (List.getElem?_eq_some_iff.1 hx).1; omega
    refine ⟨v, ?_, hr⟩
    rw [owA_get _ _ _ _ hle, if_neg, hv']
    intro ⟨c1, c2⟩
    rcases Nat.lt_or_gt_of_ne hne with hlt | hgt
    · have : (i + 1) * sz ≤ i' * sz := Nat.mul_le_mul_right _ hlt
      rw [Nat.add_mul] at this; omega
    · have := mul_step hgt hj; omega

theorem setParts_spec {ρ : Ren} {env : Tr AV} {ev : Operand → Value} (he : OpdR ρ env ev) {sz len : Nat} : ∀ (parts : List (Nat × Operand)) (t t' : Tr (List AV)) (cs : Array Value),
    setParts env sz len t parts = some t' → TrR ρ t len sz cs →
    ∃ cs', Instr.fill (fun i => some (i * sz, sz)) cs (parts.map fun p => (p.1, ev p.2)) = some cs' ∧ TrR ρ t' len sz cs'
  | [], t, t', cs, h, hR => by simp [setParts] at h; subst h; exact ⟨cs, rfl, hR⟩
  | (i, x) :: rest, t, t', cs, h, hR => by
    simp only [setParts] at h
    cases hb : i.blt len <;> rw [hb] at h <;> simp only at h
    · simp at h
    · cases hx : opd env x with
      | none => rw [hx] at h; simp at h
      | some a =>
        rw [hx] at h; simp only at h
        cases hs : a.cells.length.beq sz <;> rw [hs] at h <;> simp only at h
        · simp at h
        · have hva := (he x a hx).cells
          have hlen := hva.length
          have hsz := beq_iff.1 hs
          have hi := blt_lt hb
          obtain ⟨cs', h3, h4⟩ := setParts_spec he rest _ t' _ h (hR.set hi hsz hva)
          refine ⟨cs', ?_, h4⟩
          have hle : (i + 1) * sz ≤ len * sz := Nat.mul_le_mul_right _ hi
          rw [Nat.add_mul] at hle
          simp only [List.map_cons, Instr.fill]
          have hc : (decide ((ev x).cells.size ≠ sz) || decide (i * sz + (ev x).cells.size > cs.size)) = false := by
            have := hR.1
            simp at hlen ⊢; omega
          rw [if_neg (by rw [hc]; simp), ← h3]
          congr 1
          have := foldl_owA (ev x).cells.toList cs (i * sz) 0
          simp only [Nat.add_zero] at this
          rw [← this, ← Array.foldl_toList]
          simp

theorem zeros_TrR {ρ : Ren} {z : List AV} {zs : Array Value} (hz : VRs (fun _ _ => none) z zs.toList) (n : Nat) :
    TrR ρ (fillTr z n) n z.length ((Array.range (n * z.length)).map (zs[· % zs.size]!)) := by
  have hl := hz.length
  refine ⟨by simp, ?_⟩
  intro i l hi hget
  have := fillTr_get z n i l hget
  subst this
  refine ⟨rfl, fun j x hx => ?_⟩
  obtain ⟨v, hv, hr⟩ := hz.get _ _ hx
  have hj : j < l.length := (List.getElem?_eq_some_iff.1 hx).1
  have hlt := mul_step hi hj
  refine ⟨v, ?_, hr.mono (noRen_le ρ)⟩
  have hs : zs.size = l.length := by simpa using hl.symm
  have hm : (i * l.length + j) % l.length = j := Nat.mul_add_mod_of_lt hj
  have hv' : zs[j]? = some v := by simpa using hv
  rw [Array.getElem?_map, Array.getElem?_range, if_pos hlt]
  have hj' : j < zs.size := by omega
  have hg : zs[j] = v := (Array.getElem?_eq_some_iff.1 hv').2
  simp only [Option.map_some, hs, hm]
  rw [getElem!_pos zs j hj', hg]

/-- Operations that make a block and do nothing else. -/
def aalloc (T : TT) (env : Tr AV) (op : Op) : Option ANew :=
  (match op with
  | .alloc e => fun T env => match zeroOf T e with
    | none => none
    | some z => some (newOne z)
  | .box _ x => fun T env => match opd env x with
    | none => none
    | some a => some (newOne a.cells)
  | .buildSlice t len parts => fun T env => match T t with
    | none => none
    | some ti => match ti.desc with
      | .slice e => match zeroOf T e with
        | none => none
        | some z => match (len * z.length).ble 16777216 with
          | false => none
          | true => match (len * z.length).beq 0 with
            | true => match len.beq 0 with
              | false => none
              | true => match parts.toList with
                | [] => some ⟨.row z.length 0 .leaf, fun id => .slice ⟨id, 0, 0⟩ 0 (.known 0)⟩
                | _ => none
            | false => match setParts env z.length len (fillTr z len) parts.toList with
              | none => none
              | some tr => some ⟨.row z.length len tr, fun id => .slice ⟨id, 0, 0⟩ len (.known len)⟩
      | _ => none
  | .makeSlice t l c => fun T env => match opd env l with
    | none => none
    | some a => match anat a with
      | none => none
      | some n => match opd env c with
        | none => none
        | some b => match anat b with
          | none => none
          | some k => match T t with
            | none => none
            | some ti => match ti.desc with
              | .slice e => match T e with
                | none => none
                | some i => match zeroOf T e with
                  | none => none
                  | some z => match n.ble k with
                    | false => none
                    | true => match k.blt 1048576 with
                      | false => none
                      | true => match i.info.bytes.blt 1048576 with
                        | false => none
                        | true => some ⟨.row z.length k (fillTr z k), fun id => .slice ⟨id, 0, 0⟩ n (.known k)⟩
              | _ => none
  | .makeMap _ r => fun T env => match r with
    | none => some ⟨.mp [] 0, fun id => .map id⟩
    | some _ => none
  | _ => fun T env => none : TT → Tr AV → Option ANew) T env

theorem aalloc_run {P : Program} {T : TT} (hT : TOk P T) {ρ : Ren} {env : Tr AV} {ev : Operand → Value} (he : OpdR ρ env ev) {o : Oper} {a : ANew}
    (h : aalloc T env o.op = some a) (w : World) :
    ∃ v c κ, (execOp ev o).run P w = .ok (.value v) { w with heap := w.heap.push c } ∧
      ∀ ρ' : Ren, ρ.le ρ' → OR ρ' a.o 0 κ c ∧ ∀ id, ρ' id 0 = some (w.heap.size, κ) → VR ρ' (a.at_ id) v := by
  obtain ⟨dst, op, type, pos, after, guard⟩ := o
  simp only at h
  unfold aalloc at h
  cases op <;> simp only at h <;> try (simp at h; done)
  case alloc e =>
    cases hz : zeroOf T e with
    | none => rw [hz] at h; simp at h
    | some z =>
      rw [hz] at h; simp at h; subst h
      obtain ⟨v, i, ht, h1, h2, h3, _⟩ := zeroOf_run hT hz w
      refine ⟨.pointer (some ⟨w.heap.size, 0, none⟩), .cells v.cells e (0, 0), 0, ?_, ?_⟩
      · simp only [execOp, Instr.alloc, Sem.run_bind, h1, Result.andThen_ok, newVar, newRow, run_newObj, Sem.run_pure]
      · intro ρ' hle
        exact ⟨newOne_or (h2.mono (noRen_le ρ')), fun id hid => .ptr hid⟩
  case box e x =>
    cases hx : opd env x with
    | none => rw [hx] at h; simp at h
    | some q =>
      rw [hx] at h; simp at h; subst h
      refine ⟨.pointer (some ⟨w.heap.size, 0, none⟩), .cells (ev x).cells e (0, 0), 0, ?_, ?_⟩
      · simp only [execOp, Instr.box, Sem.run_bind, Result.andThen_ok, newVar, newRow, run_newObj, Sem.run_pure]
      · intro ρ' hle
        exact ⟨newOne_or ((he x q hx).cells.mono hle), fun id hid => .ptr hid⟩
  case buildSlice t len parts =>
    cases ht : T t with
    | none => rw [ht] at h; simp at h
    | some ti =>
      rw [ht] at h; simp only at h
      have hu := run_und hT ht w
      cases hd : ti.desc <;> rw [hd] at h hu <;> simp only at h <;> try (simp at h; done)
      rename_i e
      cases hz : zeroOf T e with
      | none => rw [hz] at h; simp at h
      | some z =>
        rw [hz] at h; simp only at h
        obtain ⟨v, i, hti, h1, h2, h3, _⟩ := zeroOf_run hT hz w
        cases hb : (len * z.length).ble 16777216 <;> rw [hb] at h <;> simp only at h
        · simp at h
        · cases hb0 : (len * z.length).beq 0 <;> rw [hb0] at h <;> simp only at h
          · cases hp : setParts env z.length len (fillTr z len) parts.toList with
            | none => rw [hp] at h; simp at h
            | some tr =>
              rw [hp] at h; simp at h; subst h
              have hlim := Nat.le_of_ble_eq_true hb
              have hne := beq_ne hb0
              obtain ⟨cs', c1, c2⟩ := setParts_spec (ρ := ρ) he parts.toList _ _ _ hp (zeros_TrR h2 len)
              have hl : (parts.map fun (i, x) => (i, ev x)).toList = parts.toList.map fun p => (p.1, ev p.2) := by simp
              refine ⟨.slice (some ⟨w.heap.size, 0, none⟩) len len, .cells cs' e (0, 0), 0, ?_, ?_⟩
              · have hsz := run_size hT hti w
                rw [← h3] at hsz
                simp only [execOp, Instr.buildSlice, Sem.run_bind, hu, Result.andThen_ok, hsz]
                rw [if_neg (by omega), if_neg hne]
                simp only [Sem.run_bind, h1, Result.andThen_ok, Sem.run_pure]
                rw [hl, c1]
                simp only [Sem.run_bind, newRow, run_newObj, Result.andThen_ok, Sem.run_pure]
              · intro ρ' hle
                refine ⟨TrR.or ⟨c2.1, fun i l hi hg => ?_⟩, fun id hid => .sliceK hid⟩
                obtain ⟨q1, q2⟩ := c2.2 i l hi hg
                exact ⟨q1, fun j x hx => let ⟨v, hv, hr⟩ := q2 j x hx; ⟨v, hv, hr.mono hle⟩⟩
          · cases hl0 : len.beq 0 <;> rw [hl0] at h <;> simp only at h
            · simp at h
            · obtain rfl := beq_iff.1 hl0
              cases hpl : parts.toList with
              | cons p ps => rw [hpl] at h; simp at h
              | nil =>
                rw [hpl] at h; simp at h; subst h
                have hpe : parts = #[] := by
                  apply Array.ext'; simpa using hpl
                subst hpe
                refine ⟨.slice (some ⟨w.heap.size, 0, none⟩) 0 0, .cells #[] e (0, 0), 0, ?_, ?_⟩
                · have hsz := run_size hT hti w
                  simp only [execOp, Instr.buildSlice, Sem.run_bind, hu, Result.andThen_ok, hsz, Nat.zero_mul]
                  rw [if_neg (by omega)]
                  simp [Instr.fill, newRow, Array.range]
                · intro ρ' hle
                  refine ⟨⟨rfl, #[], e, rfl, by simp, fun i l hl => ?_⟩, fun id hid => .sliceK hid⟩
                  simp only [AO.elem] at hl
                  cases hbb : i.blt 0 <;> rw [hbb] at hl <;> simp only at hl
                  · simp at hl
                  · have := blt_lt hbb; omega
  case makeMap t r =>
    cases r with
    | some _ => simp at h
    | none =>
      simp at h; subst h
      refine ⟨.map (some w.heap.size), .map #[] 0, 0, ?_, ?_⟩
      · simp [execOp, Instr.makeMap]
      · intro ρ' hle
        exact ⟨⟨rfl, #[], rfl, .nil⟩, fun id hid => .map hid⟩
  case makeSlice t l c =>
    cases hl : opd env l with
    | none => rw [hl] at h; simp at h
    | some a1 =>
      rw [hl] at h; simp only at h
      cases hn : anat a1 with
      | none => rw [hn] at h; simp at h
      | some n =>
        rw [hn] at h; simp only at h
        cases hc : opd env c with
        | none => rw [hc] at h; simp at h
        | some b1 =>
          rw [hc] at h; simp only at h
          cases hk : anat b1 with
          | none => rw [hk] at h; simp at h
          | some k =>
            rw [hk] at h; simp only at h
            obtain ⟨k1, e1⟩ := anat_spec hn (he _ _ hl)
            obtain ⟨k2, e2⟩ := anat_spec hk (he _ _ hc)
            cases ht : T t with
            | none => rw [ht] at h; simp at h
            | some ti =>
              rw [ht] at h; simp only at h
              have hu := run_und hT ht w
              cases hd : ti.desc <;> rw [hd] at h hu <;> simp only at h <;> try (simp at h; done)
              rename_i e
              cases hti : T e with
              | none => rw [hti] at h; simp at h
              | some i =>
                rw [hti] at h; simp only at h
                cases hz : zeroOf T e with
                | none => rw [hz] at h; simp at h
                | some z =>
                  rw [hz] at h; simp only at h
                  obtain ⟨v, i', hti', h1, h2, h3, _⟩ := zeroOf_run hT hz w
                  rw [hti] at hti'; cases hti'
                  cases hb1 : n.ble k <;> rw [hb1] at h <;> simp only at h
                  · simp at h
                  · cases hb2 : k.blt 1048576 <;> rw [hb2] at h <;> simp only at h
                    · simp at h
                    · cases hb3 : i.info.bytes.blt 1048576 <;> rw [hb3] at h <;> simp at h
                      subst h
                      have l1 := Nat.le_of_ble_eq_true hb1
                      have l2 := blt_lt hb2
                      have l3 := blt_lt hb3
                      have hz0 := zeros_TrR (ρ := ρ) h2 k
                      have hsz := run_size hT hti w
                      rw [← h3] at hsz
                      have wn : IntKind.i64.wrap (n : Int) = n := wrap_small .i64 _ (by omega) (by show (n : Int) < 9223372036854775808; omega)
                      have wk : IntKind.i64.wrap (k : Int) = k := wrap_small .i64 _ (by omega) (by show (k : Int) < 9223372036854775808; omega)
                      have big : ∀ q : Nat, q ≤ k → ¬ ((i.info.bytes : Int) * (q : Int) > 2 ^ 48) := by
                        intro q hq hgt
                        have hmul : i.info.bytes * q ≤ 1048576 * 1048576 := Nat.mul_le_mul (by omega) (by omega)
                        have h5 : ((i.info.bytes * q : Nat) : Int) ≤ ((1048576 * 1048576 : Nat) : Int) := Int.ofNat_le.2 hmul
                        rw [Int.natCast_mul] at h5
                        have h6 : ((1048576 * 1048576 : Nat) : Int) < 2 ^ 48 := by decide
                        exact absurd hgt (Int.not_lt.2 (Int.le_of_lt (Int.lt_of_le_of_lt h5 h6)))
                      refine ⟨.slice (some ⟨w.heap.size, 0, none⟩) n k, .cells ((Array.range (k * z.length)).map (v.cells[· % v.cells.size]!)) e (0, 0), 0, ?_, ?_⟩
                      · have hcond : (decide ((k : Int) < 0) || decide ((i.info.bytes : Int) * (k : Int) > 2 ^ 48) || decide ((n : Int) < 0) || decide ((n : Int) > (k : Int))) = false := by
                          have := big k (Nat.le_refl _)
                          simp only [Bool.or_eq_false_iff, decide_eq_false_iff_not]
                          refine ⟨⟨⟨by omega, this⟩, by omega⟩, by omega⟩
                        simp only [execOp, Instr.makeSlice, Sem.run_bind, hu, Result.andThen_ok, e1, e2, asInt, asIntOf, Sem.run_pure, run_info hT hti, wn, wk]
                        rw [if_neg (by rw [hcond]; exact Bool.false_ne_true)]
                        simp only [Sem.run_bind, run_askRoom, Result.andThen_ok, hsz, Sem.run_ite, Sem.run_pure, Int.toNat_natCast]
                        by_cases hk0 : k * z.length = 0
                        · simp only [hk0, if_true, Result.andThen_ok, Sem.run_bind, newRow, run_newObj, Sem.run_pure]
                          have hr0 : Array.range 0 = #[] := rfl
                          simp only [hr0, Array.map_empty]
                        · rw [if_neg hk0]
                          simp only [Sem.run_bind, h1, Result.andThen_ok, newRow, run_newObj, Sem.run_pure]
                      · intro ρ' hle
                        refine ⟨TrR.or ⟨hz0.1, fun i l hi hg => ?_⟩, fun id hid => .sliceK hid⟩
                        obtain ⟨q1, q2⟩ := hz0.2 i l hi hg
                        exact ⟨q1, fun j x hx => let ⟨v, hv, hr⟩ := q2 j x hx; ⟨v, hv, hr.mono hle⟩⟩

end Go.AM
