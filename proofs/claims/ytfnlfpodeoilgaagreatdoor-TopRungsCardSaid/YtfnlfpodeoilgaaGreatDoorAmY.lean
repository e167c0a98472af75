/- The abstract machine, part Y: ranges over maps of which at most one entry is left, and pointers beside one another. No condition. -/
import Derived.Test.YtfnlfpodeoilgaaGreatDoorAmM
import Derived.LaidEql
set_option linter.all false
noncomputable section
namespace Go.AM
open Go.RowKit (Below)

def arange (T : TT) (s : St) (t : TypeId) (x : AV) : Option (AV × St) :=
  match T t with
  | none => none
  | some i => match i.desc with
    | .map _ _ => match x with
      | .map id => match s.heap.get id with
        | some (.mp _ clock) => some (.ptr ⟨s.ctr, 0, 0⟩, s.alloc (.iter id clock [] clock))
        | _ => none
      | _ => none
    | _ => none

theorem arange_run {P : Program} {T : TT} (hT : TOk P T) {G B ρ s w} (h : Rel G B ρ s w) {t : TypeId} {x y : AV} {u : Value} {s' : St} (ha : arange T s t x = some (y, s')) (hx : VR ρ x u) :
    ∃ ρ' w' r, (Instr.range t u).run P w = .ok r w' ∧ VR ρ' y r ∧ Rel G B ρ' s' w' ∧ Ext B ρ s w ρ' s' w' := by
  unfold arange at ha
  cases ht : T t with
  | none => rw [ht] at ha; simp at ha
  | some i =>
    rw [ht] at ha; simp only at ha
    have hu := (hT _ _ ht).desc
    cases hd : i.desc <;> rw [hd] at ha hu <;> simp only at ha <;> try (simp at ha; done)
    cases x <;> simp only at ha <;> try (simp at ha; done)
    rename_i id
    cases ho : s.heap.get id with
    | none => rw [ho] at ha; simp at ha
    | some o =>
      rw [ho] at ha
      cases o <;> simp only at ha <;> try (simp at ha; done)
      rename_i es clock
      simp at ha; obtain ⟨rfl, rfl⟩ := ha
      cases hx with
      | @map _ b κ hm =>
        obtain ⟨es', e1, e2⟩ := h.map hm ho
        obtain ⟨q1, q2⟩ := h.alloc (κ := 0) (o := .iter id clock [] clock) (c := .mapIter (some b) clock #[] clock)
          ⟨rfl, b, κ, Ren.le_add (h.fresh 0) _ _ _ hm, rfl⟩
        refine ⟨_, _, .pointer (some ⟨w.heap.size, 0, none⟩), ?_, .ptr (Ren.add_same ..), q1, q2⟩
        simp only [Instr.range, Sem.run_bind, run_underlying hu, Result.andThen_ok, run_getObj_map e1, Sem.run_pure]
        rfl

def hasNat (n : Nat) : List Nat → Bool
  | [] => false
  | x :: xs => match x.beq n with
    | true => true
    | false => hasNat n xs
theorem hasNat_eq (n : Nat) : ∀ l : List Nat, hasNat n l = l.contains n
  | [] => rfl
  | x :: xs => by
    simp only [hasNat, List.contains_cons]
    cases hb : x.beq n with
    | true => rw [beq_iff.1 hb]; simp
    | false => have := beq_ne hb; simp only; rw [hasNat_eq n xs]; simp [Ne.symm this]

def leftOf (seen : List Nat) (es : List (AV × AV × Nat)) : List (AV × AV × Nat) := es.filter fun e => !hasNat e.2.2 seen

def anext (s : St) (x : AV) : Option (AV × St) :=
  match x with
  | .ptr a => match a.off.beq 0 && a.m.beq 0 with
    | false => none
    | true => match s.heap.get a.id with
      | some (.iter id since seen last) => match s.heap.get id with
        | some (.mp es clock) => match !seen.isEmpty && !es.isEmpty && es.all fun e => last.ble e.2.2 with
          | true => none
          | false => match leftOf seen es with
            | [] => some (.tuple [.bool false], s)
            | [e] => match e.2.2.blt since with
              | true => some (.tuple [.bool true, e.1, e.2.1], s.put a.id (.iter id since (seen ++ [e.2.2]) clock))
              | false => none
            | _ => none
        | _ => none
      | _ => none
  | _ => none

theorem EntsR.filter {ρ : Ren} {p : Nat → Bool} {es : List (AV × AV × Nat)} {fs : List MapEntry} (h : EntsR ρ es fs) : EntsR ρ (es.filter fun e => p e.2.2) (fs.filter fun e => p e.born) := by
  induction h with
  | nil => exact .nil
  | cons h t ih =>
    cases h with
    | @mk k v k' v' b hk hv =>
      simp only [List.filter_cons]
      cases p b
      · simpa using ih
      · simpa using EntsR.cons (.mk hk hv) ih

theorem EntsR.all {ρ : Ren} {p : Nat → Bool} {es : List (AV × AV × Nat)} {fs : List MapEntry} (h : EntsR ρ es fs) : (es.all fun e => p e.2.2) = (fs.all fun e => p e.born) := by
  induction h with
  | nil => rfl
  | cons h t ih => cases h; simp [ih]

theorem EntsR.isEmpty {ρ : Ren} {es : List (AV × AV × Nat)} {fs : List MapEntry} (h : EntsR ρ es fs) : es.isEmpty = fs.isEmpty := by
  cases h <;> rfl

theorem Rel.iter {G B ρ s w} (h : Rel G B ρ s w) {id m b κ mp since last : Nat} {seen : List Nat} (hm : ρ id m = some (b, κ)) (ho : s.heap.get id = some (.iter mp since seen last)) :
    m = 0 ∧ ∃ b' κ', ρ mp 0 = some (b', κ') ∧ w.heap[b]? = some (.mapIter (some b') since ⟨seen⟩ last) := by
  obtain ⟨_, _, o, c, ho', hc, hO⟩ := h.obj _ _ _ _ hm
  rw [ho] at ho'; cases ho'
  obtain ⟨h1, b', κ', h2, rfl⟩ := hO
  exact ⟨h1, b', κ', h2, hc⟩

theorem anext_run {P : Program} {G B ρ s w} (h : Rel G B ρ s w) {x y : AV} {u : Value} {s' : St} (ty : TypeId) (ha : anext s x = some (y, s')) (hx : VR ρ x u) :
    ∃ w' r, (Instr.next u false ty).run P w = .ok r w' ∧ VR ρ y r ∧ Rel G B ρ s' w' ∧ Ext B ρ s w ρ s' w' := by
  unfold anext at ha
  cases x <;> simp only at ha <;> try (simp at ha; done)
  rename_i a
  obtain ⟨id, m, off⟩ := a
  simp only at ha
  cases hz : off.beq 0 && m.beq 0 <;> rw [hz] at ha <;> simp only at ha
  · simp at ha
  simp only [Bool.and_eq_true] at hz
  obtain rfl := beq_iff.1 hz.1
  obtain rfl := beq_iff.1 hz.2
  cases ho : s.heap.get id with
  | none => rw [ho] at ha; simp at ha
  | some o =>
    rw [ho] at ha
    cases o <;> simp only at ha <;> try (simp at ha; done)
    rename_i mp since seen last
    cases ho2 : s.heap.get mp with
    | none => rw [ho2] at ha; simp at ha
    | some o2 =>
      rw [ho2] at ha
      cases o2 <;> simp only at ha <;> try (simp at ha; done)
      rename_i es clock
      cases hx with
      | @ptr _ _ _ b κ hm =>
        obtain ⟨_, b', κ', i1, i2⟩ := h.iter hm ho
        obtain ⟨fs, e1, e2⟩ := h.map i1 ho2
        cases hbad : (!seen.isEmpty && !es.isEmpty && es.all fun e => last.ble e.2.2) with
        | true => rw [hbad] at ha; simp at ha
        | false =>
          rw [hbad] at ha; simp only at ha
          have hget : (getObj b).run P w = .ok (.mapIter (some b') since ⟨seen⟩ last) w := by simp [getObj, Sem.run, i2]
          have hall : (fs.all fun e => decide (e.born ≥ last)) = es.all fun e => last.ble e.2.2 := by
            rw [e2.all (p := fun n => last.ble n)]
            rw [← Array.all_toList]
            congr 1; funext e
            rw [Bool.eq_iff_iff]; simp [Nat.ble_eq]
          have hE : fs.isEmpty = es.isEmpty := by rw [e2.isEmpty]; cases fs; rename_i l; cases l <;> rfl
          have hS : (⟨seen⟩ : Array Nat).isEmpty = seen.isEmpty := by cases seen <;> rfl
          have hcond : (!(⟨seen⟩ : Array Nat).isEmpty && !fs.isEmpty && fs.all fun e => decide (e.born ≥ last)) = false := by rw [hall, hE, hS]; exact hbad
          have hleft : EntsR ρ (leftOf seen es) (fs.filter fun e => !(⟨seen⟩ : Array Nat).contains e.born).toList := by
            have := e2.filter (p := fun n => !hasNat n seen)
            unfold leftOf
            rw [Array.toList_filter]
            have hf : (fun e : MapEntry => !hasNat e.born seen) = fun e : MapEntry => !(⟨seen⟩ : Array Nat).contains e.born := by
              funext e; rw [hasNat_eq]; simp
            rw [← hf]; exact this
          generalize hL : (fs.filter fun e => !(⟨seen⟩ : Array Nat).contains e.born) = left at hleft
          cases hl : leftOf seen es with
          | nil =>
            rw [hl] at ha hleft; simp at ha; obtain ⟨rfl, rfl⟩ := ha
            obtain ⟨left⟩ := left
            simp only at hleft
            cases hleft
            refine ⟨w, .tuple #[.bool false], ?_, .tuple (.cons (.bool _) .nil), h, .refl ..⟩
            simp only [Instr.next, Sem.run_bind, hget, Result.andThen_ok, run_getObj_map e1, hcond, hL]
            simp [choose, Sem.run, Question.forced, Question.cut]
          | cons e rest =>
            rw [hl] at ha hleft
            cases rest with
            | cons e2 rest => simp at ha
            | nil =>
              simp only at ha
              cases hlt : e.2.2.blt since <;> rw [hlt] at ha <;> simp only at ha
              · simp at ha
              simp at ha; obtain ⟨rfl, rfl⟩ := ha
              obtain ⟨left⟩ := left
              simp only at hleft
              cases hleft with
              | cons he ht =>
                cases ht
                cases he with
                | @mk k v k' v' born hk hv =>
                  have hlt' : born < since := blt_lt hlt
                  obtain ⟨q1, q2⟩ := h.write1 (o' := .iter mp since (seen ++ [born]) clock) (c' := .mapIter (some b') since ⟨seen ++ [born]⟩ clock) hm ho (fun m _ _ hO => hO.1) ⟨rfl, b', κ', i1, rfl⟩
                  refine ⟨_, .tuple #[.bool true, k', v'], ?_, .tuple (.cons (.bool _) (.cons hk (.cons hv .nil))), q1, q2⟩
                  simp only [Instr.next, Sem.run_bind, hget, Result.andThen_ok, run_getObj_map e1, hcond, hL]
                  simp [choose, Sem.run, Question.forced, Question.cut, hlt', setObj, i2, show ¬ since ≤ born from by omega]

def anEntry (s : St) (x : AV) : Option AV :=
  match x with
  | .ptr a => match a.off.beq 0 && a.m.beq 0 with
    | false => none
    | true => match s.heap.get a.id with
      | some (.iter id _ seen last) => match s.heap.get id with
        | some (.mp [e] clock) => match clock.beq last with
          | false => none
          | true => match seen.getLast? with
            | none => none
            | some n => match e.2.2.beq n with
              | true => some (.tuple [e.1, e.2.1])
              | false => none
        | _ => none
      | _ => none
  | _ => none

theorem anEntry_run {P : Program} {G B ρ s w} (h : Rel G B ρ s w) {x y : AV} {u : Value} (ha : anEntry s x = some y) (hx : VR ρ x u) : ∃ r, (Instr.entry u).run P w = .ok r w ∧ VR ρ y r := by
  unfold anEntry at ha
  cases x <;> simp only at ha <;> try (simp at ha; done)
  rename_i a
  obtain ⟨id, m, off⟩ := a
  simp only at ha
  cases hz : off.beq 0 && m.beq 0 <;> rw [hz] at ha <;> simp only at ha
  · simp at ha
  simp only [Bool.and_eq_true] at hz
  obtain rfl := beq_iff.1 hz.1
  obtain rfl := beq_iff.1 hz.2
  cases ho : s.heap.get id with
  | none => rw [ho] at ha; simp at ha
  | some o =>
    rw [ho] at ha
    cases o <;> simp only at ha <;> try (simp at ha; done)
    rename_i mp since seen last
    cases ho2 : s.heap.get mp with
    | none => rw [ho2] at ha; simp at ha
    | some o2 =>
      rw [ho2] at ha
      cases o2 <;> (try simp only at ha) <;> try (simp at ha; done)
      rename_i es clock
      cases es with
      | nil => simp at ha
      | cons e rest =>
        cases rest with
        | cons _ _ => simp at ha
        | nil =>
          simp only at ha
          cases hcl : clock.beq last <;> rw [hcl] at ha <;> simp only at ha
          · simp at ha
          obtain rfl := beq_iff.1 hcl
          cases hls : seen.getLast? with
          | none => rw [hls] at ha; simp at ha
          | some n =>
            rw [hls] at ha; simp only at ha
            cases hen : e.2.2.beq n <;> rw [hen] at ha <;> simp at ha
            subst ha
            cases hx with
            | @ptr _ _ _ b κ hm =>
              obtain ⟨_, b', κ', i1, i2⟩ := h.iter hm ho
              obtain ⟨fs, e1, e2⟩ := h.map i1 ho2
              obtain ⟨fs⟩ := fs
              simp only at e2
              cases e2 with
              | cons he ht =>
                cases ht
                cases he with
                | @mk k v k' v' born hk hv =>
                  have hbn : born = n := beq_iff.1 hen
                  subst hbn
                  refine ⟨.tuple #[k', v'], ?_, .tuple (.cons hk (.cons hv .nil))⟩
                  have hget : (getObj b).run P w = .ok (.mapIter (some b') since ⟨seen⟩ clock) w := by simp [getObj, Sem.run, i2]
                  simp only [Instr.entry, Sem.run_bind, hget, Result.andThen_ok]
                  simp [hls, run_getObj_map e1]

/-! Pointers beside one another. -/
def isCells : AO → Bool
  | .row .. => true
  | .fam .. => true
  | _ => false

def ptrSame (s : St) (a b : AA) : Option Bool :=
  match a.id.beq b.id with
  | true => match a.m.beq b.m with
    | true => some (a.off.beq b.off)
    | false => none
  | false => match s.heap.get a.id with
    | none => none
    | some o => match s.heap.get b.id with
      | none => none
      | some p => match isCells o && isCells p with
        | true => some false
        | false => none

def apeq (T : TT) (s : St) (env : Tr AV) (op : Op) : Option AV :=
  match op with
  | .binOp o t x y _ => match opd env x with
    | some (.ptr a) => match opd env y with
      | some (.ptr b) => match T t with
        | none => none
        | some i => match i.desc with
          | .pointer e => match T e with
            | none => none
            | some j => match j.info.size.beq 0 with
              | true => none
              | false => match ptrSame s a b with
                | none => none
                | some r => match o with
                  | .eql => some (.bool r)
                  | .neq => some (.bool (!r))
                  | _ => none
          | _ => none
      | _ => none
    | _ => none
  | _ => none

theorem Rel.isCells {G B ρ s w} (h : Rel G B ρ s w) {id m b κ : Nat} {o : AO} (hm : ρ id m = some (b, κ)) (ho : s.heap.get id = some o) (hc : isCells o = true) :
    ∃ cs e, w.heap[b]? = some (.cells cs e (0, 0)) := by
  obtain ⟨_, _, o', c, ho', hc', hO⟩ := h.obj _ _ _ _ hm
  rw [ho] at ho'; cases ho'
  cases o <;> simp [Go.AM.isCells] at hc
  · obtain ⟨_, cs, e, rfl, _⟩ := hO; exact ⟨cs, e, hc'⟩
  · obtain ⟨_, _, cs, e, rfl, _⟩ := hO; exact ⟨cs, e, hc'⟩

theorem ptrSame_run {P : Program} {G B ρ s w} (h : Rel G B ρ s w) {a b : AA} {r : Bool} (hs : ptrSame s a b = some r) {A C : Nat} {κ κ' : Nat} (ha : ρ a.id a.m = some (A, κ)) (hb : ρ b.id b.m = some (C, κ')) :
    (sameAddr ⟨A, a.off, none⟩ ⟨C, b.off, none⟩).run P w = .ok r w := by
  unfold ptrSame at hs
  cases hid : a.id.beq b.id with
  | true =>
    rw [hid] at hs; simp only at hs
    cases hmm : a.m.beq b.m with
    | false => rw [hmm] at hs; simp at hs
    | true =>
      rw [hmm] at hs; simp at hs; subst hs
      rw [beq_iff.1 hid, beq_iff.1 hmm] at ha
      rw [ha] at hb; cases hb
      simp only [sameAddr, beq_self_eq_true, if_true]
      simp
      by_cases he : a.off = b.off
      · simp [he]
      · have hb : (a.off.beq b.off) = false := by cases hq : a.off.beq b.off with | true => exact absurd (beq_iff.1 hq) he | false => rfl
        simp [hb, he]
  | false =>
    rw [hid] at hs; simp only at hs
    cases hoa : s.heap.get a.id with
    | none => rw [hoa] at hs; simp at hs
    | some o =>
      rw [hoa] at hs; simp only at hs
      cases hob : s.heap.get b.id with
      | none => rw [hob] at hs; simp at hs
      | some p =>
        rw [hob] at hs; simp only at hs
        cases hcc : Go.AM.isCells o && Go.AM.isCells p <;> rw [hcc] at hs <;> simp at hs
        subst hs
        simp only [Bool.and_eq_true] at hcc
        obtain ⟨ca, ea, h1⟩ := h.isCells ha hoa hcc.1
        obtain ⟨cb, eb, h2⟩ := h.isCells hb hob hcc.2
        have hne : A ≠ C := fun e => by
          subst e
          have h3 := h.obj _ _ _ _ ha
          by_cases hk : κ = κ'
          · subst hk; exact beq_ne hid (h.inj _ _ _ _ _ _ _ ha hb).1
          · exact hk (h.inj _ _ _ _ _ _ _ ha hb).2
        exact run_sameAddr_other w (by simp [hne]) h1 h2

theorem apeq_run {P : Program} {T : TT} (hT : TOk P T) {G B ρ s w} (h : Rel G B ρ s w) {env : Tr AV} {ev : Operand → Value} (he : OpdR ρ env ev) {o : Oper} {y : AV} (ha : apeq T s env o.op = some y) :
    ∃ r, (execOp ev o).run P w = .ok (.value r) w ∧ VR ρ y r := by
  obtain ⟨dst, op, type, pos, after, guard⟩ := o
  simp only at ha
  have wrap : ∀ {q : Sem Value} {r : Value}, q.run P w = .ok r w → (q >>= fun x => pure (Next.value x)).run P w = .ok (.value r) w := by
    intro q r hs; simp [hs]
  unfold apeq at ha
  cases op <;> simp only at ha <;> try (simp at ha; done)
  rename_i bo t x z yt
  cases hx : opd env x with
  | none => rw [hx] at ha; simp at ha
  | some a =>
    rw [hx] at ha
    cases a <;> simp only at ha <;> try (simp at ha; done)
    rename_i a
    cases hz : opd env z with
    | none => rw [hz] at ha; simp at ha
    | some b =>
      rw [hz] at ha
      cases b <;> simp only at ha <;> try (simp at ha; done)
      rename_i b
      cases ht : T t with
      | none => rw [ht] at ha; simp at ha
      | some i =>
        rw [ht] at ha; simp only at ha
        have hu := (hT _ _ ht).desc
        cases hd : i.desc <;> rw [hd] at ha hu <;> simp only at ha <;> try (simp at ha; done)
        rename_i e
        cases hte : T e with
        | none => rw [hte] at ha; simp at ha
        | some j =>
          rw [hte] at ha; simp only at ha
          cases hsz : j.info.size.beq 0 <;> rw [hsz] at ha <;> simp only at ha <;> try (simp at ha; done)
          cases hr : ptrSame s a b with
          | none => rw [hr] at ha; simp at ha
          | some r =>
            rw [hr] at ha; simp only at ha
            have hvx := he _ _ hx
            have hvz := he _ _ hz
            generalize hex : ev x = ux at hvx
            generalize hez : ev z = uz at hvz
            cases hvx with
            | @ptr ida ma offa A κ hma =>
              cases hvz with
              | @ptr idb mb offb C κ' hmb =>
                have hsame := ptrSame_run (P := P) h hr hma hmb
                simp only at hsame
                have heq : (Op.equal t (.pointer (some ⟨A, offa, none⟩)) (.pointer (some ⟨C, offb, none⟩))).run P w = .ok r w := by
                  have h1 : ∀ d : Nat, (Op.equalIn (d + 1) t (.pointer (some ⟨A, offa, none⟩)) (.pointer (some ⟨C, offb, none⟩))).run P w = .ok r w := fun d => by
                    simp [Op.equalIn, run_underlying hu, run_size hT hte, beq_ne hsz, hsame]
                  simp [Op.equal, Op.maxDepth, h1 9999]
                cases bo <;> simp at ha
                · subst ha
                  refine ⟨.bool r, wrap ?_, .bool r⟩
                  rw [hex, hez]
                  simp only [eqGuard, binOp]
                  simp [heq]
                · subst ha
                  refine ⟨.bool (!r), wrap ?_, .bool (!r)⟩
                  rw [hex, hez]
                  simp only [eqGuard, binOp]
                  simp [heq]
end Go.AM
