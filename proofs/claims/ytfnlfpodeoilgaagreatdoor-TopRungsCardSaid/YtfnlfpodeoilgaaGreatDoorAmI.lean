/- The abstract machine, part I: append, copy, clear. No condition. -/
import Derived.Test.YtfnlfpodeoilgaaGreatDoorAmH
set_option linter.all false
noncomputable section
namespace Go.AM
open Go.RowKit (Below)

theorem Rel.heap {G B ρ s w w'} (h : Rel G B ρ s w) (e : w'.heap = w.heap) : Rel G B ρ s w' :=
  ⟨fun id m b κ hm => by rw [e]; exact h.obj id m b κ hm, h.inj, by rw [e]; exact h.size, fun g l hg => by rw [e]; exact h.glob g l hg⟩

/-- What is appended or copied. -/
def firstA (s : St) (sz n : Nat) (x : AV) : Option (List AV) :=
  match x with
  | .str b => match sz.beq 1 with
    | true => some ((b.data.toList.take n).map fun c => .int .u8 (.ofNat c.toNat))
    | false => none
  | x => match (n * sz).beq 0 with
    | true => match x with
      | .slice _ _ _ | .nils | .emp => some []
      | _ => none
    | false => match x with
      | .slice a _ _ => s.read a (n * sz)
      | _ => none

def lenA : AV → Option Nat
  | .slice _ n _ => some n
  | .nils => some 0
  | .emp => some 0
  | .str b => some b.size
  | _ => none

theorem lenA_run {P : Program} {ρ : Ren} {x : AV} {v : Value} {n : Nat} (h : lenA x = some n) (hx : VR ρ x v) (w : World) : (Builtin.lenOf v).run P w = .ok n w := by
  cases hx <;> simp [lenA] at h <;> subst h <;> rfl

theorem vrs_bytes {ρ : Ren} : ∀ (l : List UInt8), VRs ρ (l.map fun c => .int .u8 (.ofNat c.toNat)) (l.map fun b => .int .u8 (b.toNat : Int))
  | [] => .nil
  | b :: l => .cons (.int _ _) (vrs_bytes l)

theorem firstA_run {P : Program} {G B ρ s w} (h : Rel G B ρ s w) {sz n k : Nat} {x : AV} {v : Value} {l : List AV} (hf : firstA s sz n x = some l) (hk : lenA x = some k) (hn : n ≤ k)
    (hx : VR ρ x v) : ∃ vs : List Value, (∀ w' : World, w'.heap = w.heap → (Builtin.firstCells sz n v).run P w' = .ok ⟨vs⟩ w') ∧ VRs ρ l vs ∧ l.length = n * sz := by
  have gen : ∀ id m off b κ c, ρ id m = some (b, κ) → x ≠ .nils → x ≠ .emp → (∃ len cap, x = .slice ⟨id, m, off⟩ len cap) → v = .slice (some ⟨b, off, none⟩) k c →
      ∃ vs : List Value, (∀ w' : World, w'.heap = w.heap → (Builtin.firstCells sz n v).run P w' = .ok ⟨vs⟩ w') ∧ VRs ρ l vs ∧ l.length = n * sz := by
    rintro id m off b κ c hm - - ⟨len, cap, rfl⟩ rfl
    unfold firstA at hf
    simp only at hf
    cases hz : (n * sz).beq 0 with
    | true =>
      rw [hz] at hf; simp at hf; subst hf
      have h0 := beq_iff.1 hz
      exact ⟨[], fun w' _ => by simp [Builtin.firstCells, h0, loadCells, loadCellsFrom], .nil, by simp [h0]⟩
    | false =>
      rw [hz] at hf; simp only at hf
      have hne := beq_ne hz
      obtain ⟨cs, e, h1, h2⟩ := h.read hm hf hne
      exact ⟨(cs.toList.drop off).take (n * sz), fun w' hw => by simp only [Builtin.firstCells]; exact run_loadCells (by rw [hw]; exact h1) (h2.le hne), h2.vrs, h2.1⟩
  cases hx with
  | str b =>
    unfold firstA at hf
    simp only at hf
    cases h1 : sz.beq 1 <;> rw [h1] at hf <;> simp only [Option.some.injEq] at hf
    · simp at hf
    · obtain rfl := beq_iff.1 h1
      subst hf
      simp [lenA] at hk; subst hk
      refine ⟨(b.data.toList.take n).map fun c => .int .u8 (c.toNat : Int), ?_, vrs_bytes _, ?_⟩
      · intro w' _
        have e0 : (b.extract 0 n).data = ⟨b.data.toList.take n⟩ := by
          rw [ByteArray.data_extract]
          apply Array.ext'
          simp
        simp only [Builtin.firstCells, Sem.run_pure, e0]
        simp
      · have : b.data.toList.length = b.size := by simp
        simp; omega
  | nils =>
    unfold firstA at hf
    simp only at hf
    cases hz : (n * sz).beq 0 <;> rw [hz] at hf <;> simp at hf
    subst hf
    exact ⟨[], fun w' _ => by simp [Builtin.firstCells], .nil, by have := beq_iff.1 hz; simp [this]⟩
  | emp b off c =>
    unfold firstA at hf
    simp only at hf
    cases hz : (n * sz).beq 0 <;> rw [hz] at hf <;> simp at hf
    subst hf
    have h0 := beq_iff.1 hz
    exact ⟨[], fun w' _ => by simp [Builtin.firstCells, h0, loadCells, loadCellsFrom], .nil, by simp [h0]⟩
  | sliceK hm => simp [lenA] at hk; subst hk; exact gen _ _ _ _ _ _ hm (by simp) (by simp) ⟨_, _, rfl⟩ rfl
  | sliceU hm => simp [lenA] at hk; subst hk; exact gen _ _ _ _ _ _ hm (by simp) (by simp) ⟨_, _, rfl⟩ rfl
  | _ => simp [lenA] at hk

/-! Elements laid one behind the other. -/
def setElems (st sz : Nat) : Nat → Nat → List AV → Tr (Nat × List AV) → Tr (Nat × List AV)
  | 0, _, _, t => t
  | c + 1, i, l, t => match t.set i (st, l.take sz) with
    | .leaf => .leaf
    | .node x v y => setElems st sz c (i + 1) (l.drop sz) (.node x v y)

theorem setElems_succ (st sz c i : Nat) (l : List AV) (t : Tr (Nat × List AV)) : setElems st sz (c + 1) i l t = setElems st sz c (i + 1) (l.drop sz) (t.set i (st, l.take sz)) := by
  obtain ⟨x, v, y, h⟩ := Tr.setP_node (st, l.take sz) (path i) t
  have h' : t.set i (st, l.take sz) = .node x v y := by rw [Tr.set_eq]; exact h
  simp only [setElems, h']

theorem setElems_get (st sz : Nat) : ∀ (c i : Nat) (l : List AV) (t : Tr (Nat × List AV)) (k : Nat), (setElems st sz c i l t).get k =
    if i ≤ k ∧ k < i + c then some (st, (l.drop ((k - i) * sz)).take sz) else t.get k
  | 0, i, l, t, k => by simp [setElems]; omega
  | c + 1, i, l, t, k => by
    rw [setElems_succ, setElems_get st sz c (i + 1) _ _ k, Tr.get_set]
    by_cases h1 : k = i
    · subst h1
      rw [if_neg (by omega), if_pos rfl, if_pos (by omega)]
      simp
    · by_cases h2 : i + 1 ≤ k ∧ k < i + 1 + c
      · rw [if_pos h2, if_pos (by omega), List.drop_drop]
        have : sz + (k - (i + 1)) * sz = (k - i) * sz := by
          have : k - i = (k - (i + 1)) + 1 := by omega
          rw [this, Nat.add_mul]; omega
        rw [this]
      · rw [if_neg h2, if_neg (Ne.symm h1), if_neg (by omega)]

theorem chunk_get {l : List AV} {k sz j : Nat} {x : AV} (h : ((l.drop (k * sz)).take sz)[j]? = some x) : j < sz ∧ l[k * sz + j]? = some x := by
  have hj : j < sz := by have := (List.getElem?_eq_some_iff.1 h).1; simp at this; omega
  rw [List.getElem?_take_of_lt hj, List.getElem?_drop] at h
  exact ⟨hj, h⟩

theorem chunk_len {l : List AV} {k sz n : Nat} (hl : l.length = n * sz) (hk : k < n) : ((l.drop (k * sz)).take sz).length = sz := by
  have : (k + 1) * sz ≤ n * sz := Nat.mul_le_mul_right _ hk
  rw [Nat.add_mul] at this
  simp; omega

theorem nextcap_le {need cap : Nat} (h : cap < need) : Builtin.nextslicecap need cap ≤ 2 * need + 1000 := by
  unfold Builtin.nextslicecap
  split
  · omega
  · split
    · omega
    · have g : ∀ r c, c ≤ 2 * need + 1000 → Builtin.growBy need r c ≤ 2 * need + 1000 := by
        intro r
        induction r with
        | zero => intro c hc; exact hc
        | succ r ih =>
          intro c hc
          simp only [Builtin.growBy]
          split
          · exact hc
          · exact ih _ (by omega)
      exact g 4 cap (by omega)

theorem zeroCells_size (z : Array Value) (n : Nat) : (Builtin.zeroCells z n).size = n * z.size := by simp [Builtin.zeroCells]

/-- What append is asked of. -/
structure AppArgs where
  sz : Nat
  bytes : Nat
  n : Nat
  new : List AV

def appArgs (T : TT) (s : St) (st xt : TypeId) (x : AV) : Option AppArgs :=
  match T st with
  | none => none
  | some ti => match ti.desc with
    | .slice e => match T e with
      | none => none
      | some i => match zeroOf T e with
        | none => none
        | some _ => match T xt with
          | none => none
          | some xi => match (match xi.desc with | .int _ => true | _ => false) with
            | true => none
            | false => match lenA x with
              | none => none
              | some n => match firstA s i.info.size n x with
                | none => none
                | some new => match n.blt 1048576 with
                  | false => none
                  | true => match i.info.bytes.blt 65536 with
                    | false => none
                    | true => match i.info.size.beq 0 with
                      | true => none
                      | false => some ⟨i.info.size, i.info.bytes, n, new⟩
    | _ => none

/-- The machine's append, in its two ways. -/
theorem append_run {P : Program} {T : TT} (hT : TOk P T) {G B ρ s w} (h : Rel G B ρ s w) {st xt : TypeId} {x : AV} {v : Value} {g : AppArgs} (hg : appArgs T s st xt x = some g) (hx : VR ρ x v) :
    g.new.length = g.n * g.sz ∧ 0 < g.sz ∧ ∃ vs : List Value, VRs ρ g.new vs ∧ ∀ (ty : TypeId) (base : Option Addr) (len cap : Nat), len < 1048576 →
      (len + g.n ≤ cap → (Builtin.append_ #[st, xt] ty #[.slice base len cap, v]).run P w =
        ((match base with | some a => storeCells (a.add (len * g.sz)) vs | none => pure ()).run P w).andThen fun _ w' => .ok (.slice base (len + g.n) cap) w') ∧
      (cap < len + g.n → ∀ old : Array Value, (Builtin.firstCells g.sz len (.slice base len cap)).run P { w with drawn := w.drawn + 1 } = .ok old { w with drawn := w.drawn + 1 } →
        ∃ newCap e rest, len + g.n ≤ newCap ∧ rest.size = (newCap - (len + g.n)) * g.sz ∧
          (Builtin.append_ #[st, xt] ty #[.slice base len cap, v]).run P w = .ok (.slice (some ⟨w.heap.size, 0, none⟩) (len + g.n) newCap)
            { w with drawn := w.drawn + 1, heap := w.heap.push (.cells (old ++ vs.toArray ++ rest) e (0, 0)) }) := by
  unfold appArgs at hg
  cases ht : T st with
  | none => rw [ht] at hg; simp at hg
  | some ti =>
    rw [ht] at hg; simp only at hg
    have hu := run_und hT ht
    cases hd : ti.desc <;> rw [hd] at hg hu <;> simp only at hg <;> try (simp at hg; done)
    rename_i e
    cases hi : T e with
    | none => rw [hi] at hg; simp at hg
    | some i =>
      rw [hi] at hg; simp only at hg
      cases hz : zeroOf T e with
      | none => rw [hz] at hg; simp at hg
      | some z =>
        rw [hz] at hg; simp only at hg
        cases hxi : T xt with
        | none => rw [hxi] at hg; simp at hg
        | some xi =>
          rw [hxi] at hg; simp only at hg
          cases hb : (match xi.desc with | .int _ => true | _ => false) <;> rw [hb] at hg <;> simp only at hg
          · cases hl : lenA x with
            | none => rw [hl] at hg; simp at hg
            | some n =>
              rw [hl] at hg; simp only at hg
              cases hf : firstA s i.info.size n x with
              | none => rw [hf] at hg; simp at hg
              | some new =>
                rw [hf] at hg; simp only at hg
                cases h1 : n.blt 1048576 <;> rw [h1] at hg <;> simp only at hg
                · simp at hg
                · cases h2 : i.info.bytes.blt 65536 <;> rw [h2] at hg <;> simp only at hg
                  · simp at hg
                  · cases h3 : i.info.size.beq 0 <;> rw [h3] at hg <;> simp at hg
                    subst hg
                    have hn := blt_lt h1
                    have hby := blt_lt h2
                    have hsz0 := beq_ne h3
                    obtain ⟨vs, f1, f2, f3⟩ := firstA_run (P := P) h hf hl (Nat.le_refl n) hx
                    refine ⟨f3, by simp only; omega, vs, f2, ?_⟩
                    intro ty base len cap hlen
                    have hint : ∀ (w : World), (underlying xt).run P w = .ok xi.desc w := fun w => run_und hT hxi w
                    have hlen' := lenA_run (P := P) hl hx
                    constructor
                    · intro hcap
                      simp only at hcap ⊢
                      obtain ⟨d, hd'⟩ : ∃ d, d = xi.desc := ⟨_, rfl⟩
                      rw [← hd'] at hb hint
                      clear hd'
                      cases d <;> first
                        | (simp at hb; done)
                        | (simp only [Builtin.append_, List.getElem?_toArray, List.getElem?_cons_zero, List.getElem?_cons_succ, Sem.run_bind, hu, Result.andThen_ok, run_size hT hi, hint, Sem.run_pure,
                            Bool.false_eq_true, if_false, hlen', Bool.not_false, if_true]
                           rw [if_pos hcap]
                           simp only [Sem.run_bind, f1 w rfl, Result.andThen_ok]
                           cases base <;> simp [Result.andThen])
                    · intro hcap old hold
                      simp only at hcap hold ⊢
                      obtain ⟨zv, i', hi', z1, z2, z3, _⟩ := zeroOf_run hT hz { w with drawn := w.drawn + 1 }
                      rw [hi] at hi'; cases hi'
                      have f1' := f1 { w with drawn := w.drawn + 1 } rfl
                      have hmm : ¬ (Builtin.nextslicecap (len + n) cap * i.info.bytes > 2 ^ 48) := by
                        have a1 := nextcap_le hcap
                        have a2 : Builtin.nextslicecap (len + n) cap * i.info.bytes ≤ (2 * (len + n) + 1000) * 65536 := Nat.mul_le_mul a1 (by omega)
                        have a3 : (2 * (len + n) + 1000) * 65536 ≤ 4195304 * 65536 := Nat.mul_le_mul_right _ (by omega)
                        have a4 : 4195304 * 65536 ≤ 2 ^ 48 := by decide
                        omega
                      have hnoi : ∀ q : Prop, ¬ (((len + n : Nat) : Int) > IntKind.i64.max ∧ q) := by
                        rintro q ⟨q, _⟩; rw [IntKind.max_i64] at q; omega
                      refine ⟨(Question.appendCap (len + n) cap e).cut (w.tape w.drawn (.appendCap (len + n) cap e)), e,
                        Builtin.zeroCells zv.cells ((Question.appendCap (len + n) cap e).cut (w.tape w.drawn (.appendCap (len + n) cap e)) - (len + n)), ?_, ?_, ?_⟩
                      · simp [Question.cut]
                      · rw [zeroCells_size, ← z3]
                        have := z2.length
                        simp at this; rw [this]
                      · obtain ⟨d, hd'⟩ : ∃ d, d = xi.desc := ⟨_, rfl⟩
                        rw [← hd'] at hb hint
                        clear hd'
                        have hforced : (Question.appendCap (len + n) cap e).forced = false := rfl
                        cases d <;> first
                          | (simp at hb; done)
                          | (simp only [Builtin.append_, List.getElem?_toArray, List.getElem?_cons_zero, List.getElem?_cons_succ, Sem.run_bind, hu, Result.andThen_ok, run_size hT hi, hint, Sem.run_pure,
                              Bool.false_eq_true, if_false, hlen', Bool.not_false, if_true]
                             rw [if_neg (by omega)]
                             simp only [Sem.run_bind, run_info hT hi, Result.andThen_ok]
                             rw [if_neg (hnoi _)]
                             simp only [Sem.run_bind, run_info hT hi, Result.andThen_ok]
                             rw [if_neg hmm]
                             simp only [Sem.run_bind, run_choose, hforced, Bool.false_eq_true, if_false, Result.andThen_ok, run_info hT hi, run_askRoom, hold, f1', z1, newRow, run_newObj, Sem.run_pure])
          · simp at hg

end Go.AM
