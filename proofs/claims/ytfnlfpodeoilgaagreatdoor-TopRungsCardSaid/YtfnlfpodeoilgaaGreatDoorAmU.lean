/- The abstract machine, part U: regions that draw their order: what the plan's check says. No condition. -/
import Derived.Test.YtfnlfpodeoilgaaGreatDoorAmS
set_option linter.all false
noncomputable section
namespace Go.AM

theorem below_spec {n : Nat} {p : Nat → Bool} (h : below n p = true) : ∀ i, i < n → p i = true := by
  intro i hi
  exact List.all_eq_true.1 h i (List.mem_range.2 hi)

theorem binds_eq (e : Edge) : binds e = Region.binds .any e := by
  cases e with
  | mk on ground => cases ground <;> rfl

theorem nth_lt {α : Type} {l : List α} {i : Nat} {x : α} (h : nth l i = some x) : i < l.length := by
  rw [nth_eq] at h; exact (List.getElem?_eq_some_iff.1 h).1

/-- Operation `j` comes ahead of `i`. -/
def mb (ms : List Nat) (i j : Nat) : Prop := ∃ m, nth ms i = some m ∧ m.testBit j = true
def wr (all : List Oper) (j t : Nat) : Prop := ∃ p, nth all j = some p ∧ p.dst = some t

theorem dstAt_iff {all : List Oper} {j t : Nat} : dstAt all j t = true ↔ wr all j t := by
  unfold dstAt wr
  cases h : nth all j with
  | none => simp
  | some p =>
    simp only [Option.some.injEq, exists_eq_left']
    cases p.dst with
    | none => simp
    | some x => simp

theorem edgeMask_sound {ms : List Nat} {j : Nat} : ∀ (es : List Edge), (edgeMask ms es).testBit j = true → ∃ e ∈ es, binds e = true ∧ (j = e.on ∨ ∃ m, nth ms e.on = some m ∧ m.testBit j = true)
  | [], h => by simp [edgeMask] at h
  | e :: es, h => by
    simp only [edgeMask] at h
    have rest : (edgeMask ms es).testBit j = true → ∃ e' ∈ e :: es, binds e' = true ∧ (j = e'.on ∨ ∃ m, nth ms e'.on = some m ∧ m.testBit j = true) := fun hh => by
      obtain ⟨e', h1, h2⟩ := edgeMask_sound es hh
      exact ⟨e', List.mem_cons_of_mem _ h1, h2⟩
    cases hb : binds e <;> rw [hb] at h <;> simp only at h
    · exact rest h
    · cases hn : nth ms e.on with
      | none => rw [hn] at h; exact rest h
      | some m =>
        rw [hn] at h; simp only at h
        rw [Nat.testBit_or, Nat.testBit_or, Nat.testBit_two_pow] at h
        simp only [Bool.or_eq_true, decide_eq_true_eq] at h
        rcases h with (h | h) | h
        · exact ⟨e, List.mem_cons_self, hb, .inl h.symm⟩
        · exact ⟨e, List.mem_cons_self, hb, .inr ⟨m, hn, h⟩⟩
        · exact rest h

theorem masks_pre : ∀ (os : List Oper) (ms : List Nat) (i m : Nat), nth ms i = some m → nth (masks os ms) i = some m
  | [], ms, i, m, h => h
  | o :: os, ms, i, m, h => by
    simp only [masks]
    refine masks_pre os _ i m ?_
    rw [nth_eq] at h ⊢
    rw [List.getElem?_append_left (List.getElem?_eq_some_iff.1 h).1]; exact h

theorem masks_spec : ∀ (os : List Oper) (ms : List Nat) (i m : Nat), nth (masks os ms) i = some m → nth ms i = some m ∨ ∃ k o pre, i = ms.length + k ∧ nth os k = some o ∧ m = edgeMask pre o.after.toList ∧
    ∀ j m', nth pre j = some m' → nth (masks os ms) j = some m'
  | [], ms, i, m, h => .inl h
  | o :: os, ms, i, m, h => by
    simp only [masks] at h
    rcases masks_spec os _ i m h with h1 | ⟨k, o', pre, h1, h2, h3, h4⟩
    · by_cases hi : i < ms.length
      · rw [nth_eq] at h1; rw [List.getElem?_append_left hi] at h1
        exact .inl (by rw [nth_eq]; exact h1)
      · have hi' : i = ms.length := by have := nth_lt h1; simp at this; omega
        subst hi'
        rw [nth_eq] at h1; simp at h1
        exact .inr ⟨0, o, ms, rfl, rfl, h1.symm, fun j m' hj => masks_pre _ _ _ _ hj⟩
    · refine .inr ⟨k + 1, o', pre, by simp at h1; omega, ?_, h3, h4⟩
      rw [nth_eq] at h2 ⊢; simpa using h2

/-- What comes ahead comes by an edge. -/
theorem mb_edge {all : List Oper} {i j : Nat} {o : Oper} (ho : nth all i = some o) (h : mb (masks all []) i j) : ∃ e ∈ o.after.toList, binds e = true ∧ (j = e.on ∨ mb (masks all []) e.on j) := by
  obtain ⟨m, h1, h2⟩ := h
  rcases masks_spec all [] i m h1 with h3 | ⟨k, o', pre, h3, h4, h5, h6⟩
  · simp [nth] at h3
  · simp at h3; subst h3
    rw [ho] at h4; cases h4
    rw [h5] at h2
    obtain ⟨e, g1, g2, g3⟩ := edgeMask_sound _ h2
    refine ⟨e, g1, g2, ?_⟩
    rcases g3 with g3 | ⟨m', g3, g4⟩
    · exact .inl g3
    · exact .inr ⟨m', h6 _ _ g3, g4⟩

theorem sub_get {env : Tr AV} : ∀ {ts : List Nat} {t : Nat} {x : AV}, (sub env ts).get t = some x → env.get t = some x ∧ t ∈ ts
  | [], t, x, h => by rw [sub, Tr.get_leaf] at h; simp at h
  | t' :: ts, t, x, h => by
    simp only [sub] at h
    cases hx : env.get t' with
    | none => rw [hx] at h; have := sub_get h; exact ⟨this.1, List.mem_cons_of_mem _ this.2⟩
    | some y =>
      rw [hx] at h; simp only at h
      rw [Tr.get_set] at h
      split at h
      · rename_i he; subst he; simp at h; subst h; exact ⟨hx, List.mem_cons_self⟩
      · have := sub_get h; exact ⟨this.1, List.mem_cons_of_mem _ this.2⟩

theorem sameScalar_eq {x y : AV} (h : sameScalar x y = true) : x = y := by
  cases x <;> cases y <;> simp only [sameScalar] at h <;> try (first | rfl | (simp at h; done))
  · simp at h; subst h; rfl
  · split at h
    · rename_i hk; rw [ieq_eq] at h; simp at h; rw [keq_eq hk, h]
    · simp at h
  · rename_i a b
    rw [leqU_eq] at h
    have : a.data.toList = b.data.toList := by simpa using h
    have : a = b := by
      cases a; cases b; simp at this; rw [this]
    rw [this]
  · rename_i a b
    obtain ⟨i, m, o⟩ := a; obtain ⟨i', m', o'⟩ := b
    simp only at h
    split at h <;> try (simp at h; done)
    rename_i h1
    split at h <;> try (simp at h; done)
    rename_i h2
    rw [beq_iff.1 h1, beq_iff.1 h2, beq_iff.1 h]
  · split at h <;> try (simp at h; done)
    rename_i h1
    rw [beq_iff.1 h1, beq_iff.1 h]
  · rename_i a n c b m d
    obtain ⟨i, m1, o⟩ := a; obtain ⟨i', m1', o'⟩ := b
    simp only at h
    split at h <;> try (simp at h; done)
    rename_i h1
    split at h <;> try (simp at h; done)
    rename_i h2
    split at h <;> try (simp at h; done)
    rename_i h3
    split at h <;> try (simp at h; done)
    rename_i h4
    rw [beq_iff.1 h1, beq_iff.1 h2, beq_iff.1 h3, beq_iff.1 h4]
    congr 1
    cases c <;> cases d <;> simp only at h <;> try (simp at h; done)
    · rw [beq_iff.1 h]
    · split at h <;> try (simp at h; done)
      rename_i h5
      rw [beq_iff.1 h5, beq_iff.1 h]
  · rw [beq_iff.1 h]
  · rw [beq_iff.1 h]

theorem sameL_eq : ∀ {x y : List AV}, sameL x y = true → x = y
  | [], [], _ => rfl
  | [], _ :: _, h => by simp [sameL] at h
  | _ :: _, [], h => by simp [sameL] at h
  | x :: xs, y :: ys, h => by
    simp only [sameL] at h
    split at h <;> try (simp at h; done)
    rename_i h1
    rw [sameScalar_eq h1, sameL_eq h]

theorem sameFn_eq {f g : Fn} (h : sameFn f g = true) : f = g := by
  cases f <;> cases g <;> simp only [sameFn] at h <;> try (simp at h; done)
  rw [beq_iff.1 h]

theorem same1_eq {x y : AV} (h : same1 x y = true) : x = y := by
  unfold same1 at h
  split at h
  · split at h <;> try (simp at h; done)
    rename_i h1
    split at h <;> try (simp at h; done)
    rename_i h2
    rw [sameFn_eq h1, sameL_eq h2, sameL_eq h]
  · exact sameScalar_eq h

theorem same1L_eq : ∀ {x y : List AV}, same1L x y = true → x = y
  | [], [], _ => rfl
  | [], _ :: _, h => by simp [same1L] at h
  | _ :: _, [], h => by simp [same1L] at h
  | x :: xs, y :: ys, h => by
    simp only [same1L] at h
    split at h <;> try (simp at h; done)
    rename_i h1
    rw [same1_eq h1, same1L_eq h]

theorem sameAV_eq {x y : AV} (h : sameAV x y = true) : x = y := by
  unfold sameAV at h
  split at h
  · rw [same1L_eq h]
  · rw [same1L_eq h]
  · exact same1_eq h

/-- What the check of a plan says of the region. -/
structure Good (all : List Oper) : Prop where
  edge : ∀ i o e, nth all i = some o → e ∈ o.after.toList → binds e = true → e.on < i
  uniq : ∀ i j d, wr all i d → wr all j d → i = j
  slot : ∀ i o t j, nth all i = some o → t ∈ opSlots all o → wr all j t → mb (masks all []) i j ∨ mb (masks all []) j i ∨ j = i

theorem Good.of {all : List Oper} (h1 : edgesOk all = true) (h2 : slotsOk all (masks all []) = true) : Good all := by
  refine ⟨?_, ?_, ?_⟩
  · intro i o e ho he hb
    have := below_spec h1 i (nth_lt ho)
    rw [ho] at this; simp only at this
    have := List.all_eq_true.1 this e he
    rw [hb] at this
    exact blt_lt (by simpa using this)
  · intro i j d hi hj
    obtain ⟨p, hp, hd⟩ := hi
    have := below_spec h2 i (nth_lt hp)
    rw [hp] at this; simp only at this
    cases hm : nth (masks all []) i with
    | none => rw [hm] at this; simp at this
    | some m =>
      rw [hm, hd] at this; simp only [Bool.and_eq_true] at this
      obtain ⟨q, hq, _⟩ := id hj
      have := below_spec this.1 j (nth_lt hq)
      rw [dstAt_iff.2 hj] at this
      simp at this; exact this.symm
  · intro i o t j ho ht hj
    have := below_spec h2 i (nth_lt ho)
    rw [ho] at this; simp only at this
    cases hm : nth (masks all []) i with
    | none => rw [hm] at this; simp at this
    | some m =>
      rw [hm] at this; simp only [Bool.and_eq_true] at this
      obtain ⟨q, hq, _⟩ := id hj
      have := below_spec (List.all_eq_true.1 this.2 t ht) j (nth_lt hq)
      rw [dstAt_iff.2 hj] at this
      simp only [Bool.not_true, Bool.false_or, Bool.or_eq_true] at this
      rcases this with (h | h) | h
      · exact .inl ⟨m, hm, h⟩
      · exact .inr (.inr (beq_iff.1 h))
      · cases hmj : nth (masks all []) j with
        | none => rw [hmj] at h; simp at h
        | some mj => rw [hmj] at h; exact .inr (.inl ⟨mj, hmj, h⟩)

theorem sub_mask {m did : Nat} (h : (m &&& did).beq m = true) {j : Nat} (hj : m.testBit j = true) : did.testBit j = true := by
  have := beq_iff.1 h
  rw [← this, Nat.testBit_and] at hj
  simp at hj; exact hj.2

theorem bit_or {did q j : Nat} : (did ||| 2 ^ q).testBit j = true ↔ did.testBit j = true ∨ j = q := by
  rw [Nat.testBit_or, Nat.testBit_two_pow]
  simp only [Bool.or_eq_true, decide_eq_true_eq]
  exact ⟨fun h => h.elim .inl fun h => .inr h.symm, fun h => h.elim .inl fun h => .inr h.symm⟩
end Go.AM
