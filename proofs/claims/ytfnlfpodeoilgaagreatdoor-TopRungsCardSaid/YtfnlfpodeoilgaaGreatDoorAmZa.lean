/- The abstract machine, part Za: objects and states held against one another; what a state mentions, as a question. No condition. -/
import Derived.Test.YtfnlfpodeoilgaaGreatDoorAmZ
set_option linter.all false
noncomputable section
namespace Go.AM

mutual
def sameV : AV → AV → Bool
  | .func f a b, y => match y with
    | .func g c d => sameFn f g && (sameVs a c && sameVs b d)
    | _ => false
  | .agg a, y => match y with
    | .agg b => sameVs a b
    | _ => false
  | .tuple a, y => match y with
    | .tuple b => sameVs a b
    | _ => false
  | .emp, y => match y with
    | .emp => true
    | _ => false
  | x, y => sameScalar x y
def sameVs : List AV → List AV → Bool
  | [], y => match y with
    | [] => true
    | _ => false
  | x :: xs, y => match y with
    | y :: ys => match sameV x y with
      | true => sameVs xs ys
      | false => false
    | [] => false
end

mutual
theorem sameV_eq : ∀ {x y : AV}, sameV x y = true → x = y
  | .func f a b, y, h => by
    cases y <;> simp only [sameV] at h <;> try (simp at h; done)
    simp only [Bool.and_eq_true] at h
    rw [sameFn_eq h.1, sameVs_eq h.2.1, sameVs_eq h.2.2]
  | .agg a, y, h => by
    cases y <;> simp only [sameV] at h <;> try (simp at h; done)
    rw [sameVs_eq h]
  | .tuple a, y, h => by
    cases y <;> simp only [sameV] at h <;> try (simp at h; done)
    rw [sameVs_eq h]
  | .emp, y, h => by
    cases y <;> simp only [sameV] at h <;> try (simp at h; done)
    rfl
  | .bool a, y, h => sameScalar_eq (by simpa only [sameV] using h)
  | .int a b, y, h => sameScalar_eq (by simpa only [sameV] using h)
  | .str a, y, h => sameScalar_eq (by simpa only [sameV] using h)
  | .nilp, y, h => sameScalar_eq (by simpa only [sameV] using h)
  | .ptr a, y, h => sameScalar_eq (by simpa only [sameV] using h)
  | .gptr a b, y, h => sameScalar_eq (by simpa only [sameV] using h)
  | .nils, y, h => sameScalar_eq (by simpa only [sameV] using h)
  | .slice a b c, y, h => sameScalar_eq (by simpa only [sameV] using h)
  | .nilm, y, h => sameScalar_eq (by simpa only [sameV] using h)
  | .map a, y, h => sameScalar_eq (by simpa only [sameV] using h)
  | .yield a, y, h => sameScalar_eq (by simpa only [sameV] using h)
  | .nilf, y, h => sameScalar_eq (by simpa only [sameV] using h)
  | .nili, y, h => sameScalar_eq (by simpa only [sameV] using h)
theorem sameVs_eq : ∀ {x y : List AV}, sameVs x y = true → x = y
  | [], y, h => by cases y <;> simp [sameVs] at h; rfl
  | x :: xs, y, h => by
    cases y with
    | nil => simp [sameVs] at h
    | cons y ys =>
      simp only [sameVs] at h
      split at h
      · rename_i h1; rw [sameV_eq h1, sameVs_eq h]
      · simp at h
end

def sameTr {α : Type} (f : α → α → Bool) : Tr α → Tr α → Bool
  | .leaf, .leaf => true
  | .node l v r, .node l' v' r' => sameTr f l l' && (sameTr f r r' && match v, v' with
    | none, none => true
    | some x, some y => f x y
    | _, _ => false)
  | _, _ => false

theorem sameTr_eq {α : Type} {f : α → α → Bool} (hf : ∀ x y, f x y = true → x = y) : ∀ {a b : Tr α}, sameTr f a b = true → a = b
  | .leaf, .leaf, _ => rfl
  | .leaf, .node _ _ _, h => by simp [sameTr] at h
  | .node _ _ _, .leaf, h => by simp [sameTr] at h
  | .node l v r, .node l' v' r', h => by
    simp only [sameTr, Bool.and_eq_true] at h
    obtain ⟨h1, h2, h3⟩ := h
    rw [sameTr_eq hf h1, sameTr_eq hf h2]
    cases v <;> cases v' <;> simp at h3
    · rfl
    · rw [hf _ _ h3]

def sameNs : List Nat → List Nat → Bool
  | [], [] => true
  | x :: xs, y :: ys => x.beq y && sameNs xs ys
  | _, _ => false

theorem sameNs_eq : ∀ {x y : List Nat}, sameNs x y = true → x = y
  | [], [], _ => rfl
  | [], _ :: _, h => by simp [sameNs] at h
  | _ :: _, [], h => by simp [sameNs] at h
  | x :: xs, y :: ys, h => by
    simp only [sameNs, Bool.and_eq_true] at h
    rw [beq_iff.1 h.1, sameNs_eq h.2]

def sameEs : List (AV × AV × Nat) → List (AV × AV × Nat) → Bool
  | [], [] => true
  | x :: xs, y :: ys => sameV x.1 y.1 && (sameV x.2.1 y.2.1 && (x.2.2.beq y.2.2 && sameEs xs ys))
  | _, _ => false

theorem sameEs_eq : ∀ {x y : List (AV × AV × Nat)}, sameEs x y = true → x = y
  | [], [], _ => rfl
  | [], _ :: _, h => by simp [sameEs] at h
  | _ :: _, [], h => by simp [sameEs] at h
  | (a, b, n) :: xs, (a', b', n') :: ys, h => by
    simp only [sameEs, Bool.and_eq_true] at h
    obtain ⟨h1, h2, h3, h4⟩ := h
    rw [sameV_eq h1, sameV_eq h2, beq_iff.1 h3, sameEs_eq h4]

def sameO (x y : AO) : Bool :=
  match x, y with
  | .row a b t, .row a' b' t' => a.beq a' && (b.beq b' && sameTr sameVs t t')
  | .fam a b c t, .fam a' b' c' t' => a.beq a' && (b.beq b' && (c.beq c' && sameTr (fun p q => p.1.beq q.1 && sameVs p.2 q.2) t t'))
  | .mp es c, .mp es' c' => c.beq c' && sameEs es es'
  | .iter a b l c, .iter a' b' l' c' => a.beq a' && (b.beq b' && (c.beq c' && sameNs l l'))
  | _, _ => false

theorem sameO_eq {x y : AO} (h : sameO x y = true) : x = y := by
  unfold sameO at h
  split at h
  · simp only [Bool.and_eq_true] at h
    obtain ⟨h1, h2, h3⟩ := h
    rw [beq_iff.1 h1, beq_iff.1 h2, sameTr_eq (fun _ _ => sameVs_eq) h3]
  · simp only [Bool.and_eq_true] at h
    obtain ⟨h1, h2, h3, h4⟩ := h
    rw [beq_iff.1 h1, beq_iff.1 h2, beq_iff.1 h3, sameTr_eq (fun p q hpq => by
      simp only [Bool.and_eq_true] at hpq
      exact Prod.ext (beq_iff.1 hpq.1) (sameVs_eq hpq.2)) h4]
  · simp only [Bool.and_eq_true] at h
    rw [beq_iff.1 h.1, sameEs_eq h.2]
  · simp only [Bool.and_eq_true] at h
    obtain ⟨h1, h2, h3, h4⟩ := h
    rw [beq_iff.1 h1, beq_iff.1 h2, beq_iff.1 h3, sameNs_eq h4]
  · simp at h

def allTr {α : Type} (f : α → Bool) : Tr α → Bool
  | .leaf => true
  | .node l v r => allTr f l && (allTr f r && match v with
    | none => true
    | some x => f x)

theorem allTr_getP {α : Type} {f : α → Bool} : ∀ (p : List Bool) {t : Tr α} {x : α}, allTr f t = true → t.getP p = some x → f x = true
  | p, .leaf, x, _, h => by rw [Tr.getP_leaf] at h; simp at h
  | [], .node l v r, x, ha, h => by
    simp only [allTr, Bool.and_eq_true] at ha
    simp only [Tr.getP, Tr.root] at h
    subst h; exact ha.2.2
  | b :: p, .node l v r, x, ha, h => by
    simp only [allTr, Bool.and_eq_true] at ha
    cases b
    · exact allTr_getP p ha.2.1 (by simpa [Tr.getP, Tr.kid] using h)
    · exact allTr_getP p ha.1 (by simpa [Tr.getP, Tr.kid] using h)

def closedO (K : Nat → Bool) : AO → Bool
  | .row _ _ t => allTr (okVs K) t
  | .fam _ _ _ t => allTr (fun p => okVs K p.2) t
  | .mp es _ => es.all fun e => okV K e.1 && okV K e.2.1
  | .iter id _ _ _ => K id
  | _ => false

theorem closedO_spec {K : Nat → Bool} {o : AO} (h : closedO K o = true) : ClosedO K o := by
  cases o with
  | row a b t => exact fun i l hl => allTr_getP (path i) h (by rw [← Tr.get_eq]; exact hl)
  | fam a b c t =>
    intro i st l hl
    have h' : allTr (fun p : Nat × List AV => okVs K p.2) t = true := h
    exact allTr_getP (path i) h' (x := (st, l)) (by rw [← Tr.get_eq]; exact hl)
  | mp es c => exact fun e he => by simpa using List.all_eq_true.1 h e he
  | iter => exact h
  | loop => simp [closedO] at h
  | dfr => simp [closedO] at h
end Go.AM
