/- The abstract machine, part L: maps. No condition. -/
import Derived.Test.YtfnlfpodeoilgaaGreatDoorAmK
set_option linter.all false
noncomputable section
namespace Go.AM
open Go.RowKit (Below)

/-! Keys. -/
mutual
def keyOk (T : TT) : Nat → TypeId → AV → Bool
  | 0, _, _ => false
  | d + 1, t, x => match T t with
    | none => false
    | some i => match i.desc with
      | .int _ | .string | .bool => true
      | .struct fs => match x with
        | .agg xs => keyOkF T d xs fs.toList
        | _ => false
      | _ => false
def keyOkF (T : TT) : Nat → List AV → List Field → Bool
  | _, _, [] => true
  | 0, _, _ :: _ => false
  | d + 1, xs, f :: fs => match isUnderscore f.name with
    | true => keyOkF T d xs fs
    | false => match apart T f.type xs f.offset with
      | none => false
      | some a => match keyOk T d f.type a with
        | false => false
        | true => keyOkF T d xs fs
end

section
variable {P : Program} {T : TT} (hT : TOk P T) {ρ : Ren}
include hT

def ckF (empty : Bool) (n : Nat) (cs : Array Value) : List Field → Sem Unit
  | [] => pure ()
  | f :: fs => do
    if f.name ≠ "_" then
      let p ← part f.type cs f.offset
      Instr.checkKey empty n f.type p
    ckF empty n cs fs

omit hT in
theorem checkKey_struct (empty : Bool) (n : Nat) (t : TypeId) (fs : Array Field) (cs : Array Value) (w : World) (h : (underlying t).run P w = .ok (.struct fs) w) :
    (Instr.checkKey empty (n + 1) t (.agg cs)).run P w = (ckF empty n cs fs.toList).run P w := by
  simp only [Instr.checkKey, Sem.run_bind, h, Result.andThen_ok]
  rw [← Array.forIn_toList]
  generalize fs.toList = l
  clear h
  induction l generalizing w with
  | nil => simp [ckF]
  | cons f fs ih =>
    simp only [List.forIn_cons, ckF, Sem.run_bind, Sem.run_ite]
    split
    · generalize (part f.type cs f.offset).run P w = r1
      cases r1 with
      | ok a w1 =>
        simp only [Result.andThen_ok]
        generalize (Instr.checkKey empty n f.type a).run P w1 = r2
        cases r2 with
        | ok b w2 => simp only [Result.andThen_ok, Sem.run_pure]; exact ih w2
        | halt x w2 => simp [Result.andThen]
      | halt x w1 => simp [Result.andThen]
    · simp only [Sem.run_pure, Result.andThen_ok]; exact ih w

mutual
theorem keyOk_run (empty : Bool) : ∀ (d D : Nat) (t : TypeId) (x : AV) (u : Value), keyOk T d t x = true → d ≤ D → VR ρ x u → ∀ w : World,
    (Instr.checkKey empty D t u).run P w = .ok () w
  | 0, _, _, _, _, h, _, _ => by simp [keyOk] at h
  | d + 1, 0, _, _, _, _, hD, _ => by omega
  | d + 1, D + 1, t, x, u, h, hD, hx => by
    intro w
    simp only [keyOk] at h
    cases ht : T t with
    | none => rw [ht] at h; simp at h
    | some i =>
      rw [ht] at h; simp only at h
      have hu := run_und hT ht w
      cases hd : i.desc <;> rw [hd] at h hu <;> simp only at h <;> try (simp at h; done)
      case struct fs =>
        cases hx <;> simp only at h <;> try (simp at h; done)
        rename_i xs us hxs
        rw [checkKey_struct empty D t fs _ w hu]
        exact keyOkF_run empty d D xs us fs.toList h (by omega) hxs w
      all_goals (simp only [Instr.checkKey, Sem.run_bind, hu, Result.andThen_ok]; first | rfl | (split <;> simp_all))
theorem keyOkF_run (empty : Bool) : ∀ (d D : Nat) (xs : List AV) (us : List Value) (fs : List Field), keyOkF T d xs fs = true → d ≤ D → VRs ρ xs us → ∀ w : World,
    (ckF empty D ⟨us⟩ fs).run P w = .ok () w
  | _, _, _, _, [], _, _, _ => by intro w; simp [ckF]
  | 0, _, _, _, f :: fs, h, _, _ => by simp [keyOkF] at h
  | d + 1, D, xs, us, f :: fs, h, hD, hx => by
    intro w
    simp only [keyOkF] at h
    cases hn : isUnderscore f.name with
    | true =>
      rw [hn] at h; simp only at h
      have hn' : f.name = "_" := by simpa [isUnderscore] using hn
      simp only [ckF, hn', ne_eq, not_true_eq_false, if_false]
      have := keyOkF_run empty d D xs us fs h (by omega) hx w
      simpa using this
    | false =>
      rw [hn] at h; simp only at h
      have hn' : ¬ f.name = "_" := by simpa [isUnderscore] using hn
      cases ha : apart T f.type xs f.offset with
      | none => rw [ha] at h; simp at h
      | some a =>
        rw [ha] at h; simp only at h
        cases hk : keyOk T d f.type a <;> rw [hk] at h <;> simp only at h
        · simp at h
        · obtain ⟨ua, hra, hva⟩ := apart_run hT hx ha w
          have h1 := keyOk_run empty d D f.type a ua hk (by omega) hva w
          have h2 := keyOkF_run empty d D xs us fs h (by omega) hx w
          simp [ckF, hn', hra, h1, h2]
end
end

/-! Looking a key up. -/
def afind (T : TT) (kt : TypeId) (k : AV) : List (AV × AV × Nat) → Nat → Option (Option (Nat × AV))
  | [], _ => some none
  | (k', v, _) :: es, i => match aeq T 60 kt k k' with
    | none => none
    | some true => some (some (i, v))
    | some false => afind T kt k es (i + 1)

inductive FindR (ρ : Ren) : Option (Nat × AV) → Option (Nat × Value) → Prop
  | none : FindR ρ none none
  | some (i : Nat) {v : AV} {v' : Value} (h : VR ρ v v') : FindR ρ (some (i, v)) (some (i, v'))

section
variable {P : Program} {T : TT} (hT : TOk P T) {ρ : Ren}
include hT

theorem sameNow_eq {kt : TypeId} {i : TI} (ht : T kt = some i) {x y : AV} {u v : Value} {b b' : Bool} (h : aeq T 60 kt x y = some b) (hx : VR ρ x u) (hy : VR ρ y v)
    (hn : Instr.sameNow i.desc u v = some b') : b' = b := by
  simp only [aeq, ht] at h
  cases hd : i.desc <;> rw [hd] at h hn <;> try (simp only [Instr.sameNow] at hn; simp at hn; done)
  · cases hx <;> try (simp at h; done)
    cases hy <;> try (simp at h; done)
    simp at h
    simp [Instr.sameNow] at hn
    rw [← h, ← hn]
  · cases hx <;> try (simp at h; done)
    cases hy <;> try (simp at h; done)
    rename_i k a k' a'
    simp only at h
    cases hk : keq k k' <;> rw [hk] at h <;> simp at h
    obtain rfl := keq_eq hk
    simp [Instr.sameNow] at hn
    rw [← h, ← hn, ieq_eq] <;> rfl
  · cases hx <;> try (simp at h; done)
    cases hy <;> try (simp at h; done)
    simp at h
    simp [Instr.sameNow] at hn
    rw [← h, ← hn, seq8_beq] <;> rfl

theorem findNow_spec {kt : TypeId} {i : TI} (ht : T kt = some i) {k : AV} {u : Value} (hk : VR ρ k u) : ∀ (es : List (AV × AV × Nat)) (es' : List MapEntry) (n : Nat) (r : Option (Nat × AV)) (r' : Option (Nat × Value)),
    afind T kt k es n = some r → EntsR ρ es es' → Instr.findNow i.desc u es' n = some r' → FindR ρ r r'
  | [], _, n, r, r', h, .nil, hn => by simp [afind] at h; simp [Instr.findNow] at hn; subst h hn; exact .none
  | (k', v, b) :: es, _, n, r, r', h, .cons (.mk hk' hv) ht', hn => by
    simp only [afind] at h
    cases he : aeq T 60 kt k k' with
    | none => rw [he] at h; simp at h
    | some q =>
      rw [he] at h
      simp only [Instr.findNow] at hn
      split at hn
      · rename_i hs
        have := sameNow_eq hT ht he hk hk' hs
        subst this
        simp at h hn; subst h hn
        exact .some _ hv
      · rename_i hs
        have := sameNow_eq hT ht he hk hk' hs
        subst this
        exact findNow_spec ht hk es _ (n + 1) r r' h ht' hn
      · simp at hn

theorem findAsking_spec {kt : TypeId} {k : AV} {u : Value} (hk : VR ρ k u) (w : World) : ∀ (es : List (AV × AV × Nat)) (es' : List MapEntry) (n : Nat) (r : Option (Nat × AV)),
    afind T kt k es n = some r → EntsR ρ es es' → ∃ r', (Instr.findAsking kt u es' n).run P w = .ok r' w ∧ FindR ρ r r'
  | [], _, n, r, h, .nil => by simp [afind] at h; subst h; exact ⟨none, by simp [Instr.findAsking], .none⟩
  | (k', v, b) :: es, _, n, r, h, .cons (.mk hk' hv) ht' => by
    rename_i kk vv ess
    simp only [afind] at h
    cases he : aeq T 60 kt k k' with
    | none => rw [he] at h; simp at h
    | some q =>
      rw [he] at h
      have hr := aeq_run hT 60 10000 kt k k' u kk q he (by omega) hk hk' w
      cases q with
      | true =>
        simp at h; subst h
        exact ⟨_, by simp [Instr.findAsking, Op.equal, Op.maxDepth, hr] <;> rfl, .some _ hv⟩
      | false =>
        simp only at h
        obtain ⟨r', h1, h2⟩ := findAsking_spec hk w es _ (n + 1) r h ht'
        exact ⟨r', by simp [Instr.findAsking, Op.equal, Op.maxDepth, hr, h1], h2⟩

theorem findKey_run {kt : TypeId} {k : AV} {u : Value} (hk : VR ρ k u) {es : List (AV × AV × Nat)} {es' : List MapEntry} {r : Option (Nat × AV)}
    (h : afind T kt k es 0 = some r) (hE : EntsR ρ es es') {i : TI} (ht : T kt = some i) (w : World) : ∃ r', (Instr.findKey kt u es').run P w = .ok r' w ∧ FindR ρ r r' := by
  unfold Instr.findKey
  simp only [Sem.run_bind, run_und hT ht, Result.andThen_ok]
  cases hn : Instr.findNow i.desc u es' 0 with
  | none =>
    simp only
    exact findAsking_spec hT hk w es es' 0 r h hE
  | some r' => exact ⟨r', rfl, findNow_spec hT ht hk es es' 0 r r' h hE hn⟩
end

theorem EntsR.get {ρ : Ren} : ∀ {xs : List (AV × AV × Nat)} {es : List MapEntry}, EntsR ρ xs es → ∀ (i : Nat) (x : AV × AV × Nat), xs[i]? = some x → ∃ e, es[i]? = some e ∧ EntR ρ x e
  | _, _, .nil, i, x, h => by simp at h
  | _, _, .cons hd tl, 0, x, h => by simp at h; subst h; exact ⟨_, rfl, hd⟩
  | _, _, .cons hd tl, i + 1, x, h => by simp at h; obtain ⟨e, he, hr⟩ := EntsR.get tl i x h; exact ⟨e, by simpa using he, hr⟩

theorem EntsR.length {ρ : Ren} : ∀ {xs : List (AV × AV × Nat)} {es : List MapEntry}, EntsR ρ xs es → xs.length = es.length
  | _, _, .nil => rfl
  | _, _, .cons _ t => by simp [EntsR.length t]

theorem EntsR.append {ρ : Ren} : ∀ {xs : List (AV × AV × Nat)} {es : List MapEntry} {ys es2}, EntsR ρ xs es → EntsR ρ ys es2 → EntsR ρ (xs ++ ys) (es ++ es2)
  | _, _, _, _, .nil, h => h
  | _, _, _, _, .cons a t, h => .cons a (EntsR.append t h)

theorem afind_lt {T : TT} {kt : TypeId} {k : AV} : ∀ (es : List (AV × AV × Nat)) (n i : Nat) (v : AV), afind T kt k es n = some (some (i, v)) → n ≤ i ∧ ∃ k' b, es[i - n]? = some (k', v, b)
  | [], n, i, v, h => by simp [afind] at h
  | (k', v', b) :: es, n, i, v, h => by
    simp only [afind] at h
    cases he : aeq T 60 kt k k' with
    | none => rw [he] at h; simp at h
    | some q =>
      rw [he] at h
      cases q with
      | true => simp at h; obtain ⟨rfl, rfl⟩ := h; exact ⟨Nat.le_refl _, k', b, by simp⟩
      | false =>
        simp only at h
        obtain ⟨h1, k2, b2, h2⟩ := afind_lt es (n + 1) i v h
        refine ⟨by omega, k2, b2, ?_⟩
        have : i - n = (i - (n + 1)) + 1 := by omega
        rw [this]; simpa using h2

/-- An entry, written anew. -/
def setEnt : List (AV × AV × Nat) → Nat → AV → AV → List (AV × AV × Nat)
  | [], _, _, _ => []
  | (k', v', b) :: es, i, k, v => match i.beq 0 with
    | true => (k, v, b) :: es
    | false => (k', v', b) :: setEnt es (i - 1) k v

theorem setEnt_spec {ρ : Ren} {k v : AV} {k' v' : Value} (hk : VR ρ k k') (hv : VR ρ v v') : ∀ (es : List (AV × AV × Nat)) (es' : List MapEntry) (i : Nat), EntsR ρ es es' →
    EntsR ρ (setEnt es i k v) (es'.modify i fun e => { e with key := k', val := v' })
  | [], _, i, .nil => by cases i <;> exact .nil
  | (a, b, c) :: es, _, 0, .cons (.mk h1 h2) t => by simp only [setEnt, Nat.beq, List.modify_zero_cons]; exact .cons (.mk hk hv) t
  | (a, b, c) :: es, _, i + 1, .cons (.mk h1 h2) t => by
    simp only [setEnt, Nat.beq, List.modify_succ_cons, Nat.add_sub_cancel]
    exact .cons (.mk h1 h2) (setEnt_spec hk hv es _ i t)

def delEnt : List (AV × AV × Nat) → Nat → List (AV × AV × Nat)
  | [], _ => []
  | e :: es, i => match i.beq 0 with
    | true => es
    | false => e :: delEnt es (i - 1)

theorem delEnt_spec {ρ : Ren} : ∀ (es : List (AV × AV × Nat)) (es' : List MapEntry) (i : Nat), EntsR ρ es es' → EntsR ρ (delEnt es i) (es'.eraseIdx i)
  | [], _, i, .nil => by cases i <;> exact .nil
  | e :: es, _, 0, .cons h t => by simp only [delEnt, Nat.beq, List.eraseIdx_cons_zero]; exact t
  | e :: es, _, i + 1, .cons h t => by simp only [delEnt, Nat.beq, List.eraseIdx_cons_succ, Nat.add_sub_cancel]; exact .cons h (delEnt_spec es _ i t)

/-- Are two keys the same to the bit? -/
def kb0 : AV → AV → Bool
  | .bool a, .bool b => a == b
  | .int j a, .int k b => match keq j k with
    | true => ieq a b
    | false => false
  | .str a, .str b => seq8 a b
  | _, _ => false
def kbL : List AV → List AV → Bool
  | [], [] => true
  | x :: xs, y :: ys => match kb0 x y with
    | true => kbL xs ys
    | false => false
  | _, _ => false
def kb (x y : AV) : Bool := match x, y with
  | .agg xs, .agg ys => kbL xs ys
  | x, y => kb0 x y

theorem kb0_bits {ρ : Ren} {x y : AV} {u v : Value} (h : kb0 x y = true) (hx : VR ρ x u) (hy : VR ρ y v) (n : Nat) : Instr.sameBits n u v = true := by
  unfold kb0 at h
  split at h
  · cases hx; cases hy; cases n <;> simpa [Instr.sameBits] using h
  · rename_i j a k b
    cases hx; cases hy
    cases hk : keq j k <;> rw [hk] at h <;> simp at h
    obtain rfl := keq_eq hk
    rw [ieq_eq] at h; simp at h; subst h
    cases n <;> simp [Instr.sameBits]
  · cases hx; cases hy
    rw [seq8_beq] at h
    cases n <;> simpa [Instr.sameBits] using h
  · simp at h

theorem kbL_bits {ρ : Ren} (n : Nat) : ∀ {xs ys : List AV} {us vs : List Value}, kbL xs ys = true → VRs ρ xs us → VRs ρ ys vs →
    us.length = vs.length ∧ (us.zip vs).all (fun (x, y) => Instr.sameBits n x y) = true
  | [], [], _, _, _, .nil, .nil => ⟨rfl, rfl⟩
  | x :: xs, y :: ys, _, _, h, .cons hx hxs, .cons hy hys => by
    simp only [kbL] at h
    cases hb : kb0 x y <;> rw [hb] at h <;> simp only at h
    · simp at h
    · obtain ⟨h1, h2⟩ := kbL_bits n h hxs hys
      exact ⟨by simp [h1], by simp only [List.zip_cons_cons, List.all_cons, kb0_bits hb hx hy n, h2, Bool.and_self]⟩
  | [], _ :: _, _, _, h, _, _ => by simp [kbL] at h
  | _ :: _, [], _, _, h, _, _ => by simp [kbL] at h

theorem kb_bits {ρ : Ren} {x y : AV} {u v : Value} (h : kb x y = true) (hx : VR ρ x u) (hy : VR ρ y v) : Instr.sameBits 10000 u v = true := by
  unfold kb at h
  split at h
  · cases hx; cases hy
    rename_i hxs _ hys
    obtain ⟨h1, h2⟩ := kbL_bits 9999 h hxs hys
    show Instr.sameBits (9999 + 1) _ _ = true
    simp only [Instr.sameBits, Bool.and_eq_true, beq_iff_eq]
    exact ⟨by simpa using h1, by simpa using h2⟩
  · exact kb0_bits h hx hy 10000

theorem keyStays_run {P : Program} {ρ : Ren} {x y : AV} {u v : Value} (h : kb x y = true) (hx : VR ρ x u) (hy : VR ρ y v) (w : World) : (Instr.keyThatStays u v).run P w = .ok v w := by
  simp [Instr.keyThatStays, kb_bits h hx hy]

end Go.AM
