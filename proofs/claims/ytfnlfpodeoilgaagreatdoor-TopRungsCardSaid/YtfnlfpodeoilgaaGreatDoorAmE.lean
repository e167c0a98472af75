/- The abstract machine, part E: the operations that touch no memory, as the machine makes them. No condition. -/
import Derived.Test.YtfnlfpodeoilgaaGreatDoorAmD
set_option linter.all false
noncomputable section
namespace Go.AM
open Go.RowKit (Below)

theorem blt_lt {a b : Nat} (h : a.blt b = true) : a < b := by simp [Nat.blt] at h; omega
theorem blt_ge {a b : Nat} (h : a.blt b = false) : b ≤ a := by
  rcases Nat.lt_or_ge a b with h' | h'
  · have : a.blt b = true := by simp [Nat.blt]; omega
    rw [this] at h; simp at h
  · exact h'

def blt8 : List UInt8 → List UInt8 → Bool
  | _, [] => false
  | [], _ :: _ => true
  | a :: x, b :: y => match a.toNat.blt b.toNat with
    | true => true
    | false => match a.toNat.beq b.toNat with
      | true => blt8 x y
      | false => false
theorem blt8_eq : ∀ (x y : List UInt8), blt8 x y = Op.bytesLess x y
  | [], [] => rfl
  | _ :: _, [] => rfl
  | [], _ :: _ => rfl
  | a :: x, b :: y => by
    simp only [blt8, Op.bytesLess]
    cases h : a.toNat.blt b.toNat with
    | true => have : a < b := UInt8.lt_iff_toNat_lt.2 (blt_lt h); simp [this]
    | false =>
      have h := blt_ge h
      have h1 : ¬ a < b := fun h' => by have := UInt8.lt_iff_toNat_lt.1 h'; omega
      simp only [h1, decide_false, Bool.false_or]
      cases h2 : a.toNat.beq b.toNat with
      | true => have := Nat.eq_of_beq_eq_true h2; have e : a = b := UInt8.toNat_inj.1 this; simp [blt8_eq x y, e]
      | false =>
        have : (a == b) = false := by simp only [beq_eq_false_iff_ne]; rintro rfl; simp at h2
        simp [this]

def astr (op : BinOp) (x y : ByteArray) : Option AV :=
  match op with
  | .eql => some (.bool (seq8 x y))
  | .neq => some (.bool (!(seq8 x y)))
  | .lss => some (.bool (blt8 x.data.toList y.data.toList))
  | .leq => some (.bool (blt8 x.data.toList y.data.toList || seq8 x y))
  | .gtr => some (.bool (!(blt8 x.data.toList y.data.toList || seq8 x y)))
  | .geq => some (.bool (!(blt8 x.data.toList y.data.toList)))
  | .add => match (x.size + y.size).blt 9223372036854775808 with
    | true => some (.str (x ++ y))
    | false => none
  | _ => none

def abin (T : TT) (op : BinOp) (t : TypeId) (a b : AV) : Option AV :=
  match a, b with
  | .int k m, .int k' n => match op with
    | .shl => ashift .shl k m n
    | .shr => ashift .shr k m n
    | op => match keq k k' with
      | true => aint op k m n
      | false => none
  | .str x, .str y => astr op x y
  | a, b => match op with
    | .eql => match aeq T 60 t a b with
      | none => none
      | some r => some (.bool r)
    | .neq => match aeq T 60 t a b with
      | none => none
      | some r => some (.bool (!r))
    | _ => none

section
variable {P : Program} {T : TT} (hT : TOk P T) {ρ : Ren}
include hT

omit hT in
theorem aint_run (op : BinOp) (k : IntKind) (m n : Int) {x : AV} (h : aint op k m n = some x) (t : TypeId) (w : World) :
    ∃ r, (binOp op t (.int k m) (.int k n)).run P w = .ok r w ∧ VR ρ x r := by
  cases op <;> simp only [aint] at h
  case quo =>
    cases hz : ieq n 0 <;> rw [hz] at h <;> simp at h
    rw [ieq_eq] at hz; simp at hz; subst h
    exact ⟨_, by simp [binOp, Op.intDiv, hz, wrapF_eq] <;> rfl, .int _ _⟩
  case rem =>
    cases hz : ieq n 0 <;> rw [hz] at h <;> simp at h
    rw [ieq_eq] at hz; simp at hz; subst h
    exact ⟨_, by simp [binOp, Op.intDiv, hz] <;> rfl, .int _ _⟩
  case add => cases h; exact ⟨_, by simp [binOp, Op.intArith, wrapF_eq] <;> rfl, .int _ _⟩
  case sub => cases h; exact ⟨_, by simp [binOp, Op.intArith, wrapF_eq] <;> rfl, .int _ _⟩
  case mul => cases h; exact ⟨_, by simp [binOp, Op.intArith, wrapF_eq] <;> rfl, .int _ _⟩
  case eql => cases h; refine ⟨.bool (m == n), by simp [binOp, Op.intCmp], ?_⟩; rw [ieq_eq]; exact .bool _
  case neq => cases h; refine ⟨.bool (m != n), by simp [binOp, Op.intCmp], ?_⟩; rw [ieq_eq]; exact .bool _
  case lss => cases h; refine ⟨.bool (decide (m < n)), by simp [binOp, Op.intCmp], ?_⟩; rw [ilt_eq]; exact .bool _
  case leq => cases h; refine ⟨.bool (decide (m ≤ n)), by simp [binOp, Op.intCmp], ?_⟩; rw [ilt_eq, ← decide_not, show decide (¬ n < m) = decide (m ≤ n) from by simp [Int.not_lt]]; exact .bool _
  case gtr => cases h; refine ⟨.bool (decide (m > n)), by simp [binOp, Op.intCmp], ?_⟩; rw [ilt_eq]; exact .bool _
  case geq => cases h; refine ⟨.bool (decide (m ≥ n)), by simp [binOp, Op.intCmp], ?_⟩; rw [ilt_eq, ← decide_not, show decide (¬ m < n) = decide (m ≥ n) from by simp [Int.not_lt]]; exact .bool _
  case and => cases h; exact ⟨_, by rw [binOp_and, intBits_and]; rfl, .int _ _⟩
  case or => cases h; exact ⟨_, by rw [binOp_or, intBits_or]; rfl, .int _ _⟩
  case xor => cases h; exact ⟨_, by rw [binOp_xor, intBits_xor]; rfl, .int _ _⟩
  case andNot => cases h; exact ⟨_, by rw [binOp_andNot, intBits_andNot]; rfl, .int _ _⟩
  all_goals simp at h

theorem abin_gen {op : BinOp} {t : TypeId} {a b x : AV} {u v : Value} (ha : VR ρ a u) (hb : VR ρ b v) (ox oy : Operand) (w : World)
    (hne : ∀ k m, a ≠ .int k m ∨ ∀ k' n, b ≠ .int k' n) (hs : ∀ p, a ≠ .str p ∨ ∀ q, b ≠ .str q)
    (h : (match op with
        | .eql => match aeq T 60 t a b with
          | none => none
          | some r => some (AV.bool r)
        | .neq => match aeq T 60 t a b with
          | none => none
          | some r => some (AV.bool (!r))
        | _ => none) = some x) : ∃ r, (eqGuard op t ox oy u v >>= fun _ => binOp op t u v).run P w = .ok r w ∧ VR ρ x r := by
  have key : ∀ r, aeq T 60 t a b = some r → (Op.equal t u v).run P w = .ok r w ∧ (∀ op, (eqGuard op t ox oy u v).run P w = .ok () w) ∧
      (binOp .eql t u v = (do pure (.bool (← Op.equal t u v)))) ∧ (binOp .neq t u v = (do pure (.bool (!(← Op.equal t u v))))) := by
    intro r hr
    refine ⟨aeq_run hT 60 10000 t a b u v r hr (by omega) ha hb w, ?_, ?_, ?_⟩
    · intro op
      cases ha with
      | agg hx =>
        cases hb with
        | agg hy =>
          refine run_eqGuard_agg w op t ox oy _ _ ?_
          simp only [aeq] at hr
          cases ht : T t with
          | none => rw [ht] at hr; simp at hr
          | some i =>
            rw [ht] at hr; simp only at hr
            cases hp : i.plain with
            | true => exact ((hT t i ht).plain hp).2
            | false => cases hd : i.desc <;> rw [hd] at hr <;> simp [hp] at hr
        | _ => cases op <;> rfl
      | nili =>
        exfalso
        simp only [aeq] at hr
        cases ht : T t with
        | none => rw [ht] at hr; simp at hr
        | some i => rw [ht] at hr; simp only at hr; cases hd : i.desc <;> rw [hd] at hr <;> simp at hr
      | _ => cases op <;> rfl
    · cases ha <;> cases hb <;> first | rfl | (exact absurd rfl ((hne _ _).resolve_left (fun e => e rfl) _ _)) | (exact absurd rfl ((hs _).resolve_left (fun e => e rfl) _))
    · cases ha <;> cases hb <;> first | rfl | (exact absurd rfl ((hne _ _).resolve_left (fun e => e rfl) _ _)) | (exact absurd rfl ((hs _).resolve_left (fun e => e rfl) _))
  cases op <;> simp only at h <;> try (simp at h; done)
  · cases hr : aeq T 60 t a b with
    | none => rw [hr] at h; simp at h
    | some r =>
      rw [hr] at h; simp at h; subst h
      obtain ⟨h1, h2, h3, _⟩ := key r hr
      exact ⟨.bool r, by simp [h2, h3, h1], .bool _⟩
  · cases hr : aeq T 60 t a b with
    | none => rw [hr] at h; simp at h
    | some r =>
      rw [hr] at h; simp at h; subst h
      obtain ⟨h1, h2, _, h3⟩ := key r hr
      exact ⟨.bool (!r), by simp [h2, h3, h1], .bool _⟩

theorem abin_run {op : BinOp} {t : TypeId} {a b x : AV} {u v : Value} (h : abin T op t a b = some x) (ha : VR ρ a u) (hb : VR ρ b v) (ox oy : Operand) (w : World) :
    ∃ r, (eqGuard op t ox oy u v >>= fun _ => binOp op t u v).run P w = .ok r w ∧ VR ρ x r := by
  unfold abin at h
  split at h
  · rename_i k m k' n
    cases ha; cases hb
    have hg : ∀ op, eqGuard op t ox oy (.int k m) (.int k' n) = pure () := fun op => by cases op <;> rfl
    simp only [hg, pure_bind]
    cases op <;> simp only at h
    case shl =>
      unfold ashift at h
      cases hz : ilt n 0 <;> rw [hz] at h <;> simp at h
      rw [ilt_eq] at hz; simp at hz; subst h
      exact ⟨_, by simp [binOp, Op.shift, Int.not_lt.2 hz] <;> rfl, .int _ _⟩
    case shr =>
      unfold ashift at h
      cases hz : ilt n 0 <;> rw [hz] at h <;> simp at h
      rw [ilt_eq] at hz; simp at hz; subst h
      exact ⟨_, by simp [binOp, Op.shift, Int.not_lt.2 hz] <;> rfl, .int _ _⟩
    all_goals
      cases hk : keq k k' with
      | false => simp [hk] at h
      | true =>
        simp [hk] at h
        obtain rfl := keq_eq hk
        exact aint_run _ k m n h t w
  · rename_i p q
    cases ha; cases hb
    have hg : ∀ op, eqGuard op t ox oy (.string p) (.string q) = pure () := fun op => by cases op <;> rfl
    simp only [hg, pure_bind]
    have e1 := seq8_eq p q
    have e2 : blt8 p.data.toList q.data.toList = Op.bytesLess p.toList q.toList := by rw [blt8_eq, ByteArray.toList_eq, ByteArray.toList_eq]
    unfold astr at h
    rw [e1, e2] at h
    cases op <;> simp only at h <;> try (simp at h; done)
    case add =>
      cases hz : (p.size + q.size).blt 9223372036854775808 <;> rw [hz] at h <;> simp at h
      subst h
      simp [Nat.blt] at hz
      refine ⟨.string (p ++ q), ?_, .str _⟩
      simp only [binOp, Op.stringOp]
      rw [if_neg (by simp; omega)]; rfl
    all_goals (simp only [Option.some.injEq] at h; subst h; exact ⟨_, by simp only [binOp, Op.stringOp]; rfl, .bool _⟩)
  · rename_i hn1 hn2
    refine abin_gen hT ha hb ox oy w ?_ ?_ h
    · intro k m
      by_cases he : a = .int k m
      · right; rintro k' n rfl; exact hn1 _ _ _ _ he rfl
      · exact .inl he
    · intro p
      by_cases he : a = .str p
      · right; rintro q rfl; exact hn2 _ _ he rfl
      · exact .inl he
end

def aun (op : UnOp) (x : AV) : Option AV :=
  match op, x with
  | .not, .bool b => some (.bool (!b))
  | .neg, .int k n => some (.int k (wrapF k (Int.sub 0 n)))
  | .xor, .int k n => some (.int k (bits .xor k (if k.signed then -1 else k.max) n))
  | _, _ => none

theorem aun_run {P : Program} {ρ : Ren} {op : UnOp} {x y : AV} {u : Value} (h : aun op x = some y) (hx : VR ρ x u) (w : World) :
    ∃ r, (Op.unary op u).run P w = .ok r w ∧ VR ρ y r := by
  unfold aun at h
  split at h
  · cases hx; cases h; exact ⟨_, rfl, .bool _⟩
  · rename_i k n; cases hx; cases h; exact ⟨.int k (k.wrap (0 - n)), by simp [Op.unary, Op.intArith], by rw [wrapF_eq]; exact .int _ _⟩
  · cases hx; cases h; exact ⟨_, by simp only [Op.unary, intBits_xor] <;> rfl, .int _ _⟩
  · simp at h

def aconv (T : TT) (src dst : TypeId) (x : AV) : Option AV :=
  match T src with
  | none => none
  | some i => match T dst with
    | none => none
    | some j => match j.desc, x with
      | .int k, .int _ n => some (.int k (wrapF k n))
      | .string, .str s => match i.desc with
        | .string => some (.str s)
        | _ => none
      | _, _ => none

theorem aconv_run {P : Program} {T : TT} (hT : TOk P T) {ρ : Ren} {src dst : TypeId} {x y : AV} {u : Value} (h : aconv T src dst x = some y) (hx : VR ρ x u) (w : World) :
    ∃ r, (convert src dst u).run P w = .ok r w ∧ VR ρ y r := by
  unfold aconv at h
  cases hs : T src with
  | none => rw [hs] at h; simp at h
  | some i =>
    cases hd : T dst with
    | none => rw [hs, hd] at h; simp at h
    | some j =>
      rw [hs, hd] at h; simp only at h
      have h1 := run_und hT hs w
      have h2 := run_und hT hd w
      split at h
      · rename_i k _ n hj
        cases hx; cases h
        rw [hj] at h2
        refine ⟨.int k (wrapF k n), ?_, .int _ _⟩
        simp [convert, h1, h2, Conv.intToInt, wrapF_eq]
      · rename_i s hj
        cases hx
        split at h
        · rename_i hi
          cases h
          rw [hj] at h2
          rw [hi] at h1
          exact ⟨.string s, by simp [convert, h1, h2], .str _⟩
        · simp at h
      · simp at h

/-! Fields and elements. -/
def fieldOf (T : TT) (s : TypeId) (f : Nat) : Option (Nat × TypeId × TI) :=
  match T s with
  | none => none
  | some i => match i.desc with
    | .struct fs => match nth fs.toList f with
      | none => none
      | some fd => match T fd.type with
        | none => none
        | some j => some (fd.offset, fd.type, j)
    | _ => none

/-- A field's offset, if it has cells. -/
def fieldOff (T : TT) (s : TypeId) (f : Nat) : Option Nat :=
  match fieldOf T s f with
  | none => none
  | some (off, _, j) => match j.info.size.beq 0 with
    | true => none
    | false => some off

theorem fieldOf_spec {P : Program} {T : TT} (hT : TOk P T) {s f off : Nat} {t : TypeId} {j : TI} (h : fieldOf T s f = some (off, t, j)) :
    ∃ fs fd, (∀ w, (underlying s).run P w = .ok (.struct fs) w) ∧ fs[f]? = some fd ∧ fd.offset = off ∧ fd.type = t ∧ T t = some j := by
  unfold fieldOf at h
  cases hs : T s with
  | none => rw [hs] at h; simp at h
  | some i =>
    rw [hs] at h; simp only at h
    cases hd : i.desc <;> rw [hd] at h <;> simp only at h <;> try (simp at h; done)
    rename_i fs
    cases hn : nth fs.toList f with
    | none => rw [hn] at h; simp at h
    | some fd =>
      rw [hn] at h; simp only at h
      cases hj : T fd.type with
      | none => rw [hj] at h; simp at h
      | some j' =>
        rw [hj] at h; simp at h
        obtain ⟨rfl, rfl, rfl⟩ := h
        rw [nth_eq] at hn
        refine ⟨fs, fd, fun w => by rw [run_und hT hs, hd], by simpa using hn, rfl, rfl, hj⟩

def afieldAddr (T : TT) (s : TypeId) (f : Nat) (x : AV) : Option AV :=
  match fieldOff T s f with
  | none => none
  | some off => match x with
    | .ptr a => some (.ptr ⟨a.id, a.m, a.off + off⟩)
    | .gptr g o => some (.gptr g (o + off))
    | _ => none

theorem afieldAddr_run {P : Program} {T : TT} (hT : TOk P T) {ρ : Ren} {s f : Nat} {x y : AV} {u : Value} (h : afieldAddr T s f x = some y) (hx : VR ρ x u) (w : World) :
    ∃ r, (Instr.fieldAt s u f).run P w = .ok r w ∧ VR ρ y r := by
  unfold afieldAddr fieldOff at h
  cases hf : fieldOf T s f with
  | none => rw [hf] at h; simp at h
  | some q =>
    obtain ⟨off, t, j⟩ := q
    rw [hf] at h; simp only at h
    cases hz : j.info.size.beq 0 <;> rw [hz] at h <;> simp only at h
    · obtain ⟨fs, fd, h1, h2, h3, h4, h5⟩ := fieldOf_spec hT hf
      have hne : ¬ j.info.size = 0 := fun e => by rw [e] at hz; simp at hz
      have hsz := run_size hT h5
      subst h3 h4
      cases hx <;> simp only at h <;> try (simp at h; done)
      · rename_i id m o b κ hm
        cases h
        exact ⟨.pointer (some ⟨b, o + fd.offset, none⟩), by simp [Instr.fieldAt, h1, h2, Instr.sureAddr, fieldPlace, hsz, hne, Addr.add_spot], .ptr hm⟩
      · rename_i g o
        cases h
        exact ⟨.pointer (some ⟨g, o + fd.offset, none⟩), by simp [Instr.fieldAt, h1, h2, Instr.sureAddr, fieldPlace, hsz, hne, Addr.add_spot], .gptr _ _⟩
    · simp at h

def afield (T : TT) (s : TypeId) (f : Nat) (x : AV) : Option AV :=
  match fieldOf T s f with
  | none => none
  | some (off, t, _) => match x with
    | .agg cs => apart T t cs off
    | _ => none

theorem afield_run {P : Program} {T : TT} (hT : TOk P T) {ρ : Ren} {s f : Nat} {x y : AV} {u : Value} (h : afield T s f x = some y) (hx : VR ρ x u) (w : World) :
    ∃ r, (Instr.field s u f).run P w = .ok r w ∧ VR ρ y r := by
  unfold afield at h
  cases hf : fieldOf T s f with
  | none => rw [hf] at h; simp at h
  | some q =>
    obtain ⟨off, t, j⟩ := q
    rw [hf] at h; simp only at h
    obtain ⟨fs, fd, h1, h2, h3, h4, h5⟩ := fieldOf_spec hT hf
    subst h3 h4
    cases hx <;> simp only at h <;> try (simp at h; done)
    rename_i xs us hxs
    obtain ⟨v, hv, hr⟩ := apart_run hT hxs h w
    exact ⟨v, by simp [Instr.field, h1, h2, asAgg, hv], hr⟩

def anat (x : AV) : Option Nat :=
  match x with
  | .int _ (.ofNat n) => some n
  | _ => none

theorem anat_spec {ρ : Ren} {x : AV} {u : Value} {n : Nat} (h : anat x = some n) (hx : VR ρ x u) : ∃ k, u = .int k (n : Int) := by
  unfold anat at h
  split at h
  · cases h; cases hx; exact ⟨_, rfl⟩
  · simp at h

/-- The size of what a slice or an array is of. -/
def elemSize (T : TT) (e : TypeId) : Option Nat :=
  match T e with
  | none => none
  | some j => some j.info.size

def aindexAddr (T : TT) (t : TypeId) (x i : AV) : Option AV :=
  match anat i with
  | none => none
  | some n => match T t with
    | none => none
    | some ti => match ti.desc with
      | .slice e => match elemSize T e with
        | none => none
        | some sz => match x with
          | .slice a len _ => match n.blt len with
            | true => some (.ptr ⟨a.id, a.m, a.off + n * sz⟩)
            | false => none
          | _ => none
      | .array len e => match elemSize T e with
        | none => none
        | some sz => match n.blt len with
          | true => match x with
            | .ptr a => some (.ptr ⟨a.id, a.m, a.off + n * sz⟩)
            | .gptr g o => some (.gptr g (o + n * sz))
            | _ => none
          | false => none
      | _ => none

theorem elemSize_run {P : Program} {T : TT} (hT : TOk P T) {e sz : Nat} (h : elemSize T e = some sz) (w : World) : (sizeOf e).run P w = .ok sz w := by
  unfold elemSize at h
  cases he : T e with
  | none => rw [he] at h; simp at h
  | some j => rw [he] at h; simp at h; subst h; exact run_size hT he w

theorem aindexAddr_run {P : Program} {T : TT} (hT : TOk P T) {ρ : Ren} {t : TypeId} {x i y : AV} {u v : Value} (h : aindexAddr T t x i = some y) (hx : VR ρ x u) (hi : VR ρ i v)
    (w : World) : ∃ r, (Instr.indexAt t u v).run P w = .ok r w ∧ VR ρ y r := by
  unfold aindexAddr at h
  cases hn : anat i with
  | none => rw [hn] at h; simp at h
  | some n =>
    rw [hn] at h; simp only at h
    obtain ⟨k, rfl⟩ := anat_spec hn hi
    cases ht : T t with
    | none => rw [ht] at h; simp at h
    | some ti =>
      rw [ht] at h; simp only at h
      have hu := run_und hT ht w
      cases hd : ti.desc <;> rw [hd] at h hu <;> simp only at h <;> try (simp at h; done)
      · rename_i e
        cases hs : elemSize T e with
        | none => rw [hs] at h; simp at h
        | some sz =>
          rw [hs] at h; simp only at h
          have hsz := elemSize_run hT hs
          cases hx <;> simp only at h <;> try (simp at h; done)
          all_goals
            rename_i len _ _ 
          all_goals
            split at h <;> try (simp at h; done)
            rename_i hlt
            cases h
            simp [Nat.blt] at hlt
            refine ⟨_, ?_, .ptr (by assumption)⟩
            simp only [Instr.indexAt, asIntOf, Sem.run_bind, Sem.run_pure, Result.andThen_ok, hu]
            rw [if_pos ⟨by omega, by omega⟩]
            simp [hsz, Addr.add_spot] <;> rfl
      · rename_i len e
        cases hs : elemSize T e with
        | none => rw [hs] at h; simp at h
        | some sz =>
          rw [hs] at h; simp only at h
          have hsz := elemSize_run hT hs
          cases hlt : n.blt len <;> rw [hlt] at h <;> simp only at h
          · simp at h
          · simp [Nat.blt] at hlt
            cases hx <;> simp only at h <;> try (simp at h; done)
            · cases h
              refine ⟨_, ?_, .ptr (by assumption)⟩
              simp only [Instr.indexAt, asIntOf, Sem.run_bind, Sem.run_pure, Result.andThen_ok, hu, Instr.sureAddr]
              rw [if_pos ⟨by omega, by omega⟩]
              simp [hsz, Addr.add_spot] <;> rfl
            · cases h
              refine ⟨_, ?_, .gptr _ _⟩
              simp only [Instr.indexAt, asIntOf, Sem.run_bind, Sem.run_pure, Result.andThen_ok, hu, Instr.sureAddr]
              rw [if_pos ⟨by omega, by omega⟩]
              simp [hsz, Addr.add_spot]

end Go.AM
