/- The abstract machine, part D: operations that touch no memory. No condition. -/
import Derived.Test.YtfnlfpodeoilgaaGreatDoorAmC
import Derived.Laws.StructEq
import Derived.Laws.Tables
import Derived.Laws.Slices
set_option linter.all false
noncomputable section
namespace Go.AM
open Go.RowKit (Below)

/-! Types. -/
structure TI where
  desc : TypeDesc
  info : TypeInfo
  zero : Option (List AV)
  plain : Bool

abbrev TT := Nat → Option TI

structure TI.Ok (P : Program) (t : TypeId) (i : TI) : Prop where
  desc : P.underlying t = some i.desc
  info : P.info? t = some i.info
  zero : ∀ l, i.zero = some l → ∃ z, i.info.zero = some z ∧ VRs (fun _ _ => none) l z.cells.toList ∧ (i.desc matches .struct _ | .array _ _) = (z matches .agg _)
  plain : i.plain = true → P.stoodInHeld t = false ∧ P.eqGuardType P.depth t = false

def TOk (P : Program) (T : TT) : Prop := ∀ t i, T t = some i → TI.Ok P t i

def TI.agg (i : TI) : Bool := match i.desc with
  | .struct _ | .array _ _ => true
  | _ => false

theorem noRen_le (ρ : Ren) : Ren.le (fun _ _ => none) ρ := fun _ _ _ h => by simp at h

section
variable {P : Program} {T : TT} (hT : TOk P T)
include hT

theorem run_und {t : TypeId} {i : TI} (h : T t = some i) (w : World) : (underlying t).run P w = .ok i.desc w := run_underlying (hT t i h).desc w
theorem run_info {t : TypeId} {i : TI} (h : T t = some i) (w : World) : (typeInfo t).run P w = .ok i.info w := by simp [typeInfo, (hT t i h).info]
theorem run_size {t : TypeId} {i : TI} (h : T t = some i) (w : World) : (sizeOf t).run P w = .ok i.info.size w := by simp [sizeOf, run_info hT h]
theorem run_isAgg {t : TypeId} {i : TI} (h : T t = some i) (w : World) : (isAgg t).run P w = .ok i.agg w := by
  simp only [isAgg, Sem.run_bind, run_und hT h, Result.andThen_ok, TI.agg]
  cases i.desc <;> rfl
theorem run_zero {t : TypeId} {i : TI} {l : List AV} (h : T t = some i) (hz : i.zero = some l) (w : World) :
    ∃ z, (zeroValue t).run P w = .ok z w ∧ VRs (fun _ _ => none) l z.cells.toList ∧ i.agg = (z matches .agg _) := by
  obtain ⟨z, h1, h2, h3⟩ := (hT t i h).zero l hz
  refine ⟨z, by simp [zeroValue, run_info hT h, h1], h2, ?_⟩
  rw [← h3]; unfold TI.agg; cases i.desc <;> rfl
end

/-! Constants. -/
def isNilL {α : Type} : List α → Bool
  | [] => true
  | _ => false

def absS : Value → Option AV
  | .bool b => some (.bool b)
  | .int k n => some (.int k n)
  | .string s => some (.str s)
  | .pointer none => some .nilp
  | .slice none l c => match l.beq 0 with
    | true => match c.beq 0 with
      | true => some .nils
      | false => none
    | false => none
  | .map none => some .nilm
  | .nilFunc => some .nilf
  | .nilIface => some .nili
  | .func (.func f) a b => match isNilL a.toList with
    | true => match isNilL b.toList with
      | true => some (.func (.func f) [] [])
      | false => none
    | false => none
  | _ => none

def absL : List Value → Option (List AV)
  | [] => some []
  | v :: vs => match absS v with
    | none => none
    | some x => match absL vs with
      | none => none
      | some xs => some (x :: xs)

def absV (v : Value) : Option AV :=
  match v with
  | .agg cs => match absL cs.toList with
    | none => none
    | some l => some (.agg l)
  | v => absS v

theorem absS_vr {ρ : Ren} {v : Value} {x : AV} (h : absS v = some x) : VR ρ x v := by
  unfold absS at h
  split at h
  · cases h; exact .bool _
  · cases h; exact .int _ _
  · cases h; exact .str _
  · cases h; exact .nilp
  · rename_i l c
    cases hl : l.beq 0 <;> rw [hl] at h <;> simp at h
    cases hc : c.beq 0 <;> rw [hc] at h <;> simp at h
    have := Nat.eq_of_beq_eq_true hl; have := Nat.eq_of_beq_eq_true hc
    subst_vars; exact .nils
  · cases h; exact .nilm
  · cases h; exact .nilf
  · cases h; exact .nili
  · rename_i f a b
    obtain ⟨a⟩ := a; obtain ⟨b⟩ := b
    cases a <;> simp [isNilL] at h
    cases b <;> simp [isNilL] at h
    subst h
    exact .func _ .nil .nil (fun l e => by cases e)
  · simp at h

theorem absL_vrs {ρ : Ren} : ∀ {vs : List Value} {xs : List AV}, absL vs = some xs → VRs ρ xs vs
  | [], xs, h => by simp [absL] at h; subst h; exact .nil
  | v :: vs, xs, h => by
    simp only [absL] at h
    cases h1 : absS v with
    | none => rw [h1] at h; simp at h
    | some x =>
      rw [h1] at h; simp only at h
      cases h2 : absL vs with
      | none => rw [h2] at h; simp at h
      | some l => rw [h2] at h; simp at h; subst h; exact .cons (absS_vr h1) (absL_vrs h2)

theorem absV_vr {ρ : Ren} {v : Value} {x : AV} (h : absV v = some x) : VR ρ x v := by
  unfold absV at h
  split at h
  · rename_i cs
    cases h1 : absL cs.toList with
    | none => rw [h1] at h; simp at h
    | some l => rw [h1] at h; simp at h; subst h; obtain ⟨cs⟩ := cs; exact .agg (absL_vrs h1)
  · exact absS_vr h

def opd (env : Tr AV) : Operand → Option AV
  | .tmp t => env.get t
  | .const v => absV v
  | .global g => some (.gptr g 0)
  | .func f => some (.func (.func f) [] [])

/-- What the operands are. -/
def OpdR (ρ : Ren) (env : Tr AV) (ev : Operand → Value) : Prop := ∀ x a, opd env x = some a → VR ρ a (ev x)

theorem EnvR.opdR {ρ : Ren} {env : Tr AV} {n : Nat} {tm : Array Value} (h : EnvR ρ env n tm) (ds : List Deferred) : OpdR ρ env (Act.eval ⟨tm, ds⟩) := by
  intro x a hx
  cases x with
  | tmp t =>
    obtain ⟨v, hv, hr⟩ := h.2 t a hx
    simp only [Act.eval, Array.getD_eq_getD_getElem?, hv]; exact hr
  | const v => exact absV_vr hx
  | global g => simp [opd] at hx; subst hx; exact .gptr g 0
  | func f => simp [opd] at hx; subst hx; exact .func _ .nil .nil (fun l e => by cases e)

/-! Numbers. -/
def ilt : Int → Int → Bool
  | .ofNat a, .ofNat b => a.blt b
  | .ofNat _, .negSucc _ => false
  | .negSucc _, .ofNat _ => true
  | .negSucc a, .negSucc b => b.blt a

theorem ilt_eq (a b : Int) : ilt a b = decide (a < b) := by
  rw [Bool.eq_iff_iff]
  cases a <;> cases b <;> simp [ilt, Nat.blt] <;> omega

def ieq : Int → Int → Bool
  | .ofNat a, .ofNat b => a.beq b
  | .negSucc a, .negSucc b => a.beq b
  | _, _ => false

theorem ieq_eq (a b : Int) : ieq a b = (a == b) := by
  rw [Bool.eq_iff_iff]
  cases a <;> cases b <;> simp [ieq] <;> omega

def lim : IntKind → Nat
  | .i8 => 128
  | .i16 => 32768
  | .i32 => 2147483648
  | .i64 => 9223372036854775808
  | .u8 => 256
  | .u16 => 65536
  | .u32 => 4294967296
  | .u64 => 18446744073709551616

def wrapF (k : IntKind) (n : Int) : Int :=
  match n with
  | .ofNat m => match m.blt (lim k) with
    | true => n
    | false => k.wrap n
  | .negSucc m => match k.signed with
    | true => match m.blt (lim k) with
      | true => n
      | false => k.wrap n
    | false => k.wrap n

theorem wrap_small (k : IntKind) (n : Int) (h0 : 0 ≤ n) (h1 : n < lim k) : k.wrap n = n := by
  cases k <;> simp [lim] at h1 <;> simp [IntKind.wrap, IntKind.signed, IntKind.bits] <;> omega

theorem wrap_smallneg (k : IntKind) (hk : k.signed = true) (n : Int) (h0 : n < 0) (h1 : -(lim k : Int) ≤ n) : k.wrap n = n := by
  cases k <;> simp [IntKind.signed] at hk <;> simp [lim] at h1 <;> simp [IntKind.wrap, IntKind.signed, IntKind.bits] <;> omega

theorem wrapF_eq (k : IntKind) (n : Int) : wrapF k n = k.wrap n := by
  unfold wrapF
  cases n with
  | ofNat m =>
    simp only
    cases h : m.blt (lim k) with
    | true =>
      simp only; symm
      refine wrap_small k _ (by simp) ?_
      simp [Nat.blt] at h
      show (m : Int) < (lim k : Int)
      omega
    | false => rfl
  | negSucc m =>
    simp only
    cases hk : k.signed with
    | false => rfl
    | true =>
      simp only
      cases h : m.blt (lim k) with
      | true =>
        simp only; symm
        refine wrap_smallneg k hk _ (by omega) ?_
        simp [Nat.blt] at h
        omega
      | false => rfl

def keq : IntKind → IntKind → Bool
  | .i64, .i64 | .u8, .u8 | .i32, .i32 | .u64, .u64 | .i8, .i8 | .i16, .i16 | .u16, .u16 | .u32, .u32 => true
  | _, _ => false
theorem keq_eq {a b : IntKind} (h : keq a b = true) : a = b := by cases a <;> cases b <;> first | rfl | simp [keq] at h

def aint (op : BinOp) (k : IntKind) (a b : Int) : Option AV :=
  match op with
  | .add => some (.int k (wrapF k (a.add b)))
  | .sub => some (.int k (wrapF k (a.sub b)))
  | .mul => some (.int k (wrapF k (a.mul b)))
  | .quo => match ieq b 0 with
    | true => none
    | false => some (.int k (wrapF k (a.tdiv b)))
  | .rem => match ieq b 0 with
    | true => none
    | false => some (.int k (a.tmod b))
  | .eql => some (.bool (ieq a b))
  | .neq => some (.bool (!(ieq a b)))
  | .lss => some (.bool (ilt a b))
  | .leq => some (.bool (!(ilt b a)))
  | .gtr => some (.bool (ilt b a))
  | .geq => some (.bool (!(ilt a b)))
  | .and => some (.int k (bits .and k a b))
  | .or => some (.int k (bits .or k a b))
  | .xor => some (.int k (bits .xor k a b))
  | .andNot => some (.int k (bits .andNot k a b))
  | _ => none

def ashift (op : BinOp) (k : IntKind) (a b : Int) : Option AV :=
  match ilt b 0 with
  | true => none
  | false => match op with
    | .shl => some (.int k (k.wrap (a * 2 ^ (min b.toNat k.bits))))
    | .shr => some (.int k (a.fdiv (2 ^ (min b.toNat k.bits))))
    | _ => none

/-! Equality. -/
def leqU : List UInt8 → List UInt8 → Bool
  | [], [] => true
  | a :: x, b :: y => match a.toNat.beq b.toNat with
    | true => leqU x y
    | false => false
  | _, _ => false
theorem leqU_eq : ∀ (x y : List UInt8), leqU x y = (x == y)
  | [], [] => rfl
  | [], _ :: _ => rfl
  | _ :: _, [] => rfl
  | a :: x, b :: y => by
    simp only [leqU, List.cons_beq_cons]
    cases h : a.toNat.beq b.toNat with
    | true => have := Nat.eq_of_beq_eq_true h; have e : a = b := UInt8.toNat_inj.1 this; simp [leqU_eq x y, e]
    | false =>
      have : (a == b) = false := by
        simp only [beq_eq_false_iff_ne]; rintro rfl; simp at h
      simp [this]
def seq8 (a b : ByteArray) : Bool := leqU a.data.toList b.data.toList
theorem seq8_eq (a b : ByteArray) : seq8 a b = (a.toList == b.toList) := by
  rw [ByteArray.toList_eq, ByteArray.toList_eq]; exact leqU_eq _ _
theorem seq8_beq (a b : ByteArray) : seq8 a b = (a == b) := by rw [seq8_eq, beq_toListBytes]

def isUnderscore (s : String) : Bool := s == "_"

/-- The part of an aggregate. -/
def apart (T : TT) (t : TypeId) (cs : List AV) (off : Nat) : Option AV :=
  match T t with
  | none => none
  | some i => match i.agg with
    | true => some (.agg ((cs.drop off).take i.info.size))
    | false => nth cs off

mutual
/-- Are two values of a type the same? -/
def aeq (T : TT) : Nat → TypeId → AV → AV → Option Bool
  | 0, _, _, _ => none
  | d + 1, t, x, y => match T t with
    | none => none
    | some i => match i.desc, x, y with
      | .bool, .bool a, .bool b => some (a == b)
      | .int _, .int k a, .int k' b => match keq k k' with
        | true => some (ieq a b)
        | false => none
      | .string, .str a, .str b => some (seq8 a b)
      | .pointer _, .nilp, .nilp => some true
      | .pointer _, .nilp, .ptr _ => some false
      | .pointer _, .ptr _, .nilp => some false
      | .slice _, .nils, .nils => some true
      | .slice _, .nils, .slice _ _ _ => some false
      | .slice _, .slice _ _ _, .nils => some false
      | .map _ _, .nilm, .nilm => some true
      | .map _ _, .nilm, .map _ => some false
      | .map _ _, .map _, .nilm => some false
      | .func _ _ _, .nilf, .nilf => some true
      | .func _ _ _, .nilf, .func _ _ _ => some false
      | .func _ _ _, .func _ _ _, .nilf => some false
      | .func _ _ _, .nilf, .yield _ => some false
      | .func _ _ _, .yield _, .nilf => some false
      | .struct fs, .agg xs, .agg ys => match i.plain with
        | true => aeqF T d xs ys fs.toList
        | false => none
      | _, _, _ => none
def aeqF (T : TT) : Nat → List AV → List AV → List Field → Option Bool
  | _, _, _, [] => some true
  | 0, _, _, _ :: _ => none
  | d + 1, xs, ys, f :: fs => match isUnderscore f.name with
    | true => aeqF T d xs ys fs
    | false => match apart T f.type xs f.offset with
      | none => none
      | some a => match apart T f.type ys f.offset with
        | none => none
        | some b => match aeq T d f.type a b with
          | none => none
          | some false => some false
          | some true => aeqF T d xs ys fs
end

section
variable {P : Program} {T : TT} (hT : TOk P T) {ρ : Ren}
include hT

theorem apart_run {t : TypeId} {cs : List AV} {us : List Value} {off : Nat} {x : AV} (hv : VRs ρ cs us) (h : apart T t cs off = some x) (w : World) :
    ∃ v, (part t ⟨us⟩ off).run P w = .ok v w ∧ VR ρ x v := by
  unfold apart at h
  cases ht : T t with
  | none => rw [ht] at h; simp at h
  | some i =>
    rw [ht] at h; simp only at h
    cases ha : i.agg with
    | true =>
      rw [ha] at h; simp only [Option.some.injEq] at h; subst h
      refine ⟨.agg ⟨(us.drop off).take i.info.size⟩, ?_, .agg ((hv.drop off).take _)⟩
      simp only [part, Sem.run_bind, run_isAgg hT ht, Result.andThen_ok, ha, if_true, run_size hT ht, Sem.run_pure, Sem.run_ite]
      congr 2
      apply Array.ext'
      simp
    | false =>
      rw [ha] at h; simp only at h
      rw [nth_eq] at h
      obtain ⟨v, hv', hr⟩ := hv.get _ _ h
      refine ⟨v, ?_, hr⟩
      simp [part, run_isAgg hT ht, ha, hv']

set_option maxHeartbeats 2000000
mutual
theorem aeq_run : ∀ (d : Nat) (D : Nat) (t : TypeId) (x y : AV) (u v : Value) (b : Bool), aeq T d t x y = some b → d ≤ D → VR ρ x u → VR ρ y v → ∀ w : World,
    (Op.equalIn D t u v).run P w = .ok b w
  | 0, _, _, _, _, _, _, _, h, _, _, _ => by simp [aeq] at h
  | d + 1, 0, _, _, _, _, _, _, _, hD, _, _ => by omega
  | d + 1, D + 1, t, x, y, u, v, b, h, hD, hx, hy => by
    intro w
    simp only [aeq] at h
    cases ht : T t with
    | none => rw [ht] at h; simp at h
    | some i =>
      rw [ht] at h; simp only at h
      have hu := (hT t i ht).desc
      cases hd : i.desc <;> rw [hd] at h hu <;> (try simp only at h) <;> (try (exact absurd h (by simp)))
      case bool =>
        cases hx <;> try simp at h
        cases hy <;> try simp at h
        subst h
        rw [run_equalIn_bool _ _ _ _ _ hu]
      case int k =>
        cases hx <;> try simp at h
        cases hy <;> try simp at h
        rename_i k₁ a k₂ b₂
        cases hk : keq k₁ k₂ <;> rw [hk] at h <;> simp at h
        subst h
        obtain rfl := keq_eq hk
        rw [run_equalIn_int _ _ _ _ _ _ _ hu, ieq_eq]
      case string =>
        cases hx <;> try simp at h
        cases hy <;> try simp at h
        subst h
        rw [run_equalIn_string _ _ _ _ _ hu, seq8_eq]
      case pointer e =>
        cases hx <;> (try simp at h) <;> cases hy <;> (try simp at h) <;> (try subst h) <;> simp [Op.equalIn, run_underlying hu]
      case slice e =>
        cases hx <;> (try simp at h) <;> cases hy <;> (try simp at h) <;> (try subst h) <;> simp [Op.equalIn, run_underlying hu]
      case map k e =>
        cases hx <;> (try simp at h) <;> cases hy <;> (try simp at h) <;> (try subst h) <;> simp [Op.equalIn, run_underlying hu]
      case func a b c =>
        cases hx <;> (try simp at h) <;> cases hy <;> (try simp at h) <;> (try subst h) <;> simp [Op.equalIn, run_underlying hu]
      case struct fs =>
        cases hx <;> try simp at h
        cases hy <;> try simp at h
        rename_i xs us hxs ys vs hys
        cases hp : i.plain <;> rw [hp] at h <;> simp at h
        have hfs : P.fieldsOf t = fs := by simp [Program.fieldsOf, hu]
        rw [run_equalIn_struct w D t ⟨us⟩ ⟨vs⟩ (by rw [hfs]; exact hu) ((hT t i ht).plain hp).1, hfs]
        exact aeqF_run d D xs ys us vs fs.toList b h (by omega) hxs hys w
theorem aeqF_run : ∀ (d D : Nat) (xs ys : List AV) (us vs : List Value) (fs : List Field) (b : Bool), aeqF T d xs ys fs = some b → d ≤ D → VRs ρ xs us → VRs ρ ys vs → ∀ w : World,
    (Op.eqFields D ⟨us⟩ ⟨vs⟩ fs).run P w = .ok b w
  | _, _, _, _, _, _, [], b, h, _, _, _ => by intro w; simp [aeqF] at h; subst h; simp [Op.eqFields]
  | 0, _, _, _, _, _, f :: fs, b, h, _, _, _ => by simp [aeqF] at h
  | d + 1, D, xs, ys, us, vs, f :: fs, b, h, hD, hx, hy => by
    intro w
    simp only [aeqF] at h
    cases hn : isUnderscore f.name with
    | true =>
      rw [hn] at h; simp only at h
      have hn' : f.name = "_" := by simpa [isUnderscore] using hn
      simp only [Op.eqFields, hn', ne_eq, not_true_eq_false, if_false]
      exact aeqF_run d D xs ys us vs fs b h (by omega) hx hy w
    | false =>
      rw [hn] at h; simp only at h
      have hn' : ¬ f.name = "_" := by simpa [isUnderscore] using hn
      cases ha : apart T f.type xs f.offset with
      | none => rw [ha] at h; simp at h
      | some a =>
        rw [ha] at h; simp only at h
        cases hb : apart T f.type ys f.offset with
        | none => rw [hb] at h; simp at h
        | some c =>
          rw [hb] at h; simp only at h
          obtain ⟨ua, hra, hva⟩ := apart_run hT hx ha w
          obtain ⟨uc, hrc, hvc⟩ := apart_run hT hy hb w
          cases he : aeq T d f.type a c with
          | none => rw [he] at h; simp at h
          | some r =>
            rw [he] at h
            have hr := aeq_run d D f.type a c ua uc r he (by omega) hva hvc w
            simp only [Op.eqFields, ne_eq, hn', not_false_eq_true, if_true, Sem.run_bind, hra, hrc, hr, Result.andThen_ok, Sem.run_ite]
            cases r with
            | false => simp at h; subst h; simp
            | true =>
              simp only at h
              simp only [Bool.not_true, Bool.false_eq_true, if_false]
              exact aeqF_run d D xs ys us vs fs b h (by omega) hx hy w
end
end

end Go.AM
