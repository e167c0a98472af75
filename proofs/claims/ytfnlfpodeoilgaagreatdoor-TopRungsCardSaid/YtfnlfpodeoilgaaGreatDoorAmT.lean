/- The abstract machine, part T: tables of types and functions, out of a program's own constants. No condition. -/
import Derived.Test.YtfnlfpodeoilgaaGreatDoorAmN
import Derived.KernelRfl
set_option linter.all false
noncomputable section
namespace Go.AM

def TI.of (ti tu : TypeInfo) (plain : Bool) : TI :=
  { desc := tu.desc, info := ti, zero := match ti.zero with | some z => absL z.cells.toList | none => none, plain }

def TI.fits (ti tu : TypeInfo) : Bool :=
  match ti.zero with
  | none => true
  | some z => (match tu.desc with | .struct _ => true | .array _ _ => true | _ => false) == (match z with | .agg _ => true | _ => false)

theorem TI.of_ok {P : Program} {t : TypeId} {ti tu : TypeInfo} {plain : Bool} (h1' : P.types[t]? = some ti) (h2 : P.underlying t = some tu.desc) (h3 : TI.fits ti tu = true)
    (h4 : plain = true → P.stoodInHeld t = false ∧ P.eqGuardType P.depth t = false) : TI.Ok P t (TI.of ti tu plain) := by
  have h1 : P.info? t = some ti := by
    unfold Tables.info?
    rw [if_pos (Array.getElem?_eq_some_iff.1 h1').1, h1']
  refine ⟨h2, h1, ?_, h4⟩
  intro l hl
  unfold TI.of at hl
  simp only at hl
  unfold TI.fits at h3
  cases hz : ti.zero with
  | none => rw [hz] at hl; simp at hl
  | some z =>
    rw [hz] at hl h3
    simp only at hl h3
    refine ⟨z, hz, absL_vrs hl, ?_⟩
    simp only [beq_iff_eq] at h3
    clear hl hz
    simp only [TI.of]
    cases hd : tu.desc <;> rw [hd] at h3 <;> cases z <;> first | rfl | (simp at h3)

/-- A table. -/
def mkTr {α : Type} : List (Nat × α) → Tr α
  | [] => .leaf
  | (n, a) :: l => (mkTr l).set n a

theorem mkTr_mem {α : Type} : ∀ (l : List (Nat × α)) (n : Nat) (a : α), (mkTr l).get n = some a → (n, a) ∈ l
  | [], n, a, h => by simp [mkTr, Tr.get_leaf] at h
  | (m, b) :: l, n, a, h => by
    simp only [mkTr, Tr.get_set] at h
    split at h
    · rename_i he; simp at h; subst he h; simp
    · exact List.mem_cons_of_mem _ (mkTr_mem l n a h)

inductive AllOk {α : Type} (Q : Nat → α → Prop) : List (Nat × α) → Prop
  | nil : AllOk Q []
  | cons {n : Nat} {a : α} {l : List (Nat × α)} (h : Q n a) (t : AllOk Q l) : AllOk Q ((n, a) :: l)

theorem AllOk.of_mem {α : Type} {Q : Nat → α → Prop} : ∀ {l : List (Nat × α)}, AllOk Q l → ∀ n a, (n, a) ∈ l → Q n a
  | _, .nil, n, a, h => by simp at h
  | _, .cons h t, n, a, hm => by
    rcases List.mem_cons.1 hm with he | he
    · cases he; exact h
    · exact AllOk.of_mem t n a he

def FnOk (P : Program) (f : Nat) (fn : Func) : Prop := P.funcs[f]? = some fn ∧ (fn.name == "runtime.NumGoroutine") = false ∧ fn.body.isSome = true

def FOk (P : Program) (F : FT) : Prop := ∀ f fn, F f = some fn → FnOk P f fn

theorem TOk.of {P : Program} {l : List (Nat × TI)} (h : AllOk (TI.Ok P) l) : TOk P (fun t => (mkTr l).get t) := fun t i hi => h.of_mem t i (mkTr_mem l t i hi)
theorem FOk.of {P : Program} {l : List (Nat × Func)} (h : AllOk (FnOk P) l) : FOk P (fun t => (mkTr l).get t) := fun t i hi => h.of_mem t i (mkTr_mem l t i hi)

end Go.AM
