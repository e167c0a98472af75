/- What the row's listed variables give the run: the cells of both tables. No condition. -/
import Derived.Test.YtfnlfpodeoilgaaGreatDoorBase
import Derived.Test.YtfnlfpodeoilgaaGreatDoorRows
import Derived.OpenShut
import Derived.LaidLaws
set_option linter.all false
namespace Go.Proofs.YtfnlfpodeoilgaaGreatDoor
open Go Go.AM

section
variable {H : Type} {enc : TypeId × Value → H} {P : Program} {w : World} {base : Nat} {sp : Nat → Bool} {held : Bool}

/-- A datum that reads off just these cells. -/
def Says (enc : TypeId × Value → H) (P : Program) (w : World) (base : Nat) (sp : Nat → Bool) (held : Bool) (t : TypeId) (d : DataW H) (l : List Value) : Prop :=
  ∀ fuel cs p, DataW.trod enc P w base sp held fuel t cs = some (d, p) → cs = l

theorem says_int {t : TypeId} {k : IntKind} (ht : P.underlying t = some (.int k)) (n : Int) : Says enc P w base sp held t (.lit (.int k n)) [.int k n] := by
  intro fuel cs p h
  obtain ⟨m, rfl, he, _⟩ := DataW.trod_int ht h
  simp at he
  rw [he.1]

theorem says_str {t : TypeId} (ht : P.underlying t = some .string) (l : List UInt8) : Says enc P w base sp held t (.lit (.string l)) [.string ⟨⟨l⟩⟩] := by
  intro fuel cs p h
  obtain ⟨s, rfl, he, _⟩ := DataW.trod_string ht h
  simp at he
  rw [he.1]

inductive Parts (enc : TypeId × Value → H) (P : Program) (w : World) (base : Nat) (sp : Nat → Bool) (held : Bool) : List Field → Nat → List (DataW H) → List Value → Prop
  | nil (off : Nat) : Parts enc P w base sp held [] off [] []
  | cons {f : Field} {fs : List Field} {off : Nat} {d : DataW H} {ds : List (DataW H)} {l r : List Value} (h : Says enc P w base sp held f.type d l) (ho : f.offset = off) (hc : P.cellsOf f.type = l.length)
      (t : Parts enc P w base sp held fs (off + l.length) ds r) : Parts enc P w base sp held (f :: fs) off (d :: ds) (l ++ r)

theorem take_split (cs : List Value) (off a b : Nat) : (cs.drop off).take (a + b) = (cs.drop off).take a ++ (cs.drop (off + a)).take b := by
  rw [List.take_add, List.drop_drop]

theorem Parts.cells {cs : List Value} {m : Nat} {fs : List Field} {off : Nat} {ds : List (DataW H)} {l : List Value} (h : Parts enc P w base sp held fs off ds l) :
    ∀ xs : List (DataW H × List MemPlace), xs.map (·.1) = ds → (∀ (i : Nat) (f : Field), fs[i]? = some f → DataW.trod enc P w base sp held m f.type ((cs.drop f.offset).take (P.cellsOf f.type)) = xs[i]?) →
    (cs.drop off).take l.length = l := by
  induction h with
  | nil off => intro _ _ _; simp
  | @cons f fs off d ds l r hs ho hc t ih =>
    intro xs hx hf
    cases xs with
    | nil => simp at hx
    | cons x xs =>
      simp at hx
      obtain ⟨hx1, hx2⟩ := hx
      have h0 := hf 0 f rfl
      simp at h0
      obtain ⟨y, p⟩ := x
      simp at hx1; subst hx1
      have e1 := hs _ _ _ h0
      rw [ho, hc] at e1
      have e2 := ih xs hx2 fun i g hg => by simpa using hf (i + 1) g (by simpa using hg)
      rw [List.length_append, take_split, e1, e2]

theorem says_struct {t : TypeId} {fs : Array Field} (ht : P.underlying t = some (.struct fs)) {ds : List (DataW H)} {l : List Value} (h : Parts enc P w base sp held fs.toList 0 ds l) (hc : P.cellsOf t = l.length) :
    Says enc P w base sp held t (.agg ds) l := by
  intro fuel cs p hr
  obtain ⟨xs, m, _, hx, hl, _, hf⟩ := DataW.trod_struct ht hr
  simp at hx
  have := h.cells (m := m) (cs := cs) xs hx.1.symm (fun i f hi => hf i f (by simpa using hi))
  rw [List.drop_zero, List.take_of_length_le (by omega)] at this
  exact this

inductive Elems (enc : TypeId × Value → H) (P : Program) (w : World) (base : Nat) (sp : Nat → Bool) (held : Bool) (e : TypeId) (c : Nat) : List (DataW H) → List Value → Prop
  | nil : Elems enc P w base sp held e c [] []
  | cons {d : DataW H} {ds : List (DataW H)} {l r : List Value} (h : Says enc P w base sp held e d l) (hc : l.length = c) (t : Elems enc P w base sp held e c ds r) : Elems enc P w base sp held e c (d :: ds) (l ++ r)

theorem Elems.cells {cs : List Value} {m : Nat} {e : TypeId} {ds : List (DataW H)} {l : List Value} (h : Elems enc P w base sp held e (P.cellsOf e) ds l) :
    ∀ (k : Nat) (xs : List (DataW H × List MemPlace)), xs.map (·.1) = ds → (∀ (i : Nat), i < xs.length → DataW.trod enc P w base sp held m e ((cs.drop ((k + i) * P.cellsOf e)).take (P.cellsOf e)) = xs[i]?) →
    (cs.drop (k * P.cellsOf e)).take l.length = l := by
  induction h with
  | nil => intro _ _ _ _; simp
  | @cons d ds l r hs hc t ih =>
    intro k xs hx hf
    cases xs with
    | nil => simp at hx
    | cons x xs =>
      simp at hx
      obtain ⟨hx1, hx2⟩ := hx
      have h0 := hf 0 (by simp)
      simp at h0
      obtain ⟨y, p⟩ := x
      simp at hx1; subst hx1
      have e1 := hs _ _ _ h0
      have e2 := ih (k + 1) xs hx2 fun i hi => by
        have := hf (i + 1) (by simp; omega)
        rw [show k + (i + 1) = k + 1 + i by omega] at this
        simpa using this
      rw [List.length_append, take_split, hc, e1, show k * P.cellsOf e + P.cellsOf e = (k + 1) * P.cellsOf e by rw [Nat.add_mul, Nat.one_mul], e2]

theorem says_array {t e : TypeId} {n : Nat} (ht : P.underlying t = some (.array n e)) {ds : List (DataW H)} {l : List Value} (h : Elems enc P w base sp held e (P.cellsOf e) ds l) (hc : P.cellsOf t = l.length) :
    Says enc P w base sp held t (.agg ds) l := by
  intro fuel cs p hr
  obtain ⟨xs, m, _, hx, hl, hn, hf⟩ := DataW.trod_array ht hr
  simp at hx
  have := h.cells (m := m) (cs := cs) 0 xs hx.1.symm (fun i hi => by simpa using hf i (by omega))
  rw [Nat.zero_mul, List.drop_zero, List.take_of_length_le (by omega)] at this
  exact this
end

abbrev Sy (w : World) := @Says Unit (fun _ => ()) Tryz.prog w 0 (fun _ => true) false

theorem says_need (w : World) (a b : Int) : Sy w 255 (.agg [.lit (.int .i64 a), .lit (.int .i64 b)]) [.int .i64 a, .int .i64 b] :=
  says_struct (ds := [.lit (.int .i64 a), .lit (.int .i64 b)]) (l := [.int .i64 a] ++ ([.int .i64 b] ++ [])) Tryz.underlying255
    (.cons (says_int (by kernel_rfl) a) rfl (by kernel_rfl) (.cons (says_int (by kernel_rfl) b) rfl (by kernel_rfl) (.nil _))) (by kernel_rfl)

theorem says_rules (w : World) (s : List UInt8) (a b c d e f g h i : Int) :
    Sy w 257 (.agg [.lit (.string s), .agg [.lit (.int .i64 a), .lit (.int .i64 b)], .agg [.lit (.int .i64 c), .lit (.int .i64 d)], .agg [.lit (.int .i64 e), .lit (.int .i64 f)], .agg [.lit (.int .i64 g), .lit (.int .i64 h)], .lit (.int .i64 i)])
      [.string ⟨⟨s⟩⟩, .int .i64 a, .int .i64 b, .int .i64 c, .int .i64 d, .int .i64 e, .int .i64 f, .int .i64 g, .int .i64 h, .int .i64 i] :=
  says_struct (l := [.string ⟨⟨s⟩⟩] ++ ([.int .i64 a, .int .i64 b] ++ ([.int .i64 c, .int .i64 d] ++ ([.int .i64 e, .int .i64 f] ++ ([.int .i64 g, .int .i64 h] ++ ([.int .i64 i] ++ [])))))) Tryz.underlying257
    (.cons (says_str (by kernel_rfl) s) rfl (by kernel_rfl) (.cons (says_need w a b) rfl (by kernel_rfl) (.cons (says_need w c d) rfl (by kernel_rfl) (.cons (says_need w e f) rfl (by kernel_rfl)
      (.cons (says_need w g h) rfl (by kernel_rfl) (.cons (says_int (by kernel_rfl) i) rfl (by kernel_rfl) (.nil _))))))) (by kernel_rfl)

theorem c257 : Tryz.prog.cellsOf 257 = 10 := by kernel_rfl
theorem c5 : Tryz.prog.cellsOf 5 = 1 := by kernel_rfl

/-- The row's list gives the run its globals. -/
theorem gg_of_laid {W : World} (h : laidMet Tryz.prog Rows.topRungsRow.laid W) : ∀ g l, gg g = some l →
    ∃ cs e fz, W.heap[g]? = some (.cells cs e fz) ∧ ∀ (j : Nat) (x : AV), l[j]? = some x → ∃ v, cs[j]? = some v ∧ VR (fun _ _ => none) x v := by
  obtain ⟨ps, ⟨g1, t1, cs1, fu1, p1, q1, hg1, ht1, hv1, hd1, ⟨g2, t2, cs2, fu2, p2, q2, hg2, ht2, hv2, hd2, _, _⟩, _⟩, _⟩ := h
  have e1 : Tryz.prog.globalNamed "ratline/mode.against" = some 1 := by kernel_rfl
  have e2 : Tryz.prog.globalNamed "ratline/protocol.levels" = some 0 := by kernel_rfl
  have f1 : (Tryz.prog.globals[1]?).map (·.type) = some 333 := by kernel_rfl
  have f2 : (Tryz.prog.globals[0]?).map (·.type) = some 293 := by kernel_rfl
  obtain rfl := Option.some.inj (e1.symm.trans hg1)
  obtain rfl := Option.some.inj (f1.symm.trans ht1)
  obtain rfl := Option.some.inj (e2.symm.trans hg2)
  obtain rfl := Option.some.inj (f2.symm.trans ht2)
  have hu8 : ∀ n : Int, @Says Unit (fun _ => ()) Tryz.prog W 0 (fun _ => true) false 5 (.lit (.int .u8 n)) [.int .u8 n] := fun n => says_int (by kernel_rfl) n
  have s1 : Sy W 333 Rows.laid_ratline_mode_against [.int .u8 0, .int .u8 64, .int .u8 120, .int .u8 84, .int .u8 124, .int .u8 116, .int .u8 126] :=
    says_array (l := [.int .u8 0] ++ ([.int .u8 64] ++ ([.int .u8 120] ++ ([.int .u8 84] ++ ([.int .u8 124] ++ ([.int .u8 116] ++ ([.int .u8 126] ++ []))))))) Tryz.underlying333
      (.cons (hu8 _) (by rw [c5]; rfl) (.cons (hu8 _) (by rw [c5]; rfl) (.cons (hu8 _) (by rw [c5]; rfl) (.cons (hu8 _) (by rw [c5]; rfl) (.cons (hu8 _) (by rw [c5]; rfl) (.cons (hu8 _) (by rw [c5]; rfl) (.cons (hu8 _) (by rw [c5]; rfl) .nil))))))) (by kernel_rfl)
  have s2 := says_array (enc := fun _ => ()) (w := W) (base := 0) (sp := fun _ => true) (held := false) Tryz.underlying293
      (.cons (says_rules W [] 0 0 0 0 0 0 0 0 0) (by rw [c257]; rfl) (.cons (says_rules W [80, 76, 45, 49] 0 0 0 0 0 0 5 2 0) (by rw [c257]; rfl) (.cons (says_rules W [80, 76, 45, 50] 3 1 0 0 3 1 5 2 1) (by rw [c257]; rfl)
        (.cons (says_rules W [80, 76, 45, 67, 83] 3 1 0 0 3 2 5 2 1) (by rw [c257]; rfl) (.cons (says_rules W [80, 76, 45, 50, 46, 57, 57] 3 3 3 3 3 3 5 3 1) (by rw [c257]; rfl)
          (.cons (says_rules W [80, 76, 45, 51] 3 3 3 3 3 3 5 3 3) (by rw [c257]; rfl) .nil)))))) (by kernel_rfl)
  have c1 := s1 _ _ _ hd1
  have c2 := s2 _ _ _ hd2
  have cell : ∀ {name : String} {g : Nat} {cs : Array Value}, Tryz.prog.globalNamed name = some g → W.var? Tryz.prog name = some cs → ∃ e fz, W.heap[g]? = some (.cells cs e fz) := by
    intro name g cs hg hv
    unfold World.var? at hv
    rw [hg] at hv
    simp only [Option.bind_some] at hv
    split at hv
    · rename_i c e fz hh; simp at hv; subst hv; exact ⟨e, fz, hh⟩
    · simp at hv
  intro g l hl
  unfold gg at hl
  split at hl
  · rename_i hb
    obtain rfl : g = 1 := beq_iff.1 hb
    simp at hl; subst hl
    obtain ⟨e, fz, hh⟩ := cell hg1 hv1
    have hvr : VRs (fun _ _ => none) gAgainst cs1.toList := absL_vrs (by rw [c1]; kernel_rfl)
    exact ⟨cs1, e, fz, hh, fun j x hx => by obtain ⟨v, hv, hr⟩ := hvr.get j x hx; exact ⟨v, by simpa using hv, hr⟩⟩
  · split at hl
    · rename_i hb
      obtain rfl : g = 0 := beq_iff.1 hb
      simp at hl; subst hl
      obtain ⟨e, fz, hh⟩ := cell hg2 hv2
      have hvr : VRs (fun _ _ => none) gLevels cs2.toList := absL_vrs (by rw [c2]; kernel_rfl)
      exact ⟨cs2, e, fz, hh, fun j x hx => by obtain ⟨v, hv, hr⟩ := hvr.get j x hx; exact ⟨v, by simpa using hv, hr⟩⟩
    · simp at hl
end Go.Proofs.YtfnlfpodeoilgaaGreatDoor
