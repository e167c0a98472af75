/- The abstract machine, part A: trees keyed by numbers, abstract values, heap objects, and the renaming relation. No condition. -/
import Derived.Calls
import Derived.Defers
import Derived.Below
set_option linter.all false
noncomputable section
namespace Go.AM

/-! Trees keyed by numbers. -/
inductive Tr (α : Type) where
  | leaf : Tr α
  | node (l : Tr α) (v : Option α) (r : Tr α) : Tr α

variable {α : Type}

def Tr.root : Tr α → Option α
  | .leaf => none
  | .node _ v _ => v

def Tr.kid (b : Bool) : Tr α → Tr α
  | .leaf => .leaf
  | .node l _ r => match b with | true => l | false => r

def pathF : Nat → Nat → List Bool
  | 0, _ => []
  | f + 1, n => match n.beq 0 with
    | true => []
    | false => match (n % 2).beq 1 with
      | true => true :: pathF f (n / 2)
      | false => false :: pathF f (n / 2 - 1)

def path (n : Nat) : List Bool := pathF n n

def Tr.getP : List Bool → Tr α → Option α
  | [], t => t.root
  | b :: p, t => getP p (t.kid b)

/-- The path is laid whole before the tree is handed back. -/
def Tr.setP (v : α) : List Bool → Tr α → Tr α
  | [], t => match t with
    | .leaf => .node .leaf (some v) .leaf
    | .node l _ r => .node l (some v) r
  | b :: p, t => match b with
    | true => match setP v p (t.kid true) with
      | .leaf => .leaf
      | .node l x r => .node (.node l x r) t.root (t.kid false)
    | false => match setP v p (t.kid false) with
      | .leaf => .leaf
      | .node l x r => .node (t.kid true) t.root (.node l x r)

def Tr.getC (t : Tr α) (n : Nat) : Option α := t.getP (path n)
def Tr.setC (t : Tr α) (n : Nat) (v : α) : Tr α := t.setP v (path n)

/-- The same by bare recursors: these are read fast. -/
noncomputable def Tr.get (t : Tr α) (n : Nat) : Option α :=
  Tr.rec (motive := fun _ => Nat → Option α) (fun _ => none)
    (fun _ v _ gl gr n => Bool.rec (Bool.rec (gr (Nat.sub (Nat.div n 2) 1)) (gl (Nat.div n 2)) (Nat.beq (Nat.mod n 2) 1)) v (Nat.beq n 0)) t n

noncomputable def Tr.setR (v : α) (fuel : Nat) : Tr α → Nat → Tr α :=
  Nat.rec (motive := fun _ => Tr α → Nat → Tr α) (fun t _ => Tr.rec (.node .leaf (some v) .leaf) (fun l _ r _ _ => .node l (some v) r) t)
    (fun _ ih t n => Tr.rec (motive := fun _ => Tr α)
      (Bool.rec (Bool.rec (Tr.rec .leaf (fun a b c _ _ => .node .leaf none (.node a b c)) (ih .leaf (Nat.sub (Nat.div n 2) 1))) (Tr.rec .leaf (fun a b c _ _ => .node (.node a b c) none .leaf) (ih .leaf (Nat.div n 2))) (Nat.beq (Nat.mod n 2) 1)) (.node .leaf (some v) .leaf) (Nat.beq n 0))
      (fun l x r _ _ => Bool.rec (Bool.rec (Tr.rec .leaf (fun a b c _ _ => .node l x (.node a b c)) (ih r (Nat.sub (Nat.div n 2) 1))) (Tr.rec .leaf (fun a b c _ _ => .node (.node a b c) x r) (ih l (Nat.div n 2))) (Nat.beq (Nat.mod n 2) 1)) (.node l (some v) r) (Nat.beq n 0)) t) fuel
noncomputable def Tr.set (t : Tr α) (n : Nat) (v : α) : Tr α := Tr.setR v n t n

theorem pathF_fuel : ∀ (f g n : Nat), n ≤ f → n ≤ g → pathF f n = pathF g n
  | 0, 0, n, _, _ => rfl
  | 0, g + 1, n, h, _ => by
    obtain rfl : n = 0 := by omega
    simp [pathF]
  | f + 1, 0, n, _, h => by
    obtain rfl : n = 0 := by omega
    simp [pathF]
  | f + 1, g + 1, n, h, h' => by
    simp only [pathF]
    cases hb : n.beq 0 with
    | true => rfl
    | false =>
      have hn : n ≠ 0 := fun e => by subst e; simp at hb
      simp only
      rw [pathF_fuel f g (n / 2) (by omega) (by omega), pathF_fuel f g (n / 2 - 1) (by omega) (by omega)]

theorem Tr.getP_leaf : ∀ (p : List Bool), (Tr.leaf : Tr α).getP p = none
  | [] => rfl
  | _ :: p => by simp only [getP, kid]; exact getP_leaf p

theorem Tr.get_eq (t : Tr α) : ∀ n, t.get n = t.getP (path n) := by
  induction t with
  | leaf => intro n; rw [getP_leaf]; rfl
  | node l v r ihl ihr =>
    intro n
    have h0 : (Tr.node l v r).get n = Bool.rec (Bool.rec (r.get (Nat.sub (Nat.div n 2) 1)) (l.get (Nat.div n 2)) (Nat.beq (Nat.mod n 2) 1)) v (Nat.beq n 0) := rfl
    rw [h0]
    cases n with
    | zero => rfl
    | succ n =>
      have hb : Nat.beq (n + 1) 0 = false := rfl
      simp only [hb, path, pathF]
      cases hp : Nat.beq (Nat.mod (n + 1) 2) 1 with
      | true =>
        have hp' : ((n + 1) % 2).beq 1 = true := hp
        simp only [hp', getP, kid]
        rw [ihl, path]
        show getP (pathF ((n + 1) / 2) ((n + 1) / 2)) l = _
        rw [pathF_fuel ((n + 1) / 2) n ((n + 1) / 2) (Nat.le_refl _) (by omega)]
      | false =>
        have hp' : ((n + 1) % 2).beq 1 = false := hp
        simp only [hp', getP, kid]
        rw [ihr, path]
        show getP (pathF ((n + 1) / 2 - 1) ((n + 1) / 2 - 1)) r = _
        rw [pathF_fuel ((n + 1) / 2 - 1) n ((n + 1) / 2 - 1) (Nat.le_refl _) (by omega)]

theorem Tr.setR_eq (v : α) : ∀ (f n : Nat) (t : Tr α), Tr.setR v f t n = t.setP v (pathF f n)
  | 0, n, t => by cases t <;> rfl
  | f + 1, n, t => by
    simp only [pathF]
    cases hb : n.beq 0 with
    | true =>
      cases t with
      | leaf => show @Bool.rec (fun _ => Tr α) _ _ (Nat.beq n 0) = _; rw [hb]; rfl
      | node l x r => show @Bool.rec (fun _ => Tr α) _ _ (Nat.beq n 0) = _; rw [hb]; rfl
    | false =>
      have ih1 := Tr.setR_eq v f (n / 2)
      have ih2 := Tr.setR_eq v f (n / 2 - 1)
      cases hp : ((n % 2).beq 1) with
      | true =>
        have hp' : Nat.beq (Nat.mod n 2) 1 = true := hp
        cases t with
        | leaf =>
          show @Bool.rec (fun _ => Tr α) (@Bool.rec (fun _ => Tr α) _ (@Tr.rec α (fun _ => Tr α) _ _ (Tr.setR v f .leaf (n / 2))) (Nat.beq (Nat.mod n 2) 1)) _ (Nat.beq n 0) = _
          rw [hb, hp', ih1]; simp only [setP, kid, root]
          cases setP v (pathF f (n / 2)) leaf <;> rfl
        | node l x r =>
          show @Bool.rec (fun _ => Tr α) (@Bool.rec (fun _ => Tr α) _ (@Tr.rec α (fun _ => Tr α) _ _ (Tr.setR v f l (n / 2))) (Nat.beq (Nat.mod n 2) 1)) _ (Nat.beq n 0) = _
          rw [hb, hp', ih1]; simp only [setP, kid, root]
          cases setP v (pathF f (n / 2)) l <;> rfl
      | false =>
        have hp' : Nat.beq (Nat.mod n 2) 1 = false := hp
        cases t with
        | leaf =>
          show @Bool.rec (fun _ => Tr α) (@Bool.rec (fun _ => Tr α) (@Tr.rec α (fun _ => Tr α) _ _ (Tr.setR v f .leaf (n / 2 - 1))) _ (Nat.beq (Nat.mod n 2) 1)) _ (Nat.beq n 0) = _
          rw [hb, hp', ih2]; simp only [setP, kid, root]
          cases setP v (pathF f (n / 2 - 1)) leaf <;> rfl
        | node l x r =>
          show @Bool.rec (fun _ => Tr α) (@Bool.rec (fun _ => Tr α) (@Tr.rec α (fun _ => Tr α) _ _ (Tr.setR v f r (n / 2 - 1))) _ (Nat.beq (Nat.mod n 2) 1)) _ (Nat.beq n 0) = _
          rw [hb, hp', ih2]; simp only [setP, kid, root]
          cases setP v (pathF f (n / 2 - 1)) r <;> rfl

theorem Tr.set_eq (t : Tr α) (n : Nat) (v : α) : t.set n v = t.setP v (path n) := Tr.setR_eq v n n t

theorem Tr.get_compiled : @Tr.get = @Tr.getC := by funext α t n; exact Tr.get_eq t n
theorem Tr.set_compiled : @Tr.set = @Tr.setC := by funext α t n v; exact Tr.set_eq t n v

theorem Tr.setP_node (v : α) : ∀ (p : List Bool) (t : Tr α), ∃ l x r, t.setP v p = .node l x r
  | [], t => by cases t <;> exact ⟨_, _, _, rfl⟩
  | b :: p, t => by
    cases b
    · obtain ⟨l, x, r, h⟩ := Tr.setP_node v p (t.kid false)
      exact ⟨_, _, _, by simp only [setP, h]; rfl⟩
    · obtain ⟨l, x, r, h⟩ := Tr.setP_node v p (t.kid true)
      exact ⟨_, _, _, by simp only [setP, h]; rfl⟩

theorem Tr.kid_true (l r : Tr α) (v : Option α) : (Tr.node l v r).kid true = l := rfl
theorem Tr.kid_false (l r : Tr α) (v : Option α) : (Tr.node l v r).kid false = r := rfl

theorem Tr.getP_setP_same (v : α) : ∀ (p : List Bool) (t : Tr α), (t.setP v p).getP p = some v
  | [], t => by cases t <;> rfl
  | b :: p, t => by
    cases b
    · obtain ⟨l, x, r, h⟩ := Tr.setP_node v p (t.kid false)
      have ih := Tr.getP_setP_same v p (t.kid false)
      rw [h] at ih
      simp only [setP, h, getP, kid_false]; exact ih
    · obtain ⟨l, x, r, h⟩ := Tr.setP_node v p (t.kid true)
      have ih := Tr.getP_setP_same v p (t.kid true)
      rw [h] at ih
      simp only [setP, h, getP, kid_true]; exact ih

theorem Tr.getP_setP_other (v : α) : ∀ (p q : List Bool) (t : Tr α), p ≠ q → (t.setP v p).getP q = t.getP q
  | [], [], _, h => absurd rfl h
  | [], c :: q, t, _ => by cases t <;> cases c <;> rfl
  | b :: p, [], t, _ => by
    cases b
    · obtain ⟨l, x, r, h⟩ := Tr.setP_node v p (t.kid false)
      simp only [setP, h, getP, root]
    · obtain ⟨l, x, r, h⟩ := Tr.setP_node v p (t.kid true)
      simp only [setP, h, getP, root]
  | b :: p, c :: q, t, hne => by
    cases b
    · obtain ⟨l, x, r, h⟩ := Tr.setP_node v p (t.kid false)
      cases c
      · have ih := Tr.getP_setP_other v p q (t.kid false) (fun e => hne (by rw [e]))
        rw [h] at ih
        simp only [setP, h, getP, kid_false]; exact ih
      · simp only [setP, h, getP, kid_true]
    · obtain ⟨l, x, r, h⟩ := Tr.setP_node v p (t.kid true)
      cases c
      · simp only [setP, h, getP, kid_false]
      · have ih := Tr.getP_setP_other v p q (t.kid true) (fun e => hne (by rw [e]))
        rw [h] at ih
        simp only [setP, h, getP, kid_true]; exact ih

theorem pathF_inj : ∀ (f n g m : Nat), n ≤ f → m ≤ g → pathF f n = pathF g m → n = m
  | 0, n, g, m, hn, hm, h => by
    obtain rfl : n = 0 := by omega
    cases g with
    | zero => omega
    | succ g =>
      simp only [pathF] at h
      cases hb : m.beq 0 with
      | true => simpa using (Nat.eq_of_beq_eq_true hb).symm
      | false => rw [hb] at h; simp only at h; split at h <;> simp at h
  | f + 1, n, g, m, hn, hm, h => by
    simp only [pathF] at h
    cases hb : n.beq 0 with
    | true =>
      have hn0 : n = 0 := Nat.eq_of_beq_eq_true hb
      subst hn0
      cases g with
      | zero => omega
      | succ g =>
        simp only [pathF] at h
        cases hc : m.beq 0 with
        | true => simpa using (Nat.eq_of_beq_eq_true hc).symm
        | false => rw [hc] at h; simp at h; split at h <;> simp at h
    | false =>
      rw [hb] at h; simp only at h
      have hn0 : n ≠ 0 := fun e => by subst e; simp at hb
      cases g with
      | zero => simp only [pathF] at h; split at h <;> simp at h
      | succ g =>
        simp only [pathF] at h
        cases hc : m.beq 0 with
        | true => rw [hc] at h; simp only at h; split at h <;> simp at h
        | false =>
          rw [hc] at h; simp only at h
          have hm0 : m ≠ 0 := fun e => by subst e; simp at hc
          cases hp : (n % 2).beq 1 <;> cases hq : (m % 2).beq 1 <;> rw [hp, hq] at h <;> simp only at h
          · have e := pathF_inj f (n / 2 - 1) g (m / 2 - 1) (by omega) (by omega) (List.cons.inj h).2
            have h1 : n % 2 ≠ 1 := fun e => by rw [e] at hp; simp at hp
            have h2 : m % 2 ≠ 1 := fun e => by rw [e] at hq; simp at hq
            omega
          · simp at h
          · simp at h
          · have e := pathF_inj f (n / 2) g (m / 2) (by omega) (by omega) (List.cons.inj h).2
            have h1 : n % 2 = 1 := Nat.eq_of_beq_eq_true hp
            have h2 : m % 2 = 1 := Nat.eq_of_beq_eq_true hq
            omega

theorem path_inj {n m : Nat} (h : path n = path m) : n = m := pathF_inj _ _ _ _ (Nat.le_refl _) (Nat.le_refl _) h

theorem Tr.get_set_same (t : Tr α) (n : Nat) (v : α) : (t.set n v).get n = some v := by
  rw [Tr.get_eq, Tr.set_eq]; exact Tr.getP_setP_same v _ t
theorem Tr.get_set_other (t : Tr α) {n m : Nat} (v : α) (h : n ≠ m) : (t.set n v).get m = t.get m := by
  rw [Tr.get_eq, Tr.set_eq, Tr.get_eq]; exact Tr.getP_setP_other v _ _ t (fun e => h (path_inj e))
theorem Tr.get_set (t : Tr α) (n m : Nat) (v : α) : (t.set n v).get m = if n = m then some v else t.get m := by
  split
  · rename_i h; subst h; exact Tr.get_set_same ..
  · rename_i h; exact Tr.get_set_other _ _ h
theorem Tr.get_leaf (n : Nat) : (Tr.leaf : Tr α).get n = none := rfl

/-! Abstract addresses and values. -/
structure AA where
  id : Nat
  m : Nat
  off : Nat
  deriving DecidableEq, Inhabited

/-- The capacity of a slice: known, or what is behind it in its block (elements of so many cells), at least lb. -/
inductive Cap where
  | known (c : Nat)
  | unk (esz lb : Nat)
  deriving DecidableEq, Inhabited

inductive AV where
  | bool (b : Bool)
  | int (k : IntKind) (n : Int)
  | str (s : ByteArray)
  | nilp
  | ptr (a : AA)
  | gptr (g off : Nat)
  | nils
  | slice (a : AA) (len : Nat) (cap : Cap)
  | emp
  | nilm
  | map (id : Nat)
  | func (fn : Fn) (first captured : List AV)
  | yield (id : Nat)
  | nilf
  | nili
  | agg (cs : List AV)
  | tuple (vs : List AV)
  deriving Inhabited

/-- Where an abstract block (a member of a family) lies: the block, and how many elements it has room for. -/
abbrev Ren := Nat → Nat → Option (Nat × Nat)

mutual
inductive VR (ρ : Ren) : AV → Value → Prop
  | bool (b : Bool) : VR ρ (.bool b) (.bool b)
  | int (k : IntKind) (n : Int) : VR ρ (.int k n) (.int k n)
  | str (s : ByteArray) : VR ρ (.str s) (.string s)
  | nilp : VR ρ .nilp (.pointer none)
  | ptr {id m off b κ : Nat} (h : ρ id m = some (b, κ)) : VR ρ (.ptr ⟨id, m, off⟩) (.pointer (some ⟨b, off, none⟩))
  | gptr (g off : Nat) : VR ρ (.gptr g off) (.pointer (some ⟨g, off, none⟩))
  | nils : VR ρ .nils (.slice none 0 0)
  | sliceK {id m off b κ len c : Nat} (h : ρ id m = some (b, κ)) : VR ρ (.slice ⟨id, m, off⟩ len (.known c)) (.slice (some ⟨b, off, none⟩) len c)
  | sliceU {id m off b κ len esz lb : Nat} (h : ρ id m = some (b, κ)) (hll : len ≤ lb) (hl : off / esz + lb ≤ κ) (he : off % esz = 0) (hz : 0 < esz) :
      VR ρ (.slice ⟨id, m, off⟩ len (.unk esz lb)) (.slice (some ⟨b, off, none⟩) len (κ - off / esz))
  | emp (b off c : Nat) : VR ρ .emp (.slice (some ⟨b, off, none⟩) 0 c)
  | nilm : VR ρ .nilm (.map none)
  | map {id b κ : Nat} (h : ρ id 0 = some (b, κ)) : VR ρ (.map id) (.map (some b))
  | func (fn : Fn) {xs ys : List AV} {us vs : List Value} (h₁ : VRs ρ xs us) (h₂ : VRs ρ ys vs) (hf : ∀ l, fn ≠ .yield l) : VR ρ (.func fn xs ys) (.func fn ⟨us⟩ ⟨vs⟩)
  | yield {id b κ : Nat} (h : ρ id 0 = some (b, κ)) : VR ρ (.yield id) (.func (.yield b) #[] #[])
  | nilf : VR ρ .nilf .nilFunc
  | nili : VR ρ .nili .nilIface
  | agg {xs : List AV} {us : List Value} (h : VRs ρ xs us) : VR ρ (.agg xs) (.agg ⟨us⟩)
  | tuple {xs : List AV} {us : List Value} (h : VRs ρ xs us) : VR ρ (.tuple xs) (.tuple ⟨us⟩)
inductive VRs (ρ : Ren) : List AV → List Value → Prop
  | nil : VRs ρ [] []
  | cons {x : AV} {v : Value} {xs : List AV} {vs : List Value} (h : VR ρ x v) (t : VRs ρ xs vs) : VRs ρ (x :: xs) (v :: vs)
end

def Ren.le (ρ ρ' : Ren) : Prop := ∀ id m x, ρ id m = some x → ρ' id m = some x
theorem Ren.le.refl (ρ : Ren) : ρ.le ρ := fun _ _ _ h => h
theorem Ren.le.trans {a b c : Ren} (h : a.le b) (h' : b.le c) : a.le c := fun _ _ _ x => h' _ _ _ (h _ _ _ x)

mutual
theorem VR.mono {ρ ρ' : Ren} (hle : ρ.le ρ') : ∀ {x v}, VR ρ x v → VR ρ' x v
  | _, _, .bool b => .bool b
  | _, _, .int k n => .int k n
  | _, _, .str s => .str s
  | _, _, .nilp => .nilp
  | _, _, .ptr h => .ptr (hle _ _ _ h)
  | _, _, .gptr g o => .gptr g o
  | _, _, .nils => .nils
  | _, _, .sliceK h => .sliceK (hle _ _ _ h)
  | _, _, .sliceU h hll hl he hz => .sliceU (hle _ _ _ h) hll hl he hz
  | _, _, .emp b o c => .emp b o c
  | _, _, .nilm => .nilm
  | _, _, .map h => .map (hle _ _ _ h)
  | _, _, .func fn h₁ h₂ hf => .func fn (VRs.mono hle h₁) (VRs.mono hle h₂) hf
  | _, _, .yield h => .yield (hle _ _ _ h)
  | _, _, .nilf => .nilf
  | _, _, .nili => .nili
  | _, _, .agg h => .agg (VRs.mono hle h)
  | _, _, .tuple h => .tuple (VRs.mono hle h)
theorem VRs.mono {ρ ρ' : Ren} (hle : ρ.le ρ') : ∀ {xs vs}, VRs ρ xs vs → VRs ρ' xs vs
  | _, _, .nil => .nil
  | _, _, .cons h t => .cons (VR.mono hle h) (VRs.mono hle t)
end

theorem VRs.length {ρ : Ren} : ∀ {xs vs}, VRs ρ xs vs → xs.length = vs.length
  | _, _, .nil => rfl
  | _, _, .cons _ t => by simp [VRs.length t]

theorem VRs.get {ρ : Ren} : ∀ {xs : List AV} {vs : List Value}, VRs ρ xs vs → ∀ (i : Nat) (x : AV), xs[i]? = some x → ∃ v, vs[i]? = some v ∧ VR ρ x v
  | _, _, .nil, i, x, h => by simp at h
  | _, _, .cons hd tl, 0, x, h => by simp at h; subst h; exact ⟨_, rfl, hd⟩
  | _, _, .cons hd tl, i + 1, x, h => by simp at h; obtain ⟨v, hv, hr⟩ := VRs.get tl i x h; exact ⟨v, by simpa using hv, hr⟩

theorem VRs.append {ρ : Ren} : ∀ {xs vs ys us}, VRs ρ xs vs → VRs ρ ys us → VRs ρ (xs ++ ys) (vs ++ us)
  | _, _, _, _, .nil, h => h
  | _, _, _, _, .cons a t, h => .cons a (VRs.append t h)

theorem VRs.take {ρ : Ren} : ∀ {xs vs}, VRs ρ xs vs → ∀ n, VRs ρ (xs.take n) (vs.take n)
  | _, _, .nil, n => by simp; exact .nil
  | _, _, .cons a t, 0 => .nil
  | _, _, .cons a t, n + 1 => .cons a (VRs.take t n)

theorem VRs.drop {ρ : Ren} : ∀ {xs vs}, VRs ρ xs vs → ∀ n, VRs ρ (xs.drop n) (vs.drop n)
  | _, _, .nil, n => by simp; exact .nil
  | _, _, .cons a t, 0 => .cons a t
  | _, _, .cons a t, n + 1 => VRs.drop t n

theorem VRs.of_get {ρ : Ren} : ∀ {xs : List AV} {vs : List Value}, xs.length = vs.length → (∀ (i : Nat) (x : AV), xs[i]? = some x → ∃ v, vs[i]? = some v ∧ VR ρ x v) → VRs ρ xs vs
  | [], [], _, _ => .nil
  | [], _ :: _, h, _ => by simp at h
  | _ :: _, [], h, _ => by simp at h
  | x :: xs, v :: vs, h, g => by
    obtain ⟨v', hv, hr⟩ := g 0 x rfl
    simp at hv; subst hv
    exact .cons hr (VRs.of_get (by simpa using h) fun i x hx => by simpa using g (i + 1) x (by simpa using hx))

/-- The cells of a value. -/
def AV.cells : AV → List AV
  | .agg cs => cs
  | v => [v]

theorem VR.cells {ρ : Ren} {x : AV} {v : Value} (h : VR ρ x v) : VRs ρ x.cells v.cells.toList := by
  cases h with
  | agg h => exact h
  | _ => exact .cons (by constructor <;> assumption) .nil

/-- Is a value one cell's? -/
def AV.single : AV → Bool
  | .agg _ | .tuple _ => false
  | _ => true

end Go.AM
