/- The abstract machine, part K: copy, clear, maps. No condition. -/
import Derived.Test.YtfnlfpodeoilgaaGreatDoorAmJ
set_option linter.all false
noncomputable section
namespace Go.AM
open Go.RowKit (Below)

def acopy (T : TT) (s : St) (dt : TypeId) (d x : AV) : Option (AV × St) :=
  match T dt with
  | none => none
  | some ti => match ti.desc with
    | .slice e => match elemSize T e with
      | none => none
      | some sz => match lenA x with
        | none => none
        | some k => match d with
          | .nils => match firstA s sz 0 x with
            | none => none
            | some _ => some (.int .i64 0, s)
          | .slice a len _ => match firstA s sz (min k len) x with
            | none => none
            | some l => match l with
              | [] => some (.int .i64 (.ofNat (min k len)), s)
              | y :: ys => match allSingle (y :: ys) with
                | false => none
                | true => match s.write a (y :: ys) with
                  | none => none
                  | some s' => some (.int .i64 (.ofNat (min k len)), s')
          | _ => none
    | _ => none

theorem acopy_run {P : Program} {T : TT} (hT : TOk P T) {G B ρ s w} (h : Rel G B ρ s w) {dt ty : TypeId} {ts : List TypeId} {d x y : AV} {u v : Value} {s' : St} (ha : acopy T s dt d x = some (y, s'))
    (hd : VR ρ d u) (hx : VR ρ x v) : ∃ w' r, (Builtin.copy_ ⟨dt :: ts⟩ ty #[u, v]).run P w = .ok r w' ∧ VR ρ y r ∧ Rel G B ρ s' w' ∧ Ext B ρ s w ρ s' w' := by
  unfold acopy at ha
  cases ht : T dt with
  | none => rw [ht] at ha; simp at ha
  | some ti =>
    rw [ht] at ha; simp only at ha
    have hu := run_und hT ht w
    cases hdd : ti.desc <;> rw [hdd] at ha hu <;> simp only at ha <;> try (simp at ha; done)
    rename_i e
    cases hs : elemSize T e with
    | none => rw [hs] at ha; simp at ha
    | some sz =>
      rw [hs] at ha; simp only at ha
      have hsz := elemSize_run hT hs w
      cases hk : lenA x with
      | none => rw [hk] at ha; simp at ha
      | some k =>
        rw [hk] at ha; simp only at ha
        have hlen := lenA_run (P := P) hk hx w
        have hmin : ∀ a b : Nat, Nat.min a b = min a b := fun _ _ => rfl
        have gen : ∀ id m off b κ len cap, ρ id m = some (b, κ) → u = .slice (some ⟨b, off, none⟩) len cap →
            (match firstA s sz (min k len) x with
              | none => none
              | some l => match l with
                | [] => some (AV.int .i64 (.ofNat (min k len)), s)
                | y :: ys => match allSingle (y :: ys) with
                  | false => none
                  | true => match s.write ⟨id, m, off⟩ (y :: ys) with
                    | none => none
                    | some s' => some (.int .i64 (.ofNat (min k len)), s')) = some (y, s') →
            ∃ w' r, (Builtin.copy_ ⟨dt :: ts⟩ ty #[u, v]).run P w = .ok r w' ∧ VR ρ y r ∧ Rel G B ρ s' w' ∧ Ext B ρ s w ρ s' w' := by
          rintro id m off b κ len cap hm rfl ha
          cases hf : firstA s sz (min k len) x with
          | none => rw [hf] at ha; simp at ha
          | some l =>
            rw [hf] at ha; simp only at ha
            obtain ⟨vs, f1, f2, f3⟩ := firstA_run (P := P) h hf hk (by omega) hx
            have f1 := f1 w rfl
            cases f2 with
            | nil =>
              simp only [Option.some.injEq, Prod.mk.injEq] at ha
              obtain ⟨rfl, rfl⟩ := ha
              refine ⟨w, .int .i64 (min k len : Nat), ?_, .int _ _, h, .refl ..⟩
              simp [Builtin.copy_, hu, hsz, hlen, hmin, f1, storeCells, goInt]
            | @cons z zv zs zvs hz hzs =>
              simp only at ha
              cases has : allSingle (z :: zs) <;> rw [has] at ha <;> simp only at ha
              · simp at ha
              cases hw : s.write ⟨id, m, off⟩ (z :: zs) with
              | none => rw [hw] at ha; simp at ha
              | some s1 =>
                rw [hw] at ha; simp only [Option.some.injEq, Prod.mk.injEq] at ha
                obtain ⟨rfl, rfl⟩ := ha
                have hvs : VRs ρ (z :: zs) (zv :: zvs) := .cons hz hzs
                obtain ⟨cs, e', w1, w2, w3, w4⟩ := h.store hm hw hvs (by simp)
                refine ⟨_, .int .i64 (min k len : Nat), ?_, .int _ _, w3, w4⟩
                have hsc := run_storeCells (P := P) (zv :: zvs) w cs off 0 w1 (allSingle_vrs has hvs) (by omega)
                simp [Builtin.copy_, hu, hsz, hlen, hmin, f1, goInt, hsc]
        cases hd <;> simp only at ha <;> try (simp at ha; done)
        · cases hf : firstA s sz 0 x with
          | none => rw [hf] at ha; simp at ha
          | some l =>
            rw [hf] at ha; simp only [Option.some.injEq, Prod.mk.injEq] at ha
            obtain ⟨rfl, rfl⟩ := ha
            obtain ⟨vs, f1, f2, f3⟩ := firstA_run (P := P) h hf hk (by omega) hx
            have f1 := f1 w rfl
            refine ⟨w, .int .i64 0, ?_, .int _ _, h, .refl ..⟩
            simp [Builtin.copy_, hu, hsz, hlen, hmin, f1, goInt]
        · rename_i hm; exact gen _ _ _ _ _ _ _ hm rfl ha
        · rename_i hm _ _ _ _; exact gen _ _ _ _ _ _ _ hm rfl ha

def zrep (z : List AV) : Nat → List AV
  | 0 => []
  | n + 1 => z ++ zrep z n

theorem zrep_len (z : List AV) : ∀ n, (zrep z n).length = n * z.length
  | 0 => by simp [zrep]
  | n + 1 => by simp [zrep, zrep_len z n, Nat.add_mul]; omega

theorem zrep_get (z : List AV) : ∀ n i, i < n * z.length → (zrep z n)[i]? = z[i % z.length]?
  | 0, i, h => by omega
  | n + 1, i, h => by
    simp only [zrep]
    rw [List.getElem?_append]
    split
    · rename_i hi; rw [Nat.mod_eq_of_lt hi]
    · rename_i hi
      rw [Nat.add_mul] at h
      rw [zrep_get z n _ (by omega)]
      congr 1
      conv => rhs; rw [show i = (i - z.length) + z.length from by omega]
      simp

theorem zrep_vrs {ρ : Ren} {z : List AV} {zs : Array Value} (hz : VRs (fun _ _ => none) z zs.toList) (n : Nat) : VRs ρ (zrep z n) (Builtin.zeroCells zs n).toList := by
  have hl := hz.length
  have hs : zs.size = z.length := by simpa using hl.symm
  refine VRs.of_get (by rw [zrep_len]; simp [zeroCells_size, hs]) ?_
  intro i x hx
  have hi : i < n * z.length := by have := (List.getElem?_eq_some_iff.1 hx).1; rw [zrep_len] at this; exact this
  rw [zrep_get z n i hi] at hx
  obtain ⟨v, hv, hr⟩ := hz.get _ _ hx
  refine ⟨v, ?_, hr.mono (noRen_le ρ)⟩
  have hj : i % z.length < z.length := (List.getElem?_eq_some_iff.1 hx).1
  have hv' : zs[i % z.length]? = some v := by simpa using hv
  have hg : zs[i % z.length]'(by omega) = v := (Array.getElem?_eq_some_iff.1 hv').2
  simp only [Builtin.zeroCells, Array.getElem?_toList, Array.getElem?_map, Array.getElem?_range, hs, if_pos hi, Option.map_some]
  rw [getElem!_pos zs _ (by omega), hg]

def aclear (T : TT) (s : St) (t : TypeId) (x : AV) : Option (AV × St) :=
  match T t with
  | none => none
  | some ti => match x with
    | .nils => some (.tuple [], s)
    | .emp => some (.tuple [], s)
    | .nilm => some (.tuple [], s)
    | .slice a n _ => match n.beq 0 with
      | true => some (.tuple [], s)
      | false => match ti.desc with
        | .slice e => match zeroOf T e with
          | none => none
          | some z => match allSingle z with
            | false => none
            | true => match (n * z.length).beq 0 with
              | true => none
              | false => match s.write a (zrep z n) with
                | none => none
                | some s' => some (.tuple [], s')
        | _ => none
    | .map id => match s.heap.get id with
      | some (.mp _ clock) => some (.tuple [], s.put id (.mp [] clock))
      | _ => none
    | _ => none

theorem allSingle_zrep {z : List AV} (h : allSingle z = true) : ∀ n, allSingle (zrep z n) = true
  | 0 => rfl
  | n + 1 => by
    have app : ∀ (a b : List AV), allSingle a = true → allSingle b = true → allSingle (a ++ b) = true := by
      intro a
      induction a with
      | nil => intro b _ h; exact h
      | cons x xs ih =>
        intro b h1 h2
        simp only [List.cons_append, allSingle] at h1 ⊢
        cases hx : x.single <;> rw [hx] at h1 <;> simp at h1
        exact ih b h1 h2
    exact app _ _ h (allSingle_zrep h n)

theorem run_getObj_map {P : Program} {w : World} {b : Nat} {es : Array MapEntry} {clock : Nat} (h : w.heap[b]? = some (.map es clock)) : (getObj b).run P w = .ok (.map es clock) w := by
  simp [getObj, Sem.run, h]
theorem run_setObj_map {P : Program} {w : World} {b : Nat} {es : Array MapEntry} {clock : Nat} (h : w.heap[b]? = some (.map es clock)) (o : Obj) :
    (setObj b o).run P w = .ok () { w with heap := w.heap.setIfInBounds b o } := by
  simp [setObj, Sem.run, h]

theorem Rel.map {G B ρ s w} (h : Rel G B ρ s w) {id b κ clock : Nat} {es : List (AV × AV × Nat)} (hm : ρ id 0 = some (b, κ)) (ho : s.heap.get id = some (.mp es clock)) :
    ∃ es', w.heap[b]? = some (.map es' clock) ∧ EntsR ρ es es'.toList := by
  obtain ⟨_, _, o, c, ho', hc, hO⟩ := h.obj _ _ _ _ hm
  rw [ho] at ho'; cases ho'
  obtain ⟨_, es', rfl, hE⟩ := hO
  exact ⟨es', hc, hE⟩

theorem Rel.putMap {G B ρ s w} (h : Rel G B ρ s w) {id b κ clock clock' : Nat} {es es' : List (AV × AV × Nat)} {cs : List MapEntry} (hm : ρ id 0 = some (b, κ)) (ho : s.heap.get id = some (.mp es clock))
    (hE : EntsR ρ es' cs) : Rel G B ρ (s.put id (.mp es' clock')) { w with heap := w.heap.setIfInBounds b (.map ⟨cs⟩ clock') } ∧
      Ext B ρ s w ρ (s.put id (.mp es' clock')) { w with heap := w.heap.setIfInBounds b (.map ⟨cs⟩ clock') } :=
  h.write1 hm ho (fun _ _ _ hO => hO.1) ⟨rfl, ⟨cs⟩, rfl, hE⟩

theorem aclear_run {P : Program} {T : TT} (hT : TOk P T) {G B ρ s w} (h : Rel G B ρ s w) {t ty : TypeId} {ts : List TypeId} {x y : AV} {v : Value} {s' : St} (ha : aclear T s t x = some (y, s'))
    (hx : VR ρ x v) : ∃ w' r, (Builtin.clear_ ⟨t :: ts⟩ ty #[v]).run P w = .ok r w' ∧ VR ρ y r ∧ Rel G B ρ s' w' ∧ Ext B ρ s w ρ s' w' := by
  unfold aclear at ha
  cases ht : T t with
  | none => rw [ht] at ha; simp at ha
  | some ti =>
    rw [ht] at ha; simp only at ha
    have hu := run_und hT ht w
    have gen : ∀ id m off b κ n cap c, ρ id m = some (b, κ) → x = .slice ⟨id, m, off⟩ n cap → v = .slice (some ⟨b, off, none⟩) n c →
        ∃ w' r, (Builtin.clear_ ⟨t :: ts⟩ ty #[v]).run P w = .ok r w' ∧ VR ρ y r ∧ Rel G B ρ s' w' ∧ Ext B ρ s w ρ s' w' := by
      rintro id m off b κ n cap c hm rfl rfl
      simp only at ha
      cases hn : n.beq 0 <;> rw [hn] at ha <;> simp only at ha
      · cases hdd : ti.desc <;> rw [hdd] at ha hu <;> simp only at ha <;> try (simp at ha; done)
        rename_i e
        cases hz : zeroOf T e with
        | none => rw [hz] at ha; simp at ha
        | some z =>
          rw [hz] at ha; simp only at ha
          obtain ⟨zv, i, hi, z1, z2, z3, _⟩ := zeroOf_run hT hz w
          cases has : allSingle z <;> rw [has] at ha <;> simp only at ha
          · simp at ha
          cases h0 : (n * z.length).beq 0 <;> rw [h0] at ha <;> simp only at ha
          · cases hw : s.write ⟨id, m, off⟩ (zrep z n) with
            | none => rw [hw] at ha; simp at ha
            | some s1 =>
              rw [hw] at ha; simp only [Option.some.injEq, Prod.mk.injEq] at ha
              obtain ⟨rfl, rfl⟩ := ha
              have hvs := zrep_vrs (ρ := ρ) z2 n
              have hne : zrep z n ≠ [] := by
                intro e0
                have := zrep_len z n
                rw [e0] at this
                exact beq_ne h0 (by simpa using this.symm)
              obtain ⟨cs, e', w1, w2, w3, w4⟩ := h.store hm hw hvs hne
              refine ⟨_, .tuple #[], ?_, .tuple .nil, w3, w4⟩
              have hsc := run_storeCells (P := P) (Builtin.zeroCells zv.cells n).toList w cs off 0 w1 (allSingle_vrs (allSingle_zrep has n) hvs) (by omega)
              have hn0 : n ≠ 0 := beq_ne hn
              obtain ⟨n, rfl⟩ : ∃ q, n = q + 1 := ⟨n - 1, by omega⟩
              simp [Builtin.clear_, hu, z1, hsc]
          · simp at ha
      · simp only [Option.some.injEq, Prod.mk.injEq] at ha
        obtain ⟨rfl, rfl⟩ := ha
        obtain rfl := beq_iff.1 hn
        exact ⟨w, .tuple #[], by simp [Builtin.clear_, hu], .tuple .nil, h, .refl ..⟩
    cases hx with
    | nils =>
      simp only [Option.some.injEq, Prod.mk.injEq] at ha
      obtain ⟨rfl, rfl⟩ := ha
      exact ⟨w, .tuple #[], by simp [Builtin.clear_, hu], .tuple .nil, h, .refl ..⟩
    | emp b o c =>
      simp only [Option.some.injEq, Prod.mk.injEq] at ha
      obtain ⟨rfl, rfl⟩ := ha
      exact ⟨w, .tuple #[], by simp [Builtin.clear_, hu], .tuple .nil, h, .refl ..⟩
    | nilm =>
      simp only [Option.some.injEq, Prod.mk.injEq] at ha
      obtain ⟨rfl, rfl⟩ := ha
      exact ⟨w, .tuple #[], by simp [Builtin.clear_, hu], .tuple .nil, h, .refl ..⟩
    | map hm =>
      rename_i id b κ
      simp only at ha
      cases ho : s.heap.get id with
      | none => rw [ho] at ha; simp at ha
      | some o =>
        rw [ho] at ha
        cases o <;> simp only at ha <;> try (simp at ha; done)
        rename_i es clock
        simp only [Option.some.injEq, Prod.mk.injEq] at ha
        obtain ⟨rfl, rfl⟩ := ha
        obtain ⟨es', he1, he2⟩ := h.map hm ho
        obtain ⟨q1, q2⟩ := h.putMap (clock' := clock) hm ho (.nil)
        exact ⟨_, .tuple #[], by simp [Builtin.clear_, hu, run_getObj_map he1, run_setObj_map he1] <;> rfl, .tuple .nil, q1, q2⟩
    | sliceK hm => exact gen _ _ _ _ _ _ _ _ hm rfl rfl
    | sliceU hm => exact gen _ _ _ _ _ _ _ _ hm rfl rfl
    | _ => simp at ha

end Go.AM
