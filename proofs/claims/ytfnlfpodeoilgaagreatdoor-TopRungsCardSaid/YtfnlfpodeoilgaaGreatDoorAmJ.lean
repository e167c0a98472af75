/- The abstract machine, part J: append, copy, clear on the abstract heap. No condition. -/
import Derived.Test.YtfnlfpodeoilgaaGreatDoorAmI
set_option linter.all false
noncomputable section
namespace Go.AM
open Go.RowKit (Below)

def newFam (s : St) (sz need : Nat) (l : List AV) : AV × St :=
  (.slice ⟨s.ctr, 0, 0⟩ need (.unk sz need), s.alloc (.fam sz need 0 (setElems 0 sz need 0 l .leaf)))

def aappend (T : TT) (s : St) (st xt : TypeId) (d x : AV) : Option (AV × St) :=
  match appArgs T s st xt x with
  | none => none
  | some g => match d with
    | .nils => match g.n.beq 0 with
      | true => some (.nils, s)
      | false => some (newFam s g.sz g.n g.new)
    | .slice a len (.known c) => match len.blt 1048576 with
      | false => none
      | true => match (len + g.n).ble c with
        | true => match g.n.beq 0 with
          | true => some (.slice a len (.known c), s)
          | false => match allSingle g.new with
            | false => none
            | true => match s.write ⟨a.id, a.m, a.off + len * g.sz⟩ g.new with
              | none => none
              | some s' => some (.slice a (len + g.n) (.known c), s')
        | false => match firstA s g.sz len (.slice a len (.known c)) with
          | none => none
          | some old => some (newFam s g.sz (len + g.n) (old ++ g.new))
    | .slice a len (.unk esz lb) => match len.blt 1048576 with
      | false => none
      | true => match g.n.beq 0 with
        | true => some (.slice a len (.unk esz lb), s)
        | false => match esz.beq g.sz with
          | false => none
          | true => match s.heap.get a.id with
            | some (.fam fe n cur t) => match fe.beq esz with
              | false => none
              | true => match a.m.beq cur with
                | false => none
                | true => match (a.off / esz + len + g.n).ble n with
                  | true => match allSingle g.new with
                    | false => none
                    | true => match s.write ⟨a.id, a.m, a.off + len * g.sz⟩ g.new with
                      | none => none
                      | some s' => some (.slice a (len + g.n) (.unk esz (max lb (len + g.n))), s')
                  | false => match a.off.beq 0 with
                    | false => none
                    | true => match len.ble n with
                      | false => none
                      | true => match allSingle g.new with
                        | false => none
                        | true => some (.slice ⟨a.id, cur + 1, 0⟩ (len + g.n) (.unk esz (len + g.n)),
                          s.put a.id (.fam fe (len + g.n) (cur + 1) (setElems (cur + 1) esz g.n len g.new t)))
            | _ => none
    | _ => none

theorem Ext.heap {B ρ s w w'} (e : w'.heap = w.heap) (h1 : w'.os = w.os) (h2 : w'.tape = w.tape) (h3 : w'.output = w.output) : Ext B ρ s w ρ s w' :=
  ⟨.refl _, fun _ m x h => .inl ⟨m, x, h⟩, Nat.le_refl _, fun _ _ _ => rfl, ⟨h1, h2, h3, by rw [e]; exact Nat.le_refl _, fun _ _ => by rw [e]⟩, fun _ m _ _ h => .inl ⟨m, h⟩, fun _ _ _ => by rw [e]⟩

theorem fam_or {ρ : Ren} {l : List AV} {us : List Value} {need sz K : Nat} {rest : Array Value} {e : TypeId} (hv : VRs ρ l us) (hl : l.length = need * sz) (hz : 0 < sz)
    (hK : us.length + rest.size = K * sz) : OR ρ (.fam sz need 0 (setElems 0 sz need 0 l .leaf)) 0 K (.cells (us.toArray ++ rest) e (0, 0)) := by
  refine ⟨Nat.le_refl _, ⟨hz, ?_⟩, us.toArray ++ rest, e, rfl, by simp; exact hK, ?_⟩
  · intro i st x hx
    rw [setElems_get] at hx
    split at hx
    · simp at hx; omega
    · rw [Tr.get_leaf] at hx; simp at hx
  · intro i x hx
    simp only [AO.elem] at hx
    cases hb : i.blt need <;> rw [hb] at hx <;> simp only at hx
    · simp at hx
    · have hi := blt_lt hb
      rw [setElems_get, if_pos ⟨by omega, by omega⟩] at hx
      simp at hx; subst hx
      refine ⟨chunk_len hl hi, fun j y hy => ?_⟩
      obtain ⟨_, hg⟩ := chunk_get hy
      obtain ⟨v, hv', hr⟩ := hv.get _ _ hg
      refine ⟨v, ?_, hr⟩
      have hlt : i * sz + j < us.length := (List.getElem?_eq_some_iff.1 hv').1
      simp only [AO.esz]
      rw [Array.getElem?_append_left (by simpa using hlt)]
      simpa using hv'

theorem Rel.newFam {G B ρ s w} (h : Rel G B ρ s w) {sz need K : Nat} {l : List AV} {us : List Value} {rest : Array Value} {e : TypeId} (hv : VRs ρ l us) (hl : l.length = need * sz) (hz : 0 < sz)
    (hK : us.length + rest.size = K * sz) (hnK : need ≤ K) :
    ∃ ρ', VR ρ' (newFam s sz need l).1 (.slice (some ⟨w.heap.size, 0, none⟩) need K) ∧
      Rel G B ρ' (newFam s sz need l).2 { w with drawn := w.drawn + 1, heap := w.heap.push (.cells (us.toArray ++ rest) e (0, 0)) } ∧
      Ext B ρ s w ρ' (newFam s sz need l).2 { w with drawn := w.drawn + 1, heap := w.heap.push (.cells (us.toArray ++ rest) e (0, 0)) } := by
  have h1 := h.heap (w' := { w with drawn := w.drawn + 1 }) rfl
  have hle : ρ.le (ρ.add s.ctr 0 w.heap.size K) := Ren.le_add (h.fresh 0)
  have := h1.alloc (κ := K) (fam_or (e := e) (hv.mono hle) hl hz hK)
  unfold AM.newFam
  have hx : Ext B ρ s w ρ s { w with drawn := w.drawn + 1 } := Ext.heap rfl rfl rfl rfl
  refine ⟨ρ.add s.ctr 0 w.heap.size K, ?_, this.1, hx.trans this.2⟩
  have hs := VR.sliceU (ρ := ρ.add s.ctr 0 w.heap.size K) (id := s.ctr) (m := 0) (off := 0) (len := need) (esz := sz) (lb := need) (Ren.add_same ..) (Nat.le_refl _) (by simp; exact hnK) (Nat.zero_mod _) hz
  simpa using hs

set_option maxHeartbeats 2000000 in
theorem aappend_run {P : Program} {T : TT} (hT : TOk P T) {G B ρ s w} (h : Rel G B ρ s w) {st xt ty : TypeId} {d x y : AV} {u v : Value} {s' : St} (ha : aappend T s st xt d x = some (y, s'))
    (hd : VR ρ d u) (hx : VR ρ x v) : ∃ ρ' w' r, (Builtin.append_ #[st, xt] ty #[u, v]).run P w = .ok r w' ∧ VR ρ' y r ∧ Rel G B ρ' s' w' ∧ Ext B ρ s w ρ' s' w' := by
  unfold aappend at ha
  cases hg : appArgs T s st xt x with
  | none => rw [hg] at ha; simp at ha
  | some g =>
    rw [hg] at ha; simp only at ha
    obtain ⟨hnl, hsz, vs, hvs, hrun⟩ := append_run hT h hg hx
    have hvl := hvs.length
    cases hd <;> simp only at ha <;> try (simp at ha; done)
    case nils =>
      obtain ⟨r1, r2⟩ := hrun ty none 0 0 (by omega)
      cases hn : g.n.beq 0 <;> rw [hn] at ha <;> simp only [Option.some.injEq, Prod.mk.injEq] at ha
      · have hn := beq_ne hn
        obtain ⟨K, e, rest, k1, k2, k3⟩ := r2 (by omega) #[] (by simp [Builtin.firstCells])
        have ha' : newFam s g.sz g.n g.new = (y, s') := ha
        obtain ⟨ρ', q1, q2, q3⟩ := h.newFam (need := g.n) (K := K) (rest := rest) (e := e) hvs hnl hsz (by
          have : vs.length = g.n * g.sz := by omega
          have e1 : K = (K - (0 + g.n)) + g.n := by omega
          rw [this, k2]
          conv => rhs; rw [e1]
          rw [Nat.add_mul]; omega) (by omega)
        rw [ha'] at q1 q2 q3
        refine ⟨ρ', _, _, k3, ?_, ?_, ?_⟩
        · simpa using q1
        · simpa using q2
        · simpa using q3
      · obtain ⟨rfl, rfl⟩ := ha
        have h0 := beq_iff.1 hn
        refine ⟨ρ, w, .slice none 0 0, ?_, .nils, h, .refl ..⟩
        rw [r1 (by omega)]; simp [h0]
    case sliceK id m off b κ len c hm =>
      cases hlb : len.blt 1048576 <;> rw [hlb] at ha <;> simp only at ha
      · simp at ha
      · have hlb := blt_lt hlb
        obtain ⟨r1, r2⟩ := hrun ty (some ⟨b, off, none⟩) len c hlb
        cases hc : (len + g.n).ble c <;> rw [hc] at ha <;> simp only at ha
        · -- it grows
          have hlt : c < len + g.n := by
            rcases Nat.lt_or_ge c (len + g.n) with h' | h'
            · exact h'
            · rw [Nat.ble_eq_true_of_le h'] at hc; simp at hc
          cases hf : firstA s g.sz len (.slice ⟨id, m, off⟩ len (.known c)) with
          | none => rw [hf] at ha; simp at ha
          | some old =>
            rw [hf] at ha; simp only [Option.some.injEq] at ha
            obtain ⟨os, o1, o2, o3⟩ := firstA_run (P := P) h hf (k := len) rfl (Nat.le_refl _) (VR.sliceK (len := len) (c := c) hm)
            obtain ⟨K, e, rest, k1, k2, k3⟩ := r2 hlt ⟨os⟩ (o1 _ rfl)
            have hol := o2.length
            obtain ⟨ρ', q1, q2, q3⟩ := h.newFam (need := len + g.n) (K := K) (rest := rest) (e := e) (o2.append hvs) (by simp [o3, hnl, Nat.add_mul]) hsz (by
              have : (os ++ vs).length = (len + g.n) * g.sz := by simp [Nat.add_mul]; omega
              rw [this, k2, ← Nat.add_mul]; congr 1; omega) k1
            rw [ha] at q1 q2 q3
            refine ⟨ρ', _, _, k3, ?_, ?_, ?_⟩
            · simpa using q1
            · simpa using q2
            · simpa using q3
        · have hc := Nat.le_of_ble_eq_true hc
          cases hn : g.n.beq 0 <;> rw [hn] at ha <;> simp only at ha
          · have hn := beq_ne hn
            cases has : allSingle g.new <;> rw [has] at ha <;> simp only at ha
            · simp at ha
            cases hw : s.write ⟨id, m, off + len * g.sz⟩ g.new with
            | none => rw [hw] at ha; simp at ha
            | some s1 =>
              rw [hw] at ha; simp only [Option.some.injEq, Prod.mk.injEq] at ha
              obtain ⟨rfl, rfl⟩ := ha
              have hne : g.new ≠ [] := by
                intro e0
                have hz0 : g.n * g.sz = 0 := by rw [← hnl, e0]; rfl
                rcases Nat.mul_eq_zero.1 hz0 with h' | h' <;> omega
              obtain ⟨cs, e, w1, w2, w3, w4⟩ := h.store hm hw hvs hne
              refine ⟨ρ, _, _, ?_, .sliceK hm, w3, w4⟩
              rw [r1 hc]
              simp only [Addr.add_spot]
              have hsg : ∀ q ∈ vs, single q = true := allSingle_vrs has hvs
              rw [run_storeCells vs w cs (off + len * g.sz) 0 w1 hsg (by omega)]
              simp
          · simp only [Option.some.injEq, Prod.mk.injEq] at ha
            obtain ⟨rfl, rfl⟩ := ha
            have h0 := beq_iff.1 hn
            have hv0 : vs = [] := by
              have : vs.length = 0 := by rw [← hvl, hnl, h0]; simp
              exact List.length_eq_zero_iff.1 this
            refine ⟨ρ, w, _, ?_, .sliceK hm, h, .refl ..⟩
            rw [r1 hc, hv0]
            simp [storeCells, h0]
    case sliceU id m off b κ len esz lb hm hll hl0 he hz =>
      have hl : off / esz + len ≤ κ := by omega
      cases hlb : len.blt 1048576 <;> rw [hlb] at ha <;> simp only at ha
      · simp at ha
      · have hlb := blt_lt hlb
        obtain ⟨r1, r2⟩ := hrun ty (some ⟨b, off, none⟩) len (κ - off / esz) hlb
        cases hn : g.n.beq 0 <;> rw [hn] at ha <;> simp only at ha
        · have hn := beq_ne hn
          have hne : g.new ≠ [] := by
            intro e0
            have hz0 : g.n * g.sz = 0 := by rw [← hnl, e0]; rfl
            rcases Nat.mul_eq_zero.1 hz0 with h' | h' <;> omega
          cases hes : esz.beq g.sz <;> rw [hes] at ha <;> simp only at ha
          · simp at ha
          obtain rfl := beq_iff.1 hes
          cases hob : s.heap.get id with
          | none => rw [hob] at ha; simp at ha
          | some o =>
            rw [hob] at ha
            cases o <;> simp only at ha <;> try (simp at ha; done)
            rename_i fe n cur t
            cases hfe : fe.beq g.sz <;> rw [hfe] at ha <;> simp only at ha
            · simp at ha
            obtain rfl := beq_iff.1 hfe
            cases hmc : m.beq cur <;> rw [hmc] at ha <;> simp only at ha
            · simp at ha
            obtain rfl := beq_iff.1 hmc
            obtain ⟨_, hBb, o, c, ho, hc, hO⟩ := h.obj _ _ _ _ hm
            rw [hob] at ho; cases ho
            obtain ⟨_, ⟨hzz, hst⟩, cs, e, rfl, hcs, hE⟩ := hO
            have hoff : off / g.sz * g.sz = off := by
              have := Nat.div_add_mod off g.sz; rw [he, Nat.mul_comm] at this; omega
            have hle : off + len * g.sz ≤ cs.size := by
              have h1 := Nat.mul_le_mul_right g.sz hl
              rw [Nat.add_mul, hoff] at h1
              rw [hcs]; exact h1
            cases hkn : (off / g.sz + len + g.n).ble n <;> rw [hkn] at ha <;> simp only at ha
            · -- it may grow, or be written in place
              cases h0 : off.beq 0 <;> rw [h0] at ha <;> simp only at ha
              · simp at ha
              obtain rfl := beq_iff.1 h0
              cases hln : len.ble n <;> rw [hln] at ha <;> simp only at ha
              · simp at ha
              have hln := Nat.le_of_ble_eq_true hln
              cases has : allSingle g.new <;> rw [has] at ha <;> simp only at ha
              · simp at ha
              simp only [Option.some.injEq, Prod.mk.injEq] at ha
              obtain ⟨rfl, rfl⟩ := ha
              simp only [Nat.zero_div, Nat.zero_add, Nat.sub_zero] at hl r1 r2 hle ⊢
              have hno : ρ id (m + 1) = none := by
                cases hq : ρ id (m + 1) with
                | none => rfl
                | some q =>
                  obtain ⟨b', κ'⟩ := q
                  obtain ⟨_, _, o₂, c₂, ho₂, _, hO₂⟩ := h.obj _ _ _ _ hq
                  rw [hob] at ho₂; cases ho₂
                  exact absurd hO₂.1 (by omega)
              have hsg : ∀ q ∈ vs, single q = true := allSingle_vrs has hvs
              -- what the members see of the new tree
              have hstn : ∀ i st l, (setElems (m + 1) g.sz g.n len g.new t).get i = some (st, l) → st ≤ m + 1 := by
                intro i st l hx
                rw [setElems_get] at hx
                split at hx
                · simp at hx; omega
                · have := hst _ _ _ hx; omega
              have hold : ∀ m' κ' c', m' ≤ m → OR ρ (.fam g.sz n m t) m' κ' c' → OR ρ (.fam g.sz (len + g.n) (m + 1) (setElems (m + 1) g.sz g.n len g.new t)) m' κ' c' := by
                rintro m' κ' c' hm' ⟨_, _, cs', e', rfl, hcs', hE'⟩
                refine ⟨by omega, ⟨hzz, hstn⟩, cs', e', rfl, hcs', ?_⟩
                intro i x hx
                simp only [AO.elem] at hx
                cases hb : i.blt (len + g.n) <;> rw [hb] at hx <;> simp only at hx
                · simp at hx
                · by_cases hin : len ≤ i ∧ i < len + g.n
                  · rw [setElems_get, if_pos hin] at hx
                    simp only at hx
                    rw [show (m + 1).ble m' = false from by
                      cases hq : (m + 1).ble m' with
                      | false => rfl
                      | true => have := Nat.le_of_ble_eq_true hq; omega] at hx
                    simp at hx
                  · rw [setElems_get, if_neg hin] at hx
                    have hi : i < len := by have := blt_lt hb; omega
                    have : (AO.fam g.sz n m t).elem m' i = some x := by
                      simp only [AO.elem]
                      rw [show i.blt n = true from by simp [Nat.blt]; omega]
                      exact hx
                    exact hE' i x this
              rcases Nat.lt_or_ge κ (len + g.n) with hgrow | hroom
              · -- it grows
                have hfirst : ∀ w' : World, w'.heap = w.heap → (Builtin.firstCells g.sz len (.slice (some ⟨b, 0, none⟩) len κ)).run P w' = .ok ⟨(cs.toList.drop 0).take (len * g.sz)⟩ w' := by
                  intro w' hw'
                  simp only [Builtin.firstCells]
                  exact run_loadCells (by rw [hw']; exact hc) (by simpa using hle)
                obtain ⟨K, e', rest, k1, k2, k3⟩ := r2 hgrow _ (hfirst _ rfl)
                generalize hcs2 : (cs.toList.drop 0).take (len * g.sz) = os at k3
                have hosl : os.length = len * g.sz := by rw [← hcs2]; simp at hle ⊢; omega
                have hlen2 : ((⟨os⟩ : Array Value) ++ vs.toArray ++ rest).size = K * g.sz := by
                  simp only [Array.size_append, List.size_toArray]
                  rw [hosl, ← hvl, hnl, k2, ← Nat.add_mul, ← Nat.add_mul]; congr 1; omega
                generalize hcs3 : (⟨os⟩ : Array Value) ++ vs.toArray ++ rest = cs3 at k3 hlen2
                have hleρ : ρ.le (ρ.add id (m + 1) w.heap.size K) := Ren.le_add hno
                have hnew : OR ρ (.fam g.sz (len + g.n) (m + 1) (setElems (m + 1) g.sz g.n len g.new t)) (m + 1) K (.cells cs3 e' (0, 0)) := by
                  refine ⟨Nat.le_refl _, ⟨hzz, hstn⟩, cs3, e', rfl, hlen2, ?_⟩
                  intro i x hx
                  simp only [AO.elem] at hx
                  cases hb : i.blt (len + g.n) <;> rw [hb] at hx <;> simp only at hx
                  · simp at hx
                  · have hi := blt_lt hb
                    by_cases hin : len ≤ i ∧ i < len + g.n
                    · rw [setElems_get, if_pos hin] at hx
                      simp only at hx
                      rw [show (m + 1).ble (m + 1) = true from Nat.ble_eq_true_of_le (Nat.le_refl _)] at hx
                      simp at hx; subst hx
                      refine ⟨chunk_len hnl (by omega), fun j y hy => ?_⟩
                      obtain ⟨hj, hgy⟩ := chunk_get hy
                      obtain ⟨v', hv', hr⟩ := hvs.get _ _ hgy
                      refine ⟨v', ?_, hr⟩
                      have hlt : (i - len) * g.sz + j < vs.length := (List.getElem?_eq_some_iff.1 hv').1
                      have e1 : i * g.sz + j = os.length + ((i - len) * g.sz + j) := by
                        rw [hosl]
                        have : i = len + (i - len) := by omega
                        conv => lhs; rw [this]
                        rw [Nat.add_mul]; omega
                      simp only [AO.esz]
                      rw [← hcs3, e1, Array.getElem?_append_left (by simp; omega), Array.getElem?_append_right (by simp)]
                      simp [hv']
                    · rw [setElems_get, if_neg hin] at hx
                      have hi' : i < len := by omega
                      cases hti : t.get i with
                      | none => rw [hti] at hx; simp at hx
                      | some q =>
                        obtain ⟨st', l'⟩ := q
                        rw [hti] at hx; simp only at hx
                        have hst' := hst _ _ _ hti
                        rw [show st'.ble (m + 1) = true from Nat.ble_eq_true_of_le (by omega)] at hx
                        simp at hx; subst hx
                        have hel : (AO.fam g.sz n m t).elem m i = some l' := by
                          simp only [AO.elem]
                          rw [show i.blt n = true from by simp [Nat.blt]; omega, hti]
                          simp only
                          rw [show st'.ble m = true from Nat.ble_eq_true_of_le hst']
                        obtain ⟨q1, q2⟩ := hE i l' hel
                        simp only [AO.esz] at q1 q2
                        refine ⟨q1, fun j y hy => ?_⟩
                        obtain ⟨v', hv', hr⟩ := q2 j y hy
                        have hj : j < g.sz := by have := (List.getElem?_eq_some_iff.1 hy).1; omega
                        have hlt := mul_step hi' hj
                        refine ⟨v', ?_, hr⟩
                        simp only [AO.esz]
                        rw [← hcs3, Array.getElem?_append_left (by simp; omega), Array.getElem?_append_left (by simp; omega), ← hcs2]
                        simp only [List.drop_zero]
                        rw [show ((⟨cs.toList.take (len * g.sz)⟩ : Array Value))[i * g.sz + j]? = (cs.toList.take (len * g.sz))[i * g.sz + j]? from by simp]
                        rw [List.getElem?_take_of_lt hlt]
                        simpa using hv'
                refine ⟨ρ.add id (m + 1) w.heap.size K, _, _, k3, ?_, ?_, ?_⟩
                · have hs := VR.sliceU (ρ := ρ.add id (m + 1) w.heap.size K) (id := id) (m := m + 1) (off := 0) (len := len + g.n) (esz := g.sz) (lb := len + g.n) (Ren.add_same ..) (Nat.le_refl _) (by simp; exact k1) (Nat.zero_mod _) hsz
                  simpa using hs
                · have h1 := h.heap (w' := { w with drawn := w.drawn + 1 }) rfl
                  refine ⟨?_, ?_, ?_, ?_⟩
                  · intro i mm bb kk hx
                    rcases Ren.add_cases hx with ⟨rfl, rfl, he'⟩ | hx
                    · simp at he'; obtain ⟨rfl, rfl⟩ := he'
                      exact ⟨(h.obj _ _ _ _ hm).1, h.size, _, _, Tr.get_set_same .., by simp, hnew.mono hleρ⟩
                    · obtain ⟨x1, x2, o₂, c₂, x3, x4, x5⟩ := h.obj _ _ _ _ hx
                      have hblt := h.block_lt hx
                      by_cases hid : i = id
                      · subst hid
                        rw [hob] at x3; cases x3
                        exact ⟨x1, x2, _, c₂, Tr.get_set_same .., by simp only; rw [Array.getElem?_push, if_neg (by omega)]; exact x4, (hold _ _ _ x5.1 x5).mono hleρ⟩
                      · exact ⟨x1, x2, o₂, c₂, (Tr.get_set_other _ _ (Ne.symm hid)).trans x3, by simp only; rw [Array.getElem?_push, if_neg (by omega)]; exact x4, x5.mono hleρ⟩
                  · intro i mm bb kk i' mm' kk' hx hx'
                    rcases Ren.add_cases hx with ⟨e1, e2, he1⟩ | g1 <;> rcases Ren.add_cases hx' with ⟨e3, e4, he2⟩ | g2
                    · simp at he1 he2; exact ⟨by rw [e1, e3], by omega⟩
                    · simp at he1; exact absurd (h.block_lt g2) (by omega)
                    · simp at he2; exact absurd (h.block_lt g1) (by omega)
                    · exact h.inj _ _ _ _ _ _ _ g1 g2
                  · simp; have := h.size; omega
                  · intro g' l' hg'
                    obtain ⟨x1, cs₁, e₁, fz, x2, x3⟩ := h.glob g' l' hg'
                    have := h.size
                    exact ⟨x1, cs₁, e₁, fz, by simp only; rw [Array.getElem?_push, if_neg (by omega)]; exact x2, x3⟩
                · refine ⟨hleρ, ?_, Nat.le_refl _, ?_, ⟨rfl, rfl, rfl, by simp, ?_⟩, ?_, ?_⟩
                  · intro i mm x hx
                    rcases Ren.add_cases hx with ⟨rfl, rfl, _⟩ | hx
                    · exact .inl ⟨m, _, hm⟩
                    · exact .inl ⟨mm, x, hx⟩
                  · intro i hi hno'
                    refine Tr.get_set_other _ _ ?_
                    rintro rfl
                    rw [hno' m] at hm; simp at hm
                  · intro k hk
                    have := h.size
                    simp only
                    rw [Array.getElem?_push, if_neg (by omega)]
                  · intro i mm b' κ' hx
                    rcases Ren.add_cases hx with ⟨_, _, he⟩ | hx
                    · simp at he; exact .inr (by omega)
                    · exact .inl ⟨mm, hx⟩
                  · intro k hk _
                    simp only
                    rw [Array.getElem?_push, if_neg (by omega)]
              · -- in place
                have hfit : len * g.sz + vs.length ≤ cs.size := by
                  rw [← hvl, hnl, hcs, ← Nat.add_mul]; exact Nat.mul_le_mul_right _ hroom
                have hleρ : ρ.le (ρ.add id (m + 1) b κ) := Ren.le_add hno
                have hrunw := r1 hroom
                simp only [Addr.add_spot, Nat.zero_add] at hrunw
                rw [run_storeCells vs w cs (len * g.sz) 0 hc hsg (by omega)] at hrunw
                simp only [Result.andThen_ok, Nat.add_zero] at hrunw
                -- the members that see this block
                have hsee : ∀ m', m' ≤ m + 1 → (m' ≤ m → OR ρ (.fam g.sz n m t) m' κ (.cells cs e (0, 0))) →
                    OR ρ (.fam g.sz (len + g.n) (m + 1) (setElems (m + 1) g.sz g.n len g.new t)) m' κ (.cells (owA cs (len * g.sz) vs) e (0, 0)) := by
                  intro m' hm' hO'
                  refine ⟨hm', ⟨hzz, hstn⟩, owA cs (len * g.sz) vs, e, rfl, by rw [owA_size]; exact hcs, ?_⟩
                  intro i x hx
                  simp only [AO.elem] at hx
                  cases hb : i.blt (len + g.n) <;> rw [hb] at hx <;> simp only at hx
                  · simp at hx
                  · have hi := blt_lt hb
                    by_cases hin : len ≤ i ∧ i < len + g.n
                    · rw [setElems_get, if_pos hin] at hx
                      simp only at hx
                      cases hmm : (m + 1).ble m' <;> rw [hmm] at hx <;> simp at hx
                      subst hx
                      refine ⟨chunk_len hnl (by omega), fun j y hy => ?_⟩
                      obtain ⟨hj, hgy⟩ := chunk_get hy
                      obtain ⟨v', hv', hr⟩ := hvs.get _ _ hgy
                      have hlt : (i - len) * g.sz + j < vs.length := (List.getElem?_eq_some_iff.1 hv').1
                      have e1 : i * g.sz + j = len * g.sz + ((i - len) * g.sz + j) := by
                        have : i = len + (i - len) := by omega
                        conv => lhs; rw [this]
                        rw [Nat.add_mul]; omega
                      refine ⟨v', ?_, hr⟩
                      simp only [AO.esz]
                      rw [owA_get _ _ _ _ hfit, e1, if_pos (by omega), ← hv']
                      congr 1; omega
                    · rw [setElems_get, if_neg hin] at hx
                      have hi' : i < len := by omega
                      cases hti : t.get i with
                      | none => rw [hti] at hx; simp at hx
                      | some q =>
                        obtain ⟨st', l'⟩ := q
                        rw [hti] at hx; simp only at hx
                        cases hsm : st'.ble m' <;> rw [hsm] at hx <;> simp at hx
                        subst hx
                        have hst' := hst _ _ _ hti
                        -- as the newest member, or an elder one, saw it
                        have hel : ∃ m'', (AO.fam g.sz n m t).elem m'' i = some l' ∧ ElemsR ρ (.fam g.sz n m t) m'' cs := by
                          refine ⟨m, ?_, hE⟩
                          simp only [AO.elem]
                          rw [show i.blt n = true from by simp [Nat.blt]; omega, hti]
                          simp only
                          rw [show st'.ble m = true from Nat.ble_eq_true_of_le hst']
                        obtain ⟨m'', hel, hE''⟩ := hel
                        obtain ⟨q1, q2⟩ := hE'' i l' hel
                        simp only [AO.esz] at q1 q2
                        refine ⟨q1, fun j y hy => ?_⟩
                        obtain ⟨v', hv', hr⟩ := q2 j y hy
                        have hj : j < g.sz := by have := (List.getElem?_eq_some_iff.1 hy).1; omega
                        have hlt := mul_step hi' hj
                        refine ⟨v', ?_, hr⟩
                        simp only [AO.esz]
                        rw [owA_get _ _ _ _ hfit, if_neg (by omega)]; exact hv'
                refine ⟨ρ.add id (m + 1) b κ, _, _, hrunw, ?_, ?_, ?_⟩
                · have hs := VR.sliceU (ρ := ρ.add id (m + 1) b κ) (id := id) (m := m + 1) (off := 0) (len := len + g.n) (esz := g.sz) (lb := len + g.n) (Ren.add_same ..) (Nat.le_refl _) (by simp; exact hroom) (Nat.zero_mod _) hsz
                  simpa using hs
                · have hbl := h.block_lt hm
                  refine ⟨?_, ?_, ?_, ?_⟩
                  · intro i mm bb kk hx
                    rcases Ren.add_cases hx with ⟨rfl, rfl, he'⟩ | gx
                    · simp at he'; obtain ⟨rfl, rfl⟩ := he'
                      exact ⟨(h.obj _ _ _ _ hm).1, hBb, _, _, Tr.get_set_same .., putObj_get hbl, (hsee (m + 1) (Nat.le_refl _) (fun h => absurd h (by omega))).mono hleρ⟩
                    · obtain ⟨x1, x2, o₂, c₂, x3, x4, x5⟩ := h.obj _ _ _ _ gx
                      by_cases hid : i = id
                      · subst hid
                        rw [hob] at x3; cases x3
                        by_cases hbb : bb = b
                        · subst hbb
                          obtain ⟨_, rfl⟩ := h.inj _ _ _ _ _ _ _ gx hm
                          rw [hc] at x4; cases x4
                          exact ⟨x1, x2, _, _, Tr.get_set_same .., putObj_get hbl, (hsee mm (by have := x5.1; omega) (fun _ => x5)).mono hleρ⟩
                        · exact ⟨x1, x2, _, c₂, Tr.get_set_same .., by unfold World.putObj; simp only; rw [Array.getElem?_setIfInBounds_ne (Ne.symm hbb)]; exact x4, (hold _ _ _ x5.1 x5).mono hleρ⟩
                      · have hbb : bb ≠ b := by
                          rintro rfl
                          exact hid (h.inj _ _ _ _ _ _ _ gx hm).1
                        exact ⟨x1, x2, o₂, c₂, (Tr.get_set_other _ _ (Ne.symm hid)).trans x3, by unfold World.putObj; simp only; rw [Array.getElem?_setIfInBounds_ne (Ne.symm hbb)]; exact x4, x5.mono hleρ⟩
                  · intro i mm bb kk i' mm' kk' hx hx'
                    rcases Ren.add_cases hx with ⟨e1, e2, he1⟩ | g1 <;> rcases Ren.add_cases hx' with ⟨e3, e4, he2⟩ | g2
                    · simp at he1 he2; exact ⟨by rw [e1, e3], by omega⟩
                    · simp at he1
                      obtain ⟨rfl, rfl⟩ := he1
                      obtain ⟨x1, x2⟩ := h.inj _ _ _ _ _ _ _ g2 hm
                      exact ⟨by rw [e1, x1], x2.symm⟩
                    · simp at he2
                      obtain ⟨rfl, rfl⟩ := he2
                      obtain ⟨x1, x2⟩ := h.inj _ _ _ _ _ _ _ g1 hm
                      exact ⟨by rw [e3, x1], x2⟩
                    · exact h.inj _ _ _ _ _ _ _ g1 g2
                  · simp [World.putObj]; exact h.size
                  · intro g' l' hg'
                    obtain ⟨x1, cs₁, e₁, fz, x2, x3⟩ := h.glob g' l' hg'
                    exact ⟨x1, cs₁, e₁, fz, by unfold World.putObj; simp only; rw [Array.getElem?_setIfInBounds_ne (by omega)]; exact x2, x3⟩
                · refine ⟨hleρ, ?_, Nat.le_refl _, ?_, ⟨rfl, rfl, rfl, by simp [World.putObj], ?_⟩, ?_, ?_⟩
                  · intro i mm x hx
                    rcases Ren.add_cases hx with ⟨rfl, rfl, _⟩ | hx
                    · exact .inl ⟨m, _, hm⟩
                    · exact .inl ⟨mm, x, hx⟩
                  · intro i hi hno'
                    refine Tr.get_set_other _ _ ?_
                    rintro rfl
                    rw [hno' m] at hm; simp at hm
                  · intro k hk
                    unfold World.putObj
                    simp only
                    rw [Array.getElem?_setIfInBounds_ne (by omega)]
                  · intro i mm b' κ' hx
                    rcases Ren.add_cases hx with ⟨hi, _, he⟩ | hx
                    · simp at he; obtain ⟨rfl, rfl⟩ := he
                      exact .inl ⟨m, by rw [hi]; exact hm⟩
                    · exact .inl ⟨mm, hx⟩
                  · intro k _ hno'
                    unfold World.putObj
                    simp only
                    rw [Array.getElem?_setIfInBounds_ne fun e => hno' id m κ (by rw [hm, e])]
            · -- in place, as is known
              cases has : allSingle g.new <;> rw [has] at ha <;> simp only at ha
              · simp at ha
              cases hw : s.write ⟨id, m, off + len * g.sz⟩ g.new with
              | none => rw [hw] at ha; simp at ha
              | some s1 =>
                rw [hw] at ha; simp only [Option.some.injEq, Prod.mk.injEq] at ha
                obtain ⟨rfl, rfl⟩ := ha
                obtain ⟨cs', e', w1, w2, w3, w4⟩ := h.store hm hw hvs hne
                rw [hc] at w1; cases w1
                have hroom : off / g.sz + (len + g.n) ≤ κ := by
                  have h1 : (off / g.sz + (len + g.n)) * g.sz ≤ κ * g.sz := by
                    rw [← hcs, Nat.add_mul, Nat.add_mul, hoff, ← hnl, hvl]; omega
                  exact Nat.le_of_mul_le_mul_right h1 hzz
                refine ⟨ρ, _, _, ?_, .sliceU hm (by omega) (by omega) he hz, w3, w4⟩
                rw [r1 (by omega)]
                simp only [Addr.add_spot]
                rw [run_storeCells vs w cs (off + len * g.sz) 0 hc (allSingle_vrs has hvs) (by omega)]
                simp
        · simp only [Option.some.injEq, Prod.mk.injEq] at ha
          obtain ⟨rfl, rfl⟩ := ha
          have h0 := beq_iff.1 hn
          have hv0 : vs = [] := by
            have : vs.length = 0 := by rw [← hvl, hnl, h0]; simp
            exact List.length_eq_zero_iff.1 this
          refine ⟨ρ, w, _, ?_, .sliceU hm hll hl0 he hz, h, .refl ..⟩
          rw [r1 (by omega), hv0]
          simp [storeCells, h0]

end Go.AM
