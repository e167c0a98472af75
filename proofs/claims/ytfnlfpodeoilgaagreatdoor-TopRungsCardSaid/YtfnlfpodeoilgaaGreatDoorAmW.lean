/- The abstract machine, part W: regions that draw their order are sound; all of the evaluator is. No condition. -/
import Derived.Test.YtfnlfpodeoilgaaGreatDoorAmV
import Derived.Orders
set_option linter.all false
noncomputable section
namespace Go.AM
open Go.RowKit (Below)

section
variable {P : Program} {T : TT} (hT : TOk P T) {G : Globs} {F : FT} (hF : FOk P F) {B : Nat} {X : Rg} (hX : Good X.all)

include hT hF in
/-- The plan's next loud operation is made. -/
theorem Inv.act {r : Rec} (hr : Sound P G F B r) {cx : Cx} (hcx : cx.n = X.n) {D S env s own ρ w tm} (hX : Good X.all) (h : Inv T G B X D S env s own ρ w tm) {ops : Array Oper} (hall : ops.toList = X.all) {i : Nat} {o : Oper}
    (ho : ops[i]? = some o) (hi : ¬ D i) (hm : ∀ j, mb (masks X.all []) i j → S j) {defs defs' : List ADef} {s' : St} {v : AV} {env' : Tr AV}
    (hv : doGuarded T G r cx X.all o (sub env (opSlots X.all o)) defs s = some (v, defs', s')) (hp : putEnv cx.n env o.dst v = some env')
    (b : FB) (ds : List Deferred) (rest : List Nat) (k : List Item) (cs : List Frame) (hds : DefsR ρ defs ds) (hround : RoundR ρ cx.round b.round) :
    ∃ ρ' w' tm' ds', Steps P (lone (fat b tm ds (.inRegion ops (i :: rest) :: k)) cs w) (lone (fat b tm' ds' (.inRegion ops rest :: k)) cs w') ∧ ρ.le ρ' ∧ DefsR ρ' defs' ds' ∧
      WInv T G B X (fun j => D j ∨ j = i) (fun j => S j ∨ j = i) env' s' own ρ' w' tm' := by
  have hn : nth X.all i = some o := by rw [nth_eq, ← hall]; simpa using ho
  have hSi : ¬ S i := fun hs => hi (h.subD i hs)
  have hE := h.toWInv.slots (h.toWInv.heldE hX hn hi) hm hSi
  obtain ⟨ρ', w', ds', u, c1, c2, c3, c4, c5⟩ := guarded_sound hT hF hr hv ho hall h.rel (by rw [hcx]; exact hE) hds hround (b := b) (rest := rest) (k := k) (cs := cs)
  obtain ⟨hp1, hp2⟩ := putEnv_get hp
  have hdst : ∀ t, (¬ o.dst = some t) → (putT tm o.dst u)[t]? = tm[t]? := fun t ht => by
    unfold putT
    cases hd : o.dst with
    | none => rfl
    | some d =>
      have hdt : d ≠ t := fun e => ht (by rw [hd, e])
      simp only; rw [Array.getElem?_setIfInBounds_ne hdt]
  have hnw : ∀ t, (∀ j, wr X.all j t → D j) → o.dst ≠ some t := fun t ht hd => hi (ht i ⟨o, hn, hd⟩)
  refine ⟨ρ', w', putT tm o.dst u, ds', c1, c5.le, c3, ?_, ?_, ?_, ?_, ?_, c4, h.ext.trans c5, ?_, ?_, ?_, ?_⟩
  · rintro a j (ha | rfl) hj
    · exact .inl (h.closed _ _ ha hj)
    · exact .inl (hm j hj)
  · rintro a j (ha | rfl) hj
    · exact .inl (h.dclosed _ _ ha hj)
    · exact .inl (h.subD _ (hm j hj))
  · rintro j (hj | rfl)
    · exact .inl (h.subD j hj)
    · exact .inr rfl
  · rintro j o' hj (hDj | rfl) hSj hrd
    · refine (h.all_held j o' hj hDj fun hs => hSj (.inl hs)).move (D := D) hj hX hDj h.dclosed (fun t x hx ht => by rw [hp2 t (hnw t ht)]; exact hx) ?_ (by rw [hrd]; simp)
      intro id q1 q2 q3
      refine ⟨q1, Nat.lt_of_lt_of_le q2 c5.ctr, fun m => ?_, c5.keep id q2 q3⟩
      cases hx : ρ' id m with
      | none => rfl
      | some x =>
        rcases c5.new id m x hx with ⟨m', x', g⟩ | g
        · rw [q3 m'] at g; simp at g
        · omega
    · exact absurd (.inr rfl) hSj
  · rintro j d (hDj | rfl) hw
    · exact h.dn j d hDj hw
    · obtain ⟨p, hpp, hpd⟩ := hw
      rw [hn] at hpp; cases hpp; rw [← hcx]; exact (hp1 d hpd).1
  · unfold putT; cases o.dst <;> simp [h.size]
  · intro t x hx hw
    rw [hdst t fun hd => hw i ⟨o, hn, hd⟩ (.inr rfl)]
    obtain ⟨u', g1, g2⟩ := h.old t x hx fun j hj hs => hw j hj (.inl hs)
    exact ⟨u', g1, g2.mono c5.le⟩
  · intro t x hx hw
    by_cases hd : o.dst = some t
    · obtain ⟨g1, g2⟩ := hp1 t hd
      rw [hx] at g2; cases g2
      exact ⟨u, by rw [hd]; simp [putT, h.size, ← hcx, g1], c2⟩
    · rw [hdst t hd]
      rw [hp2 t hd] at hx
      obtain ⟨u', g1, g2⟩ := h.new t x hx fun j hj => by
        rcases hw j hj with g | g
        · exact g
        · subst g
          obtain ⟨p, hp, hpd⟩ := hj
          rw [hn] at hp; cases hp; exact absurd hpd hd
      exact ⟨u', g1, g2.mono c5.le⟩
  · rintro t x hx ⟨j, hj, hnj⟩
    have hjt : o.dst ≠ some t := fun hd => hnj (.inr (hX.uniq _ _ _ hj ⟨o, hn, hd⟩))
    rw [hp2 t hjt] at hx
    exact h.fresh t x hx ⟨j, hj, fun hD => hnj (.inl hD)⟩

/-- The bits of a number, as a set. -/
def bits (m : Nat) : Nat → Prop := fun j => m.testBit j = true

theorem bits_or {did q : Nat} : bits (did ||| 2 ^ q) = fun j => bits did j ∨ j = q := funext fun _ => propext bit_or

theorem quiet_class {o : Oper} (h : isQuiet o.op = true) (hr : clsOf o.op ≠ .alloc) : clsOf o.op = .pure ∨ clsOf o.op = .read := by
  unfold isQuiet at h
  cases hc : clsOf o.op <;> rw [hc] at h <;> simp_all

/-- The quiet operations of a phase. -/
theorem WInv.quiets {S ρ w tm} (hX : Good X.all) : ∀ (qs : List Nat) (did did' : Nat) (env env' : Tr AV) (s s' : St) (own : Nat → Option Nat), WInv T G B X (bits did) S env s own ρ w tm →
    quietsOk X.all (masks X.all []) qs did = some did' → quietRun T G X.n X.all qs env s = some (env', s') →
    ∃ own', WInv T G B X (bits did') S env' s' own' ρ w tm ∧ (∀ q o, q ∈ tailOf X.all qs → nth X.all q = some o → Held T G X env' s' ρ own' q o) ∧ (∀ j, bits did j → bits did' j) ∧
      (∀ i o, nth X.all i = some o → bits did i → ¬ S i → Held T G X env s ρ own i o → (isRead o.op = true → (qs.all fun j => !isAllocAt X.all j) = true) → Held T G X env' s' ρ own' i o)
  | [], did, did', env, env', s, s', own, h, hq, hrun => by
    simp [quietsOk] at hq; subst hq
    simp [quietRun] at hrun; obtain ⟨rfl, rfl⟩ := hrun
    exact ⟨own, h, fun q o hq => by simp [tailOf] at hq, fun _ h => h, fun _ _ _ _ _ h _ => h⟩
  | q :: qs, did, did', env, env', s, s', own, h, hq, hrun => by
    simp only [quietsOk] at hq
    simp only [quietRun] at hrun
    cases ho : nth X.all q with
    | none => rw [ho] at hrun; simp at hrun
    | some o =>
      rw [ho] at hq hrun; simp only at hrun
      cases hmq : nth (masks X.all []) q with
      | none => rw [hmq] at hq; simp at hq
      | some m =>
        rw [hmq] at hq; simp only at hq
        split at hq
        case h_2 => simp at hq
        rename_i hc
        simp only [Bool.and_eq_true, Bool.not_eq_true'] at hc
        obtain ⟨⟨hc1, hc2⟩, hc3⟩ := hc
        cases hv : quietOne T G X.all (Go.AM.sub env (opSlots X.all o)) s o with
        | none => rw [hv] at hrun; simp at hrun
        | some p =>
          obtain ⟨v, s1⟩ := p
          rw [hv] at hrun; simp only at hrun
          cases hp : putEnv X.n env o.dst v with
          | none => rw [hp] at hrun; simp at hrun
          | some env1 =>
            rw [hp] at hrun; simp only at hrun
            have hnq : ¬ bits did q := by simp [bits, hc2]
            obtain ⟨own1, g1, g2, g3, g4⟩ := h.quiet hX ho hnq (fun j ⟨m', e1, e2⟩ => by rw [hmq] at e1; cases e1; exact sub_mask hc3 e2) hv hp
            rw [← bits_or] at g1
            obtain ⟨own2, f1, f2, f3, f4⟩ := WInv.quiets hX qs (did ||| 2 ^ q) did' env1 env' s1 s' own1 g1 hq hrun
            have hsub : ∀ j, bits did j → bits (did ||| 2 ^ q) j := fun j hj => bit_or.2 (.inl hj)
            have hnS : ¬ S q := fun hs => hnq (h.subD q hs)
            refine ⟨own2, f1, ?_, fun j hj => f3 j (hsub j hj), ?_⟩
            · intro q' o' hq' ho'
              simp only [tailOf] at hq'
              split at hq'
              · rename_i hal
                rcases List.mem_cons.1 hq' with rfl | hq'
                · rw [ho] at ho'; cases ho'
                  exact f4 _ o ho (bit_or.2 (.inr rfl)) hnS g2 fun _ => hal
                · exact f2 q' o' hq' ho'
              · exact f2 q' o' hq' ho'
            · intro i o' hi hDi hSi hHi hrd
              refine f4 i o' hi (hsub i hDi) hSi (g4 i o' hi hDi hSi hHi fun hh => ?_) fun hh => ?_
              · have := hrd hh
                simp only [List.all_cons, Bool.and_eq_true, Bool.not_eq_true'] at this
                refine g3 fun hcl => ?_
                have h2 := this.1
                simp [isAllocAt, ho, hcl] at h2
              · have := hrd hh
                simp only [List.all_cons, Bool.and_eq_true] at this
                exact this.2

/-- The reads that were asked again. -/
theorem recheck_spec {env : Tr AV} {s : St} : ∀ {rc : List Nat}, recheck T G X.all env s rc = true → ∀ q ∈ rc, ∀ o, nth X.all q = some o →
    ∃ v s', quietOne T G X.all (Go.AM.sub env (opSlots X.all o)) s o = some (v, s') ∧ ∀ d, o.dst = some d → env.get d = some v
  | [], _, q, hq, _, _ => by simp at hq
  | p :: ps, h, q, hq, o, ho => by
    simp only [recheck] at h
    cases hp : nth X.all p with
    | none => rw [hp] at h; simp at h
    | some o1 =>
      rw [hp] at h; simp only at h
      cases hv : quietOne T G X.all (Go.AM.sub env (opSlots X.all o1)) s o1 with
      | none => rw [hv] at h; simp at h
      | some y =>
        obtain ⟨v, s'⟩ := y
        rw [hv] at h; simp only at h
        have both : recheck T G X.all env s ps = true ∧ ∀ d, o1.dst = some d → env.get d = some v := by
          cases hd : o1.dst with
          | none => rw [hd] at h; exact ⟨h, fun d hd => by simp at hd⟩
          | some d =>
            rw [hd] at h; simp only at h
            cases hg : env.get d with
            | none => rw [hg] at h; simp at h
            | some v' =>
              rw [hg] at h; simp only at h
              split at h
              · rename_i hs
                have := sameAV_eq hs
                subst this
                exact ⟨h, fun d' hd' => by simp at hd'; subst hd'; exact hg⟩
              · simp at h
        rcases List.mem_cons.1 hq with rfl | hq
        · rw [hp] at ho; cases ho
          exact ⟨v, s', hv, both.2⟩
        · exact recheck_spec both.1 q hq o ho

/-- A phase's quiet operations, and its reads asked again. -/
theorem WInv.phase {S env s own ρ w tm} (hX : Good X.all) {did d : Nat} (h : WInv T G B X (bits did) S env s own ρ w tm) {am : Nat} (ham : ∀ j, am.testBit j = true → S j) {qs rc : List Nat}
    (hq : quietsOk X.all (masks X.all []) qs did = some d) {env' : Tr AV} {s' : St} (hrun : quietRun T G X.n X.all qs env s = some (env', s')) (hrc : rcOk X.all (masks X.all []) am d (tailOf X.all qs) rc = true)
    (hre : recheck T G X.all env' s' rc = true) : ∃ own', Inv T G B X (bits d) S env' s' own' ρ w tm := by
  obtain ⟨own', f1, f2, f3, f4⟩ := h.quiets hX qs did d env env' s s' own hq hrun
  refine ⟨own', f1, fun i o ho hDi hSi => ?_⟩
  cases hrd : isRead o.op with
  | false => exact f1.held i o ho hDi hSi hrd
  | true =>
    unfold rcOk at hrc
    simp only [Bool.and_eq_true] at hrc
    obtain ⟨r1, r2⟩ := hrc
    have := below_spec r1 i (nth_lt ho)
    have hra : isReadAt X.all i = true := by simp [isReadAt, ho, hrd]
    have hDi' : d.testBit i = true := hDi
    rw [hra, hDi'] at this
    simp only [Bool.not_true, Bool.false_or, Bool.or_eq_true] at this
    rcases this with (g | g) | g
    · exact absurd (ham i g) hSi
    · exact f2 i o (by simpa using g) ho
    · have hmem : i ∈ rc := by simpa using g
      obtain ⟨v, s1, g1, g2⟩ := recheck_spec hre i hmem o ho
      have hcl : clsOf o.op = .read := by
        unfold isRead at hrd
        cases hc : clsOf o.op <;> rw [hc] at hrd <;> simp_all
      have hsl := List.all_eq_true.1 r2 i hmem
      rw [ho] at hsl
      cases hmi : nth (masks X.all []) i with
      | none => rw [hmi] at hsl; simp at hsl
      | some m =>
        rw [hmi] at hsl; simp only at hsl
        refine ⟨Go.AM.sub env' (opSlots X.all o), v, fun t x hx => ?_, ?_, g2⟩
        · obtain ⟨h1, h2⟩ := sub_get hx
          by_cases hw : ∀ j, wr X.all j t → mb (masks X.all []) i j
          · exact .inl ⟨h1, hw⟩
          · simp only [Classical.not_forall] at hw
            obtain ⟨j, hj, hn⟩ := hw
            obtain ⟨p, hp, hpd⟩ := id hj
            have := below_spec (List.all_eq_true.1 hsl t h2) j (nth_lt hp)
            rw [dstAt_iff.2 hj] at this
            simp only [Bool.not_true, Bool.false_or, Bool.or_eq_true, Bool.not_eq_true'] at this
            rcases this with this | this
            · exact absurd ⟨m, hmi, this⟩ hn
            · refine .inr ⟨f1.fresh t x h1 ⟨j, hj, by simp [bits, this]⟩, fun j' hj' => ?_⟩
              have e := hX.uniq _ _ _ hj hj'
              subst e
              rcases hX.slot i o t j ho h2 hj with g | g | g
              · exact absurd g hn
              · exact .inl g
              · exact .inr g
        · rcases quietOne_spec g1 with ⟨q1, rfl, rfl⟩ | ⟨q1, (⟨q2, _⟩ | ⟨q2, q3, rfl⟩ | ⟨q2, _⟩)⟩
          · exact .skip q1
          · rw [hcl] at q2; simp at q2
          · exact .read q1 q2 q3
          · rw [hcl] at q2; simp at q2

/-! Any order that the machine draws. -/
def isOn (listed : Array Bool) : Nat → Prop := fun j => listed[j]? = some true

theorem isOn_set {listed : Array Bool} {i : Nat} (hi : i < listed.size) (j : Nat) : (isOn listed j ∨ j = i) ↔ isOn (listed.setIfInBounds i true) j := by
  unfold isOn
  rw [Array.getElem?_setIfInBounds]
  by_cases h : i = j
  · subst h; simp [hi]
  · simp only [h, if_false]
    constructor
    · rintro (g | g)
      · exact g
      · exact absurd g.symm h
    · exact .inl

def readyL (ops : Array Oper) (listed : Array Bool) : List Nat := (List.range ops.size).filter fun i =>
  !listed.getD i true && ((ops[i]?).map (·.after.all fun e => !Region.binds .any e || listed.getD e.on false)).getD false

theorem ready_mem {ops : Array Oper} {listed : Array Bool} (hs : listed.size = ops.size) {i : Nat} : i ∈ readyL ops listed ↔ ∃ o, ops[i]? = some o ∧ ¬ isOn listed i ∧ ∀ e ∈ o.after.toList, binds e = true → isOn listed e.on := by
  unfold readyL
  rw [List.mem_filter, List.mem_range]
  constructor
  · rintro ⟨h1, h2⟩
    simp only [Bool.and_eq_true, Bool.not_eq_true'] at h2
    obtain ⟨h2, h3⟩ := h2
    have hi : i < listed.size := by omega
    refine ⟨ops[i], by simp [h1], ?_, ?_⟩
    · unfold isOn
      simp [Array.getD_eq_getD_getElem?, hi] at h2 ⊢
      exact h2
    · intro e he hb
      rw [Array.getElem?_eq_getElem h1] at h3
      simp only [Option.map_some, Option.getD_some, Array.all_eq_true_iff_forall_mem] at h3
      have := h3 e (by simpa using he)
      rw [← binds_eq, hb] at this
      simp only [Bool.not_true, Bool.false_or] at this
      unfold isOn
      rw [Array.getD_eq_getD_getElem?] at this
      cases hx : listed[e.on]? with
      | none => rw [hx] at this; simp at this
      | some x => rw [hx] at this; simpa using this
  · rintro ⟨o, ho, h2, h3⟩
    have h1 : i < ops.size := (Array.getElem?_eq_some_iff.1 ho).1
    refine ⟨h1, ?_⟩
    have hi : i < listed.size := by omega
    simp only [Bool.and_eq_true, Bool.not_eq_true']
    refine ⟨?_, ?_⟩
    · unfold isOn at h2
      simp [Array.getD_eq_getD_getElem?, hi] at h2 ⊢
      exact h2
    · rw [ho]
      simp only [Option.map_some, Option.getD_some, Array.all_eq_true_iff_forall_mem]
      intro e he
      rw [← binds_eq]
      cases hb : binds e with
      | false => simp
      | true =>
        have := h3 e (by simpa using he) hb
        unfold isOn at this
        simp [Array.getD_eq_getD_getElem?, this]

theorem ready_some {ops : Array Oper} (hX : Good ops.toList) {listed : Array Bool} (hs : listed.size = ops.size) : ∀ n i, i < n → i < ops.size → ¬ isOn listed i → ∃ j, j ∈ readyL ops listed
  | 0, i, h, _, _ => by omega
  | n + 1, i, h, hi, hn => by
    have ho : ops[i]? = some ops[i] := by simp [hi]
    by_cases hall : ∀ e ∈ (ops[i]).after.toList, binds e = true → isOn listed e.on
    · exact ⟨i, (ready_mem hs).2 ⟨_, ho, hn, hall⟩⟩
    · simp only [Classical.not_forall] at hall
      obtain ⟨e, he, hb, hno⟩ := hall
      have hlt := hX.edge i ops[i] e (by rw [nth_eq]; simp [hi]) he hb
      exact ready_some hX hs n e.on (by omega) (by omega) hno

include hT hF in
theorem draw_go {r : Rec} (hr : Sound P G F B r) {cx : Cx} (hcx : cx.n = X.n) (hX : Good X.all) {ops : Array Oper} (hall : ops.toList = X.all) {b : FB} {k : List Item} {cs : List Frame} {env' : Tr AV} {defs' : List ADef} {s' : St} :
    ∀ (fuel t : Nat) (listed : Array Bool) (ps : List Phase) (did : Nat) (env : Tr AV) (s : St) (own : Nat → Option Nat) (ρ : Ren) (w : World) (tm : Array Value) (ds : List Deferred) (defs : List ADef),
      Inv T G B X (bits did) (isOn listed) env s own ρ w tm → DefsR ρ defs ds → RoundR ρ cx.round b.round → listed.size = ops.size → listed.toList.count true + fuel = ops.size →
      phasesOk X.all (masks X.all []) false ps did = true → drawRun T G r cx X.all ps env defs s = some (env', defs', s') →
      ∃ ρ' w' tm' ds', Steps P (lone (fat b tm ds (.inRegion ops (Region.linearise.go .any ops fuel t listed []) :: k)) cs w) (lone (fat b tm' ds' k) cs w') ∧ EnvR ρ' env' cx.n tm' ∧ DefsR ρ' defs' ds' ∧
        Rel G B ρ' s' w' ∧ Ext B X.ρ0 X.s0 X.w0 ρ' s' w' := by
  intro fuel
  induction fuel with
  | zero =>
    intro t listed ps did env s own ρ w tm ds defs hI hds hround hsz hcnt hok hrun
    have hallon : ∀ j, j < ops.size → isOn listed j := by
      have : listed.toList.count true = listed.toList.length := by rw [Array.length_toList]; omega
      have h2 := List.count_eq_length.1 this
      intro j hj
      have hj' : j < listed.size := by omega
      have := h2 listed[j] (by simp)
      unfold isOn
      rw [Array.getElem?_eq_getElem hj', ← this]
    simp only [Region.linearise.go, List.reverse_nil]
    cases ps with
    | nil =>
      simp [drawRun] at hrun; obtain ⟨rfl, rfl, rfl⟩ := hrun
      refine ⟨ρ, w, tm, ds, .one st_regionEnd, ⟨by rw [hcx]; exact hI.size, fun t x hx => hI.new t x hx fun j hj => ?_⟩, hds, hI.rel, hI.ext⟩
      obtain ⟨p, hp, _⟩ := hj
      have := nth_lt hp
      rw [← hall] at this
      exact hallon j (by simpa using this)
    | cons ph ps =>
      exfalso
      simp only [phasesOk] at hok
      split at hok
      · simp at hok
      · rename_i hsome
        cases hact : ph.act with
        | none => rw [hact] at hsome; simp at hsome
        | some a =>
          rw [hact] at hok
          simp only [actOk] at hok
          cases hna : nth X.all a with
          | none => rw [hna] at hok; simp at hok
          | some o =>
            cases hma : nth (masks X.all []) a with
            | none => rw [hna, hma] at hok; simp at hok
            | some m =>
              rw [hna, hma] at hok; simp only at hok
              split at hok
              · simp at hok
              · rename_i d1 hd1
                split at hd1
                · rename_i hc
                  simp only [Bool.and_eq_true, Bool.not_eq_true'] at hc
                  have hlt := nth_lt hna
                  rw [← hall] at hlt
                  have := hI.subD a (hallon a (by simpa using hlt))
                  unfold bits at this
                  rw [hc.1.1] at this; simp at this
                · simp at hd1
  | succ fuel ih =>
    intro t listed ps did env s own ρ w tm ds defs hI hds hround hsz hcnt hok hrun
    have hex : ∃ j, j ∈ readyL ops listed := by
      have : ¬ (∀ b, b ∈ listed.toList → true = b) := fun h => by
        have := List.count_eq_length.2 h
        rw [Array.length_toList] at this; omega
      simp only [Classical.not_forall] at this
      obtain ⟨b, hb, hne⟩ := this
      obtain ⟨j, hj, rfl⟩ := List.getElem_of_mem hb
      have hj' : j < listed.size := by simpa using hj
      refine ready_some (by rw [hall]; exact hX) hsz (j + 1) j (by omega) (by omega) ?_
      unfold isOn
      rw [Array.getElem?_eq_getElem hj']
      simp at hne ⊢; exact hne
    obtain ⟨j, hj⟩ := hex
    have hpos : 0 < (readyL ops listed).length := List.length_pos_of_mem hj
    have hidx : t % (readyL ops listed).length < (readyL ops listed).length := Nat.mod_lt _ hpos
    have hgo : Region.linearise.go .any ops (fuel + 1) t listed [] = (readyL ops listed)[t % (readyL ops listed).length] ::
        Region.linearise.go .any ops fuel (t / (readyL ops listed).length) (listed.setIfInBounds (readyL ops listed)[t % (readyL ops listed).length] true) [] := by
      rw [Region.linearise.go]
      change (match (readyL ops listed)[t % (readyL ops listed).length]? with
        | some i => Region.linearise.go .any ops fuel (t / (readyL ops listed).length) (listed.setIfInBounds i true) [i]
        | none => [].reverse) = _
      rw [List.getElem?_eq_getElem hidx]
      simp only
      rw [linearise_go_acc]; simp
    rw [hgo]
    have hmem := List.getElem_mem hidx
    generalize (readyL ops listed)[t % (readyL ops listed).length] = i at hmem
    obtain ⟨o, ho, hnon, hedges⟩ := (ready_mem hsz).1 hmem
    have hi : i < ops.size := (Array.getElem?_eq_some_iff.1 ho).1
    have hn : nth X.all i = some o := by rw [nth_eq, ← hall]; simpa using ho
    have hrdy : ∀ j, mb (masks X.all []) i j → isOn listed j := fun j hj => by
      obtain ⟨e, he, hb, g⟩ := mb_edge hn hj
      rcases g with rfl | g
      · exact hedges e he hb
      · exact hI.closed _ _ (hedges e he hb) g
    have hsz' : (listed.setIfInBounds i true).size = ops.size := by simp [hsz]
    have hcnt' : (listed.setIfInBounds i true).toList.count true + fuel = ops.size := by
      have hil : i < listed.toList.length := by rw [Array.length_toList]; omega
      rw [Array.toList_setIfInBounds, List.count_set hil]
      have hf : listed.toList[i] = false := by
        unfold isOn at hnon
        have hi' : i < listed.size := by omega
        rw [Array.getElem?_eq_getElem hi'] at hnon
        simp at hnon ⊢; exact hnon
      have h0 : listed.toList.count true ≤ ops.size := by omega
      rw [hf]; simp only [Bool.false_eq_true, if_false, beq_self_eq_true, if_true, show (false == true) = false from rfl]; omega
    by_cases hD : bits did i
    · obtain ⟨ρ1, w1, tm1, c1, c2, c3⟩ := hI.exec hT hX hall ho hD hnon hrdy b ds (Region.linearise.go .any ops fuel (t / (readyL ops listed).length) (listed.setIfInBounds i true) []) k cs
      obtain ⟨ρ', w', tm', ds', d1, d2⟩ := ih _ _ ps did env s own ρ1 w1 tm1 ds defs (c3.congr fun j => isOn_set (by omega) j) (hds.mono c2) (hround.mono c2) hsz' hcnt' hok hrun
      exact ⟨ρ', w', tm', ds', c1.trans d1, d2⟩
    · cases ps with
      | nil =>
        simp only [phasesOk] at hok
        exact absurd (below_spec hok i (nth_lt hn)) hD
      | cons ph ps =>
        simp only [phasesOk] at hok
        split at hok
        · simp at hok
        · rename_i hsome
          cases hact : ph.act with
          | none => rw [hact] at hsome; simp at hsome
          | some a =>
            rw [hact] at hok
            cases hd1 : actOk X.all (masks X.all []) (some a) did with
            | none => rw [hd1] at hok; simp at hok
            | some d1 =>
              rw [hd1] at hok; simp only at hok
              simp only [actOk] at hd1
              cases hna : nth X.all a with
              | none => rw [hna] at hd1; simp at hd1
              | some oa =>
                cases hma : nth (masks X.all []) a with
                | none => rw [hna, hma] at hd1; simp at hd1
                | some m =>
                  rw [hna, hma] at hd1; simp only at hd1
                  split at hd1
                  case h_2 => simp at hd1
                  rename_i hc
                  simp at hd1; subst hd1
                  simp only [Bool.and_eq_true, Bool.not_eq_true'] at hc
                  obtain ⟨⟨hc1, hc2⟩, hc3⟩ := hc
                  have hai : i = a := by
                    by_cases e : i = a
                    · exact e
                    · exfalso
                      have := below_spec hc3 i (nth_lt hn)
                      have hnb : (did ||| 2 ^ a).testBit i = false := by
                        cases hx : (did ||| 2 ^ a).testBit i with
                        | false => rfl
                        | true =>
                          rcases bit_or.1 hx with g | g
                          · exact absurd g hD
                          · exact absurd g e
                      rw [hnb] at this
                      simp only [Bool.false_or] at this
                      cases hmi : nth (masks X.all []) i with
                      | none => rw [hmi] at this; simp at this
                      | some mi =>
                        rw [hmi] at this
                        have := hI.subD a (hrdy a ⟨mi, hmi, this⟩)
                        unfold bits at this
                        rw [hc1] at this; simp at this
                  subst hai
                  rw [hn] at hna; cases hna
                  simp only [drawRun] at hrun
                  cases har : actRun T G r cx X.all ph.act env defs s with
                  | none => rw [har] at hrun; simp at hrun
                  | some q =>
                    obtain ⟨env1, defs1, s1⟩ := q
                    rw [har] at hrun; simp only at hrun
                    rw [hact] at har
                    simp only [actRun, hn] at har
                    cases hg : doGuarded T G r cx X.all o (Go.AM.sub env (opSlots X.all o)) defs s with
                    | none => rw [hg] at har; simp at har
                    | some q =>
                      obtain ⟨v, defs2, s2⟩ := q
                      rw [hg] at har; simp only at har
                      cases hp : putEnv cx.n env o.dst v with
                      | none => rw [hp] at har; simp at har
                      | some env2 =>
                        rw [hp] at har; simp at har; obtain ⟨rfl, rfl, rfl⟩ := har
                        obtain ⟨ρ1, w1, tm1, ds1, c1, c2, c3, c4⟩ := hI.act hT hF hr hcx hX hall ho hD hrdy hg hp b ds
                          (Region.linearise.go .any ops fuel (t / (readyL ops listed).length) (listed.setIfInBounds i true) []) k cs hds hround
                        rw [← bits_or] at c4
                        cases hqk : quietsOk X.all (masks X.all []) ph.quiet (did ||| 2 ^ i) with
                        | none => rw [hqk] at hok; simp at hok
                        | some d =>
                          rw [hqk] at hok; simp only at hok
                          split at hok
                          · simp at hok
                          · rename_i hrc
                            cases hqr : quietRun T G cx.n X.all ph.quiet env2 s2 with
                            | none => rw [hqr] at hrun; simp at hrun
                            | some q =>
                              obtain ⟨env3, s3⟩ := q
                              rw [hqr] at hrun; simp only at hrun
                              split at hrun
                              · simp at hrun
                              · rename_i hre
                                rw [hcx] at hqr
                                obtain ⟨own', hI'⟩ := c4.phase hX (am := maskAt (masks X.all []) (some i))
                                  (fun j hj => .inl (hrdy j (by simp only [maskAt, hma] at hj; exact ⟨m, hma, hj⟩))) hqk hqr hrc hre
                                obtain ⟨ρ', w', tm', ds', d1, d2⟩ := ih _ _ ps d env3 s3 own' ρ1 w1 tm1 ds1 defs2 (hI'.congr fun j => isOn_set (by omega) j) c3 (hround.mono c2) hsz' hcnt' hok hrun
                                exact ⟨ρ', w', tm', ds', c1.trans d1, d2⟩
end
end Go.AM
