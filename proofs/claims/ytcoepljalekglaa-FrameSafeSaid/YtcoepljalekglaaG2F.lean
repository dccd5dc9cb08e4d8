/- Lemmas for the walk: part F. -/
import Derived.Test.YtcoepljalekglaaG2E
set_option linter.unusedSimpArgs false
set_option linter.unusedVariables false
set_option linter.all false
/-! Regions that draw their order: a chain of operations that do something, and floaters that only tell. -/
namespace Go.Proofs.Ytcoepljalekglaa.G2
open Go.RowKit

/-- The operations that stand before, in every order that may be drawn. -/
def preds (ops : Array Oper) (i : Nat) : List Nat := match ops[i]? with
  | some o => (o.after.toList.filter fun e => Region.binds .any e).map (·.on)
  | none => []
def memN (i : Nat) : List Nat → Bool
  | [] => false
  | j :: l => bif Nat.beq j i then true else memN i l
theorem memN_iff {i : Nat} : ∀ {l : List Nat}, memN i l = true ↔ i ∈ l
  | [] => by simp [memN]
  | j :: l => by
    simp only [memN, List.mem_cons]
    cases hb : Nat.beq j i with
    | true => have := Nat.eq_of_beq_eq_true hb; simp [this]
    | false =>
      have hne : j ≠ i := fun e => by rw [e, Nat.beq_refl] at hb; cases hb
      simp only [cond_false, memN_iff]
      constructor
      · exact .inr
      · rintro (rfl | h)
        · exact absurd rfl hne
        · exact h
/-- Where an operation's temporaries come from stands before it. -/
def homeOk (ops : Array Oper) (i : Nat) : Bool := match ops[i]? with
  | some o => (o.looksAt ops).all fun t => (List.range ops.size).all fun j => match (ops[j]?).bind (·.dst) with | some d => bif Nat.beq d t then memN j (preds ops i) else true | none => true
  | none => false

/-- The temporary of a floater that is known ahead. -/
def dstOf (ops : Array Oper) (i : Nat) : Option Tmp := (ops[i]?).bind (·.dst)

structure Inv (n : Nat) (ops : Array Oper) (fl done : List Nat) (ρ : Env) (listed : Array Bool) (a : Act) : Prop where
  size : a.tmps.size = n
  defers : a.defers = []
  lsize : listed.size = ops.size
  only : ∀ i, listed.getD i false = true → i ∈ done ∨ i ∈ fl
  all : ∀ i ∈ done, listed.getD i false = true
  at_ : ∀ t, has ρ t = true → (∃ i ∈ fl, listed.getD i false = false ∧ dstOf ops i = some t) ∨ a.tmps.getD t undef = gt ρ t

def unl (listed : Array Bool) : Nat := listed.toList.countP (! ·)
theorem unl_set {listed : Array Bool} {i : Nat} (hi : i < listed.size) (hf : listed.getD i false = false) : unl (listed.setIfInBounds i true) + 1 = unl listed := by
  unfold unl
  rw [Array.toList_setIfInBounds]
  have h1 : i < listed.toList.length := by simpa using hi
  have h2 : listed.toList[i] = false := by simpa [Array.getD_eq_getD_getElem?, hi] using hf
  rw [List.countP_set h1, h2]
  have : 0 < listed.toList.countP (! ·) := List.countP_pos_iff.2 ⟨false, by rw [← h2]; exact List.getElem_mem h1, rfl⟩
  simp only [Bool.not_false, if_true, Bool.not_true, Bool.false_eq_true, if_false]
  omega
theorem unl_zero {listed : Array Bool} (h : unl listed = 0) : ∀ i, i < listed.size → listed.getD i false = true := by
  intro i hi
  unfold unl at h
  rw [List.countP_eq_zero] at h
  have := h listed[i] (by simp)
  simpa [Array.getD_eq_getD_getElem?, hi] using this

def WD (P : Program) (n : Nat) (ops : Array Oper) (Q : Post) (fl done : List Nat) (ρ : Env) (w : World) : Prop :=
  ∀ fuel listed a, Inv n ops fl done ρ listed a → unl listed ≤ fuel → wpAny P .any ops (hat n Q) fuel listed a w

section
variable {P : Program} {n : Nat} {ops : Array Oper} {Q : Post} {ρ : Env} {w : World} {fl done : List Nat}

/-- What a floater gives: a value, and the world stays. -/
def Floats (P : Program) (n : Nat) (ops : Array Oper) (ρ : Env) (w : World) (i : Nat) : Prop :=
  homeOk ops i = true ∧ ∃ o, ops[i]? = some o ∧ dstOk n o = true ∧ ∃ d, o.dst = some d ∧ has ρ d = true ∧
    ((wantE ops ρ o = some false ∧ gt ρ d = undef) ∨ (wantE ops ρ o = some true ∧ okOp n ρ o = true ∧ (execOp (ev ρ) o).run P w = .ok (.value (gt ρ d)) w))

theorem Inv.look {listed : Array Bool} {a : Act} (I : Inv n ops fl done ρ listed a) {i : Nat} {o : Oper} (ho : ops[i]? = some o) (hh : homeOk ops i = true)
    (hr : ∀ j ∈ preds ops i, listed.getD j false = true) {t : Nat} (ht : t ∈ o.looksAt ops) (hp : has ρ t = true) : a.tmps.getD t undef = gt ρ t := by
  rcases I.at_ t hp with ⟨j, _, hj, hd⟩ | h
  · exfalso
    simp only [homeOk, ho, List.all_eq_true] at hh
    have hjs : j < ops.size := by
      unfold dstOf at hd
      cases e : ops[j]? with
      | none => rw [e] at hd; cases hd
      | some _ => exact getElem?_lt e
    have := hh t ht j (by simpa using hjs)
    unfold dstOf at hd
    simp only [hd, Nat.beq_refl, cond_true] at this
    rw [hr j (memN_iff.1 this)] at hj
    cases hj
  · exact h

theorem preds_of_ready {listed : Array Bool} {i : Nat} (hs : listed.size = ops.size) (hi : i ∈ Region.ready .any ops listed) : i < ops.size ∧ listed.getD i false = false ∧ ∀ j ∈ preds ops i, listed.getD j false = true := by
  simp only [Region.ready, List.mem_filter, List.mem_range, Bool.and_eq_true, Bool.not_eq_true'] at hi
  obtain ⟨hlt, hl, ha⟩ := hi
  refine ⟨hlt, ?_, fun j hj => ?_⟩
  · have : i < listed.size := by omega
    simp only [Array.getD_eq_getD_getElem?, Array.getElem?_eq_getElem this, Option.getD_some] at *
    exact hl
  · cases ho : ops[i]? with
    | none => simp [ho] at ha
    | some o =>
      simp only [ho, Option.map_some, Option.getD_some, Array.all_eq_true_iff_forall_mem] at ha
      simp only [preds, ho, List.mem_map, List.mem_filter] at hj
      obtain ⟨e, ⟨he, hb⟩, rfl⟩ := hj
      have := ha e (by simpa using he)
      simp only [hb, Bool.not_true, Bool.false_or] at this
      exact this

/-- As the environment has it, an operation that is ready runs. -/
theorem Inv.exec {listed : Array Bool} {a : Act} (I : Inv n ops fl done ρ listed a) {i : Nat} {o : Oper} (ho : ops[i]? = some o) (hh : homeOk ops i = true)
    (hr : ∀ j ∈ preds ops i, listed.getD j false = true) (hk : okOp n ρ o = true) : execOp a.eval o = execOp (ev ρ) o := by
  simp only [okOp, Bool.and_eq_true, List.all_eq_true] at hk
  refine execOp_congr o (fun cs b e => ?_) fun x hx => ?_
  · have := hk.2.1; rw [e] at this; simp [plainOp] at this
  · have hkn := hk.2.2 x (by simpa using hx)
    cases x with
    | tmp t => exact I.look ho hh hr (List.mem_append_left _ (List.mem_filterMap.2 ⟨.tmp t, by simpa using hx, rfl⟩)) hkn
    | _ => rfl
theorem Inv.want {listed : Array Bool} {a : Act} (I : Inv n ops fl done ρ listed a) {i : Nat} {o : Oper} (ho : ops[i]? = some o) (hh : homeOk ops i = true)
    (hr : ∀ j ∈ preds ops i, listed.getD j false = true) {b : Bool} (h : wantE ops ρ o = some b) : Region.wanted o (yielded ops a.tmps) = b := by
  unfold wantE at h
  unfold Region.wanted
  cases hg : o.guard with
  | none => simp only [hg, Option.some.injEq] at h ⊢; exact h
  | some jw =>
    obtain ⟨j, want⟩ := jw
    simp only [hg] at h ⊢
    cases hd : (ops[j]?).bind (·.dst) with
    | none => simp [hd] at h
    | some t =>
      simp only [hd] at h
      cases ht : has ρ t with
      | false => simp [ht] at h
      | true =>
        simp only [ht, cond_true] at h
        have e := I.look ho hh hr (t := t) (List.mem_append_right _ (by simp [hg, hd])) ht
        cases hv : gt ρ t with
        | bool c =>
          simp only [hv, Option.some.injEq] at h e
          have : a.tmps[t]? = some (.bool c) := by
            cases hx : a.tmps[t]? with
            | none => simp [hx, undef] at e
            | some y => simp [hx] at e; rw [e]
          simp only [yielded, hd, Option.bind_some, this]
          rw [← h]
          cases c <;> cases want <;> rfl
        | tuple l =>
          simp only [hv, Option.some.injEq] at h e
          subst h
          simp only [yielded, hd, Option.bind_some]
          cases hx : a.tmps[t]? with
          | none => rfl
          | some y =>
            have : y = .tuple l := by simp [hx] at e; exact e
            subst this; rfl
        | _ => simp [hv] at h

theorem getD_set (listed : Array Bool) (i j : Nat) (hi : i < listed.size) : (listed.setIfInBounds i true).getD j false = if i = j then true else listed.getD j false := by
  simp only [Array.getD_eq_getD_getElem?, Array.getElem?_setIfInBounds]
  split
  · rename_i e; subst e; simp [hi]
  · rfl

/-- A floater is carried out. -/
theorem Inv.float {listed : Array Bool} {a : Act} (I : Inv n ops fl done ρ listed a) {i : Nat} {o : Oper} {d : Nat} (ho : ops[i]? = some o) (hd : o.dst = some d) (hi : i ∈ fl) (hlt : d < n) :
    Inv n ops fl done ρ (listed.setIfInBounds i true) (a.put o.dst (gt ρ d)) := by
  have his : i < listed.size := by rw [I.lsize]; exact getElem?_lt ho
  refine ⟨by simp [Act.put, hd, I.size], by simp [Act.put, hd, I.defers], by simp [I.lsize], fun j hj => ?_, fun j hj => ?_, fun t ht => ?_⟩
  · rw [getD_set _ _ _ his] at hj
    split at hj
    · rename_i e; subst e; exact .inr hi
    · exact I.only j hj
  · rw [getD_set _ _ _ his]
    split
    · rfl
    · exact I.all j hj
  · by_cases e : d = t
    · subst e
      right
      have : d < a.tmps.size := by rw [I.size]; exact hlt
      simp [Act.put, hd, this]
    · rcases I.at_ t ht with ⟨j, hj, hl, hdj⟩ | h
      · left
        refine ⟨j, hj, ?_, hdj⟩
        rw [getD_set _ _ _ his]
        split
        · rename_i e2; subst e2; simp only [dstOf, ho, Option.bind_some, hd, Option.some.injEq] at hdj; exact absurd hdj e
        · exact hl
      · right
        simp only [Act.put, hd, Array.getD_eq_getD_getElem?, Array.getElem?_setIfInBounds] at *
        rw [if_neg e]; exact h

theorem wpOp_float {i : Nat} {o : Oper} {K : Act → World → Prop} {listed : Array Bool} {a : Act} (I : Inv n ops fl done ρ listed a) (hf : Floats P n ops ρ w i) (ho : ops[i]? = some o)
    (hr : ∀ j ∈ preds ops i, listed.getD j false = true) (hK : ∀ d, o.dst = some d → d < n → K (a.put o.dst (gt ρ d)) w) : wpOp P ops (hat n Q) i K a w := by
  obtain ⟨hh, o', ho', hdok, d, hd, hp, hor⟩ := hf
  rw [ho] at ho'
  simp only [Option.some.injEq] at ho'
  subst ho'
  have hlt : d < n := by simpa [dstOk, hd, Nat.blt_eq] using hdok
  have hk := hK d hd hlt
  unfold wpOp
  simp only [ho]
  rcases hor with ⟨hw, hu⟩ | ⟨hw, hok, hrun⟩
  · rw [I.want ho hh hr hw]
    simp only [Bool.false_eq_true, if_false]
    rw [hu] at hk; exact hk
  · rw [I.want ho hh hr hw]
    simp only [if_true]
    refine .inl ?_
    unfold Oper.wp
    rw [I.exec ho hh hr hok, hrun]
    exact hk

/-- What remains beside the next of the chain is blocked, or floats. -/
def blockOk (ops : Array Oper) (fl done : List Nat) (c : Option Nat) : Bool := (List.range ops.size).all fun i =>
  memN i fl || (memN i done || ((match c with | some c => Nat.beq c i | none => false) || (preds ops i).any fun j => !(memN j fl) && !(memN j done)))
def predsLt (ops : Array Oper) : Bool := (List.range ops.size).all fun i => (preds ops i).all fun j => Nat.blt j i

theorem mem_ready {listed : Array Bool} {i : Nat} (hs : listed.size = ops.size) (hi : i < ops.size) (hf : listed.getD i false = false) (hp : ∀ j ∈ preds ops i, listed.getD j false = true) : i ∈ Region.ready .any ops listed := by
  have hil : i < listed.size := by omega
  simp only [Region.ready, List.mem_filter, List.mem_range, Bool.and_eq_true, Bool.not_eq_true']
  refine ⟨hi, ?_, ?_⟩
  · simp only [Array.getD_eq_getD_getElem?, Array.getElem?_eq_getElem hil, Option.getD_some] at *
    exact hf
  · simp only [Array.getElem?_eq_getElem hi, Option.map_some, Option.getD_some, Array.all_eq_true_iff_forall_mem]
    intro e he
    cases hb : Region.binds .any e with
    | false => simp
    | true =>
      simp only [Bool.not_true, Bool.false_or]
      refine hp e.on ?_
      simp only [preds, Array.getElem?_eq_getElem hi, List.mem_map, List.mem_filter]
      exact ⟨e, ⟨by simpa using he, hb⟩, rfl⟩
theorem all_listed (hpl : predsLt ops = true) {listed : Array Bool} (hs : listed.size = ops.size) (hr : Region.ready .any ops listed = []) : ∀ i, i < ops.size → listed.getD i false = true := by
  intro i
  induction i using Nat.strongRecOn with
  | _ i ih =>
    intro hi
    cases hf : listed.getD i false with
    | true => rfl
    | false =>
      exfalso
      simp only [predsLt, List.all_eq_true, List.mem_range] at hpl
      have := mem_ready hs hi hf fun j hj => by
        have hlt := hpl i hi j hj
        have hlt : j < i := by simpa [Nat.blt_eq] using hlt
        exact ih j hlt (by omega)
      rw [hr] at this
      cases this

theorem ready_cases {c : Option Nat} (hb : blockOk ops fl done c = true) {listed : Array Bool} {a : Act} (I : Inv n ops fl done ρ listed a) {i : Nat} (hi : i ∈ Region.ready .any ops listed) : i ∈ fl ∨ c = some i := by
  obtain ⟨hlt, hf, hp⟩ := preds_of_ready I.lsize hi
  simp only [blockOk, List.all_eq_true, List.mem_range, Bool.or_eq_true, List.any_eq_true, Bool.and_eq_true, Bool.not_eq_true'] at hb
  rcases hb i hlt with h | h | h | ⟨j, hj, h1, h2⟩
  · exact .inl (memN_iff.1 h)
  · have := I.all i (memN_iff.1 h); rw [hf] at this; cases this
  · cases c with
    | none => cases h
    | some c => exact .inr (by rw [Nat.eq_of_beq_eq_true h])
  · exfalso
    rcases I.only j (hp j hj) with h | h
    · have := memN_iff.2 h; rw [h2] at this; cases this
    · have := memN_iff.2 h; rw [h1] at this; cases this

theorem WD.float {fuel : Nat} {listed : Array Bool} {a : Act} (I : Inv n ops fl done ρ listed a) (hu : unl listed ≤ fuel + 1) {i : Nat} (hi : i ∈ Region.ready .any ops listed) (hif : i ∈ fl) (hf : Floats P n ops ρ w i)
    (ih : ∀ listed a, Inv n ops fl done ρ listed a → unl listed ≤ fuel → wpAny P .any ops (hat n Q) fuel listed a w) :
    wpOp P ops (hat n Q) i (wpAny P .any ops (hat n Q) fuel (listed.setIfInBounds i true)) a w := by
  obtain ⟨hlt, hf0, hp⟩ := preds_of_ready I.lsize hi
  have ho : ops[i]? = some ops[i] := Array.getElem?_eq_getElem hlt
  refine wpOp_float I hf ho hp fun d hd hdn => ih _ _ (I.float ho hd hif hdn) ?_
  have := unl_set (listed := listed) (i := i) (by rw [I.lsize]; exact hlt) hf0
  omega

/-- The next of the chain: what it comes to, under whatever has floated by. -/
theorem WD.stage (c : Nat) (hb : blockOk ops fl done (some c) = true) (hcn : memN c fl = false) (hdn : memN c done = false) (hfl : ∀ i ∈ fl, Floats P n ops ρ w i) (hpl : predsLt ops = true) (hcs : Nat.blt c ops.size = true)
    (hc : ∀ (K : Act → World → Prop) (listed : Array Bool) (a : Act), Inv n ops fl done ρ listed a → (∀ j ∈ preds ops c, listed.getD j false = true) →
      (∀ fl' done' ρ' w' a', WD P n ops Q fl' done' ρ' w' → Inv n ops fl' done' ρ' (listed.setIfInBounds c true) a' → K a' w') → wpOp P ops (hat n Q) c K a w) : WD P n ops Q fl done ρ w := by
  have hcl : c < ops.size := by simpa [Nat.blt_eq] using hcs
  intro fuel
  have hnot : ∀ listed a, Inv n ops fl done ρ listed a → listed.getD c false = false := by
    intro listed a I
    cases e : listed.getD c false with
    | false => rfl
    | true =>
      rcases I.only c e with h | h
      · have := memN_iff.2 h; rw [hdn] at this; cases this
      · have := memN_iff.2 h; rw [hcn] at this; cases this
  induction fuel with
  | zero =>
    intro listed a I hu
    exfalso
    have := unl_zero (Nat.le_zero.1 hu) c (by rw [I.lsize]; exact hcl)
    rw [hnot listed a I] at this
    cases this
  | succ fuel ih =>
    intro listed a I hu
    refine ⟨fun hr => ?_, fun i hi => ?_⟩
    · have := all_listed hpl I.lsize hr c hcl
      rw [hnot listed a I] at this
      cases this
    · rcases ready_cases hb I hi with h | h
      · exact WD.float I hu hi h (hfl i h) ih
      · simp only [Option.some.injEq] at h
        subst h
        obtain ⟨_, hf0, hp⟩ := preds_of_ready I.lsize hi
        refine hc _ listed a I hp fun fl' done' ρ' w' a' hW hI => hW fuel _ _ hI ?_
        have := unl_set (listed := listed) (i := c) (by rw [I.lsize]; exact hcl) hf0
        omega

/-- All that is left floats. -/
theorem WD.fin (hb : blockOk ops fl done none = true) (hfl : ∀ i ∈ fl, Floats P n ops ρ w i) (hpl : predsLt ops = true) (hin : (fl.all fun i => Nat.blt i ops.size) = true) (hQ : Q .normal ρ w) : WD P n ops Q fl done ρ w := by
  intro fuel
  have done' : ∀ listed a, Inv n ops fl done ρ listed a → (∀ i, i < ops.size → listed.getD i false = true) → hat n Q .normal a w := by
    intro listed a I hall
    refine ⟨ρ, ⟨I.size, I.defers, fun t ht => ?_⟩, hQ⟩
    rcases I.at_ t ht with ⟨j, hj, hl, _⟩ | h
    · simp only [List.all_eq_true] at hin
      have : j < ops.size := by simpa [Nat.blt_eq] using hin j hj
      rw [hall j this] at hl
      cases hl
    · exact h
  induction fuel with
  | zero =>
    intro listed a I hu
    have hz := unl_zero (Nat.le_zero.1 hu)
    refine ⟨?_, done' listed a I fun i hi => hz i (by rw [I.lsize]; exact hi)⟩
    cases hr : Region.ready .any ops listed with
    | nil => rfl
    | cons i l =>
      have hm : i ∈ Region.ready .any ops listed := by rw [hr]; exact List.mem_cons_self ..
      obtain ⟨hlt, hf0, _⟩ := preds_of_ready I.lsize hm
      rw [hz i (by rw [I.lsize]; exact hlt)] at hf0
      cases hf0
  | succ fuel ih =>
    intro listed a I hu
    refine ⟨fun hr => done' listed a I (all_listed hpl I.lsize hr), fun i hi => ?_⟩
    rcases ready_cases hb I hi with h | h
    · exact WD.float I hu hi h (hfl i h) ih
    · cases h

/-- Into a region that draws its order. -/
theorem WE.draws {id : Nat} (hm : P.follows .mixedOrders = true) (ts : List Nat) {ρ' : Env} (hp : pick ρ ts = some ρ') (h : ∀ w', w'.heap = w.heap → w'.os = w.os → w'.tape = w.tape → w'.output = w.output → WD P n ops Q [] [] ρ' w') : WE P n (.region id ops true) Q ρ w := fun a ha => by
  refine wp_region_any hm ?_
  have hb := ha.pick hp
  refine h { w with drawn := w.drawn + 1 } rfl rfl rfl rfl ops.size (Array.replicate ops.size false) a ⟨hb.size, hb.defers, by simp, fun i hi => ?_, fun i hi => (by cases hi), fun t ht => .inr (hb.at_ t ht)⟩ ?_
  · simp only [Array.getD_eq_getD_getElem?, Array.getElem?_replicate] at hi
    split at hi <;> simp at hi
  · unfold unl
    refine Nat.le_trans List.countP_le_length ?_
    simp

/-- Floaters that the kernel reckons: what they will tell is known ahead. -/
def knowE (P : Program) (ops : Array Oper) : List Nat → Env → Env
  | [], ρ => ρ
  | i :: l, ρ => match ops[i]? with
    | some o => match wantE ops ρ o with
      | some true => match still P (execOp (ev ρ) o) with
        | some (.value v) => knowE P ops l (putE ρ o.dst v)
        | _ => ρ
      | some false => knowE P ops l (putE ρ o.dst undef)
      | none => ρ
    | none => ρ
theorem knowE_spec : ∀ (l : List Nat) (ρ : Env) (t : Nat), has (knowE P ops l ρ) t = true → (∃ i ∈ l, dstOf ops i = some t) ∨ (has ρ t = true ∧ gt (knowE P ops l ρ) t = gt ρ t) := by
  intro l
  induction l with
  | nil => intro ρ t h; exact .inr ⟨h, rfl⟩
  | cons i l ih =>
    have key : ∀ (ρ : Env) (o : Oper) (v : Value) (t : Nat), ops[i]? = some o → has (knowE P ops l (putE ρ o.dst v)) t = true → (∃ j ∈ i :: l, dstOf ops j = some t) ∨ (has ρ t = true ∧ gt (knowE P ops l (putE ρ o.dst v)) t = gt ρ t) := by
      intro ρ o v t ho h
      rcases ih _ t h with ⟨j, hj, hd⟩ | ⟨h1, h2⟩
      · exact .inl ⟨j, List.mem_cons_of_mem _ hj, hd⟩
      · cases hd : o.dst with
        | none => rw [hd] at h1 h2; exact .inr ⟨h1, h2⟩
        | some d =>
          by_cases e : d = t
          · subst e; exact .inl ⟨i, List.mem_cons_self .., by simp [dstOf, ho, hd]⟩
          · have hne : Nat.beq d t = false := by
              cases hb : Nat.beq d t with
              | false => rfl
              | true => exact absurd (Nat.eq_of_beq_eq_true hb) e
            right
            rw [hd] at h1 h2
            simp only [putE, has, hne, cond_false] at h1
            refine ⟨h1, ?_⟩
            rw [h2]
            simp only [putE, gt, hne, cond_false]
    intro ρ t h
    cases ho : ops[i]? with
    | none => simp only [knowE, ho] at h ⊢; exact .inr ⟨h, trivial⟩
    | some o =>
      cases hw : wantE ops ρ o with
      | none => simp only [knowE, ho, hw] at h ⊢; exact .inr ⟨h, trivial⟩
      | some b =>
        cases b with
        | false => simp only [knowE, ho, hw] at h ⊢; exact key ρ o _ t ho h
        | true =>
          cases hs : still P (execOp (ev ρ) o) with
          | none => simp only [knowE, ho, hw, hs] at h ⊢; exact .inr ⟨h, trivial⟩
          | some x => cases x <;> simp only [knowE, ho, hw, hs] at h ⊢ <;> first | exact key ρ o _ t ho h | exact .inr ⟨h, trivial⟩

theorem Inv.know {listed : Array Bool} {a : Act} {ρ' : Env} (I : Inv n ops fl done ρ listed a) (new : List Nat) (hnew : (new.all fun i => !(memN i fl) && !(memN i done)) = true)
    (hs : ∀ t, has ρ' t = true → (∃ i ∈ new, dstOf ops i = some t) ∨ (has ρ t = true ∧ gt ρ' t = gt ρ t)) : Inv n ops (new ++ fl) done ρ' listed a := by
  refine ⟨I.size, I.defers, I.lsize, fun i hi => (I.only i hi).imp id (List.mem_append_right _), I.all, fun t ht => ?_⟩
  rcases hs t ht with ⟨i, hi, hd⟩ | ⟨h1, h2⟩
  · left
    refine ⟨i, List.mem_append_left _ hi, ?_, hd⟩
    cases e : listed.getD i false with
    | false => rfl
    | true =>
      simp only [List.all_eq_true, Bool.and_eq_true, Bool.not_eq_true'] at hnew
      have := hnew i hi
      rcases I.only i e with h | h
      · have := memN_iff.2 h; simp_all
      · have := memN_iff.2 h; simp_all
  · rcases I.at_ t h1 with ⟨i, hi, hl, hd⟩ | h
    · exact .inl ⟨i, List.mem_append_right _ hi, hl, hd⟩
    · exact .inr (h.trans h2.symm)
theorem WD.know (new : List Nat) (hnew : (new.all fun i => !(memN i fl) && !(memN i done)) = true) (h : WD P n ops Q (new ++ fl) done (knowE P ops new ρ) w) : WD P n ops Q fl done ρ w :=
  fun fuel listed a I hu => h fuel listed a (I.know new hnew (knowE_spec new ρ)) hu
/-- A floater that is told by hand (a load). -/
theorem WD.told (i : Nat) (d : Nat) (v : Value) (hd : dstOf ops i = some d) (hnew : (!(memN i fl) && !(memN i done)) = true) (h : WD P n ops Q (i :: fl) done ((d, v) :: ρ) w) : WD P n ops Q fl done ρ w :=
  fun fuel listed a I hu => h fuel listed a (I.know [i] (by simpa using hnew) fun t ht => by
    by_cases e : d = t
    · subst e; exact .inl ⟨i, List.mem_cons_self .., hd⟩
    · have hne : Nat.beq d t = false := by
        cases hb : Nat.beq d t with
        | false => rfl
        | true => exact absurd (Nat.eq_of_beq_eq_true hb) e
      simp only [has, gt, hne, cond_false] at ht ⊢
      exact .inr ⟨ht, trivial⟩) hu
/-- A slot's value in another spelling. -/
theorem WD.spelt (t : Nat) {v : Value} (h0 : has ρ t = true) (hv : gt ρ t = v) (h : WD P n ops Q fl done ((t, v) :: ρ) w) : WD P n ops Q fl done ρ w :=
  fun fuel listed a I hu => h fuel listed a ⟨I.size, I.defers, I.lsize, I.only, I.all, fun s hs => by
    by_cases e : t = s
    · subst e
      rcases I.at_ t h0 with h | h
      · exact .inl h
      · right; simp only [gt, Nat.beq_refl, cond_true]; rw [h, hv]
    · have hne : Nat.beq t s = false := by
        cases hb : Nat.beq t s with
        | false => rfl
        | true => exact absurd (Nat.eq_of_beq_eq_true hb) e
      simp only [has, gt, hne, cond_false] at hs ⊢
      exact I.at_ s hs⟩ hu

theorem Inv.chain {listed : Array Bool} {a : Act} (I : Inv n ops fl done ρ listed a) {c : Nat} {o : Oper} (ho : ops[c]? = some o) (hp : ∀ j ∈ preds ops c, listed.getD j false = true) (hcl : memN c fl = false) (v : Value) (hd : dstOk n o = true) :
    Inv n ops (fl.filter fun i => !(memN i (preds ops c))) (c :: (preds ops c ++ done)) (putE ρ o.dst v) (listed.setIfInBounds c true) (a.put o.dst v) := by
  have hcs : c < listed.size := by rw [I.lsize]; exact getElem?_lt ho
  refine ⟨?_, ?_, by simp [I.lsize], fun i hi => ?_, fun i hi => ?_, fun t ht => ?_⟩
  · cases hd' : o.dst <;> simp [Act.put, I.size]
  · cases hd' : o.dst <;> simp [Act.put, I.defers]
  · rw [getD_set _ _ _ hcs] at hi
    split at hi
    · rename_i e; subst e; exact .inl (List.mem_cons_self ..)
    · rcases I.only i hi with h | h
      · exact .inl (List.mem_cons_of_mem _ (List.mem_append_right _ h))
      · cases hm : memN i (preds ops c) with
        | true => exact .inl (List.mem_cons_of_mem _ (List.mem_append_left _ (memN_iff.1 hm)))
        | false => exact .inr (List.mem_filter.2 ⟨h, by simp [hm]⟩)
  · rw [getD_set _ _ _ hcs]
    split
    · rfl
    · rename_i e
      rcases List.mem_cons.1 hi with rfl | hi
      · exact absurd rfl e
      · rcases List.mem_append.1 hi with h | h
        · exact hp i h
        · exact I.all i h
  · have old : ∀ t, has ρ t = true → (∀ d, o.dst = some d → d ≠ t) → (∃ i ∈ fl.filter fun i => !(memN i (preds ops c)), (listed.setIfInBounds c true).getD i false = false ∧ dstOf ops i = some t) ∨ (a.put o.dst v).tmps.getD t undef = gt ρ t := by
      intro t ht hne
      rcases I.at_ t ht with ⟨i, hi, hl, hdi⟩ | h
      · left
        refine ⟨i, List.mem_filter.2 ⟨hi, ?_⟩, ?_, hdi⟩
        · cases hm : memN i (preds ops c) with
          | true => rw [hp i (memN_iff.1 hm)] at hl; cases hl
          | false => rfl
        · rw [getD_set _ _ _ hcs, if_neg (fun e => ?_)]
          · exact hl
          · subst e; have := memN_iff.2 hi; rw [hcl] at this; cases this
      · right
        cases hd' : o.dst with
        | none => exact h
        | some d =>
          simp only [Act.put, Array.getD_eq_getD_getElem?, Array.getElem?_setIfInBounds] at *
          rw [if_neg (hne d hd')]; exact h
    cases hd' : o.dst with
    | none => rw [hd'] at ht old; exact old t ht (by simp)
    | some d =>
      by_cases e : d = t
      · subst e
        right
        have hdn : d < n := by simpa [dstOk, hd', Nat.blt_eq] using hd
        have : d < a.tmps.size := by rw [I.size]; exact hdn
        simp [Act.put, putE, gt, this]
      · have hne : Nat.beq d t = false := by
          cases hb : Nat.beq d t with
          | false => rfl
          | true => exact absurd (Nat.eq_of_beq_eq_true hb) e
        rw [hd'] at ht
        simp only [putE, has, hne, cond_false] at ht
        have := old t ht (by rw [hd']; intro d' h; cases h; exact e)
        rw [hd'] at this
        simpa [putE, gt, hne] using this

def stageOk (ops : Array Oper) (fl done : List Nat) (c : Nat) : Bool := blockOk ops fl done (some c) && (!(memN c fl) && (!(memN c done) && (predsLt ops && (Nat.blt c ops.size && homeOk ops c))))
theorem stageOk.spec {c : Nat} (h : stageOk ops fl done c = true) : blockOk ops fl done (some c) = true ∧ memN c fl = false ∧ memN c done = false ∧ predsLt ops = true ∧ Nat.blt c ops.size = true ∧ homeOk ops c = true := by
  simpa [stageOk, Bool.and_eq_true] using h

/-- The next of the chain. -/
theorem WD.does (c : Nat) (hs : stageOk ops fl done c = true) {o : Oper} (ho : ops[c]? = some o) (hfl : ∀ i ∈ fl, Floats P n ops ρ w i) (hg : wantE ops ρ o = some true) (hk : okOp n ρ o = true)
    (h : Does P ρ o w fun v w' => WD P n ops Q (fl.filter fun i => !(memN i (preds ops c))) (c :: (preds ops c ++ done)) (putE ρ o.dst v) w') : WD P n ops Q fl done ρ w := by
  obtain ⟨h1, h2, h3, h4, h5, h6⟩ := stageOk.spec hs
  refine WD.stage c h1 h2 h3 hfl h4 h5 fun K listed a I hp hK => ?_
  have hdst : dstOk n o = true := by simp only [okOp, Bool.and_eq_true] at hk; exact hk.1
  unfold wpOp
  simp only [ho]
  rw [I.want ho h6 hp hg]
  simp only [if_true]
  exact .inl (Does.wp (I.exec ho h6 hp hk) h fun v w' hw => hK _ _ _ _ _ hw (I.chain ho hp h2 v hdst))
theorem WD.skipped (c : Nat) (hs : stageOk ops fl done c = true) {o : Oper} (ho : ops[c]? = some o) (hfl : ∀ i ∈ fl, Floats P n ops ρ w i) (hg : wantE ops ρ o = some false) (hd : dstOk n o = true)
    (h : WD P n ops Q (fl.filter fun i => !(memN i (preds ops c))) (c :: (preds ops c ++ done)) (putE ρ o.dst undef) w) : WD P n ops Q fl done ρ w := by
  obtain ⟨h1, h2, h3, h4, h5, h6⟩ := stageOk.spec hs
  refine WD.stage c h1 h2 h3 hfl h4 h5 fun K listed a I hp hK => ?_
  unfold wpOp
  simp only [ho]
  rw [I.want ho h6 hp hg]
  simp only [Bool.false_eq_true, if_false]
  exact hK _ _ _ _ _ h (I.chain ho hp h2 undef hd)

/-! ### What floats -/
theorem Floats.nil : ∀ i ∈ ([] : List Nat), Floats P n ops ρ w i := fun _ h => by cases h
theorem Floats.cons {i : Nat} (h : Floats P n ops ρ w i) {l : List Nat} (hl : ∀ i ∈ l, Floats P n ops ρ w i) : ∀ j ∈ i :: l, Floats P n ops ρ w j := fun j hj => by
  rcases List.mem_cons.1 hj with rfl | hj
  · exact h
  · exact hl j hj
theorem Floats.app {a b : List Nat} (ha : ∀ i ∈ a, Floats P n ops ρ w i) (hb : ∀ i ∈ b, Floats P n ops ρ w i) : ∀ j ∈ a ++ b, Floats P n ops ρ w j := fun j hj => by
  rcases List.mem_append.1 hj with hj | hj
  · exact ha j hj
  · exact hb j hj
/-- Of a list that the kernel splits: each is in one of two. -/
theorem Floats.of (p l : List Nat) {fl : List Nat} (hs : (fl.all fun i => memN i p || memN i l) = true) (hp : ∀ i ∈ p, Floats P n ops ρ w i) (hl : ∀ i ∈ l, Floats P n ops ρ w i) : ∀ j ∈ fl, Floats P n ops ρ w j := fun j hj => by
  simp only [List.all_eq_true, Bool.or_eq_true] at hs
  rcases hs j hj with h | h
  · exact hp j (memN_iff.1 h)
  · exact hl j (memN_iff.1 h)
def floatV (P : Program) (ops : Array Oper) (ρ : Env) (i : Nat) : Value := match ops[i]? with
  | some o => match wantE ops ρ o with
    | some true => match still P (execOp (ev ρ) o) with | some (.value v) => v | _ => undef
    | _ => undef
  | none => undef
def floatG (ops : Array Oper) (ρ : Env) (i : Nat) : Value := match dstOf ops i with | some d => gt ρ d | none => undef
def floatOk (P : Program) (n : Nat) (ops : Array Oper) (ρ : Env) (i : Nat) : Bool := homeOk ops i && (match ops[i]? with
  | some o => dstOk n o && ((match o.dst with | some d => has ρ d | none => false) && (match wantE ops ρ o with
    | some true => okOp n ρ o && (match still P (execOp (ev ρ) o) with | some (.value _) => true | _ => false)
    | some false => true
    | none => false))
  | none => false)
theorem Floats.pure (l : List Nat) (hok : (l.all (floatOk P n ops ρ)) = true) (hv : l.map (floatG ops ρ) = l.map (floatV P ops ρ)) : ∀ i ∈ l, Floats P n ops ρ w i := fun i hi => by
  simp only [List.all_eq_true] at hok
  have h := hok i hi
  have hv : floatG ops ρ i = floatV P ops ρ i := by
    obtain ⟨k, hk, rfl⟩ := List.getElem_of_mem hi
    have := congrArg (fun m => m[k]?) hv
    simpa [hk] using this
  simp only [floatOk, Bool.and_eq_true] at h
  obtain ⟨hh, h⟩ := h
  cases ho : ops[i]? with
  | none => rw [ho] at h; cases h
  | some o =>
    rw [ho] at h
    simp only [Bool.and_eq_true] at h
    obtain ⟨h1, h2, h3⟩ := h
    cases hd : o.dst with
    | none => rw [hd] at h2; cases h2
    | some d =>
      rw [hd] at h2
      have hg : floatG ops ρ i = gt ρ d := by simp [floatG, dstOf, ho, hd]
      refine ⟨hh, o, ho, h1, d, hd, h2, ?_⟩
      cases hw : wantE ops ρ o with
      | none => rw [hw] at h3; cases h3
      | some b =>
        cases b with
        | false => left; refine ⟨rfl, ?_⟩; rw [← hg, hv]; simp [floatV, ho, hw]
        | true =>
          right
          rw [hw] at h3
          simp only [Bool.and_eq_true] at h3
          refine ⟨rfl, h3.1, ?_⟩
          cases hs : still P (execOp (ev ρ) o) with
          | none => rw [hs] at h3; exact absurd h3.2 (by simp)
          | some x =>
            cases x with
            | value v => rw [still_run _ hs w, ← hg, hv]; simp [floatV, ho, hw, hs]
            | _ => rw [hs] at h3; exact absurd h3.2 (by simp)
/-- A floater whose value is told by a law. -/
def tellOk (n : Nat) (ops : Array Oper) (ρ : Env) (i : Nat) (o : Oper) : Bool := homeOk ops i && (okOp n ρ o && ((match o.dst with | some d => has ρ d | none => false) && (match wantE ops ρ o with | some b => b | none => false)))
def known (ρ : Env) (o : Oper) : Value := match o.dst with | some d => gt ρ d | none => undef
theorem Floats.tells {i : Nat} {o : Oper} {v : Value} (ho : ops[i]? = some o) (hk : tellOk n ops ρ i o = true) (hv : known ρ o = v) (ht : Tells P ρ o w v) : Floats P n ops ρ w i := by
  simp only [tellOk, Bool.and_eq_true] at hk
  obtain ⟨h1, h2, h3, h4⟩ := hk
  cases hd : o.dst with
  | none => rw [hd] at h3; cases h3
  | some d =>
    rw [hd] at h3
    have hdo : dstOk n o = true := by simp only [okOp, Bool.and_eq_true] at h2; exact h2.1
    refine ⟨h1, o, ho, hdo, d, hd, h3, .inr ⟨?_, h2, ?_⟩⟩
    · split at h4
      · rename_i b hb; rw [hb, h4]
      · cases h4
    · have : known ρ o = gt ρ d := by simp [known, hd]
      rw [← this, hv]; exact ht
end
end Go.Proofs.Ytcoepljalekglaa.G2
