/- Lemmas for the walk: part B. -/
import Derived.Test.YtcoepljalekglaaG2A
set_option linter.unusedSimpArgs false
set_option linter.unusedVariables false
set_option linter.all false
/-! Steps of the walk: operations that the kernel reckons, operations that run, calls; a function's begin and end. -/
namespace Go.Proofs.Ytcoepljalekglaa.G2
open Go.RowKit

def plainOp : Op → Bool
  | .select _ _ => false
  | _ => true
def okOp (n : Nat) (ρ : Env) (o : Oper) : Bool := dstOk n o && (plainOp o.op && o.op.operands.toList.all (knows ρ))
def wantE (ops : Array Oper) (ρ : Env) (o : Oper) : Option Bool :=
  match o.guard with
  | none => some true
  | some (j, want) => match (ops[j]?).bind (·.dst) with
    | some t => bif has ρ t then (match gt ρ t with | .bool b => some (b == want) | .tuple _ => some false | _ => none) else none
    | none => none

section
variable {P : Program} {n : Nat} {ops : Array Oper} {Q : Post} {ρ : Env} {w : World} {o : Oper} {rest : List Oper}

theorem okOp.dst (h : okOp n ρ o = true) : ∀ e, o.dst = some e → e < n := by
  intro e he
  simp only [okOp, dstOk, he, Bool.and_eq_true] at h
  exact Nat.lt_of_lt_of_le (by simpa [Nat.blt_eq] using h.1) (Nat.le_refl _)
theorem okOp.exec (h : okOp n ρ o = true) {a : Act} (ha : Fits a n ρ) : execOp a.eval o = execOp (ev ρ) o := by
  simp only [okOp, Bool.and_eq_true, List.all_eq_true] at h
  refine execOp_congr o (fun cs b e => ?_) fun x hx => ha.eval (h.2.2 x (by simpa using hx))
  have := h.2.1
  rw [e] at this
  simp [plainOp] at this
theorem wantE.spec {b : Bool} (h : wantE ops ρ o = some b) {a : Act} (ha : Fits a n ρ) : Region.wanted o (yielded ops a.tmps) = b := by
  unfold wantE at h
  unfold Region.wanted
  cases hg : o.guard with
  | none => simp only [hg, Option.some.injEq] at h ⊢; exact h
  | some jw =>
    obtain ⟨j, want⟩ := jw
    simp only [hg] at h ⊢
    cases hd : (ops[j]?).bind (·.dst) with
    | none => simp [hd] at h
    | some t =>
      simp only [hd] at h
      cases ht : has ρ t with
      | false => simp [ht] at h
      | true =>
        simp only [ht, cond_true] at h
        have e := ha.at_ t ht
        cases hv : gt ρ t with
        | bool c =>
          simp only [hv, Option.some.injEq] at h e
          have : a.tmps[t]? = some (.bool c) := by
            cases hx : a.tmps[t]? with
            | none => simp [hx, undef] at e
            | some y => simp [hx] at e; rw [e]
          simp only [yielded, hd, Option.bind_some, this]
          rw [← h]
          cases c <;> cases want <;> rfl
        | tuple l =>
          simp only [hv, Option.some.injEq] at h e
          subst h
          simp only [yielded, hd, Option.bind_some]
          cases hx : a.tmps[t]? with
          | none => rfl
          | some y =>
            have : y = .tuple l := by simp [hx] at e; exact e
            subst this; rfl
        | _ => simp [hv] at h

theorem WL.skipped (hg : wantE ops ρ o = some false) (hd : dstOk n o = true) (k : WL P n ops Q rest (putE ρ o.dst undef) w) : WL P n ops Q (o :: rest) ρ w := fun a ha => by
  unfold wpList
  rw [wantE.spec hg ha]
  exact k _ (ha.put _ _ (fun e he => by simpa [dstOk, he, Nat.blt_eq] using hd))

theorem WL.run {w' : World} {v : Value} (hg : wantE ops ρ o = some true) (hk : okOp n ρ o = true) (hr : (execOp (ev ρ) o).run P w = .ok (.value v) w')
    (k : WL P n ops Q rest (putE ρ o.dst v) w') : WL P n ops Q (o :: rest) ρ w := fun a ha => by
  unfold wpList
  rw [wantE.spec hg ha, if_pos rfl]
  refine .inl ?_
  unfold Oper.wp
  rw [okOp.exec hk ha, hr]
  exact k _ (ha.put _ _ (okOp.dst hk))

theorem WL.runU {w' : World} (hg : wantE ops ρ o = some true) (hk : okOp n ρ o = true) (hr : (execOp (ev ρ) o).run P w = .ok .skip w')
    (k : WL P n ops Q rest (putE ρ o.dst undef) w') : WL P n ops Q (o :: rest) ρ w := fun a ha => by
  unfold wpList
  rw [wantE.spec hg ha, if_pos rfl]
  refine .inl ?_
  unfold Oper.wp
  rw [okOp.exec hk ha, hr]
  exact k _ (ha.put _ _ (okOp.dst hk))

/-- A call: what it comes to, then the rest. -/
theorem WL.call (f : FuncId) (args : Array Value) (hg : wantE ops ρ o = some true) (hk : okOp n ρ o = true) (hr : still P (execOp (ev ρ) o) = some (.enter f args))
    (k : Calls P f args w fun e w' => ∃ v, e = .returned v ∧ WL P n ops Q rest (putE ρ o.dst v) w') : WL P n ops Q (o :: rest) ρ w := fun a ha => by
  unfold wpList
  rw [wantE.spec hg ha, if_pos rfl]
  refine .inl ?_
  unfold Oper.wp
  rw [okOp.exec hk ha, still_run _ hr]
  refine Calls.mono k fun e w' ⟨v, he, hw⟩ => ?_
  subst he
  exact hw _ (ha.put _ _ (okOp.dst hk))

/-- Operations one behind the other, reckoned by the kernel. -/
def seg (P : Program) (n : Nat) (ops : Array Oper) : Nat → List Oper → Env → Option (List Oper × Env)
  | 0, l, ρ => some (l, ρ)
  | _ + 1, [], _ => none
  | k + 1, o :: l, ρ =>
    match wantE ops ρ o with
    | none => none
    | some false => bif dstOk n o then seg P n ops k l (putE ρ o.dst undef) else none
    | some true => bif okOp n ρ o then (match still P (execOp (ev ρ) o) with | some (.value v) => seg P n ops k l (putE ρ o.dst v) | _ => none) else none

theorem WL.seg : ∀ (k : Nat) {l l' : List Oper} {ρ ρ' : Env}, seg P n ops k l ρ = some (l', ρ') → WL P n ops Q l' ρ' w → WL P n ops Q l ρ w := by
  intro k
  induction k with
  | zero => intro l l' ρ ρ' h hk; simp only [G2.seg, Option.some.injEq, Prod.mk.injEq] at h; obtain ⟨rfl, rfl⟩ := h; exact hk
  | succ k ih =>
    intro l l' ρ ρ' h hk
    cases l with
    | nil => simp [G2.seg] at h
    | cons o l =>
      simp only [G2.seg] at h
      cases hw : wantE ops ρ o with
      | none => simp [hw] at h
      | some b =>
        cases b with
        | false =>
          simp only [hw] at h
          cases hd : dstOk n o with
          | false => simp [hd] at h
          | true => simp only [hd, cond_true] at h; exact WL.skipped hw hd (ih h hk)
        | true =>
          simp only [hw] at h
          cases ho : okOp n ρ o with
          | false => simp [ho] at h
          | true =>
            simp only [ho, cond_true] at h
            cases hs : still P (execOp (ev ρ) o) with
            | none => simp [hs] at h
            | some x =>
              cases x with
              | value v => simp only [hs] at h; exact WL.run hw ho (still_run _ hs w) (ih h hk)
              | _ => simp [hs] at h

/-- A region's last operations, all reckoned; what is known behind it is told anew. -/
theorem WL.last (k : Nat) {l : List Oper} {ρ : Env} (ts : List Nat) {ρ'' : Env} (h : ((G2.seg P n ops k l ρ).bind fun p => bif p.1.isEmpty then pick p.2 ts else none) = some ρ'')
    (hq : ∀ ρ₁, pick ρ₁ ts = some ρ'' → Q .normal ρ₁ w) : WL P n ops Q l ρ w := by
  cases hs : G2.seg P n ops k l ρ with
  | none => simp [hs] at h
  | some p =>
    obtain ⟨l', ρ₁⟩ := p
    simp only [hs, Option.bind_some] at h
    cases l' with
    | cons _ _ => simp at h
    | nil =>
      simp only [List.isEmpty_nil, cond_true] at h
      exact WL.seg k hs (WL.nil (hq _ h))

/-! ### A function's begin and end -/
def res1 (P : Program) (ρ : Env) (w : World) : ResultVar → Value → Prop
  | .tmp t, v => has ρ t = true ∧ gt ρ t = v
  | .cell a t, v => has ρ a = true ∧ ∃ ad, gt ρ a = .pointer (some ad) ∧ (loadVar t ad).run P w = .ok v w
def resAll (P : Program) (ρ : Env) (w : World) : List ResultVar → List Value → Prop
  | [], [] => True
  | r :: rs, v :: vs => res1 P ρ w r v ∧ resAll P ρ w rs vs
  | _, _ => False
def oneOf : List Value → Value
  | [v] => v
  | vs => .tuple vs.toArray
def BP (P : Program) (rs : List ResultVar) (R : Value → World → Prop) : Post
  | .normal, ρ, w | .ret, ρ, w => ∃ vs, resAll P ρ w rs vs ∧ R (oneOf vs) w
  | _, _, _ => False

def rv (tmps : Array Value) : ResultVar → Sem Value
  | .tmp t => Pure.pure (tmps.getD t undef)
  | .cell b t => do loadVar t (← asAddr (tmps.getD b undef))
theorem res1.run {a : Act} (ha : Fits a n ρ) {r : ResultVar} {v : Value} (h : res1 P ρ w r v) : (rv a.tmps r).run P w = .ok v w := by
  cases r with
  | tmp t => obtain ⟨h1, h2⟩ := h; show Sem.run P (Pure.pure (a.tmps.getD t undef)) w = _; rw [ha.at_ t h1, h2]; rfl
  | cell b t =>
    obtain ⟨h1, ad, h2, h3⟩ := h
    show Sem.run P (do loadVar t (← asAddr (a.tmps.getD b undef)) : Sem Value) w = _
    rw [ha.at_ b h1, h2]
    exact h3
end

theorem run_bind_ok {P : Program} {α β : Type} {s : Sem α} {f : α → Sem β} {w w' : World} {x : α} (h : s.run P w = .ok x w') : (s >>= f).run P w = (f x).run P w' := by
  simp [h]

theorem results_of {P : Program} {n : Nat} {ρ : Env} {w : World} {fn : Func} {rs : List ResultVar} {vs : List Value} {a : Act} (hrs : fn.results = rs.toArray) (ha : Fits a n ρ) (h : resAll P ρ w rs vs) (h4 : rs.length ≤ 4) :
    (results fn a.tmps).run P w = .ok (oneOf vs) w := by
  have e : results fn a.tmps = (do let vs ← fn.results.mapM (rv a.tmps); Pure.pure (if h : vs.size = 1 then vs[0] else .tuple vs)) := rfl
  rw [e, hrs]
  match rs, vs, h, h4 with
  | [], [], _, _ => simp; rfl
  | [r1], [v1], h, _ =>
    have e1 := h.1.run ha
    simp only [List.mapM_toArray, List.mapM_cons, List.mapM_nil, bind_assoc, map_bind, pure_bind, map_pure]
    rw [run_bind_ok e1]; rfl
  | [r1, r2], [v1, v2], h, _ =>
    have e1 := h.1.run ha
    have e2 := h.2.1.run ha
    simp only [List.mapM_toArray, List.mapM_cons, List.mapM_nil, bind_assoc, map_bind, pure_bind, map_pure]
    rw [run_bind_ok e1, run_bind_ok e2]; rfl
  | [r1, r2, r3], [v1, v2, v3], h, _ =>
    have e1 := h.1.run ha
    have e2 := h.2.1.run ha
    have e3 := h.2.2.1.run ha
    simp only [List.mapM_toArray, List.mapM_cons, List.mapM_nil, bind_assoc, map_bind, pure_bind, map_pure]
    rw [run_bind_ok e1, run_bind_ok e2, run_bind_ok e3]; rfl
  | [r1, r2, r3, r4], [v1, v2, v3, v4], h, _ =>
    have e1 := h.1.run ha
    have e2 := h.2.1.run ha
    have e3 := h.2.2.1.run ha
    have e4 := h.2.2.2.1.run ha
    simp only [List.mapM_toArray, List.mapM_cons, List.mapM_nil, bind_assoc, map_bind, pure_bind, map_pure]
    rw [run_bind_ok e1, run_bind_ok e2, run_bind_ok e3, run_bind_ok e4]; rfl

def argEnv : Nat → List Value → Env
  | _, [] => []
  | i, v :: vs => (i, v) :: argEnv (i + 1) vs
theorem argEnv_spec : ∀ (vs : List Value) (i t : Nat), has (argEnv i vs) t = true → i ≤ t ∧ t < i + vs.length ∧ gt (argEnv i vs) t = vs.getD (t - i) undef
  | [], i, t, h => by simp [argEnv, has] at h
  | v :: vs, i, t, h => by
    simp only [argEnv, has, gt] at *
    cases hb : Nat.beq i t with
    | true =>
      have := Nat.eq_of_beq_eq_true hb; subst this
      refine ⟨Nat.le_refl _, by simp, by simp⟩
    | false =>
      simp only [hb, cond_false] at *
      obtain ⟨h1, h2, h3⟩ := argEnv_spec vs (i + 1) t h
      refine ⟨by omega, by simp; omega, ?_⟩
      rw [h3]
      have : t - i = (t - (i + 1)) + 1 := by omega
      rw [this]; simp

/-- A function's call, by its body's walk. -/
theorem calls_of {P : Program} {f : FuncId} {fn : Func} {c : Code} {n : Nat} {rs : List ResultVar} {args : List Value} {w : World} {R : Value → World → Prop}
    (hf : P.funcs[f]? = some fn) (hb : fn.body = some c) (hn : fn.ntmps = n) (hrs : fn.results = rs.toArray) (h4 : Nat.ble rs.length 4 = true) (hl : Nat.ble args.length n = true)
    (h : WE P n c (BP P rs R) (argEnv 0 args) w) : Calls P f args.toArray w fun e w' => ∃ v, e = .returned v ∧ R v w' := by
  have hlen : args.length ≤ n := Nat.le_of_ble_eq_true hl
  refine calls_of_wp hf hb (Code.wp_mono (fun e a w' hq => ?_) (h _ (Fits.mk (by simp [hn]; omega) rfl fun t ht => ?_)))
  · obtain ⟨ρ, ha, hq⟩ := hq
    cases e with
    | normal =>
      obtain ⟨vs, hr, hR⟩ := hq
      exact ⟨ha.defers, _, results_of hrs ha hr (Nat.le_of_ble_eq_true h4), _, rfl, hR⟩
    | ret =>
      obtain ⟨vs, hr, hR⟩ := hq
      exact ⟨ha.defers, _, results_of hrs ha hr (Nat.le_of_ble_eq_true h4), _, rfl, hR⟩
    | _ => exact hq.elim
  · obtain ⟨_, h2, h3⟩ := argEnv_spec args 0 t ht
    rw [h3]
    simp only [Nat.zero_add] at h2
    have hlt : t < args.toArray.size := by simpa using h2
    simp only [Array.getD_eq_getD_getElem?, Nat.sub_zero]
    rw [Array.getElem?_append_left hlt]
    simp
end Go.Proofs.Ytcoepljalekglaa.G2
