/- Lemmas for the walk: part D. -/
import Derived.Test.YtcoepljalekglaaG2C
set_option linter.unusedSimpArgs false
set_option linter.unusedVariables false
set_option linter.all false
/-! Steps that touch memory. -/
namespace Go.Proofs.Ytcoepljalekglaa.G2
open Go.RowKit

section
variable {P : Program} {n : Nat} {ops : Array Oper} {Q : Post} {ρ : Env} {w0 w : World} {h : Gh} {L : List Ent} {o : Oper} {rest l : List Oper}

def segE (P : Program) (n : Nat) (ops : Array Oper) (k : Nat) (l : List Oper) (ρ : Env) : Env := match seg P n ops k l ρ with | some p => p.2 | none => ρ
def segOk (P : Program) (n : Nat) (ops : Array Oper) (k : Nat) (l : List Oper) (ρ : Env) : Bool := match seg P n ops k l ρ with | some _ => true | none => false
theorem seg_drop : ∀ (k : Nat) {l l' : List Oper} {ρ ρ' : Env}, seg P n ops k l ρ = some (l', ρ') → l' = l.drop k := by
  intro k
  induction k with
  | zero => intro l l' ρ ρ' h; simp only [G2.seg, Option.some.injEq, Prod.mk.injEq] at h; exact h.1.symm
  | succ k ih =>
    intro l l' ρ ρ' h
    cases l with
    | nil => simp [G2.seg] at h
    | cons o l =>
      simp only [G2.seg] at h
      split at h
      · cases h
      · cases hd : dstOk n o with
        | false => simp [hd] at h
        | true => simp only [hd, cond_true] at h; exact ih h
      · cases ho : okOp n ρ o with
        | false => simp [ho] at h
        | true =>
          simp only [ho, cond_true] at h
          split at h
          · exact ih h
          · cases h
theorem WL.sg (k : Nat) (hk : segOk P n ops k l ρ = true) (hn : WL P n ops Q (l.drop k) (segE P n ops k l ρ) w) : WL P n ops Q l ρ w := by
  unfold segOk at hk
  cases hs : G2.seg P n ops k l ρ with
  | none => rw [hs] at hk; cases hk
  | some p =>
    obtain ⟨l', ρ'⟩ := p
    have e := seg_drop k hs
    unfold segE at hn
    rw [hs] at hn
    subst e
    exact WL.seg k hs hn
/-- A region's last k operations. -/
theorem WL.fin (k : Nat) (hk : segOk P n ops k l ρ = true) (hl : (l.drop k).isEmpty = true) (hn : Q .normal (segE P n ops k l ρ) w) : WL P n ops Q l ρ w := by
  refine WL.sg k hk ?_
  rw [List.isEmpty_iff.1 hl]
  exact WL.nil hn

/-- What an operation does, as the environment has its operands. -/
def Does (P : Program) (ρ : Env) (o : Oper) (w : World) (K : Value → World → Prop) : Prop :=
  match (execOp (ev ρ) o).run P w with
  | .ok (.value v) w' => K v w'
  | .ok .skip w' => K undef w'
  | .ok (.enter f args) w' => Calls P f args w' fun e w'' => ∃ v, e = .returned v ∧ K v w''
  | _ => False
theorem Does.wp {a : Act} {K : Value → World → Prop} (hx : execOp a.eval o = execOp (ev ρ) o) (h : Does P ρ o w K) {N : Act → World → Prop} {X : Exit → Act → World → Prop} (hK : ∀ v w', K v w' → N (a.put o.dst v) w') : o.wp P a w N X := by
  unfold Oper.wp
  rw [hx]
  unfold Does at h
  split at h
  · rename_i e; rw [e]; exact hK _ _ h
  · rename_i e; rw [e]; exact hK _ _ h
  · rename_i e; rw [e]
    refine Calls.mono h fun e w' ⟨v, he, hw⟩ => ?_
    subst he
    exact hK _ _ hw
  · exact h.elim

theorem WL.does (hg : wantE ops ρ o = some true) (hk : okOp n ρ o = true) (h : Does P ρ o w fun v w' => WL P n ops Q rest (putE ρ o.dst v) w') : WL P n ops Q (o :: rest) ρ w := fun a ha => by
  unfold wpList
  rw [wantE.spec hg ha, if_pos rfl]
  exact .inl (Does.wp (okOp.exec hk ha) h fun v w' hw => hw _ (ha.put _ _ (okOp.dst hk)))

section
variable {K : Value → World → Prop} {d : Option Tmp} {t : TypeId} {x y : Operand} {ty : TypeId} {pos : String} {af : Array Edge} {g : Option (Nat × Bool)}

theorem Does.value {v : Value} {w' : World} (hr : (execOp (ev ρ) o).run P w = .ok (.value v) w') (k : K v w') : Does P ρ o w K := by unfold Does; rw [hr]; exact k
theorem Does.unit {w' : World} (hr : (execOp (ev ρ) o).run P w = .ok .skip w') (k : K undef w') : Does P ρ o w K := by unfold Does; rw [hr]; exact k
theorem Does.calm {v : Value} (hr : G2.still P (execOp (ev ρ) o) = some (.value v)) (k : K v w) : Does P ρ o w K := Does.value (still_run _ hr w) k

def calmV (P : Program) (ρ : Env) (o : Oper) : Value := match G2.still P (execOp (ev ρ) o) with | some (.value v) => v | _ => undef
def calmOk (P : Program) (ρ : Env) (o : Oper) : Bool := match G2.still P (execOp (ev ρ) o) with | some (.value _) => true | _ => false
theorem Does.reck (hk : calmOk P ρ o = true) (k : K (calmV P ρ o) w) : Does P ρ o w K := by
  unfold calmOk at hk
  unfold calmV at k
  cases hs : G2.still P (execOp (ev ρ) o) with
  | none => rw [hs] at hk; cases hk
  | some x => cases x <;> rw [hs] at hk k <;> first | exact Does.calm hs k | cases hk

/-- A call by its contract. -/
theorem Does.call {f : FuncId} {args : Array Value} {R : Value → World → Prop} (hc : Calls P f args w fun e w' => ∃ v, e = .returned v ∧ R v w') (hr : G2.still P (execOp (ev ρ) o) = some (.enter f args))
    (k : ∀ v w', R v w' → K v w') : Does P ρ o w K := by
  unfold Does
  rw [still_run _ hr]
  exact Calls.mono hc fun e w' ⟨v, he, hR⟩ => ⟨v, he, k v w' hR⟩

/-- An operation that tells a value and leaves the world. -/
def Tells (P : Program) (ρ : Env) (o : Oper) (w : World) (v : Value) : Prop := (execOp (ev ρ) o).run P w = .ok (.value v) w
theorem Does.tells {v : Value} (hr : Tells P ρ o w v) (k : K v w) : Does P ρ o w K := Does.value hr k
theorem Tells.calm {v : Value} (hr : G2.still P (execOp (ev ρ) o) = some (.value v)) : Tells P ρ o w v := still_run _ hr w
/-- A load. -/
theorem Tells.load {b p q j m : Nat} {C : Array Value} {e : TypeId} {fr : Nat × Nat} {cs : List Value} {v : Value} (hb : w.heap[b]? = some (.cells C e fr)) (hc : cut C p m = cs)
    (hx : ev ρ x = .pointer (some ⟨b, q, none⟩)) (hq : q = p + j) (hv : (bif Nat.ble cs.length m then ldv P t (cs.drop j) else none) = some v) : Tells P ρ ⟨d, .load t x, ty, pos, af, g⟩ w v := by
  have hr := run_loadAt (P := P) hb hc hq hv
  show Sem.run P (do Pure.pure (Next.value (← Instr.loadAt t (ev ρ x)))) w = _
  rw [hx, run_bind_ok hr]
  rfl
theorem cut_all (cs : List Value) : cut cs.toArray 0 cs.length = cs := by simp [cut]
/-- A load out of a variable of one's own. -/
theorem Tells.loadV (H : St w0 h w L) (i : Nat) {b : Nat} {e : TypeId} {cs : List Value} (hi : L[i]? = some (var b cs e)) (q : Nat) {v : Value}
    (hx : ev ρ x = .pointer (some ⟨b, q, none⟩)) (hv : ldv P t (cs.drop q) = some v) : Tells P ρ ⟨d, .load t x, ty, pos, af, g⟩ w v :=
  Tells.load (H.get i hi) (cut_all cs) hx (Nat.zero_add q).symm (by rw [show Nat.ble cs.length cs.length = true from Nat.ble_self_eq_true _]; exact hv)
/-- A load out of what is only read. -/
theorem Tells.loadR (H : St w0 h w L) {b p m : Nat} {C : Array Value} {e : TypeId} {fr : Nat × Nat} {cs : List Value} (hb : h b = some (.cells C e fr)) (hc : cut C p m = cs) (j : Nat) {v : Value}
    (hx : ev ρ x = .pointer (some ⟨b, p + j, none⟩)) (hv : (bif Nat.ble cs.length m then ldv P t (cs.drop j) else none) = some v) : Tells P ρ ⟨d, .load t x, ty, pos, af, g⟩ w v :=
  Tells.load (H.ext _ _ hb) hc hx rfl hv

def ldvD (P : Program) (t : TypeId) (cs : List Value) : Value := match ldv P t cs with | some v => v | none => undef
def ldvOk (P : Program) (t : TypeId) (cs : List Value) : Bool := match ldv P t cs with | some _ => true | none => false
theorem ldvOk.spec {t : TypeId} {cs : List Value} (h : ldvOk P t cs = true) : ldv P t cs = some (ldvD P t cs) := by
  unfold ldvOk at h; unfold ldvD
  cases hl : ldv P t cs with
  | none => rw [hl] at h; cases h
  | some v => rfl
theorem Does.loadV (H : St w0 h w L) (i : Nat) {b : Nat} {e : TypeId} {cs : List Value} (hi : L[i]? = some (var b cs e)) (q : Nat)
    (hx : ev ρ x = .pointer (some ⟨b, q, none⟩)) (hv : ldvOk P t (cs.drop q) = true) (k : K (ldvD P t (cs.drop q)) w) : Does P ρ ⟨d, .load t x, ty, pos, af, g⟩ w K :=
  Does.tells (Tells.loadV H i hi q hx (ldvOk.spec hv)) k
theorem Does.loadR (H : St w0 h w L) {b p m : Nat} {C : Array Value} {e : TypeId} {fr : Nat × Nat} {cs : List Value} (hb : h b = some (.cells C e fr)) (hc : cut C p m = cs) (j : Nat)
    (hx : ev ρ x = .pointer (some ⟨b, p + j, none⟩)) (hv : (bif Nat.ble cs.length m then ldvOk P t (cs.drop j) else false) = true) (k : K (ldvD P t (cs.drop j)) w) : Does P ρ ⟨d, .load t x, ty, pos, af, g⟩ w K := by
  cases hn : Nat.ble cs.length m with
  | false => rw [hn] at hv; cases hv
  | true => rw [hn] at hv; exact Does.tells (Tells.loadR H hb hc j hx (by rw [hn]; exact ldvOk.spec hv)) k

/-- A variable is made. -/
theorem Does.box (H : St w0 h w L) (cs : List Value) (hcs : (ev ρ x).cells = cs.toArray) (k : ∀ b w', St w0 h w' (var b cs t :: L) → K (.pointer (some ⟨b, 0, none⟩)) w') : Does P ρ ⟨d, .box t x, ty, pos, af, g⟩ w K := by
  refine Does.value (w' := w.alloc (.cells cs.toArray t (0, 0))) (v := .pointer (some ⟨w.heap.size, 0, none⟩)) ?_ (k _ _ (H.alloc _))
  show Sem.run P (do Pure.pure (Next.value (← Instr.box t (ev ρ x)))) w = _
  rw [← hcs]
  rfl
def zeroOf (P : Program) (t : TypeId) : Option (List Value) := match G2.still P (zeroValue t) with | some v => some v.cells.toList | none => none
theorem Does.alloc (H : St w0 h w L) (cs : List Value) (hcs : zeroOf P t = some cs) (k : ∀ b w', St w0 h w' (var b cs t :: L) → K (.pointer (some ⟨b, 0, none⟩)) w') : Does P ρ ⟨d, .alloc t, ty, pos, af, g⟩ w K := by
  refine Does.value (w' := w.alloc (.cells cs.toArray t (0, 0))) (v := .pointer (some ⟨w.heap.size, 0, none⟩)) ?_ (k _ _ (H.alloc _))
  unfold zeroOf at hcs
  cases hz : G2.still P (zeroValue t) with
  | none => rw [hz] at hcs; cases hcs
  | some v =>
    rw [hz] at hcs
    simp only [Option.some.injEq] at hcs
    subst hcs
    show Sem.run P (do Pure.pure (Next.value (← Instr.alloc t true (.tuple #[])))) w = _
    have e : Instr.alloc t true (.tuple #[]) = (zeroValue t >>= fun z => do Pure.pure (.pointer (some (← newVar t z)))) := rfl
    have e2 : (Instr.alloc t true (.tuple #[])).run P w = .ok (.pointer (some ⟨w.heap.size, 0, none⟩)) (w.alloc (.cells v.cells t (0, 0))) := by
      rw [e, run_bind_ok (still_run _ hz w)]; rfl
    rw [run_bind_ok e2]
    rfl
end

/-! ### Stores -/
def isCell : Value → Bool
  | .agg _ => false
  | .tuple _ => false
  | _ => true
def splice (cs : List Value) (q : Nat) (vs : List Value) : List Value := cs.take q ++ (vs ++ cs.drop (q + vs.length))

theorem run_store1 {a : Addr} {u v : Value} (hc : w.cell? a = some u) (hf : w.frozen? a = false) (hv : isCell v = true) : (Go.store a v).run P w = .ok () (w.setCell a v) := by
  show Sem.run P (Sem.store .plain a v (Sem.pure ())) w = _
  cases v <;> first | (simp [isCell] at hv; done) | simp [Sem.run, hc, hf]

structure Same (w w' : World) (b : Nat) : Prop where
  os : w'.os = w.os
  tape : w'.tape = w.tape
  output : w'.output = w.output
  size : w'.heap.size = w.heap.size
  block : ∀ k, k ≠ b → w'.heap[k]? = w.heap[k]?

theorem splice_size (cs vs : List Value) (q : Nat) (hq : q + vs.length ≤ cs.length) : (splice cs q vs).length = cs.length := by
  simp [splice]; omega

theorem splice_get {cs vs : List Value} {q : Nat} (hq : q + vs.length ≤ cs.length) (k : Nat) : (splice cs q vs)[k]? = if k < q then cs[k]? else if k < q + vs.length then vs[k - q]? else cs[k]? := by
  unfold splice
  have hl : (List.take q cs).length = q := by simp; omega
  split
  · rename_i h
    rw [List.getElem?_append_left (by omega), List.getElem?_take, if_pos h]
  · rename_i h
    rw [List.getElem?_append_right (by omega), hl]
    split
    · rw [List.getElem?_append_left (by omega)]
    · rw [List.getElem?_append_right (by omega), List.getElem?_drop]
      congr 1
      omega
theorem splice_cons (cs vs : List Value) (v : Value) (p : Nat) (hp : p < cs.length) (hl : p + 1 + vs.length ≤ cs.length) : splice (splice cs p [v]) (p + 1) vs = splice cs p (v :: vs) := by
  apply List.ext_getElem?
  intro k
  have hs := splice_size cs [v] p (by simp; omega)
  rw [splice_get (by rw [hs]; omega), splice_get (by simp; omega), splice_get (by simp; omega)]
  simp only [List.length_cons, List.length_nil]
  by_cases h1 : k < p
  · simp [h1, show k < p + 1 by omega]
  · by_cases h2 : k = p
    · subst h2; simp
    · have e : k - p = (k - (p + 1)) + 1 := by omega
      have n1 : ¬ k < p + 1 := by omega
      have n2 : ¬ k < p + (0 + 1) := by omega
      have e2 : (k < p + 1 + vs.length) = (k < p + (vs.length + 1)) := by simp; omega
      simp [h1, n1, e2, e]

theorem run_storeCells {b : Nat} {t : TypeId} (q : Nat) : ∀ (vs : List Value) (i : Nat) (cs : List Value) (w : World), w.heap[b]? = some (.cells cs.toArray t (0, 0)) → q + i + vs.length ≤ cs.length → vs.all isCell = true →
    ∃ w', (storeCells ⟨b, q, none⟩ vs i).run P w = .ok () w' ∧ Same w w' b ∧ w'.heap[b]? = some (.cells (splice cs (q + i) vs).toArray t (0, 0)) := by
  intro vs
  induction vs with
  | nil => intro i cs w hb _ _; exact ⟨w, rfl, ⟨rfl, rfl, rfl, rfl, fun _ _ => rfl⟩, by simpa [splice] using hb⟩
  | cons v vs ih =>
    intro i cs w hb hlen hall
    simp only [List.all_cons, Bool.and_eq_true] at hall
    simp only [List.length_cons] at hlen
    have hlt : q + i < cs.length := by omega
    have hc : w.cell? ⟨b, q + i, none⟩ = some cs[q + i] := by rw [cell_of hb]; simp [hlt]
    have hf : w.frozen? ⟨b, q + i, none⟩ = false := by simp [World.frozen?, hb]
    have hb' : (w.setCell ⟨b, q + i, none⟩ v).heap[b]? = some (.cells (splice cs (q + i) [v]).toArray t (0, 0)) := by
      simp only [World.setCell, Array.getElem?_modify, hb, if_true, Option.map_some]
      simp only [Option.isSome_none, Bool.false_eq_true, if_false, Option.some.injEq, Obj.cells.injEq, and_true]
      simp only [List.setIfInBounds_toArray, splice]
      congr 1
      rw [List.set_eq_take_append_cons_drop, if_pos hlt]
      simp
    obtain ⟨w', hr, hs, hw⟩ := ih (i + 1) (splice cs (q + i) [v]) (w.setCell ⟨b, q + i, none⟩ v) hb' (by rw [splice_size _ _ _ (by simp; omega)]; omega) hall.2
    refine ⟨w', ?_, ⟨hs.os, hs.tape, hs.output, hs.size.trans (by simp), fun k hk => (hs.block k hk).trans (Below.heap_setCell _ _ _ _ hk)⟩, ?_⟩
    · simp only [storeCells]
      rw [add_plain, run_bind_ok (run_store1 hc hf hall.1), hr]
    · rw [hw, ← Nat.add_assoc, splice_cons _ _ _ _ hlt (by omega)]
end
end Go.Proofs.Ytcoepljalekglaa.G2
