/- Lemmas for the walk: part A. -/
import Derived.Tactics
import Derived.Orders
import Derived.Below
import Derived.KernelRfl
set_option linter.unusedSimpArgs false
set_option linter.unusedVariables false
set_option linter.all false
/-! The walk over an environment: what is known of the slots is a list; what an operation without memory gives is reckoned by the kernel. -/
namespace Go.Proofs.Ytcoepljalekglaa.G2
open Go.RowKit

abbrev Env := List (Nat × Value)
def gt : Env → Nat → Value
  | [], _ => undef
  | (d, v) :: r, t => bif Nat.beq d t then v else gt r t
def has : Env → Nat → Bool
  | [], _ => false
  | (d, _) :: r, t => bif Nat.beq d t then true else has r t
def ev (ρ : Env) : Operand → Value
  | .tmp t => gt ρ t
  | .const v => v
  | .global g => .pointer (some ⟨g, 0, none⟩)
  | .func f => .func (.func f) #[] #[]
def knows (ρ : Env) : Operand → Bool
  | .tmp t => has ρ t
  | _ => true
structure Fits (a : Act) (n : Nat) (ρ : Env) : Prop where
  size : a.tmps.size = n
  defers : a.defers = []
  at_ : ∀ t, has ρ t = true → a.tmps.getD t undef = gt ρ t

theorem Fits.eval {a : Act} {n : Nat} {ρ : Env} (h : Fits a n ρ) {x : Operand} (hx : knows ρ x = true) : a.eval x = ev ρ x := by
  cases x with
  | tmp t => exact h.at_ t hx
  | _ => rfl

def putE (ρ : Env) (d : Option Tmp) (v : Value) : Env := match d with | some d => (d, v) :: ρ | none => ρ
def dstOk (n : Nat) (o : Oper) : Bool := match o.dst with | some d => Nat.blt d n | none => true

theorem Fits.put {a : Act} {n : Nat} {ρ : Env} (h : Fits a n ρ) (d : Option Tmp) (v : Value) (hd : ∀ e, d = some e → e < n) : Fits (a.put d v) n (putE ρ d v) := by
  cases d with
  | none => exact h
  | some d =>
    have hlt := hd d rfl
    refine ⟨by simp [Act.put, h.size], h.defers, fun t ht => ?_⟩
    simp only [Act.put, putE, gt, has] at *
    by_cases e : d = t
    · subst e
      have : d < a.tmps.size := by rw [h.size]; exact hlt
      simp [Array.getElem?_setIfInBounds, this]
    · have hne : Nat.beq d t = false := by
        cases hb : Nat.beq d t with
        | false => rfl
        | true => exact absurd (Nat.eq_of_beq_eq_true hb) e
      simp only [hne, cond_false] at *
      have := h.at_ t ht
      simp only [Array.getD_eq_getD_getElem?, Array.getElem?_setIfInBounds] at *
      rw [if_neg e]
      exact this

/-- What an operation that asks only the program gives. -/
def still {α : Type} (P : Program) : Sem α → Option α
  | .pure a => some a
  | .program k => still P (k P)
  | .mark _ k => still P k
  | _ => none

theorem still_run {α : Type} {P : Program} (s : Sem α) {a : α} (h : still P s = some a) (w : World) : s.run P w = .ok a w := by
  induction s with
  | pure b => simp only [still, Option.some.injEq] at h; subst h; rfl
  | program k ih => simp only [still] at h; simp only [Sem.run]; exact ih P h
  | mark m k ih => simp only [still] at h; simp only [Sem.run]; exact ih h
  | _ => simp [still] at h

/-- The walk's judgements. -/
abbrev Post := Exit → Env → World → Prop
def hat (n : Nat) (Q : Post) : Exit → Act → World → Prop := fun e a w => ∃ ρ, Fits a n ρ ∧ Q e ρ w
def WE (P : Program) (n : Nat) (c : Code) (Q : Post) (ρ : Env) (w : World) : Prop := ∀ a, Fits a n ρ → c.wp P (hat n Q) a w
def WL (P : Program) (n : Nat) (ops : Array Oper) (Q : Post) (l : List Oper) (ρ : Env) (w : World) : Prop := ∀ a, Fits a n ρ → wpList P ops (hat n Q) l a w
/-- Within a loop, ahead of a round. -/
def LP (P : Program) (n : Nat) (c : Code) (Q : Post) (ρ : Env) (w : World) : Prop :=
  ∀ a, Fits a n ρ → ∀ (b : Frame) (k : List Item) (cs : List Frame), ∃ e a' w', hat n Q e a' w' ∧ Arrives P (lone (b.at a (.code c :: .inLoop c :: k)) cs w) b k cs e a' w'

def thenE (N : Env → World → Prop) (Q : Post) : Post
  | .normal, ρ, w => N ρ w
  | e, ρ, w => Q e ρ w
def inBlockE (id : Nat) (Q : Post) : Post
  | .exit j, ρ, w => bif Nat.beq j id then Q .normal ρ w else Q (.exit j) ρ w
  | e, ρ, w => Q e ρ w

section
variable {P : Program} {n : Nat} {Q : Post} {ρ : Env} {w : World}

theorem hat_then {N : Env → World → Prop} {K : Act → World → Prop} (hN : ∀ ρ w a, N ρ w → Fits a n ρ → K a w) (e : Exit) (a : Act) (w : World) (h : hat n (thenE N Q) e a w) : Exit.then K (hat n Q) e a w := by
  obtain ⟨ρ', hf, hq⟩ := h
  cases e <;> first | exact hN _ _ _ hq hf | exact ⟨ρ', hf, hq⟩

theorem WE.seq {x y : Code} (h : WE P n x (thenE (WE P n y Q) Q) ρ w) : WE P n (x.seq y) Q ρ w :=
  fun a ha => wp_seq (Code.wp_mono (hat_then fun _ _ a hN hf => hN a hf) (h a ha))

theorem WE.skip (h : Q .normal ρ w) : WE P n .skip Q ρ w := fun _ ha => wp_skip ⟨ρ, ha, h⟩
theorem WE.ret (h : Q .ret ρ w) : WE P n .ret Q ρ w := fun _ ha => wp_ret ⟨ρ, ha, h⟩
theorem WE.exit {id : Nat} (h : Q (.exit id) ρ w) : WE P n (.exit id) Q ρ w := fun _ ha => wp_exit ⟨ρ, ha, h⟩
theorem WE.block {id : Nat} {c : Code} (h : WE P n c (inBlockE id Q) ρ w) : WE P n (.block id c) Q ρ w := fun a ha => by
  refine wp_block (Code.wp_mono (fun e a w hq => ?_) (h a ha))
  obtain ⟨ρ', hf, hq⟩ := hq
  cases e with
  | exit j =>
    simp only [Exit.inBlock, inBlockE] at *
    by_cases e : j = id
    · subst e
      have : Nat.beq j j = true := Nat.beq_refl j
      simp only [this, cond_true] at hq
      simp only [if_true]
      exact ⟨ρ', hf, hq⟩
    · have hne : Nat.beq j id = false := by
        cases hb : Nat.beq j id with
        | false => rfl
        | true => exact absurd (Nat.eq_of_beq_eq_true hb) e
      simp only [hne, cond_false] at hq
      simp only [e, if_false]
      exact ⟨ρ', hf, hq⟩
  | _ => exact ⟨ρ', hf, hq⟩

theorem WE.cond {c : Operand} {x y : Code} {b : Bool} (hk : knows ρ c = true) (hv : ev ρ c = .bool b) (ht : b = true → WE P n x Q ρ w) (hf : b = false → WE P n y Q ρ w) : WE P n (.cond c x y) Q ρ w := fun a ha =>
  wp_cond_split ((ha.eval hk).trans hv) (fun h => ht h a ha) (fun h => hf h a ha)

theorem WE.loop {c : Code} (h : LP P n c Q ρ w) : WE P n (.loop c) Q ρ w := fun a ha b k cs => by
  obtain ⟨e, a', w', hq, harr⟩ := h a ha b k cs
  exact ⟨e, a', w', hq, .of_steps (.one step_loop) harr⟩

theorem LP.round {c : Code} (h : WE P n c (thenE (LP P n c Q) Q) ρ w) : LP P n c Q ρ w := fun a ha b k cs => by
  obtain ⟨e, a₁, w₁, ⟨ρ₁, hf, hq⟩, harr⟩ := h a ha b (.inLoop c :: k) cs
  cases e with
  | normal =>
    obtain ⟨e₂, a₂, w₂, hq₂, harr₂⟩ := hq a₁ hf b k cs
    exact ⟨e₂, a₂, w₂, hq₂, .of_steps (Steps.trans harr (.one step_inLoop)) harr₂⟩
  | exit id => exact ⟨_, a₁, w₁, ⟨ρ₁, hf, hq⟩, .pass (x := .inLoop c) rfl (fun _ _ => .inl (by simp)) harr⟩
  | goto l => exact ⟨_, a₁, w₁, ⟨ρ₁, hf, hq⟩, .pass (x := .inLoop c) rfl (fun _ _ => .inl (by simp)) harr⟩
  | ret => exact ⟨_, a₁, w₁, ⟨ρ₁, hf, hq⟩, .pass (x := .inLoop c) rfl (fun _ _ => .inl (by simp)) harr⟩
  | panic ch => exact ⟨_, a₁, w₁, ⟨ρ₁, hf, hq⟩, .pass (x := .inLoop c) rfl (fun _ _ => .inl (by simp)) harr⟩
  | outgrown => exact ⟨_, a₁, w₁, ⟨ρ₁, hf, hq⟩, .pass (x := .inLoop c) rfl (fun _ _ => .inl (by simp)) harr⟩

theorem WE.region {id : Nat} {ops : Array Oper} (h : WL P n ops Q ops.toList ρ w) : WE P n (.region id ops false) Q ρ w := fun a ha => wp_region_list (h a ha)

theorem WL.nil {ops : Array Oper} (h : Q .normal ρ w) : WL P n ops Q [] ρ w := fun _ ha => wpList_nil ⟨ρ, ha, h⟩

/-- What is known may be forgotten. -/
def pick (ρ : Env) : List Nat → Option Env
  | [] => some []
  | t :: ts => bif has ρ t then (match pick ρ ts with | some r => some ((t, gt ρ t) :: r) | none => none) else none
theorem pick_spec {ρ : Env} : ∀ {ts : List Nat} {ρ' : Env}, pick ρ ts = some ρ' → ∀ t, has ρ' t = true → has ρ t = true ∧ gt ρ' t = gt ρ t
  | [], ρ', h, t, ht => by simp [pick] at h; subst h; simp [has] at ht
  | s :: ts, ρ', h, t, ht => by
    simp only [pick] at h
    cases hs : has ρ s with
    | false => simp [hs] at h
    | true =>
      simp only [hs, cond_true] at h
      cases hp : pick ρ ts with
      | none => simp [hp] at h
      | some r =>
        simp only [hp, Option.some.injEq] at h
        subst h
        simp only [has, gt] at *
        cases hb : Nat.beq s t with
        | true =>
          have := Nat.eq_of_beq_eq_true hb; subst this
          exact ⟨hs, rfl⟩
        | false =>
          simp only [hb, cond_false] at *
          exact pick_spec hp t ht
theorem Fits.pick {a : Act} {ts : List Nat} {ρ' : Env} (h : Fits a n ρ) (hp : pick ρ ts = some ρ') : Fits a n ρ' :=
  ⟨h.size, h.defers, fun t ht => by obtain ⟨h1, h2⟩ := pick_spec hp t ht; rw [h2]; exact h.at_ t h1⟩
theorem WE.live {c : Code} (ts : List Nat) {ρ' : Env} (hp : pick ρ ts = some ρ') (h : WE P n c Q ρ' w) : WE P n c Q ρ w := fun a ha => h a (ha.pick hp)
theorem LP.live {c : Code} (ts : List Nat) {ρ' : Env} (hp : pick ρ ts = some ρ') (h : LP P n c Q ρ' w) : LP P n c Q ρ w := fun a ha => h a (ha.pick hp)
theorem WL.live {ops : Array Oper} {l : List Oper} (ts : List Nat) {ρ' : Env} (hp : pick ρ ts = some ρ') (h : WL P n ops Q l ρ' w) : WL P n ops Q l ρ w := fun a ha => h a (ha.pick hp)
end
end Go.Proofs.Ytcoepljalekglaa.G2
