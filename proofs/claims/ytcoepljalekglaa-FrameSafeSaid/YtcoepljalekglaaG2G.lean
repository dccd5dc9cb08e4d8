/- Lemmas for the walk: part G. -/
import Derived.Test.YtcoepljalekglaaG2F
import Derived.Laws.StructEq
set_option linter.unusedSimpArgs false
set_option linter.unusedVariables false
set_option linter.all false
/-! Comparing structs; slices that are read; rows of one's own. -/
namespace Go.Proofs.Ytcoepljalekglaa.G2
open Go.RowKit

/-! ### Comparing -/
def eqFs (P : Program) (f : TypeId → Value → Value → Option Bool) (xs ys : Array Value) : List Field → Option Bool
  | [] => some true
  | g :: fs => bif g.name == "_" then eqFs P f xs ys fs else
    match still P (part g.type xs g.offset), still P (part g.type ys g.offset) with
    | some a, some b => match f g.type a b, eqFs P f xs ys fs with
      | some r, some s => some (r && s)
      | _, _ => none
    | _, _ => none
def eqS (P : Program) : Nat → TypeId → Value → Value → Option Bool
  | 0, _, _, _ => none
  | d + 1, t, x, y => match P.underlying t, x, y with
    | some .bool, .bool a, .bool b => some (a == b)
    | some (.int _), .int k a, .int k' b => bif decide (k = k') then some (a == b) else none
    | some .string, .string a, .string b => some (a.toList == b.toList)
    | some (.struct fs), .agg xs, .agg ys => bif P.stoodInHeld t then none else eqFs P (eqS P d) xs ys fs.toList
    | _, _, _ => none
theorem eqFs_run {P : Program} {d : Nat} {xs ys : Array Value} (ih : ∀ t x y b w, eqS P d t x y = some b → (Op.equalIn d t x y).run P w = .ok b w) : ∀ (fs : List Field) (b : Bool) (w : World), eqFs P (eqS P d) xs ys fs = some b → (Op.eqFields d xs ys fs).run P w = .ok b w := by
  intro fs
  induction fs with
  | nil => intro b w h; simp only [eqFs, Option.some.injEq] at h; subst h; rfl
  | cons g fs ihf =>
    intro b w h
    simp only [eqFs] at h
    cases hn : g.name == "_" with
    | true =>
      simp only [hn, cond_true] at h
      have : g.name = "_" := by simpa using hn
      simp only [Op.eqFields, this, ne_eq, not_true_eq_false, if_false]
      exact ihf b w h
    | false =>
      simp only [hn, cond_false] at h
      have hne : g.name ≠ "_" := by simpa using hn
      simp only [Op.eqFields, if_pos hne]
      split at h
      · rename_i a c ha hc
        split at h
        · rename_i r s hr hs
          simp only [Option.some.injEq] at h
          subst h
          rw [run_bind_ok (still_run _ ha w), run_bind_ok (still_run _ hc w), run_bind_ok (ih _ _ _ _ w hr)]
          cases r
          · simp
          · simpa using ihf s w hs
        · cases h
      · cases h
theorem eqS_run {P : Program} : ∀ (d : Nat) (t : TypeId) (x y : Value) (b : Bool) (w : World), eqS P d t x y = some b → (Op.equalIn d t x y).run P w = .ok b w := by
  intro d
  induction d with
  | zero => intro t x y b w h; simp [eqS] at h
  | succ d ih =>
    intro t x y b w h
    simp only [eqS] at h
    split at h
    · rename_i a c hu; simp only [Option.some.injEq] at h; subst h; exact run_equalIn_bool' w d t a c hu
    · rename_i k0 k a k' c hu
      cases hk : decide (k = k') with
      | false => simp [hk] at h
      | true =>
        rw [hk] at h
        have hkk := of_decide_eq_true hk
        clear hk
        subst hkk
        simp only [cond_true, Option.some.injEq] at h
        subst h
        exact run_equalIn_int w d t k k0 a c hu
    · rename_i a c hu; simp only [Option.some.injEq] at h; subst h; exact run_equalIn_string w d t a c hu
    · rename_i fs xs ys hu
      cases hp : P.stoodInHeld t with
      | true => simp [hp] at h
      | false =>
        simp only [hp, cond_false] at h
        have hf : P.fieldsOf t = fs := by simp [Program.fieldsOf, hu]
        rw [run_equalIn_struct w d t xs ys (by rw [hf]; exact hu) hp, hf]
        exact eqFs_run ih _ b w h
    · cases h

section
variable {P : Program} {n : Nat} {ops : Array Oper} {Q : Post} {ρ : Env} {w0 w : World} {h : Gh} {L : List Ent} {o : Oper}
variable {K : Value → World → Prop} {d : Option Tmp} {t : TypeId} {x y : Operand} {ty : TypeId} {pos : String} {af : Array Edge} {g : Option (Nat × Bool)}

def aggs : Value → Value → Bool
  | .agg _, .agg _ => true
  | _, _ => false
theorem aggs_spec {x y : Value} (h : aggs x y = true) : ∃ xs ys, x = .agg xs ∧ y = .agg ys := by
  unfold aggs at h
  split at h
  · exact ⟨_, _, rfl, rfl⟩
  · cases h
theorem Tells.eql (b : Bool) {yt : TypeId} (ha : aggs (ev ρ x) (ev ρ y) = true) (hg : still P (eqGuard .eql t x y (ev ρ x) (ev ρ y)) = some ()) (hb : eqS P Op.maxDepth t (ev ρ x) (ev ρ y) = some b) : Tells P ρ ⟨d, .binOp .eql t x y yt, ty, pos, af, g⟩ w (.bool b) := by
  show Sem.run P (do Pure.pure (Next.value (← (do eqGuard .eql t x y (ev ρ x) (ev ρ y); binOp .eql t (ev ρ x) (ev ρ y))))) w = _
  obtain ⟨xs, ys, hx, hy⟩ := aggs_spec ha
  rw [hx, hy] at hg hb ⊢
  have e : (binOp .eql t (.agg xs) (.agg ys)).run P w = .ok (.bool b) w := by
    show Sem.run P (do Pure.pure (Value.bool (← Op.equalIn Op.maxDepth t (.agg xs) (.agg ys)))) w = _
    rw [run_bind_ok (eqS_run Op.maxDepth t _ _ b w hb)]; rfl
  have e2 : Sem.run P (do eqGuard .eql t x y (.agg xs) (.agg ys); binOp .eql t (.agg xs) (.agg ys)) w = .ok (.bool b) w := by
    rw [run_bind_ok (still_run _ hg w)]; exact e
  rw [run_bind_ok e2]; rfl
theorem Tells.neq (b : Bool) {yt : TypeId} (ha : aggs (ev ρ x) (ev ρ y) = true) (hg : still P (eqGuard .neq t x y (ev ρ x) (ev ρ y)) = some ()) (hb : eqS P Op.maxDepth t (ev ρ x) (ev ρ y) = some b) : Tells P ρ ⟨d, .binOp .neq t x y yt, ty, pos, af, g⟩ w (.bool (!b)) := by
  show Sem.run P (do Pure.pure (Next.value (← (do eqGuard .neq t x y (ev ρ x) (ev ρ y); binOp .neq t (ev ρ x) (ev ρ y))))) w = _
  obtain ⟨xs, ys, hx, hy⟩ := aggs_spec ha
  rw [hx, hy] at hg hb ⊢
  have e : (binOp .neq t (.agg xs) (.agg ys)).run P w = .ok (.bool (!b)) w := by
    show Sem.run P (do Pure.pure (Value.bool (!(← Op.equalIn Op.maxDepth t (.agg xs) (.agg ys))))) w = _
    rw [run_bind_ok (eqS_run Op.maxDepth t _ _ b w hb)]; rfl
  have e2 : Sem.run P (do eqGuard .neq t x y (.agg xs) (.agg ys); binOp .neq t (.agg xs) (.agg ys)) w = .ok (.bool (!b)) w := by
    rw [run_bind_ok (still_run _ hg w)]; exact e
  rw [run_bind_ok e2]; rfl
end

/-! ### Representations -/
structure Rep (α : Type) where
  sz : Nat
  rel : Gh → List Value → α → Prop
  up : ∀ {h h' cs x}, Gh.le h h' → rel h cs x → rel h' cs x
  len : ∀ {h cs x}, rel h cs x → cs.length = sz
  plain : ∀ {h cs x}, rel h cs x → cs.all isCell = true

def Rep.int (k : IntKind) : Rep Int := ⟨1, fun _ cs x => cs = [.int k x], fun _ h => h, fun e => by rw [e]; rfl, fun e => by rw [e]; rfl⟩
def Rep.bool : Rep Bool := ⟨1, fun _ cs x => cs = [.bool x], fun _ h => h, fun e => by rw [e]; rfl, fun e => by rw [e]; rfl⟩
def Rep.str : Rep ByteArray := ⟨1, fun _ cs x => cs = [.string x], fun _ h => h, fun e => by rw [e]; rfl, fun e => by rw [e]; rfl⟩

/-- A slice that is read: its address, its capacity, its elements. B: an element's bytes. -/
def Sl {α : Type} (K : Rep α) (B : Nat) (h : Gh) (a : Option Addr) (c : Nat) (xs : List α) : Prop :=
  xs.length ≤ c ∧ c ≤ maxLen ∧ True ∧ (xs = [] ∨ ∃ b o C e fr, a = some ⟨b, o, none⟩ ∧ h b = some (.cells C e fr) ∧ ∀ i (hi : i < xs.length), K.rel h (cut C (o + i * K.sz) K.sz) xs[i])
def gd {α : Type} [Inhabited α] (xs : List α) (i : Int) : α := xs.getD i.toNat default
theorem gd_mem {α : Type} [Inhabited α] {xs : List α} {i : Int} (h0 : 0 ≤ i) (h1 : i < xs.length) : gd xs i = xs[i.toNat]'(by omega) := by
  simp [gd, List.getD_eq_getElem?_getD, List.getElem?_eq_getElem (show i.toNat < xs.length by omega)]
section
variable {α : Type} {K : Rep α} {B : Nat} {h h' : Gh} {a : Option Addr} {c : Nat} {xs : List α}
theorem Sl.up (hs : Sl K B h a c xs) (le : h.le h') : Sl K B h' a c xs := by
  obtain ⟨h1, h2, h3, h4⟩ := hs
  refine ⟨h1, h2, h3, h4.imp id ?_⟩
  rintro ⟨b, o, C, e, fr, e1, e2, e3⟩
  exact ⟨b, o, C, e, fr, e1, le _ _ e2, fun i hi => K.up le (e3 i hi)⟩
theorem Sl.nil (a : Option Addr) (c : Nat) (hc : c ≤ maxLen) : Sl K B h a c [] := ⟨Nat.zero_le _, hc, trivial, .inl rfl⟩
theorem Sl.at [Inhabited α] (hs : Sl K B h a c xs) {i : Int} (h0 : 0 ≤ i) (h1 : i < xs.length) :
    ∃ b o C e fr cs, a = some ⟨b, o, none⟩ ∧ h b = some (.cells C e fr) ∧ cut C (o + i.toNat * K.sz) K.sz = cs ∧ K.rel h cs (gd xs i) := by
  obtain ⟨_, _, _, h4⟩ := hs
  rcases h4 with rfl | ⟨b, o, C, e, fr, e1, e2, e3⟩
  · simp at h1; omega
  · exact ⟨b, o, C, e, fr, _, e1, e2, rfl, by rw [gd_mem h0 h1]; exact e3 _ _⟩
theorem Sl.len (hs : Sl K B h a c xs) : (xs.length : Int) ≤ 9223372036854775807 := by
  have := hs.1; have := hs.2.1; unfold maxLen at *; omega
end

/-! ### Case analysis of what a function tells -/
theorem ite_cases {α : Type} {b : Bool} {x y r : α} (h : (if b = true then x else y) = r) : (b = true ∧ x = r) ∨ (b = false ∧ y = r) := by
  cases b
  · exact .inr ⟨rfl, by simpa using h⟩
  · exact .inl ⟨rfl, by simpa using h⟩
theorem grd_cases {α : Type} {p : Prop} [Decidable p] {x : Option α} {r : α} (h : (if p then x else none) = some r) : p ∧ x = some r := by
  by_cases hp : p
  · rw [if_pos hp] at h; exact ⟨hp, h⟩
  · rw [if_neg hp] at h; cases h
theorem bind_cases {α β : Type} {x : Option α} {k : α → Option β} {r : β} (h : x.bind k = some r) : ∃ y, x = some y ∧ k y = some r := Option.bind_eq_some_iff.1 h
def bnd {α β : Type} (x : α) (k : α → β) : β := k x
theorem bnd_cases {α β : Type} {x : α} {k : α → β} {r : β} (h : bnd x k = r) : ∃ y, x = y ∧ k y = r := ⟨x, rfl, h⟩
end Go.Proofs.Ytcoepljalekglaa.G2
