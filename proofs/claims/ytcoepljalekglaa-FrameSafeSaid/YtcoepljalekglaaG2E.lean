/- Lemmas for the walk: part E. -/
import Derived.Test.YtcoepljalekglaaG2D
set_option linter.unusedSimpArgs false
set_option linter.unusedVariables false
set_option linter.all false
/-! What values lead to: representations, slices that are read, rows that are owned. -/
namespace Go.Proofs.Ytcoepljalekglaa.G2
open Go.RowKit

def szOf (P : Program) (t : TypeId) : Option Nat := still P (sizeOf t)
/-- A slice type's element: its type and size. -/
def slcOf (P : Program) (t : TypeId) : Option (TypeId × Nat) :=
  match P.underlying t with
  | some (.slice e) => match still P (sizeOf e) with | some n => some (e, n) | none => none
  | _ => none

section
variable {P : Program} {n : Nat} {ops : Array Oper} {Q : Post} {ρ : Env} {w0 w : World} {h : Gh} {L : List Ent} {o : Oper} {rest l : List Oper}

def storeOk (P : Program) (t : TypeId) (v : Value) (cs : List Value) (q : Nat) : Bool :=
  (match szOf P t with | some m => Nat.beq v.cells.size m | none => false) && (v.cells.toList.all isCell && Nat.ble (q + v.cells.toList.length) cs.length)

theorem run_storeAt {t e : TypeId} {v : Value} {cs : List Value} {b q : Nat} (hb : w.heap[b]? = some (.cells cs.toArray e (0, 0))) (hok : storeOk P t v cs q = true) :
    ∃ w', (Instr.storeAt t (.pointer (some ⟨b, q, none⟩)) v).run P w = .ok () w' ∧ Same w w' b ∧ w'.heap[b]? = some (.cells (splice cs q v.cells.toList).toArray e (0, 0)) := by
  simp only [storeOk, Bool.and_eq_true] at hok
  obtain ⟨h1, h2, h3⟩ := hok
  obtain ⟨w', hr, hs, hw⟩ := run_storeCells (P := P) q v.cells.toList 0 cs w hb (by have := Nat.le_of_ble_eq_true h3; omega) h2
  refine ⟨w', ?_, hs, by simpa using hw⟩
  cases hz : szOf P t with
  | none => rw [hz] at h1; cases h1
  | some m =>
    rw [hz] at h1
    have := Nat.eq_of_beq_eq_true h1
    show Sem.run P (storeVar t ⟨b, q, none⟩ v) w = _
    unfold storeVar
    rw [run_bind_ok (still_run _ hz w), if_neg (by omega)]
    exact hr

theorem Same.fill {w w' : World} {b : Nat} (s : Same w w' b) {w0 : World} {h : Gh} {L : List Ent} (H : St w0 h w L) (i : Nat) {o o' : Obj} (hi : L[i]? = some (blk b o)) (hb : w'.heap[b]? = some o') : St w0 h w' (L.set i (blk b o')) :=
  H.step i hi s.os s.tape s.output (by rw [s.size]; exact Nat.le_refl _) (fun k _ hk => s.block k hk) hb (fun k hk => ⟨.inl hk, by have hk : k = b := hk; subst hk; exact getElem?_lt hb⟩)

section
variable {K : Value → World → Prop} {d : Option Tmp} {t : TypeId} {x y : Operand} {ty : TypeId} {pos : String} {af : Array Edge} {g : Option (Nat × Bool)}

/-- A store into a variable of one's own. -/
theorem Does.store (H : St w0 h w L) (i : Nat) {b q : Nat} {cs : List Value} {e : TypeId} (hi : L[i]? = some (var b cs e)) (hx : ev ρ x = .pointer (some ⟨b, q, none⟩)) (hok : storeOk P t (ev ρ y) cs q = true)
    (k : ∀ w', St w0 h w' (L.set i (var b (splice cs q (ev ρ y).cells.toList) e)) → K undef w') : Does P ρ ⟨d, .store t x y, ty, pos, af, g⟩ w K := by
  obtain ⟨w', hr, hs, hw⟩ := run_storeAt (P := P) (t := t) (v := ev ρ y) (H.get i hi) hok
  refine Does.unit (w' := w') ?_ (k w' (hs.fill H i hi hw))
  show Sem.run P (do Instr.storeAt t (ev ρ x) (ev ρ y); Pure.pure Next.skip) w = _
  rw [hx, run_bind_ok hr]
  rfl

theorem slcOf_spec {t e s : Nat} (ht : slcOf P t = some (e, s)) : P.underlying t = some (.slice e) ∧ still P (sizeOf e) = some s := by
  unfold slcOf at ht
  cases hu : P.underlying t with
  | none => rw [hu] at ht; cases ht
  | some u =>
    rw [hu] at ht
    cases u with
    | slice e' =>
      simp only at ht
      cases hz : still P (sizeOf e') with
      | none => rw [hz] at ht; cases ht
      | some s' =>
        rw [hz] at ht
        simp only [Option.some.injEq, Prod.mk.injEq] at ht
        obtain ⟨rfl, rfl⟩ := ht
        exact ⟨rfl, hz⟩
    | _ => simp at ht
theorem run_underlying {t : TypeId} {u : TypeDesc} (hu : P.underlying t = some u) (w : World) : (underlying t).run P w = .ok u w := by simp [underlying, program, Sem.run, Result.andThen, hu]

/-- The address of an element. -/
theorem Tells.idx (b p len c : Nat) (z : Int) (s : Nat) (hx : ev ρ x = .slice (some ⟨b, p, none⟩) len c) (hy : ev ρ y = .int .i64 z) (h0 : 0 ≤ z) (h1 : z < len) (ht : (slcOf P t).map (·.2) = some s) :
    Tells P ρ ⟨d, .indexAddr t x y, ty, pos, af, g⟩ w (.pointer (some ⟨b, p + z.toNat * s, none⟩)) := by
  obtain ⟨⟨e, s'⟩, ht2, hs'⟩ := Option.map_eq_some_iff.1 ht
  obtain rfl : s' = s := hs'
  obtain ⟨hu, hz⟩ := slcOf_spec ht2
  have hr : (Instr.indexAt t (.slice (some ⟨b, p, none⟩) len c) (.int .i64 z)).run P w = .ok (.pointer (some ⟨b, p + z.toNat * s', none⟩)) w := by
    have hsz := still_run _ hz w
    have hun := run_underlying hu w
    unfold Instr.indexAt
    simp [asIntOf, hun, hsz, h0, h1, add_plain]
  show Sem.run P (do Pure.pure (Next.value (← Instr.indexAt t (ev ρ x) (ev ρ y)))) w = _
  rw [hx, hy, run_bind_ok hr]
  rfl
end
end
end Go.Proofs.Ytcoepljalekglaa.G2
