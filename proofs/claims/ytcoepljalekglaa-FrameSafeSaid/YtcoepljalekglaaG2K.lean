/- Lemmas for the walk: part K. -/
import Derived.Test.YtcoepljalekglaaG2J
set_option linter.unusedSimpArgs false
set_option linter.unusedVariables false
set_option linter.all false
/-! Rows made: nil, literals, makes; cuts, copies, stores into a row. -/
namespace Go.Proofs.Ytcoepljalekglaa.G2
open Go.RowKit

section
variable {P : Program} {ρ : Env} {w0 w w' : World} {h h' h1 : Gh} {L : List Ent} {o : Oper}
variable {α : Type} {K : Rep α} {B : Nat} {a a2 : Option Addr} {c c2 : Nat} {xs ys : List α}

theorem St.rowNil (H : St w0 h w L) (K : Rep α) (B : Nat) : St w0 h w (row K B h none 0 [] :: L) := by
  have hno : ∀ k, ¬ (row K B h none 0 []).fp k := fun k hk => by obtain ⟨_, _, hx⟩ := hk; cases hx
  refine ⟨H.old, H.ext, fun e he => ?_, fun e he k hk => ?_, fun a ha k hk => (hno k hk).elim, H.apart⟩
  · rcases List.mem_cons.1 he with rfl | he
    · exact .inl ⟨rfl, rfl, rfl⟩
    · exact H.ents e he
  · rcases List.mem_cons.1 he with rfl | he
    · exact (hno k hk).elim
    · exact H.fps e he k hk

theorem St.lit (H : St w0 h w L) (C : Array Value) (t : TypeId) (hl : c * K.sz ≤ C.size) (hxc : xs.length ≤ c) (hlen : c ≤ maxLen) (hB : xs.length * B ≤ LIM) (r : Rows K h C 0 xs) :
    St w0 h (w.alloc (.cells C t)) (row K B h (some ⟨w.heap.size, 0, none⟩) c xs :: L) := by
  have H2 := H.alloc (.cells C t)
  refine H2.retell 0 rfl (fun k hk => ?_) (.inr ⟨_, 0, _, t, rfl, H2.get 0 rfl, by simpa using hl, hxc, hlen, hB, r⟩)
  obtain ⟨o', s', e⟩ := hk
  simp only [Option.some.injEq, Addr.mk.injEq] at e
  exact e.1.symm

theorem Rows.nil {C : Array Value} {o : Nat} : Rows K h C o [] := fun i hi => by simp at hi
theorem Rows.cons {C D : List Value} {x : α} (r : K.rel h C x) (R : Rows K h D.toArray 0 xs) : Rows K h (C ++ D).toArray 0 (x :: xs) := by
  have hl := K.len r
  intro i hi
  cases i with
  | zero =>
    have e : cut (C ++ D).toArray (0 + 0 * K.sz) K.sz = C := by simp [cut, ← hl]
    rw [e]; exact r
  | succ i =>
    have e : cut (C ++ D).toArray (0 + (i + 1) * K.sz) K.sz = cut D.toArray (0 + i * K.sz) K.sz := by
      refine cut_congr fun j hj => ?_
      simp only [List.getElem?_toArray]
      rw [List.getElem?_append_right (by rw [Nat.succ_mul]; omega)]
      congr 1
      rw [Nat.succ_mul]; omega
    rw [e]; exact R i (by simpa using hi)
theorem Rows.rep {C : Array Value} {x : α} (n : Nat) (z : List Value) (r : K.rel h z x) (hC : ∀ j, j < n * K.sz → C[j]? = z[j % K.sz]?) : Rows K h C 0 (List.replicate n x) := by
  intro i hi
  rw [List.length_replicate] at hi
  have hl := K.len r
  rw [List.getElem_replicate]
  have e : cut C (0 + i * K.sz) K.sz = z := by
    apply List.ext_getElem?
    intro j
    simp only [cut, List.getElem?_take, List.getElem?_drop]
    split
    · rename_i hj
      have hm : (i + 1) * K.sz ≤ n * K.sz := Nat.mul_le_mul_right _ hi
      rw [Nat.succ_mul] at hm
      have := hC (i * K.sz + j) (by omega)
      rw [Nat.zero_add]
      simp only [Array.getElem?_toList]
      rw [this, Nat.mul_comm i, Nat.mul_add_mod, Nat.mod_eq_of_lt hj]
    · rename_i hj
      rw [List.getElem?_eq_none (by omega)]
  rw [e]; exact r

/-! ### Literals -/
def litOf (P : Program) (t : TypeId) (len : Nat) (parts : Array (Nat × Value)) : Option (TypeId × List Value) :=
  match P.underlying t with
  | some (.slice e) => match still P (sizeOf e) with
    | some n => match still P (zeroValue e) with
      | some z => match Instr.fill (fun i => some (i * n, n)) ((Array.range (len * n)).map (z.cells[· % z.cells.size]!)) parts.toList with
        | some C => bif Nat.ble (len * n) (2 ^ 24) then some (e, C.toList) else none
        | none => none
      | none => none
    | none => none
  | _ => none
theorem run_lit {t e : TypeId} {len : Nat} {parts : Array (Nat × Value)} {C : List Value} (hl : litOf P t len parts = some (e, C)) (w : World) :
    (Instr.buildSlice t len parts).run P w = .ok (.slice (some ⟨w.heap.size, 0, none⟩) len len) (w.alloc (.cells C.toArray e)) := by
  unfold litOf at hl
  cases hu : P.underlying t with
  | none => rw [hu] at hl; simp at hl
  | some u =>
    rw [hu] at hl
    cases u <;> try (simp at hl; done)
    rename_i e'
    simp only at hl
    cases hs : still P (sizeOf e') with
    | none => rw [hs] at hl; simp at hl
    | some n =>
      rw [hs] at hl
      simp only at hl
      cases hz : still P (zeroValue e') with
      | none => rw [hz] at hl; simp at hl
      | some z =>
        rw [hz] at hl
        simp only at hl
        cases hf : Instr.fill (fun i => some (i * n, n)) ((Array.range (len * n)).map (z.cells[· % z.cells.size]!)) parts.toList with
        | none => rw [hf] at hl; simp at hl
        | some C' =>
          rw [hf] at hl
          simp only at hl
          cases hb : Nat.ble (len * n) (2 ^ 24) with
          | false => rw [hb] at hl; simp at hl
          | true =>
            rw [hb] at hl
            simp only [cond_true, Option.some.injEq, Prod.mk.injEq] at hl
            obtain ⟨rfl, rfl⟩ := hl
            have h24 : ¬ (len * n > 2 ^ 24) := by have := Nat.le_of_ble_eq_true hb; omega
            have h1 := still_run _ hs w
            have h2 := still_run _ hz w
            unfold Instr.buildSlice
            rw [run_bind_ok (run_underlying hu w)]
            simp only
            rw [run_bind_ok h1, if_neg h24]
            by_cases h0 : len * n = 0
            · rw [if_pos h0]
              have e0 : (Array.range (len * n)).map (z.cells[· % z.cells.size]!) = (Array.range (len * n)).map ((#[] : Array Value)[· % (#[] : Array Value).size]!) := by rw [h0]; simp
              rw [e0] at hf
              rw [run_bind_ok (show Sem.run P (pure #[]) w = .ok #[] w from rfl)]
              simp only [hf]
              simp [newRow]
            · rw [if_neg h0]
              rw [run_bind_ok h2]
              rw [run_bind_ok (show Sem.run P (pure z.cells) w = .ok z.cells w from rfl)]
              simp only [hf]
              simp [newRow]
section
variable {Kk : Value → World → Prop} {d : Option Tmp} {t e : TypeId} {len : Nat} {parts : Array (Nat × Operand)} {ty : TypeId} {pos : String} {af : Array Edge} {g : Option (Nat × Bool)}
/-- A literal is a row of one's own. -/
theorem Does.lit (H : St w0 h w L) (C : List Value) (hl : litOf P t len (parts.map fun (i, x) => (i, ev ρ x)) = some (e, C)) (r : Rows K h C.toArray 0 xs) (hx : Nat.beq xs.length len = true) (hc : Nat.ble (len * K.sz) C.length = true) (hm : Nat.ble len 1000000 = true) (hB : Nat.ble B 1000000 = true)
    (k : ∀ b w', St w0 h w' (row K B h (some ⟨b, 0, none⟩) len xs :: L) → Kk (.slice (some ⟨b, 0, none⟩) len len) w') : Does P ρ ⟨d, .buildSlice t len parts, ty, pos, af, g⟩ w Kk := by
  have hx := Nat.eq_of_beq_eq_true hx
  have hc := Nat.le_of_ble_eq_true hc
  have hm := Nat.le_of_ble_eq_true hm
  have hB := Nat.le_of_ble_eq_true hB
  subst hx
  have hr := run_lit (P := P) hl w
  refine Does.value (w' := w.alloc (.cells C.toArray e)) ?_ (k w.heap.size _ (H.lit C.toArray e (by simpa using hc) (Nat.le_refl _) (by unfold maxLen; omega) ?_ r))
  · show Sem.run P (do let v ← Instr.buildSlice t xs.length (parts.map fun (i, x) => (i, ev ρ x)); Pure.pure (Next.value v)) w = _
    rw [run_bind_ok hr]
    rfl
  · exact Nat.le_trans (Nat.mul_le_mul hm hB) (by decide)
end
end
end Go.Proofs.Ytcoepljalekglaa.G2
