/- Lemmas for the walk: part J. -/
import Derived.Test.YtcoepljalekglaaG2I
import Derived.Laws.AppendOwn
set_option linter.unusedSimpArgs false
set_option linter.unusedVariables false
set_option linter.all false
/-! append, make, literals, cuts, copies. -/
namespace Go.Proofs.Ytcoepljalekglaa.G2
open Go.RowKit

theorem nextcap_bytes {n c B : Nat} (h : c < n) (hB : n * B ≤ LIM) : Builtin.nextslicecap n c * B ≤ 281474976710656 := growslice_fits h (by unfold LIM at hB; omega)

/-- What an append, a make, a literal ask of the types: the element's type, cells, bytes, zero. -/
def elOf (P : Program) (t : TypeId) : Option (TypeId × Nat × Nat × Value) :=
  match P.underlying t with
  | some (.slice e) => match P.info? e with
    | some i => match i.zero with
      | some z => bif Nat.beq z.cells.size i.size then some (e, i.size, i.bytes, z) else none
      | none => none
    | none => none
  | _ => none
theorem elOf_spec {P : Program} {t e n B : Nat} {z : Value} (h : elOf P t = some (e, n, B, z)) : P.underlying t = some (.slice e) ∧ ∃ i, P.info? e = some i ∧ i.zero = some z ∧ i.size = n ∧ i.bytes = B ∧ z.cells.size = n := by
  unfold elOf at h
  cases hu : P.underlying t with
  | none => rw [hu] at h; simp at h
  | some u =>
    rw [hu] at h
    cases u <;> try (simp at h; done)
    rename_i e'
    simp only at h
    cases hi : P.info? e' with
    | none => rw [hi] at h; simp at h
    | some i =>
      rw [hi] at h
      simp only at h
      cases hz : i.zero with
      | none => rw [hz] at h; simp at h
      | some z' =>
        rw [hz] at h
        simp only at h
        cases hb : Nat.beq z'.cells.size i.size with
        | false => rw [hb] at h; simp at h
        | true =>
          rw [hb] at h
          simp only [cond_true, Option.some.injEq, Prod.mk.injEq] at h
          obtain ⟨rfl, rfl, rfl, rfl⟩ := h
          exact ⟨rfl, i, hi, hz, rfl, rfl, Nat.eq_of_beq_eq_true hb⟩

theorem zeroCells_size (z : Array Value) (n : Nat) : (Builtin.zeroCells z n).size = n * z.size := by simp [Builtin.zeroCells]

section
variable {P : Program} {ρ : Env} {w0 w w' : World} {h h1 : Gh} {L : List Ent} {o : Oper}
variable {α : Type} {K : Rep α} {B : Nat} {a a2 : Option Addr} {c c2 : Nat} {xs ys : List α}

theorem St.append (H : St w0 h w L) (i : Nat) (hi : L[i]? = some (row K B h1 a c xs)) (le : h1.le h) (s : Src K h w a2 ys) (hfit : (xs.length + ys.length) * B ≤ LIM) (hB : 0 < B)
    {t xt ty e e2 : TypeId} {z : Value} (hinfo : elOf P t = some (e, K.sz, B, z)) (hxt : P.underlying xt = some (.slice e2)) :
    ∃ a' c' w', (Builtin.append_ #[t, xt] ty #[.slice a xs.length c, .slice a2 ys.length c2]).run P w = .ok (.slice a' (xs ++ ys).length c') w' ∧ St w0 h w' (L.set i (row K B h a' c' (xs ++ ys))) := by
  obtain ⟨D, hDl, hDr, hDs⟩ := s.cells
  obtain ⟨hl1, hl2, hl3⟩ := H.rowLen i hi
  obtain ⟨ht, inf, hii, hiz, his, hib, hzs⟩ := elOf_spec hinfo
  have hplain : D.all isCell = true := by
    have := hDs.cellsOk (fun h => K.plain h)
    rw [← hDl] at this
    simpa [cut] using this
  have hlen : xs.length + ys.length ≤ 140737488351232 := Nat.le_trans (Nat.le_mul_of_pos_right _ hB) hfit
  by_cases hroom : xs.length + ys.length ≤ c
  · rcases H.get i hi with ⟨ea, ex, ec⟩ | ⟨g, o, C, te, rfl, hb, f2, f3, f4, f5, r⟩
    · subst ea ec ex
      have hy : ys = [] := List.eq_nil_of_length_eq_zero (by simpa using hroom)
      subst hy
      refine ⟨none, 0, w, ?_, ?_⟩
      · have hf := hDr P 0 c2 w rfl
        rw [his.symm] at hf
        simp only [List.length_nil] at hf
        simp [Builtin.append_, run_underlying ht, run_underlying hxt, sizeOf, typeInfo, hii, Builtin.lenOf, hf]
      · simpa using H.rowUp i hi le
    · have hq : o + xs.length * K.sz + 0 + D.length ≤ C.toList.length := by
        rw [hDl, show C.toList.length = C.size from rfl]
        have := Nat.mul_le_mul_right K.sz hroom
        rw [Nat.add_mul] at this
        omega
      obtain ⟨w', hr, hs, hw⟩ := run_storeCells (P := P) (o + xs.length * K.sz) D 0 C.toList w (by simpa using hb) hq hplain
      simp only [Nat.add_zero] at hw hq
      refine ⟨some ⟨g, o, none⟩, c, w', ?_, ?_⟩
      · have hf := hDr P ys.length c2 w rfl
        rw [← his] at hf hr
        simp [Builtin.append_, run_underlying ht, run_underlying hxt, sizeOf, typeInfo, hii, Builtin.lenOf, hroom, hf, add_plain, hr]
      · refine H.step i hi hs.os hs.tape hs.output (by rw [hs.size]; exact Nat.le_refl _) (fun k _ hk => hs.block k (fun e => hk ⟨o, none, by rw [e]⟩)) ?_ (fun k hk => ?_)
        · refine .inr ⟨g, o, _, te, rfl, hw, ?_, by simpa using hroom, f4, ?_, ?_⟩
          · simpa [splice_size _ _ _ hq] using f2
          · rw [List.length_append]; exact hfit
          · refine Rows.app (r.up le) _ o (fun j hj => ?_) hDs (fun j hj => ?_)
            · rw [List.getElem?_toArray, splice_get hq, if_pos (by omega)]; simp
            · rw [List.getElem?_toArray, splice_get hq, if_neg (by omega), if_pos (by rw [hDl]; simpa using hj)]
              simp only [List.getElem?_toArray, Nat.zero_add]
              congr 1; omega
        · obtain ⟨o', s', e⟩ := hk
          simp only [Option.some.injEq, Addr.mk.injEq] at e
          obtain ⟨rfl, rfl, rfl⟩ := e
          exact ⟨.inl ⟨o, none, rfl⟩, getElem?_lt hw⟩
  · have hg : c < xs.length + ys.length := by omega
    obtain ⟨X, hXl, hXr, hXs⟩ := (H.rowSrc i hi le).cells
    have h63' : ¬ (9223372036854775807 < ((xs.length : Int) + (ys.length : Int))) := by omega
    have h48' : ¬ (281474976710656 < Builtin.nextslicecap (xs.length + ys.length) c * inf.bytes) := by have := nextcap_bytes hg hfit; rw [hib]; omega
    have hX := hXr P xs.length c w.drew rfl
    have hD := hDr P ys.length c2 w.drew rfl
    have H2 : St w0 h w.drew L := H.drew
    generalize hnc : grownCap w (xs.length + ys.length) c e = nc
    have hge : xs.length + ys.length ≤ nc := hnc ▸ grownCap_ge w _ c e
    have hle : nc ≤ maxLen := hnc ▸ grownCap_le_maxLen w _ c e (by unfold maxLen; omega)
    generalize hC : X.toArray ++ D.toArray ++ Builtin.zeroCells z.cells (nc - (xs.length + ys.length)) = C
    have hCs : C.size = nc * K.sz := by
      rw [← hC, Array.size_append, Array.size_append, zeroCells_size, hzs, List.size_toArray, List.size_toArray, hXl, hDl, ← Nat.add_mul, ← Nat.add_mul]
      congr 1; omega
    refine ⟨some ⟨w.heap.size, 0, none⟩, nc, w.drew.alloc (.cells C e), ?_, ?_⟩
    · rw [← his] at hX hD
      simp [Builtin.append_, run_underlying ht, run_underlying hxt, sizeOf, typeInfo, zeroValue, hii, hiz, Builtin.lenOf, hroom, h63', h48', Question.forced, hX, hD, newRow]
      rw [← hC, ← hnc]
      simp only [grownCap]
      refine ⟨trivial, ?_⟩
      congr 2
      apply Array.ext'
      simp [List.append_assoc]
    · refine H2.step i hi rfl rfl rfl (by simp) (fun k hk _ => Below.heap_alloc _ _ _ hk) ?_ (fun k hk => ?_)
      · refine .inr ⟨w.heap.size, 0, C, e, rfl, by show (w.heap.push (Obj.cells C e))[w.heap.size]? = _; simp, ?_, ?_, ?_, ?_, ?_⟩
        · rw [hCs]; omega
        · rw [List.length_append]; exact hge
        · exact hle
        · rw [List.length_append]; exact hfit
        · refine Rows.app hXs _ 0 (fun j hj => ?_) hDs (fun j hj => ?_)
          · rw [← hC]
            simp only [Nat.zero_add]
            rw [Array.getElem?_append_left (by simp [hXl]; omega), Array.getElem?_append_left (by simp [hXl]; omega)]
          · rw [← hC]
            simp only [Nat.zero_add]
            rw [Array.getElem?_append_left (by simp [hXl, hDl]; omega), Array.getElem?_append_right (by simp [hXl])]
            simp [hXl]
      · obtain ⟨o', s', e⟩ := hk
        simp only [Option.some.injEq, Addr.mk.injEq] at e
        obtain ⟨rfl, rfl, rfl⟩ := e
        exact ⟨.inr (by simp), by simp⟩
end
end Go.Proofs.Ytcoepljalekglaa.G2
