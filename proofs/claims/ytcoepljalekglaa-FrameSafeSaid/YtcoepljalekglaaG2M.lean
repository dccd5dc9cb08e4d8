/- Lemmas for the walk: part M. -/
import Derived.Test.YtcoepljalekglaaG2L
import Derived.Laws.MakeOwn
set_option linter.unusedSimpArgs false
set_option linter.unusedVariables false
set_option linter.all false
/-! Makes, copies, strings, what is lent and comes back. -/
namespace Go.Proofs.Ytcoepljalekglaa.G2
open Go.RowKit

section
variable {P : Program} {ρ : Env} {w0 w w' : World} {h h' h1 : Gh} {L : List Ent} {o : Oper}
variable {α : Type} {K : Rep α} {B : Nat} {a a2 : Option Addr} {c c2 : Nat} {xs ys : List α}
variable {Kk : Value → World → Prop} {d : Option Tmp} {t e : TypeId} {x y : Operand} {lo hi : Option Operand} {len : Nat} {ty : TypeId} {pos : String} {af : Array Edge} {g : Option (Nat × Bool)}

/-- A make. -/
theorem Does.make (H : St w0 h w L) {z : Value} {z1 z2 : Int} (hx : ev ρ x = .int .i64 z1) (hy : ev ρ y = .int .i64 z2) (hinfo : elOf P t = some (e, K.sz, B, z)) {y0 : α} (r : K.rel h z.cells.toList y0)
    (h0 : 0 ≤ z1) (h1 : z1 ≤ z2) (h2 : z2.toNat * B ≤ LIM) (hm : z2 ≤ 9223372036854775807)
    (k : ∀ b w', St w0 h w' (row K B h (some ⟨b, 0, none⟩) z2.toNat (List.replicate z1.toNat y0) :: L) → Kk (.slice (some ⟨b, 0, none⟩) (List.replicate z1.toNat y0).length z2.toNat) w') : Does P ρ ⟨d, .makeSlice t x y, ty, pos, af, g⟩ w Kk := by
  obtain ⟨ht, inf, hii, hiz, his, hib, hzs⟩ := elOf_spec hinfo
  have hzl : z.cells.size = K.sz := hzs
  have hr := run_make (P := P) w t e inf z ht hii hiz .i64 .i64 z1 z2 h0 h1 (by
    rw [hib]
    have e1 : ((B : Int) * z2) = ((z2.toNat * B : Nat) : Int) := by rw [Int.natCast_mul, Int.toNat_of_nonneg (by omega), Int.mul_comm]
    rw [e1]; unfold LIM at h2; omega) hm
  refine Does.value (w' := w.alloc (.cells (madeCells z.cells (z2.toNat * inf.size)) e)) (v := .slice (some ⟨w.heap.size, 0, none⟩) (List.replicate z1.toNat y0).length z2.toNat) ?_ (k w.heap.size _ (H.lit (madeCells z.cells (z2.toNat * inf.size)) e (by rw [size_madeCells, his]; exact Nat.le_refl _) (by simp; omega) (by unfold maxLen; omega) ?_ ?_))
  · show Sem.run P (do let v ← Instr.makeSlice t (ev ρ x) (ev ρ y); Pure.pure (Next.value v)) w = _
    rw [hx, hy, run_bind_ok hr, List.length_replicate]
    rfl
  · rw [List.length_replicate]; exact Nat.le_trans (Nat.mul_le_mul_right _ (by omega)) h2
  · refine Rows.rep z1.toNat z.cells.toList r fun j hj => ?_
    have hz0 : 0 < K.sz := by rcases Nat.eq_zero_or_pos K.sz with h0 | h0; · rw [h0] at hj; simp at hj
                              · exact h0
    have hj2 : j < z2.toNat * inf.size := by rw [his]; exact Nat.lt_of_lt_of_le hj (Nat.mul_le_mul_right _ (by omega))
    unfold madeCells
    rw [Array.getElem?_map, Array.getElem?_range, if_pos hj2]
    simp only [Option.map_some, hzl]
    have hmod := Nat.mod_lt j hz0
    rw [Array.getElem?_toList, Array.getElem?_eq_getElem (by rw [hzl]; exact hmod), getElem!_pos z.cells (j % K.sz) (by rw [hzl]; exact hmod)]

/-- What is lent to a call that makes nothing comes back. -/
theorem St.lendX {e : Ent} (H : St w0 h w (e :: L)) : ∃ h1, h.le h1 ∧ St w0 h1 w L ∧ (∀ k, e.fp k → h1 k = w.heap[k]?) ∧
    ∀ w', St w0 h1 w' L → St w0 h w' (e :: L) := by
  classical
  obtain ⟨h1, e1, e2, e3, e4⟩ := H.freeze
  refine ⟨h1, e1, e2, e3, fun w' H2 => ?_⟩
  have hsome : ∀ k, e.fp k → ∃ o, w.heap[k]? = some o ∧ h1 k = some o := by
    intro k hf
    have hlt := (H.fps e (List.mem_cons_self ..) k hf).2.1
    have hk : w.heap[k]? = some w.heap[k] := Array.getElem?_eq_getElem hlt
    exact ⟨_, hk, (e3 k hf).trans hk⟩
  refine ⟨H2.old, fun k o hk => H2.ext k o (e1 _ _ hk), fun x hx => ?_, fun x hx k hk => ?_, H.apart⟩
  · rcases List.mem_cons.1 hx with rfl | hx
    · refine x.loc w _ (fun k hf => ?_) (H.get 0 rfl)
      obtain ⟨o, h5, h6⟩ := hsome k hf
      rw [h5, H2.ext k o h6]
    · exact H2.ents x hx
  · rcases List.mem_cons.1 hx with rfl | hx
    · obtain ⟨o, h5, h6⟩ := hsome k hk
      have h7 := H2.ext k o h6
      exact ⟨(H.fps x (List.mem_cons_self ..) k hk).1, getElem?_lt h7, (H.fps x (List.mem_cons_self ..) k hk).2.2⟩
    · have h5 := H2.fps x hx k hk
      exact ⟨h5.1, h5.2.1, (H.fps x (List.mem_cons_of_mem _ hx) k hk).2.2⟩
theorem St.rowLendX (H : St w0 h w (row K B h1 a c xs :: L)) (le : h1.le h) : ∃ h2, h.le h2 ∧ Sl K B h2 a c xs ∧ St w0 h2 w L ∧
    ∀ w', St w0 h2 w' L → St w0 h w' (row K B h1 a c xs :: L) := by
  obtain ⟨h2, e1, e2, e3, e4⟩ := H.lendX
  refine ⟨h2, e1, ?_, e2, e4⟩
  rcases H.get 0 rfl with ⟨_, rfl, rfl⟩ | ⟨g, o, C, e, rfl, hb, f2, f3, f4, f5, r⟩
  · exact Sl.nil _ _ (Nat.zero_le _)
  · exact ⟨f3, f4, trivial, .inr ⟨g, o, C, e, _, rfl, (e3 g ⟨o, none, rfl⟩).trans hb, r.up (le.trans e1)⟩⟩

/-! ### Strings -/
def strAt (s : ByteArray) (z : Int) : Int := (s.data.toList.getD z.toNat 0).toNat
def strCut (s : ByteArray) (l m : Int) : ByteArray := s.extract l.toNat m.toNat
theorem Tells.strAt {s : ByteArray} {z : Int} (hx : ev ρ x = .string s) (hy : ev ρ y = .int .i64 z) (h0 : 0 ≤ z) (h1 : z < s.size) (hu : P.underlying t = some .string) :
    Tells P ρ ⟨d, .index t x y, ty, pos, af, g⟩ w (.int .u8 (strAt s z)) := by
  have hlt : z.toNat < s.size := by omega
  have he : s[z.toNat]? = some s[z.toNat] := getElem?_pos s z.toNat hlt
  show Sem.run P (do let v ← Instr.index t (ev ρ x) (ev ρ y); Pure.pure (Next.value v)) w = _
  have hr : (Instr.index t (.string s) (.int .i64 z)).run P w = .ok (.int .u8 (G2.strAt s z)) w := by
    unfold Instr.index
    simp only [asIntOf]
    simp [run_underlying hu, h0, he, G2.strAt]
    rw [show s.data[z.toNat]? = some s[z.toNat] from Array.getElem?_eq_getElem (xs := s.data) hlt]
    rfl
  rw [hx, hy, run_bind_ok hr]
  rfl
theorem Tells.strCut {s : ByteArray} (zl zh : Option Int) (l m : Int) (hx : ev ρ x = .string s) (hlo : lo.map (ev ρ) = iv zl) (hhi : hi.map (ev ρ) = iv zh) (hu : P.underlying t = some .string)
    (hl : lowOf zl = l) (hh : highOf s.size zh = m) (h0 : 0 ≤ l) (h1 : l ≤ m) (h2 : m ≤ s.size) :
    Tells P ρ ⟨d, .slice t x lo hi none, ty, pos, af, g⟩ w (.string (strCut s l m)) := by
  show Sem.run P (do let v ← Instr.sliceAt t (ev ρ x) (lo.map (ev ρ)) (hi.map (ev ρ)) (none : Option Value); Pure.pure (Next.value v)) w = _
  have hr : (Instr.sliceAt t (.string s) (iv zl) (iv zh) none).run P w = .ok (.string (G2.strCut s l m)) w := by
    unfold Instr.sliceAt
    rw [run_bind_ok (run_underlying hu w)]
    simp only
    unfold Instr.slice
    rw [run_bind_ok (run_underlying hu w)]
    simp only
    have hb : (Instr.sliceBounds false s.size s.size (iv zl) (iv zh) none).run P w = .ok (l.toNat, m.toNat, s.size) w := by
      unfold Instr.sliceBounds
      cases zl with
      | none =>
        have : l = 0 := by simp [lowOf] at hl; omega
        subst this
        cases zh with
        | none => simp [iv, highOf] at hh ⊢; omega
        | some z =>
          simp only [highOf] at hh; subst hh
          simp [iv, run_sliceBound (P := P) (w := w) (z := z) (y := s.size) (by omega) (by omega)]
      | some y =>
        simp only [lowOf] at hl; subst hl
        cases zh with
        | none =>
          have : m = s.size := by simp [highOf] at hh; omega
          subst this
          simp [iv, run_sliceBound (P := P) (w := w) (z := y) (y := s.size) (by omega) (by omega)]
        | some z =>
          simp only [highOf] at hh; subst hh
          have e : ((z.toNat : Nat) : Int) = z := by omega
          simp [iv, run_sliceBound (P := P) (w := w) (z := z) (y := s.size) (by omega) (by omega), run_sliceBound (P := P) (w := w) (z := y) (y := z.toNat) (by omega) (by omega)]
    simp only [Option.isSome_none, Bool.false_eq_true, if_false, reduceIte]
    rw [run_bind_ok hb]
    rfl
  rw [hx, hlo, hhi, run_bind_ok hr]
  rfl

/-! ### Copies -/
theorem Rows.take {C : Array Value} {o : Nat} (r : Rows K h C o xs) (n : Nat) : Rows K h C o (xs.take n) := fun j hj => by
  simp only [List.length_take] at hj
  rw [List.getElem_take]; exact r j (by omega)
theorem Rows.drop {C : Array Value} {o : Nat} (r : Rows K h C o xs) (n : Nat) : Rows K h C (o + n * K.sz) (xs.drop n) := fun j hj => by
  simp only [List.length_drop] at hj
  rw [List.getElem_drop, Nat.add_assoc, ← Nat.add_mul]; exact r (n + j) (by omega)
theorem Src.take (s : Src K h w a ys) (n : Nat) : Src K h w a (ys.take n) := by
  rcases s with rfl | ⟨b, o, C, e, fr, e1, e2, r⟩
  · exact .inl (by simp)
  · exact .inr ⟨b, o, C, e, fr, e1, e2, r.take n⟩
def copied {α : Type} (xs ys : List α) : List α := ys.take xs.length ++ xs.drop ys.length
theorem copied_len (xs ys : List α) : (copied xs ys).length = xs.length := by simp [copied]; omega
theorem St.copy (H : St w0 h w L) (i : Nat) (hi : L[i]? = some (row K B h1 a c xs)) (le : h1.le h) (s : Src K h w a2 ys) {t xt e z} (hinfo : elOf P t = some (e, K.sz, B, z)) :
    ∃ w', (Builtin.copy_ #[t, xt] ty #[.slice a xs.length c, .slice a2 ys.length c2]).run P w = .ok (.int .i64 (min ys.length xs.length : Nat)) w' ∧ St w0 h w' (L.set i (row K B h a c (copied xs ys))) := by
  obtain ⟨D, hDl, hDr, hDs⟩ := (s.take xs.length).cells
  obtain ⟨ht, inf, hii, hiz, his, hib, hzs⟩ := elOf_spec hinfo
  have hmin : Nat.min ys.length xs.length = (ys.take xs.length).length := by rw [List.length_take]; exact Nat.min_comm _ _
  have hmin2 : min ys.length xs.length = (ys.take xs.length).length := hmin
  have hplain : D.all isCell = true := by
    have := hDs.cellsOk (fun h => K.plain h)
    rw [← hDl] at this
    simpa [Go.Proofs.Ytcoepljalekglaa.G2.cut] using this
  have hf := hDr P ys.length c2 w rfl
  rw [← his] at hf
  rcases H.get i hi with ⟨ea, ex, ec⟩ | ⟨g, o, C, te, rfl, hb, f2, f3, f4, f5, r⟩
  · subst ea ec ex
    refine ⟨w, ?_, ?_⟩
    · simp only [List.length_nil, List.take_zero] at hf
      simp [Builtin.copy_, run_underlying ht, sizeOf, typeInfo, hii, Builtin.lenOf, hf]
      rfl
    · simpa [copied] using H.rowUp i hi le
  · have hk : (ys.take xs.length).length ≤ xs.length := by simp; omega
    have hq : o + 0 + D.length ≤ C.toList.length := by
      rw [hDl, show C.toList.length = C.size from rfl]
      have h1 := Nat.mul_le_mul_right K.sz hk
      have h2 := Nat.mul_le_mul_right K.sz f3
      omega
    obtain ⟨w', hr, hs, hw⟩ := run_storeCells (P := P) o D 0 C.toList w (by simpa using hb) hq hplain
    simp only [Nat.add_zero] at hw hq hr
    refine ⟨w', ?_, ?_⟩
    · simp only [Builtin.copy_]
      simp only [List.getElem?_toArray, List.getElem?_cons_zero, List.getElem?_cons_succ]
      rw [run_bind_ok (run_underlying ht w)]
      simp only [Builtin.lenOf, pure_bind]
      rw [hmin, run_bind_ok (show (sizeOf e).run P w = .ok inf.size w by simp [sizeOf, typeInfo, hii]), run_bind_ok hf]
      simp only
      rw [run_bind_ok hr, hmin2]
      rfl
    · refine H.step i hi hs.os hs.tape hs.output (by rw [hs.size]; exact Nat.le_refl _) (fun k _ hk => hs.block k (fun e => hk ⟨o, none, by rw [e]⟩)) ?_ (fun k hk => ?_)
      · refine .inr ⟨g, o, _, te, rfl, hw, ?_, by rw [copied_len]; exact f3, f4, by rw [copied_len]; exact f5, ?_⟩
        · simpa [splice_size _ _ _ hq] using f2
        · refine Rows.app hDs _ o (fun j hj => ?_) ((r.up le).drop ys.length) (fun j hj => ?_)
          · rw [List.getElem?_toArray, splice_get hq, if_neg (by omega), if_pos (by omega)]
            simp
          · have hjl := hj
            rw [List.length_drop] at hjl
            have hne : ys.length < xs.length := by
              rcases Nat.lt_or_ge ys.length xs.length with h | h
              · exact h
              · rw [Nat.sub_eq_zero_of_le h] at hjl; simp at hjl
            have e1 : (ys.take xs.length).length = ys.length := by rw [List.length_take]; omega
            rw [List.getElem?_toArray, splice_get hq, if_neg (by omega), if_neg (by omega), e1]
            simp
      · obtain ⟨o', s', e⟩ := hk
        simp only [Option.some.injEq, Addr.mk.injEq] at e
        obtain ⟨rfl, rfl, rfl⟩ := e
        exact ⟨.inl ⟨o, none, rfl⟩, getElem?_lt hw⟩
theorem Does.copy {z : Value} {xt : TypeId} (H : St w0 h w L) (i : Nat) (hi : L[i]? = some (row K B h1 a c xs)) (le : h1.le h) (s : Src K h w a2 ys)
    (hop : (execOp (ev ρ) o) = (do let v ← Builtin.copy_ #[t, xt] ty #[.slice a xs.length c, .slice a2 ys.length c2]; Pure.pure (Next.value v))) (hinfo : elOf P t = some (e, K.sz, B, z))
    (k : ∀ w', St w0 h w' (L.set i (row K B h a c (copied xs ys))) → Kk (.int .i64 (min ys.length xs.length : Nat)) w') : Does P ρ o w Kk := by
  obtain ⟨w', hr, H'⟩ := H.copy i hi le s hinfo (ty := ty) (c2 := c2) (xt := xt)
  refine Does.value (w' := w') ?_ (k w' H')
  rw [hop, run_bind_ok hr]
  rfl
end
end Go.Proofs.Ytcoepljalekglaa.G2
