/- Lemmas for the walk: part L. -/
import Derived.Test.YtcoepljalekglaaG2K
set_option linter.unusedSimpArgs false
set_option linter.unusedVariables false
set_option linter.all false
/-! Cuts, appends, makes, copies, stores into a row. -/
namespace Go.Proofs.Ytcoepljalekglaa.G2
open Go.RowKit

/-- Where a cut slice begins. -/
def sa (s : Nat) (a : Option Addr) (c l : Nat) : Option Addr := if c = l then a else a.map (·.add (l * s))
theorem sa_zero (s : Nat) (a : Option Addr) (c : Nat) (ha : ∀ x, a = some x → x.spot = none) : sa s a c 0 = a := by
  unfold sa
  split
  · rfl
  · cases a with
    | none => rfl
    | some x =>
      obtain ⟨b, o, sp⟩ := x
      have hs : sp = none := ha _ rfl
      subst hs
      simp [add_plain]

section
variable {P : Program} {ρ : Env} {w0 w w' : World} {h h' h1 : Gh} {L : List Ent} {o : Oper}
variable {α : Type} {K : Rep α} {B : Nat} {a a2 : Option Addr} {c c2 : Nat} {xs ys : List α}

theorem Sl.cut (s : Sl K B h a c xs) {l n : Nat} (hl : l ≤ n) (hn : n ≤ xs.length) : Sl K B h (sa K.sz a c l) (c - l) ((xs.drop l).take (n - l)) := by
  obtain ⟨s1, s2, s3, s4⟩ := s
  have e : ((xs.drop l).take (n - l)).length = n - l := by simp; omega
  refine ⟨by rw [e]; omega, by omega, trivial, ?_⟩
  · by_cases h0 : n = l
    · left; exact List.eq_nil_of_length_eq_zero (by rw [e]; omega)
    · rcases s4 with rfl | ⟨b, o, C, t, fr, rfl, hb, r⟩
      · left; simp
      · right
        refine ⟨b, o + l * K.sz, C, t, fr, ?_, hb, fun i hi => ?_⟩
        · unfold sa
          rw [if_neg (by omega)]
          simp [add_plain]
        · rw [e] at hi
          have := r (l + i) (by omega)
          rw [Nat.add_mul, ← Nat.add_assoc] at this
          simpa using this
end

def lowOf (v : Option Int) : Int := match v with | some z => z | none => 0
def highOf (n : Nat) (v : Option Int) : Int := match v with | some z => z | none => (n : Int)
def iv (z : Option Int) : Option Value := z.map (.int .i64)

theorem run_sliceBound {P : Program} {w : World} {z : Int} {y : Nat} {code : BoundsCode} (h0 : 0 ≤ z) (h1 : z ≤ y) : (Instr.sliceBound (.int .i64 z) y code).run P w = .ok z.toNat w := by
  unfold Instr.sliceBound
  simp [asIntOf, h0, h1]

section
variable {P : Program} {ρ : Env} {w0 w w' : World} {h h' h1 : Gh} {L : List Ent} {o : Oper}
variable {α : Type} {K : Rep α} {B : Nat} {a a2 : Option Addr} {c c2 : Nat} {xs ys : List α}
variable {Kk : Value → World → Prop} {d : Option Tmp} {t e : TypeId} {x : Operand} {lo hi : Option Operand} {len : Nat} {ty : TypeId} {pos : String} {af : Array Edge} {g : Option (Nat × Bool)}

theorem run_slice {n l m cap s : Nat} {zl zh : Option Int} (hu : P.underlying t = some (.slice e)) (hz : still P (sizeOf e) = some s)
    (hl : lowOf zl = (l : Int)) (hh : highOf n zh = (m : Int)) (h1 : l ≤ m) (h2 : m ≤ n) (h3 : n ≤ cap) :
    (Instr.sliceAt t (.slice a n cap) (iv zl) (iv zh) none).run P w = .ok (.slice (sa s a cap l) (m - l) (cap - l)) w := by
  unfold Instr.sliceAt
  rw [run_bind_ok (run_underlying hu w)]
  simp only
  unfold Instr.slice
  rw [run_bind_ok (run_underlying hu w)]
  simp only
  have hb : (Instr.sliceBounds true n cap (iv zl) (iv zh) none).run P w = .ok (l, m, cap) w := by
    unfold Instr.sliceBounds
    cases zl with
    | none =>
      have : l = 0 := by simp [lowOf] at hl; omega
      subst this
      cases zh with
      | none => simp [iv, highOf] at hh ⊢; omega
      | some z =>
        simp only [highOf] at hh; subst hh
        simp [iv, run_sliceBound (P := P) (w := w) (z := (m : Int)) (y := cap) (by omega) (by omega)]
    | some y =>
      simp only [lowOf] at hl; subst hl
      cases zh with
      | none =>
        have : m = n := by simp [highOf] at hh; omega
        subst this
        simp [iv, run_sliceBound (P := P) (w := w) (z := (l : Int)) (y := m) (by omega) (by omega)]
      | some z =>
        simp only [highOf] at hh; subst hh
        simp [iv, run_sliceBound (P := P) (w := w) (z := (m : Int)) (y := cap) (by omega) (by omega), run_sliceBound (P := P) (w := w) (z := (l : Int)) (y := m) (by omega) (by omega)]
  rw [run_bind_ok hb]
  simp only
  rw [run_bind_ok (still_run _ hz w)]
  rfl

/-- A slice is cut. -/
theorem Tells.slice (zl zh : Option Int) (s n l m : Nat) (hx : ev ρ x = .slice a n c) (hlo : lo.map (ev ρ) = iv zl) (hhi : hi.map (ev ρ) = iv zh) (ht : (slcOf P t).map (·.2) = some s)
    (hl : lowOf zl = (l : Int)) (hh : highOf n zh = (m : Int)) (h1 : l ≤ m) (h2 : m ≤ n) (h3 : n ≤ c) {v : Value} (hv : .slice (sa s a c l) (m - l) (c - l) = v) :
    Tells P ρ ⟨d, .slice t x lo hi none, ty, pos, af, g⟩ w v := by
  obtain ⟨⟨e, s'⟩, ht2, hs'⟩ := Option.map_eq_some_iff.1 ht
  obtain rfl : s' = s := hs'
  obtain ⟨hu, hz⟩ := slcOf_spec ht2
  have hr := run_slice (P := P) (w := w) (a := a) (cap := c) (n := n) (zl := zl) (zh := zh) hu hz hl hh h1 h2 h3
  subst hv
  show Sem.run P (do let v ← Instr.sliceAt t (ev ρ x) (lo.map (ev ρ)) (hi.map (ev ρ)) (none : Option Value); Pure.pure (Next.value v)) w = _
  rw [hx, hlo, hhi, run_bind_ok hr]
  rfl

/-- What is appended. -/
theorem Does.append {t xt e e2 : TypeId} {z : Value} (H : St w0 h w L) (i : Nat) (hi : L[i]? = some (row K B h1 a c xs)) (le : h1.le h) (s : Src K h w a2 ys) (hfit : (xs.length + ys.length) * B ≤ LIM) (hB : Nat.blt 0 B = true)
    (hop : (execOp (ev ρ) o) = (do let v ← Builtin.append_ #[t, xt] ty #[.slice a xs.length c, .slice a2 ys.length c2]; Pure.pure (Next.value v)))
    (hinfo : elOf P t = some (e, K.sz, B, z)) (hxt : P.underlying xt = some (.slice e2))
    (k : ∀ a' c' w', St w0 h w' (L.set i (row K B h a' c' (xs ++ ys))) → Kk (.slice a' (xs ++ ys).length c') w') : Does P ρ o w Kk := by
  obtain ⟨a', c', w', hr, H'⟩ := H.append i hi le s hfit (by simpa using hB) hinfo hxt (ty := ty) (c2 := c2)
  refine Does.value (w' := w') ?_ (k a' c' w' H')
  rw [hop, run_bind_ok hr]
  rfl

/-- A row is cut short. -/
theorem St.rowTake (H : St w0 h w L) (i : Nat) (hi : L[i]? = some (row K B h1 a c xs)) (n : Nat) : St w0 h w (L.set i (row K B h1 a c (xs.take n))) := by
  refine H.retell i hi (fun _ hk => hk) ?_
  rcases H.get i hi with ⟨rfl, rfl, rfl⟩ | ⟨g, o, C, e, e1, hb, e2, e3, e4, e5, r⟩
  · exact .inl ⟨rfl, by simp, rfl⟩
  · refine .inr ⟨g, o, C, e, e1, hb, e2, by simp; omega, e4, Nat.le_trans (Nat.mul_le_mul_right _ (by simp; omega)) e5, fun j hj => ?_⟩
    simp only [List.length_take] at hj
    rw [List.getElem_take]
    exact r j (by omega)
theorem St.rowSpot (H : St w0 h w L) (i : Nat) (hi : L[i]? = some (row K B h1 a c xs)) : ∀ x, a = some x → x.spot = none := by
  rintro x rfl
  rcases H.get i hi with ⟨ha, _⟩ | ⟨g, o, C, e, e1, _⟩
  · cases ha
  · simp only [Option.some.injEq] at e1; subst e1; rfl

/-- An element's cells of a row that is owned, told anew. -/
theorem St.rowPut (H : St w0 h w L) (i : Nat) (hi : L[i]? = some (row K B h1 a c xs)) (le : h1.le h) {b o : Nat} (ha : a = some ⟨b, o, none⟩) {j q : Nat} (hj : j < xs.length) {vs : List Value} {C : Array Value} {e : TypeId} (hb : w.heap[b]? = some (.cells C e (0, 0)))
    (hq : q + vs.length ≤ K.sz) {y : α} (r' : K.rel h (splice (Go.Proofs.Ytcoepljalekglaa.G2.cut C (o + j * K.sz) K.sz) q vs) y)
    (hs : Same w w' b) (hw : w'.heap[b]? = some (.cells (splice C.toList (o + j * K.sz + q) vs).toArray e (0, 0))) : St w0 h w' (L.set i (row K B h a c (xs.set j y))) := by
  subst ha
  rcases H.get i hi with ⟨h0, _⟩ | ⟨g, o', C', e', e1, hb', f2, f3, f4, f5, r⟩
  · cases h0
  · simp only [Option.some.injEq, Addr.mk.injEq] at e1
    obtain ⟨rfl, rfl, _⟩ := e1
    rw [hb] at hb'
    simp only [Option.some.injEq, Obj.cells.injEq] at hb'
    obtain ⟨rfl, rfl, _⟩ := hb'
    have hm : (j + 1) * K.sz ≤ xs.length * K.sz := Nat.mul_le_mul_right _ hj
    have hm2 : xs.length * K.sz ≤ c * K.sz := Nat.mul_le_mul_right _ f3
    rw [Nat.succ_mul] at hm
    have hin : o + j * K.sz + q + vs.length ≤ C.toList.length := by rw [show C.toList.length = C.size from rfl]; omega
    refine H.step i hi hs.os hs.tape hs.output (by rw [hs.size]; exact Nat.le_refl _) (fun k _ hk => hs.block k (fun e => hk ⟨o, none, by rw [e]⟩)) (.inr ⟨b, o, _, e, rfl, hw, ?_, by simpa using f3, f4, by simpa using f5, fun l hl => ?_⟩) (fun k hk => ?_)
    · simpa [splice_size _ _ _ hin] using f2
    · rw [List.length_set] at hl
      by_cases hlj : l = j
      · subst hlj
        rw [List.getElem_set_self]
        refine cast ?_ r'
        congr 1
        apply List.ext_getElem?
        intro k
        have hcl : (Go.Proofs.Ytcoepljalekglaa.G2.cut C (o + l * K.sz) K.sz).length = K.sz := by simp only [Go.Proofs.Ytcoepljalekglaa.G2.cut, List.length_take, List.length_drop, Array.length_toList]; omega
        rw [splice_get (by rw [hcl]; omega)]
        simp only [Go.Proofs.Ytcoepljalekglaa.G2.cut, List.getElem?_take, List.getElem?_drop]
        by_cases hk : k < K.sz
        · simp only [if_pos hk]
          rw [splice_get hin]
          by_cases h1 : k < q
          · rw [if_pos h1, if_pos (by omega)]
          · by_cases h2 : k < q + vs.length
            · rw [if_neg h1, if_pos h2, if_neg (by omega), if_pos (by omega)]
              congr 1; omega
            · rw [if_neg h1, if_neg h2, if_neg (by omega), if_neg (by omega)]
        · simp only [if_neg hk]
          rw [if_neg (by omega), if_neg (by omega)]
      · rw [List.getElem_set_ne (fun e => hlj e.symm)]
        have e : Go.Proofs.Ytcoepljalekglaa.G2.cut (splice C.toList (o + j * K.sz + q) vs).toArray (o + l * K.sz) K.sz = Go.Proofs.Ytcoepljalekglaa.G2.cut C (o + l * K.sz) K.sz := by
          refine cut_congr fun k hk => ?_
          rw [List.getElem?_toArray, splice_get hin, Array.getElem?_toList]
          rcases Nat.lt_or_gt_of_ne hlj with h1 | h1
          · have : (l + 1) * K.sz ≤ j * K.sz := Nat.mul_le_mul_right _ h1
            rw [Nat.succ_mul] at this
            rw [if_pos (by omega)]
          · have : (j + 1) * K.sz ≤ l * K.sz := Nat.mul_le_mul_right _ h1
            rw [Nat.succ_mul] at this
            rw [if_neg (by omega), if_neg (by omega)]
        rw [e]
        exact K.up le (r l hl)
    · obtain ⟨o', s', e⟩ := hk
      simp only [Option.some.injEq, Addr.mk.injEq] at e
      obtain ⟨rfl, rfl, rfl⟩ := e
      exact ⟨.inl ⟨o, none, rfl⟩, getElem?_lt hw⟩

/-- A store into an element of a row of one's own. -/
theorem Does.storeRow {t : TypeId} {x y : Operand} {d : Option Tmp} (H : St w0 h w L) (i : Nat) {b o : Nat} (hi : L[i]? = some (row K B h1 (some ⟨b, o, none⟩) c xs)) (le : h1.le h) {j : Nat} (hj : j < xs.length) {C : Array Value} {e : TypeId} (hb : w.heap[b]? = some (.cells C e (0, 0)))
    {cs : List Value} (hc : Go.Proofs.Ytcoepljalekglaa.G2.cut C (o + j * K.sz) K.sz = cs) (q : Nat) (hx : ev ρ x = .pointer (some ⟨b, o + j * K.sz + q, none⟩)) (hok : storeOk P t (ev ρ y) cs q = true) {y' : α} (r' : K.rel h (splice cs q (ev ρ y).cells.toList) y')
    (k : ∀ w', St w0 h w' (L.set i (row K B h (some ⟨b, o, none⟩) c (xs.set j y'))) → Kk undef w') : Does P ρ ⟨d, .store t x y, ty, pos, af, g⟩ w Kk := by
  simp only [storeOk, Bool.and_eq_true] at hok
  obtain ⟨h1', h2', h3'⟩ := hok
  have h3' := Nat.le_of_ble_eq_true h3'
  have hcl : cs.length ≤ K.sz := by rw [← hc]; simp only [Go.Proofs.Ytcoepljalekglaa.G2.cut, List.length_take]; omega
  have hrl := K.len r'
  have hspl := splice_size cs (ev ρ y).cells.toList q h3'
  have hC : o + j * K.sz + q + 0 + (ev ρ y).cells.toList.length ≤ C.toList.length := by
    rcases H.get i hi with ⟨h0, _⟩ | ⟨g, o', C', e', e1, hb', f2, f3, f4, f5, r⟩
    · cases h0
    · simp only [Option.some.injEq, Addr.mk.injEq] at e1
      obtain ⟨rfl, rfl, _⟩ := e1
      rw [hb] at hb'
      simp only [Option.some.injEq, Obj.cells.injEq] at hb'
      obtain ⟨rfl, rfl, _⟩ := hb'
      have hm : (j + 1) * K.sz ≤ xs.length * K.sz := Nat.mul_le_mul_right _ hj
      have hm2 : xs.length * K.sz ≤ c * K.sz := Nat.mul_le_mul_right _ f3
      rw [Nat.succ_mul] at hm
      rw [show C.toList.length = C.size from rfl]; omega
  obtain ⟨w', hr, hs, hw⟩ := run_storeCells (P := P) (o + j * K.sz + q) (ev ρ y).cells.toList 0 C.toList w (by simpa using hb) hC h2'
  have hq0 : q + (ev ρ y).cells.toList.length ≤ K.sz := by omega
  refine Does.unit (w' := w') ?_ (k w' (H.rowPut i hi le rfl hj hb hq0 (by rw [hc]; exact r') hs (by simpa using hw)))
  show Sem.run P (do Instr.storeAt t (ev ρ x) (ev ρ y); Pure.pure Next.skip) w = _
  have : (Instr.storeAt t (.pointer (some ⟨b, o + j * K.sz + q, none⟩)) (ev ρ y)).run P w = .ok () w' := by
    cases hz : szOf P t with
    | none => rw [hz] at h1'; cases h1'
    | some m =>
      rw [hz] at h1'
      have := Nat.eq_of_beq_eq_true h1'
      show Sem.run P (storeVar t ⟨b, o + j * K.sz + q, none⟩ (ev ρ y)) w = _
      unfold storeVar
      rw [run_bind_ok (still_run _ hz w), if_neg (by omega)]
      exact hr
  rw [hx, run_bind_ok this]
  rfl
end
end Go.Proofs.Ytcoepljalekglaa.G2
