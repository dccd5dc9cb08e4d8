/- Lemmas for the walk: part Q. -/
import Derived.Test.YtcoepljalekglaaG2P
import Derived.ChangeShapes
import Derived.SizedLaws
import Derived.WalkKit
import Derived.ProofKit
import Derived.OpenShut
import Derived.ShutString
import Derived.ChangeOld
set_option linter.unusedSimpArgs false
set_option linter.unusedVariables false
set_option linter.all false
/-! From a reading to what the walk knows. -/
namespace Go.Proofs.Ytcoepljalekglaa.G2
open Go.RowKit

/-- A world's memory, all of it only read. -/
def hp (w : World) : Gh := fun k => w.heap[k]?

section
variable {H : Type} {enc : TypeId × Value → H} {P : Program} {w : World} {t e : TypeId} {α : Type} {K : Rep α} {B : Nat}

abbrev Tr {H : Type} (enc : TypeId × Value → H) (P : Program) (w : World) (fuel : Nat) (t : TypeId) (cs : List Value) : Prop := ∃ d p, DataW.trod enc P w 0 (fun _ => true) true fuel t cs = some (d, p)
/-- What reads as something of a type represents a datum. -/
def Opn {H : Type} (enc : TypeId × Value → H) (P : Program) (w : World) {α : Type} (K : Rep α) (t : TypeId) : Prop := ∀ fuel cs, Tr enc P w fuel t cs → ∃ x, K.rel (hp w) cs x

theorem opn_int {k : IntKind} (ht : P.underlying t = some (.int k)) : Opn enc P w (Rep.int k) t := by
  rintro fuel cs ⟨d, p, h⟩
  obtain ⟨n, h, _⟩ := DataW.trod_int ht h
  exact ⟨n, h⟩
theorem opn_bool (ht : P.underlying t = some .bool) : Opn enc P w Rep.bool t := by
  rintro fuel cs ⟨d, p, h⟩
  cases fuel with
  | zero => simp [DataW.trod] at h
  | succ fuel =>
    unfold DataW.trod at h
    rw [ht] at h
    match cs, h with
    | [.bool b], _ => exact ⟨b, rfl⟩
theorem opn_str (ht : P.underlying t = some .string) : Opn enc P w Rep.str t := by
  rintro fuel cs ⟨d, p, h⟩
  cases fuel with
  | zero => simp [DataW.trod] at h
  | succ fuel =>
    unfold DataW.trod at h
    rw [ht] at h
    match cs, h with
    | [.string s], _ => exact ⟨s, rfl⟩

theorem mapM_some {α β : Type} {f : α → Option β} : ∀ {l : List α} {r : List β}, l.mapM f = some r → r.length = l.length ∧ ∀ i (h : i < l.length), ∃ y, f l[i] = some y := by
  intro l
  induction l with
  | nil => intro r h; simp at h; subst h; exact ⟨rfl, fun i h => by simp at h⟩
  | cons x l ih =>
    intro r h
    rw [List.mapM_cons] at h
    cases hx : f x with
    | none => rw [hx] at h; simp at h
    | some y =>
      cases hl : l.mapM f with
      | none => rw [hx, hl] at h; simp at h
      | some z =>
        rw [hx, hl] at h
        simp at h
        subst h
        obtain ⟨h1, h2⟩ := ih hl
        refine ⟨by simp [h1], fun i h => ?_⟩
        cases i with
        | zero => exact ⟨y, hx⟩
        | succ i => exact h2 i (by simpa using h)

theorem cells_cut {w : World} {b o n : Nat} {C : Array Value} {te : TypeId} {fr : Nat × Nat} {cs : List Value} (hb : w.heap[b]? = some (.cells C te fr)) (h : w.cells? 0 ⟨b, o, none⟩ n = some cs) : cut C o n = cs := by
  unfold World.cells? at h
  rw [if_pos (Nat.zero_le _)] at h
  obtain ⟨hl, hi⟩ := mapM_some h
  have hget : ∀ i, i < n → cs[i]? = C[o + i]? := by
    intro i hin
    have key : ∀ (l : List Nat) (r : List Value), l.mapM (fun i => w.cell? ((⟨b, o, none⟩ : Addr).add i)) = some r → ∀ j (hj : j < l.length), r[j]? = C[o + l[j]]? := by
      intro l
      induction l with
      | nil => intro r _ j hj; simp at hj
      | cons x l ih =>
        intro r hr j hj
        rw [List.mapM_cons] at hr
        cases hx : w.cell? ((⟨b, o, none⟩ : Addr).add x) with
        | none => rw [hx] at hr; simp at hr
        | some y =>
          cases hm : l.mapM (fun i => w.cell? ((⟨b, o, none⟩ : Addr).add i)) with
          | none => rw [hx, hm] at hr; simp at hr
          | some z =>
            rw [hx, hm] at hr
            simp at hr
            subst hr
            cases j with
            | zero =>
              rw [add_plain, cell_of hb] at hx
              simp [hx]
            | succ j => simpa using ih z hm j (by simpa using hj)
    have := key (List.range n) cs h i (by simpa using hin)
    simpa using this
  have hn : cs.length = n := by simpa using hl
  apply List.ext_getElem?
  intro i
  simp only [cut, List.getElem?_take, List.getElem?_drop]
  split
  · rename_i hi'
    rw [hget i hi']; simp
  · rw [List.getElem?_eq_none (by omega)]

theorem list_of {α : Type} {R : Nat → α → Prop} : ∀ (n : Nat), (∀ i, i < n → ∃ x, R i x) → ∃ xs : List α, xs.length = n ∧ ∀ i (hi : i < xs.length), R i xs[i] := by
  intro n
  induction n with
  | zero => intro _; exact ⟨[], rfl, fun i hi => by simp at hi⟩
  | succ n ih =>
    intro hrel
    obtain ⟨xs, hl, hr⟩ := ih fun i hi => hrel i (by omega)
    obtain ⟨x, hx⟩ := hrel n (by omega)
    refine ⟨xs ++ [x], by simp [hl], fun i hi => ?_⟩
    by_cases hin : i < xs.length
    · rw [List.getElem_append_left hin]; exact hr i hin
    · have : i = xs.length := by simp at hi; omega
      subst this
      rw [List.getElem_append_right (Nat.le_refl _)]
      simpa [hl] using hx

theorem opn_sl (hE : Opn enc P w K e) (ht : P.underlying t = some (.slice e)) (hc : P.cellsOf e = K.sz) (hz : 0 < K.sz) {fuel : Nat} {cs : List Value} (h : Tr enc P w fuel t cs) : ∃ a c xs, cs = [.slice a xs.length c] ∧ Sl K B (hp w) a c xs := by
  obtain ⟨d, p, h⟩ := h
  cases fuel with
  | zero => simp [DataW.trod] at h
  | succ fuel =>
    unfold DataW.trod at h
    rw [ht] at h
    match cs, h with
    | [.slice none 0 0], _ => exact ⟨none, 0, [], rfl, Sl.nil _ _ (Nat.zero_le _)⟩
    | [.slice (some ad) len cap], h =>
      simp only [hc] at h
      split at h
      · rename_i hcond
        obtain ⟨_, hlen, hcap⟩ := hcond
        cases hm : (List.range len).mapM fun i => (w.cells? 0 (ad.add (i * K.sz)) K.sz).bind (DataW.trod enc P w 0 (fun _ => true) true fuel e) with
        | none => rw [hm] at h; simp at h
        | some els =>
          obtain ⟨_, hel⟩ := mapM_some hm
          by_cases h0 : len = 0
          · subst h0
            exact ⟨some ad, cap, [], rfl, Sl.nil _ _ hcap⟩
          · have helx : ∀ i, i < len → ∃ c1, w.cells? 0 (ad.add (i * K.sz)) K.sz = some c1 ∧ Tr enc P w fuel e c1 := by
              intro i hi
              obtain ⟨y, hy⟩ := hel i (by simpa using hi)
              simp only [List.getElem_range] at hy
              cases hcc : w.cells? 0 (ad.add (i * K.sz)) K.sz with
              | none => rw [hcc] at hy; simp at hy
              | some c1 => rw [hcc] at hy; exact ⟨c1, rfl, y.1, y.2, hy⟩
            obtain ⟨c0, hc0, _⟩ := helx 0 (by omega)
            rw [Nat.zero_mul, show ad.add 0 = ad from rfl] at hc0
            have hcell : ∃ v, w.cell? ad = some v := by
              unfold World.cells? at hc0
              rw [if_pos (Nat.zero_le _)] at hc0
              obtain ⟨_, h2⟩ := mapM_some hc0
              obtain ⟨v, hv⟩ := h2 0 (by simpa using hz)
              simp only [List.getElem_range] at hv
              exact ⟨v, hv⟩
            obtain ⟨v, hv⟩ := hcell
            obtain ⟨b, o, sp⟩ := ad
            unfold World.cell? at hv
            cases hb : w.heap[b]? with
            | none => rw [hb] at hv; simp at hv
            | some ob =>
              rw [hb] at hv
              cases ob with
              | cells C te fr =>
                simp only at hv
                have hsp : sp = none := by
                  cases sp with
                  | none => rfl
                  | some z => simp at hv
                subst hsp
                have hrel : ∀ i, i < len → ∃ x, K.rel (hp w) (cut C (o + i * K.sz) K.sz) x := by
                  intro i hi
                  obtain ⟨c1, h1, h2⟩ := helx i hi
                  obtain ⟨x, hx⟩ := hE _ _ h2
                  rw [add_plain] at h1
                  rw [cells_cut hb h1]
                  exact ⟨x, hx⟩
                have hxs := list_of len hrel
                obtain ⟨xs, hl, hr⟩ := hxs
                exact ⟨some ⟨b, o, none⟩, cap, xs, by rw [hl], by omega, hcap, trivial, .inr ⟨b, o, C, te, fr, rfl, hb, hr⟩⟩
              | _ => simp at hv
      · simp at h

/-- The parts of a struct's cells. -/
def AllT {H : Type} (enc : TypeId × Value → H) (P : Program) (w : World) (fuel : Nat) : List TypeId → List Value → Prop
  | [], cs => cs = []
  | t :: ts, cs => ∃ c1 c2, cs = c1 ++ c2 ∧ Tr enc P w fuel t c1 ∧ AllT enc P w fuel ts c2
def flds (P : Program) (t : TypeId) : Option (List (TypeId × Nat × Nat)) := match P.underlying t with
  | some (.struct fs) => some (fs.toList.map fun f => (f.type, f.offset, P.cellsOf f.type))
  | _ => none
def inLine : Nat → List (TypeId × Nat × Nat) → Nat → Bool
  | o, [], n => Nat.beq o n
  | o, (_, q, m) :: l, n => Nat.beq q o && inLine (o + m) l n
theorem opn_struct {l : List (TypeId × Nat × Nat)} (hl : flds P t = some l) (hi : inLine 0 l (P.cellsOf t) = true) {fuel : Nat} {cs : List Value} (h : Tr enc P w fuel t cs) : ∃ fuel, AllT enc P w fuel (l.map (·.1)) cs := by
  obtain ⟨d, p, h⟩ := h
  cases fuel with
  | zero => simp [DataW.trod] at h
  | succ fuel =>
    unfold flds at hl
    cases hu : P.underlying t with
    | none => rw [hu] at hl; simp at hl
    | some u =>
      rw [hu] at hl
      cases u <;> try (simp at hl; done)
      rename_i fs
      simp only [Option.some.injEq] at hl
      unfold DataW.trod at h
      rw [hu] at h
      simp only at h
      split at h
      · rename_i hlen
        cases hm : fs.toList.mapM fun f => DataW.trod enc P w 0 (fun _ => true) true fuel f.type ((cs.drop f.offset).take (P.cellsOf f.type)) with
        | none => rw [hm] at h; simp at h
        | some els =>
          refine ⟨fuel, ?_⟩
          have key : ∀ (fl : List Field) (els : List (DataW H × List MemPlace)) (o : Nat), fl.mapM (fun f => DataW.trod enc P w 0 (fun _ => true) true fuel f.type ((cs.drop f.offset).take (P.cellsOf f.type))) = some els →
              inLine o (fl.map fun f => (f.type, f.offset, P.cellsOf f.type)) cs.length = true → AllT enc P w fuel ((fl.map fun f => (f.type, f.offset, P.cellsOf f.type)).map (·.1)) (cs.drop o) := by
            intro fl
            induction fl with
            | nil =>
              intro els o _ hio
              simp only [List.map_nil, inLine] at hio
              have := Nat.eq_of_beq_eq_true hio
              simp [AllT, this]
            | cons f fl ih =>
              intro els o hmm hio
              rw [List.mapM_cons] at hmm
              cases hx : DataW.trod enc P w 0 (fun _ => true) true fuel f.type ((cs.drop f.offset).take (P.cellsOf f.type)) with
              | none => rw [hx] at hmm; simp at hmm
              | some y =>
                cases hr : fl.mapM (fun f => DataW.trod enc P w 0 (fun _ => true) true fuel f.type ((cs.drop f.offset).take (P.cellsOf f.type))) with
                | none => rw [hx, hr] at hmm; simp at hmm
                | some z =>
                  simp only [List.map_cons, inLine, Bool.and_eq_true] at hio
                  have ho := Nat.eq_of_beq_eq_true hio.1
                  have hrec := ih z (o + P.cellsOf f.type) hr hio.2
                  simp only [List.map_cons, AllT]
                  refine ⟨(cs.drop f.offset).take (P.cellsOf f.type), cs.drop (o + P.cellsOf f.type), ?_, ⟨y.1, y.2, hx⟩, hrec⟩
                  rw [ho, ← List.drop_drop, List.take_append_drop]
          have := key fs.toList els 0 hm (by rw [hl, hlen]; exact hi)
          rw [hl] at this
          simpa using this
      · simp at h

theorem okWide_agg {r : Reach} {base : Nat} {v : Value} (ht : (match P.underlying t with | some (.struct _) => true | some (.array _ _) => true | _ => false) = true) (h : Value.okWide P w r base t v) : ∃ cs, v = .agg cs := by
  unfold Value.okWide at h
  cases hu : P.underlying t with
  | none => rw [hu] at ht; cases ht
  | some u =>
    rw [hu] at h ht
    cases u <;> first | (cases ht; done) | exact ⟨_, h.choose_spec.1⟩
theorem opn_arr {n m : Nat} (hu : P.underlying t = some (.array n e)) (hm : P.cellsOf e = m) (hc : P.cellsOf t = n * m) {fuel : Nat} {cs : List Value} (h : Tr enc P w fuel t cs) : ∃ fuel, AllT enc P w fuel (List.replicate n e) cs := by
  obtain ⟨d, p, h⟩ := h
  cases fuel with
  | zero => simp [DataW.trod] at h
  | succ fuel =>
    unfold DataW.trod at h
    rw [hu] at h
    simp only [hm] at h
    split at h
    · rename_i hlen
      cases hmm : (List.range n).mapM fun i => DataW.trod enc P w 0 (fun _ => true) true fuel e ((cs.drop (i * m)).take m) with
      | none => rw [hmm] at h; simp at h
      | some els =>
        refine ⟨fuel, ?_⟩
        obtain ⟨_, hel⟩ := mapM_some hmm
        have key : ∀ k o, o + k = n → AllT enc P w fuel (List.replicate k e) (cs.drop (o * m)) := by
          intro k
          induction k with
          | zero =>
            intro o ho
            have : cs.length = o * m := by rw [hlen, hc, ← ho, Nat.add_zero]
            simp [AllT, ← this]
          | succ k ih =>
            intro o ho
            have hrec := ih (o + 1) (by omega)
            obtain ⟨y, hy⟩ := hel o (by simp; omega)
            simp only [List.getElem_range] at hy
            simp only [List.replicate_succ, AllT]
            refine ⟨(cs.drop (o * m)).take m, cs.drop ((o + 1) * m), ?_, ⟨y.1, y.2, hy⟩, hrec⟩
            rw [Nat.succ_mul, ← List.drop_drop, List.take_append_drop]
        simpa using key n 0 (by omega)
    · simp at h
theorem toArray_of {cs : Array Value} {l : List Value} (h : cs.toList = l) : cs = l.toArray := by rw [← h]
end
end Go.Proofs.Ytcoepljalekglaa.G2
