/- Lemmas for the walk: part T. -/
import Derived.Test.YtcoepljalekglaaG2S
import Derived.KernelRfl
set_option linter.unusedSimpArgs false
set_option linter.unusedVariables false
set_option linter.all false
/-! Regions that draw: some that may each be next. -/
namespace Go.Proofs.Ytcoepljalekglaa.G2
/-- What the kernel sees by itself. -/
theorem kr {p : Prop} (h : p := by kernel_rfl) : p := h
open Go.RowKit
section
variable {P : Program} {n : Nat} {ops : Array Oper} {Q : Post} {ρ : Env} {w : World} {fl done : List Nat}
def blockOkN (ops : Array Oper) (fl done cs : List Nat) : Bool := (List.range ops.size).all fun i => memN i fl || (memN i done || (memN i cs || (preds ops i).any fun j => !(memN j done) && !(memN j fl)))
def stageOkN (ops : Array Oper) (fl done : List Nat) (c0 : Nat) (cs : List Nat) : Bool := blockOkN ops fl done (c0 :: cs) && (((c0 :: cs).all fun c => !(memN c fl) && (!(memN c done) && Nat.blt c ops.size)) && predsLt ops)
theorem ready_casesN {cs : List Nat} (hb : blockOkN ops fl done cs = true) {listed : Array Bool} {a : Act} (I : Inv n ops fl done ρ listed a) {i : Nat} (hi : i ∈ Region.ready .any ops listed) : i ∈ fl ∨ i ∈ cs := by
  obtain ⟨hlt, hf, hp⟩ := preds_of_ready I.lsize hi
  simp only [blockOkN, List.all_eq_true, List.mem_range, Bool.or_eq_true, List.any_eq_true, Bool.and_eq_true, Bool.not_eq_true'] at hb
  rcases hb i hlt with h | h | h | ⟨j, hj, h1, h2⟩
  · exact .inl (memN_iff.1 h)
  · have := I.all i (memN_iff.1 h); rw [hf] at this; cases this
  · exact .inr (memN_iff.1 h)
  · exfalso
    rcases I.only j (hp j hj) with h | h
    · have := memN_iff.2 h; rw [h1] at this; cases this
    · have := memN_iff.2 h; rw [h2] at this; cases this
/-- The built-ins max and min. -/
def gmax (x y : Int) : Int := if y > x then y else x
def gmin (x y : Int) : Int := if y < x then y else x
/-- Steps of each of some. -/
def WTs (P : Program) (n : Nat) (ops : Array Oper) (Q : Post) (fl done : List Nat) (ρ : Env) (w : World) : List Nat → Prop
  | [] => True
  | c :: cs => WT P n ops Q fl done ρ w c ∧ WTs P n ops Q fl done ρ w cs
theorem WTs.mem {cs : List Nat} (h : WTs P n ops Q fl done ρ w cs) {c : Nat} (hc : c ∈ cs) : WT P n ops Q fl done ρ w c := by
  induction cs with
  | nil => cases hc
  | cons d cs ih =>
    rcases List.mem_cons.1 hc with e | e
    · subst e; exact h.1
    · exact ih h.2 e
theorem WD.among (c0 : Nat) (cs : List Nat) (hs : stageOkN ops fl done c0 cs = true) (hfl : ∀ i ∈ fl, Floats P n ops ρ w i) (h : WTs P n ops Q fl done ρ w (c0 :: cs)) : WD P n ops Q fl done ρ w := by
  simp only [stageOkN, Bool.and_eq_true, List.all_eq_true, Bool.not_eq_true'] at hs
  obtain ⟨hb, hcs, hpl⟩ := hs
  obtain ⟨hcn, hcd, hc0⟩ := hcs c0 (List.mem_cons_self ..)
  have hcl : c0 < ops.size := by simpa [Nat.blt_eq] using hc0
  intro fuel
  have hnot : ∀ e, memN e fl = false → memN e done = false → ∀ listed a, Inv n ops fl done ρ listed a → listed.getD e false = false := by
    intro c hcn hdn listed a I
    cases e : listed.getD c false with
    | false => rfl
    | true =>
      rcases I.only c e with h | h
      · have := memN_iff.2 h; rw [hdn] at this; cases this
      · have := memN_iff.2 h; rw [hcn] at this; cases this
  induction fuel with
  | zero =>
    intro listed a I hu
    exfalso
    have := unl_zero (Nat.le_zero.1 hu) c0 (by rw [I.lsize]; exact hcl)
    rw [hnot c0 hcn hcd listed a I] at this
    cases this
  | succ fuel ih =>
    intro listed a I hu
    refine ⟨fun hr => ?_, fun i hi => ?_⟩
    · have := all_listed hpl I.lsize hr c0 hcl
      rw [hnot c0 hcn hcd listed a I] at this
      cases this
    · rcases ready_casesN hb I hi with hf | hf
      · exact WD.float I hu hi hf (hfl i hf) ih
      · obtain ⟨_, _, hi0⟩ := hcs i hf
        have hil : i < ops.size := by simpa [Nat.blt_eq] using hi0
        obtain ⟨_, hf0, hp⟩ := preds_of_ready I.lsize hi
        refine h.mem hf _ listed a I hp fun fl' done' ρ' w' a' hW hI => hW fuel _ _ hI ?_
        have := unl_set (listed := listed) (i := i) (by rw [I.lsize]; exact hil) hf0
        omega
end
section
variable {w : World} {h : Gh} {α : Type} {K : Rep α} {a : Option Addr} {c : Nat} {xs : List α}
theorem Src.lcut (s : Src K h w a xs) (hc : xs.length ≤ c) {l m : Int} (h0 : 0 ≤ l) (h1 : l ≤ m) (h2 : m ≤ xs.length) : Src K h w (sa K.sz a c l.toNat) (lcut xs l m) := by
  by_cases hm : m = l
  · left
    exact List.eq_nil_of_length_eq_zero (by rw [lcut_len h0 h1 h2]; omega)
  · rcases s with rfl | ⟨b, o, C, e, fr, rfl, e2, r⟩
    · exfalso
      simp only [List.length_nil] at h2
      omega
    · right
      refine ⟨b, o + l.toNat * K.sz, C, e, fr, ?_, e2, (r.drop l.toNat).take (m.toNat - l.toNat)⟩
      unfold sa
      rw [if_neg (by omega)]
      simp [add_plain]
end
section
variable {H : Type} {enc : TypeId × Value → H} {P : Program} {w : World} {t : TypeId}
/-- A number that is read lies within its kind. -/
theorem opn_intB {k : IntKind} (ht : P.underlying t = some (.int k)) (fuel : Nat) (cs : List Value) (h0 : Tr enc P w fuel t cs) : ∃ x, cs = [.int k x] ∧ k.min ≤ x ∧ x ≤ k.max := by
  obtain ⟨d, p, h⟩ := h0
  obtain ⟨n, h, _, hw⟩ := DataW.trod_int ht h
  simp only [Lit.wf, Bool.and_eq_true, decide_eq_true_eq] at hw
  exact ⟨n, h, hw⟩
/-- A representation of what has a property beside. -/
def Rep.also {α : Type} (K : Rep α) (B : α → Prop) : Rep α := ⟨K.sz, fun h cs x => K.rel h cs x ∧ B x, fun le r => ⟨K.up le r.1, r.2⟩, fun r => K.len r.1, fun r => K.plain r.1⟩
theorem Sl.also {α : Type} {K : Rep α} {B : α → Prop} {b : Nat} {h : Gh} {a : Option Addr} {c : Nat} {xs : List α} (s : Sl (K.also B) b h a c xs) : Sl K b h a c xs ∧ ∀ x ∈ xs, B x := by
  obtain ⟨s1, s2, s3, s4⟩ := s
  rcases s4 with rfl | ⟨g, o, C, e, fr, e1, e2, e3⟩
  · exact ⟨⟨s1, s2, trivial, .inl rfl⟩, fun x hx => by cases hx⟩
  · refine ⟨⟨s1, s2, trivial, .inr ⟨g, o, C, e, fr, e1, e2, fun i hi => (e3 i hi).1⟩⟩, fun x hx => ?_⟩
    obtain ⟨i, hi, rfl⟩ := List.getElem_of_mem hx
    exact (e3 i hi).2
end
end Go.Proofs.Ytcoepljalekglaa.G2
