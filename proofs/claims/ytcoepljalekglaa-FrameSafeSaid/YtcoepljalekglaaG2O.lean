/- Lemmas for the walk: part O. -/
import Derived.Test.YtcoepljalekglaaG2N
set_option linter.unusedSimpArgs false
set_option linter.unusedVariables false
set_option linter.all false
/-! Regions that draw: two that may each be next. -/
namespace Go.Proofs.Ytcoepljalekglaa.G2
open Go.RowKit
section
variable {P : Program} {n : Nat} {ops : Array Oper} {Q : Post} {ρ : Env} {w : World} {fl done : List Nat}
/-- One step of those that do something, whatever has floated by. -/
def WT (P : Program) (n : Nat) (ops : Array Oper) (Q : Post) (fl done : List Nat) (ρ : Env) (w : World) (c : Nat) : Prop :=
  ∀ (K : Act → World → Prop) (listed : Array Bool) (a : Act), Inv n ops fl done ρ listed a → (∀ j ∈ preds ops c, listed.getD j false = true) →
      (∀ fl' done' ρ' w' a', WD P n ops Q fl' done' ρ' w' → Inv n ops fl' done' ρ' (listed.setIfInBounds c true) a' → K a' w') → wpOp P ops (hat n Q) c K a w
def blockOk2 (ops : Array Oper) (fl done : List Nat) (c d : Nat) : Bool := (List.range ops.size).all fun i => memN i fl || (memN i done || ((Nat.beq c i || Nat.beq d i) || (preds ops i).any fun j => !(memN j done) && !(memN j fl)))
def stageOk2 (ops : Array Oper) (fl done : List Nat) (c d : Nat) : Bool := blockOk2 ops fl done c d && ((!(memN c fl) && !(memN d fl)) && ((!(memN c done) && !(memN d done)) && (predsLt ops && (Nat.blt c ops.size && Nat.blt d ops.size))))
theorem ready_cases2 {c d : Nat} (hb : blockOk2 ops fl done c d = true) {listed : Array Bool} {a : Act} (I : Inv n ops fl done ρ listed a) {i : Nat} (hi : i ∈ Region.ready .any ops listed) : i ∈ fl ∨ c = i ∨ d = i := by
  obtain ⟨hlt, hf, hp⟩ := preds_of_ready I.lsize hi
  simp only [blockOk2, List.all_eq_true, List.mem_range, Bool.or_eq_true, List.any_eq_true, Bool.and_eq_true, Bool.not_eq_true'] at hb
  rcases hb i hlt with h | h | (h | h) | ⟨j, hj, h1, h2⟩
  · exact .inl (memN_iff.1 h)
  · have := I.all i (memN_iff.1 h); rw [hf] at this; cases this
  · exact .inr (.inl (Nat.eq_of_beq_eq_true h))
  · exact .inr (.inr (Nat.eq_of_beq_eq_true h))
  · exfalso
    rcases I.only j (hp j hj) with h | h
    · have := memN_iff.2 h; rw [h1] at this; cases this
    · have := memN_iff.2 h; rw [h2] at this; cases this
theorem WD.either (c d : Nat) (hs : stageOk2 ops fl done c d = true) (hfl : ∀ i ∈ fl, Floats P n ops ρ w i) (h1 : WT P n ops Q fl done ρ w c) (h2 : WT P n ops Q fl done ρ w d) : WD P n ops Q fl done ρ w := by
  simp only [stageOk2, Bool.and_eq_true, Bool.not_eq_true'] at hs
  obtain ⟨hb, ⟨hcn, hdn⟩, ⟨hcd, hdd⟩, hpl, hcs, hds⟩ := hs
  have hcl : c < ops.size := by simpa [Nat.blt_eq] using hcs
  have hdl : d < ops.size := by simpa [Nat.blt_eq] using hds
  intro fuel
  have hnot : ∀ e, memN e fl = false → memN e done = false → ∀ listed a, Inv n ops fl done ρ listed a → listed.getD e false = false := by
    intro c hcn hdn listed a I
    cases e : listed.getD c false with
    | false => rfl
    | true =>
      rcases I.only c e with h | h
      · have := memN_iff.2 h; rw [hdn] at this; cases this
      · have := memN_iff.2 h; rw [hcn] at this; cases this
  induction fuel with
  | zero =>
    intro listed a I hu
    exfalso
    have := unl_zero (Nat.le_zero.1 hu) c (by rw [I.lsize]; exact hcl)
    rw [hnot c hcn hcd listed a I] at this
    cases this
  | succ fuel ih =>
    intro listed a I hu
    refine ⟨fun hr => ?_, fun i hi => ?_⟩
    · have := all_listed hpl I.lsize hr c hcl
      rw [hnot c hcn hcd listed a I] at this
      cases this
    · rcases ready_cases2 hb I hi with h | h | h
      · exact WD.float I hu hi h (hfl i h) ih
      · subst h
        obtain ⟨_, hf0, hp⟩ := preds_of_ready I.lsize hi
        refine h1 _ listed a I hp fun fl' done' ρ' w' a' hW hI => hW fuel _ _ hI ?_
        have := unl_set (listed := listed) (i := c) (by rw [I.lsize]; exact hcl) hf0
        omega
      · subst h
        obtain ⟨_, hf0, hp⟩ := preds_of_ready I.lsize hi
        refine h2 _ listed a I hp fun fl' done' ρ' w' a' hW hI => hW fuel _ _ hI ?_
        have := unl_set (listed := listed) (i := d) (by rw [I.lsize]; exact hdl) hf0
        omega
theorem WT.does (c : Nat) (hs : (!(memN c fl) && homeOk ops c) = true) {o : Oper} (ho : ops[c]? = some o) (hg : wantE ops ρ o = some true) (hk : okOp n ρ o = true)
    (h : Does P ρ o w fun v w' => WD P n ops Q (fl.filter fun i => !(memN i (preds ops c))) (c :: (preds ops c ++ done)) (putE ρ o.dst v) w') : WT P n ops Q fl done ρ w c := by
  simp only [Bool.and_eq_true, Bool.not_eq_true'] at hs
  obtain ⟨h2, h6⟩ := hs
  intro K listed a I hp hK
  have hdst : dstOk n o = true := by simp only [okOp, Bool.and_eq_true] at hk; exact hk.1
  unfold wpOp
  simp only [ho]
  rw [I.want ho h6 hp hg]
  simp only [if_true]
  exact .inl (Does.wp (I.exec ho h6 hp hk) h fun v w' hw => hK _ _ _ _ _ hw (I.chain ho hp h2 v hdst))
end
end Go.Proofs.Ytcoepljalekglaa.G2
