/- Lemmas for the walk: part H. -/
import Derived.Test.YtcoepljalekglaaG2G
set_option linter.unusedSimpArgs false
set_option linter.unusedVariables false
set_option linter.all false
/-! Ways that meet again; loops. -/
namespace Go.Proofs.Ytcoepljalekglaa.G2
open Go.RowKit
section
variable {P : Program} {n : Nat} {ops : Array Oper} {Q : Post} {ρ : Env} {w : World} {l : List Oper}
theorem WL.join {ι : Type} (m : Nat) (E : ι → Env) (F : ι → World → Prop) (hk : ∀ i w, F i w → WL P n ops Q (l.drop m) (E i) w)
    (hx : (∀ i w, F i w → WL P n ops Q (l.drop m) (E i) w) → WL P n ops Q l ρ w) : WL P n ops Q l ρ w := hx hk
theorem WE.join {ι : Type} {x y : Code} (E : ι → Env) (F : ι → World → Prop) (hk : ∀ i w, F i w → WE P n y Q (E i) w)
    (hx : (∀ i w, F i w → WE P n y Q (E i) w) → WE P n x (thenE (WE P n y Q) Q) ρ w) : WE P n (x.seq y) Q ρ w := WE.seq (hx hk)
/-- A slot's value in another spelling. -/
theorem WL.spelt (t : Nat) {v : Value} (h0 : has ρ t = true) (hv : gt ρ t = v) (h : WL P n ops Q l ((t, v) :: ρ) w) : WL P n ops Q l ρ w :=
  fun a ha => h a ⟨ha.size, ha.defers, fun s hs => by
    by_cases e : t = s
    · subst e; simp only [gt, Nat.beq_refl, cond_true]; rw [ha.at_ t h0, hv]
    · have hne : Nat.beq t s = false := by
        cases hb : Nat.beq t s with
        | false => rfl
        | true => exact absurd (Nat.eq_of_beq_eq_true hb) e
      simp only [has, gt, hne, cond_false] at hs ⊢
      exact ha.at_ s hs⟩
theorem WL.known (t : Nat) {c b : Bool} (hc : c = b) (h0 : has ρ t = true) (hv : gt ρ t = .bool c) (h : WL P n ops Q l ((t, .bool b) :: ρ) w) : WL P n ops Q l ρ w :=
  WL.spelt t h0 (by rw [hv, hc]) h
theorem WD.known {fl done : List Nat} (t : Nat) {c b : Bool} (hc : c = b) (h0 : has ρ t = true) (hv : gt ρ t = .bool c) (h : WD P n ops Q fl done ((t, .bool b) :: ρ) w) : WD P n ops Q fl done ρ w :=
  WD.spelt t h0 (by rw [hv, hc]) h
theorem Tells.calmB {o : Oper} {c b : Bool} (hc : c = b) (h : still P (execOp (ev ρ) o) = some (.value (.bool c))) : Tells P ρ o w (.bool b) := by
  subst hc; exact Tells.calm h
/-- A test, known. -/
theorem WE.yes {c : Operand} {x y : Code} {b : Bool} (hk : knows ρ c = true) (hv : ev ρ c = .bool b) (hb : b = true) (h : WE P n x Q ρ w) : WE P n (.cond c x y) Q ρ w :=
  WE.cond hk hv (fun _ => h) (fun e => by rw [hb] at e; cases e)
theorem WE.no {c : Operand} {x y : Code} {b : Bool} (hk : knows ρ c = true) (hv : ev ρ c = .bool b) (hb : b = false) (h : WE P n y Q ρ w) : WE P n (.cond c x y) Q ρ w :=
  WE.cond hk hv (fun e => by rw [hb] at e; cases e) (fun _ => h)
/-- A loop, by its function with a number of rounds. -/
theorem LP.rec {σ ι β : Type} (f : Nat → σ → Option β) (E : σ → ι → Env) (F : σ → ι → World → Prop) (r : β) {c : Code} (h0 : ∀ s, f 0 s = none)
    (round : ∀ k, (∀ s i w, F s i w → f k s = some r → LP P n c Q (E s i) w) → ∀ s i w, F s i w → f (k + 1) s = some r → WE P n c (thenE (LP P n c Q) Q) (E s i) w) :
    ∀ k s i w, F s i w → f k s = some r → LP P n c Q (E s i) w := by
  intro k
  induction k with
  | zero => intro s i w _ hr; rw [h0] at hr; cases hr
  | succ k ih => intro s i w hF hr; exact LP.round (round k ih s i w hF hr)
end
theorem St.loadVar {P : Program} {w0 w : World} {h : Gh} {L : List Ent} (H : St w0 h w L) (i : Nat) {b : Nat} {e t : TypeId} {cs : List Value} (hi : L[i]? = some (var b cs e)) (q : Nat) {v : Value} (hv : ldv P t (cs.drop q) = some v) :
    (Go.loadVar t ⟨b, q, none⟩).run P w = .ok v w :=
  run_loadAt (H.get i hi) (cut_all cs) (Nat.zero_add q).symm (by rw [show Nat.ble cs.length cs.length = true from Nat.ble_self_eq_true _]; exact hv)
section
variable {α : Type} {K : Rep α} {B : Nat} {h : Gh} {c : Nat} {xs : List α}
theorem Sl.at2 [Inhabited α] {b o : Nat} (hs : Sl K B h (some ⟨b, o, none⟩) c xs) {i : Int} (h0 : 0 ≤ i) (h1 : i < xs.length) :
    ∃ C e fr cs, h b = some (.cells C e fr) ∧ cut C (o + i.toNat * K.sz) K.sz = cs ∧ K.rel h cs (gd xs i) := by
  obtain ⟨b', o', C, e, fr, cs, ha, r⟩ := hs.at h0 h1
  simp only [Option.some.injEq, Addr.mk.injEq, and_true] at ha
  obtain ⟨rfl, rfl⟩ := ha
  exact ⟨C, e, fr, cs, r⟩
end
/-- Reckonings of the pure side. -/
def w64 (x : Int) : Int := IntKind.wrap .i64 x
def iand (k : IntKind) (x y : Int) : Int := k.wrap ((BitVec.ofInt k.bits x &&& BitVec.ofInt k.bits y).toNat : Int)
def ior (k : IntKind) (x y : Int) : Int := k.wrap ((BitVec.ofInt k.bits x ||| BitVec.ofInt k.bits y).toNat : Int)
def ixor (k : IntKind) (x y : Int) : Int := k.wrap ((BitVec.ofInt k.bits x ^^^ BitVec.ofInt k.bits y).toNat : Int)
def ishl (k : IntKind) (x : Int) (m : Nat) : Int := k.wrap (x * 2 ^ min m k.bits)
def ishr (k : IntKind) (x : Int) (m : Nat) : Int := x.fdiv (2 ^ min m k.bits)

end Go.Proofs.Ytcoepljalekglaa.G2
