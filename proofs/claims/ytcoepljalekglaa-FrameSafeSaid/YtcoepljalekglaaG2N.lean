/- Lemmas for the walk: part N. -/
import Derived.Test.YtcoepljalekglaaG2M
import Derived.ScopeJumps
set_option linter.unusedSimpArgs false
set_option linter.unusedVariables false
set_option linter.all false
/-! Scopes with a jump ahead; elements of rows, by their addresses; lists of what is owned, in another order. -/
namespace Go.Proofs.Ytcoepljalekglaa.G2
open Go.RowKit

def scopeE (l : Nat) (J : Env → World → Prop) (Q : Post) : Post
  | .goto l', ρ, w => l' = l ∧ J ρ w
  | e, ρ, w => Q e ρ w
def noGotoE (Q : Post) : Post
  | .goto _, _, _ => False
  | e, ρ, w => Q e ρ w
section
variable {P : Program} {n : Nat} {Q : Post} {ρ : Env} {w : World}
theorem WE.scope {c rest : Code} (l : Nat) (hf : findLabel c l = some rest) (first : WE P n c (scopeE l (WE P n rest (noGotoE Q)) Q) ρ w) : WE P n (.scope c) Q ρ w := fun a ha => by
  refine wp_scope_jumps l (fun a w => rest.wp P (hat n (noGotoE Q)) a w) (fun _ _ => 0) hf (Code.wp_mono (fun e a w hq => ?_) (first a ha)) (fun a w hJ => Code.wp_mono (fun e a w hq => ?_) hJ)
  · obtain ⟨ρ', hf', hq⟩ := hq
    cases e with
    | goto l' => exact ⟨hq.1, hq.2 a hf'⟩
    | normal => exact ⟨ρ', hf', hq⟩
    | exit id => exact ⟨ρ', hf', hq⟩
    | ret => exact ⟨ρ', hf', hq⟩
    | panic ch => exact ⟨ρ', hf', hq⟩
    | outgrown => exact ⟨ρ', hf', hq⟩
  · obtain ⟨ρ', hf', hq⟩ := hq
    cases e with
    | goto l' => exact hq.elim
    | normal => exact ⟨ρ', hf', hq⟩
    | exit id => exact ⟨ρ', hf', hq⟩
    | ret => exact ⟨ρ', hf', hq⟩
    | panic ch => exact ⟨ρ', hf', hq⟩
    | outgrown => exact ⟨ρ', hf', hq⟩
theorem WE.label {l : Nat} (h : Q .normal ρ w) : WE P n (.label l) Q ρ w := fun _ ha => wp_label ⟨ρ, ha, h⟩
theorem WE.goto {l : Nat} (h : Q (.goto l) ρ w) : WE P n (.goto l) Q ρ w := fun _ ha => wp_goto ⟨ρ, ha, h⟩
end

section
variable {P : Program} {ρ : Env} {w0 w w' : World} {h h' h1 : Gh} {L : List Ent} {o : Oper}
variable {α : Type} {K : Rep α} {B : Nat} {a a2 : Option Addr} {c c2 : Nat} {xs ys : List α}
variable {Kk : Value → World → Prop} {d : Option Tmp} {t e : TypeId} {x y : Operand} {ty : TypeId} {pos : String} {af : Array Edge} {g : Option (Nat × Bool)}
/-- Less may be known of what is only read. -/
theorem St.less (H : St w0 h' w L) (le : h.le h') : St w0 h w L := ⟨H.old, fun k o hk => H.ext k o (le k o hk), H.ents, fun e he k hk => ⟨(H.fps e he k hk).1, (H.fps e he k hk).2.1, by
  cases hh : h k with
  | none => rfl
  | some o => have := le k o hh; rw [(H.fps e he k hk).2.2] at this; cases this⟩, H.apart⟩
theorem St.mid (H : St w0 h w L) (k m : Nat) : St w0 h w (L.take k ++ L.drop (k + m)) := H.sub (by
  conv => rhs; rw [← List.take_append_drop k L]
  exact List.Sublist.append (List.Sublist.refl _) (by rw [← List.drop_drop]; exact List.drop_sublist _ _))
theorem St.rowFlat (H : St w0 h w L) (i : Nat) (hi : L[i]? = some (row K B h1 a c xs)) (fl : ∀ cs x, K.rel h1 cs x → K.rel h' cs x) : St w0 h w (L.set i (row K B h' a c xs)) := by
  refine H.retell i hi (fun _ hk => hk) ?_
  rcases H.get i hi with h0 | ⟨g, o, C, e, e1, hb, e2, e3, e4, e5, r⟩
  · exact .inl h0
  · exact .inr ⟨g, o, C, e, e1, hb, e2, e3, e4, e5, fun j hj => fl _ _ (r j hj)⟩
theorem Sl.take (s : Sl K B h a c xs) (n : Nat) : Sl K B h a c (xs.take n) := by
  obtain ⟨s1, s2, s3, s4⟩ := s
  refine ⟨by simp; omega, s2, trivial, ?_⟩
  rcases s4 with rfl | ⟨b, o, C, t, fr, rfl, hb, r⟩
  · left; simp
  · right
    refine ⟨b, o, C, t, fr, rfl, hb, fun i hi => ?_⟩
    have := r i (by simp at hi; omega)
    simpa using this
def lcut {α : Type} (xs : List α) (l m : Int) : List α := (xs.drop l.toNat).take (m.toNat - l.toNat)
theorem lcut_len {xs : List α} {l m : Int} (h0 : 0 ≤ l) (h1 : l ≤ m) (h2 : m ≤ xs.length) : (lcut xs l m).length = m.toNat - l.toNat := by simp [lcut]; omega
theorem Sl.lcut (s : Sl K B h a c xs) {l m : Int} (h0 : 0 ≤ l) (h1 : l ≤ m) (h2 : m ≤ xs.length) : Sl K B h (sa K.sz a c l.toNat) (c - l.toNat) (lcut xs l m) := s.cut (by omega) (by omega)
/-- A slice that is only read, cut. -/
theorem Tells.cutR {lo hi : Option Operand} (zl zh : Option Int) (s : Nat) (l m : Int) (hx : ev ρ x = .slice a xs.length c) (hlo : lo.map (ev ρ) = iv zl) (hhi : hi.map (ev ρ) = iv zh) (ht : (slcOf P t).map (·.2) = some s)
    (hl : lowOf zl = l) (hh : highOf xs.length zh = m) (h0 : 0 ≤ l) (h1 : l ≤ m) (h2 : m ≤ xs.length) (h3 : xs.length ≤ c) :
    Tells P ρ ⟨d, .slice t x lo hi none, ty, pos, af, g⟩ w (.slice (sa s a c l.toNat) (lcut xs l m).length (c - l.toNat)) :=
  .slice zl zh s xs.length l.toNat m.toNat hx hlo hhi ht (by omega) (by omega) (by omega) (by omega) h3 (by rw [lcut_len h0 h1 h2])
/-- A row of one's own, cut behind. -/
theorem Tells.cutO {lo hi : Option Operand} (H : St w0 h w L) (i : Nat) (hi' : L[i]? = some (row K B h1 a c xs)) (zl zh : Option Int) (s : Nat) (m : Int) {ys : List α} (hx : ev ρ x = .slice a ys.length c) (hlo : lo.map (ev ρ) = iv zl) (hhi : hi.map (ev ρ) = iv zh) (ht : (slcOf P t).map (·.2) = some s)
    (hl : lowOf zl = 0) (hh : highOf ys.length zh = m) (h1' : 0 ≤ m) (h2 : m ≤ ys.length) (h3 : ys.length ≤ xs.length) :
    Tells P ρ ⟨d, .slice t x lo hi none, ty, pos, af, g⟩ w (.slice a (ys.take m.toNat).length c) := by
  have h4 := (H.rowLen i hi').1
  refine .slice zl zh s ys.length 0 m.toNat hx hlo hhi ht (by simpa using hl) (by omega) (by omega) (by omega) (by omega) ?_
  rw [sa_zero _ _ _ (H.rowSpot i hi')]
  simp only [Nat.sub_zero, List.length_take]
  congr 1; omega
theorem St.rowSome (H : St w0 h w L) (i : Nat) (hi : L[i]? = some (row K B h1 a c xs)) {z : Int} (h0 : 0 ≤ z) (hz : z < xs.length) : ∃ b o, a = some ⟨b, o, none⟩ := by
  rcases H.get i hi with ⟨_, rfl, _⟩ | ⟨g, o, C, e, e1, _⟩
  · simp at hz; omega
  · exact ⟨g, o, e1⟩
theorem St.rowAt2 [Inhabited α] {b o : Nat} (H : St w0 h w L) (i : Nat) (hi : L[i]? = some (row K B h1 (some ⟨b, o, none⟩) c xs)) {z : Int} (h0 : 0 ≤ z) (hz : z < xs.length) :
    ∃ C e cs, w.heap[b]? = some (.cells C e (0, 0)) ∧ cut C (o + z.toNat * K.sz) K.sz = cs ∧ K.rel h1 cs (gd xs z) := by
  obtain ⟨b', o', C, e, cs, e1, hb, hc, r⟩ := H.rowAt i hi h0 hz
  simp only [Option.some.injEq, Addr.mk.injEq] at e1
  obtain ⟨rfl, rfl, _⟩ := e1
  exact ⟨C, e, cs, hb, hc, r⟩
/-- A part of an element of a row of one's own. -/
theorem Tells.loadRow [Inhabited α] {b o : Nat} (H : St w0 h w L) (i : Nat) (hi : L[i]? = some (row K B h1 (some ⟨b, o, none⟩) c xs)) {z : Int} (h0 : 0 ≤ z) (hz : z < xs.length) (q s : Nat) {v : Value} (hs : K.sz = s)
    (hv : ∀ cs, K.rel h1 cs (gd xs z) → ldv P t (cs.drop q) = some v) (hx : ev ρ x = .pointer (some ⟨b, o + z.toNat * s + q, none⟩)) : Tells P ρ ⟨d, .load t x, ty, pos, af, g⟩ w v := by
  subst hs
  obtain ⟨C, e, cs, hb, hc, r⟩ := H.rowAt2 i hi h0 hz
  exact .load hb hc hx rfl (by rw [K.len r, show Nat.ble K.sz K.sz = true from Nat.ble_self_eq_true _]; exact hv cs r)
end
end Go.Proofs.Ytcoepljalekglaa.G2
