/- Lemmas for the walk: part I. -/
import Derived.Test.YtcoepljalekglaaG2H
set_option linter.unusedSimpArgs false
set_option linter.unusedVariables false
set_option linter.all false
/-! Rows of one's own: made, appended to, stored into, let go, lent. -/
namespace Go.Proofs.Ytcoepljalekglaa.G2
open Go.RowKit

def Rows {α : Type} (K : Rep α) (h : Gh) (C : Array Value) (o : Nat) (xs : List α) : Prop := ∀ i (hi : i < xs.length), K.rel h (cut C (o + i * K.sz) K.sz) xs[i]
theorem Rows.up {α : Type} {K : Rep α} {h h' : Gh} {C : Array Value} {o : Nat} {xs : List α} (r : Rows K h C o xs) (le : h.le h') : Rows K h' C o xs := fun i hi => K.up le (r i hi)
theorem cut_congr {C D : Array Value} {p q n : Nat} (h : ∀ j, j < n → C[p + j]? = D[q + j]?) : cut C p n = cut D q n := by
  apply List.ext_getElem?
  intro j
  simp only [cut, List.getElem?_take, List.getElem?_drop]
  split
  · rename_i hj
    have := h j hj
    simpa using this
  · rfl

def LIM : Nat := 140737488351232

/-- A row of one's own: nil, or a block. -/
def row {α : Type} (K : Rep α) (B : Nat) (h : Gh) (a : Option Addr) (c : Nat) (xs : List α) : Ent where
  fp k := ∃ o s, a = some ⟨k, o, s⟩
  holds w := (a = none ∧ xs = [] ∧ c = 0) ∨ ∃ g o C e, a = some ⟨g, o, none⟩ ∧ w.heap[g]? = some (.cells C e (0, 0)) ∧ o + c * K.sz ≤ C.size ∧ xs.length ≤ c ∧ c ≤ maxLen ∧ xs.length * B ≤ LIM ∧ Rows K h C o xs
  loc w w' hs := by
    rintro (h1 | ⟨g, o, C, e, rfl, hb, r⟩)
    · exact .inl h1
    · exact .inr ⟨g, o, C, e, rfl, (hs g ⟨o, none, rfl⟩).trans hb, r⟩

section
variable {P : Program} {ρ : Env} {w0 w w' : World} {h h' : Gh} {L : List Ent} {o : Oper}
variable {α : Type} {K : Rep α} {B : Nat} {a : Option Addr} {c : Nat} {xs : List α}

/-- What holds of a row holds of a greater ghost. -/
theorem row_up (le : h.le h') (hh : (row K B h a c xs).holds w) : (row K B h' a c xs).holds w := by
  rcases hh with h1 | ⟨g, o, C, e, e1, hb, e2, e3, e4, e5, r⟩
  · exact .inl h1
  · exact .inr ⟨g, o, C, e, e1, hb, e2, e3, e4, e5, r.up le⟩
/-- One entry is told otherwise. -/
theorem St.retell (H : St w0 h w L) (i : Nat) {e e' : Ent} (hi : L[i]? = some e) (hfp : ∀ k, e'.fp k → e.fp k) (hh : e'.holds w) : St w0 h w (L.set i e') :=
  H.step i hi rfl rfl rfl (Nat.le_refl _) (fun _ _ _ => rfl) hh fun k hk => ⟨.inl (hfp k hk), (H.fps e (List.mem_of_getElem? hi) k (hfp k hk)).2.1⟩
theorem St.rowUp (H : St w0 h w L) {h1 : Gh} (i : Nat) (hi : L[i]? = some (row K B h1 a c xs)) (le : h1.le h') : St w0 h w (L.set i (row K B h' a c xs)) :=
  H.retell i hi (fun _ hk => hk) (row_up le (H.get i hi))
theorem St.rowLen (H : St w0 h w L) (i : Nat) {h1 : Gh} (hi : L[i]? = some (row K B h1 a c xs)) : xs.length ≤ c ∧ c ≤ maxLen ∧ xs.length * B ≤ LIM := by
  rcases H.get i hi with ⟨_, rfl, rfl⟩ | ⟨_, _, _, _, _, _, _, e3, e4, e5, _⟩
  · exact ⟨Nat.le_refl _, Nat.zero_le _, by simp [LIM]⟩
  · exact ⟨e3, e4, e5⟩
/-- An element of a row. -/
theorem St.rowAt [Inhabited α] (H : St w0 h w L) (i : Nat) {h1 : Gh} (hi : L[i]? = some (row K B h1 a c xs)) {z : Int} (h0 : 0 ≤ z) (hz : z < xs.length) :
    ∃ b o C e cs, a = some ⟨b, o, none⟩ ∧ w.heap[b]? = some (.cells C e (0, 0)) ∧ cut C (o + z.toNat * K.sz) K.sz = cs ∧ K.rel h1 cs (gd xs z) := by
  rcases H.get i hi with ⟨_, rfl, _⟩ | ⟨g, o, C, e, e1, hb, e2, e3, e4, e5, r⟩
  · simp at hz; omega
  · exact ⟨g, o, C, e, _, e1, hb, rfl, by rw [gd_mem h0 hz]; exact r _ _⟩
/-- A row is let go. -/
theorem St.rowFreeze {h1 : Gh} (H : St w0 h w (row K B h1 a c xs :: L)) (le : h1.le h) : ∃ h', h.le h' ∧ Sl K B h' a c xs ∧ St w0 h' w L := by
  obtain ⟨h', e1, e2, e3, _⟩ := H.freeze
  refine ⟨h', e1, ?_, e2⟩
  rcases H.get 0 rfl with ⟨_, rfl, rfl⟩ | ⟨g, o, C, e, rfl, hb, f2, f3, f4, f5, r⟩
  · exact Sl.nil _ _ (Nat.zero_le _)
  · exact ⟨f3, f4, trivial, .inr ⟨g, o, C, e, _, rfl, (e3 g ⟨o, none, rfl⟩).trans hb, r.up (le.trans e1)⟩⟩
/-- Something is lent, to be read; it comes back as it was. -/
theorem St.lend {e : Ent} (H : St w0 h w (e :: L)) : ∃ h1, h.le h1 ∧ St w0 h1 w L ∧ (∀ k, e.fp k → h1 k = w.heap[k]?) ∧
    ∀ w' h2 L', h1.le h2 → St w0 h2 w' L' → ∃ h3, h.le h3 ∧ St w0 h3 w' (e :: L') := by
  classical
  obtain ⟨h1, e1, e2, e3, _⟩ := H.freeze
  refine ⟨h1, e1, e2, e3, fun w' h2 L' le H2 => ⟨fun k => if e.fp k then none else h2 k, fun k o hk => ?_, ?_⟩⟩
  · by_cases hf : e.fp k
    · have := (H.fps e (List.mem_cons_self ..) k hf).2.2; rw [hk] at this; cases this
    · simp only [if_neg hf]; exact le _ _ (e1 _ _ hk)
  · have hsome : ∀ k, e.fp k → ∃ o, w.heap[k]? = some o ∧ h2 k = some o := by
      intro k hf
      have hlt := (H.fps e (List.mem_cons_self ..) k hf).2.1
      have hk : w.heap[k]? = some w.heap[k] := Array.getElem?_eq_getElem hlt
      exact ⟨_, hk, le _ _ ((e3 k hf).trans hk)⟩
    refine ⟨H2.old, fun k o hk => ?_, fun x hx => ?_, fun x hx k hk => ?_, ?_⟩
    · by_cases hf : e.fp k
      · simp only [if_pos hf] at hk; cases hk
      · simp only [if_neg hf] at hk; exact H2.ext k o hk
    · rcases List.mem_cons.1 hx with rfl | hx
      · refine x.loc w _ (fun k hf => ?_) (H.get 0 rfl)
        obtain ⟨o, h5, h6⟩ := hsome k hf
        rw [h5, H2.ext k o h6]
      · exact H2.ents x hx
    · rcases List.mem_cons.1 hx with rfl | hx
      · obtain ⟨o, h5, h6⟩ := hsome k hk
        have h7 := H2.ext k o h6
        refine ⟨(H.fps x (List.mem_cons_self ..) k hk).1, getElem?_lt h7, ?_⟩
        simp only [if_pos hk]
      · have := H2.fps x hx k hk
        refine ⟨this.1, this.2.1, ?_⟩
        by_cases hf : e.fp k
        · simp only [if_pos hf]
        · simp only [if_neg hf]; exact this.2.2
    · refine ⟨fun x hx k hf hxk => ?_, H2.apart⟩
      obtain ⟨o, _, h6⟩ := hsome k hf
      have := (H2.fps x hx k hxk).2.2
      rw [h6] at this; cases this
theorem St.rowLend {h1 : Gh} (H : St w0 h w (row K B h1 a c xs :: L)) (le : h1.le h) : ∃ h2, h.le h2 ∧ Sl K B h2 a c xs ∧ St w0 h2 w L ∧
    ∀ w' h3 L', h2.le h3 → St w0 h3 w' L' → ∃ h4, h.le h4 ∧ St w0 h4 w' (row K B h1 a c xs :: L') := by
  obtain ⟨h2, e1, e2, e3, e4⟩ := H.lend
  refine ⟨h2, e1, ?_, e2, e4⟩
  rcases H.get 0 rfl with ⟨_, rfl, rfl⟩ | ⟨g, o, C, e, rfl, hb, f2, f3, f4, f5, r⟩
  · exact Sl.nil _ _ (Nat.zero_le _)
  · exact ⟨f3, f4, trivial, .inr ⟨g, o, C, e, _, rfl, (e3 g ⟨o, none, rfl⟩).trans hb, r.up (le.trans e1)⟩⟩
end

/-! ### Where elements come from -/
/-- What a slice's elements read as, in a world. -/
def Src {α : Type} (K : Rep α) (h : Gh) (w : World) (a : Option Addr) (ys : List α) : Prop :=
  ys = [] ∨ ∃ b o C e fr, a = some ⟨b, o, none⟩ ∧ w.heap[b]? = some (.cells C e fr) ∧ Rows K h C o ys
section
variable {P : Program} {ρ : Env} {w0 w w' : World} {h h' : Gh} {L : List Ent} {o : Oper}
variable {α : Type} {K : Rep α} {B : Nat} {a : Option Addr} {c : Nat} {xs : List α}
theorem Sl.src (hs : Sl K B h a c xs) (H : St w0 h w L) : Src K h w a xs := by
  obtain ⟨_, _, _, h4⟩ := hs
  rcases h4 with h4 | ⟨b, o, C, e, fr, e1, e2, e3⟩
  · exact .inl h4
  · exact .inr ⟨b, o, C, e, fr, e1, H.ext _ _ e2, e3⟩
theorem St.rowSrc (H : St w0 h w L) (i : Nat) {h1 : Gh} (hi : L[i]? = some (row K B h1 a c xs)) (le : h1.le h) : Src K h w a xs := by
  rcases H.get i hi with ⟨_, rfl, _⟩ | ⟨g, o, C, e, e1, hb, e2, e3, e4, e5, r⟩
  · exact .inl rfl
  · exact .inr ⟨g, o, C, e, _, e1, hb, r.up le⟩
theorem Rows.size {C : Array Value} {o : Nat} {ys : List α} (r : Rows K h C o ys) : ys.length * K.sz = 0 ∨ o + ys.length * K.sz ≤ C.size := by
  cases hn : ys.length with
  | zero => left; simp
  | succ n =>
    rcases Nat.eq_zero_or_pos K.sz with hz | hz
    · left; simp [hz]
    · right
      have := K.len (r n (by omega))
      simp only [cut, List.length_take, List.length_drop, Array.length_toList] at this
      rw [Nat.succ_mul]
      omega
/-- The cells of a source, all of them. -/
theorem Src.cells {ys : List α} (s : Src K h w a ys) : ∃ D : List Value, D.length = ys.length * K.sz ∧
    (∀ (P : Program) (l c : Nat) (w' : World), w'.heap = w.heap → (Builtin.firstCells K.sz ys.length (.slice a l c)).run P w' = .ok D.toArray w') ∧ Rows K h D.toArray 0 ys := by
  rcases s with rfl | ⟨b, o, C, e, fr, rfl, hb, r⟩
  · refine ⟨[], by simp, fun P l c w' ew => ?_, fun i hi => by simp at hi⟩
    cases a with
    | none => rfl
    | some ad => simp [Builtin.firstCells, loadCells, loadCellsFrom]
  · have hl : (cut C o (ys.length * K.sz)).length = ys.length * K.sz := by
      simp only [cut, List.length_take, List.length_drop, Array.length_toList]
      rcases r.size with h1 | h1 <;> omega
    refine ⟨_, hl, fun P l c w' ew => ?_, fun i hi => ?_⟩
    · simp only [Builtin.firstCells]
      show Sem.run P (loadCells ⟨b, o, none⟩ (ys.length * K.sz)) w' = _
      unfold loadCells
      rw [run_loadCellsFrom (show w'.heap[b]? = _ by rw [ew]; exact hb) o _ 0 #[] _ (by rw [Nat.add_zero]) hl]
      simp
    · have := r i hi
      refine cast ?_ this
      congr 1
      refine cut_congr fun j hj => ?_
      simp only [cut, List.getElem?_toArray, List.getElem?_take, List.getElem?_drop]
      rw [if_pos]
      · simp [Nat.add_assoc]
      · have : (i + 1) * K.sz ≤ ys.length * K.sz := Nat.mul_le_mul_right _ hi
        rw [Nat.succ_mul] at this
        omega
theorem Rows.app {C D : Array Value} {o p : Nat} {ys : List α} (rx : Rows K h C o xs) (E : Array Value) (q : Nat) (hx : ∀ j, j < xs.length * K.sz → E[q + j]? = C[o + j]?)
    (ry : Rows K h D p ys) (hy : ∀ j, j < ys.length * K.sz → E[q + xs.length * K.sz + j]? = D[p + j]?) : Rows K h E q (xs ++ ys) := by
  intro i hi
  simp only [List.length_append] at hi
  by_cases h1 : i < xs.length
  · have hm : (i + 1) * K.sz ≤ xs.length * K.sz := Nat.mul_le_mul_right _ h1
    rw [Nat.succ_mul] at hm
    have e : cut E (q + i * K.sz) K.sz = cut C (o + i * K.sz) K.sz := cut_congr fun j hj => by rw [Nat.add_assoc, hx _ (by omega), ← Nat.add_assoc]
    rw [e, List.getElem_append_left h1]; exact rx i h1
  · have hm : (i - xs.length + 1) * K.sz ≤ ys.length * K.sz := Nat.mul_le_mul_right _ (by omega)
    rw [Nat.succ_mul] at hm
    have hi2 : i * K.sz = xs.length * K.sz + (i - xs.length) * K.sz := by rw [← Nat.add_mul]; congr 1; omega
    have e : cut E (q + i * K.sz) K.sz = cut D (p + (i - xs.length) * K.sz) K.sz := cut_congr fun j hj => by rw [hi2, show q + (xs.length * K.sz + (i - xs.length) * K.sz) + j = q + xs.length * K.sz + ((i - xs.length) * K.sz + j) by omega, hy _ (by omega), ← Nat.add_assoc]
    rw [e, List.getElem_append_right (by omega)]; exact ry _ (by omega)
theorem Rows.cellsOk {C : Array Value} {o : Nat} {ys : List α} (r : Rows K h C o ys) (hc : ∀ {h cs x}, K.rel h cs x → cs.all isCell = true) : (cut C o (ys.length * K.sz)).all isCell = true := by
  rw [List.all_eq_true]
  intro v hv
  obtain ⟨k, hk, rfl⟩ := List.getElem_of_mem hv
  have hk' : k < ys.length * K.sz := by simp only [cut, List.length_take] at hk; omega
  have hz : 0 < K.sz := by rcases Nat.eq_zero_or_pos K.sz with h0 | h0; · rw [h0] at hk'; simp at hk'
                           · exact h0
  have hi : k / K.sz < ys.length := Nat.div_lt_of_lt_mul (by rw [Nat.mul_comm]; exact hk')
  have h1 := hc (r (k / K.sz) hi)
  rw [List.all_eq_true] at h1
  refine h1 _ ?_
  have hmod := Nat.div_add_mod k K.sz
  have hlt := Nat.mod_lt k hz
  rw [List.mem_iff_getElem?]
  refine ⟨k % K.sz, ?_⟩
  rw [← List.getElem?_eq_getElem hk]
  simp only [cut, List.getElem?_take, List.getElem?_drop, if_pos hlt, if_pos hk']
  congr 1
  rw [Nat.mul_comm] at hmod
  omega
end
end Go.Proofs.Ytcoepljalekglaa.G2
