/- Lemmas for the walk: part R. -/
import Derived.Test.YtcoepljalekglaaG2Q
set_option linter.unusedSimpArgs false
set_option linter.unusedVariables false
set_option linter.all false
/-! Rows of one's own whose last element leads to a row of one's own. -/
namespace Go.Proofs.Ytcoepljalekglaa.G2
open Go.RowKit

section
variable {P : Program} {w0 w w' : World} {h h' h1 : Gh} {L : List Ent}
variable {α β : Type} {KH : Rep (α × Option Addr × Nat)} {K : Rep α} {Kb : Rep β} {B Bb : Nat} {nest : α → List β} {a la : Option Addr} {c lc : Nat} {xs : List α} {hs : List (α × Option Addr × Nat)} {cl : List β}

/-- What the heads of a row tell: all but the last lead to what is only read. -/
def Heads (Kb : Rep β) (Bb : Nat) (nest : α → List β) (h : Gh) (hs : List (α × Option Addr × Nat)) (la : Option Addr) (lc : Nat) (cl : List β) : Prop :=
  (∀ i (hi : i + 1 < hs.length), Sl Kb Bb h hs[i].2.1 hs[i].2.2 (nest hs[i].1)) ∧ ((hs = [] ∧ cl = []) ∨ ∃ init x, hs = init ++ [(x, la, lc)] ∧ nest x = cl)
theorem Heads.up (H : Heads Kb Bb nest h hs la lc cl) (le : h.le h') : Heads Kb Bb nest h' hs la lc cl := ⟨fun i hi => (H.1 i hi).up le, H.2⟩

def drow (KH : Rep (α × Option Addr × Nat)) (Kb : Rep β) (B Bb : Nat) (nest : α → List β) (h : Gh) (a : Option Addr) (c : Nat) (la : Option Addr) (xs : List α) : Ent where
  fp k := (row KH B h a c []).fp k ∨ (row Kb Bb h la 0 []).fp k
  holds w := ∃ hs lc cl, hs.map (·.1) = xs ∧ (row KH B h a c hs).holds w ∧ (row Kb Bb h la lc cl).holds w ∧ Heads Kb Bb nest h hs la lc cl ∧ ∀ k, (row KH B h a c []).fp k → ¬ (row Kb Bb h la 0 []).fp k
  loc w w' hh := by
    rintro ⟨hs, lc, cl, e, h1, h2, h3, h4⟩
    exact ⟨hs, lc, cl, e, (row KH B h a c hs).loc w w' (fun k hk => hh k (.inl hk)) h1, (row Kb Bb h la lc cl).loc w w' (fun k hk => hh k (.inr hk)) h2, h3, h4⟩

theorem St.unpack (H : St w0 h w (drow KH Kb B Bb nest h1 a c la xs :: L)) : ∃ hs lc cl, hs.map (·.1) = xs ∧ Heads Kb Bb nest h1 hs la lc cl ∧ St w0 h w (row KH B h1 a c hs :: row Kb Bb h1 la lc cl :: L) := by
  obtain ⟨hs, lc, cl, e, r1, r2, hd, hap⟩ := H.get 0 rfl
  refine ⟨hs, lc, cl, e, hd, H.old, H.ext, fun x hx => ?_, fun x hx k hk => ?_, ?_⟩
  · rcases List.mem_cons.1 hx with rfl | hx
    · exact r1
    · rcases List.mem_cons.1 hx with rfl | hx
      · exact r2
      · exact H.ents x (List.mem_cons_of_mem _ hx)
  · rcases List.mem_cons.1 hx with rfl | hx
    · exact H.fps _ (List.mem_cons_self ..) k (.inl hk)
    · rcases List.mem_cons.1 hx with rfl | hx
      · exact H.fps _ (List.mem_cons_self ..) k (.inr hk)
      · exact H.fps x (List.mem_cons_of_mem _ hx) k hk
  · have ha := H.apart
    refine ⟨fun x hx k hk => ?_, fun x hx k hk => ha.1 x hx k (.inr hk), ha.2⟩
    rcases List.mem_cons.1 hx with rfl | hx
    · exact hap k hk
    · exact ha.1 x hx k (.inl hk)
theorem St.pack (H : St w0 h w (row KH B h1 a c hs :: row Kb Bb h1 la lc cl :: L)) (hd : Heads Kb Bb nest h1 hs la lc cl) (e : hs.map (·.1) = xs) : St w0 h w (drow KH Kb B Bb nest h1 a c la xs :: L) := by
  have ha := H.apart
  refine ⟨H.old, H.ext, fun x hx => ?_, fun x hx k hk => ?_, fun x hx k hk => ?_, ha.2.2⟩
  · rcases List.mem_cons.1 hx with rfl | hx
    · exact ⟨hs, lc, cl, e, H.get 0 rfl, H.get 1 rfl, hd, fun k hk => ha.1 _ (List.mem_cons_self ..) k hk⟩
    · exact H.ents x (List.mem_cons_of_mem _ (List.mem_cons_of_mem _ hx))
  · rcases List.mem_cons.1 hx with rfl | hx
    · rcases hk with hk | hk
      · exact H.fps _ (List.mem_cons_self ..) k hk
      · exact H.fps (row Kb Bb h1 la lc cl) (List.mem_cons_of_mem _ (List.mem_cons_self ..)) k hk
    · exact H.fps x (List.mem_cons_of_mem _ (List.mem_cons_of_mem _ hx)) k hk
  · rcases hk with hk | hk
    · exact ha.1 x (List.mem_cons_of_mem _ hx) k hk
    · exact ha.2.1 x hx k hk

/-- The heads' row reads as the elements' row, once what they lead to is only read. -/
theorem Sl.heads (s : Sl KH B h a c hs) (hz : K.sz = KH.sz) (hK : ∀ cs x, KH.rel h cs x → Sl Kb Bb h x.2.1 x.2.2 (nest x.1) → K.rel h cs x.1) (hsl : ∀ x ∈ hs, Sl Kb Bb h x.2.1 x.2.2 (nest x.1)) : Sl K B h a c (hs.map (·.1)) := by
  obtain ⟨s1, s2, _, s4⟩ := s
  refine ⟨by simpa using s1, s2, trivial, ?_⟩
  rcases s4 with rfl | ⟨b, o, C, e, fr, e1, e2, r⟩
  · left; rfl
  · right
    refine ⟨b, o, C, e, fr, e1, e2, fun i hi => ?_⟩
    have hi' : i < hs.length := by simpa using hi
    rw [hz, List.getElem_map]
    exact hK _ _ (r i hi') (hsl _ (List.getElem_mem hi'))
theorem Heads.all (hd : Heads Kb Bb nest h hs la lc cl) (hl : Sl Kb Bb h la lc cl) : ∀ x ∈ hs, Sl Kb Bb h x.2.1 x.2.2 (nest x.1) := by
  intro x hx
  obtain ⟨i, hi, rfl⟩ := List.getElem_of_mem hx
  rcases hd.2 with ⟨rfl, _⟩ | ⟨init, y, rfl, hy⟩
  · simp at hi
  · by_cases hlt : i + 1 < (init ++ [(y, la, lc)]).length
    · exact hd.1 i hlt
    · have : i = init.length := by simp at hi hlt; omega
      subst this
      simp only [List.getElem_append_right (Nat.le_refl _), Nat.sub_self, List.getElem_cons_zero]
      rw [hy]; exact hl
/-- All of it is let go. -/
theorem St.dFreeze (H : St w0 h w (drow KH Kb B Bb nest h1 a c la xs :: L)) (le : h1.le h) (hz : K.sz = KH.sz) (hK : ∀ h cs x, KH.rel h cs x → Sl Kb Bb h x.2.1 x.2.2 (nest x.1) → K.rel h cs x.1) :
    ∃ h', h.le h' ∧ Sl K B h' a c xs ∧ St w0 h' w L := by
  obtain ⟨hs, lc, cl, e, hd, H2⟩ := H.unpack
  obtain ⟨h2, le2, s2, H3⟩ := H2.rowFreeze le
  obtain ⟨h3, le3, s3, H4⟩ := H3.rowFreeze (le.trans le2)
  refine ⟨h3, le2.trans le3, ?_, H4⟩
  rw [← e]
  exact (s2.up le3).heads hz (hK h3) ((hd.up (le.trans (le2.trans le3))).all s3)

theorem drow_up (le : h.le h') (hh : (drow KH Kb B Bb nest h a c la xs).holds w) : (drow KH Kb B Bb nest h' a c la xs).holds w := by
  obtain ⟨hs, lc, cl, e, r1, r2, hd, hap⟩ := hh
  exact ⟨hs, lc, cl, e, row_up le r1, row_up le r2, hd.up le, hap⟩
theorem St.dUp (H : St w0 h w L) (i : Nat) (hi : L[i]? = some (drow KH Kb B Bb nest h1 a c la xs)) (le : h1.le h') : St w0 h w (L.set i (drow KH Kb B Bb nest h' a c la xs)) :=
  H.retell i hi (fun _ hk => hk) (drow_up le (H.get i hi))
/-- A row that is empty. -/
theorem St.dNil (H : St w0 h w (row K B h1 a c [] :: L)) (KH : Rep (α × Option Addr × Nat)) (hz : K.sz = KH.sz) (Kb : Rep β) (Bb : Nat) (nest : α → List β) : St w0 h w (drow KH Kb B Bb nest h1 a c none [] :: L) := by
  have H2 : St w0 h w (row KH B h1 a c [] :: L) := H.retell 0 rfl (fun _ hk => hk) (by
    rcases H.get 0 rfl with h0 | ⟨g, o, C, e, e1, hb, e2, e3, e4, e5, r⟩
    · exact .inl ⟨h0.1, rfl, h0.2.2⟩
    · exact .inr ⟨g, o, C, e, e1, hb, by rw [← hz]; exact e2, by simp, e4, by simp, fun i hi => by simp at hi⟩)
  have H3 := H2.rowNil Kb Bb
  have H4 : St w0 h w (row KH B h1 a c [] :: row Kb Bb h none 0 [] :: L) := H3.front 1 rfl
  have H5 : St w0 h w (row KH B h1 a c [] :: row Kb Bb h1 none 0 [] :: L) := H4.retell 1 rfl (fun _ hk => hk) (.inl ⟨rfl, rfl, rfl⟩)
  exact H5.pack (hs := []) ⟨fun i hi => by simp at hi, .inl ⟨rfl, rfl⟩⟩ rfl
theorem gd_map [Inhabited α] {f : β → α} [Inhabited β] {l : List β} {z : Int} (h0 : 0 ≤ z) (hz : z < (l.map f).length) : gd (l.map f) z = f (gd l z) := by
  have hz' : z < l.length := by simpa using hz
  rw [gd_mem h0 hz, gd_mem h0 hz', List.getElem_map]
theorem St.dSome (H : St w0 h w L) (i : Nat) (hi : L[i]? = some (drow KH Kb B Bb nest h1 a c la xs)) {z : Int} (h0 : 0 ≤ z) (hz : z < xs.length) : ∃ b o, a = some ⟨b, o, none⟩ := by
  obtain ⟨hs, lc, cl, e, r1, r2, hd, hap⟩ := H.get i hi
  rcases r1 with ⟨_, rfl, _⟩ | ⟨g, o, C, e', e1, _⟩
  · subst e; simp at hz; omega
  · exact ⟨g, o, e1⟩
/-- An element's cells, by its head. -/
theorem St.dAt [Inhabited α] {b o : Nat} (H : St w0 h w L) (i : Nat) (hi : L[i]? = some (drow KH Kb B Bb nest h1 (some ⟨b, o, none⟩) c la xs)) {z : Int} (h0 : 0 ≤ z) (hz : z < xs.length) :
    ∃ C e cs, w.heap[b]? = some (.cells C e (0, 0)) ∧ cut C (o + z.toNat * KH.sz) KH.sz = cs ∧ ∃ ca cc, KH.rel h1 cs (gd xs z, ca, cc) := by
  obtain ⟨hs, lc, cl, e, r1, r2, hd, hap⟩ := H.get i hi
  rcases r1 with ⟨_, rfl, _⟩ | ⟨g, o', C, e', e1, hb, e2, e3, e4, e5, r⟩
  · subst e; simp at hz; omega
  · simp only [Option.some.injEq, Addr.mk.injEq] at e1
    obtain ⟨rfl, rfl, _⟩ := e1
    subst e
    have hz' : z < hs.length := by simpa using hz
    have hr := r z.toNat (by omega)
    refine ⟨C, e', _, hb, rfl, hs[z.toNat].2.1, hs[z.toNat].2.2, ?_⟩
    rw [gd_mem h0 hz, List.getElem_map]
    exact hr
/-- At its last element: both rows. -/
theorem St.dLast [Inhabited α] (H : St w0 h w (drow KH Kb B Bb nest h1 a c la xs :: L)) {z : Int} (h0 : 0 ≤ z) (hz : z + 1 = xs.length) :
    ∃ (init : List (α × Option Addr × Nat)) (lc : Nat), (∃ x, xs = init.map (·.1) ++ [x]) ∧ (∀ i (hi : i < init.length), Sl Kb Bb h1 init[i].2.1 init[i].2.2 (nest init[i].1)) ∧ init.length = z.toNat ∧
      St w0 h w (row KH B h1 a c (init ++ [(gd xs z, la, lc)]) :: row Kb Bb h1 la lc (nest (gd xs z)) :: L) := by
  obtain ⟨hs, lc, cl, e, hd, H2⟩ := H.unpack
  rcases hd.2 with ⟨rfl, _⟩ | ⟨init, x, rfl, hy⟩
  · subst e; simp at hz; omega
  · subst e
    have hl : init.length = z.toNat := by simp at hz; omega
    have hg : gd ((init ++ [(x, la, lc)]).map (·.1)) z = x := by
      rw [gd_mem h0 (by omega)]
      simp [List.getElem_append_right, ← hl]
    refine ⟨init, lc, ⟨x, by simp⟩, fun i hi => ?_, hl, ?_⟩
    · have := hd.1 i (by simp; omega)
      rw [List.getElem_append_left hi] at this
      exact this
    · rw [hg, hy]; exact H2
/-- The last element is told anew. -/
theorem St.dLay {init : List (α × Option Addr × Nat)} {x y : α} {la2 : Option Addr} {lc2 : Nat} {z : Int} (H : St w0 h w (row KH B h1 a c ((init ++ [(x, la, lc)]).set z.toNat (y, la2, lc2)) :: row Kb Bb h1 la2 lc2 (nest y) :: L))
    (hx : ∃ x, xs = init.map (·.1) ++ [x]) (hi : ∀ i (hi : i < init.length), Sl Kb Bb h1 init[i].2.1 init[i].2.2 (nest init[i].1)) (hl : init.length = z.toNat) : St w0 h w (drow KH Kb B Bb nest h1 a c la2 (xs.set z.toNat y) :: L) := by
  have e : (init ++ [(x, la, lc)]).set z.toNat (y, la2, lc2) = init ++ [(y, la2, lc2)] := by rw [← hl, List.set_append_right _ _ (Nat.le_refl _)]; simp
  rw [e] at H
  refine H.pack ⟨fun i hi' => ?_, .inr ⟨init, y, rfl, rfl⟩⟩ ?_
  · have hlt : i < init.length := by simp at hi'; omega
    rw [List.getElem_append_left hlt]; exact hi i hlt
  · obtain ⟨x', rfl⟩ := hx
    rw [← hl, show init.length = (init.map (·.1)).length by simp, List.set_append_right _ _ (Nat.le_refl _)]
    simp
theorem St.dLen (H : St w0 h w L) (i : Nat) (hi : L[i]? = some (drow KH Kb B Bb nest h1 a c la xs)) : xs.length ≤ maxLen := by
  obtain ⟨hs, lc, cl, e, r1, _⟩ := H.get i hi
  rw [← e, List.length_map]
  rcases r1 with ⟨_, rfl, _⟩ | ⟨_, _, _, _, _, _, _, e3, e4, _⟩
  · exact Nat.zero_le _
  · exact Nat.le_trans e3 e4
theorem last_at {n : Nat} (hn : n ≤ maxLen) (h0 : 0 ≤ w64 ((n : Int) - 1)) (h1 : w64 ((n : Int) - 1) < n) : w64 ((n : Int) - 1) + 1 = n := by
  unfold w64 at *
  rw [IntKind.wrap_i64] at *
  unfold maxLen at hn
  omega
theorem gd_last {α : Type} [Inhabited α] {init : List α} {x : α} {z : Int} (hl : init.length = z.toNat) (h0 : 0 ≤ z) : gd (init ++ [x]) z = x := by
  rw [gd_mem h0 (by simp; omega)]
  simp [List.getElem_append_right, ← hl]
theorem Heads.snoc (hall : ∀ x ∈ hs, Sl Kb Bb h x.2.1 x.2.2 (nest x.1)) (x : α) (la : Option Addr) (lc : Nat) : Heads Kb Bb nest h (hs ++ [(x, la, lc)]) la lc (nest x) := by
  refine ⟨fun i hi => ?_, .inr ⟨hs, x, rfl, rfl⟩⟩
  have hlt : i < hs.length := by simp at hi; omega
  rw [List.getElem_append_left hlt]
  exact hall _ (List.getElem_mem hlt)
theorem row_sl {γ : Type} {Kg : Rep γ} {zs : List γ} (hh : (row Kg B h1 a c zs).holds w) (le : h1.le h) (hf : ∀ k, (row Kg B h1 a c zs).fp k → h k = w.heap[k]?) : Sl Kg B h a c zs := by
  rcases hh with ⟨_, rfl, rfl⟩ | ⟨g, o, C, e, rfl, hb, f2, f3, f4, f5, r⟩
  · exact Sl.nil _ _ (Nat.zero_le _)
  · exact ⟨f3, f4, trivial, .inr ⟨g, o, C, e, _, rfl, (hf g ⟨o, none, rfl⟩).trans hb, r.up le⟩⟩
theorem St.dLendX (H : St w0 h w (drow KH Kb B Bb nest h1 a c la xs :: L)) (le : h1.le h) (hz : K.sz = KH.sz) (hK : ∀ h cs x, KH.rel h cs x → Sl Kb Bb h x.2.1 x.2.2 (nest x.1) → K.rel h cs x.1) :
    ∃ h2, h.le h2 ∧ Sl K B h2 a c xs ∧ St w0 h2 w L ∧ ∀ w', St w0 h2 w' L → St w0 h w' (drow KH Kb B Bb nest h1 a c la xs :: L) := by
  obtain ⟨h2, e1, e2, e3, e4⟩ := H.lendX
  obtain ⟨hs, lc, cl, e, r1, r2, hd, hap⟩ := H.get 0 rfl
  refine ⟨h2, e1, ?_, e2, e4⟩
  have s1 : Sl KH B h2 a c hs := row_sl r1 (le.trans e1) fun k hk => e3 k (.inl hk)
  have s2 : Sl Kb Bb h2 la lc cl := row_sl r2 (le.trans e1) fun k hk => e3 k (.inr hk)
  rw [← e]
  exact s1.heads hz (hK h2) ((hd.up (le.trans e1)).all s2)
end
end Go.Proofs.Ytcoepljalekglaa.G2
