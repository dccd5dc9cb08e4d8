/- Lemmas for the walk: part C. -/
import Derived.Test.YtcoepljalekglaaG2B
set_option linter.unusedSimpArgs false
set_option linter.unusedVariables false
set_option linter.all false
/-! Memory: a ghost heap of what is only read, and a list of what is owned. -/
namespace Go.Proofs.Ytcoepljalekglaa.G2
open Go.RowKit

abbrev Gh := Nat → Option Obj
def Gh.le (h h' : Gh) : Prop := ∀ k o, h k = some o → h' k = some o
theorem Gh.refl (h : Gh) : h.le h := fun _ _ e => e
theorem Gh.le.trans {a b c : Gh} (h : a.le b) (k : b.le c) : a.le c := fun i o e => k i o (h i o e)

structure Ent where
  fp : Nat → Prop
  holds : World → Prop
  loc : ∀ w w', (∀ k, fp k → w'.heap[k]? = w.heap[k]?) → holds w → holds w'

/-- A block of one's own. -/
def blk (b : Nat) (o : Obj) : Ent := ⟨(· = b), fun w => w.heap[b]? = some o, fun _ _ h e => (h b rfl).trans e⟩
/-- A variable of one's own: its cells. -/
abbrev var (b : Nat) (cs : List Value) (t : TypeId) : Ent := blk b (.cells cs.toArray t (0, 0))

def Apart : List Ent → Prop
  | [] => True
  | e :: L => (∀ a ∈ L, ∀ k, e.fp k → ¬ a.fp k) ∧ Apart L

structure St (w0 : World) (h : Gh) (w : World) (L : List Ent) : Prop where
  old : Below w0.heap.size w0 w
  ext : ∀ k o, h k = some o → w.heap[k]? = some o
  ents : ∀ e ∈ L, e.holds w
  fps : ∀ e ∈ L, ∀ k, e.fp k → w0.heap.size ≤ k ∧ k < w.heap.size ∧ h k = none
  apart : Apart L

theorem getElem?_lt {α : Type} {a : Array α} {k : Nat} {o : α} (h : a[k]? = some o) : k < a.size := by
  obtain ⟨hk, _⟩ := Array.getElem?_eq_some_iff.1 h; exact hk

section
variable {w0 w w' : World} {h h' : Gh} {L : List Ent}

theorem St.dom (H : St w0 h w L) {k : Nat} (hk : w.heap.size ≤ k) : h k = none := by
  cases e : h k with
  | none => rfl
  | some o => have := getElem?_lt (H.ext k o e); omega

theorem St.drew (H : St w0 h w L) : St w0 h w.drew L := ⟨H.old.drew, H.ext, fun e he => e.loc w _ (fun _ _ => rfl) (H.ents e he), H.fps, H.apart⟩

theorem St.same (H : St w0 h w L) (e1 : w'.heap = w.heap) (e2 : w'.os = w.os) (e3 : w'.tape = w.tape) (e4 : w'.output = w.output) : St w0 h w' L :=
  ⟨H.old.trans ⟨e2, e3, e4, by rw [e1]; exact Nat.le_refl _, fun k _ => by rw [e1]⟩, fun k o hk => by rw [e1]; exact H.ext k o hk, fun e he => e.loc w _ (fun _ _ => by rw [e1]) (H.ents e he), fun e he k hk => by rw [e1]; exact H.fps e he k hk, H.apart⟩

theorem St.get (H : St w0 h w L) (i : Nat) {e : Ent} (hi : L[i]? = some e) : e.holds w := H.ents e (List.mem_of_getElem? hi)

theorem St.alloc (H : St w0 h w L) (o : Obj) : St w0 h (w.alloc o) (blk w.heap.size o :: L) := by
  refine ⟨H.old.alloc H.old.size o, fun k x hk => ?_, fun e he => ?_, fun e he k hk => ?_, fun a ha k hk => ?_, H.apart⟩
  · have := H.ext k x hk
    rw [Below.heap_alloc _ _ _ (getElem?_lt this)]; exact this
  · rcases List.mem_cons.1 he with rfl | he
    · show (w.heap.push o)[w.heap.size]? = some o
      simp
    · exact e.loc _ _ (fun k hk => Below.heap_alloc _ _ _ (H.fps e he k hk).2.1) (H.ents e he)
  · rcases List.mem_cons.1 he with rfl | he
    · have hk : k = w.heap.size := hk
      subst hk
      exact ⟨H.old.size, by simp, H.dom (Nat.le_refl _)⟩
    · have := H.fps e he k hk
      exact ⟨this.1, by simp; omega, this.2.2⟩
  · have hk : k = w.heap.size := hk
    intro hf
    have := (H.fps a ha k hf).2.1
    omega

theorem apart_set {e e' : Ent} : ∀ {L : List Ent} {i : Nat}, Apart L → L[i]? = some e → (∀ k, e'.fp k → e.fp k ∨ ∀ a ∈ L, ¬ a.fp k) → Apart (L.set i e')
  | [], i, _, hi, _ => by simp at hi
  | a :: L, 0, hA, hi, hf => by
    simp only [List.getElem?_cons_zero, Option.some.injEq] at hi
    subst hi
    refine ⟨fun b hb k hk => ?_, hA.2⟩
    rcases hf k hk with h1 | h1
    · exact hA.1 b hb k h1
    · exact h1 b (List.mem_cons_of_mem _ hb)
  | a :: L, i + 1, hA, hi, hf => by
    simp only [List.getElem?_cons_succ] at hi
    refine ⟨fun b hb k hk hbk => ?_, apart_set hA.2 hi fun k hk => (hf k hk).imp id fun h1 a ha => h1 a (List.mem_cons_of_mem _ ha)⟩
    rcases List.mem_or_eq_of_mem_set hb with hb | rfl
    · exact hA.1 b hb k hk hbk
    · rcases hf k hbk with h1 | h1
      · exact hA.1 e (List.mem_of_getElem? hi) k hk h1
      · exact h1 a (List.mem_cons_self ..) hk

/-- One of the things owned is turned into another. -/
theorem St.step (H : St w0 h w L) (i : Nat) {e e' : Ent} (hi : L[i]? = some e) (hos : w'.os = w.os) (htape : w'.tape = w.tape) (hout : w'.output = w.output) (hsize : w.heap.size ≤ w'.heap.size)
    (hsame : ∀ k, k < w.heap.size → ¬ e.fp k → w'.heap[k]? = w.heap[k]?) (he : e'.holds w') (hfp : ∀ k, e'.fp k → (e.fp k ∨ w.heap.size ≤ k) ∧ k < w'.heap.size) : St w0 h w' (L.set i e') := by
  have hmem := List.mem_of_getElem? hi
  have hne : ∀ a ∈ L.set i e', a = e' ∨ (a ∈ L ∧ ∀ k, a.fp k → ¬ e.fp k) := by
    intro a ha
    obtain ⟨j, hj, hja⟩ := List.getElem_of_mem ha
    simp only [List.getElem_set] at hja
    by_cases hij : i = j
    · rw [if_pos hij] at hja; exact .inl hja.symm
    · rw [if_neg hij] at hja
      have hjl : j < L.length := by simpa using hj
      refine .inr ⟨hja ▸ List.getElem_mem hjl, fun k hk hek => ?_⟩
      have key : ∀ (L : List Ent) (i j : Nat) (a e : Ent), Apart L → L[i]? = some e → L[j]? = some a → i ≠ j → ∀ k, a.fp k → ¬ e.fp k := by
        intro L
        induction L with
        | nil => intro i j a e _ hi; simp at hi
        | cons x L ih =>
          intro i j a e hA hi hj hij k hak hek
          cases i with
          | zero =>
            cases j with
            | zero => exact hij rfl
            | succ j =>
              simp only [List.getElem?_cons_zero, Option.some.injEq, List.getElem?_cons_succ] at hi hj
              subst hi
              exact hA.1 a (List.mem_of_getElem? hj) k hek hak
          | succ i =>
            cases j with
            | zero =>
              simp only [List.getElem?_cons_zero, Option.some.injEq, List.getElem?_cons_succ] at hi hj
              subst hj
              exact hA.1 e (List.mem_of_getElem? hi) k hak hek
            | succ j =>
              simp only [List.getElem?_cons_succ] at hi hj
              exact ih i j a e hA.2 hi hj (fun h => hij (by rw [h])) k hak hek
      exact key L i j a e H.apart hi (by rw [List.getElem?_eq_getElem hjl, hja]) hij k hk hek
  refine ⟨H.old.trans ⟨hos, htape, hout, hsize, fun k hk => hsame k (Nat.lt_of_lt_of_le hk H.old.size) fun hf => ?_⟩, fun k o hk => ?_, fun a ha => ?_, fun a ha k hk => ?_, apart_set H.apart hi fun k hk => ?_⟩
  · have := (H.fps e hmem k hf).1; omega
  · have hx := H.ext k o hk
    rw [hsame k (getElem?_lt hx) (fun hf => by have := (H.fps e hmem k hf).2.2; rw [hk] at this; cases this)]; exact hx
  · rcases hne a ha with rfl | ⟨ha, hd⟩
    · exact he
    · exact a.loc _ _ (fun k hk => hsame k (H.fps a ha k hk).2.1 (hd k hk)) (H.ents a ha)
  · rcases hne a ha with rfl | ⟨ha, hd⟩
    · obtain ⟨h1 | h1, h2⟩ := hfp k hk
      · have := H.fps e hmem k h1; exact ⟨this.1, h2, this.2.2⟩
      · exact ⟨Nat.le_trans H.old.size h1, h2, H.dom h1⟩
    · have := H.fps a ha k hk; exact ⟨this.1, Nat.lt_of_lt_of_le this.2.1 hsize, this.2.2⟩
  · obtain ⟨h1 | h1, _⟩ := hfp k hk
    · exact .inl h1
    · exact .inr fun a ha hf => by have := (H.fps a ha k hf).2.1; omega

theorem apart_sub : ∀ {L L' : List Ent}, L'.Sublist L → Apart L → Apart L'
  | _, _, .slnil, _ => trivial
  | _, _, .cons _ s, hA => apart_sub s hA.2
  | _, _, .cons_cons _ s, hA => ⟨fun a ha => hA.1 a (s.subset ha), apart_sub s hA.2⟩
theorem St.sub (H : St w0 h w L) {L' : List Ent} (s : L'.Sublist L) : St w0 h w L' :=
  ⟨H.old, H.ext, fun e he => H.ents e (s.subset he), fun e he => H.fps e (s.subset he), apart_sub s H.apart⟩
theorem St.tail {e : Ent} (H : St w0 h w (e :: L)) : St w0 h w L := H.sub (.cons _ (List.Sublist.refl _))
theorem St.keep (H : St w0 h w L) (n : Nat) : St w0 h w (L.drop n) := H.sub (List.drop_sublist _ _)

/-- What is owned is let go: from now on it is only read. -/
theorem St.freeze {e : Ent} (H : St w0 h w (e :: L)) : ∃ h', h.le h' ∧ St w0 h' w L ∧ (∀ k, e.fp k → h' k = w.heap[k]?) ∧ (∀ k, ¬ e.fp k → h' k = h k) := by
  classical
  refine ⟨fun k => if e.fp k then w.heap[k]? else h k, fun k o hk => ?_, ⟨H.old, fun k o hk => ?_, fun a ha => H.ents a (List.mem_cons_of_mem _ ha), fun a ha k hk => ?_, H.apart.2⟩, fun k hk => if_pos hk, fun k hk => if_neg hk⟩
  · by_cases hf : e.fp k
    · have := (H.fps e (List.mem_cons_self ..) k hf).2.2; rw [hk] at this; cases this
    · simp only [if_neg hf]; exact hk
  · by_cases hf : e.fp k
    · simp only [if_pos hf] at hk; exact hk
    · simp only [if_neg hf] at hk; exact H.ext k o hk
  · have := H.fps a (List.mem_cons_of_mem _ ha) k hk
    refine ⟨this.1, this.2.1, ?_⟩
    rw [if_neg (fun hf => H.apart.1 a ha k hf hk)]; exact this.2.2
theorem St.freezeV {b : Nat} {o : Obj} (H : St w0 h w (blk b o :: L)) : ∃ h', h.le h' ∧ St w0 h' w L ∧ h' b = some o := by
  obtain ⟨h', h1, h2, h3, _⟩ := H.freeze
  exact ⟨h', h1, h2, (h3 b rfl).trans (H.get 0 rfl)⟩

theorem apart_swap {L1 L2 : List Ent} (p : L1.Perm L2) : Apart L1 → Apart L2 := by
  induction p with
  | nil => exact id
  | cons x p ih => exact fun hA => ⟨fun a ha => hA.1 a (p.mem_iff.2 ha), ih hA.2⟩
  | swap x y l =>
    intro hA
    refine ⟨fun a ha k hk hak => ?_, fun a ha => hA.1 a (List.mem_cons_of_mem _ ha), hA.2.2⟩
    rcases List.mem_cons.1 ha with rfl | ha
    · exact hA.1 x (List.mem_cons_self ..) k hak hk
    · exact hA.2.1 a ha k hk hak
  | trans _ _ ih1 ih2 => exact fun hA => ih2 (ih1 hA)
theorem St.perm (H : St w0 h w L) {L' : List Ent} (p : L.Perm L') : St w0 h w L' :=
  ⟨H.old, H.ext, fun e he => H.ents e (p.mem_iff.2 he), fun e he => H.fps e (p.mem_iff.2 he), apart_swap p H.apart⟩
/-- The one at place i goes to the head. -/
theorem perm_front (L : List Ent) (i : Nat) (e : Ent) (hi : L[i]? = some e) : L.Perm (e :: L.eraseIdx i) := by
  induction L generalizing i with
  | nil => simp at hi
  | cons a L ih =>
    cases i with
    | zero => simp at hi; subst hi; exact List.Perm.refl _
    | succ i => simp at hi ⊢; exact (List.Perm.cons a (ih i hi)).trans (List.Perm.swap ..)
theorem St.front (H : St w0 h w L) (i : Nat) {e : Ent} (hi : L[i]? = some e) : St w0 h w (e :: L.eraseIdx i) := H.perm (perm_front L i e hi)
theorem St.root (w : World) : St w (fun k => w.heap[k]?) w [] := ⟨Below.refl _ _, fun _ _ e => e, by simp, by simp, trivial⟩
end

/-! ### Reading -/
def cut (C : Array Value) (p n : Nat) : List Value := (C.toList.drop p).take n
theorem cut_get {C : Array Value} {p n j : Nat} {cs : List Value} (h : cut C p n = cs) (hj : j < n) : C[p + j]? = cs[j]? := by
  subst h
  simp [cut, hj, List.getElem?_drop]
theorem cut_sub {C : Array Value} {p n j m : Nat} {cs : List Value} (h : cut C p n = cs) (hj : j + m ≤ n) : cut C (p + j) m = (cs.drop j).take m := by
  subst h
  simp only [cut, List.drop_take, List.drop_drop, List.take_take]
  congr 1
  omega

theorem add_plain (b o n : Nat) : (⟨b, o, none⟩ : Addr).add n = ⟨b, o + n, none⟩ := by unfold Addr.add; split <;> simp_all
theorem cell_of {w : World} {b : Nat} {C : Array Value} {t : TypeId} {fr : Nat × Nat} (hb : w.heap[b]? = some (.cells C t fr)) (o : Nat) : w.cell? ⟨b, o, none⟩ = C[o]? := by
  simp [World.cell?, hb]

theorem run_load_of {P : Program} {w : World} {a : Addr} {v : Value} (h : w.cell? a = some v) : (load a).run P w = .ok v w := by
  show Sem.run P (Sem.load .plain a Sem.pure) w = _
  simp [Sem.run, h]

theorem run_loadCellsFrom {P : Program} {w : World} {b : Nat} {C : Array Value} {t : TypeId} {fr : Nat × Nat} (hb : w.heap[b]? = some (.cells C t fr)) (p : Nat) :
    ∀ (n i : Nat) (acc : Array Value) (cs : List Value), cut C (p + i) n = cs → cs.length = n → (loadCellsFrom ⟨b, p, none⟩ i n acc).run P w = .ok (acc ++ cs.toArray) w := by
  intro n
  induction n with
  | zero => intro i acc cs _ hl; obtain rfl : cs = [] := List.eq_nil_of_length_eq_zero hl; simp [loadCellsFrom]
  | succ n ih =>
    intro i acc cs hc hl
    cases cs with
    | nil => simp at hl
    | cons v cs =>
      have h0 := cut_get hc (Nat.succ_pos n)
      simp only [Nat.add_zero, List.getElem?_cons_zero] at h0
      have h1 : cut C (p + (i + 1)) n = cs := by
        have := cut_sub (j := 1) (m := n) hc (by omega)
        rw [← Nat.add_assoc, this]
        simp only [List.drop_succ_cons, List.drop_zero]
        simp only [List.length_cons, Nat.add_right_cancel_iff] at hl
        rw [List.take_of_length_le (by omega)]
      simp only [loadCellsFrom]
      rw [run_bind_ok (run_load_of (by rw [add_plain, cell_of hb]; exact h0)), ih (i + 1) _ cs h1 (by simpa using hl)]
      simp

/-- What a load of type t gives, out of the cells from its place on. -/
def ldv (P : Program) (t : TypeId) (cs : List Value) : Option Value :=
  match still P (isAgg t), still P (sizeOf t) with
  | some true, some n => bif Nat.beq (cs.take n).length n then some (.agg (cs.take n).toArray) else none
  | some false, _ => cs[0]?
  | _, _ => none

theorem run_loadAt {P : Program} {w : World} {b p q j n : Nat} {C : Array Value} {t e : TypeId} {fr : Nat × Nat} {cs : List Value} {v : Value}
    (hb : w.heap[b]? = some (.cells C e fr)) (hc : cut C p n = cs) (hq : q = p + j) (hv : (bif Nat.ble cs.length n then ldv P t (cs.drop j) else none) = some v) : (Instr.loadAt t (.pointer (some ⟨b, q, none⟩))).run P w = .ok v w := by
  subst hq
  cases hn : Nat.ble cs.length n with
  | false => simp [hn] at hv
  | true =>
  simp only [hn, cond_true] at hv
  have hn := Nat.le_of_ble_eq_true hn
  show Sem.run P (loadVar t ⟨b, p + j, none⟩) w = _
  unfold loadVar
  unfold ldv at hv
  cases ha : still P (isAgg t) with
  | none => simp [ha] at hv
  | some x =>
    rw [run_bind_ok (still_run _ ha w)]
    cases x with
    | false =>
      simp only [ha] at hv
      simp only [Bool.false_eq_true, if_false]
      refine run_load_of ?_
      rw [cell_of hb]
      have hjn : j < n := by
        rcases Nat.lt_or_ge j n with h | h
        · exact h
        · rw [List.drop_of_length_le (by omega)] at hv; simp at hv
      rw [cut_get hc hjn, ← hv]
      simp
    | true =>
      cases hs : still P (sizeOf t) with
      | none => simp [ha, hs] at hv
      | some m =>
        simp only [ha, hs] at hv
        cases hl : Nat.beq ((cs.drop j).take m).length m with
        | false => rw [hl] at hv; simp at hv
        | true =>
          simp only [hl, cond_true, Option.some.injEq] at hv
          subst hv
          simp only [if_true]
          have hlen := Nat.eq_of_beq_eq_true hl
          rw [run_bind_ok (still_run _ hs w)]
          have hle : j + m ≤ n ∨ m = 0 := by
            simp only [List.length_take, List.length_drop] at hlen
            omega
          have hcut : cut C (p + j + 0) m = (cs.drop j).take m := by
            rcases hle with hle | hle
            · rw [Nat.add_zero]; exact cut_sub hc hle
            · subst hle; simp [cut]
          unfold loadCells
          rw [run_bind_ok (run_loadCellsFrom hb (p + j) m 0 #[] _ hcut hlen)]
          simp
end Go.Proofs.Ytcoepljalekglaa.G2
