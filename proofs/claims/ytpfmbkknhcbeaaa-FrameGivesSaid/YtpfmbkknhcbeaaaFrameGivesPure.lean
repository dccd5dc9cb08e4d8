/- The plain law of FrameGives: what the walk's function tells is true. -/
import Derived.Test.YtpfmbkknhcbeaaaFrameGivesW4
import Derived.KernelRfl
set_option linter.unusedVariables false
set_option linter.unusedSimpArgs false
namespace Go.Proofs.Ytpfmbkknhcbeaaa.FrameGives.W
open Go.Proofs.Ytpfmbkknhcbeaaa.G2 Go.Proofs
set_option maxRecDepth 100000
theorem fixed60 : law09_fixed 60 = some true := by kernel_rfl
theorem w64_add {i : Int} {n : Nat} (h0 : 0 ≤ i) (h : i ≤ n) (hn : n ≤ 1000) : w64 (i + 1) = i + 1 := by
  unfold w64; rw [IntKind.wrap_i64]; omega
theorem values_l1 (K : Nat) (xs : List GValue) (hn : xs.length ≤ 1000) : ∀ (d k : Nat) (i : Int), 0 ≤ i → i ≤ xs.length → (xs.length : Int) - i = d → d < k → r09_Values_l1 K xs xs k i = some true := by
  intro d
  induction d with
  | zero =>
    intro k i h0 h1 hd hk
    obtain ⟨k, rfl⟩ : ∃ m, k = m + 1 := ⟨k - 1, by omega⟩
    simp only [r09_Values_l1]
    rw [if_neg (by simp; omega)]
  | succ d ih =>
    intro k i h0 h1 hd hk
    obtain ⟨k, rfl⟩ : ∃ m, k = m + 1 := ⟨k - 1, by omega⟩
    simp only [r09_Values_l1]
    rw [if_pos (by simp; omega), if_pos ⟨h0, by omega⟩, if_pos ⟨h0, by omega⟩, if_neg (by simp), w64_add h0 h1 hn]
    exact ih k (i + 1) (by omega) (by omega) (by omega) (by omega)
theorem values_same (xs : List GValue) (hn : xs.length ≤ 40) : r09_Values 60 xs xs = some true := by
  unfold r09_Values
  rw [if_neg (by simp)]
  exact values_l1 60 xs (by omega) xs.length 60 0 (by omega) (by omega) (by omega) (by omega)
theorem same_l1 (K : Nat) (f : GFrame) (hn : f.Slots.length ≤ 1000) : ∀ (d k : Nat) (i : Int), 0 ≤ i → i ≤ f.Slots.length → (f.Slots.length : Int) - i = d → d < k → r09_Same_l1 K f f k i = some true := by
  intro d
  induction d with
  | zero =>
    intro k i h0 h1 hd hk
    obtain ⟨k, rfl⟩ : ∃ m, k = m + 1 := ⟨k - 1, by omega⟩
    simp only [r09_Same_l1]
    rw [if_neg (by simp; omega)]
    simp [bnd]
  | succ d ih =>
    intro k i h0 h1 hd hk
    obtain ⟨k, rfl⟩ : ∃ m, k = m + 1 := ⟨k - 1, by omega⟩
    simp only [r09_Same_l1]
    rw [if_pos (by simp; omega), if_pos ⟨h0, by omega⟩, if_pos ⟨h0, by omega⟩, if_neg (by simp), w64_add h0 h1 hn]
    exact ih k (i + 1) (by omega) (by omega) (by omega) (by omega)
theorem same_self (f : GFrame) (h1 : f.Stack.length ≤ 40) (h2 : f.Locals.length ≤ 40) (h3 : f.Slots.length ≤ 40) : r09_Same 60 f f = some true := by
  unfold r09_Same
  rw [values_same _ h1, values_same _ h2]
  simp
  exact same_l1 60 f (by omega) f.Slots.length 60 0 (by omega) (by omega) (by omega) (by omega)

/-- What a frame is when an end is given. -/
def giveOk (f : GFrame) (i : Int) : Bool := decide (0 ≤ i) && (decide (i < f.Slots.length) && ((gd f.Slots i).State == 1))
def given (f : GFrame) (i : Int) (o : GOut) : GFrame :=
  { f with Slots := f.Slots.set i.toNat ⟨2, frame_noRef, o⟩, State := if f.State = 1 ∧ f.Wait = i then 0 else f.State, Wait := if f.State = 1 ∧ f.Wait = i then 0 else f.Wait }
theorem clone_some (f : GFrame) (h1 : f.Stack.length ≤ 40) (h2 : f.Locals.length ≤ 40) (h3 : f.Slots.length ≤ 40) : frame_clone f = some f := by
  unfold frame_clone slices_Clone_Value slices_Clone_Slot
  rw [if_pos (by unfold LIM; omega), if_pos (by unfold LIM; omega), if_pos (by unfold LIM; omega)]
  rfl
theorem give_eq (f : GFrame) (i : Int) (o : GOut) (h1 : f.Stack.length ≤ 40) (h2 : f.Locals.length ≤ 40) (h3 : f.Slots.length ≤ 40) : frame_Give f i o = some (if giveOk f i then (given f i o, true) else (f, false)) := by
  unfold frame_Give giveOk
  rw [clone_some f h1 h2 h3]
  by_cases h0 : 0 ≤ i
  · by_cases hl : i < f.Slots.length
    · by_cases hs : (gd f.Slots i).State = 1
      · by_cases hw : f.State = 1 ∧ f.Wait = i
        · have hn : ¬ i < 0 := by omega
          have hm : ¬ (f.Slots.length : Int) ≤ i := by omega
          simp [bnd, h0, hl, hs, hn, hm, hw.1, hw.2, given]
        · have hn : ¬ i < 0 := by omega
          have hm : ¬ (f.Slots.length : Int) ≤ i := by omega
          by_cases hst : f.State = 1
          · have hwt : ¬ f.Wait = i := fun e => hw ⟨hst, e⟩
            simp [bnd, h0, hl, hs, hn, hm, hst, hwt, given]
          · simp [bnd, h0, hl, hs, hn, hm, hst, given]
      · have hn : ¬ i < 0 := by omega
        have hm : ¬ (f.Slots.length : Int) ≤ i := by omega
        simp [bnd, h0, hl, hs, hn, hm]
    · have hn : ¬ i < 0 := by omega
      have hm : (f.Slots.length : Int) ≤ i := by omega
      simp [bnd, h0, hl, hn, hm]
  · have hn : i < 0 := by omega
    simp [bnd, h0, hn]
theorem gd_set {α : Type} [Inhabited α] {xs : List α} {i j : Int} {x : α} (hi : 0 ≤ i) (hj : 0 ≤ j) (hl : j < xs.length) : gd (xs.set i.toNat x) j = if i = j then x else gd xs j := by
  have hb : j < ((xs.set i.toNat x).length : Int) := by simpa using hl
  rw [gd_mem hj hb]
  split
  · rename_i e; subst e; simp
  · rename_i e
    rw [List.getElem_set_ne (by omega), gd_mem hj hl]
theorem small_of {f : GFrame} (h : r09_Small f = true) : f.Stack.length ≤ 40 ∧ f.Locals.length ≤ 40 ∧ f.Slots.length ≤ 40 := by
  unfold r09_Small at h
  by_cases h1 : (f.Stack.length : Int) ≤ 40
  · by_cases h2 : (f.Locals.length : Int) ≤ 40
    · by_cases h3 : (f.Slots.length : Int) ≤ 40
      · omega
      · simp [bnd, h1, h2, h3] at h
    · simp [bnd, h1, h2] at h
  · simp [bnd, h1] at h
theorem giveOk_given {f : GFrame} {i j : Int} {o : GOut} (hi : 0 ≤ i) : giveOk (given f i o) j = if i = j then false else giveOk f j := by
  unfold giveOk given
  simp only [List.length_set]
  by_cases hj : 0 ≤ j
  · by_cases hl : j < f.Slots.length
    · rw [gd_set hi hj hl]
      split
      · simp
      · rfl
    · simp [hl]
  · simp [hj]
theorem pure_FrameGives (x0 : GFrame) (x1 : GA2_Int) (x2 : GA2_GOut) : ∃ K, law09_FrameGives K x0 x1 x2 = some true := by
  refine ⟨60, ?_⟩
  unfold law09_FrameGives
  rw [fixed60]
  cases hs : r09_Small x0 with
  | false => simp [bnd]
  | true =>
    obtain ⟨h1, h2, h3⟩ := small_of hs
    have S : ∀ i o, (given x0 i o).Stack.length ≤ 40 ∧ (given x0 i o).Locals.length ≤ 40 ∧ (given x0 i o).Slots.length ≤ 40 := fun i o => by simp [given, h1, h2, h3]
    simp only [Option.bind_some, bnd, Bool.not_true, Bool.false_eq_true, if_false]
    rw [give_eq x0 x1.e0 x2.e0 h1 h2 h3]
    cases hok : giveOk x0 x1.e0 with
    | false => simp [same_self x0 h1 h2 h3]
    | true =>
      have h0 : 0 ≤ x1.e0 ∧ x1.e0 < x0.Slots.length := by
        unfold giveOk at hok; simp at hok; exact ⟨hok.1, hok.2.1⟩
      obtain ⟨a1, a2, a3⟩ := S x1.e0 x2.e0
      have hb : giveOk (given x0 x1.e0 x2.e0) x1.e0 = false := by rw [giveOk_given h0.1, if_pos rfl]
      have hgd : gd (given x0 x1.e0 x2.e0).Slots x1.e0 = ⟨2, frame_noRef, x2.e0⟩ := by
        unfold given; simp only; rw [gd_set h0.1 h0.1 h0.2, if_pos rfl]
      have hlen : (given x0 x1.e0 x2.e0).Slots.length = x0.Slots.length := by simp [given]
      have hwait : ¬ ((given x0 x1.e0 x2.e0).State = 1 ∧ (given x0 x1.e0 x2.e0).Wait = x1.e0) := by
        unfold given
        by_cases hw : x0.State = 1 ∧ x0.Wait = x1.e0
        · simp [hw]
        · simp only [if_neg hw]; exact hw
      have hw2 : (if ((given x0 x1.e0 x2.e0).State == 1) = true then ((given x0 x1.e0 x2.e0).Wait == x1.e0) else false) = false := by
        by_cases e : (given x0 x1.e0 x2.e0).State = 1
        · have : ¬ (given x0 x1.e0 x2.e0).Wait = x1.e0 := fun e2 => hwait ⟨e, e2⟩
          simp [e, this]
        · simp [e]
      have hn : ¬ x1.e0 < 0 := by omega
      have hm : ¬ (x0.Slots.length : Int) ≤ x1.e0 := by omega
      simp only [if_true, Option.bind_some, Bool.not_true, Bool.false_eq_true, if_false]
      rw [give_eq _ x1.e0 x2.e1 a1 a2 a3, hb]
      simp only [Bool.false_eq_true, if_false, Option.bind_some, same_self _ a1 a2 a3, Bool.not_true]
      rw [hw2, hlen]
      simp only [Bool.false_eq_true, if_false, bne_self_eq_false, hn, decide_false, ge_iff_le, hm, h0.1, h0.2, and_self, if_true, hgd, beq_self_eq_true, Bool.and_self, Bool.not_true]
      by_cases he : x1.e0 = x1.e1
      · simp [he]
      · have he' : (x1.e0 == x1.e1) = false := by simpa using he
        rw [he']
        simp only [Bool.false_eq_true, if_false]
        rw [give_eq _ x1.e1 x2.e1 a1 a2 a3, give_eq x0 x1.e1 x2.e1 h1 h2 h3, giveOk_given h0.1, if_neg he]
        cases hok2 : giveOk x0 x1.e1 with
        | false =>
          simp only [Bool.false_eq_true, if_false, Option.bind_some]
          rw [give_eq x0 x1.e0 x2.e0 h1 h2 h3, hok]
          simp [same_self _ a1 a2 a3]
        | true =>
          have k0 : 0 ≤ x1.e1 ∧ x1.e1 < x0.Slots.length := by
            unfold giveOk at hok2; simp at hok2; exact ⟨hok2.1, hok2.2.1⟩
          obtain ⟨b1, b2, b3⟩ := S x1.e1 x2.e1
          simp only [if_true, Option.bind_some]
          have hg : giveOk (given x0 x1.e1 x2.e1) x1.e0 = true := by rw [giveOk_given k0.1]; rw [if_neg (show ¬ x1.e1 = x1.e0 from fun e => he e.symm)]; exact hok
          rw [give_eq _ x1.e0 x2.e0 b1 b2 b3, hg]
          simp only [if_true, Option.bind_some]
          have hc : given (given x0 x1.e0 x2.e0) x1.e1 x2.e1 = given (given x0 x1.e1 x2.e1) x1.e0 x2.e0 := by
            unfold given
            simp only
            rw [List.set_comm _ _ (by omega)]
            by_cases s1 : x0.State = 1
            · by_cases w1 : x0.Wait = x1.e0
              · have : ¬ x1.e0 = x1.e1 := he
                simp [s1, w1, this]
              · by_cases w2 : x0.Wait = x1.e1
                · have : ¬ x1.e1 = x1.e0 := fun e => he e.symm
                  simp [s1, w2, this]
                · simp [s1, w1, w2]
            · simp [s1]
          rw [hc]
          have b : (given (given x0 x1.e1 x2.e1) x1.e0 x2.e0).Stack.length ≤ 40 ∧ (given (given x0 x1.e1 x2.e1) x1.e0 x2.e0).Locals.length ≤ 40 ∧ (given (given x0 x1.e1 x2.e1) x1.e0 x2.e0).Slots.length ≤ 40 := by simp [given, h1, h2, h3]
          rw [same_self _ b.1 b.2.1 b.2.2]
          rfl

end Go.Proofs.Ytpfmbkknhcbeaaa.FrameGives.W
