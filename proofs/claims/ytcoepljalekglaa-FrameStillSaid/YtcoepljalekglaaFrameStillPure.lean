/- The plain law of FrameStill: what the walk's function tells is true. -/
import Derived.Test.YtcoepljalekglaaFrameStillW4
import Derived.KernelRfl
set_option linter.unusedVariables false
set_option linter.unusedSimpArgs false
namespace Go.Proofs.Ytcoepljalekglaa.FrameStill.W
open Go.Proofs.Ytcoepljalekglaa.G2 Go.Proofs
set_option maxRecDepth 100000
theorem w64_id {x : Int} (h : -9223372036854775808 ≤ x ∧ x ≤ 9223372036854775807) : w64 x = x := by
  unfold w64; rw [IntKind.wrap_i64]; omega
theorem rest_eq (n : Int) : gauss_rest n = n % 251 := by
  unfold gauss_rest
  have e : Int.tmod n 251 = n % 251 ∨ Int.tmod n 251 = n % 251 - 251 := by
    rw [Int.tmod_eq_emod]; split <;> simp
  have h : w64 (Int.tmod n 251 + 251) = Int.tmod n 251 + 251 := w64_id (by omega)
  rw [h, Int.tmod_eq_emod_of_nonneg (by omega)]
  omega
theorem of_is (v : GValue) : CIs (gauss_of v) (v.Re % 251) (v.Im % 251) := by
  unfold gauss_of
  simp only [bnd, rest_eq]
  exact ⟨is_fOf (by omega), is_fOf (by omega)⟩
theorem value_eq {u : Nat × Nat} {a b : Int} (h : CIs u a b) (ha : -1000000 ≤ a ∧ a ≤ 1000000) (hb : -1000000 ≤ b ∧ b ≤ 1000000) : gauss_value u = some ⟨a % 251, b % 251⟩ := by
  unfold gauss_value
  rw [h.1.toInt (by omega), h.2.toInt (by omega)]
  simp [bnd, gauss_Of, rest_eq]
theorem add_eq (x y : GValue) : gauss_Add x y = some ⟨(x.Re % 251 + y.Re % 251) % 251, (x.Im % 251 + y.Im % 251) % 251⟩ := by
  obtain ⟨r, e, i⟩ := (of_is x).add (of_is y) (by omega) (by omega)
  unfold gauss_Add
  simp only [bnd]
  rw [e]
  simp only [Option.bind_some]
  rw [value_eq i (by omega) (by omega)]
  rfl
theorem sub_eq (x y : GValue) : gauss_Sub x y = some ⟨(x.Re % 251 - y.Re % 251) % 251, (x.Im % 251 - y.Im % 251) % 251⟩ := by
  obtain ⟨r, e, i⟩ := (of_is x).sub (of_is y) (by omega) (by omega)
  unfold gauss_Sub
  simp only [bnd]
  rw [e]
  simp only [Option.bind_some]
  rw [value_eq i (by omega) (by omega)]
  rfl
theorem prod_bound (a b : Int) : 0 ≤ a % 251 * (b % 251) ∧ a % 251 * (b % 251) ≤ 62500 := by
  have h1 : 0 ≤ a % 251 ∧ a % 251 ≤ 250 := by omega
  have h2 : 0 ≤ b % 251 ∧ b % 251 ≤ 250 := by omega
  exact ⟨Int.mul_nonneg h1.1 h2.1, Int.mul_le_mul h1.2 h2.2 h2.1 (by omega)⟩
theorem mul_eq (x y : GValue) : gauss_Mul x y = some ⟨(x.Re % 251 * (y.Re % 251) - x.Im % 251 * (y.Im % 251)) % 251, (x.Re % 251 * (y.Im % 251) + x.Im % 251 * (y.Re % 251)) % 251⟩ := by
  have b1 := prod_bound x.Re y.Re
  have b2 := prod_bound x.Im y.Im
  have b3 := prod_bound x.Re y.Im
  have b4 := prod_bound x.Im y.Re
  obtain ⟨r, e, i⟩ := (of_is x).mul (of_is y) (by omega) (by omega) (by omega) (by omega) (by omega) (by omega)
  unfold gauss_Mul
  simp only [bnd]
  rw [e]
  simp only [Option.bind_some]
  rw [value_eq i (by omega) (by omega)]
  rfl
theorem conj_eq (x : GValue) : gauss_Conj x = some ⟨x.Re % 251, (-(x.Im % 251)) % 251⟩ := by
  have h := of_is x
  have i : CIs ((gauss_of x).1, fNeg (gauss_of x).2) (x.Re % 251) (-(x.Im % 251)) := ⟨h.1, h.2.neg⟩
  unfold gauss_Conj
  simp only [bnd]
  rw [value_eq i (by omega) (by omega)]
  simp
theorem pow_l1_total (K : Nat) : ∀ (j k : Nat) (a b c d n : Int), 0 ≤ n → n < 2 ^ j → n ≤ 1000000 → j < k → ∃ v, gauss_Pow_l1 K k (a, b, c, d, n) = some v := by
  intro j
  induction j with
  | zero =>
    intro k a b c d n h0 h1 hn hk
    obtain ⟨k, rfl⟩ : ∃ m, k = m + 1 := ⟨k - 1, by omega⟩
    have : n = 0 := by omega
    subst this
    exact ⟨_, rfl⟩
  | succ j ih =>
    intro k a b c d n h0 h1 hn hk
    obtain ⟨k, rfl⟩ : ∃ m, k = m + 1 := ⟨k - 1, by omega⟩
    simp only [gauss_Pow_l1]
    have e : w64 (n.tdiv 2) = n / 2 := by rw [Int.tdiv_eq_ediv_of_nonneg h0]; exact w64_id (by omega)
    have hp : (2 : Int) ^ (j + 1) = 2 * 2 ^ j := by rw [Int.pow_succ, Int.mul_comm]
    by_cases h : n > 0
    · rw [if_pos (by simpa using h)]
      rw [mul_eq, mul_eq]
      simp only [Option.bind_some]
      rw [e]
      split
      · exact ih k _ _ _ _ _ (by omega) (by omega) (by omega) (by omega)
      · exact ih k _ _ _ _ _ (by omega) (by omega) (by omega) (by omega)
    · rw [if_neg (by simpa using h)]
      exact ⟨_, rfl⟩
theorem pow_total (K : Nat) (hK : 20 ≤ K) (x : GValue) (n : Int) (h0 : 0 ≤ n) (hn : n < 65536) : ∃ v, gauss_Pow K x n = some v := by
  unfold gauss_Pow
  rw [if_neg (by simp; omega)]
  simp only [bnd]
  rw [value_eq (of_is x) (by omega) (by omega)]
  simp only [Option.bind_some]
  exact pow_l1_total K 16 K _ _ _ _ _ h0 hn (by omega) (by omega)
theorem div_total (K : Nat) (hK : 20 ≤ K) (x y : GValue) : ∃ r, gauss_Div K x y = some r := by
  unfold gauss_Div
  simp only [bnd]
  split
  · exact ⟨_, rfl⟩
  · obtain ⟨v, h⟩ := pow_total K hK y 62999 (by omega) (by omega)
    rw [h]
    simp only [Option.bind_some]
    rw [mul_eq]
    exact ⟨_, rfl⟩
def mixStep (z : Int) : Int := IntKind.wrap .u32 ((ixor .u32 z (ishr .u32 z 15)) * 2246822507)
def mixEnd (z : Int) : Int := w64 (ixor .u32 z (ishr .u32 z 13))
theorem mix_l1 (K : Nat) (k : Nat) (z : Int) : seed_Mix_l1 K (k + 3) (0, z) = some (mixEnd (mixStep (mixStep z))) := by
  have e1 : w64 (0 + 1) = 1 := by decide
  have e2 : w64 (1 + 1) = 2 := by decide
  simp only [seed_Mix_l1]
  rw [if_pos (by decide), e1, if_pos (by decide), e2, if_neg (by decide)]
  rfl
theorem mix_total (K : Nat) (hK : 20 ≤ K) (x y : Int) : ∃ r, seed_Mix K x y = some r := by
  unfold seed_Mix
  simp only [bnd]
  have e : ∀ z, seed_Mix_l1 K K (0, z) = some (mixEnd (mixStep (mixStep z))) := fun z => by
    have := mix_l1 K (K - 3) z
    rwa [show K - 3 + 3 = K by omega] at this
  repeat' split
  all_goals first | exact ⟨_, rfl⟩ | exact ⟨_, e _⟩
theorem seedof_total (K : Nat) (hK : 20 ≤ K) (x y z : Int) : ∃ r, seed_of K x y z = some r := by
  unfold seed_of
  obtain ⟨a, h⟩ := mix_total K hK x y
  obtain ⟨b, h2⟩ := mix_total K hK a z
  rw [h]; simp only [Option.bind_some]; rw [h2]
  exact ⟨_, rfl⟩
theorem child_total (K : Nat) (hK : 20 ≤ K) (x y : Int) : ∃ r, seed_Child K x y = some r := by
  unfold seed_Child
  obtain ⟨a, h⟩ := seedof_total K hK x 1 y
  rw [h]; simp only [Option.bind_some]
  split <;> exact ⟨_, rfl⟩
theorem draw_total (K : Nat) (hK : 20 ≤ K) (x y : Int) : ∃ r, seed_Draw K x y = some r := by
  unfold seed_Draw
  obtain ⟨a, h⟩ := seedof_total K hK x 2 y
  rw [h]; simp only [Option.bind_some]
  split <;> exact ⟨_, rfl⟩

set_option maxRecDepth 100000
theorem w64_addx {i : Int} {n : Nat} (h0 : 0 ≤ i) (h : i ≤ n) (hn : n ≤ 1000) : w64 (i + 1) = i + 1 := by
  unfold w64; rw [IntKind.wrap_i64]; omega
theorem values_l1 (K : Nat) (xs : List GValue) (hn : xs.length ≤ 1000) : ∀ (d k : Nat) (i : Int), 0 ≤ i → i ≤ xs.length → (xs.length : Int) - i = d → d < k → r09_Values_l1 K xs xs k i = some true := by
  intro d
  induction d with
  | zero =>
    intro k i h0 h1 hd hk
    obtain ⟨k, rfl⟩ : ∃ m, k = m + 1 := ⟨k - 1, by omega⟩
    simp only [r09_Values_l1]
    rw [if_neg (by simp; omega)]
  | succ d ih =>
    intro k i h0 h1 hd hk
    obtain ⟨k, rfl⟩ : ∃ m, k = m + 1 := ⟨k - 1, by omega⟩
    simp only [r09_Values_l1]
    rw [if_pos (by simp; omega), if_pos ⟨h0, by omega⟩, if_pos ⟨h0, by omega⟩, if_neg (by simp), w64_addx h0 h1 hn]
    exact ih k (i + 1) (by omega) (by omega) (by omega) (by omega)
theorem values_same1000 (xs : List GValue) (hn : xs.length ≤ 900) : r09_Values 1000 xs xs = some true := by
  unfold r09_Values
  rw [if_neg (by simp)]
  exact values_l1 1000 xs (by omega) xs.length 1000 0 (by omega) (by omega) (by omega) (by omega)
theorem same_l1 (K : Nat) (f : GFrame) (hn : f.Slots.length ≤ 1000) : ∀ (d k : Nat) (i : Int), 0 ≤ i → i ≤ f.Slots.length → (f.Slots.length : Int) - i = d → d < k → r09_Same_l1 K f f k i = some true := by
  intro d
  induction d with
  | zero =>
    intro k i h0 h1 hd hk
    obtain ⟨k, rfl⟩ : ∃ m, k = m + 1 := ⟨k - 1, by omega⟩
    simp only [r09_Same_l1]
    rw [if_neg (by simp; omega)]
    simp [bnd]
  | succ d ih =>
    intro k i h0 h1 hd hk
    obtain ⟨k, rfl⟩ : ∃ m, k = m + 1 := ⟨k - 1, by omega⟩
    simp only [r09_Same_l1]
    rw [if_pos (by simp; omega), if_pos ⟨h0, by omega⟩, if_pos ⟨h0, by omega⟩, if_neg (by simp), w64_addx h0 h1 hn]
    exact ih k (i + 1) (by omega) (by omega) (by omega) (by omega)
theorem same_self1000 (f : GFrame) (h1 : f.Stack.length ≤ 900) (h2 : f.Locals.length ≤ 900) (h3 : f.Slots.length ≤ 900) : r09_Same 1000 f f = some true := by
  unfold r09_Same
  rw [values_same1000 _ h1, values_same1000 _ h2]
  simp
  exact same_l1 1000 f (by omega) f.Slots.length 1000 0 (by omega) (by omega) (by omega) (by omega)
theorem small_of1000 {f : GFrame} (h : r09_Small f = true) : f.Stack.length ≤ 40 ∧ f.Locals.length ≤ 40 ∧ f.Slots.length ≤ 40 := by
  unfold r09_Small at h
  by_cases h1 : (f.Stack.length : Int) ≤ 40
  · by_cases h2 : (f.Locals.length : Int) ≤ 40
    · by_cases h3 : (f.Slots.length : Int) ≤ 40
      · omega
      · simp [bnd, h1, h2, h3] at h
    · simp [bnd, h1, h2] at h
  · simp [bnd, h1] at h

set_option maxRecDepth 100000
theorem spans_bound (o : Int) : 0 ≤ (op_spans o).1.least ∧ (op_spans o).1.most ≤ 255 ∧ 0 ≤ (op_spans o).2.least ∧ (op_spans o).2.most ≤ 255 := by
  unfold op_spans
  repeat' split
  all_goals decide
theorem may_range {i : GInstr} (h : op_May i = true) : 0 ≤ i.Op ∧ i.Op < 17 ∧ 0 ≤ i.A ∧ i.A ≤ 255 ∧ 0 ≤ i.B ∧ i.B ≤ 255 := by
  unfold op_May op_span_has at h
  simp only [bnd] at h
  have b := spans_bound i.Op
  by_cases h1 : i.Op ≥ 0
  · by_cases h2 : i.Op < 17
    · by_cases h3 : i.A ≥ (op_spans i.Op).1.least
      · by_cases h4 : i.A ≤ (op_spans i.Op).1.most
        · by_cases h5 : i.B ≥ (op_spans i.Op).2.least
          · by_cases h6 : i.B ≤ (op_spans i.Op).2.most
            · omega
            · simp [h1, h2, h3, h4, h5, h6] at h
          · simp [h1, h2, h3, h4, h5] at h
        · simp [h1, h2, h3, h4] at h
      · simp [h1, h2, h3] at h
    · simp [h1, h2] at h
  · simp [h1] at h
theorem there_spec (f : GFrame) (p : List GFunc) (x : GInstr) (act : GAct) (l : List GInstr) :
    (∃ t, frame_runner_there ⟨f, p, x, act⟩ l = some (false, t)) ∨
    (∃ o a b, frame_runner_there ⟨f, p, x, act⟩ l = some (true, o, a, b) ∧ 0 ≤ f.Pc ∧ f.Pc < l.length ∧ gd l f.Pc = ⟨o, a, b⟩ ∧ op_May ⟨o, a, b⟩ = true ∧ ((o = 1 ∨ o = 2) → a < f.Locals.length) ∧ (o = 14 → a < f.Slots.length) ∧ (o = 13 → a < p.length ∧ b < f.Slots.length)) := by
  unfold frame_runner_there
  simp only [bnd]
  by_cases h1 : f.Pc < 0
  · left; simp [h1]
  · by_cases h2 : f.Pc ≥ (l.length : Int)
    · left; simp [h1, h2]
    · have g : 0 ≤ f.Pc ∧ f.Pc < l.length := by omega
      simp only [h1, h2, decide_false, Bool.false_eq_true, if_false, if_pos g, Option.bind_some]
      generalize gd l f.Pc = i
      obtain ⟨o, a, b⟩ := i
      simp only
      cases hm : op_May ⟨o, a, b⟩ with
      | false => left; simp
      | true =>
        simp only [Bool.not_true, Bool.false_eq_true, if_false]
        by_cases o1 : o = 1
        · subst o1
          by_cases q : a < (f.Locals.length : Int)
          · right; exact ⟨1, a, b, by simp [q], g.1, g.2, rfl, hm, fun _ => q, fun h => absurd h (by decide), fun h => absurd h (by decide)⟩
          · left; simp [q]
        · by_cases o2 : o = 2
          · subst o2
            by_cases q : a < (f.Locals.length : Int)
            · right; exact ⟨2, a, b, by simp [q], g.1, g.2, rfl, hm, fun _ => q, fun h => absurd h (by decide), fun h => absurd h (by decide)⟩
            · left; simp [q]
          · by_cases o3 : o = 14
            · subst o3
              by_cases q : a < (f.Slots.length : Int)
              · right; exact ⟨14, a, b, by simp [q], g.1, g.2, rfl, hm, fun h => absurd h (by decide), fun _ => q, fun h => absurd h (by decide)⟩
              · left; simp [q]
            · by_cases o4 : o = 13
              · subst o4
                by_cases q : a < (p.length : Int)
                · by_cases q2 : b < (f.Slots.length : Int)
                  · right; exact ⟨13, a, b, by simp [q, q2], g.1, g.2, rfl, hm, fun h => absurd h (by decide), fun h => absurd h (by decide), fun _ => ⟨q, q2⟩⟩
                  · left; simp [q, q2]
                · left; simp [q]
              · right; exact ⟨o, a, b, by simp [o1, o2, o3, o4], g.1, g.2, rfl, hm, fun h => by omega, fun h => absurd h o3, fun h => absurd h o4⟩
theorem pop_eq {f : GFrame} {p : List GFunc} {x : GInstr} {act : GAct} {n : Int} (h0 : 0 ≤ n) (h1 : n ≤ f.Stack.length) (h2 : f.Stack.length ≤ 1000) :
    frame_runner_pop ⟨f, p, x, act⟩ n = some (lcut f.Stack (f.Stack.length - n) f.Stack.length, f.Stack.take ((f.Stack.length : Int) - n).toNat) := by
  unfold frame_runner_pop slices_Clone_Value
  have e : w64 ((f.Stack.length : Int) - n) = f.Stack.length - n := w64_id (by omega)
  simp only [e]
  have hl : (lcut f.Stack ((f.Stack.length : Int) - n) f.Stack.length).length ≤ 1000 := by rw [lcut_len (by omega) (by omega) (by omega)]; omega
  have g : 0 ≤ (f.Stack.length : Int) - n ∧ (f.Stack.length : Int) - n ≤ f.Stack.length := by omega
  rw [if_pos g, if_pos (by unfold LIM; omega)]
  simp only [Option.bind_some, if_pos g]
theorem push_eq {f : GFrame} {p : List GFunc} {x : GInstr} {act : GAct} {l : List GValue} (h2 : f.Stack.length ≤ 1000) (h3 : l.length ≤ 1000) :
    frame_runner_push ⟨f, p, x, act⟩ l = some (f.Stack ++ l) := by
  unfold frame_runner_push
  rw [if_pos (by unfold LIM; simp only; omega)]
/-- How a step leaves a frame. -/
structure Kept (f g : GFrame) (a : GAct) : Prop where
  still : f.State ≠ 0 → g = f ∧ a = ⟨0, 0, 0, 0, []⟩
  fn : g.Fn = f.Fn
  seed : g.Seed = f.Seed
  up : g.Up = f.Up
  upSlot : g.UpSlot = f.UpSlot
  locals : g.Locals.length = f.Locals.length
  slots : g.Slots.length = f.Slots.length
  spawned : g.Spawned = f.Spawned ∨ (a.Kind = 2 ∧ g.Spawned = w64 (f.Spawned + 1))
  draws : g.Draws = f.Draws ∨ g.Draws = w64 (f.Draws + 1)
  args : a.Kind = 2 ∨ a.Args = []
  ends : a.Kind = 4 → g.State = 2
  stack : g.Stack.length ≤ 100
  argn : a.Args.length ≤ 100
theorem stk0 : op_Stack 0 = some (0, 1) := by kernel_rfl
theorem stk1 : op_Stack 1 = some (0, 1) := by kernel_rfl
theorem stk2 : op_Stack 2 = some (1, 0) := by kernel_rfl
theorem stk3 : op_Stack 3 = some (2, 1) := by kernel_rfl
theorem stk4 : op_Stack 4 = some (2, 1) := by kernel_rfl
theorem stk5 : op_Stack 5 = some (2, 1) := by kernel_rfl
theorem stk6 : op_Stack 6 = some (2, 1) := by kernel_rfl
theorem stk7 : op_Stack 7 = some (1, 1) := by kernel_rfl
theorem stk8 : op_Stack 8 = some (1, 2) := by kernel_rfl
theorem stk9 : op_Stack 9 = some (1, 0) := by kernel_rfl
theorem stk10 : op_Stack 10 = some (0, 0) := by kernel_rfl
theorem stk11 : op_Stack 11 = some (1, 0) := by kernel_rfl
theorem stk12 : op_Stack 12 = some (0, 1) := by kernel_rfl
theorem stk13 : op_Stack 13 = some (0, 0) := by kernel_rfl
theorem stk14 : op_Stack 14 = some (0, 1) := by kernel_rfl
theorem stk15 : op_Stack 15 = some (1, 0) := by kernel_rfl
theorem stk16 : op_Stack 16 = some (0, 0) := by kernel_rfl
theorem room_eq {f : GFrame} {p : List GFunc} {o a b : Int} {act : GAct} {x off on : Int} (h1 : op_Stack o = some (x, on)) (h2 : frame_runner_off ⟨f, p, ⟨o, a, b⟩, act⟩ = some off) (hon : 0 ≤ on ∧ on ≤ 2) (hs : f.Stack.length ≤ 40) :
    frame_runner_room ⟨f, p, ⟨o, a, b⟩, act⟩ = some (decide (0 ≤ off ∧ off ≤ f.Stack.length ∧ (on = 0 ∨ (f.Stack.length : Int) - off + on ≤ 16))) := by
  unfold frame_runner_room
  simp only
  rw [h1, h2]
  simp only [Option.bind_some, bnd]
  by_cases q1 : off ≥ 0
  · by_cases q2 : (f.Stack.length : Int) ≥ off
    · rw [w64_id (x := (f.Stack.length : Int) - off) (by omega), w64_id (by omega)]
      by_cases q3 : on = 0
      · simp [q1, q2, q3]
      · have q3' : (on == 0) = false := by simpa using q3
        by_cases q4 : (f.Stack.length : Int) - off + on ≤ 16
        · simp [q1, q2, q3, q4]
        · simp [q1, q2, q3, q4]
    · simp [q1, q2]
  · simp [q1]
theorem two_spec (K : Nat) (hK : 20 ≤ K) {f : GFrame} {p : List GFunc} {o a b : Int} {act : GAct} (hs : f.Stack.length ≤ 40) (h2 : (2 : Int) ≤ f.Stack.length) :
    ∃ st, st.length ≤ 100 ∧ (frame_runner_two K ⟨f, p, ⟨o, a, b⟩, act⟩ = some (f.Pc, st, f.Locals, f.Slots, 2, 1, 0, 0, 4, 0, 0, 0, []) ∨ frame_runner_two K ⟨f, p, ⟨o, a, b⟩, act⟩ = some (w64 (f.Pc + 1), st, f.Locals, f.Slots, f.State, f.Out.Trap, f.Out.V.Re, f.Out.V.Im, act.Kind, act.Fn, act.Slot, act.Seed, act.Args)) := by
  unfold frame_runner_two
  rw [pop_eq (by omega) h2 (by omega)]
  simp only [Option.bind_some]
  have hn : (lcut f.Stack ((f.Stack.length : Int) - 2) f.Stack.length).length = 2 := by rw [lcut_len (by omega) (by omega) (by omega)]; omega
  generalize lcut f.Stack ((f.Stack.length : Int) - 2) f.Stack.length = l at hn
  have ht : (f.Stack.take ((f.Stack.length : Int) - 2).toNat).length ≤ 40 := by rw [List.length_take]; omega
  generalize f.Stack.take ((f.Stack.length : Int) - 2).toNat = s at ht
  have g0 : 0 ≤ (0 : Int) ∧ (0 : Int) < l.length := by omega
  have g1 : 0 ≤ (1 : Int) ∧ (1 : Int) < l.length := by omega
  have hpush : ∀ v : GValue, frame_runner_push ⟨{ f with Stack := s }, p, ⟨o, a, b⟩, act⟩ [v] = some (s ++ [v]) := fun v => push_eq (by simp only; omega) (by simp)
  have hpush2 : frame_runner_push ⟨{ f with Stack := s }, p, ⟨o, a, b⟩, act⟩ l = some (s ++ l) := push_eq (by simp only; omega) (by omega)
  have hlen : ∀ v : GValue, (s ++ [v]).length ≤ 100 := fun v => by simp; omega
  have hlen2 : (s ++ l).length ≤ 100 := by simp; omega
  simp only [if_pos g0, if_pos g1]
  by_cases o3 : o = 3
  · rw [if_pos (by simpa using o3), add_eq]
    simp only [Option.bind_some, hpush]
    exact ⟨_, hlen _, .inr rfl⟩
  rw [if_neg (by simpa using o3)]
  by_cases o4 : o = 4
  · rw [if_pos (by simpa using o4), sub_eq]
    simp only [Option.bind_some, hpush]
    exact ⟨_, hlen _, .inr rfl⟩
  rw [if_neg (by simpa using o4)]
  by_cases o5 : o = 5
  · rw [if_pos (by simpa using o5), mul_eq]
    simp only [Option.bind_some, hpush]
    exact ⟨_, hlen _, .inr rfl⟩
  rw [if_neg (by simpa using o5)]
  by_cases o6 : o = 6
  · rw [if_pos (by simpa using o6)]
    obtain ⟨⟨v, ok⟩, hd⟩ := div_total K hK ⟨(gd l 0).Re, (gd l 0).Im⟩ ⟨(gd l 1).Re, (gd l 1).Im⟩
    rw [hd]
    simp only [Option.bind_some, hpush, hpush2]
    cases ok with
    | false => exact ⟨_, hlen2, .inl rfl⟩
    | true => exact ⟨_, hlen _, .inr rfl⟩
  rw [if_neg (by simpa using o6)]
  simp only [Option.bind_some, hpush]
  exact ⟨_, hlen _, .inr rfl⟩
theorem plain_spec (K : Nat) (hK : 20 ≤ K) {f : GFrame} {p : List GFunc} {o a b : Int} {act : GAct} (hs : f.Stack.length ≤ 40)
    (h1 : o = 2 ∨ o = 7 ∨ o = 8 ∨ o = 9 ∨ o = 11 → (1 : Int) ≤ f.Stack.length) (h2 : o = 1 ∨ o = 2 → 0 ≤ a ∧ a < f.Locals.length) :
    ∃ pc st lo dr, frame_runner_plain K ⟨f, p, ⟨o, a, b⟩, act⟩ = some (pc, st, lo, f.Slots, dr) ∧ st.length ≤ 100 ∧ lo.length = f.Locals.length ∧ (dr = f.Draws ∨ dr = w64 (f.Draws + 1)) := by
  unfold frame_runner_plain
  have hpush : ∀ v : GValue, frame_runner_push ⟨f, p, ⟨o, a, b⟩, act⟩ [v] = some (f.Stack ++ [v]) := fun v => push_eq (by omega) (by simp)
  have hlen : ∀ v : GValue, (f.Stack ++ [v]).length ≤ 100 := fun v => by simp; omega
  have hpop : (1 : Int) ≤ f.Stack.length → ∃ l s, frame_runner_pop ⟨f, p, ⟨o, a, b⟩, act⟩ 1 = some (l, s) ∧ l.length = 1 ∧ s.length ≤ 40 := fun h => by
    refine ⟨_, _, pop_eq (by omega) h (by omega), ?_, ?_⟩
    · rw [lcut_len (by omega) (by omega) (by omega)]; omega
    · rw [List.length_take]; omega
  simp only [bnd]
  by_cases o0 : o = 0
  · rw [if_pos (by simpa using o0), hpush]
    exact ⟨_, _, _, _, rfl, hlen _, rfl, .inl rfl⟩
  rw [if_neg (by simpa using o0)]
  by_cases o1 : o = 1
  · rw [if_pos (by simpa using o1), if_pos (h2 (.inl o1)), hpush]
    exact ⟨_, _, _, _, rfl, hlen _, rfl, .inl rfl⟩
  rw [if_neg (by simpa using o1)]
  by_cases o2 : o = 2
  · obtain ⟨l, s, e, n1, n2⟩ := hpop (h1 (by omega))
    rw [if_pos (by simpa using o2), e]
    simp only [Option.bind_some]
    rw [if_pos ⟨by omega, by omega⟩, if_pos (h2 (.inr o2))]
    exact ⟨_, _, _, _, rfl, by omega, by simp, .inl rfl⟩
  rw [if_neg (by simpa using o2)]
  by_cases o7 : o = 7
  · obtain ⟨l, s, e, n1, n2⟩ := hpop (h1 (by omega))
    rw [if_pos (by simpa using o7), e]
    simp only [Option.bind_some]
    rw [if_pos ⟨by omega, by omega⟩, conj_eq]
    simp only [Option.bind_some]
    rw [push_eq (by simp only; omega) (by simp)]
    exact ⟨_, _, _, _, rfl, by simp; omega, rfl, .inl rfl⟩
  rw [if_neg (by simpa using o7)]
  by_cases o8 : o = 8
  · obtain ⟨l, s, e, n1, n2⟩ := hpop (h1 (by omega))
    rw [if_pos (by simpa using o8), e]
    simp only [Option.bind_some]
    rw [if_pos ⟨by omega, by omega⟩, push_eq (by simp only; omega) (by simp)]
    exact ⟨_, _, _, _, rfl, by simp; omega, rfl, .inl rfl⟩
  rw [if_neg (by simpa using o8)]
  by_cases o9 : o = 9
  · obtain ⟨l, s, e, n1, n2⟩ := hpop (h1 (by omega))
    rw [if_pos (by simpa using o9), e]
    exact ⟨_, _, _, _, rfl, by simp only; omega, rfl, .inl rfl⟩
  rw [if_neg (by simpa using o9)]
  by_cases o10 : o = 10
  · rw [if_pos (by simpa using o10)]
    exact ⟨_, _, _, _, rfl, by omega, rfl, .inl rfl⟩
  rw [if_neg (by simpa using o10)]
  by_cases o11 : o = 11
  · obtain ⟨l, s, e, n1, n2⟩ := hpop (h1 (by omega))
    rw [if_pos (by simpa using o11), e]
    simp only [Option.bind_some]
    rw [if_pos ⟨by omega, by omega⟩]
    split
    · exact ⟨_, _, _, _, rfl, by omega, rfl, .inl rfl⟩
    · exact ⟨_, _, _, _, rfl, by omega, rfl, .inl rfl⟩
  rw [if_neg (by simpa using o11)]
  by_cases o12 : o = 12
  · obtain ⟨v, e⟩ := draw_total K hK f.Seed f.Draws
    rw [if_pos (by simpa using o12), e]
    simp only [Option.bind_some]
    rw [hpush]
    exact ⟨_, _, _, _, rfl, hlen _, rfl, .inr rfl⟩
  rw [if_neg (by simpa using o12)]
  exact ⟨_, _, _, _, rfl, by omega, rfl, .inl rfl⟩
theorem room_need {f : GFrame} {p : List GFunc} {o a b : Int} {act : GAct} (h0 : 0 ≤ o ∧ o < 17) (ha : o = 13 → 0 ≤ a ∧ a < p.length) (hs : f.Stack.length ≤ 40) :
    ∃ r, frame_runner_room ⟨f, p, ⟨o, a, b⟩, act⟩ = some r ∧ (r = true → (o = 3 ∨ o = 4 ∨ o = 5 ∨ o = 6 → (2 : Int) ≤ f.Stack.length) ∧ (o = 2 ∨ o = 7 ∨ o = 8 ∨ o = 9 ∨ o = 11 ∨ o = 15 → (1 : Int) ≤ f.Stack.length) ∧ (o = 13 → 0 ≤ (gd p a).Arity ∧ (gd p a).Arity ≤ f.Stack.length)) := by
  have cs : o = 0 ∨ o = 1 ∨ o = 2 ∨ o = 3 ∨ o = 4 ∨ o = 5 ∨ o = 6 ∨ o = 7 ∨ o = 8 ∨ o = 9 ∨ o = 10 ∨ o = 11 ∨ o = 12 ∨ o = 13 ∨ o = 14 ∨ o = 15 ∨ o = 16 := by omega
  by_cases o13 : o = 13
  · subst o13
    have hoff : frame_runner_off ⟨f, p, ⟨13, a, b⟩, act⟩ = some ((gd p a).Arity) := by
      unfold frame_runner_off
      rw [if_pos (by rfl)]
      exact if_pos (ha rfl)
    refine ⟨_, room_eq stk13 hoff (by omega) hs, fun h => ?_⟩
    have h := of_decide_eq_true h
    omega
  · have hoff : ∀ x on, op_Stack o = some (x, on) → frame_runner_off ⟨f, p, ⟨o, a, b⟩, act⟩ = some x := fun x on h => by
      unfold frame_runner_off
      rw [if_neg (by simpa using o13)]
      simp only
      rw [h]; rfl
    have key : ∀ x on, op_Stack o = some (x, on) → 0 ≤ on ∧ on ≤ 2 → ((o = 3 ∨ o = 4 ∨ o = 5 ∨ o = 6) → x = 2) → (o = 2 ∨ o = 7 ∨ o = 8 ∨ o = 9 ∨ o = 11 ∨ o = 15 → x = 1) → ∃ r, frame_runner_room ⟨f, p, ⟨o, a, b⟩, act⟩ = some r ∧ (r = true → (o = 3 ∨ o = 4 ∨ o = 5 ∨ o = 6 → (2 : Int) ≤ f.Stack.length) ∧ (o = 2 ∨ o = 7 ∨ o = 8 ∨ o = 9 ∨ o = 11 ∨ o = 15 → (1 : Int) ≤ f.Stack.length) ∧ (o = 13 → 0 ≤ (gd p a).Arity ∧ (gd p a).Arity ≤ f.Stack.length)) := fun x on h hon k1 k2 => by
      refine ⟨_, room_eq h (hoff x on h) hon hs, fun h => ?_⟩
      have h := of_decide_eq_true h
      refine ⟨fun q => ?_, fun q => ?_, fun q => absurd q o13⟩
      · have := k1 q; omega
      · have := k2 q; omega
    rcases cs with rfl | rfl | rfl | rfl | rfl | rfl | rfl | rfl | rfl | rfl | rfl | rfl | rfl | rfl | rfl | rfl | rfl
    · exact key _ _ stk0 (by omega) (by omega) (by omega)
    · exact key _ _ stk1 (by omega) (by omega) (by omega)
    · exact key _ _ stk2 (by omega) (by omega) (by omega)
    · exact key _ _ stk3 (by omega) (by omega) (by omega)
    · exact key _ _ stk4 (by omega) (by omega) (by omega)
    · exact key _ _ stk5 (by omega) (by omega) (by omega)
    · exact key _ _ stk6 (by omega) (by omega) (by omega)
    · exact key _ _ stk7 (by omega) (by omega) (by omega)
    · exact key _ _ stk8 (by omega) (by omega) (by omega)
    · exact key _ _ stk9 (by omega) (by omega) (by omega)
    · exact key _ _ stk10 (by omega) (by omega) (by omega)
    · exact key _ _ stk11 (by omega) (by omega) (by omega)
    · exact key _ _ stk12 (by omega) (by omega) (by omega)
    · exact absurd rfl o13
    · exact key _ _ stk14 (by omega) (by omega) (by omega)
    · exact key _ _ stk15 (by omega) (by omega) (by omega)
    · exact key _ _ stk16 (by omega) (by omega) (by omega)
theorem do_kept (K : Nat) (hK : 20 ≤ K) (p : List GFunc) (f : GFrame) (hs : f.Stack.length ≤ 40) (hl : f.Locals.length ≤ 40) (ht : f.Slots.length ≤ 40) : ∃ g a, frame_Do K p f = some (g, a) ∧ Kept f g a := by
  unfold frame_Do
  have hc : frame_clone f = some f := by
    unfold frame_clone slices_Clone_Value slices_Clone_Slot
    rw [if_pos (by unfold LIM; omega), if_pos (by unfold LIM; omega), if_pos (by unfold LIM; omega)]
    rfl
  have triv : Kept f f ⟨0, 0, 0, 0, []⟩ := ⟨fun _ => ⟨rfl, rfl⟩, rfl, rfl, rfl, rfl, rfl, rfl, .inl rfl, .inl rfl, .inr rfl, fun h => absurd h (by decide), by omega, by simp⟩
  by_cases h1 : f.State = 0
  · by_cases h2 : f.Fn < 0
    · exact ⟨f, ⟨0, 0, 0, 0, []⟩, by simp [bnd, h1, h2], triv⟩
    · by_cases h3 : f.Fn ≥ (p.length : Int)
      · exact ⟨f, ⟨0, 0, 0, 0, []⟩, by simp [bnd, h1, h2, h3], triv⟩
      · have hg : 0 ≤ f.Fn ∧ f.Fn < p.length := by omega
        have c1 : (f.State != 0) = false := by simp [h1]
        simp only [bnd, c1, h2, h3, decide_false, Bool.false_eq_true, if_false, hc, Option.bind_some, if_pos hg]
        rcases there_spec f p ⟨0, 0, 0⟩ ⟨1, 0, 0, 0, []⟩ ((gd p f.Fn).Code) with ⟨t, e⟩ | ⟨o, a, b, e, p0, p1, pi, pm, q1, q2, q3⟩
        · rw [e]
          simp only [Option.bind_some, Bool.not_false, if_true, frame_runner_trap, frame_runner_end, bnd]
          exact ⟨_, _, rfl, fun h => absurd h1 h, rfl, rfl, rfl, rfl, rfl, rfl, .inl rfl, .inl rfl, .inr rfl, fun _ => rfl, by simp only; omega, by simp⟩
        · rw [e]
          simp only [Option.bind_some, Bool.not_true, Bool.false_eq_true, if_false]
          have r := may_range pm
          simp only at r
          obtain ⟨rb, er, need⟩ := room_need (f := f) (p := p) (o := o) (a := a) (b := b) (act := ⟨1, 0, 0, 0, []⟩) ⟨r.1, r.2.1⟩ (fun h => ⟨r.2.2.1, (q3 h).1⟩) hs
          rw [er]
          simp only [Option.bind_some]
          cases rb with
          | false =>
            simp only [Bool.not_false, if_true, frame_runner_trap, frame_runner_end, bnd]
            exact ⟨_, _, rfl, fun h => absurd h1 h, rfl, rfl, rfl, rfl, rfl, rfl, .inl rfl, .inl rfl, .inr rfl, fun _ => rfl, by simp only; omega, by simp⟩
          | true =>
            obtain ⟨n2, n1, n13⟩ := need rfl
            simp only [Bool.not_true, Bool.false_eq_true, if_false]
            have plain : ∀ (_ : ¬ (o = 15)), ∃ g a_1, ((frame_runner_plain K ⟨f, p, ⟨o, a, b⟩, ⟨1, 0, 0, 0, []⟩⟩).bind fun y207 => some ({ f with Pc := y207.1, Stack := y207.2.1, Locals := y207.2.2.1, Slots := y207.2.2.2.1, Draws := y207.2.2.2.2 }, (⟨1, 0, 0, 0, []⟩ : GAct))) = some (g, a_1) ∧ Kept f g a_1 := fun o15 => by
              obtain ⟨pc, st, lo, dr, e, s1, s2, s3⟩ := plain_spec K hK (f := f) (p := p) (o := o) (a := a) (b := b) (act := ⟨1, 0, 0, 0, []⟩) hs (fun h => n1 (by omega)) (fun h => ⟨r.2.2.1, q1 h⟩)
              rw [e]
              exact ⟨_, _, rfl, fun h => absurd h1 h, rfl, rfl, rfl, rfl, s2, rfl, .inl rfl, s3, .inr rfl, fun h => absurd h (by decide), s1, by simp⟩
            have two : (o = 3 ∨ o = 4 ∨ o = 5 ∨ o = 6) → ∃ g a_1, ((frame_runner_two K ⟨f, p, ⟨o, a, b⟩, ⟨1, 0, 0, 0, []⟩⟩).bind fun y196 => some ({ f with Pc := y196.1, Stack := y196.2.1, Locals := y196.2.2.1, Slots := y196.2.2.2.1, State := y196.2.2.2.2.1, Out := (⟨y196.2.2.2.2.2.1, (⟨y196.2.2.2.2.2.2.1, y196.2.2.2.2.2.2.2.1⟩ : GValue)⟩ : GOut) }, (⟨y196.2.2.2.2.2.2.2.2.1, y196.2.2.2.2.2.2.2.2.2.1, y196.2.2.2.2.2.2.2.2.2.2.1, y196.2.2.2.2.2.2.2.2.2.2.2.1, y196.2.2.2.2.2.2.2.2.2.2.2.2⟩ : GAct))) = some (g, a_1) ∧ Kept f g a_1 := fun h => by
              obtain ⟨st, s1, e | e⟩ := two_spec K hK (f := f) (p := p) (o := o) (a := a) (b := b) (act := ⟨1, 0, 0, 0, []⟩) hs (n2 h)
              · rw [e]
                exact ⟨_, _, rfl, fun h => absurd h1 h, rfl, rfl, rfl, rfl, rfl, rfl, .inl rfl, .inl rfl, .inr rfl, fun _ => rfl, s1, by simp⟩
              · rw [e]
                exact ⟨_, _, rfl, fun h => absurd h1 h, rfl, rfl, rfl, rfl, rfl, rfl, .inl rfl, .inl rfl, .inr rfl, fun h => absurd h (by simp), s1, by simp⟩
            by_cases o16 : o = 16
            · rw [if_pos (by simpa using o16)]
              simp only [frame_runner_trap, frame_runner_end, bnd]
              exact ⟨_, _, rfl, fun h => absurd h1 h, rfl, rfl, rfl, rfl, rfl, rfl, .inl rfl, .inl rfl, .inr rfl, fun _ => rfl, by simp only; omega, by simp⟩
            rw [if_neg (by simpa using o16)]
            by_cases o15 : o = 15
            · have hl1 : (1 : Int) ≤ f.Stack.length := n1 (by omega)
              have n : (lcut f.Stack ((f.Stack.length : Int) - 1) f.Stack.length).length = 1 := by rw [lcut_len (by omega) (by omega) (by omega)]; omega
              rw [if_pos (by simpa using o15), pop_eq (by omega) hl1 (by omega)]
              simp only [Option.bind_some]
              rw [if_pos ⟨by omega, by omega⟩]
              simp only [frame_runner_trap, frame_runner_end, bnd]
              exact ⟨_, _, rfl, fun h => absurd h1 h, rfl, rfl, rfl, rfl, rfl, rfl, .inl rfl, .inl rfl, .inr rfl, fun _ => rfl, by simp only [List.length_take]; omega, by simp⟩
            rw [if_neg (by simpa using o15)]
            by_cases o13 : o = 13
            · rw [if_pos (by simpa using o13)]
              subst o13
              have g1 : 0 ≤ b ∧ b < (f.Slots.length : Int) := ⟨r.2.2.2.2.1, (q3 rfl).2⟩
              have n := n13 rfl
              unfold frame_runner_spawn
              simp only
              rw [if_pos g1]
              by_cases hb : (gd f.Slots b).State = 0
              · rw [if_neg (by simp [hb])]
                obtain ⟨c, ec⟩ := child_total K hK f.Seed f.Spawned
                rw [ec]
                have hoff : ∀ x : GFrame, frame_runner_off ⟨x, p, ⟨13, a, b⟩, ⟨1, 0, 0, 0, []⟩⟩ = some ((gd p a).Arity) := fun x => by
                  unfold frame_runner_off
                  rw [if_pos (by rfl)]
                  exact if_pos ⟨r.2.2.1, (q3 rfl).1⟩
                simp only [Option.bind_some, bnd]
                rw [hoff]
                simp only [Option.bind_some]
                rw [pop_eq (f := { f with Slots := f.Slots.set b.toNat ⟨1, frame_noRef, ⟨0, ⟨0, 0⟩⟩⟩ }) (p := p) (x := ⟨13, a, b⟩) (act := ⟨1, 0, 0, 0, []⟩) n.1 n.2 (show f.Stack.length ≤ 1000 by omega)]
                simp only [Option.bind_some]
                refine ⟨_, _, rfl, fun h => absurd h1 h, rfl, rfl, rfl, rfl, rfl, by simp, .inr ⟨rfl, rfl⟩, .inl rfl, .inl rfl, fun h => absurd h (by simp), by simp only [List.length_take]; omega, ?_⟩
                simp only
                rw [lcut_len (by omega) (by omega) (by omega)]
                omega
              · rw [if_pos (by simpa using hb)]
                simp only [frame_runner_trap, frame_runner_end, bnd]
                exact ⟨_, _, rfl, fun h => absurd h1 h, rfl, rfl, rfl, rfl, rfl, rfl, .inl rfl, .inl rfl, .inr rfl, fun _ => rfl, by simp only; omega, by simp⟩
            rw [if_neg (by simpa using o13)]
            by_cases o14 : o = 14
            · rw [if_pos (by simpa using o14)]
              have g1 : 0 ≤ a ∧ a < (f.Slots.length : Int) := ⟨r.2.2.1, q2 o14⟩
              unfold frame_runner_join
              simp only
              rw [if_pos g1]
              by_cases hb : (gd f.Slots a).State = 1
              · rw [if_pos (by simpa using hb)]
                exact ⟨_, _, rfl, fun h => absurd h1 h, rfl, rfl, rfl, rfl, rfl, rfl, .inl rfl, .inl rfl, .inr rfl, fun h => absurd h (by simp), by simp only; omega, by simp⟩
              rw [if_neg (by simpa using hb)]
              by_cases hb2 : (gd f.Slots a).State = 2
              · rw [if_pos (by simpa using hb2), if_pos g1]
                by_cases ht0 : (gd f.Slots a).Out.Trap = 0
                · rw [if_neg (by simp [ht0])]
                  rw [push_eq (by simp only; omega) (by simp)]
                  simp only [Option.bind_some]
                  exact ⟨_, _, rfl, fun h => absurd h1 h, rfl, rfl, rfl, rfl, rfl, by simp, .inl rfl, .inl rfl, .inr rfl, fun h => absurd h (by simp), by simp; omega, by simp⟩
                · rw [if_pos (by simpa using ht0)]
                  simp only [frame_runner_trap, frame_runner_end, bnd]
                  exact ⟨_, _, rfl, fun h => absurd h1 h, rfl, rfl, rfl, rfl, rfl, by simp, .inl rfl, .inl rfl, .inr rfl, fun _ => rfl, by simp only; omega, by simp⟩
              · rw [if_neg (by simpa using hb2)]
                simp only [frame_runner_trap, frame_runner_end, bnd]
                exact ⟨_, _, rfl, fun h => absurd h1 h, rfl, rfl, rfl, rfl, rfl, rfl, .inl rfl, .inl rfl, .inr rfl, fun _ => rfl, by simp only; omega, by simp⟩
            rw [if_neg (by simpa using o14)]
            by_cases o3 : o = 3
            · rw [if_pos (by simpa using o3), if_pos (by simpa using o3)]; exact two (by omega)
            rw [if_neg (by simpa using o3)]
            by_cases o4 : o = 4
            · rw [if_pos (by simpa using o4), if_pos (by simpa using o4)]; exact two (by omega)
            rw [if_neg (by simpa using o4)]
            by_cases o5 : o = 5
            · rw [if_pos (by simpa using o5), if_pos (by simpa using o5)]; exact two (by omega)
            rw [if_neg (by simpa using o5)]
            by_cases o6 : o = 6
            · rw [if_pos (by simpa using o6)]; exact two (by omega)
            rw [if_neg (by simpa using o6)]
            exact plain o15
  · exact ⟨f, ⟨0, 0, 0, 0, []⟩, by simp [bnd, h1], triv⟩
theorem act_same (a : GAct) (h : a.Args.length ≤ 100) : r09_SameAct 1000 a a = some true := by
  unfold r09_SameAct
  simp [bnd]
  rw [values_same1000 _ (by omega)]
theorem small_l1 (K : Nat) (p : List GFunc) (m : Int) (hp : p.length ≤ 20) : ∀ (d k : Nat) (n i : Int), 0 ≤ i → i ≤ p.length → (p.length : Int) - i = d → d < k → ∃ b, r07_Small_l1 K p m k (n, i) = some b := by
  intro d
  induction d with
  | zero =>
    intro k n i h0 h1 hd hk
    obtain ⟨k, rfl⟩ : ∃ m, k = m + 1 := ⟨k - 1, by omega⟩
    simp only [r07_Small_l1, bnd]
    rw [if_neg (by simp; omega)]
    exact ⟨_, rfl⟩
  | succ d ih =>
    intro k n i h0 h1 hd hk
    obtain ⟨k, rfl⟩ : ∃ m, k = m + 1 := ⟨k - 1, by omega⟩
    simp only [r07_Small_l1, bnd]
    rw [if_pos (by simp; omega), if_pos ⟨h0, by omega⟩, w64_id (x := i + 1) (by omega)]
    exact ih k _ (i + 1) (by omega) (by omega) (by omega) (by omega)
theorem smallp_total (K : Nat) (hK : 30 ≤ K) (p : List GFunc) (m : Int) : ∃ b, r07_Small K p m = some b := by
  unfold r07_Small
  by_cases h : p.length ≤ 20
  · exact small_l1 K p m h p.length K 0 0 (by omega) (by omega) (by omega) (by omega)
  · obtain ⟨k, rfl⟩ : ∃ m, K = m + 1 := ⟨K - 1, by omega⟩
    simp only [r07_Small_l1, bnd]
    rw [if_neg (by simp; omega)]
    exact ⟨_, rfl⟩
theorem fixed1000 : law09_fixed 1000 = some true := by kernel_rfl
theorem pure_FrameStill (x0 : List GFunc) (x1 : GFrame) : ∃ K, law09_FrameStill K x0 x1 = some true := by
  refine ⟨1000, ?_⟩
  unfold law09_FrameStill
  rw [fixed1000]
  obtain ⟨b, hb⟩ := smallp_total 1000 (by decide) x0 300
  rw [hb]
  simp only [Option.bind_some, bnd, Bool.not_true, Bool.false_eq_true, if_false]
  cases b with
  | false => simp
  | true =>
    simp only [Bool.not_true, Bool.false_eq_true, if_false]
    cases hs : r09_Small x1 with
    | false => simp
    | true =>
      obtain ⟨h1, h2, h3⟩ := small_of1000 hs
      obtain ⟨g, a, e, k⟩ := do_kept 1000 (by decide) x0 x1 h1 h2 h3
      simp only [Bool.not_true, Bool.false_eq_true, if_false]
      rw [e]
      simp only [Option.bind_some]
      rw [same_self1000 g (by have := k.stack; omega) (by have := k.locals; omega) (by have := k.slots; omega), act_same a k.argn]
      simp only [Option.bind_some, Bool.not_true, Bool.false_eq_true, if_false]
      have c1 : (if (x1.State != 0) = true then (r09_Same 1000 x1 g).bind fun y58 => some (if (!y58) = true then true else a.Kind != 0) else some false) = some false := by
        by_cases hst : x1.State = 0
        · simp [hst]
        · obtain ⟨rfl, rfl⟩ := k.still hst
          rw [same_self1000 g (by omega) (by omega) (by omega)]
          simp
      rw [c1]
      simp only [Option.bind_some, Bool.false_eq_true, if_false, k.fn, k.seed, k.up, k.upSlot, k.locals, k.slots, bne_self_eq_false, beq_self_eq_true, Bool.and_self, Bool.not_true]
      have c2 := k.spawned
      have c3 := k.draws
      have c4 := k.args
      have c5 := k.ends
      rcases c2 with c2 | ⟨c2, c2'⟩
      · rcases c3 with c3 | c3
        · by_cases ke : a.Kind = 4
          · rcases c4 with c4 | c4
            · omega
            · simp [c2, c3, c4, c5 ke]
          · rcases c4 with c4 | c4
            · simp [c2, c3, c4]
            · simp [c2, c3, c4, ke]
        · by_cases ke : a.Kind = 4
          · rcases c4 with c4 | c4
            · omega
            · simp [c2, c3, c4, c5 ke]
          · rcases c4 with c4 | c4
            · simp [c2, c3, c4]
            · simp [c2, c3, c4, ke]
      · rcases c3 with c3 | c3
        · simp [c2, c2', c3]
        · simp [c2, c2', c3]

end Go.Proofs.Ytcoepljalekglaa.FrameStill.W
