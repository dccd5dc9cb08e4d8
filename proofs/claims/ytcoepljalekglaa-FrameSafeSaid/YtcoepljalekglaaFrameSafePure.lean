/- The plain law of FrameSafe: what the walk's function tells is true. -/
import Derived.Test.YtcoepljalekglaaFrameSafeW3
import Derived.KernelRfl
set_option linter.unusedVariables false
set_option linter.unusedSimpArgs false
namespace Go.Proofs.Ytcoepljalekglaa.FrameSafe.W
open Go.Proofs.Ytcoepljalekglaa.G2 Go.Proofs
set_option maxRecDepth 100000
theorem w64_id {x : Int} (h : -9223372036854775808 ≤ x ∧ x ≤ 9223372036854775807) : w64 x = x := by
  unfold w64; rw [IntKind.wrap_i64]; omega
theorem rest_eq (n : Int) : gauss_rest n = n % 251 := by
  unfold gauss_rest
  have e : Int.tmod n 251 = n % 251 ∨ Int.tmod n 251 = n % 251 - 251 := by
    rw [Int.tmod_eq_emod]; split <;> simp
  have h : w64 (Int.tmod n 251 + 251) = Int.tmod n 251 + 251 := w64_id (by omega)
  rw [h, Int.tmod_eq_emod_of_nonneg (by omega)]
  omega
theorem of_is (v : GValue) : CIs (gauss_of v) (v.Re % 251) (v.Im % 251) := by
  unfold gauss_of
  simp only [bnd, rest_eq]
  exact ⟨is_fOf (by omega), is_fOf (by omega)⟩
theorem value_eq {u : Nat × Nat} {a b : Int} (h : CIs u a b) (ha : -1000000 ≤ a ∧ a ≤ 1000000) (hb : -1000000 ≤ b ∧ b ≤ 1000000) : gauss_value u = some ⟨a % 251, b % 251⟩ := by
  unfold gauss_value
  rw [h.1.toInt (by omega), h.2.toInt (by omega)]
  simp [bnd, gauss_Of, rest_eq]
theorem add_eq (x y : GValue) : gauss_Add x y = some ⟨(x.Re % 251 + y.Re % 251) % 251, (x.Im % 251 + y.Im % 251) % 251⟩ := by
  obtain ⟨r, e, i⟩ := (of_is x).add (of_is y) (by omega) (by omega)
  unfold gauss_Add
  simp only [bnd]
  rw [e]
  simp only [Option.bind_some]
  rw [value_eq i (by omega) (by omega)]
  rfl
theorem sub_eq (x y : GValue) : gauss_Sub x y = some ⟨(x.Re % 251 - y.Re % 251) % 251, (x.Im % 251 - y.Im % 251) % 251⟩ := by
  obtain ⟨r, e, i⟩ := (of_is x).sub (of_is y) (by omega) (by omega)
  unfold gauss_Sub
  simp only [bnd]
  rw [e]
  simp only [Option.bind_some]
  rw [value_eq i (by omega) (by omega)]
  rfl
theorem prod_bound (a b : Int) : 0 ≤ a % 251 * (b % 251) ∧ a % 251 * (b % 251) ≤ 62500 := by
  have h1 : 0 ≤ a % 251 ∧ a % 251 ≤ 250 := by omega
  have h2 : 0 ≤ b % 251 ∧ b % 251 ≤ 250 := by omega
  exact ⟨Int.mul_nonneg h1.1 h2.1, Int.mul_le_mul h1.2 h2.2 h2.1 (by omega)⟩
theorem mul_eq (x y : GValue) : gauss_Mul x y = some ⟨(x.Re % 251 * (y.Re % 251) - x.Im % 251 * (y.Im % 251)) % 251, (x.Re % 251 * (y.Im % 251) + x.Im % 251 * (y.Re % 251)) % 251⟩ := by
  have b1 := prod_bound x.Re y.Re
  have b2 := prod_bound x.Im y.Im
  have b3 := prod_bound x.Re y.Im
  have b4 := prod_bound x.Im y.Re
  obtain ⟨r, e, i⟩ := (of_is x).mul (of_is y) (by omega) (by omega) (by omega) (by omega) (by omega) (by omega)
  unfold gauss_Mul
  simp only [bnd]
  rw [e]
  simp only [Option.bind_some]
  rw [value_eq i (by omega) (by omega)]
  rfl
theorem conj_eq (x : GValue) : gauss_Conj x = some ⟨x.Re % 251, (-(x.Im % 251)) % 251⟩ := by
  have h := of_is x
  have i : CIs ((gauss_of x).1, fNeg (gauss_of x).2) (x.Re % 251) (-(x.Im % 251)) := ⟨h.1, h.2.neg⟩
  unfold gauss_Conj
  simp only [bnd]
  rw [value_eq i (by omega) (by omega)]
  simp
theorem pow_l1_total (K : Nat) : ∀ (j k : Nat) (a b c d n : Int), 0 ≤ n → n < 2 ^ j → n ≤ 1000000 → j < k → ∃ v, gauss_Pow_l1 K k (a, b, c, d, n) = some v := by
  intro j
  induction j with
  | zero =>
    intro k a b c d n h0 h1 hn hk
    obtain ⟨k, rfl⟩ : ∃ m, k = m + 1 := ⟨k - 1, by omega⟩
    have : n = 0 := by omega
    subst this
    exact ⟨_, rfl⟩
  | succ j ih =>
    intro k a b c d n h0 h1 hn hk
    obtain ⟨k, rfl⟩ : ∃ m, k = m + 1 := ⟨k - 1, by omega⟩
    simp only [gauss_Pow_l1]
    have e : w64 (n.tdiv 2) = n / 2 := by rw [Int.tdiv_eq_ediv_of_nonneg h0]; exact w64_id (by omega)
    have hp : (2 : Int) ^ (j + 1) = 2 * 2 ^ j := by rw [Int.pow_succ, Int.mul_comm]
    by_cases h : n > 0
    · rw [if_pos (by simpa using h)]
      rw [mul_eq, mul_eq]
      simp only [Option.bind_some]
      rw [e]
      split
      · exact ih k _ _ _ _ _ (by omega) (by omega) (by omega) (by omega)
      · exact ih k _ _ _ _ _ (by omega) (by omega) (by omega) (by omega)
    · rw [if_neg (by simpa using h)]
      exact ⟨_, rfl⟩
theorem pow_total (K : Nat) (hK : 20 ≤ K) (x : GValue) (n : Int) (h0 : 0 ≤ n) (hn : n < 65536) : ∃ v, gauss_Pow K x n = some v := by
  unfold gauss_Pow
  rw [if_neg (by simp; omega)]
  simp only [bnd]
  rw [value_eq (of_is x) (by omega) (by omega)]
  simp only [Option.bind_some]
  exact pow_l1_total K 16 K _ _ _ _ _ h0 hn (by omega) (by omega)
theorem div_total (K : Nat) (hK : 20 ≤ K) (x y : GValue) : ∃ r, gauss_Div K x y = some r := by
  unfold gauss_Div
  simp only [bnd]
  split
  · exact ⟨_, rfl⟩
  · obtain ⟨v, h⟩ := pow_total K hK y 62999 (by omega) (by omega)
    rw [h]
    simp only [Option.bind_some]
    rw [mul_eq]
    exact ⟨_, rfl⟩
def mixStep (z : Int) : Int := IntKind.wrap .u32 ((ixor .u32 z (ishr .u32 z 15)) * 2246822507)
def mixEnd (z : Int) : Int := w64 (ixor .u32 z (ishr .u32 z 13))
theorem mix_l1 (K : Nat) (k : Nat) (z : Int) : seed_Mix_l1 K (k + 3) (0, z) = some (mixEnd (mixStep (mixStep z))) := by
  have e1 : w64 (0 + 1) = 1 := by decide
  have e2 : w64 (1 + 1) = 2 := by decide
  simp only [seed_Mix_l1]
  rw [if_pos (by decide), e1, if_pos (by decide), e2, if_neg (by decide)]
  rfl
theorem mix_total (K : Nat) (hK : 20 ≤ K) (x y : Int) : ∃ r, seed_Mix K x y = some r := by
  unfold seed_Mix
  simp only [bnd]
  have e : ∀ z, seed_Mix_l1 K K (0, z) = some (mixEnd (mixStep (mixStep z))) := fun z => by
    have := mix_l1 K (K - 3) z
    rwa [show K - 3 + 3 = K by omega] at this
  repeat' split
  all_goals first | exact ⟨_, rfl⟩ | exact ⟨_, e _⟩
theorem seedof_total (K : Nat) (hK : 20 ≤ K) (x y z : Int) : ∃ r, seed_of K x y z = some r := by
  unfold seed_of
  obtain ⟨a, h⟩ := mix_total K hK x y
  obtain ⟨b, h2⟩ := mix_total K hK a z
  rw [h]; simp only [Option.bind_some]; rw [h2]
  exact ⟨_, rfl⟩
theorem child_total (K : Nat) (hK : 20 ≤ K) (x y : Int) : ∃ r, seed_Child K x y = some r := by
  unfold seed_Child
  obtain ⟨a, h⟩ := seedof_total K hK x 1 y
  rw [h]; simp only [Option.bind_some]
  split <;> exact ⟨_, rfl⟩
theorem draw_total (K : Nat) (hK : 20 ≤ K) (x y : Int) : ∃ r, seed_Draw K x y = some r := by
  unfold seed_Draw
  obtain ⟨a, h⟩ := seedof_total K hK x 2 y
  rw [h]; simp only [Option.bind_some]
  split <;> exact ⟨_, rfl⟩

set_option maxRecDepth 100000
theorem spans_bound (o : Int) : 0 ≤ (op_spans o).1.least ∧ (op_spans o).1.most ≤ 255 ∧ 0 ≤ (op_spans o).2.least ∧ (op_spans o).2.most ≤ 255 := by
  unfold op_spans
  repeat' split
  all_goals decide
theorem may_range {i : GInstr} (h : op_May i = true) : 0 ≤ i.Op ∧ i.Op < 17 ∧ 0 ≤ i.A ∧ i.A ≤ 255 ∧ 0 ≤ i.B ∧ i.B ≤ 255 := by
  unfold op_May op_span_has at h
  simp only [bnd] at h
  have b := spans_bound i.Op
  by_cases h1 : i.Op ≥ 0
  · by_cases h2 : i.Op < 17
    · by_cases h3 : i.A ≥ (op_spans i.Op).1.least
      · by_cases h4 : i.A ≤ (op_spans i.Op).1.most
        · by_cases h5 : i.B ≥ (op_spans i.Op).2.least
          · by_cases h6 : i.B ≤ (op_spans i.Op).2.most
            · omega
            · simp [h1, h2, h3, h4, h5, h6] at h
          · simp [h1, h2, h3, h4, h5] at h
        · simp [h1, h2, h3, h4] at h
      · simp [h1, h2, h3] at h
    · simp [h1, h2] at h
  · simp [h1] at h
theorem there_spec (f : GFrame) (p : List GFunc) (x : GInstr) (act : GAct) (l : List GInstr) :
    (∃ t, frame_runner_there ⟨f, p, x, act⟩ l = some (false, t)) ∨
    (∃ o a b, frame_runner_there ⟨f, p, x, act⟩ l = some (true, o, a, b) ∧ 0 ≤ f.Pc ∧ f.Pc < l.length ∧ gd l f.Pc = ⟨o, a, b⟩ ∧ op_May ⟨o, a, b⟩ = true ∧ ((o = 1 ∨ o = 2) → a < f.Locals.length) ∧ (o = 14 → a < f.Slots.length) ∧ (o = 13 → a < p.length ∧ b < f.Slots.length)) := by
  unfold frame_runner_there
  simp only [bnd]
  by_cases h1 : f.Pc < 0
  · left; simp [h1]
  · by_cases h2 : f.Pc ≥ (l.length : Int)
    · left; simp [h1, h2]
    · have g : 0 ≤ f.Pc ∧ f.Pc < l.length := by omega
      simp only [h1, h2, decide_false, Bool.false_eq_true, if_false, if_pos g, Option.bind_some]
      generalize gd l f.Pc = i
      obtain ⟨o, a, b⟩ := i
      simp only
      cases hm : op_May ⟨o, a, b⟩ with
      | false => left; simp
      | true =>
        simp only [Bool.not_true, Bool.false_eq_true, if_false]
        by_cases o1 : o = 1
        · subst o1
          by_cases q : a < (f.Locals.length : Int)
          · right; exact ⟨1, a, b, by simp [q], g.1, g.2, rfl, hm, fun _ => q, fun h => absurd h (by decide), fun h => absurd h (by decide)⟩
          · left; simp [q]
        · by_cases o2 : o = 2
          · subst o2
            by_cases q : a < (f.Locals.length : Int)
            · right; exact ⟨2, a, b, by simp [q], g.1, g.2, rfl, hm, fun _ => q, fun h => absurd h (by decide), fun h => absurd h (by decide)⟩
            · left; simp [q]
          · by_cases o3 : o = 14
            · subst o3
              by_cases q : a < (f.Slots.length : Int)
              · right; exact ⟨14, a, b, by simp [q], g.1, g.2, rfl, hm, fun h => absurd h (by decide), fun _ => q, fun h => absurd h (by decide)⟩
              · left; simp [q]
            · by_cases o4 : o = 13
              · subst o4
                by_cases q : a < (p.length : Int)
                · by_cases q2 : b < (f.Slots.length : Int)
                  · right; exact ⟨13, a, b, by simp [q, q2], g.1, g.2, rfl, hm, fun h => absurd h (by decide), fun h => absurd h (by decide), fun _ => ⟨q, q2⟩⟩
                  · left; simp [q, q2]
                · left; simp [q]
              · right; exact ⟨o, a, b, by simp [o1, o2, o3, o4], g.1, g.2, rfl, hm, fun h => by omega, fun h => absurd h o3, fun h => absurd h o4⟩
theorem pop_eq {f : GFrame} {p : List GFunc} {x : GInstr} {act : GAct} {n : Int} (h0 : 0 ≤ n) (h1 : n ≤ f.Stack.length) (h2 : f.Stack.length ≤ 1000) :
    frame_runner_pop ⟨f, p, x, act⟩ n = some (lcut f.Stack (f.Stack.length - n) f.Stack.length, f.Stack.take ((f.Stack.length : Int) - n).toNat) := by
  unfold frame_runner_pop slices_Clone_Value
  have e : w64 ((f.Stack.length : Int) - n) = f.Stack.length - n := w64_id (by omega)
  simp only [e]
  have hl : (lcut f.Stack ((f.Stack.length : Int) - n) f.Stack.length).length ≤ 1000 := by rw [lcut_len (by omega) (by omega) (by omega)]; omega
  have g : 0 ≤ (f.Stack.length : Int) - n ∧ (f.Stack.length : Int) - n ≤ f.Stack.length := by omega
  rw [if_pos g, if_pos (by unfold LIM; omega)]
  simp only [Option.bind_some, if_pos g]
theorem push_eq {f : GFrame} {p : List GFunc} {x : GInstr} {act : GAct} {l : List GValue} (h2 : f.Stack.length ≤ 1000) (h3 : l.length ≤ 1000) :
    frame_runner_push ⟨f, p, x, act⟩ l = some (f.Stack ++ l) := by
  unfold frame_runner_push
  rw [if_pos (by unfold LIM; simp only; omega)]
theorem stk0 : op_Stack 0 = some (0, 1) := by kernel_rfl
theorem stk1 : op_Stack 1 = some (0, 1) := by kernel_rfl
theorem stk2 : op_Stack 2 = some (1, 0) := by kernel_rfl
theorem stk3 : op_Stack 3 = some (2, 1) := by kernel_rfl
theorem stk4 : op_Stack 4 = some (2, 1) := by kernel_rfl
theorem stk5 : op_Stack 5 = some (2, 1) := by kernel_rfl
theorem stk6 : op_Stack 6 = some (2, 1) := by kernel_rfl
theorem stk7 : op_Stack 7 = some (1, 1) := by kernel_rfl
theorem stk8 : op_Stack 8 = some (1, 2) := by kernel_rfl
theorem stk9 : op_Stack 9 = some (1, 0) := by kernel_rfl
theorem stk10 : op_Stack 10 = some (0, 0) := by kernel_rfl
theorem stk11 : op_Stack 11 = some (1, 0) := by kernel_rfl
theorem stk12 : op_Stack 12 = some (0, 1) := by kernel_rfl
theorem stk13 : op_Stack 13 = some (0, 0) := by kernel_rfl
theorem stk14 : op_Stack 14 = some (0, 1) := by kernel_rfl
theorem stk15 : op_Stack 15 = some (1, 0) := by kernel_rfl
theorem stk16 : op_Stack 16 = some (0, 0) := by kernel_rfl
theorem room_eq {f : GFrame} {p : List GFunc} {o a b : Int} {act : GAct} {x off on : Int} (h1 : op_Stack o = some (x, on)) (h2 : frame_runner_off ⟨f, p, ⟨o, a, b⟩, act⟩ = some off) (hon : 0 ≤ on ∧ on ≤ 2) (hs : f.Stack.length ≤ 40) :
    frame_runner_room ⟨f, p, ⟨o, a, b⟩, act⟩ = some (decide (0 ≤ off ∧ off ≤ f.Stack.length ∧ (on = 0 ∨ (f.Stack.length : Int) - off + on ≤ 16))) := by
  unfold frame_runner_room
  simp only
  rw [h1, h2]
  simp only [Option.bind_some, bnd]
  by_cases q1 : off ≥ 0
  · by_cases q2 : (f.Stack.length : Int) ≥ off
    · rw [w64_id (x := (f.Stack.length : Int) - off) (by omega), w64_id (by omega)]
      by_cases q3 : on = 0
      · simp [q1, q2, q3]
      · have q3' : (on == 0) = false := by simpa using q3
        by_cases q4 : (f.Stack.length : Int) - off + on ≤ 16
        · simp [q1, q2, q3, q4]
        · simp [q1, q2, q3, q4]
    · simp [q1, q2]
  · simp [q1]

/-- A function that memory can hold. -/
def FuncOk (x : GFunc) : Prop := IntKind.i64.min ≤ x.Arity ∧ x.Arity ≤ IntKind.i64.max ∧ x.Code.length ≤ maxLen
abbrev rGFuncB : Rep GFunc := rGFunc.also FuncOk
theorem FuncOk.arity {x : GFunc} (h : FuncOk x) : -9223372036854775808 ≤ x.Arity ∧ x.Arity ≤ 9223372036854775807 := ⟨h.1, h.2.1⟩
theorem FuncOk.code {x : GFunc} (h : FuncOk x) : x.Code.length ≤ 9223372036854775807 := h.2.2

set_option maxRecDepth 100000
theorem ops17 {o : Int} (h : 0 ≤ o ∧ o < 17) : o = 0 ∨ o = 1 ∨ o = 2 ∨ o = 3 ∨ o = 4 ∨ o = 5 ∨ o = 6 ∨ o = 7 ∨ o = 8 ∨ o = 9 ∨ o = 10 ∨ o = 11 ∨ o = 12 ∨ o = 13 ∨ o = 14 ∨ o = 15 ∨ o = 16 := by omega
theorem may6 (i : GInstr) : op_May i = r06_May i := by
  obtain ⟨o, a, b⟩ := i
  by_cases h : 0 ≤ o ∧ o < 17
  · rcases ops17 h with rfl | rfl | rfl | rfl | rfl | rfl | rfl | rfl | rfl | rfl | rfl | rfl | rfl | rfl | rfl | rfl | rfl <;>
      (simp only [op_May, r06_May, op_spans, op_span_has, r06_Fields, r06_most, bnd]; rw [Bool.eq_iff_iff]; simp; omega)
  · have h1 : (if decide (o ≥ 0) then decide (o < 17) else false) = false := by
      by_cases q : o ≥ 0
      · simp [q] <;> omega
      · simp [q]
    have h2 : (if decide (o < 0) then true else decide (o > 16)) = true := by
      by_cases q : o < 0
      · simp [q]
      · simp [q] <;> omega
    unfold op_May r06_May
    simp only [bnd, h1, h2, if_true, Bool.false_eq_true, if_false]
theorem gd_set {α : Type} [Inhabited α] {xs : List α} {i j : Int} {x : α} (hi : 0 ≤ i) (hj : 0 ≤ j) (hl : j < xs.length) : gd (xs.set i.toNat x) j = if i = j then x else gd xs j := by
  have hb : j < ((xs.set i.toNat x).length : Int) := by simpa using hl
  rw [gd_mem hj hb]
  split
  · rename_i e; subst e; simp
  · rename_i e
    rw [List.getElem_set_ne (by omega), gd_mem hj hl]
theorem gd_memL {α : Type} [Inhabited α] {xs : List α} {i : Int} (h0 : 0 ≤ i) (h1 : i < xs.length) : gd xs i ∈ xs := by
  rw [gd_mem h0 h1]; exact List.getElem_mem _

set_option maxRecDepth 100000
theorem drop_gdA {α : Type} [Inhabited α] {xs : List α} {i : Int} (h0 : 0 ≤ i) (h1 : i < xs.length) : xs.drop i.toNat = gd xs i :: xs.drop (i + 1).toNat := by
  rw [gd_mem h0 h1, show (i + 1).toNat = i.toNat + 1 by omega]
  exact List.drop_eq_getElem_cons (by omega)
theorem take_gdA {α : Type} [Inhabited α] {xs : List α} {i : Int} (h0 : 0 ≤ i) (h1 : i < xs.length) : xs.take (i + 1).toNat = xs.take i.toNat ++ [gd xs i] := by
  rw [gd_mem h0 h1, show (i + 1).toNat = i.toNat + 1 by omega]
  exact (List.take_append_getElem (by omega)).symm
theorem idx_instr (K : Nat) (xs : List GInstr) (hn : xs.length ≤ 9223372036854775807) : ∀ (d k : Nat) (i : Int), 0 ≤ i → i ≤ xs.length → (xs.length : Int) - i = d → d < k → ∃ r, slices_IndexFunc_Instr_at47_l1 K xs k i = some r ∧ decide (r ≥ 0) = !((xs.drop i.toNat).all r06_May) := by
  intro d
  induction d with
  | zero =>
    intro k i h0 h1 hd hk
    obtain ⟨k, rfl⟩ : ∃ m, k = m + 1 := ⟨k - 1, by omega⟩
    simp only [slices_IndexFunc_Instr_at47_l1]
    rw [if_neg (by simp; omega)]
    refine ⟨_, rfl, ?_⟩
    rw [List.drop_of_length_le (by omega)]
    rfl
  | succ d ih =>
    intro k i h0 h1 hd hk
    obtain ⟨k, rfl⟩ : ∃ m, k = m + 1 := ⟨k - 1, by omega⟩
    simp only [slices_IndexFunc_Instr_at47_l1, bnd]
    rw [if_pos (by simp; omega), if_pos ⟨h0, by omega⟩, drop_gdA h0 (by omega)]
    have hc : code_May_1 ⟨(gd xs i).Op, (gd xs i).A, (gd xs i).B⟩ = !r06_May (gd xs i) := by
      unfold code_May_1; rw [← may6]; rfl
    rw [hc]
    cases hb : r06_May (gd xs i) with
    | false =>
      rw [if_pos (by simp)]
      exact ⟨_, rfl, by simp [hb, h0]⟩
    | true =>
      rw [if_neg (by simp), w64_id (x := i + 1) (by omega)]
      obtain ⟨r, e, hr⟩ := ih k (i + 1) (by omega) (by omega) (by omega) (by omega)
      refine ⟨r, e, ?_⟩
      rw [hr]
      simp [hb]
theorem contains_instr (K : Nat) (xs : List GInstr) (hn : xs.length ≤ 9223372036854775807) (hK : xs.length < K) : slices_ContainsFunc_Instr_at47 K xs = some (!(xs.all r06_May)) := by
  obtain ⟨r, e, hr⟩ := idx_instr K xs hn xs.length K 0 (by omega) (by omega) (by omega) (by omega)
  unfold slices_ContainsFunc_Instr_at47 slices_IndexFunc_Instr_at47
  rw [e]
  simp only [Option.bind_some, hr, show ((0 : Int)).toNat = 0 from rfl, List.drop_zero]
def headB (f : GFunc) : Bool := decide (0 ≤ f.Arity ∧ f.Arity ≤ 16 ∧ 0 ≤ f.Locals ∧ f.Locals ≤ 16 ∧ 0 ≤ f.Slots ∧ f.Slots ≤ 8)
theorem in_eq (x a b : Int) : code_in x a b = decide (a ≤ x ∧ x ≤ b) := by
  unfold code_in; simp only [bnd]
  by_cases h : x ≥ a
  · have : a ≤ x := h
    simp [h, this]
  · have : ¬ a ≤ x := h
    simp [this]
theorem head_code (f : GFunc) : code_head f = headB f := by
  unfold code_head headB
  simp only [bnd, in_eq]
  by_cases h1 : 0 ≤ f.Arity ∧ f.Arity ≤ 16
  · by_cases h2 : 0 ≤ f.Locals ∧ f.Locals ≤ 16
    · simp [h1, h2]
    · rw [decide_eq_false h2, decide_eq_true h1]; simp; omega
  · rw [decide_eq_false h1]; simp; omega
theorem head_ref (f : GFunc) : r07_Head f = headB f := by
  unfold r07_Head headB
  simp only [bnd]
  by_cases h1 : f.Arity ≥ 0
  · by_cases h2 : f.Arity ≤ 16
    · by_cases h3 : f.Locals ≥ 0
      · by_cases h4 : f.Locals ≤ 16
        · by_cases h5 : f.Slots ≥ 0
          · simp [h1, h2, h3, h4, h5] <;> omega
          · simp [h1, h2, h3, h4, h5] <;> omega
        · simp [h1, h2, h3, h4] <;> omega
      · simp [h1, h2, h3] <;> omega
    · simp [h1, h2] <;> omega
  · simp [h1] <;> omega
def okF (f : GFunc) : Bool := headB f && (decide (1 ≤ (f.Code.length : Int) ∧ (f.Code.length : Int) ≤ 200) && f.Code.all r06_May)
theorem code_l1 (K : Nat) (p : List GFunc) (hp : ∀ f ∈ p, f.Code.length ≤ 9223372036854775807 ∧ f.Code.length < K) (hn : p.length ≤ 20) : ∀ (d k : Nat) (i : Int), 0 ≤ i → i ≤ p.length → (p.length : Int) - i = d → d < k → code_May_l1 K p k i = some ((p.drop i.toNat).all okF && decide (1 ≤ (p.length : Int) ∧ (p.length : Int) ≤ 16)) := by
  intro d
  induction d with
  | zero =>
    intro k i h0 h1 hd hk
    obtain ⟨k, rfl⟩ : ∃ m, k = m + 1 := ⟨k - 1, by omega⟩
    simp only [code_May_l1, bnd]
    rw [if_neg (by simp; omega), List.drop_of_length_le (by omega), in_eq]
    rfl
  | succ d ih =>
    intro k i h0 h1 hd hk
    obtain ⟨k, rfl⟩ : ∃ m, k = m + 1 := ⟨k - 1, by omega⟩
    simp only [code_May_l1, bnd]
    rw [if_pos (by simp; omega), if_pos ⟨h0, by omega⟩, drop_gdA h0 (by omega)]
    have hm := hp _ (gd_memL h0 (show i < p.length by omega))
    rw [contains_instr K _ hm.1 hm.2, in_eq, show code_head ⟨(gd p i).Arity, (gd p i).Locals, (gd p i).Slots, (gd p i).Code⟩ = headB (gd p i) from head_code _, w64_id (x := i + 1) (by omega), ih k (i + 1) (by omega) (by omega) (by omega) (by omega)]
    rw [List.all_cons]
    unfold okF
    generalize decide (1 ≤ ((gd p i).Code.length : Int) ∧ ((gd p i).Code.length : Int) ≤ 200) = B1
    cases headB (gd p i) <;> cases B1 <;> cases (gd p i).Code.all r06_May <;> rfl
theorem code_ref_l2 (K : Nat) (p : List GFunc) (i : Int) (hi : 0 ≤ i ∧ i < p.length) (rec : Int → Option Bool) (hn : (gd p i).Code.length ≤ 9223372036854775807) : ∀ (d k : Nat) (j : Int), 0 ≤ j → j ≤ (gd p i).Code.length → ((gd p i).Code.length : Int) - j = d → d < k → r07_May_l2 K p i rec k j = if ((gd p i).Code.drop j.toNat).all r06_May && (headB (gd p i) && decide (1 ≤ ((gd p i).Code.length : Int) ∧ ((gd p i).Code.length : Int) ≤ 200)) then rec (w64 (i + 1)) else some false := by
  intro d
  induction d with
  | zero =>
    intro k j h0 h1 hd hk
    obtain ⟨k, rfl⟩ : ∃ m, k = m + 1 := ⟨k - 1, by omega⟩
    simp only [r07_May_l2, bnd]
    rw [if_pos hi, if_neg (by simp; omega), List.drop_of_length_le (by omega)]
    simp only [if_pos hi]
    rw [show r07_Head ⟨(gd p i).Arity, (gd p i).Locals, (gd p i).Slots, (gd p i).Code⟩ = headB (gd p i) from head_ref _]
    cases headB (gd p i) with
    | false => rfl
    | true =>
      by_cases q1 : ((gd p i).Code.length : Int) < 1
      · have q2 : ¬ 1 ≤ ((gd p i).Code.length : Int) := by omega
        simp [q1, q2]
      · by_cases q3 : ((gd p i).Code.length : Int) > 200
        · have q2 : ¬ ((gd p i).Code.length : Int) ≤ 200 := by omega
          simp [q1, q3, q2]
        · have q2 : 1 ≤ ((gd p i).Code.length : Int) ∧ ((gd p i).Code.length : Int) ≤ 200 := by omega
          simp only [q1, q3, q2, decide_true, decide_false, Bool.not_true, Bool.false_eq_true, if_false, Option.bind_some, if_true, Bool.and_self, List.all_nil, and_self]
  | succ d ih =>
    intro k j h0 h1 hd hk
    obtain ⟨k, rfl⟩ : ∃ m, k = m + 1 := ⟨k - 1, by omega⟩
    have g2 : 0 ≤ j ∧ j < (gd p i).Code.length := by omega
    simp only [r07_May_l2, bnd]
    rw [if_pos hi, if_pos (by simp; omega)]
    simp only [if_pos hi, if_pos g2]
    rw [drop_gdA h0 (by omega), List.all_cons, show r06_May ⟨(gd (gd p i).Code j).Op, (gd (gd p i).Code j).A, (gd (gd p i).Code j).B⟩ = r06_May (gd (gd p i).Code j) from rfl]
    cases hb : r06_May (gd (gd p i).Code j) with
    | false => simp
    | true =>
      rw [if_neg (by simp), w64_id (x := j + 1) (by omega), ih k (j + 1) (by omega) (by omega) (by omega) (by omega)]
      rw [Bool.true_and]
theorem code_ref_l1 (K : Nat) (p : List GFunc) (hp : ∀ f ∈ p, f.Code.length ≤ 9223372036854775807 ∧ f.Code.length < K) (hn : p.length ≤ 20) : ∀ (d k : Nat) (i : Int), 0 ≤ i → i ≤ p.length → (p.length : Int) - i = d → d < k → r07_May_l1 K p k i = some ((p.drop i.toNat).all okF && decide (1 ≤ (p.length : Int) ∧ (p.length : Int) ≤ 16)) := by
  intro d
  induction d with
  | zero =>
    intro k i h0 h1 hd hk
    obtain ⟨k, rfl⟩ : ∃ m, k = m + 1 := ⟨k - 1, by omega⟩
    simp only [r07_May_l1, bnd]
    rw [if_neg (by simp; omega), List.drop_of_length_le (by omega)]
    by_cases q : (p.length : Int) ≥ 1
    · have : 1 ≤ (p.length : Int) := q
      simp [q, this]
    · have : ¬ 1 ≤ (p.length : Int) := q
      simp [this]
  | succ d ih =>
    intro k i h0 h1 hd hk
    obtain ⟨k, rfl⟩ : ∃ m, k = m + 1 := ⟨k - 1, by omega⟩
    simp only [r07_May_l1]
    rw [if_pos (by simp; omega), drop_gdA h0 (by omega)]
    have hm := hp _ (gd_memL h0 (show i < p.length by omega))
    rw [code_ref_l2 K p i ⟨h0, by omega⟩ _ hm.1 (gd p i).Code.length K 0 (by omega) (by omega) (by omega) (by omega), w64_id (x := i + 1) (by omega), ih k (i + 1) (by omega) (by omega) (by omega) (by omega)]
    rw [List.all_cons, show ((0 : Int)).toNat = 0 from rfl, List.drop_zero]
    unfold okF
    generalize decide (1 ≤ ((gd p i).Code.length : Int) ∧ ((gd p i).Code.length : Int) ≤ 200) = B1
    cases headB (gd p i) <;> cases B1 <;> cases (gd p i).Code.all r06_May <;> rfl
def mayB (p : List GFunc) : Bool := p.all okF && decide (1 ≤ (p.length : Int) ∧ (p.length : Int) ≤ 16)
theorem code_may (K : Nat) (p : List GFunc) (hp : ∀ f ∈ p, f.Code.length ≤ 9223372036854775807 ∧ f.Code.length < K) (hn : p.length ≤ 20) (hK : 1000 ≤ K) : code_May K p = some (mayB p) := by
  have := code_l1 K p hp hn p.length K 0 (by omega) (by omega) (by omega) (by omega)
  exact this
theorem code_may_ref (K : Nat) (p : List GFunc) (hp : ∀ f ∈ p, f.Code.length ≤ 9223372036854775807 ∧ f.Code.length < K) (hn : p.length ≤ 20) (hK : 1000 ≤ K) : r07_May K p = some (mayB p) := by
  have := code_ref_l1 K p hp hn p.length K 0 (by omega) (by omega) (by omega) (by omega)
  exact this

set_option maxRecDepth 100000
def Edge (p : List GFunc) (f : GFunc) (D : List Int) (i : Int) : Prop := ∃ b, r08_behind p (gd f.Code i) (gd D i) = some b ∧ 0 ≤ b ∧ ∀ nx ∈ r08_Next (gd f.Code i) i, 0 ≤ nx ∧ nx < f.Code.length ∧ gd D nx = b
theorem Edge.mono {p : List GFunc} {f : GFunc} {D D' : List Int} {i : Int} (h : Edge p f D i) (hi : 0 ≤ i ∧ i < f.Code.length) (hd : 0 ≤ gd D i) (ag : ∀ j : Int, 0 ≤ j → j < f.Code.length → 0 ≤ gd D j → gd D' j = gd D j) : Edge p f D' i := by
  obtain ⟨b, h1, h2, h3⟩ := h
  refine ⟨b, by rw [ag i hi.1 hi.2 hd]; exact h1, h2, fun nx hn => ?_⟩
  obtain ⟨q1, q2, q3⟩ := h3 nx hn
  exact ⟨q1, q2, by rw [ag nx q1 q2 (by omega), q3]⟩
theorem l3_spec (K : Nat) (f : GFunc) (done : List Bool) (at_ b : Int) (l : List Int) (hl : ∀ nx ∈ l, 0 ≤ nx) (hb : 0 ≤ b) (hlen : l.length ≤ 10) (rec : (List Int × List Bool) → Option (List Int × Int × Int)) :
    ∀ (d k : Nat) (j : Int) (dep : List Int), 0 ≤ j → j ≤ l.length → (l.length : Int) - j = d → d < k → dep.length = f.Code.length →
    (∃ D a e, r08_reach_l3 K f done at_ b l rec k (j, dep) = some (D, a, e) ∧ e ≠ 0) ∨
    (∃ dep', dep'.length = f.Code.length ∧ (∀ i : Int, 0 ≤ i → i < f.Code.length → 0 ≤ gd dep i → gd dep' i = gd dep i) ∧ (∀ nx ∈ l.drop j.toNat, nx < f.Code.length ∧ gd dep' nx = b) ∧ r08_reach_l3 K f done at_ b l rec k (j, dep) = rec (dep', done.set at_.toNat true)) := by
  intro d
  induction d with
  | zero =>
    intro k j dep h0 h1 hd hk hn
    obtain ⟨k, rfl⟩ : ∃ m, k = m + 1 := ⟨k - 1, by omega⟩
    right
    simp only [r08_reach_l3]
    rw [if_neg (by simp; omega)]
    refine ⟨dep, hn, fun _ _ _ _ => rfl, fun nx h => ?_, rfl⟩
    rw [List.drop_of_length_le (by omega)] at h
    cases h
  | succ d ih =>
    intro k j dep h0 h1 hd hk hn
    obtain ⟨k, rfl⟩ : ∃ m, k = m + 1 := ⟨k - 1, by omega⟩
    have gj : 0 ≤ j ∧ j < l.length := by omega
    have hnx := hl _ (gd_memL gj.1 gj.2)
    have hdrop : l.drop j.toNat = gd l j :: l.drop (j + 1).toNat := by
      rw [gd_mem gj.1 gj.2, show (j + 1).toNat = j.toNat + 1 by omega]
      exact List.drop_eq_getElem_cons (by omega)
    simp only [r08_reach_l3]
    rw [if_pos (by simp; omega)]
    simp only [if_pos gj]
    by_cases c1 : gd l j ≥ (f.Code.length : Int)
    · left
      rw [if_pos (by simpa using c1)]
      exact ⟨_, _, _, rfl, by decide⟩
    · rw [if_neg (by simpa using c1)]
      have gn : 0 ≤ gd l j ∧ gd l j < dep.length := by omega
      simp only [if_pos gn]
      have cont : (0 ≤ gd dep (gd l j) → gd dep (gd l j) = b) → (∃ D a e, r08_reach_l3 K f done at_ b l rec k (w64 (j + 1), dep.set (gd l j).toNat b) = some (D, a, e) ∧ e ≠ 0) ∨
          (∃ dep', dep'.length = f.Code.length ∧ (∀ i : Int, 0 ≤ i → i < f.Code.length → 0 ≤ gd dep i → gd dep' i = gd dep i) ∧ (∀ nx ∈ l.drop j.toNat, nx < f.Code.length ∧ gd dep' nx = b) ∧ r08_reach_l3 K f done at_ b l rec k (w64 (j + 1), dep.set (gd l j).toNat b) = rec (dep', done.set at_.toNat true)) := fun hc => by
        rw [w64_id (by omega)]
        rcases ih k (j + 1) (dep.set (gd l j).toNat b) (by omega) (by omega) (by omega) (by omega) (by simpa using hn) with h | ⟨dep', e1, e2, e3, e4⟩
        · exact .inl h
        · have hg : ∀ i : Int, 0 ≤ i → i < f.Code.length → gd (dep.set (gd l j).toNat b) i = if gd l j = i then b else gd dep i := fun i i0 i1 => gd_set gn.1 i0 (by omega)
          refine .inr ⟨dep', e1, fun i i0 i1 id => ?_, fun nx hx => ?_, e4⟩
          · have h5 := hg i i0 i1
            by_cases q : gd l j = i
            · rw [if_pos q] at h5
              have h6 := hc (by rw [q]; exact id)
              rw [q] at h6
              rw [e2 i i0 i1 (by omega), h5, h6]
            · rw [if_neg q] at h5
              rw [e2 i i0 i1 (by omega), h5]
          · rw [hdrop] at hx
            rcases List.mem_cons.1 hx with q | q
            · subst q
              have h5 := hg (gd l j) gn.1 (by omega)
              rw [if_pos rfl] at h5
              exact ⟨by omega, by rw [e2 _ gn.1 (by omega) (by omega), h5]⟩
            · exact e3 nx q
      by_cases c2 : gd dep (gd l j) ≥ 0
      · by_cases c3 : gd dep (gd l j) = b
        · simp only [c2, c3, decide_true, if_true, bne_self_eq_false, Option.bind_some, Bool.false_eq_true, if_false, if_pos gn]
          have := cont (fun _ => c3)
          by_cases hb0 : b ≥ 0
          · simpa [hb0] using this
          · omega
        · left
          have : (gd dep (gd l j) != b) = true := by simpa using c3
          simp only [c2, decide_true, if_true, this, Option.bind_some]
          exact ⟨_, _, _, rfl, by decide⟩
      · simp only [c2, decide_false, Bool.false_eq_true, if_false, Option.bind_some]
        exact cont (fun h => absurd h c2)
theorem open_l1 (K : Nat) (dep : List Int) (done : List Bool) (n : Nat) (hd : dep.length = n) (he : done.length = n) (hn : n ≤ 900) : ∀ (d k : Nat) (i : Int), 0 ≤ i → i ≤ n → (n : Int) - i = d → d < k →
    ∃ r, r08_open_l1 K dep done k i = some r ∧ ((r = -1 ∧ ∀ j : Int, i ≤ j → j < n → 0 ≤ gd dep j → gd done j = true) ∨ (0 ≤ r ∧ r < n ∧ 0 ≤ gd dep r ∧ gd done r = false)) := by
  intro d
  induction d with
  | zero =>
    intro k i h0 h1 hd' hk
    obtain ⟨k, rfl⟩ : ∃ m, k = m + 1 := ⟨k - 1, by omega⟩
    simp only [r08_open_l1]
    rw [if_neg (by simp; omega)]
    exact ⟨-1, rfl, .inl ⟨rfl, fun j a b => by omega⟩⟩
  | succ d ih =>
    intro k i h0 h1 hd' hk
    obtain ⟨k, rfl⟩ : ∃ m, k = m + 1 := ⟨k - 1, by omega⟩
    have g1 : 0 ≤ i ∧ i < dep.length := by omega
    have g2 : 0 ≤ i ∧ i < done.length := by omega
    simp only [r08_open_l1]
    rw [if_pos (by simp; omega)]
    simp only [if_pos g1, if_pos g2]
    have next : (0 ≤ gd dep i → gd done i = true) → ∃ r, r08_open_l1 K dep done k (w64 (i + 1)) = some r ∧ ((r = -1 ∧ ∀ j : Int, i ≤ j → j < n → 0 ≤ gd dep j → gd done j = true) ∨ (0 ≤ r ∧ r < n ∧ 0 ≤ gd dep r ∧ gd done r = false)) := fun hc => by
      rw [w64_id (by omega)]
      obtain ⟨r, e, h⟩ := ih k (i + 1) (by omega) (by omega) (by omega) (by omega)
      refine ⟨r, e, ?_⟩
      rcases h with ⟨q1, q2⟩ | q
      · refine .inl ⟨q1, fun j a b c => ?_⟩
        by_cases z : j = i
        · subst z; exact hc c
        · exact q2 j (by omega) b c
      · exact .inr q
    by_cases c1 : gd dep i ≥ 0
    · simp only [c1, decide_true, if_true, Option.bind_some]
      cases c2 : gd done i with
      | true =>
        simp only [Bool.not_true, Bool.false_eq_true, if_false]
        exact next (fun _ => c2)
      | false =>
        simp only [Bool.not_false, if_true]
        exact ⟨i, rfl, .inr ⟨h0, by omega, c1, c2⟩⟩
    · simp only [c1, decide_false, Bool.false_eq_true, if_false, Option.bind_some]
      exact next (fun h => absurd h c1)
def cf : List Bool → Nat
  | [] => 0
  | b :: xs => (if b then 0 else 1) + cf xs
theorem cf_le (xs : List Bool) : cf xs ≤ xs.length := by
  induction xs with
  | nil => simp [cf]
  | cons b xs ih => simp only [cf, List.length_cons]; split <;> omega
theorem cf_set : ∀ (xs : List Bool) (i : Nat) (h : i < xs.length), xs[i] = false → cf (xs.set i true) + 1 = cf xs
  | [], i, h, _ => by simp at h
  | b :: xs, 0, h, e => by
    simp only [List.getElem_cons_zero] at e
    subst e
    simp [cf]; omega
  | b :: xs, i + 1, h, e => by
    have := cf_set xs i (by simpa using h) (by simpa using e)
    simp only [List.set_cons_succ, cf]
    omega
/-- What is known of depths that are found. -/
def Post (p : List GFunc) (f : GFunc) (D : List Int) : Prop := D.length = f.Code.length ∧ gd D 0 = 0 ∧ ∀ i : Int, 0 ≤ i → i < f.Code.length → 0 ≤ gd D i → Edge p f D i
theorem next_nonneg {x : GInstr} {at_ : Int} (ha : 0 ≤ x.A) (h : 0 ≤ at_) (h2 : at_ ≤ 1000) : (∀ nx ∈ r08_Next x at_, 0 ≤ nx) ∧ (r08_Next x at_).length ≤ 10 := by
  unfold r08_Next
  rw [w64_id (by omega)]
  simp only [bnd]
  repeat' split
  all_goals (constructor <;> simp <;> omega)
theorem l2_spec (K : Nat) (hK : 1000 ≤ K) (p : List GFunc) (f : GFunc) (hn : f.Code.length ≤ 200) (hA : ∀ i : Int, 0 ≤ i → i < f.Code.length → 0 ≤ (gd f.Code i).A) (hO : ∀ (i d : Int), 0 ≤ i → i < f.Code.length → ∃ b, r08_behind p (gd f.Code i) d = some b) (h1 : 1 ≤ f.Code.length) :
    ∀ (k : Nat) (dep : List Int) (done : List Bool), dep.length = f.Code.length → done.length = f.Code.length → gd dep 0 = 0 → (∀ i : Int, 0 ≤ i → i < f.Code.length → gd done i = true → 0 ≤ gd dep i ∧ Edge p f dep i) → cf done < k →
    ∃ D a e, r08_reach_l2 K p f k (dep, done) = some (D, a, e) ∧ (e = 0 → Post p f D) := by
  intro k
  induction k with
  | zero => intro dep done _ _ _ _ h; omega
  | succ k ih =>
    intro dep done hd he h0 inv hc
    simp only [r08_reach_l2]
    obtain ⟨r, er, hr⟩ := open_l1 K dep done f.Code.length hd he (by omega) f.Code.length K 0 (by omega) (by omega) (by omega) (by omega)
    rw [show r08_open K dep done = some r from er]
    simp only [Option.bind_some]
    rcases hr with ⟨rfl, hall⟩ | ⟨r0, r1, r2, r3⟩
    · rw [if_pos (by decide)]
      refine ⟨_, _, _, rfl, fun _ => ⟨hd, h0, fun i i0 i1 i2 => (inv i i0 i1 (hall i i0 i1 i2)).2⟩⟩
    · have g1 : 0 ≤ r ∧ r < done.length := by omega
      have g2 : 0 ≤ r ∧ r < (f.Code.length : Int) := by omega
      have g3 : 0 ≤ r ∧ r < dep.length := by omega
      rw [if_neg (by simp; omega), if_pos g1, if_pos g2, if_pos g3]
      obtain ⟨b, eb⟩ := hO r (gd dep r) r0 r1
      rw [show (⟨(gd f.Code r).Op, (gd f.Code r).A, (gd f.Code r).B⟩ : GInstr) = gd f.Code r from rfl, eb]
      simp only [Option.bind_some]
      by_cases hb : b < 0
      · rw [if_pos (by simpa using hb)]
        exact ⟨_, _, _, rfl, fun h => by cases h⟩
      · rw [if_neg (by simpa using hb), if_pos g2]
        simp only [bnd]
        obtain ⟨hnx, hlen⟩ := next_nonneg (x := gd f.Code r) (hA r r0 r1) r0 (by omega)
        rcases l3_spec K f done r b (r08_Next (gd f.Code r) r) hnx (by omega) hlen (r08_reach_l2 K p f k) (r08_Next (gd f.Code r) r).length K 0 dep (by omega) (by omega) (by omega) (by omega) hd with ⟨D, a, e, h, he0⟩ | ⟨dep', e1, e2, e3, e4⟩
        · exact ⟨D, a, e, h, fun z => absurd z he0⟩
        · rw [e4]
          rw [show ((0 : Int)).toNat = 0 from rfl, List.drop_zero] at e3
          have hcf := cf_set done r.toNat (by omega) (by rw [gd_mem g1.1 g1.2] at r3; exact r3)
          refine ih dep' (done.set r.toNat true) e1 (by simpa using he) (by rw [e2 0 (by omega) (by omega) (by omega), h0]) (fun i i0 i1 hi => ?_) (by omega)
          rw [gd_set r0 i0 (by omega)] at hi
          by_cases q : r = i
          · subst q
            refine ⟨by rw [e2 r r0 r1 r2]; exact r2, b, by rw [e2 r r0 r1 r2]; exact eb, by omega, fun nx hx => ⟨hnx nx hx, (e3 nx hx).1, (e3 nx hx).2⟩⟩
          · rw [if_neg q] at hi
            obtain ⟨i2, i3⟩ := inv i i0 i1 hi
            exact ⟨by rw [e2 i i0 i1 i2]; exact i2, i3.mono ⟨i0, i1⟩ i2 e2⟩
theorem gd_replicate {α : Type} [Inhabited α] {n : Nat} {x : α} {i : Int} (h0 : 0 ≤ i) (h1 : i < n) : gd (List.replicate n x) i = x := by
  rw [gd_mem h0 (by simpa using h1)]; simp
theorem reach_l1 (K : Nat) (p : List GFunc) (f : GFunc) (hn : f.Code.length ≤ 200) : ∀ (d k : Nat) (i : Int) (dep : List Int), 1 ≤ i → (i ≤ f.Code.length ∨ d = 0) → ((f.Code.length : Int) - i = d ∨ (d = 0 ∧ (f.Code.length : Int) ≤ i ∧ i ≤ 1000)) → d < k → dep.length = f.Code.length → gd dep 0 = 0 → 1 ≤ f.Code.length →
    ∃ dep', dep'.length = f.Code.length ∧ gd dep' 0 = 0 ∧ r08_reach_l1 K p f k (dep, i) = r08_reach_l2 K p f K (dep', List.replicate (f.Code.length : Int).toNat false) := by
  intro d
  induction d with
  | zero =>
    intro k i dep h0 h1 hd hk hl hz h1'
    obtain ⟨k, rfl⟩ : ∃ m, k = m + 1 := ⟨k - 1, by omega⟩
    simp only [r08_reach_l1]
    rw [if_neg (by simp; omega)]
    exact ⟨dep, hl, hz, rfl⟩
  | succ d ih =>
    intro k i dep h0 h1 hd hk hl hz h1'
    obtain ⟨k, rfl⟩ : ∃ m, k = m + 1 := ⟨k - 1, by omega⟩
    simp only [r08_reach_l1]
    rw [if_pos (by simp; omega), if_pos ⟨by omega, by omega⟩, w64_id (by omega)]
    exact ih k (i + 1) (dep.set i.toNat (-1)) (by omega) (by omega) (by omega) (by omega) (by simpa using hl) (by rw [gd_set (by omega) (by omega) (by omega), if_neg (by omega)]; exact hz) h1'
theorem reach_spec (K : Nat) (hK : 1000 ≤ K) (p : List GFunc) (f : GFunc) (hn : f.Code.length ≤ 200) (hA : ∀ i : Int, 0 ≤ i → i < f.Code.length → 0 ≤ (gd f.Code i).A) (hO : ∀ (i d : Int), 0 ≤ i → i < f.Code.length → ∃ b, r08_behind p (gd f.Code i) d = some b) (h1 : 1 ≤ f.Code.length) :
    ∃ D a e, r08_reach K p f = some (D, a, e) ∧ (e = 0 → Post p f D) := by
  unfold r08_reach
  rw [if_pos ⟨by omega, by omega, by unfold LIM; omega, by omega⟩, if_pos ⟨by omega, by omega, by unfold LIM; omega, by omega⟩]
  obtain ⟨dep, d1, d2, d3⟩ := reach_l1 K p f hn (f.Code.length - 1) K 1 (List.replicate (f.Code.length : Int).toNat 0) (by omega) (by omega) (by omega) (by omega) (by simp) (gd_replicate (by omega) (by omega)) h1
  rw [d3]
  refine l2_spec K hK p f hn hA hO h1 K dep _ d1 (by simp) d2 (fun i i0 i1 hi => ?_) (by have := cf_le (List.replicate (f.Code.length : Int).toNat false); simp at this; simp; omega)
  rw [gd_replicate i0 (by omega)] at hi
  cases hi

set_option maxRecDepth 100000
theorem offs8 {o : Int} (p : List GFunc) (a b : Int) (h : 0 ≤ o ∧ o < 17) (ha : o = 13 → 0 ≤ a ∧ a < p.length) : ∃ off on x, op_Stack o = some (x, on) ∧ r06_On o = on ∧ (0 ≤ on ∧ on ≤ 2) ∧ (∀ f act, frame_runner_off ⟨f, p, ⟨o, a, b⟩, act⟩ = some off) ∧ r08_Off p ⟨o, a, b⟩ = some off ∧
    ((o = 3 ∨ o = 4 ∨ o = 5 ∨ o = 6) → off = 2) ∧ ((o = 2 ∨ o = 7 ∨ o = 8 ∨ o = 9 ∨ o = 11 ∨ o = 15) → off = 1) ∧ ((o = 0 ∨ o = 1 ∨ o = 10 ∨ o = 12 ∨ o = 14 ∨ o = 16) → off = 0) ∧ (o = 13 → off = (gd p a).Arity) := by
  by_cases o13 : o = 13
  · subst o13
    refine ⟨(gd p a).Arity, 0, 0, stk13, by rfl, by omega, fun f act => ?_, ?_, by omega, by omega, by omega, fun _ => rfl⟩
    · unfold frame_runner_off; rw [if_pos (by rfl)]; exact if_pos (ha rfl)
    · unfold r08_Off; rw [if_pos (by rfl)]; exact if_pos (ha rfl)
  · have f1 : ∀ x on, op_Stack o = some (x, on) → ∀ f act, frame_runner_off ⟨f, p, ⟨o, a, b⟩, act⟩ = some x := fun x on e f act => by
      unfold frame_runner_off; rw [if_neg (by simpa using o13)]; simp only; rw [e]; rfl
    have f2 : r08_Off p ⟨o, a, b⟩ = some (r06_Off o) := by
      unfold r08_Off; rw [if_neg (by simpa using o13)]; rfl
    rcases ops17 h with rfl | rfl | rfl | rfl | rfl | rfl | rfl | rfl | rfl | rfl | rfl | rfl | rfl | rfl | rfl | rfl | rfl
    · exact ⟨0, 1, 0, stk0, by rfl, by omega, f1 _ _ stk0, f2, by omega, by omega, by omega, by omega⟩
    · exact ⟨0, 1, 0, stk1, by rfl, by omega, f1 _ _ stk1, f2, by omega, by omega, by omega, by omega⟩
    · exact ⟨1, 0, 1, stk2, by rfl, by omega, f1 _ _ stk2, f2, by omega, by omega, by omega, by omega⟩
    · exact ⟨2, 1, 2, stk3, by rfl, by omega, f1 _ _ stk3, f2, by omega, by omega, by omega, by omega⟩
    · exact ⟨2, 1, 2, stk4, by rfl, by omega, f1 _ _ stk4, f2, by omega, by omega, by omega, by omega⟩
    · exact ⟨2, 1, 2, stk5, by rfl, by omega, f1 _ _ stk5, f2, by omega, by omega, by omega, by omega⟩
    · exact ⟨2, 1, 2, stk6, by rfl, by omega, f1 _ _ stk6, f2, by omega, by omega, by omega, by omega⟩
    · exact ⟨1, 1, 1, stk7, by rfl, by omega, f1 _ _ stk7, f2, by omega, by omega, by omega, by omega⟩
    · exact ⟨1, 2, 1, stk8, by rfl, by omega, f1 _ _ stk8, f2, by omega, by omega, by omega, by omega⟩
    · exact ⟨1, 0, 1, stk9, by rfl, by omega, f1 _ _ stk9, f2, by omega, by omega, by omega, by omega⟩
    · exact ⟨0, 0, 0, stk10, by rfl, by omega, f1 _ _ stk10, f2, by omega, by omega, by omega, by omega⟩
    · exact ⟨1, 0, 1, stk11, by rfl, by omega, f1 _ _ stk11, f2, by omega, by omega, by omega, by omega⟩
    · exact ⟨0, 1, 0, stk12, by rfl, by omega, f1 _ _ stk12, f2, by omega, by omega, by omega, by omega⟩
    · exact absurd rfl o13
    · exact ⟨0, 1, 0, stk14, by rfl, by omega, f1 _ _ stk14, f2, by omega, by omega, by omega, by omega⟩
    · exact ⟨1, 0, 1, stk15, by rfl, by omega, f1 _ _ stk15, f2, by omega, by omega, by omega, by omega⟩
    · exact ⟨0, 0, 0, stk16, by rfl, by omega, f1 _ _ stk16, f2, by omega, by omega, by omega, by omega⟩
theorem field_facts {p : List GFunc} {f : GFunc} {o a b : Int} (h : r08_field p f ⟨o, a, b⟩ = 0) : ((o = 1 ∨ o = 2) → a < f.Locals) ∧ (o = 14 → a < f.Slots) ∧ (o = 13 → b < f.Slots ∧ a < p.length) ∧ ((o = 10 ∨ o = 11) → a < f.Code.length) := by
  unfold r08_field at h
  simp only [bnd] at h
  refine ⟨fun q => ?_, fun q => ?_, fun q => ?_, fun q => ?_⟩
  · apply Decidable.byContradiction; intro hn
    have hn' : a ≥ f.Locals := by omega
    rcases q with rfl | rfl <;> simp [hn'] at h
  · subst q
    apply Decidable.byContradiction; intro hn
    have hn' : a ≥ f.Slots := by omega
    simp [hn'] at h
  · subst q
    constructor
    · apply Decidable.byContradiction; intro hn
      have hn' : b ≥ f.Slots := by omega
      simp [hn'] at h
    · apply Decidable.byContradiction; intro hn
      have hn' : a ≥ (p.length : Int) := by omega
      by_cases z : b ≥ f.Slots
      · simp [z] at h
      · simp [z, hn'] at h
  · apply Decidable.byContradiction; intro hn
    have hn' : a ≥ (f.Code.length : Int) := by omega
    rcases q with rfl | rfl <;> simp [hn'] at h
theorem may_rangeR {i : GInstr} (h : r06_May i = true) : 0 ≤ i.Op ∧ i.Op < 17 ∧ 0 ≤ i.A ∧ i.A ≤ 255 ∧ 0 ≤ i.B ∧ i.B ≤ 255 := by rw [← may6] at h; exact may_range h
theorem behind_total {p : List GFunc} {f : GFunc} {i : GInstr} (hm : r06_May i = true) (hf : r08_field p f i = 0) (d : Int) : ∃ b, r08_behind p i d = some b := by
  obtain ⟨o, a, b⟩ := i
  have r := may_rangeR hm
  simp only at r
  have ff := field_facts hf
  obtain ⟨off, on, x, _, _, _, _, h, _⟩ := offs8 p a b (o := o) ⟨r.1, r.2.1⟩ (fun q => ⟨r.2.2.1, (ff.2.2.1 q).2⟩)
  unfold r08_behind
  rw [h]
  simp only [Option.bind_some, bnd]
  repeat' split
  all_goals exact ⟨_, rfl⟩
theorem behind_eq {p : List GFunc} {o a b off on d r : Int} (hO : r08_Off p ⟨o, a, b⟩ = some off) (hon : r06_On o = on) (h0 : 0 ≤ off) (h1 : off ≤ 1000) (hon2 : 0 ≤ on ∧ on ≤ 2) (hd : 0 ≤ d ∧ d ≤ 1000) (h : r08_behind p ⟨o, a, b⟩ d = some r) (hr : 0 ≤ r) : off ≤ d ∧ d - off + on ≤ 16 ∧ r = d - off + on := by
  unfold r08_behind at h
  rw [hO] at h
  simp only [Option.bind_some, bnd, hon] at h
  rw [w64_id (x := d - off) (by omega), w64_id (x := d - off + on) (by omega)] at h
  by_cases c1 : off > d
  · simp [c1] at h; omega
  · by_cases c2 : d - off + on > 16
    · simp [c1, c2] at h; omega
    · simp [c1, c2] at h; omega
/-- A function with which nothing is wrong. -/
def FGood (K : Nat) (p : List GFunc) (f : GFunc) : Prop := f.Arity ≤ f.Locals ∧ (∀ i : Int, 0 ≤ i → i < f.Code.length → r08_field p f (gd f.Code i) = 0) ∧ ∃ D a, r08_reach K p f = some (D, a, 0) ∧ Post p f D
theorem okF_facts {f : GFunc} (h : okF f = true) : (0 ≤ f.Arity ∧ f.Arity ≤ 16 ∧ 0 ≤ f.Locals ∧ f.Locals ≤ 16 ∧ 0 ≤ f.Slots ∧ f.Slots ≤ 8) ∧ 1 ≤ f.Code.length ∧ f.Code.length ≤ 200 ∧ ∀ i : Int, 0 ≤ i → i < f.Code.length → r06_May (gd f.Code i) = true := by
  simp only [okF, headB, Bool.and_eq_true, decide_eq_true_eq, List.all_eq_true] at h
  exact ⟨h.1, by omega, by omega, fun i i0 i1 => h.2.2 _ (gd_memL i0 i1)⟩
theorem function_l1 (K : Nat) (hK : 1000 ≤ K) (p : List GFunc) (f : GFunc) (hf : okF f = true) (ha : f.Arity ≤ f.Locals) : ∀ (d k : Nat) (i : Int), 0 ≤ i → i ≤ f.Code.length → (f.Code.length : Int) - i = d → d < k → (∀ j : Int, 0 ≤ j → j < i → r08_field p f (gd f.Code j) = 0) → ∃ a e, r08_function_l1 K p f k i = some (a, e) ∧ (e = 0 → FGood K p f) := by
  obtain ⟨_, h1, hn, hm⟩ := okF_facts hf
  intro d
  induction d with
  | zero =>
    intro k i h0 h1' hd hk hj
    obtain ⟨k, rfl⟩ : ∃ m, k = m + 1 := ⟨k - 1, by omega⟩
    simp only [r08_function_l1]
    rw [if_neg (by simp; omega)]
    have hfl : ∀ j : Int, 0 ≤ j → j < f.Code.length → r08_field p f (gd f.Code j) = 0 := fun j a b => hj j a (by omega)
    obtain ⟨D, a, e, er, hp⟩ := reach_spec K hK p f hn (fun i i0 i1 => (may_rangeR (hm i i0 i1)).2.2.1) (fun i d i0 i1 => behind_total (hm i i0 i1) (hfl i i0 i1) d) h1
    rw [er]
    refine ⟨a, e, rfl, fun z => ?_⟩
    subst z
    exact ⟨ha, hfl, D, a, er, hp rfl⟩
  | succ d ih =>
    intro k i h0 h1' hd hk hj
    obtain ⟨k, rfl⟩ : ∃ m, k = m + 1 := ⟨k - 1, by omega⟩
    simp only [r08_function_l1, bnd]
    rw [if_pos (by simp; omega), if_pos ⟨h0, by omega⟩, show (⟨(gd f.Code i).Op, (gd f.Code i).A, (gd f.Code i).B⟩ : GInstr) = gd f.Code i from rfl]
    by_cases hz : r08_field p f (gd f.Code i) = 0
    · rw [if_neg (by simp [hz]), w64_id (by omega)]
      refine ih k (i + 1) (by omega) (by omega) (by omega) (by omega) (fun j a b => ?_)
      by_cases q : j = i
      · subst q; exact hz
      · exact hj j a (by omega)
    · rw [if_pos (by simpa using hz)]
      exact ⟨_, _, rfl, fun z => absurd z hz⟩
theorem function_spec (K : Nat) (hK : 1000 ≤ K) (p : List GFunc) (f : GFunc) (hf : okF f = true) : ∃ a e, r08_function K p f = some (a, e) ∧ (e = 0 → FGood K p f) := by
  unfold r08_function
  have hn := (okF_facts hf).2.2.1
  by_cases ha : f.Arity > f.Locals
  · rw [if_pos (by simpa using ha)]
    exact ⟨_, _, rfl, fun z => by cases z⟩
  · rw [if_neg (by simpa using ha)]
    exact function_l1 K hK p f hf (by omega) f.Code.length K 0 (by omega) (by omega) (by omega) (by omega) (fun j a b => by omega)
theorem check_l1 (K : Nat) (hK : 1000 ≤ K) (p : List GFunc) (hm : p.all okF = true) (hn : p.length ≤ 20) : ∀ (d k : Nat) (i : Int), 0 ≤ i → i ≤ p.length → (p.length : Int) - i = d → d < k → (∀ j : Int, 0 ≤ j → j < i → FGood K p (gd p j)) → ∃ a b e, r08_Check_l1 K p k i = some (a, b, e) ∧ (e = 0 → ∀ j : Int, 0 ≤ j → j < p.length → FGood K p (gd p j)) := by
  rw [List.all_eq_true] at hm
  intro d
  induction d with
  | zero =>
    intro k i h0 h1 hd hk hj
    obtain ⟨k, rfl⟩ : ∃ m, k = m + 1 := ⟨k - 1, by omega⟩
    simp only [r08_Check_l1]
    rw [if_neg (by simp; omega)]
    exact ⟨_, _, _, rfl, fun _ j a b => hj j a (by omega)⟩
  | succ d ih =>
    intro k i h0 h1 hd hk hj
    obtain ⟨k, rfl⟩ : ∃ m, k = m + 1 := ⟨k - 1, by omega⟩
    simp only [r08_Check_l1]
    rw [if_pos (by simp; omega), if_pos ⟨h0, by omega⟩, show (⟨(gd p i).Arity, (gd p i).Locals, (gd p i).Slots, (gd p i).Code⟩ : GFunc) = gd p i from rfl]
    obtain ⟨a, e, er, hg⟩ := function_spec K hK p (gd p i) (hm _ (gd_memL h0 (by omega)))
    rw [er]
    simp only [Option.bind_some]
    by_cases hz : e = 0
    · rw [if_neg (by simp [hz]), w64_id (by omega)]
      refine ih k (i + 1) (by omega) (by omega) (by omega) (by omega) (fun j a b => ?_)
      by_cases q : j = i
      · subst q; exact hg hz
      · exact hj j a (by omega)
    · rw [if_pos (by simpa using hz)]
      exact ⟨_, _, _, rfl, fun z => absurd z hz⟩
theorem good_spec (K : Nat) (p : List GFunc) (hp : ∀ f ∈ p, f.Code.length ≤ 9223372036854775807 ∧ f.Code.length < K) (hn : p.length ≤ 20) (hK : 1000 ≤ K) : ∃ b, r08_Good K p = some b ∧ (b = true → mayB p = true ∧ ∀ j : Int, 0 ≤ j → j < p.length → FGood K p (gd p j)) := by
  unfold r08_Good r08_Check
  rw [code_may_ref K p hp hn hK]
  simp only [Option.bind_some]
  cases hm : mayB p with
  | false => exact ⟨false, rfl, fun h => by cases h⟩
  | true =>
    simp only [Bool.not_true, Bool.false_eq_true, if_false]
    have hm' : p.all okF = true := by simp only [mayB, Bool.and_eq_true] at hm; exact hm.1
    obtain ⟨a, b, e, er, hg⟩ := check_l1 K hK p hm' hn p.length K 0 (by omega) (by omega) (by omega) (by omega) (fun j a b => by omega)
    rw [er]
    refine ⟨_, rfl, fun z => ⟨trivial, hg (by simpa using z)⟩⟩
theorem depths_spec (K : Nat) (p : List GFunc) (fn : Int) (hg : r08_Good K p = some true) (h0 : 0 ≤ fn ∧ fn < p.length) (hf : FGood K p (gd p fn)) : ∃ D, r08_Depths K p fn = some D ∧ Post p (gd p fn) D := by
  obtain ⟨_, _, D, a, er, hp⟩ := hf
  unfold r08_Depths
  rw [hg]
  have n1 : ¬ fn < 0 := by omega
  have n2 : ¬ fn ≥ (p.length : Int) := by omega
  simp only [Option.bind_some, bnd, n1, n2, decide_false, Bool.not_true, Bool.false_eq_true, if_false, if_pos h0]
  rw [show (⟨(gd p fn).Arity, (gd p fn).Locals, (gd p fn).Slots, (gd p fn).Code⟩ : GFunc) = gd p fn from rfl, er]
  exact ⟨D, rfl, hp⟩

set_option maxRecDepth 100000
theorem there_true {f : GFrame} {p : List GFunc} (x : GInstr) (act : GAct) {l : List GInstr} {o a b : Int} (hpc : 0 ≤ f.Pc ∧ f.Pc < l.length) (hi : gd l f.Pc = ⟨o, a, b⟩) (hm : op_May ⟨o, a, b⟩ = true)
    (q1 : (o = 1 ∨ o = 2) → a < f.Locals.length) (q2 : o = 14 → a < f.Slots.length) (q3 : o = 13 → a < p.length ∧ b < f.Slots.length) : frame_runner_there ⟨f, p, x, act⟩ l = some (true, o, a, b) := by
  unfold frame_runner_there
  have n1 : ¬ f.Pc < 0 := by omega
  have n2 : ¬ f.Pc ≥ (l.length : Int) := by omega
  simp only [bnd, n1, n2, decide_false, Bool.false_eq_true, if_false, if_pos hpc, hi, hm, Option.bind_some, Bool.not_true]
  by_cases o1 : o = 1
  · subst o1; simp [q1 (.inl rfl)]
  by_cases o2 : o = 2
  · subst o2; simp [q1 (.inr rfl)]
  by_cases o14 : o = 14
  · subst o14; simp [q2 rfl]
  by_cases o13 : o = 13
  · subst o13; simp [q3 rfl]
  simp [o1, o2, o14, o13]
/-- How a step of a frame with which nothing is wrong goes. -/
def SafeStep (f : GFrame) (o a b off on : Int) (g : GFrame) (c : GAct) : Prop :=
  (c.Kind = 4 ∧ g.State = 2 ∧ (g.Out.Trap = 0 ∨ g.Out.Trap = 1 ∨ g.Out.Trap = 2 ∨ (o = 16 ∧ g.Out.Trap = a) ∨ (o = 14 ∧ (gd f.Slots a).State = 2 ∧ g.Out.Trap = (gd f.Slots a).Out.Trap))) ∨
  (o = 14 ∧ (gd f.Slots a).State = 1) ∨
  (o ≠ 13 ∧ c.Kind = 1 ∧ g.State = 0 ∧ g.Fn = f.Fn ∧ g.Pc ∈ r08_Next ⟨o, a, b⟩ f.Pc ∧ (g.Stack.length : Int) = f.Stack.length - off + on ∧ g.Locals.length = f.Locals.length ∧ (g.Slots = f.Slots ∨ g.Slots = f.Slots.set a.toNat ⟨0, ⟨0, 0⟩, ⟨0, ⟨0, 0⟩⟩⟩)) ∨
  (o = 13 ∧ c.Kind = 2 ∧ c.Slot = b ∧ g.State = 0 ∧ g.Fn = f.Fn ∧ g.Pc ∈ r08_Next ⟨o, a, b⟩ f.Pc ∧ (g.Stack.length : Int) = f.Stack.length - off + on ∧ g.Locals.length = f.Locals.length ∧ g.Slots = f.Slots.set b.toNat ⟨1, frame_noRef, ⟨0, ⟨0, 0⟩⟩⟩)
theorem do_safe (K : Nat) (hK : 20 ≤ K) (p : List GFunc) (f : GFrame) (l : List GInstr) (hst : f.State = 0) (hfn : 0 ≤ f.Fn ∧ f.Fn < p.length) (hcode : (gd p f.Fn).Code = l) (hpc : 0 ≤ f.Pc ∧ f.Pc < l.length) {o a b : Int} (hi : gd l f.Pc = ⟨o, a, b⟩) (hm : r06_May ⟨o, a, b⟩ = true)
    (q1 : (o = 1 ∨ o = 2) → a < f.Locals.length) (q2 : o = 14 → a < f.Slots.length) (q3 : o = 13 → a < p.length ∧ b < f.Slots.length) {off on x : Int} (hstk : op_Stack o = some (x, on)) (hoff : ∀ f act, frame_runner_off ⟨f, p, ⟨o, a, b⟩, act⟩ = some off) (hon : 0 ≤ on ∧ on ≤ 2)
    (k2 : (o = 3 ∨ o = 4 ∨ o = 5 ∨ o = 6) → off = 2) (k1 : (o = 2 ∨ o = 7 ∨ o = 8 ∨ o = 9 ∨ o = 11 ∨ o = 15) → off = 1) (k00 : (o = 0 ∨ o = 1 ∨ o = 10 ∨ o = 12 ∨ o = 14 ∨ o = 16) → off = 0) (h0 : 0 ≤ off) (h1 : off ≤ f.Stack.length) (hcap : (f.Stack.length : Int) - off + on ≤ 16)
    (hs : f.Stack.length ≤ 40) (hl : f.Locals.length ≤ 40) (ht : f.Slots.length ≤ 40) : ∃ g c, frame_Do K p f = some (g, c) ∧ SafeStep f o a b off on g c := by
  have r := may_rangeR hm
  simp only at r
  have hc : frame_clone f = some f := by
    unfold frame_clone slices_Clone_Value slices_Clone_Slot
    rw [if_pos (by unfold LIM; omega), if_pos (by unfold LIM; omega), if_pos (by unfold LIM; omega)]
    rfl
  unfold frame_Do
  have c1 : (f.State != 0) = false := by simp [hst]
  have n1 : ¬ f.Fn < 0 := by omega
  have n2 : ¬ f.Fn ≥ (p.length : Int) := by omega
  simp only [bnd, c1, n1, n2, decide_false, Bool.false_eq_true, if_false, hc, Option.bind_some, if_pos hfn, hcode]
  rw [there_true _ _ hpc hi (by rw [may6]; exact hm) q1 q2 q3]
  simp only [Option.bind_some, Bool.not_true, Bool.false_eq_true, if_false]
  rw [room_eq hstk (hoff f _) hon hs, decide_eq_true (show 0 ≤ off ∧ off ≤ f.Stack.length ∧ (on = 0 ∨ (f.Stack.length : Int) - off + on ≤ 16) by omega)]
  simp only [Option.bind_some, Bool.not_true, Bool.false_eq_true, if_false]
  have hv : (lcut f.Stack ((f.Stack.length : Int) - off) f.Stack.length).length = off.toNat := by rw [lcut_len (by omega) (by omega) (by omega)]; omega
  have hsl : (f.Stack.take ((f.Stack.length : Int) - off).toNat).length = f.Stack.length - off := by rw [List.length_take]; omega
  have pop : ∀ n act, n = off → frame_runner_pop ⟨f, p, ⟨o, a, b⟩, act⟩ n = some (lcut f.Stack ((f.Stack.length : Int) - off) f.Stack.length, f.Stack.take ((f.Stack.length : Int) - off).toNat) := fun n act h => by subst h; exact pop_eq (by omega) (by omega) (by omega)
  generalize hvv : lcut f.Stack ((f.Stack.length : Int) - off) f.Stack.length = v at hv pop ⊢
  generalize hss : f.Stack.take ((f.Stack.length : Int) - off).toNat = s at hsl pop ⊢
  have push : ∀ act ls, ls.length ≤ 40 → frame_runner_push ⟨{ f with Stack := s }, p, ⟨o, a, b⟩, act⟩ ls = some (s ++ ls) := fun act ls h => push_eq (by simp only; omega) (by omega)
  rcases ops17 ⟨r.1, r.2.1⟩ with rfl | rfl | rfl | rfl | rfl | rfl | rfl | rfl | rfl | rfl | rfl | rfl | rfl | rfl | rfl | rfl | rfl
  · obtain rfl : 1 = on := by have h9 := hstk; rw [stk0] at h9; exact (Prod.mk.inj (Option.some.inj h9)).2
    simp only [Int.reduceBEq, Bool.false_eq_true, if_false, if_true]
    have hoff0 : off = 0 := k00 (by omega)
    subst hoff0
    have hsS : s = f.Stack := by rw [← hss]; simp
    subst hsS
    unfold frame_runner_plain
    simp only [Int.reduceBEq, Bool.false_eq_true, if_false, if_true]
    simp only [bnd]
    rw [push _ [gauss_Of a b] (by simp)]
    exact ⟨_, _, rfl, .inr (.inr (.inl ⟨by decide, rfl, hst, rfl, by simp [r08_Next, bnd], by simp only [List.length_append, List.length_cons, List.length_nil]; omega, rfl, .inl rfl⟩))⟩
  · obtain rfl : 1 = on := by have h9 := hstk; rw [stk1] at h9; exact (Prod.mk.inj (Option.some.inj h9)).2
    simp only [Int.reduceBEq, Bool.false_eq_true, if_false, if_true]
    have hoff0 : off = 0 := k00 (by omega)
    subst hoff0
    have hsS : s = f.Stack := by rw [← hss]; simp
    subst hsS
    have ga : 0 ≤ a ∧ a < (f.Locals.length : Int) := ⟨r.2.2.1, q1 (by omega)⟩
    unfold frame_runner_plain
    simp only [Int.reduceBEq, Bool.false_eq_true, if_false, if_true]
    simp only [if_pos ga]
    rw [push _ [_] (by simp)]
    exact ⟨_, _, rfl, .inr (.inr (.inl ⟨by decide, rfl, hst, rfl, by simp [r08_Next, bnd], by simp only [List.length_append, List.length_cons, List.length_nil]; omega, rfl, .inl rfl⟩))⟩
  · obtain rfl : 0 = on := by have h9 := hstk; rw [stk2] at h9; exact (Prod.mk.inj (Option.some.inj h9)).2
    simp only [Int.reduceBEq, Bool.false_eq_true, if_false, if_true]
    have hoff1 : off = 1 := k1 (by omega)
    have gv : 0 ≤ (0 : Int) ∧ (0 : Int) < v.length := by omega
    have ga : 0 ≤ a ∧ a < (f.Locals.length : Int) := ⟨r.2.2.1, q1 (by omega)⟩
    unfold frame_runner_plain
    simp only [Int.reduceBEq, Bool.false_eq_true, if_false, if_true]
    rw [pop 1 _ hoff1.symm]
    simp only [Option.bind_some, if_pos gv, if_pos ga]
    exact ⟨_, _, rfl, .inr (.inr (.inl ⟨by decide, rfl, hst, rfl, by simp [r08_Next, bnd], by simp only; omega, by simp, .inl rfl⟩))⟩
  · obtain rfl : 1 = on := by have h9 := hstk; rw [stk3] at h9; exact (Prod.mk.inj (Option.some.inj h9)).2
    simp only [Int.reduceBEq, Bool.false_eq_true, if_false, if_true]
    have hoff2 : off = 2 := k2 (by omega)
    have gv : 0 ≤ (0 : Int) ∧ (0 : Int) < v.length := by omega
    have gw : 0 ≤ (1 : Int) ∧ (1 : Int) < v.length := by omega
    unfold frame_runner_two
    simp only [Int.reduceBEq, Bool.false_eq_true, if_false, if_true]
    rw [pop 2 _ hoff2.symm]
    simp only [Option.bind_some, if_pos gv, if_pos gw, add_eq]
    rw [push _ [_] (by simp)]
    exact ⟨_, _, rfl, .inr (.inr (.inl ⟨by decide, rfl, hst, rfl, by simp [r08_Next, bnd], by simp only [List.length_append, List.length_cons, List.length_nil]; omega, rfl, .inl rfl⟩))⟩
  · obtain rfl : 1 = on := by have h9 := hstk; rw [stk4] at h9; exact (Prod.mk.inj (Option.some.inj h9)).2
    simp only [Int.reduceBEq, Bool.false_eq_true, if_false, if_true]
    have hoff2 : off = 2 := k2 (by omega)
    have gv : 0 ≤ (0 : Int) ∧ (0 : Int) < v.length := by omega
    have gw : 0 ≤ (1 : Int) ∧ (1 : Int) < v.length := by omega
    unfold frame_runner_two
    simp only [Int.reduceBEq, Bool.false_eq_true, if_false, if_true]
    rw [pop 2 _ hoff2.symm]
    simp only [Option.bind_some, if_pos gv, if_pos gw, sub_eq]
    rw [push _ [_] (by simp)]
    exact ⟨_, _, rfl, .inr (.inr (.inl ⟨by decide, rfl, hst, rfl, by simp [r08_Next, bnd], by simp only [List.length_append, List.length_cons, List.length_nil]; omega, rfl, .inl rfl⟩))⟩
  · obtain rfl : 1 = on := by have h9 := hstk; rw [stk5] at h9; exact (Prod.mk.inj (Option.some.inj h9)).2
    simp only [Int.reduceBEq, Bool.false_eq_true, if_false, if_true]
    have hoff2 : off = 2 := k2 (by omega)
    have gv : 0 ≤ (0 : Int) ∧ (0 : Int) < v.length := by omega
    have gw : 0 ≤ (1 : Int) ∧ (1 : Int) < v.length := by omega
    unfold frame_runner_two
    simp only [Int.reduceBEq, Bool.false_eq_true, if_false, if_true]
    rw [pop 2 _ hoff2.symm]
    simp only [Option.bind_some, if_pos gv, if_pos gw, mul_eq]
    rw [push _ [_] (by simp)]
    exact ⟨_, _, rfl, .inr (.inr (.inl ⟨by decide, rfl, hst, rfl, by simp [r08_Next, bnd], by simp only [List.length_append, List.length_cons, List.length_nil]; omega, rfl, .inl rfl⟩))⟩
  · obtain rfl : 1 = on := by have h9 := hstk; rw [stk6] at h9; exact (Prod.mk.inj (Option.some.inj h9)).2
    simp only [Int.reduceBEq, Bool.false_eq_true, if_false, if_true]
    have hoff2 : off = 2 := k2 (by omega)
    have gv : 0 ≤ (0 : Int) ∧ (0 : Int) < v.length := by omega
    have gw : 0 ≤ (1 : Int) ∧ (1 : Int) < v.length := by omega
    unfold frame_runner_two
    simp only [Int.reduceBEq, Bool.false_eq_true, if_false, if_true]
    rw [pop 2 _ hoff2.symm]
    simp only [Option.bind_some, if_pos gv, if_pos gw]
    obtain ⟨⟨q, ok⟩, hd⟩ := div_total K hK ⟨(gd v 0).Re, (gd v 0).Im⟩ ⟨(gd v 1).Re, (gd v 1).Im⟩
    rw [hd]
    simp only [Option.bind_some]
    cases ok with
    | false =>
      rw [push _ v (by omega)]
      simp only [Bool.not_false, if_true, Option.bind_some, frame_runner_trap, frame_runner_end, bnd]
      exact ⟨_, _, rfl, .inl ⟨rfl, rfl, .inr (.inl rfl)⟩⟩
    | true =>
      simp only [Bool.not_true, Bool.false_eq_true, if_false]
      rw [push _ [q] (by simp)]
      exact ⟨_, _, rfl, .inr (.inr (.inl ⟨by decide, rfl, hst, rfl, by simp [r08_Next, bnd], by simp only [List.length_append, List.length_cons, List.length_nil]; omega, rfl, .inl rfl⟩))⟩
  · obtain rfl : 1 = on := by have h9 := hstk; rw [stk7] at h9; exact (Prod.mk.inj (Option.some.inj h9)).2
    simp only [Int.reduceBEq, Bool.false_eq_true, if_false, if_true]
    have hoff1 : off = 1 := k1 (by omega)
    have gv : 0 ≤ (0 : Int) ∧ (0 : Int) < v.length := by omega
    unfold frame_runner_plain
    simp only [Int.reduceBEq, Bool.false_eq_true, if_false, if_true]
    rw [pop 1 _ hoff1.symm]
    simp only [Option.bind_some, if_pos gv, conj_eq]
    rw [push _ [_] (by simp)]
    exact ⟨_, _, rfl, .inr (.inr (.inl ⟨by decide, rfl, hst, rfl, by simp [r08_Next, bnd], by simp only [List.length_append, List.length_cons, List.length_nil]; omega, rfl, .inl rfl⟩))⟩
  · obtain rfl : 2 = on := by have h9 := hstk; rw [stk8] at h9; exact (Prod.mk.inj (Option.some.inj h9)).2
    simp only [Int.reduceBEq, Bool.false_eq_true, if_false, if_true]
    have hoff1 : off = 1 := k1 (by omega)
    have gv : 0 ≤ (0 : Int) ∧ (0 : Int) < v.length := by omega
    unfold frame_runner_plain
    simp only [Int.reduceBEq, Bool.false_eq_true, if_false, if_true]
    rw [pop 1 _ hoff1.symm]
    simp only [Option.bind_some, if_pos gv]
    rw [push _ [_, _] (by simp)]
    exact ⟨_, _, rfl, .inr (.inr (.inl ⟨by decide, rfl, hst, rfl, by simp [r08_Next, bnd], by simp only [List.length_append, List.length_cons, List.length_nil]; omega, rfl, .inl rfl⟩))⟩
  · obtain rfl : 0 = on := by have h9 := hstk; rw [stk9] at h9; exact (Prod.mk.inj (Option.some.inj h9)).2
    simp only [Int.reduceBEq, Bool.false_eq_true, if_false, if_true]
    have hoff1 : off = 1 := k1 (by omega)
    unfold frame_runner_plain
    simp only [Int.reduceBEq, Bool.false_eq_true, if_false, if_true]
    rw [pop 1 _ hoff1.symm]
    simp only [Option.bind_some]
    exact ⟨_, _, rfl, .inr (.inr (.inl ⟨by decide, rfl, hst, rfl, by simp [r08_Next, bnd], by simp only; omega, rfl, .inl rfl⟩))⟩
  · obtain rfl : 0 = on := by have h9 := hstk; rw [stk10] at h9; exact (Prod.mk.inj (Option.some.inj h9)).2
    simp only [Int.reduceBEq, Bool.false_eq_true, if_false, if_true]
    have hoff0 : off = 0 := k00 (by omega)
    subst hoff0
    have hsS : s = f.Stack := by rw [← hss]; simp
    subst hsS
    unfold frame_runner_plain
    simp only [Int.reduceBEq, Bool.false_eq_true, if_false, if_true]
    simp only [Option.bind_some]
    exact ⟨_, _, rfl, .inr (.inr (.inl ⟨by decide, rfl, hst, rfl, by simp [r08_Next, bnd], by simp only; omega, rfl, .inl rfl⟩))⟩
  · obtain rfl : 0 = on := by have h9 := hstk; rw [stk11] at h9; exact (Prod.mk.inj (Option.some.inj h9)).2
    simp only [Int.reduceBEq, Bool.false_eq_true, if_false, if_true]
    have hoff1 : off = 1 := k1 (by omega)
    have gv : 0 ≤ (0 : Int) ∧ (0 : Int) < v.length := by omega
    unfold frame_runner_plain
    simp only [Int.reduceBEq, Bool.false_eq_true, if_false, if_true]
    rw [pop 1 _ hoff1.symm]
    simp only [Option.bind_some, if_pos gv, bnd]
    split
    · exact ⟨_, _, rfl, .inr (.inr (.inl ⟨by decide, rfl, hst, rfl, by simp [r08_Next, bnd], by simp only; omega, rfl, .inl rfl⟩))⟩
    · exact ⟨_, _, rfl, .inr (.inr (.inl ⟨by decide, rfl, hst, rfl, by simp [r08_Next, bnd], by simp only; omega, rfl, .inl rfl⟩))⟩
  · obtain rfl : 1 = on := by have h9 := hstk; rw [stk12] at h9; exact (Prod.mk.inj (Option.some.inj h9)).2
    simp only [Int.reduceBEq, Bool.false_eq_true, if_false, if_true]
    have hoff0 : off = 0 := k00 (by omega)
    subst hoff0
    have hsS : s = f.Stack := by rw [← hss]; simp
    subst hsS
    unfold frame_runner_plain
    simp only [Int.reduceBEq, Bool.false_eq_true, if_false, if_true]
    obtain ⟨w, hw⟩ := draw_total K hK f.Seed f.Draws
    simp only [hw, Option.bind_some]
    rw [push _ [_] (by simp)]
    exact ⟨_, _, rfl, .inr (.inr (.inl ⟨by decide, rfl, hst, rfl, by simp [r08_Next, bnd], by simp only [List.length_append, List.length_cons, List.length_nil]; omega, rfl, .inl rfl⟩))⟩
  · obtain rfl : 0 = on := by have h9 := hstk; rw [stk13] at h9; exact (Prod.mk.inj (Option.some.inj h9)).2
    simp only [Int.reduceBEq, Bool.false_eq_true, if_false, if_true]
    have gb : 0 ≤ b ∧ b < (f.Slots.length : Int) := ⟨r.2.2.2.2.1, (q3 rfl).2⟩
    unfold frame_runner_spawn
    simp only [if_pos gb]
    by_cases hb : (gd f.Slots b).State = 0
    · have hb' : ((gd f.Slots b).State != 0) = false := by simp [hb]
      obtain ⟨w, hw⟩ := child_total K hK f.Seed f.Spawned
      simp only [hb', Bool.false_eq_true, if_false, hw, Option.bind_some, bnd, hoff]
      rw [pop_eq (f := { f with Slots := f.Slots.set b.toNat ⟨1, frame_noRef, ⟨0, ⟨0, 0⟩⟩⟩ }) (p := p) (x := ⟨13, a, b⟩) (act := ⟨1, 0, 0, 0, []⟩) (by omega) (show off ≤ f.Stack.length by omega) (show f.Stack.length ≤ 1000 by omega)]
      simp only [Option.bind_some, hvv, hss]
      exact ⟨_, _, rfl, .inr (.inr (.inr ⟨rfl, rfl, rfl, hst, rfl, by simp [r08_Next, bnd], by simp only; omega, rfl, rfl⟩))⟩
    · have hb' : ((gd f.Slots b).State != 0) = true := by simpa using hb
      simp only [hb', if_true, frame_runner_trap, frame_runner_end, bnd, Option.bind_some]
      exact ⟨_, _, rfl, .inl ⟨rfl, rfl, .inr (.inr (.inl rfl))⟩⟩
  · obtain rfl : 1 = on := by have h9 := hstk; rw [stk14] at h9; exact (Prod.mk.inj (Option.some.inj h9)).2
    simp only [Int.reduceBEq, Bool.false_eq_true, if_false, if_true]
    have hoff0 : off = 0 := k00 (by omega)
    have ga : 0 ≤ a ∧ a < (f.Slots.length : Int) := ⟨r.2.2.1, q2 rfl⟩
    unfold frame_runner_join
    simp only [if_pos ga]
    by_cases hb : (gd f.Slots a).State = 1
    · simp only [hb, beq_self_eq_true, if_true, Option.bind_some]
      exact ⟨_, _, rfl, .inr (.inl ⟨rfl, hb⟩)⟩
    have hb1 : ((gd f.Slots a).State == 1) = false := by simpa using hb
    simp only [hb1, Bool.false_eq_true, if_false]
    by_cases hb2 : (gd f.Slots a).State = 2
    · simp only [hb2, beq_self_eq_true, if_true]
      by_cases ht0 : (gd f.Slots a).Out.Trap = 0
      · have ht1 : ((gd f.Slots a).Out.Trap != 0) = false := by simp [ht0]
        simp only [ht1, Bool.false_eq_true, if_false]
        rw [push_eq (by simp only; omega) (by simp)]
        simp only [Option.bind_some]
        exact ⟨_, _, rfl, .inr (.inr (.inl ⟨by decide, rfl, hst, rfl, by simp [r08_Next, bnd], by simp only [List.length_append, List.length_cons, List.length_nil]; omega, rfl, .inr rfl⟩))⟩
      · have ht1 : ((gd f.Slots a).Out.Trap != 0) = true := by simpa using ht0
        simp only [ht1, if_true, frame_runner_trap, frame_runner_end, bnd, Option.bind_some]
        exact ⟨_, _, rfl, .inl ⟨rfl, rfl, .inr (.inr (.inr (.inr ⟨rfl, hb2, rfl⟩)))⟩⟩
    · have hb3 : ((gd f.Slots a).State == 2) = false := by simpa using hb2
      simp only [hb3, Bool.false_eq_true, if_false, frame_runner_trap, frame_runner_end, bnd, Option.bind_some]
      exact ⟨_, _, rfl, .inl ⟨rfl, rfl, .inr (.inr (.inl rfl))⟩⟩
  · simp only [Int.reduceBEq, Bool.false_eq_true, if_false, if_true]
    have hoff1 : off = 1 := k1 (by omega)
    have gv : 0 ≤ (0 : Int) ∧ (0 : Int) < v.length := by omega
    rw [pop 1 _ hoff1.symm]
    simp only [Option.bind_some, if_pos gv, frame_runner_end, bnd]
    exact ⟨_, _, rfl, .inl ⟨rfl, rfl, .inl rfl⟩⟩
  · simp only [Int.reduceBEq, Bool.false_eq_true, if_false, if_true]
    simp only [frame_runner_trap, frame_runner_end, bnd]
    exact ⟨_, _, rfl, .inl ⟨rfl, rfl, .inr (.inr (.inr (.inl ⟨rfl, rfl⟩)))⟩⟩

set_option maxRecDepth 100000
def badT (o : GOut) : Bool := o.Trap == 3 || o.Trap == 4
def anyT (xs : List GOut) : Bool := xs.any badT
theorem anyT_take {l : List GOut} {i : Int} (h0 : 0 ≤ i) (h1 : i < l.length) : anyT (l.take (i + 1).toNat) = (anyT (l.take i.toNat) || badT (gd l i)) := by
  rw [take_gdA h0 h1]; simp [anyT]
theorem may16 {a b : Int} (h : r06_May ⟨16, a, b⟩ = true) : 16 ≤ a := by
  rw [← may6] at h
  simp only [op_May, op_spans, op_span_has, bnd] at h
  simp at h
  omega
abbrev tupF (f : GFrame) (i : Int) : Int × Int × Int × Int × Int × Int × Int × Int × List GValue × List GValue × List GSlot × Int × Int × Int × Int × Int × Int :=
  (f.Fn, f.Pc, f.Out.Trap, f.Out.V.Re, f.Out.V.Im, f.Up.At, f.Up.Gen, f.UpSlot, f.Stack, f.Locals, f.Slots, f.Seed, f.Spawned, f.Draws, f.State, f.Wait, i)
theorem told_l3 (K : Nat) (l : List GOut) (hl : l.length ≤ 100) (i : Int) (hi : 0 ≤ i ∧ i ≤ l.length) (y : GFrame × Int) (rec : _ → Option Bool) (h3 : y.2 ≠ 3) (h0 : y.2 ≠ 0) :
    ∀ (d k : Nat) (j : Int) (t : Bool), 0 ≤ j → j ≤ i → i - j = d → d < k → (y.2 = 4 → (y.1.Out.Trap = 3 ∨ y.1.Out.Trap = 4) → (t || anyT ((l.take i.toNat).drop j.toNat)) = true) → law09_FrameSafe_l3 K l i y rec k (t, j) = rec (tupF y.1 (w64 (i + 1))) := by
  intro d
  induction d with
  | zero =>
    intro k j t j0 j1 hd hk hbad
    obtain ⟨k, rfl⟩ : ∃ m, k = m + 1 := ⟨k - 1, by omega⟩
    simp only [law09_FrameSafe_l3, bnd]
    rw [if_neg (by simp; omega)]
    have c3 : (y.2 == 3) = false := by simpa using h3
    have c0 : (y.2 == 0) = false := by simpa using h0
    rw [c3, c0]
    rw [List.drop_of_length_le (by rw [List.length_take]; omega)] at hbad
    simp only [anyT, List.any_nil, Bool.or_false] at hbad
    refine if_neg ?_
    simp only [bnd, Bool.false_eq_true, if_false]
    by_cases c4 : y.2 = 4
    · cases t with
      | true => simp
      | false =>
        have hb := fun q => hbad c4 q
        have n3 : (y.1.Out.Trap == 3) = false := by
          cases z : (y.1.Out.Trap == 3) with
          | false => rfl
          | true => have := hb (.inl (by simpa using z)); cases this
        have n4 : (y.1.Out.Trap == 4) = false := by
          cases z : (y.1.Out.Trap == 4) with
          | false => rfl
          | true => have := hb (.inr (by simpa using z)); cases this
        simp [c4, n3, n4]
    · simp [c4]
  | succ d ih =>
    intro k j t j0 j1 hd hk hbad
    obtain ⟨k, rfl⟩ : ∃ m, k = m + 1 := ⟨k - 1, by omega⟩
    have gj : 0 ≤ j ∧ j < (l.length : Int) := by omega
    simp only [law09_FrameSafe_l3]
    rw [if_pos (by simp; omega)]
    simp only [if_pos gj]
    have e : ((if t = true then some true else some ((gd l j).Trap == 3)).bind fun y224 => (if y224 = true then some true else some ((gd l j).Trap == 4)).bind fun y226 => law09_FrameSafe_l3 K l i y rec k (y226, w64 (j + 1))) = law09_FrameSafe_l3 K l i y rec k (t || badT (gd l j), w64 (j + 1)) := by
      unfold badT
      cases t <;> cases (gd l j).Trap == 3 <;> cases (gd l j).Trap == 4 <;> rfl
    rw [e, w64_id (by omega)]
    refine ih k (j + 1) _ (by omega) (by omega) (by omega) (by omega) (fun a b => ?_)
    have h := hbad a b
    have hd2 : (l.take i.toNat).drop j.toNat = gd l j :: (l.take i.toNat).drop (j + 1).toNat := by
      have h1 : gd (l.take i.toNat) j = gd l j := by
        rw [gd_mem j0 (by rw [List.length_take]; omega), gd_mem j0 gj.2, List.getElem_take]
      rw [← h1]
      exact drop_gdA j0 (by rw [List.length_take]; omega)
    rw [hd2] at h
    simpa [anyT, Bool.or_assoc] using h
/-- What holds of a frame on its way. -/
def OnWay (p : List GFunc) (fn : Int) (D : List Int) (l : List GOut) (f : GFrame) (i : Int) : Prop :=
  f.State ≠ 0 ∨ (f.State = 0 ∧ f.Fn = fn ∧ (0 ≤ f.Pc ∧ f.Pc < (gd p fn).Code.length) ∧ gd D f.Pc = f.Stack.length ∧ f.Stack.length ≤ 16 ∧ (f.Locals.length : Int) = (gd p fn).Locals ∧ (f.Slots.length : Int) = (gd p fn).Slots ∧
    ∀ j, 0 ≤ j → j < (f.Slots.length : Int) → (gd f.Slots j).State = 0 ∨ ((gd f.Slots j).State = 2 ∧ (badT (gd f.Slots j).Out = true → anyT (l.take i.toNat) = true)))
theorem give_at (g : GFrame) (b : Int) (o : GOut) (h1 : g.Stack.length ≤ 40) (h2 : g.Locals.length ≤ 40) (h3 : g.Slots.length ≤ 40) (hb : 0 ≤ b ∧ b < g.Slots.length) (hs : (gd g.Slots b).State = 1) (hst : g.State = 0) :
    frame_Give g b o = some ({ g with Slots := g.Slots.set b.toNat ⟨2, frame_noRef, o⟩ }, true) := by
  unfold frame_Give
  have hc : frame_clone g = some g := by
    unfold frame_clone slices_Clone_Value slices_Clone_Slot
    rw [if_pos (by unfold LIM; omega), if_pos (by unfold LIM; omega), if_pos (by unfold LIM; omega)]
    rfl
  have n1 : ¬ b < 0 := by omega
  have n2 : ¬ b ≥ (g.Slots.length : Int) := by omega
  simp [bnd, n1, n2, hb, hs, hc, hst]
theorem run_l2 (K : Nat) (hK : 1000 ≤ K) (p : List GFunc) (fn : Int) (D : List Int) (l : List GOut) (hl : l.length ≤ 100) (hfn : 0 ≤ fn ∧ fn < p.length) (hall : ∀ f ∈ p, okF f = true) (hgood : FGood K p (gd p fn)) (hpost : Post p (gd p fn) D) :
    ∀ (d k : Nat) (i : Int) (f : GFrame), 0 ≤ i → i ≤ l.length → (l.length : Int) - i = d → d < k → OnWay p fn D l f i → law09_FrameSafe_l2 K p l D k (tupF f i) = some true := by
  obtain ⟨hdl, hd0, hedge⟩ := hpost
  obtain ⟨_, hfld, _⟩ := hgood
  obtain ⟨⟨a0, a1, l0, l1, t0, t1⟩, c1, c2, hmay⟩ := okF_facts (hall _ (gd_memL hfn.1 hfn.2))
  intro d
  induction d with
  | zero =>
    intro k i f i0 i1 hd hk _
    obtain ⟨k, rfl⟩ : ∃ m, k = m + 1 := ⟨k - 1, by omega⟩
    simp only [law09_FrameSafe_l2, bnd]
    rw [if_neg (by simp; omega)]
  | succ d ih =>
    intro k i f i0 i1 hd hk hway
    obtain ⟨k, rfl⟩ : ∃ m, k = m + 1 := ⟨k - 1, by omega⟩
    simp only [law09_FrameSafe_l2, bnd]
    have hin : decide (i < (l.length : Int)) = true := by simp; omega
    rcases hway with hne | ⟨hst, hf, hpc, hdep, h16, hlo, hsl, hsv⟩
    · rw [if_neg (by simp [hin, hne])]
    · rw [if_pos (by simp [hin, hst])]
      have gi : 0 ≤ i ∧ i < (l.length : Int) := by omega
      have gp : 0 ≤ f.Pc ∧ f.Pc < (D.length : Int) := by omega
      have n1 : ¬ f.Pc < 0 := by omega
      have n2 : ¬ f.Pc ≥ (D.length : Int) := by omega
      have n3 : (gd D f.Pc != (f.Stack.length : Int)) = false := by simp [hdep]
      simp only [n1, n2, n3, decide_false, Bool.false_eq_true, if_false, if_pos gp, if_pos gi]
      rw [show (⟨f.Fn, f.Pc, f.Stack, f.Locals, f.Slots, f.Seed, f.Spawned, f.Draws, f.State, f.Wait, ⟨f.Out.Trap, ⟨f.Out.V.Re, f.Out.V.Im⟩⟩, ⟨f.Up.At, f.Up.Gen⟩, f.UpSlot⟩ : GFrame) = f from rfl, show (⟨(gd l i).Trap, ⟨(gd l i).V.Re, (gd l i).V.Im⟩⟩ : GOut) = gd l i from rfl]
      -- the instruction
      have hm := hmay f.Pc hpc.1 hpc.2
      have hfl := hfld f.Pc hpc.1 hpc.2
      obtain ⟨bb, eb, eb0, enx⟩ := hedge f.Pc hpc.1 hpc.2 (by omega)
      generalize hi : gd (gd p fn).Code f.Pc = ins at hm hfl eb enx
      obtain ⟨o, a, b⟩ := ins
      have r := may_rangeR hm
      simp only at r
      have ff := field_facts hfl
      obtain ⟨off, on, x, hstk, hon, hon2, hoff, hOff, k2, k1, k00, k13⟩ := offs8 p a b (o := o) ⟨r.1, r.2.1⟩ (fun q => ⟨r.2.2.1, (ff.2.2.1 q).2⟩)
      have hoffr : 0 ≤ off ∧ off ≤ 16 := by
        by_cases o13 : o = 13
        · rw [k13 o13]
          obtain ⟨⟨z0, z1, _⟩, _⟩ := okF_facts (hall _ (gd_memL r.2.2.1 (ff.2.2.1 o13).2))
          exact ⟨z0, z1⟩
        · omega
      rw [hdep] at eb
      obtain ⟨b1, b2, b3⟩ := behind_eq hOff hon hoffr.1 (by omega) hon2 ⟨by omega, by omega⟩ eb eb0
      obtain ⟨g, c, eg, hsafe⟩ := do_safe K (by omega) p f (gd p fn).Code hst (by rw [hf]; exact hfn) (by rw [hf]) hpc hi hm (fun q => by have := ff.1 q; omega) (fun q => by have := ff.2.1 q; omega) (fun q => ⟨(ff.2.2.1 q).2, by have := (ff.2.2.1 q).1; omega⟩) hstk hoff hon2 k2 k1 k00 hoffr.1 b1 b2 (by omega) (by omega) (by omega)
      -- how the round ends
      have fin : ∀ (h : GFrame) (kind : Int), law09_step K p f (gd l i) = some (h, kind) → kind ≠ 3 → kind ≠ 0 → (kind = 4 → (h.Out.Trap = 3 ∨ h.Out.Trap = 4) → anyT (l.take i.toNat) = true) → OnWay p fn D l h (i + 1) →
          ((law09_step K p f (gd l i)).bind fun y197 => (if ((gd l i).Trap == 3) = true then some true else some ((gd l i).Trap == 4)).bind fun y203 => law09_FrameSafe_l3 K l i y197 (law09_FrameSafe_l2 K p l D k) K (y203, 0)) = some true := fun h kind es n3 n0 nb hw => by
        rw [es]
        have e2 : (if ((gd l i).Trap == 3) = true then some true else some ((gd l i).Trap == 4)) = some (badT (gd l i)) := by
          unfold badT; cases (gd l i).Trap == 3 <;> rfl
        rw [e2]
        simp only [Option.bind_some]
        rw [told_l3 K l hl i ⟨i0, by omega⟩ (h, kind) (law09_FrameSafe_l2 K p l D k) n3 n0 i.toNat K 0 (badT (gd l i)) (by omega) (by omega) (by omega) (by omega) (fun q1 q2 => by
          have := nb q1 q2
          rw [show ((0 : Int)).toNat = 0 from rfl, List.drop_zero, this, Bool.or_true]), w64_id (by omega)]
        exact ih k (i + 1) h (by omega) (by omega) (by omega) (by omega) hw
      have mono : anyT (l.take i.toNat) = true → anyT (l.take (i + 1).toNat) = true := fun q => by rw [anyT_take i0 gi.2, q]; rfl
      rcases hsafe with ⟨s1, s2, s3⟩ | ⟨s1, s2⟩ | ⟨s0, s1, s2, s3, s4, s5, s6, s7⟩ | ⟨s0, s1, s1', s2, s3, s4, s5, s6, s7⟩
      · refine fin g 4 (by unfold law09_step; rw [eg]; simp [s1]) (by decide) (by decide) (fun _ q => ?_) (.inl (by rw [s2]; decide))
        rcases s3 with z | z | z | ⟨z1, z2⟩ | ⟨z1, z2, z3⟩
        · omega
        · omega
        · omega
        · subst z1
          have := may16 hm
          omega
        · have hja : 0 ≤ a ∧ a < (f.Slots.length : Int) := ⟨r.2.2.1, by have := ff.2.1 z1; omega⟩
          rcases hsv a hja.1 hja.2 with w | ⟨w1, w2⟩
          · omega
          · refine w2 ?_
            unfold badT
            rw [← z3]
            rcases q with q | q <;> simp [q]
      · exfalso
        have hja : 0 ≤ a ∧ a < (f.Slots.length : Int) := ⟨r.2.2.1, by have := ff.2.1 s1; omega⟩
        rcases hsv a hja.1 hja.2 with w | ⟨w1, w2⟩ <;> omega
      · refine fin g 1 (by unfold law09_step; rw [eg]; simp [s1]) (by decide) (by decide) (fun q => by cases q) (.inr ⟨s2, by omega, ?_, ?_, by omega, by omega, ?_, ?_⟩)
        · obtain ⟨w1, w2, _⟩ := enx g.Pc s4
          exact ⟨w1, w2⟩
        · obtain ⟨_, _, w3⟩ := enx g.Pc s4
          omega
        · rcases s7 with w | w <;> rw [w] <;> simp [hsl]
        · intro j j0 j1
          rcases s7 with w | w
          · rw [w] at j1 ⊢
            rcases hsv j j0 j1 with v | ⟨v1, v2⟩
            · exact .inl v
            · exact .inr ⟨v1, fun q => mono (v2 q)⟩
          · rw [w] at j1 ⊢
            simp only [List.length_set] at j1
            rw [gd_set r.2.2.1 j0 j1]
            by_cases q : a = j
            · rw [if_pos q]; exact .inl rfl
            · rw [if_neg q]
              rcases hsv j j0 j1 with v | ⟨v1, v2⟩
              · exact .inl v
              · exact .inr ⟨v1, fun q => mono (v2 q)⟩
      · have hb : 0 ≤ b ∧ b < (f.Slots.length : Int) := ⟨r.2.2.2.2.1, by have := (ff.2.2.1 s0).1; omega⟩
        have hgl : g.Slots.length = f.Slots.length := by rw [s7]; simp
        have hgb : (gd g.Slots b).State = 1 := by rw [s7, gd_set hb.1 hb.1 hb.2, if_pos rfl]
        have hgive := give_at g b (gd l i) (by omega) (by omega) (by omega) ⟨hb.1, by omega⟩ hgb s2
        refine fin { g with Slots := g.Slots.set b.toNat ⟨2, frame_noRef, gd l i⟩ } 2 (by unfold law09_step; rw [eg]; simp [s1, s1', hgive]) (by decide) (by decide) (fun q => by cases q) (.inr ⟨s2, by simp only; omega, ?_, ?_, by simp only; omega, by simp only; omega, ?_, ?_⟩)
        · obtain ⟨w1, w2, _⟩ := enx g.Pc s4
          exact ⟨w1, w2⟩
        · obtain ⟨_, _, w3⟩ := enx g.Pc s4
          simp only
          omega
        · simp only [List.length_set]; omega
        · intro j j0 j1
          simp only [List.length_set] at j1 ⊢
          rw [gd_set hb.1 j0 (by omega)]
          by_cases q : b = j
          · rw [if_pos q]
            refine .inr ⟨rfl, fun z => ?_⟩
            rw [anyT_take i0 gi.2, z, Bool.or_true]
          · rw [if_neg q, s7, gd_set hb.1 j0 (by omega), if_neg q]
            rcases hsv j j0 (by omega) with v | ⟨v1, v2⟩
            · exact .inl v
            · exact .inr ⟨v1, fun q => mono (v2 q)⟩
def zV : GValue := ⟨0, 0⟩
def zS : GSlot := ⟨0, ⟨0, 0⟩, ⟨0, ⟨0, 0⟩⟩⟩
theorem idx_zero (K : Nat) (n : Nat) (hn : n ≤ 900) : ∀ (d k : Nat) (i : Int), 0 ≤ i → i ≤ n → (n : Int) - i = d → d < k → slices_IndexFunc_Value_at22_l1 K (List.replicate n zV) k i = some (-1) := by
  intro d
  induction d with
  | zero =>
    intro k i h0 h1 hd hk
    obtain ⟨k, rfl⟩ : ∃ m, k = m + 1 := ⟨k - 1, by omega⟩
    simp only [slices_IndexFunc_Value_at22_l1]
    rw [if_neg (by simp; omega)]
  | succ d ih =>
    intro k i h0 h1 hd hk
    obtain ⟨k, rfl⟩ : ∃ m, k = m + 1 := ⟨k - 1, by omega⟩
    simp only [slices_IndexFunc_Value_at22_l1, bnd]
    rw [if_pos (by simp; omega), if_pos ⟨h0, by simp; omega⟩, gd_replicate h0 (by omega), show frame_New_1 ⟨zV.Re, zV.Im⟩ = false by decide, if_neg (by decide), w64_id (by omega)]
    exact ih k (i + 1) (by omega) (by omega) (by omega) (by omega)
theorem new_ok (K : Nat) (hK : 1000 ≤ K) (p : List GFunc) (hp : ∀ f ∈ p, f.Code.length ≤ 9223372036854775807 ∧ f.Code.length < K) (hn : p.length ≤ 20) (hm : mayB p = true) (fn : Int) (hfn : 0 ≤ fn ∧ fn < p.length) (hok : okF (gd p fn) = true) (ha : (gd p fn).Arity ≤ (gd p fn).Locals) :
    ∃ lo, frame_New K p fn (List.replicate (gd p fn).Arity.toNat zV) 3 = some (⟨fn, 0, [], lo, List.replicate (gd p fn).Slots.toNat zS, 3, 0, 0, 0, 0, ⟨0, ⟨0, 0⟩⟩, ⟨-1, 0⟩, 0⟩, true) ∧ (lo.length : Int) = (gd p fn).Locals := by
  obtain ⟨⟨a0, a1, l0, l1, t0, t1⟩, c1, c2, hmay⟩ := okF_facts hok
  unfold frame_New
  rw [code_may K p hp hn hK, hm]
  have n1 : ¬ fn < 0 := by omega
  have n2 : ¬ fn ≥ (p.length : Int) := by omega
  have n3 : ¬ (gd p fn).Arity > (gd p fn).Locals := by omega
  have n4 : (((List.replicate (gd p fn).Arity.toNat zV).length : Int) != (gd p fn).Arity) = false := by simp; omega
  have hc : slices_ContainsFunc_Value_at22 K (List.replicate (gd p fn).Arity.toNat zV) = some false := by
    unfold slices_ContainsFunc_Value_at22 slices_IndexFunc_Value_at22
    rw [idx_zero K _ (by omega) (gd p fn).Arity.toNat K 0 (by omega) (by omega) (by omega) (by omega)]
    rfl
  simp only [Option.bind_some, bnd, n1, n2, n3, n4, hc, decide_false, Bool.not_true, Bool.false_eq_true, if_false, if_pos hfn, show decide ((3 : Int) < 0) = false from rfl, show decide ((3 : Int) > 4294967295) = false from rfl]
  rw [if_pos ⟨l0, by omega, by unfold LIM; omega, by omega⟩, if_pos ⟨t0, by omega, by unfold LIM; omega, by omega⟩]
  refine ⟨_, rfl, ?_⟩
  unfold copied
  simp
  omega
theorem start_l1 (K : Nat) (p : List GFunc) (fn : Int) (l : List GOut) (hfn : 0 ≤ fn ∧ fn < p.length) (A : Nat) (hA : (gd p fn).Arity = A) (h16 : A ≤ 16) : ∀ (d k j : Nat), j ≤ A → A - j = d → d < k →
    law09_FrameSafe_l1 K p fn l k (List.replicate j zV, (j : Int)) = (frame_New K p fn (List.replicate A zV) 3).bind fun y37 => (r08_Depths K p fn).bind fun y44 => if (!y37.2) = true then some false else law09_FrameSafe_l2 K p l y44 K (tupF y37.1 0) := by
  intro d
  induction d with
  | zero =>
    intro k j h1 hd hk
    obtain ⟨k, rfl⟩ : ∃ m, k = m + 1 := ⟨k - 1, by omega⟩
    simp only [law09_FrameSafe_l1, bnd]
    rw [if_pos hfn, if_neg (by simp; omega), show j = A by omega]
  | succ d ih =>
    intro k j h1 hd hk
    obtain ⟨k, rfl⟩ : ∃ m, k = m + 1 := ⟨k - 1, by omega⟩
    simp only [law09_FrameSafe_l1, bnd]
    rw [if_pos hfn, if_pos (by simp; omega), if_pos (by unfold LIM; simp; omega), w64_id (by omega)]
    have := ih k (j + 1) (by omega) (by omega) (by omega)
    rw [List.replicate_succ'] at this
    exact this
theorem fixedK (k : Nat) : law09_fixed (k + 1000) = some true := by kernel_rfl
theorem small_l1 (K : Nat) (p : List GFunc) (m : Int) (hp : p.length ≤ 20) : ∀ (d k : Nat) (n i : Int), 0 ≤ i → i ≤ p.length → (p.length : Int) - i = d → d < k → ∃ b, r07_Small_l1 K p m k (n, i) = some b := by
  intro d
  induction d with
  | zero =>
    intro k n i h0 h1 hd hk
    obtain ⟨k, rfl⟩ : ∃ m, k = m + 1 := ⟨k - 1, by omega⟩
    simp only [r07_Small_l1, bnd]
    rw [if_neg (by simp; omega)]
    exact ⟨_, rfl⟩
  | succ d ih =>
    intro k n i h0 h1 hd hk
    obtain ⟨k, rfl⟩ : ∃ m, k = m + 1 := ⟨k - 1, by omega⟩
    simp only [r07_Small_l1, bnd]
    rw [if_pos (by simp; omega), if_pos ⟨h0, by omega⟩, w64_id (x := i + 1) (by omega)]
    exact ih k _ (i + 1) (by omega) (by omega) (by omega) (by omega)
theorem smallp_spec (K : Nat) (hK : 30 ≤ K) (p : List GFunc) (m : Int) : ∃ b, r07_Small K p m = some b ∧ (b = true → p.length ≤ 20) := by
  unfold r07_Small
  by_cases h : p.length ≤ 20
  · obtain ⟨b, e⟩ := small_l1 K p m h p.length K 0 0 (by omega) (by omega) (by omega) (by omega)
    exact ⟨b, e, fun _ => h⟩
  · obtain ⟨k, rfl⟩ : ∃ m, K = m + 1 := ⟨K - 1, by omega⟩
    simp only [r07_Small_l1, bnd]
    rw [if_neg (by simp; omega)]
    refine ⟨_, rfl, ?_⟩
    intro h2
    rw [if_neg (by simp; omega)] at h2
    cases h2
theorem code_sum (p : List GFunc) : ∀ f ∈ p, f.Code.length ≤ (p.map fun f => f.Code.length).sum := by
  induction p with
  | nil => intro f h; cases h
  | cons g p ih =>
    intro f h
    rw [List.map_cons, List.sum_cons]
    rcases List.mem_cons.1 h with e | e
    · subst e; omega
    · have := ih f e; omega
theorem pure_FrameSafe (x0 : List GFunc) (x1 : Int) (x2 : List GOut) (fb : ∀ f ∈ x0, FuncOk f) : ∃ K, law09_FrameSafe K x0 x1 x2 = some true := by
  refine ⟨(x0.map fun f => f.Code.length).sum + 1000, ?_⟩
  generalize hk : (x0.map fun f => f.Code.length).sum = k0
  have hp : ∀ f ∈ x0, f.Code.length ≤ 9223372036854775807 ∧ f.Code.length < k0 + 1000 := fun f hf => ⟨(fb f hf).code, by have := code_sum x0 f hf; omega⟩
  unfold law09_FrameSafe
  obtain ⟨b, hb, hb2⟩ := smallp_spec (k0 + 1000) (by omega) x0 300
  rw [hb, fixedK]
  simp only [Option.bind_some, bnd, Bool.not_true, Bool.false_eq_true, if_false]
  cases b with
  | false => simp
  | true =>
    have hn := hb2 rfl
    obtain ⟨gb, hg, hg2⟩ := good_spec (k0 + 1000) x0 hp hn (by omega)
    rw [hg]
    simp only [Option.bind_some, Bool.not_true, Bool.false_eq_true, if_false]
    cases gb with
    | false => simp
    | true =>
      obtain ⟨hm, hgood⟩ := hg2 rfl
      by_cases f0 : x1 < 0
      · simp [f0]
      by_cases f1 : x1 ≥ (x0.length : Int)
      · simp [f1]
      by_cases f2 : (x2.length : Int) > 100
      · simp [f2]
      have hfn : 0 ≤ x1 ∧ x1 < (x0.length : Int) := by omega
      have hall : ∀ f ∈ x0, okF f = true := by
        simp only [mayB, Bool.and_eq_true, List.all_eq_true] at hm
        exact hm.1
      have hok := hall _ (gd_memL hfn.1 hfn.2)
      obtain ⟨⟨a0, a1, l0, l1, t0, t1⟩, c1, c2, hmay⟩ := okF_facts hok
      have hfg := hgood x1 hfn.1 hfn.2
      obtain ⟨D, hD, hpost⟩ := depths_spec (k0 + 1000) x0 x1 hg hfn hfg
      obtain ⟨lo, hnew, hlo⟩ := new_ok (k0 + 1000) (by omega) x0 hp hn hm x1 hfn hok hfg.1
      simp only [f0, f1, f2, decide_false, Bool.not_true, Bool.false_eq_true, if_false]
      have st := start_l1 (k0 + 1000) x0 x1 x2 hfn (gd x0 x1).Arity.toNat (by omega) (by omega) (gd x0 x1).Arity.toNat (k0 + 1000) 0 (by omega) (by omega) (by omega)
      rw [show List.replicate 0 zV = [] from rfl, show ((0 : Nat) : Int) = 0 from rfl] at st
      rw [st, hnew, hD]
      simp only [Option.bind_some, Bool.not_true, Bool.false_eq_true, if_false]
      refine run_l2 (k0 + 1000) (by omega) x0 x1 D x2 (by omega) hfn hall hfg hpost x2.length (k0 + 1000) 0 _ (by omega) (by omega) (by omega) (by omega) (.inr ⟨rfl, rfl, ⟨by simp, by simp only; omega⟩, ?_, by simp, hlo, by simp; omega, ?_⟩)
      · exact hpost.2.1
      · intro j j0 j1
        simp only [List.length_replicate] at j1
        left
        simp only
        rw [gd_replicate j0 j1]
        rfl

end Go.Proofs.Ytcoepljalekglaa.FrameSafe.W
