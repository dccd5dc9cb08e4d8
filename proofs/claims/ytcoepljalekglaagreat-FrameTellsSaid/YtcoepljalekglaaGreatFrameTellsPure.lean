/- The plain law of FrameTells: what the walk's function tells is true. -/
import Derived.Test.YtcoepljalekglaaGreatFrameTellsW4
import Derived.KernelRfl
set_option linter.unusedVariables false
set_option linter.unusedSimpArgs false
namespace Go.Proofs.YtcoepljalekglaaGreat.FrameTells.W
open Go.Proofs.YtcoepljalekglaaGreat.G2 Go.Proofs
set_option maxRecDepth 100000
theorem w64_id {x : Int} (h : -9223372036854775808 ≤ x ∧ x ≤ 9223372036854775807) : w64 x = x := by
  unfold w64; rw [IntKind.wrap_i64]; omega
theorem rest_eq (n : Int) : gauss_rest n = n % 251 := by
  unfold gauss_rest
  have e : Int.tmod n 251 = n % 251 ∨ Int.tmod n 251 = n % 251 - 251 := by
    rw [Int.tmod_eq_emod]; split <;> simp
  have h : w64 (Int.tmod n 251 + 251) = Int.tmod n 251 + 251 := w64_id (by omega)
  rw [h, Int.tmod_eq_emod_of_nonneg (by omega)]
  omega
theorem of_is (v : GValue) : CIs (gauss_of v) (v.Re % 251) (v.Im % 251) := by
  unfold gauss_of
  simp only [bnd, rest_eq]
  exact ⟨is_fOf (by omega), is_fOf (by omega)⟩
theorem value_eq {u : Nat × Nat} {a b : Int} (h : CIs u a b) (ha : -1000000 ≤ a ∧ a ≤ 1000000) (hb : -1000000 ≤ b ∧ b ≤ 1000000) : gauss_value u = some ⟨a % 251, b % 251⟩ := by
  unfold gauss_value
  rw [h.1.toInt (by omega), h.2.toInt (by omega)]
  simp [bnd, gauss_Of, rest_eq]
theorem add_eq (x y : GValue) : gauss_Add x y = some ⟨(x.Re % 251 + y.Re % 251) % 251, (x.Im % 251 + y.Im % 251) % 251⟩ := by
  obtain ⟨r, e, i⟩ := (of_is x).add (of_is y) (by omega) (by omega)
  unfold gauss_Add
  simp only [bnd]
  rw [e]
  simp only [Option.bind_some]
  rw [value_eq i (by omega) (by omega)]
  rfl
theorem sub_eq (x y : GValue) : gauss_Sub x y = some ⟨(x.Re % 251 - y.Re % 251) % 251, (x.Im % 251 - y.Im % 251) % 251⟩ := by
  obtain ⟨r, e, i⟩ := (of_is x).sub (of_is y) (by omega) (by omega)
  unfold gauss_Sub
  simp only [bnd]
  rw [e]
  simp only [Option.bind_some]
  rw [value_eq i (by omega) (by omega)]
  rfl
theorem prod_bound (a b : Int) : 0 ≤ a % 251 * (b % 251) ∧ a % 251 * (b % 251) ≤ 62500 := by
  have h1 : 0 ≤ a % 251 ∧ a % 251 ≤ 250 := by omega
  have h2 : 0 ≤ b % 251 ∧ b % 251 ≤ 250 := by omega
  exact ⟨Int.mul_nonneg h1.1 h2.1, Int.mul_le_mul h1.2 h2.2 h2.1 (by omega)⟩
theorem mul_eq (x y : GValue) : gauss_Mul x y = some ⟨(x.Re % 251 * (y.Re % 251) - x.Im % 251 * (y.Im % 251)) % 251, (x.Re % 251 * (y.Im % 251) + x.Im % 251 * (y.Re % 251)) % 251⟩ := by
  have b1 := prod_bound x.Re y.Re
  have b2 := prod_bound x.Im y.Im
  have b3 := prod_bound x.Re y.Im
  have b4 := prod_bound x.Im y.Re
  obtain ⟨r, e, i⟩ := (of_is x).mul (of_is y) (by omega) (by omega) (by omega) (by omega) (by omega) (by omega)
  unfold gauss_Mul
  simp only [bnd]
  rw [e]
  simp only [Option.bind_some]
  rw [value_eq i (by omega) (by omega)]
  rfl
theorem conj_eq (x : GValue) : gauss_Conj x = some ⟨x.Re % 251, (-(x.Im % 251)) % 251⟩ := by
  have h := of_is x
  have i : CIs ((gauss_of x).1, fNeg (gauss_of x).2) (x.Re % 251) (-(x.Im % 251)) := ⟨h.1, h.2.neg⟩
  unfold gauss_Conj
  simp only [bnd]
  rw [value_eq i (by omega) (by omega)]
  simp
theorem pow_l1_total (K : Nat) : ∀ (j k : Nat) (a b c d n : Int), 0 ≤ n → n < 2 ^ j → n ≤ 1000000 → j < k → ∃ v, gauss_Pow_l1 K k (a, b, c, d, n) = some v := by
  intro j
  induction j with
  | zero =>
    intro k a b c d n h0 h1 hn hk
    obtain ⟨k, rfl⟩ : ∃ m, k = m + 1 := ⟨k - 1, by omega⟩
    have : n = 0 := by omega
    subst this
    exact ⟨_, rfl⟩
  | succ j ih =>
    intro k a b c d n h0 h1 hn hk
    obtain ⟨k, rfl⟩ : ∃ m, k = m + 1 := ⟨k - 1, by omega⟩
    simp only [gauss_Pow_l1]
    have e : w64 (n.tdiv 2) = n / 2 := by rw [Int.tdiv_eq_ediv_of_nonneg h0]; exact w64_id (by omega)
    have hp : (2 : Int) ^ (j + 1) = 2 * 2 ^ j := by rw [Int.pow_succ, Int.mul_comm]
    by_cases h : n > 0
    · rw [if_pos (by simpa using h)]
      rw [mul_eq, mul_eq]
      simp only [Option.bind_some]
      rw [e]
      split
      · exact ih k _ _ _ _ _ (by omega) (by omega) (by omega) (by omega)
      · exact ih k _ _ _ _ _ (by omega) (by omega) (by omega) (by omega)
    · rw [if_neg (by simpa using h)]
      exact ⟨_, rfl⟩
theorem pow_total (K : Nat) (hK : 20 ≤ K) (x : GValue) (n : Int) (h0 : 0 ≤ n) (hn : n < 65536) : ∃ v, gauss_Pow K x n = some v := by
  unfold gauss_Pow
  rw [if_neg (by simp; omega)]
  simp only [bnd]
  rw [value_eq (of_is x) (by omega) (by omega)]
  simp only [Option.bind_some]
  exact pow_l1_total K 16 K _ _ _ _ _ h0 hn (by omega) (by omega)
theorem div_total (K : Nat) (hK : 20 ≤ K) (x y : GValue) : ∃ r, gauss_Div K x y = some r := by
  unfold gauss_Div
  simp only [bnd]
  split
  · exact ⟨_, rfl⟩
  · obtain ⟨v, h⟩ := pow_total K hK y 62999 (by omega) (by omega)
    rw [h]
    simp only [Option.bind_some]
    rw [mul_eq]
    exact ⟨_, rfl⟩
def mixStep (z : Int) : Int := IntKind.wrap .u32 ((ixor .u32 z (ishr .u32 z 15)) * 2246822507)
def mixEnd (z : Int) : Int := w64 (ixor .u32 z (ishr .u32 z 13))
theorem mix_l1 (K : Nat) (k : Nat) (z : Int) : seed_Mix_l1 K (k + 3) (0, z) = some (mixEnd (mixStep (mixStep z))) := by
  have e1 : w64 (0 + 1) = 1 := by decide
  have e2 : w64 (1 + 1) = 2 := by decide
  simp only [seed_Mix_l1]
  rw [if_pos (by decide), e1, if_pos (by decide), e2, if_neg (by decide)]
  rfl
theorem mix_total (K : Nat) (hK : 20 ≤ K) (x y : Int) : ∃ r, seed_Mix K x y = some r := by
  unfold seed_Mix
  simp only [bnd]
  have e : ∀ z, seed_Mix_l1 K K (0, z) = some (mixEnd (mixStep (mixStep z))) := fun z => by
    have := mix_l1 K (K - 3) z
    rwa [show K - 3 + 3 = K by omega] at this
  repeat' split
  all_goals first | exact ⟨_, rfl⟩ | exact ⟨_, e _⟩
theorem seedof_total (K : Nat) (hK : 20 ≤ K) (x y z : Int) : ∃ r, seed_of K x y z = some r := by
  unfold seed_of
  obtain ⟨a, h⟩ := mix_total K hK x y
  obtain ⟨b, h2⟩ := mix_total K hK a z
  rw [h]; simp only [Option.bind_some]; rw [h2]
  exact ⟨_, rfl⟩
theorem child_total (K : Nat) (hK : 20 ≤ K) (x y : Int) : ∃ r, seed_Child K x y = some r := by
  unfold seed_Child
  obtain ⟨a, h⟩ := seedof_total K hK x 1 y
  rw [h]; simp only [Option.bind_some]
  split <;> exact ⟨_, rfl⟩
theorem draw_total (K : Nat) (hK : 20 ≤ K) (x y : Int) : ∃ r, seed_Draw K x y = some r := by
  unfold seed_Draw
  obtain ⟨a, h⟩ := seedof_total K hK x 2 y
  rw [h]; simp only [Option.bind_some]
  split <;> exact ⟨_, rfl⟩

set_option maxRecDepth 100000
theorem w64_addx {i : Int} {n : Nat} (h0 : 0 ≤ i) (h : i ≤ n) (hn : n ≤ 1000) : w64 (i + 1) = i + 1 := by
  unfold w64; rw [IntKind.wrap_i64]; omega
theorem values_l1 (K : Nat) (xs : List GValue) (hn : xs.length ≤ 1000) : ∀ (d k : Nat) (i : Int), 0 ≤ i → i ≤ xs.length → (xs.length : Int) - i = d → d < k → r09_Values_l1 K xs xs k i = some true := by
  intro d
  induction d with
  | zero =>
    intro k i h0 h1 hd hk
    obtain ⟨k, rfl⟩ : ∃ m, k = m + 1 := ⟨k - 1, by omega⟩
    simp only [r09_Values_l1]
    rw [if_neg (by simp; omega)]
  | succ d ih =>
    intro k i h0 h1 hd hk
    obtain ⟨k, rfl⟩ : ∃ m, k = m + 1 := ⟨k - 1, by omega⟩
    simp only [r09_Values_l1]
    rw [if_pos (by simp; omega), if_pos ⟨h0, by omega⟩, if_pos ⟨h0, by omega⟩, if_neg (by simp), w64_addx h0 h1 hn]
    exact ih k (i + 1) (by omega) (by omega) (by omega) (by omega)
theorem values_same1000 (xs : List GValue) (hn : xs.length ≤ 900) : r09_Values 1000 xs xs = some true := by
  unfold r09_Values
  rw [if_neg (by simp)]
  exact values_l1 1000 xs (by omega) xs.length 1000 0 (by omega) (by omega) (by omega) (by omega)
theorem same_l1 (K : Nat) (f : GFrame) (hn : f.Slots.length ≤ 1000) : ∀ (d k : Nat) (i : Int), 0 ≤ i → i ≤ f.Slots.length → (f.Slots.length : Int) - i = d → d < k → r09_Same_l1 K f f k i = some true := by
  intro d
  induction d with
  | zero =>
    intro k i h0 h1 hd hk
    obtain ⟨k, rfl⟩ : ∃ m, k = m + 1 := ⟨k - 1, by omega⟩
    simp only [r09_Same_l1]
    rw [if_neg (by simp; omega)]
    simp [bnd]
  | succ d ih =>
    intro k i h0 h1 hd hk
    obtain ⟨k, rfl⟩ : ∃ m, k = m + 1 := ⟨k - 1, by omega⟩
    simp only [r09_Same_l1]
    rw [if_pos (by simp; omega), if_pos ⟨h0, by omega⟩, if_pos ⟨h0, by omega⟩, if_neg (by simp), w64_addx h0 h1 hn]
    exact ih k (i + 1) (by omega) (by omega) (by omega) (by omega)
theorem same_self1000 (f : GFrame) (h1 : f.Stack.length ≤ 900) (h2 : f.Locals.length ≤ 900) (h3 : f.Slots.length ≤ 900) : r09_Same 1000 f f = some true := by
  unfold r09_Same
  rw [values_same1000 _ h1, values_same1000 _ h2]
  simp
  exact same_l1 1000 f (by omega) f.Slots.length 1000 0 (by omega) (by omega) (by omega) (by omega)
theorem small_of1000 {f : GFrame} (h : r09_Small f = true) : f.Stack.length ≤ 40 ∧ f.Locals.length ≤ 40 ∧ f.Slots.length ≤ 40 := by
  unfold r09_Small at h
  by_cases h1 : (f.Stack.length : Int) ≤ 40
  · by_cases h2 : (f.Locals.length : Int) ≤ 40
    · by_cases h3 : (f.Slots.length : Int) ≤ 40
      · omega
      · simp [bnd, h1, h2, h3] at h
    · simp [bnd, h1, h2] at h
  · simp [bnd, h1] at h

set_option maxRecDepth 100000
/-- Products of whole complex numbers, exact. -/
def G (x y : GValue) : GValue := ⟨x.Re * y.Re - x.Im * y.Im, x.Re * y.Im + x.Im * y.Re⟩
def red (x : GValue) : GValue := ⟨x.Re % 251, x.Im % 251⟩
def powG (b : GValue) : Nat → GValue
  | 0 => ⟨1, 0⟩
  | n + 1 => G (powG b n) b
theorem val_ext {x y : GValue} (h1 : x.Re = y.Re) (h2 : x.Im = y.Im) : x = y := by
  cases x; cases y; simp only at h1 h2; subst h1; subst h2; rfl
theorem G_comm (x y : GValue) : G x y = G y x := by
  apply val_ext <;> simp only [G]
  · rw [Int.mul_comm x.Re, Int.mul_comm x.Im]
  · rw [Int.mul_comm x.Re, Int.mul_comm x.Im, Int.add_comm]
theorem G_assoc (x y z : GValue) : G (G x y) z = G x (G y z) := by
  apply val_ext <;> simp only [G] <;> grind
theorem one_G (x : GValue) : G ⟨1, 0⟩ x = x := by apply val_ext <;> simp [G]
theorem G_one (x : GValue) : G x ⟨1, 0⟩ = x := by rw [G_comm, one_G]
theorem powG_add (b : GValue) (m n : Nat) : powG b (m + n) = G (powG b m) (powG b n) := by
  induction n with
  | zero => exact (G_one _).symm
  | succ n ih => rw [← Nat.add_assoc]; show G (powG b (m + n)) b = G (powG b m) (G (powG b n) b); rw [ih, G_assoc]
theorem powG_G (a b : GValue) (n : Nat) : powG (G a b) n = G (powG a n) (powG b n) := by
  induction n with
  | zero => exact (G_one _).symm
  | succ n ih =>
    show G (powG (G a b) n) (G a b) = G (G (powG a n) a) (G (powG b n) b)
    rw [ih, G_assoc, G_assoc, ← G_assoc (powG b n), G_comm (powG b n) a, G_assoc a]
theorem powG_mul (b : GValue) (m n : Nat) : powG b (m * n) = powG (powG b m) n := by
  induction n with
  | zero => rfl
  | succ n ih => rw [Nat.mul_succ, powG_add, ih]; rfl
theorem red_red (x : GValue) : red (red x) = red x := by apply val_ext <;> simp [red]
theorem red_G (x y : GValue) : red (G (red x) y) = red (G x y) := by
  apply val_ext <;> simp only [red, G]
  · rw [show x.Re % 251 = x.Re - 251 * (x.Re / 251) by omega, show x.Im % 251 = x.Im - 251 * (x.Im / 251) by omega, Int.sub_mul, Int.sub_mul, Int.mul_assoc, Int.mul_assoc]
    generalize x.Re / 251 * y.Re = p; generalize x.Im / 251 * y.Im = q; omega
  · rw [show x.Re % 251 = x.Re - 251 * (x.Re / 251) by omega, show x.Im % 251 = x.Im - 251 * (x.Im / 251) by omega, Int.sub_mul, Int.sub_mul, Int.mul_assoc, Int.mul_assoc]
    generalize x.Re / 251 * y.Im = p; generalize x.Im / 251 * y.Re = q; omega
theorem red_G2 (x y : GValue) : red (G x (red y)) = red (G x y) := by rw [G_comm, red_G, G_comm]
theorem red_powG (b : GValue) (n : Nat) : red (powG (red b) n) = red (powG b n) := by
  induction n with
  | zero => rfl
  | succ n ih => show red (G (powG (red b) n) (red b)) = red (G (powG b n) b); rw [red_G2, ← red_G, ih, red_G]
theorem mul_red (x y : GValue) : gauss_Mul x y = some (red (G x y)) := by
  rw [mul_eq, ← red_G, ← red_G2]; rfl
theorem pow_l1_eq (K : Nat) : ∀ (j k : Nat) (a o : GValue) (n : Nat), red o = o → n < 2 ^ j → n ≤ 1000000 → j < k → gauss_Pow_l1 K k (a.Re, a.Im, o.Re, o.Im, (n : Int)) = some (red (G o (powG a n))) := by
  intro j
  induction j with
  | zero =>
    intro k a o n ho h1 hn hk
    obtain ⟨k, rfl⟩ : ∃ m, k = m + 1 := ⟨k - 1, by omega⟩
    have : n = 0 := by omega
    subst this
    show some o = _
    rw [show powG a 0 = ⟨1, 0⟩ from rfl, G_one, ho]
  | succ j ih =>
    intro k a o n ho h1 hn hk
    obtain ⟨k, rfl⟩ : ∃ m, k = m + 1 := ⟨k - 1, by omega⟩
    simp only [gauss_Pow_l1]
    have e : w64 ((n : Int).tdiv 2) = ((n / 2 : Nat) : Int) := by rw [Int.tdiv_eq_ediv_of_nonneg (by omega), w64_id (by omega)]; omega
    have hp : (2 : Nat) ^ (j + 1) = 2 * 2 ^ j := by rw [Nat.pow_succ, Nat.mul_comm]
    by_cases h : n = 0
    · subst h
      rw [if_neg (by simp), show powG a 0 = ⟨1, 0⟩ from rfl, G_one, ho]
    · rw [if_pos (by simp; omega), mul_red, mul_red]
      simp only [Option.bind_some]
      rw [e]
      have key : powG (G a a) (n / 2) = powG a (2 * (n / 2)) := by rw [powG_mul]; show _ = powG (G (G ⟨1, 0⟩ a) a) _; rw [one_G]
      by_cases h2 : n % 2 = 1
      · rw [if_pos (by rw [Int.tmod_eq_emod_of_nonneg (by omega)]; simp; omega)]
        rw [ih k (red (G a a)) (red (G o a)) (n / 2) (red_red _) (by omega) (by omega) (by omega)]
        rw [red_G, ← red_G2, red_powG, red_G2, key, G_assoc]
        have : powG a n = G a (powG a (2 * (n / 2))) := by
          conv => lhs; rw [show n = 2 * (n / 2) + 1 by omega]
          exact G_comm _ _
        rw [this]
      · rw [if_neg (by rw [Int.tmod_eq_emod_of_nonneg (by omega)]; simp; omega)]
        rw [ih k (red (G a a)) o (n / 2) ho (by omega) (by omega) (by omega)]
        rw [← red_G2, red_powG, red_G2, key, show 2 * (n / 2) = n by omega]
theorem pow_eq (K : Nat) (hK : 20 ≤ K) (b : GValue) (n : Nat) (hn : n < 65536) : gauss_Pow K b (n : Int) = some (red (powG b n)) := by
  unfold gauss_Pow
  rw [if_neg (by simp)]
  simp only [bnd]
  rw [value_eq (of_is b) (by omega) (by omega)]
  simp only [Option.bind_some]
  have := pow_l1_eq K 16 K ⟨b.Re % 251 % 251, b.Im % 251 % 251⟩ ⟨1, 0⟩ n rfl (by omega) (by omega) (by omega)
  rw [one_G] at this
  rw [show gauss_Of 1 0 = ⟨1, 0⟩ by rfl]
  rw [this, show (⟨b.Re % 251 % 251, b.Im % 251 % 251⟩ : GValue) = red (red b) from rfl, red_powG, red_powG]
/-- Powers that the kernel reckons. -/
def fastPow : Nat → GValue → GValue → Nat → GValue
  | 0, _, o, _ => o
  | k + 1, a, o, n => if n = 0 then o else fastPow k (red (G a a)) (if n % 2 = 1 then red (G o a) else o) (n / 2)
theorem fast_eq : ∀ (j : Nat) (a o : GValue) (n : Nat), red o = o → n < 2 ^ j → fastPow j a o n = red (G o (powG a n)) := by
  intro j
  induction j with
  | zero =>
    intro a o n ho h1
    have : n = 0 := by omega
    subst this
    show o = _
    rw [show powG a 0 = ⟨1, 0⟩ from rfl, G_one, ho]
  | succ j ih =>
    intro a o n ho h1
    have hp : (2 : Nat) ^ (j + 1) = 2 * 2 ^ j := by rw [Nat.pow_succ, Nat.mul_comm]
    simp only [fastPow]
    by_cases h : n = 0
    · subst h
      rw [if_pos rfl, show powG a 0 = ⟨1, 0⟩ from rfl, G_one, ho]
    · have key : powG (G a a) (n / 2) = powG a (2 * (n / 2)) := by rw [powG_mul]; show _ = powG (G (G ⟨1, 0⟩ a) a) _; rw [one_G]
      rw [if_neg h]
      by_cases h2 : n % 2 = 1
      · rw [if_pos h2, ih (red (G a a)) (red (G o a)) (n / 2) (red_red _) (by omega)]
        rw [red_G, ← red_G2, red_powG, red_G2, key, G_assoc]
        have : powG a n = G a (powG a (2 * (n / 2))) := by
          conv => lhs; rw [show n = 2 * (n / 2) + 1 by omega]
          exact G_comm _ _
        rw [this]
      · rw [if_neg h2, ih (red (G a a)) o (n / 2) ho (by omega)]
        rw [← red_G2, red_powG, red_G2, key, show 2 * (n / 2) = n by omega]
theorem pow251 (a : GValue) : red (powG a 251) = fastPow 8 a ⟨1, 0⟩ 251 := by
  rw [fast_eq 8 a ⟨1, 0⟩ 251 rfl (by decide), one_G]
def conjV (x : GValue) : GValue := ⟨x.Re, -x.Im⟩
def eqV (x y : GValue) : Bool := decide (x.Re = y.Re) && decide (x.Im = y.Im)
theorem eqV_eq {x y : GValue} (h : eqV x y = true) : x = y := by
  simp only [eqV, Bool.and_eq_true, decide_eq_true_eq] at h
  exact val_ext h.1 h.2
theorem frob_unit : (List.range 251).all (fun t => eqV (fastPow 8 ⟨1, (t : Int)⟩ ⟨1, 0⟩ 251) (red ⟨1, -(t : Int)⟩)) = true := by kernel_rfl
theorem frob_real : (List.range 251).all (fun t => eqV (fastPow 8 ⟨(t : Int), 0⟩ ⟨1, 0⟩ 251) (red ⟨(t : Int), 0⟩)) = true := by kernel_rfl
theorem frob_i : eqV (fastPow 8 ⟨0, 1⟩ ⟨1, 0⟩ 251) (red ⟨0, -1⟩) = true := by kernel_rfl
theorem inv_real : (List.range 251).all (fun t => t == 0 || (eqV (fastPow 8 ⟨(t : Int), 0⟩ ⟨1, 0⟩ 250) ⟨1, 0⟩)) = true := by kernel_rfl
theorem all_range {p : Nat → Bool} {n t : Nat} (h : (List.range n).all p = true) (ht : t < n) : p t = true := by
  rw [List.all_eq_true] at h
  exact h t (List.mem_range.2 ht)
theorem powG_real (x : Int) (n : Nat) : powG ⟨x, 0⟩ n = ⟨(powG ⟨x, 0⟩ n).Re, 0⟩ := by
  induction n with
  | zero => rfl
  | succ n ih =>
    show G (powG ⟨x, 0⟩ n) ⟨x, 0⟩ = ⟨(G (powG ⟨x, 0⟩ n) ⟨x, 0⟩).Re, 0⟩
    rw [ih]
    apply val_ext <;> simp [G]
theorem red_conj (x : GValue) : red (conjV (red x)) = red (conjV x) := by
  apply val_ext <;> simp only [red, conjV] <;> omega
theorem conj_G (x y : GValue) : conjV (G x y) = G (conjV x) (conjV y) := by
  apply val_ext <;> simp only [conjV, G] <;> grind
theorem real250 {x : Int} (h0 : 0 < x) (h1 : x < 251) : red (powG ⟨x, 0⟩ 250) = ⟨1, 0⟩ := by
  have := all_range inv_real (t := x.toNat) (by omega)
  simp only [Bool.or_eq_true, beq_iff_eq] at this
  rcases this with h | h
  · omega
  · have h := eqV_eq h
    rw [fast_eq 8 _ _ 250 rfl (by decide), one_G] at h
    rw [show ((x.toNat : Nat) : Int) = x by omega] at h
    exact h
theorem red_G_both (x y : GValue) : red (G (red x) (red y)) = red (G x y) := by rw [red_G, red_G2]
theorem frob_one {t : Int} (h0 : 0 ≤ t) (h1 : t < 251) : red (powG ⟨1, t⟩ 251) = red ⟨1, -t⟩ := by
  have := eqV_eq (all_range frob_unit (t := t.toNat) (by omega))
  rw [show ((t.toNat : Nat) : Int) = t by omega] at this
  rw [pow251, this]
theorem frob_re {t : Int} (h0 : 0 ≤ t) (h1 : t < 251) : red (powG ⟨t, 0⟩ 251) = red ⟨t, 0⟩ := by
  have := eqV_eq (all_range frob_real (t := t.toNat) (by omega))
  rw [show ((t.toNat : Nat) : Int) = t by omega] at this
  rw [pow251, this]
theorem frob0 {x y : Int} (hx : 0 ≤ x ∧ x < 251) (hy : 0 ≤ y ∧ y < 251) : red (powG ⟨x, y⟩ 251) = red (conjV ⟨x, y⟩) := by
  by_cases h : x = 0
  · subst h
    have e : (⟨0, y⟩ : GValue) = G ⟨0, 1⟩ ⟨y, 0⟩ := by apply val_ext <;> simp [G]
    have e2 : red (powG ⟨0, 1⟩ 251) = red ⟨0, -1⟩ := by rw [pow251]; exact eqV_eq frob_i
    rw [e, powG_G, ← red_G_both, e2, frob_re hy.1 hy.2, red_G_both]
    apply val_ext <;> simp [red, conjV, G]
  · have hx0 : 0 < x := by omega
    have hw := real250 hx0 hx.2
    have hw2 : powG ⟨x, 0⟩ 250 = G ⟨x, 0⟩ (powG ⟨x, 0⟩ 249) := G_comm _ _
    have hr := powG_real x 249
    generalize hu : (powG ⟨x, 0⟩ 249).Re = u at hr
    rw [hw2, hr] at hw
    have hux : (u * x) % 251 = 1 := by
      have := congrArg GValue.Re hw
      simp only [red, G] at this
      rw [Int.mul_comm]
      simpa using this
    have hc : red (G ⟨u, 0⟩ ⟨x, y⟩) = ⟨1, u * y % 251⟩ := by
      apply val_ext
      · simp only [red, G]; simpa using hux
      · simp [red, G]
    have hb : red (G ⟨x, 0⟩ ⟨1, u * y % 251⟩) = red ⟨x, y⟩ := by
      rw [← hc, red_G2, ← G_assoc, ← red_G, hw, one_G]
    have ht : 0 ≤ u * y % 251 ∧ u * y % 251 < 251 := by omega
    generalize u * y % 251 = t at hb ht
    rw [← red_powG, ← hb, red_powG, powG_G, ← red_G_both, frob_re hx.1 hx.2, frob_one ht.1 ht.2, red_G_both]
    have e : G (⟨x, 0⟩ : GValue) ⟨1, -t⟩ = conjV (G ⟨x, 0⟩ ⟨1, t⟩) := by
      rw [conj_G]
      apply val_ext <;> simp [G, conjV]
    rw [e, ← red_conj, hb, red_conj]
theorem frob (b : GValue) : red (powG b 251) = red (conjV b) := by
  rw [← red_powG, ← red_conj b]
  exact frob0 (by omega) (by omega)
theorem pow_full (b : GValue) {k : Int} (h : ((b.Re * b.Re + b.Im * b.Im) % 251 * k) % 251 = 1) : red (powG b 62999) = red (G (conjV b) ⟨k, 0⟩) := by
  have e0 : powG b 62999 = G (powG (powG b 251) 250) (powG b 249) := by rw [← powG_mul, ← powG_add]
  have e1 : red (powG (powG b 251) 250) = red (powG (conjV b) 250) := by rw [← red_powG, frob, red_powG]
  have e2 : powG (conjV b) 250 = G (conjV b) (powG (conjV b) 249) := G_comm _ _
  have e3 : G (conjV b) b = ⟨b.Re * b.Re + b.Im * b.Im, 0⟩ := by
    apply val_ext <;> simp only [G, conjV] <;> grind
  rw [e0, ← red_G, e1, red_G, e2, G_assoc, ← powG_G, e3, ← red_G2, ← red_powG]
  have hN : 0 ≤ (b.Re * b.Re + b.Im * b.Im) % 251 ∧ (b.Re * b.Re + b.Im * b.Im) % 251 < 251 := by omega
  rw [show red (⟨b.Re * b.Re + b.Im * b.Im, 0⟩ : GValue) = ⟨(b.Re * b.Re + b.Im * b.Im) % 251, 0⟩ from rfl]
  generalize (b.Re * b.Re + b.Im * b.Im) % 251 = N at h hN
  have h0 : 0 < N := by
    rcases Int.lt_or_eq_of_le hN.1 with q | q
    · exact q
    · exfalso; rw [← q] at h; simp at h
  have hk : red (powG ⟨N, 0⟩ 249) = red ⟨k, 0⟩ := by
    have r := real250 h0 hN.2
    have e4 : powG ⟨N, 0⟩ 250 = G (powG ⟨N, 0⟩ 249) ⟨N, 0⟩ := rfl
    have e5 : red (G (⟨N, 0⟩ : GValue) ⟨k, 0⟩) = ⟨1, 0⟩ := by
      apply val_ext
      · simp only [red, G]; simpa using h
      · simp [red, G]
    have e6 : red (G (powG ⟨N, 0⟩ 249) (G ⟨N, 0⟩ ⟨k, 0⟩)) = red (powG ⟨N, 0⟩ 249) := by rw [← red_G2, e5, G_one]
    have e7 : red (G (powG ⟨N, 0⟩ 249) (G ⟨N, 0⟩ ⟨k, 0⟩)) = red ⟨k, 0⟩ := by rw [← G_assoc, ← e4, ← red_G, r, one_G]
    rw [← e6, e7]
  rw [hk, red_G2]
theorem norm_zero : (List.range 251).all (fun x => (List.range 251).all fun y => !((x * x + y * y) % 251 == 0) || (x == 0 && y == 0)) = true := by kernel_rfl
theorem norm0 {x y : Int} (hx : 0 ≤ x ∧ x < 251) (hy : 0 ≤ y ∧ y < 251) (h : (x * x + y * y) % 251 = 0) : x = 0 ∧ y = 0 := by
  have := all_range (all_range norm_zero (t := x.toNat) (by omega)) (t := y.toNat) (by omega)
  obtain ⟨a, rfl⟩ := Int.eq_ofNat_of_zero_le hx.1
  obtain ⟨b, rfl⟩ := Int.eq_ofNat_of_zero_le hy.1
  have h' : (a * a + b * b) % 251 = 0 := by exact_mod_cast h
  simp only [Int.toNat_natCast, h', Bool.or_eq_true, Bool.and_eq_true, beq_iff_eq] at this
  simp at this
  omega

set_option maxRecDepth 100000
theorem rest4 (n : Int) : r04_Rest n = n % 251 := by
  unfold r04_Rest
  have e : (Int.tmod n 251 = n % 251 ∧ 0 ≤ Int.tmod n 251) ∨ (Int.tmod n 251 = n % 251 - 251 ∧ n % 251 ≠ 0) ∨ (Int.tmod n 251 = n % 251 - 251 ∧ 0 ≤ Int.tmod n 251) := by
    rw [Int.tmod_eq_emod]; split
    · left; omega
    · rename_i h
      right; left
      refine ⟨by simp, fun h0 => h (.inr (Int.dvd_of_emod_eq_zero h0))⟩
  by_cases h : Int.tmod n 251 < 0
  · rw [if_pos (by simpa using h), w64_id (by omega)]; omega
  · rw [if_neg (by simpa using h)]; omega
theorem of4 (a b : Int) : r04_Of a b = ⟨a % 251, b % 251⟩ := by
  unfold r04_Of; simp only [bnd, rest4]
theorem ofG (a b : Int) : gauss_Of a b = r04_Of a b := by
  unfold gauss_Of; simp only [bnd, rest_eq]; rw [of4]
theorem add4 (x y : GValue) : gauss_Add x y = some (r04_Add x y) := by
  rw [add_eq]; unfold r04_Add
  simp only [bnd, rest4, of4]
  rw [w64_id (by omega), w64_id (by omega)]
theorem sub4 (x y : GValue) : gauss_Sub x y = some (r04_Sub x y) := by
  rw [sub_eq]; unfold r04_Sub
  simp only [bnd, rest4, of4]
  rw [w64_id (by omega), w64_id (by omega)]
theorem mul4r (x y : GValue) : r04_Mul x y = red (G x y) := by
  rw [← red_G, ← red_G2]
  unfold r04_Mul
  simp only [bnd, of4]
  have b1 := prod_bound x.Re y.Re
  have b2 := prod_bound x.Im y.Im
  have b3 := prod_bound x.Re y.Im
  have b4 := prod_bound x.Im y.Re
  rw [w64_id (x := x.Re % 251 * (y.Re % 251)) (by omega), w64_id (x := x.Im % 251 * (y.Im % 251)) (by omega), w64_id (x := x.Re % 251 * (y.Im % 251)) (by omega), w64_id (x := x.Im % 251 * (y.Re % 251)) (by omega), w64_id (by omega), w64_id (by omega)]
  rfl
theorem mul4 (x y : GValue) : gauss_Mul x y = some (r04_Mul x y) := by rw [mul_red, mul4r]
theorem conj4r (x : GValue) : r04_Conj x = red (conjV x) := by
  unfold r04_Conj
  simp only [bnd, rest4, of4]
  rw [w64_id (by omega)]
  apply val_ext <;> simp only [red, conjV] <;> omega
theorem conj4 (x : GValue) : gauss_Conj x = some (r04_Conj x) := by
  rw [conj_eq, conj4r]
  congr 1
  apply val_ext <;> simp only [red, conjV] <;> omega
theorem inv_ok (k0 : Nat) : (List.range 251).all (fun t => t == 0 || (match r04_inverse (k0 + 1000) (t : Int) with | some k => decide (0 ≤ k) && (decide (k ≤ 250) && decide ((t : Int) * k % 251 = 1)) | none => false)) = true := by kernel_rfl
theorem inv_spec (k0 : Nat) {N : Int} (h0 : 0 ≤ N ∧ N < 251) (hN : N ≠ 0) : ∃ k, r04_inverse (k0 + 1000) N = some k ∧ 0 ≤ k ∧ k ≤ 250 ∧ N * k % 251 = 1 := by
  have := all_range (inv_ok k0) (t := N.toNat) (by omega)
  rw [show ((N.toNat : Nat) : Int) = N by omega] at this
  simp only [Bool.or_eq_true, beq_iff_eq] at this
  rcases this with h | h
  · omega
  · cases hk : r04_inverse (k0 + 1000) N with
    | none => rw [hk] at h; cases h
    | some k =>
      rw [hk] at h
      simp only [Bool.and_eq_true, decide_eq_true_eq] at h
      exact ⟨k, rfl, h.1, h.2.1, h.2.2⟩
theorem is_zero : Is 0 0 := ⟨false, 0, 1074, rfl, (Int.zero_mul _).symm⟩
theorem div4 (k9 : Nat) (a b : GValue) : gauss_Div (k9 + 1000) a b = r04_Div (k9 + 1000) a b := by
  unfold gauss_Div r04_Div
  simp only [bnd, of4, rest4]
  rw [CIs.eqs (of_is b) (show CIs (0, 0) 0 0 from ⟨is_zero, is_zero⟩)]
  have hx : 0 ≤ b.Re % 251 ∧ b.Re % 251 < 251 := by omega
  have hy : 0 ≤ b.Im % 251 ∧ b.Im % 251 < 251 := by omega
  have b1 := prod_bound b.Re b.Re
  have b2 := prod_bound b.Im b.Im
  rw [w64_id (x := b.Re % 251 * (b.Re % 251)) (by omega), w64_id (x := b.Im % 251 * (b.Im % 251)) (by omega), w64_id (by omega)]
  by_cases h0 : (b.Re % 251 * (b.Re % 251) + b.Im % 251 * (b.Im % 251)) % 251 = 0
  · obtain ⟨z1, z2⟩ := norm0 hx hy h0
    rw [if_pos (by simp [z1, z2]), if_pos (by simpa using h0)]
  · have hne : ¬ ((b.Re % 251 == 0) && (b.Im % 251 == 0)) = true := by
      intro h
      simp only [Bool.and_eq_true, beq_iff_eq] at h
      apply h0
      rw [h.1, h.2]; rfl
    rw [if_neg hne, if_neg (by simpa using h0)]
    obtain ⟨k, ek, k0, k1, k2⟩ := inv_spec k9 (N := (b.Re % 251 * (b.Re % 251) + b.Im % 251 * (b.Im % 251)) % 251) (by omega) h0
    rw [show (62999 : Int) = ((62999 : Nat) : Int) from rfl, pow_eq (k9 + 1000) (by omega) b 62999 (by decide), ek]
    simp only [Option.bind_some]
    rw [mul_red, mul4r, conj4r]
    simp only [Option.bind_some]
    have hp := pow_full (red b) (k := k) k2
    rw [red_powG] at hp
    have e : red (G a (red (powG b 62999))) = red (G (red (G a (red (conjV (red b))))) ⟨k, 0⟩) := by
      rw [hp, red_G2, ← G_assoc, ← red_G, ← red_G2 a, red_conj]
    rw [e]
    have hb1 : 0 ≤ (red (G a (red (conjV (red b))))).Re ∧ (red (G a (red (conjV (red b))))).Re ≤ 250 := by simp only [red]; omega
    have hb2 : 0 ≤ (red (G a (red (conjV (red b))))).Im ∧ (red (G a (red (conjV (red b))))).Im ≤ 250 := by simp only [red]; omega
    rw [show (⟨b.Re % 251, b.Im % 251⟩ : GValue) = red b from rfl]
    generalize red (G a (red (conjV (red b)))) = z at hb1 hb2
    have p1 : 0 ≤ z.Re * k ∧ z.Re * k ≤ 62500 := ⟨Int.mul_nonneg hb1.1 k0, Int.mul_le_mul hb1.2 k1 k0 (by omega)⟩
    have p2 : 0 ≤ z.Im * k ∧ z.Im * k ≤ 62500 := ⟨Int.mul_nonneg hb2.1 k0, Int.mul_le_mul hb2.2 k1 k0 (by omega)⟩
    rw [w64_id (by omega), w64_id (by omega)]
    have e3 : red (G z ⟨k, 0⟩) = ⟨z.Re * k % 251, z.Im * k % 251⟩ := by apply val_ext <;> simp [red, G]
    rw [e3]

set_option maxRecDepth 100000
theorem xor_lt {a b : Nat} (ha : a < 4294967296) (hb : b < 4294967296) : a ^^^ b < 4294967296 := Nat.xor_lt_two_pow (n := 32) ha hb
theorem ixor32 {a b : Nat} (ha : a < 4294967296) (hb : b < 4294967296) : ixor .u32 (a : Int) (b : Int) = ((a ^^^ b : Nat) : Int) := by
  unfold ixor
  have h := xor_lt ha hb
  rw [show IntKind.u32.bits = 32 from rfl, BitVec.ofInt_natCast, BitVec.ofInt_natCast, BitVec.toNat_xor, BitVec.toNat_ofNat, BitVec.toNat_ofNat, Nat.mod_eq_of_lt (by omega), Nat.mod_eq_of_lt (by omega), IntKind.wrap_u32]
  omega
theorem ixor64 {a b : Nat} (ha : a < 4294967296) (hb : b < 4294967296) : ixor .i64 (a : Int) (b : Int) = ((a ^^^ b : Nat) : Int) := by
  unfold ixor
  have h := xor_lt ha hb
  rw [show IntKind.i64.bits = 64 from rfl, BitVec.ofInt_natCast, BitVec.ofInt_natCast, BitVec.toNat_xor, BitVec.toNat_ofNat, BitVec.toNat_ofNat, Nat.mod_eq_of_lt (by omega), Nat.mod_eq_of_lt (by omega), IntKind.wrap_i64]
  omega
theorem times_a {a : Int} (h : 0 ≤ a ∧ a < 4294967296) : r05_times a 2654435761 = a * 2654435761 % 4294967296 := by
  unfold r05_times
  rw [show Int.tmod 2654435761 65536 = 31153 by decide, show w64 (Int.tdiv 2654435761 65536) = 40503 by decide, w64_id (x := a * 31153) (by omega), w64_id (x := a * 40503) (by omega), Int.tmod_eq_emod_of_nonneg (a := a * 40503) (by omega), w64_id (x := a * 40503 % 4294967296 * 65536) (by omega), w64_id (by omega), Int.tmod_eq_emod_of_nonneg (by omega)]
  omega
theorem times_b {a : Int} (h : 0 ≤ a ∧ a < 4294967296) : r05_times a 2246822507 = a * 2246822507 % 4294967296 := by
  unfold r05_times
  rw [show Int.tmod 2246822507 65536 = 51819 by decide, show w64 (Int.tdiv 2246822507 65536) = 34283 by decide, w64_id (x := a * 51819) (by omega), w64_id (x := a * 34283) (by omega), Int.tmod_eq_emod_of_nonneg (a := a * 34283) (by omega), w64_id (x := a * 34283 % 4294967296 * 65536) (by omega), w64_id (by omega), Int.tmod_eq_emod_of_nonneg (by omega)]
  omega
def stepN (a : Nat) : Nat := (a ^^^ (a / 32768)) * 2246822507 % 4294967296
theorem stepN_lt (a : Nat) : stepN a < 4294967296 := Nat.mod_lt _ (by decide)
theorem step_seed {a : Nat} (h : a < 4294967296) : mixStep (a : Int) = (stepN a : Nat) := by
  unfold mixStep stepN
  have e : ishr .u32 (a : Int) 15 = ((a / 32768 : Nat) : Int) := by
    unfold ishr
    rw [show (2 : Int) ^ min 15 IntKind.u32.bits = 32768 from rfl, Int.fdiv_eq_ediv_of_nonneg _ (by omega)]
    omega
  rw [e, ixor32 h (by omega), IntKind.wrap_u32]
  omega
theorem end_seed {a : Nat} (h : a < 4294967296) : mixEnd (a : Int) = ((a ^^^ (a / 8192) : Nat) : Int) := by
  unfold mixEnd
  have e : ishr .u32 (a : Int) 13 = ((a / 8192 : Nat) : Int) := by
    unfold ishr
    rw [show (2 : Int) ^ min 13 IntKind.u32.bits = 8192 from rfl, Int.fdiv_eq_ediv_of_nonneg _ (by omega)]
    omega
  have := xor_lt h (show a / 8192 < 4294967296 by omega)
  rw [e, ixor32 h (by omega), w64_id (by omega)]
theorem step_ref {a : Nat} (h : a < 4294967296) : r05_times (ixor .i64 (a : Int) (w64 ((a : Int).tdiv 32768))) 2246822507 = (stepN a : Nat) := by
  have e : w64 ((a : Int).tdiv 32768) = ((a / 32768 : Nat) : Int) := by rw [Int.tdiv_eq_ediv_of_nonneg (by omega), w64_id (by omega)]; omega
  have := xor_lt h (show a / 32768 < 4294967296 by omega)
  rw [e, ixor64 h (by omega), times_b (by omega)]
  unfold stepN; omega
def mixN (x y : Nat) : Nat := let v := stepN (stepN (x ^^^ ((y + 1) % 4294967296 * 2654435761 % 4294967296))); v ^^^ (v / 8192)
theorem end_ref {a : Nat} (h : a < 4294967296) : ixor .i64 (a : Int) (w64 ((a : Int).tdiv 8192)) = ((a ^^^ (a / 8192) : Nat) : Int) := by
  have e : w64 ((a : Int).tdiv 8192) = ((a / 8192 : Nat) : Int) := by rw [Int.tdiv_eq_ediv_of_nonneg (by omega), w64_id (by omega)]; omega
  rw [e, ixor64 h (by omega)]
theorem end_lt {v : Nat} (h : v < 4294967296) : v ^^^ (v / 8192) < 4294967296 := xor_lt h (by omega)
theorem mixN_lt (x y : Nat) : mixN x y < 4294967296 := end_lt (stepN_lt _)
theorem mix_l1' (k0 : Nat) (z : Int) : seed_Mix_l1 (k0 + 1000) (k0 + 1000) (0, z) = some (mixEnd (mixStep (mixStep z))) := mix_l1 (k0 + 1000) (k0 + 997) z
theorem mix_seed (k0 : Nat) {x y : Nat} (hx : x < 4294967296) (hy : y < 4294967296) : seed_Mix (k0 + 1000) (x : Int) (y : Int) = some ((mixN x y : Nat) : Int) := by
  unfold seed_Mix seed_may
  simp only [bnd]
  have a1 : decide ((x : Int) ≥ 0) = true := by simp
  have a2 : decide ((x : Int) ≤ 4294967295) = true := by simp; omega
  have a3 : decide ((y : Int) ≥ 0) = true := by simp
  have a4 : decide ((y : Int) ≤ 4294967295) = true := by simp; omega
  simp only [a1, a2, a3, a4, if_true, Bool.not_true, Bool.false_eq_true, if_false]
  rw [mix_l1']
  have e1 : IntKind.wrap .u32 (x : Int) = (x : Nat) := by rw [IntKind.wrap_u32]; omega
  have e2 : IntKind.wrap .u32 (IntKind.wrap .u32 (IntKind.wrap .u32 (y : Int) + 1) * 2654435761) = (((y + 1) % 4294967296 * 2654435761 % 4294967296 : Nat) : Int) := by
    rw [IntKind.wrap_u32, IntKind.wrap_u32, IntKind.wrap_u32]; omega
  have hlt : (y + 1) % 4294967296 * 2654435761 % 4294967296 < 4294967296 := Nat.mod_lt _ (by decide)
  rw [e1, e2, ixor32 hx hlt, step_seed (xor_lt hx hlt), step_seed (stepN_lt _), end_seed (stepN_lt _)]
  simp only [mixN]
theorem is5 (x : Int) : r05_Is x = seed_may x := by
  unfold r05_Is seed_may
  simp only [bnd]
  by_cases h : x ≥ 0
  · have : decide (x < 4294967296) = decide (x ≤ 4294967295) := by simp only [decide_eq_decide]; omega
    rw [this]
  · simp [h]
theorem may_iff (x : Int) : seed_may x = true ↔ ∃ n : Nat, x = n ∧ n < 4294967296 := by
  unfold seed_may
  simp only [bnd]
  constructor
  · intro h
    by_cases h1 : x ≥ 0
    · simp [h1] at h
      exact ⟨x.toNat, by omega, by omega⟩
    · simp [h1] at h
  · rintro ⟨n, rfl, hn⟩
    simp; omega
def tailR (y5 x : Int) : Int := (fun y6 => (fun y7 => ixor .i64 y7 (w64 (y7.tdiv 8192))) (r05_times (ixor .i64 y6 (w64 (y6.tdiv 32768))) 2246822507)) (r05_times (ixor .i64 (ixor .i64 x y5) (w64 ((ixor .i64 x y5).tdiv 32768))) 2246822507)
theorem mix_unf (x y : Int) (h1 : r05_Is x = true) (h2 : r05_Is y = true) : r05_Mix x y = tailR (r05_times (Int.tmod (w64 (y + 1)) 4294967296) 2654435761) x := by
  unfold r05_Mix
  rw [h1, h2]
  rfl
theorem tail_ref {c x : Nat} (hx : x < 4294967296) (hc : c < 4294967296) : tailR (c : Int) (x : Int) = ((stepN (stepN (x ^^^ c)) ^^^ (stepN (stepN (x ^^^ c)) / 8192) : Nat) : Int) := by
  unfold tailR
  rw [ixor64 hx hc, step_ref (xor_lt hx hc)]
  have h2 := stepN_lt (x ^^^ c)
  generalize stepN (x ^^^ c) = v at h2 ⊢
  simp only
  rw [step_ref h2]
  have h3 := stepN_lt v
  generalize stepN v = u at h3 ⊢
  rw [end_ref h3]
theorem first_ref {y : Nat} (hy : y < 4294967296) : r05_times (Int.tmod (w64 ((y : Int) + 1)) 4294967296) 2654435761 = (((y + 1) % 4294967296 * 2654435761 % 4294967296 : Nat) : Int) := by
  rw [w64_id (by omega), Int.tmod_eq_emod_of_nonneg (by omega), times_a (by omega)]; omega
theorem mix_ref {x y : Nat} (hx : x < 4294967296) (hy : y < 4294967296) : r05_Mix (x : Int) (y : Int) = (mixN x y : Nat) := by
  have h1 : r05_Is (x : Int) = true := by rw [is5]; exact (may_iff _).2 ⟨x, rfl, hx⟩
  have h2 : r05_Is (y : Int) = true := by rw [is5]; exact (may_iff _).2 ⟨y, rfl, hy⟩
  rw [mix_unf _ _ h1 h2, first_ref hy]
  unfold mixN
  have hlt : (y + 1) % 4294967296 * 2654435761 % 4294967296 < 4294967296 := Nat.mod_lt _ (by decide)
  generalize (y + 1) % 4294967296 * 2654435761 % 4294967296 = c at hlt ⊢
  rw [tail_ref hx hlt]
theorem mix5 (k0 : Nat) (x y : Int) : seed_Mix (k0 + 1000) x y = some (r05_Mix x y) := by
  cases h1 : seed_may x with
  | false => simp [seed_Mix, r05_Mix, bnd, is5, h1]
  | true =>
    cases h2 : seed_may y with
    | false => simp [seed_Mix, r05_Mix, bnd, is5, h1, h2]
    | true =>
      obtain ⟨a, rfl, ha⟩ := (may_iff _).1 h1
      obtain ⟨b, rfl, hb⟩ := (may_iff _).1 h2
      rw [mix_seed k0 ha hb, mix_ref ha hb]
theorem child5 (k0 : Nat) (x y : Int) : seed_Child (k0 + 1000) x y = some (r05_Child x y) := by
  unfold seed_Child seed_of r05_Child
  rw [mix5]
  simp only [Option.bind_some, bnd, is5]
  rw [mix5]
  cases h1 : seed_may x <;> cases h2 : seed_may y <;> simp
theorem draw5 (k0 : Nat) (x y : Int) : seed_Draw (k0 + 1000) x y = some (r05_Draw x y) := by
  unfold seed_Draw seed_of r05_Draw
  rw [mix5]
  simp only [Option.bind_some, bnd, is5]
  rw [mix5]
  cases h1 : seed_may x with
  | false => simp
  | true =>
    cases h2 : seed_may y with
    | false => simp
    | true =>
      simp only [Option.bind_some, if_true, Bool.not_true, Bool.false_eq_true, if_false]
      obtain ⟨a, rfl, ha⟩ := (may_iff _).1 h1
      obtain ⟨b, rfl, hb⟩ := (may_iff _).1 h2
      rw [show (2 : Int) = ((2 : Nat) : Int) from rfl, mix_ref ha (by decide), mix_ref (mixN_lt _ _) hb, ofG]
      have := mixN_lt (mixN a 2) b
      congr 2
      unfold ishr
      rw [show (2 : Int) ^ min 16 IntKind.i64.bits = 65536 from rfl, Int.fdiv_eq_ediv_of_nonneg _ (by omega), Int.tdiv_eq_ediv_of_nonneg (by omega), w64_id (by omega)]

set_option maxRecDepth 100000
theorem spans_bound (o : Int) : 0 ≤ (op_spans o).1.least ∧ (op_spans o).1.most ≤ 255 ∧ 0 ≤ (op_spans o).2.least ∧ (op_spans o).2.most ≤ 255 := by
  unfold op_spans
  repeat' split
  all_goals decide
theorem may_range {i : GInstr} (h : op_May i = true) : 0 ≤ i.Op ∧ i.Op < 17 ∧ 0 ≤ i.A ∧ i.A ≤ 255 ∧ 0 ≤ i.B ∧ i.B ≤ 255 := by
  unfold op_May op_span_has at h
  simp only [bnd] at h
  have b := spans_bound i.Op
  by_cases h1 : i.Op ≥ 0
  · by_cases h2 : i.Op < 17
    · by_cases h3 : i.A ≥ (op_spans i.Op).1.least
      · by_cases h4 : i.A ≤ (op_spans i.Op).1.most
        · by_cases h5 : i.B ≥ (op_spans i.Op).2.least
          · by_cases h6 : i.B ≤ (op_spans i.Op).2.most
            · omega
            · simp [h1, h2, h3, h4, h5, h6] at h
          · simp [h1, h2, h3, h4, h5] at h
        · simp [h1, h2, h3, h4] at h
      · simp [h1, h2, h3] at h
    · simp [h1, h2] at h
  · simp [h1] at h
theorem there_spec (f : GFrame) (p : List GFunc) (x : GInstr) (act : GAct) (l : List GInstr) :
    (∃ t, frame_runner_there ⟨f, p, x, act⟩ l = some (false, t)) ∨
    (∃ o a b, frame_runner_there ⟨f, p, x, act⟩ l = some (true, o, a, b) ∧ 0 ≤ f.Pc ∧ f.Pc < l.length ∧ gd l f.Pc = ⟨o, a, b⟩ ∧ op_May ⟨o, a, b⟩ = true ∧ ((o = 1 ∨ o = 2) → a < f.Locals.length) ∧ (o = 14 → a < f.Slots.length) ∧ (o = 13 → a < p.length ∧ b < f.Slots.length)) := by
  unfold frame_runner_there
  simp only [bnd]
  by_cases h1 : f.Pc < 0
  · left; simp [h1]
  · by_cases h2 : f.Pc ≥ (l.length : Int)
    · left; simp [h1, h2]
    · have g : 0 ≤ f.Pc ∧ f.Pc < l.length := by omega
      simp only [h1, h2, decide_false, Bool.false_eq_true, if_false, if_pos g, Option.bind_some]
      generalize gd l f.Pc = i
      obtain ⟨o, a, b⟩ := i
      simp only
      cases hm : op_May ⟨o, a, b⟩ with
      | false => left; simp
      | true =>
        simp only [Bool.not_true, Bool.false_eq_true, if_false]
        by_cases o1 : o = 1
        · subst o1
          by_cases q : a < (f.Locals.length : Int)
          · right; exact ⟨1, a, b, by simp [q], g.1, g.2, rfl, hm, fun _ => q, fun h => absurd h (by decide), fun h => absurd h (by decide)⟩
          · left; simp [q]
        · by_cases o2 : o = 2
          · subst o2
            by_cases q : a < (f.Locals.length : Int)
            · right; exact ⟨2, a, b, by simp [q], g.1, g.2, rfl, hm, fun _ => q, fun h => absurd h (by decide), fun h => absurd h (by decide)⟩
            · left; simp [q]
          · by_cases o3 : o = 14
            · subst o3
              by_cases q : a < (f.Slots.length : Int)
              · right; exact ⟨14, a, b, by simp [q], g.1, g.2, rfl, hm, fun h => absurd h (by decide), fun _ => q, fun h => absurd h (by decide)⟩
              · left; simp [q]
            · by_cases o4 : o = 13
              · subst o4
                by_cases q : a < (p.length : Int)
                · by_cases q2 : b < (f.Slots.length : Int)
                  · right; exact ⟨13, a, b, by simp [q, q2], g.1, g.2, rfl, hm, fun h => absurd h (by decide), fun h => absurd h (by decide), fun _ => ⟨q, q2⟩⟩
                  · left; simp [q, q2]
                · left; simp [q]
              · right; exact ⟨o, a, b, by simp [o1, o2, o3, o4], g.1, g.2, rfl, hm, fun h => by omega, fun h => absurd h o3, fun h => absurd h o4⟩
theorem pop_eq {f : GFrame} {p : List GFunc} {x : GInstr} {act : GAct} {n : Int} (h0 : 0 ≤ n) (h1 : n ≤ f.Stack.length) (h2 : f.Stack.length ≤ 1000) :
    frame_runner_pop ⟨f, p, x, act⟩ n = some (lcut f.Stack (f.Stack.length - n) f.Stack.length, f.Stack.take ((f.Stack.length : Int) - n).toNat) := by
  unfold frame_runner_pop slices_Clone_Value
  have e : w64 ((f.Stack.length : Int) - n) = f.Stack.length - n := w64_id (by omega)
  simp only [e]
  have hl : (lcut f.Stack ((f.Stack.length : Int) - n) f.Stack.length).length ≤ 1000 := by rw [lcut_len (by omega) (by omega) (by omega)]; omega
  have g : 0 ≤ (f.Stack.length : Int) - n ∧ (f.Stack.length : Int) - n ≤ f.Stack.length := by omega
  rw [if_pos g, if_pos (by unfold LIM; omega)]
  simp only [Option.bind_some, if_pos g]
theorem push_eq {f : GFrame} {p : List GFunc} {x : GInstr} {act : GAct} {l : List GValue} (h2 : f.Stack.length ≤ 1000) (h3 : l.length ≤ 1000) :
    frame_runner_push ⟨f, p, x, act⟩ l = some (f.Stack ++ l) := by
  unfold frame_runner_push
  rw [if_pos (by unfold LIM; simp only; omega)]
theorem stk0 : op_Stack 0 = some (0, 1) := by kernel_rfl
theorem stk1 : op_Stack 1 = some (0, 1) := by kernel_rfl
theorem stk2 : op_Stack 2 = some (1, 0) := by kernel_rfl
theorem stk3 : op_Stack 3 = some (2, 1) := by kernel_rfl
theorem stk4 : op_Stack 4 = some (2, 1) := by kernel_rfl
theorem stk5 : op_Stack 5 = some (2, 1) := by kernel_rfl
theorem stk6 : op_Stack 6 = some (2, 1) := by kernel_rfl
theorem stk7 : op_Stack 7 = some (1, 1) := by kernel_rfl
theorem stk8 : op_Stack 8 = some (1, 2) := by kernel_rfl
theorem stk9 : op_Stack 9 = some (1, 0) := by kernel_rfl
theorem stk10 : op_Stack 10 = some (0, 0) := by kernel_rfl
theorem stk11 : op_Stack 11 = some (1, 0) := by kernel_rfl
theorem stk12 : op_Stack 12 = some (0, 1) := by kernel_rfl
theorem stk13 : op_Stack 13 = some (0, 0) := by kernel_rfl
theorem stk14 : op_Stack 14 = some (0, 1) := by kernel_rfl
theorem stk15 : op_Stack 15 = some (1, 0) := by kernel_rfl
theorem stk16 : op_Stack 16 = some (0, 0) := by kernel_rfl
theorem room_eq {f : GFrame} {p : List GFunc} {o a b : Int} {act : GAct} {x off on : Int} (h1 : op_Stack o = some (x, on)) (h2 : frame_runner_off ⟨f, p, ⟨o, a, b⟩, act⟩ = some off) (hon : 0 ≤ on ∧ on ≤ 2) (hs : f.Stack.length ≤ 40) :
    frame_runner_room ⟨f, p, ⟨o, a, b⟩, act⟩ = some (decide (0 ≤ off ∧ off ≤ f.Stack.length ∧ (on = 0 ∨ (f.Stack.length : Int) - off + on ≤ 16))) := by
  unfold frame_runner_room
  simp only
  rw [h1, h2]
  simp only [Option.bind_some, bnd]
  by_cases q1 : off ≥ 0
  · by_cases q2 : (f.Stack.length : Int) ≥ off
    · rw [w64_id (x := (f.Stack.length : Int) - off) (by omega), w64_id (by omega)]
      by_cases q3 : on = 0
      · simp [q1, q2, q3]
      · have q3' : (on == 0) = false := by simpa using q3
        by_cases q4 : (f.Stack.length : Int) - off + on ≤ 16
        · simp [q1, q2, q3, q4]
        · simp [q1, q2, q3, q4]
    · simp [q1, q2]
  · simp [q1]

set_option maxRecDepth 100000
theorem ops17 {o : Int} (h : 0 ≤ o ∧ o < 17) : o = 0 ∨ o = 1 ∨ o = 2 ∨ o = 3 ∨ o = 4 ∨ o = 5 ∨ o = 6 ∨ o = 7 ∨ o = 8 ∨ o = 9 ∨ o = 10 ∨ o = 11 ∨ o = 12 ∨ o = 13 ∨ o = 14 ∨ o = 15 ∨ o = 16 := by omega
theorem may6 (i : GInstr) : op_May i = r06_May i := by
  obtain ⟨o, a, b⟩ := i
  by_cases h : 0 ≤ o ∧ o < 17
  · rcases ops17 h with rfl | rfl | rfl | rfl | rfl | rfl | rfl | rfl | rfl | rfl | rfl | rfl | rfl | rfl | rfl | rfl | rfl <;>
      (simp only [op_May, r06_May, op_spans, op_span_has, r06_Fields, r06_most, bnd]; rw [Bool.eq_iff_iff]; simp; omega)
  · have h1 : (if decide (o ≥ 0) then decide (o < 17) else false) = false := by
      by_cases q : o ≥ 0
      · simp [q] <;> omega
      · simp [q]
    have h2 : (if decide (o < 0) then true else decide (o > 16)) = true := by
      by_cases q : o < 0
      · simp [q]
      · simp [q] <;> omega
    unfold op_May r06_May
    simp only [bnd, h1, h2, if_true, Bool.false_eq_true, if_false]
theorem offs {o : Int} (p : List GFunc) (a b : Int) (h : 0 ≤ o ∧ o < 17) (ha : o = 13 → 0 ≤ a ∧ a < p.length) : ∃ off on x, op_Stack o = some (x, on) ∧ r06_On o = on ∧ (0 ≤ on ∧ on ≤ 2) ∧ (∀ f act, frame_runner_off ⟨f, p, ⟨o, a, b⟩, act⟩ = some off) ∧ r09_Off p ⟨o, a, b⟩ = some off ∧
    ((o = 3 ∨ o = 4 ∨ o = 5 ∨ o = 6) → off = 2) ∧ ((o = 2 ∨ o = 7 ∨ o = 8 ∨ o = 9 ∨ o = 11 ∨ o = 15) → off = 1) ∧ ((o = 0 ∨ o = 1 ∨ o = 10 ∨ o = 12 ∨ o = 14 ∨ o = 16) → off = 0) ∧ (o = 13 → off = (gd p a).Arity) := by
  by_cases o13 : o = 13
  · subst o13
    refine ⟨(gd p a).Arity, 0, 0, stk13, by rfl, by omega, fun f act => ?_, ?_, by omega, by omega, by omega, fun _ => rfl⟩
    · unfold frame_runner_off; rw [if_pos (by rfl)]; exact if_pos (ha rfl)
    · unfold r09_Off; rw [if_pos (by rfl)]; exact if_pos (ha rfl)
  · have f1 : ∀ x on, op_Stack o = some (x, on) → ∀ f act, frame_runner_off ⟨f, p, ⟨o, a, b⟩, act⟩ = some x := fun x on e f act => by
      unfold frame_runner_off; rw [if_neg (by simpa using o13)]; simp only; rw [e]; rfl
    have f2 : r09_Off p ⟨o, a, b⟩ = some (r06_Off o) := by
      unfold r09_Off; rw [if_neg (by simpa using o13)]; rfl
    rcases ops17 h with rfl | rfl | rfl | rfl | rfl | rfl | rfl | rfl | rfl | rfl | rfl | rfl | rfl | rfl | rfl | rfl | rfl
    · exact ⟨0, 1, 0, stk0, by rfl, by omega, f1 _ _ stk0, f2, by omega, by omega, by omega, by omega⟩
    · exact ⟨0, 1, 0, stk1, by rfl, by omega, f1 _ _ stk1, f2, by omega, by omega, by omega, by omega⟩
    · exact ⟨1, 0, 1, stk2, by rfl, by omega, f1 _ _ stk2, f2, by omega, by omega, by omega, by omega⟩
    · exact ⟨2, 1, 2, stk3, by rfl, by omega, f1 _ _ stk3, f2, by omega, by omega, by omega, by omega⟩
    · exact ⟨2, 1, 2, stk4, by rfl, by omega, f1 _ _ stk4, f2, by omega, by omega, by omega, by omega⟩
    · exact ⟨2, 1, 2, stk5, by rfl, by omega, f1 _ _ stk5, f2, by omega, by omega, by omega, by omega⟩
    · exact ⟨2, 1, 2, stk6, by rfl, by omega, f1 _ _ stk6, f2, by omega, by omega, by omega, by omega⟩
    · exact ⟨1, 1, 1, stk7, by rfl, by omega, f1 _ _ stk7, f2, by omega, by omega, by omega, by omega⟩
    · exact ⟨1, 2, 1, stk8, by rfl, by omega, f1 _ _ stk8, f2, by omega, by omega, by omega, by omega⟩
    · exact ⟨1, 0, 1, stk9, by rfl, by omega, f1 _ _ stk9, f2, by omega, by omega, by omega, by omega⟩
    · exact ⟨0, 0, 0, stk10, by rfl, by omega, f1 _ _ stk10, f2, by omega, by omega, by omega, by omega⟩
    · exact ⟨1, 0, 1, stk11, by rfl, by omega, f1 _ _ stk11, f2, by omega, by omega, by omega, by omega⟩
    · exact ⟨0, 1, 0, stk12, by rfl, by omega, f1 _ _ stk12, f2, by omega, by omega, by omega, by omega⟩
    · exact absurd rfl o13
    · exact ⟨0, 1, 0, stk14, by rfl, by omega, f1 _ _ stk14, f2, by omega, by omega, by omega, by omega⟩
    · exact ⟨1, 0, 1, stk15, by rfl, by omega, f1 _ _ stk15, f2, by omega, by omega, by omega, by omega⟩
    · exact ⟨0, 0, 0, stk16, by rfl, by omega, f1 _ _ stk16, f2, by omega, by omega, by omega, by omega⟩
theorem there_ref (f : GFrame) (p : List GFunc) (x : GInstr) (act : GAct) (l : List GInstr) (h0 : 0 ≤ f.Pc) (h1 : f.Pc < l.length) :
    ∃ t, frame_runner_there ⟨f, p, x, act⟩ l = some (r09_there p f (gd l f.Pc), t) ∧ (r09_there p f (gd l f.Pc) = true → t = ((gd l f.Pc).Op, (gd l f.Pc).A, (gd l f.Pc).B)) := by
  unfold frame_runner_there
  have n1 : ¬ f.Pc < 0 := by omega
  have n2 : ¬ f.Pc ≥ (l.length : Int) := by omega
  simp only [bnd, n1, n2, decide_false, Bool.false_eq_true, if_false, if_pos (show 0 ≤ f.Pc ∧ f.Pc < (l.length : Int) from ⟨h0, h1⟩), Option.bind_some]
  generalize gd l f.Pc = i
  obtain ⟨o, a, b⟩ := i
  unfold r09_there
  simp only [bnd, ← may6]
  cases hm : op_May ⟨o, a, b⟩ with
  | false => exact ⟨_, by simp; rfl, by simp⟩
  | true =>
    simp only [Bool.not_true, Bool.false_eq_true, if_false, if_true]
    by_cases o1 : o = 1
    · subst o1
      refine ⟨(1, a, b), ?_, fun _ => rfl⟩
      by_cases q : a < (f.Locals.length : Int)
      · simp [q]
      · simp [q] <;> omega
    by_cases o2 : o = 2
    · subst o2
      refine ⟨(2, a, b), ?_, fun _ => rfl⟩
      by_cases q : a < (f.Locals.length : Int)
      · simp [q]
      · simp [q] <;> omega
    by_cases o14 : o = 14
    · subst o14
      refine ⟨(14, a, b), ?_, fun _ => rfl⟩
      by_cases q : a < (f.Slots.length : Int)
      · simp [q]
      · simp [q] <;> omega
    by_cases o13 : o = 13
    · subst o13
      refine ⟨(13, a, b), ?_, fun _ => rfl⟩
      by_cases q : a < (p.length : Int)
      · by_cases q2 : b < (f.Slots.length : Int)
        · simp [q, q2]
        · simp [q, q2] <;> omega
      · simp [q]
    refine ⟨(o, a, b), by simp [o1, o2, o14, o13], fun _ => rfl⟩
theorem equal_values (K : Nat) (xs ys : List GValue) : ∀ k i, slices_Equal_Value_l1 K xs ys k i = r09_Values_l1 K xs ys k i := by
  intro k
  induction k with
  | zero => intro i; rfl
  | succ k ih => intro i; simp only [slices_Equal_Value_l1, r09_Values_l1, ih]
theorem equal_valuesF (K : Nat) (xs ys : List GValue) : slices_Equal_Value K xs ys = r09_Values K xs ys := by
  unfold slices_Equal_Value r09_Values
  simp only [equal_values]
theorem values_total_l1 (K : Nat) (xs ys : List GValue) (hl : xs.length = ys.length) (hn : xs.length ≤ 900) : ∀ (d k : Nat) (i : Int), 0 ≤ i → i ≤ xs.length → (xs.length : Int) - i = d → d < k → ∃ b, r09_Values_l1 K xs ys k i = some b := by
  intro d
  induction d with
  | zero =>
    intro k i h0 h1 hd hk
    obtain ⟨k, rfl⟩ : ∃ m, k = m + 1 := ⟨k - 1, by omega⟩
    simp only [r09_Values_l1]
    rw [if_neg (by simp; omega)]
    exact ⟨_, rfl⟩
  | succ d ih =>
    intro k i h0 h1 hd hk
    obtain ⟨k, rfl⟩ : ∃ m, k = m + 1 := ⟨k - 1, by omega⟩
    simp only [r09_Values_l1]
    rw [if_pos (by simp; omega), if_pos ⟨h0, by omega⟩, if_pos ⟨h0, by omega⟩]
    split
    · exact ⟨_, rfl⟩
    · rw [w64_id (x := i + 1) (by omega)]
      exact ih k (i + 1) (by omega) (by omega) (by omega) (by omega)
theorem values_total (K : Nat) (hK : 1000 ≤ K) (xs ys : List GValue) (hn : xs.length ≤ 900) : ∃ b, r09_Values K xs ys = some b := by
  unfold r09_Values
  by_cases h : xs.length = ys.length
  · rw [if_neg (by simp [h])]
    exact values_total_l1 K xs ys h hn xs.length K 0 (by omega) (by omega) (by omega) (by omega)
  · rw [if_pos (by simp; omega)]
    exact ⟨_, rfl⟩
def rest09 (a b : GFrame) : Bool := a.Fn == b.Fn && (a.Pc == b.Pc && (a.Seed == b.Seed && (a.Spawned == b.Spawned && (a.Draws == b.Draws && (a.State == b.State && (a.Wait == b.Wait && (((a.Out.Trap == b.Out.Trap) && (((a.Out.V.Re == b.Out.V.Re) && ((a.Out.V.Im == b.Out.V.Im) && true)) && true)) && (((a.Up.At == b.Up.At) && ((a.Up.Gen == b.Up.Gen) && true)) && a.UpSlot == b.UpSlot))))))))
theorem same_l1_eq (K : Nat) (f g : GFrame) (hl : f.Slots.length = g.Slots.length) (hn : f.Slots.length ≤ 900) : ∀ (d k : Nat) (i : Int), 0 ≤ i → i ≤ f.Slots.length → (f.Slots.length : Int) - i = d → d < k → ∃ b, slices_Equal_Slot_l1 K f.Slots g.Slots k i = some b ∧ r09_Same_l1 K f g k i = some (b && rest09 f g) := by
  intro d
  induction d with
  | zero =>
    intro k i h0 h1 hd hk
    obtain ⟨k, rfl⟩ : ∃ m, k = m + 1 := ⟨k - 1, by omega⟩
    simp only [slices_Equal_Slot_l1, r09_Same_l1]
    rw [if_neg (by simp; omega), if_neg (by simp; omega)]
    refine ⟨true, rfl, ?_⟩
    simp only [bnd, rest09, Bool.true_and]
    generalize ((f.Out.Trap == g.Out.Trap) && (((f.Out.V.Re == g.Out.V.Re) && ((f.Out.V.Im == g.Out.V.Im) && true)) && true)) = O1
    generalize ((f.Up.At == g.Up.At) && ((f.Up.Gen == g.Up.Gen) && true)) = O2
    generalize (f.UpSlot == g.UpSlot) = O3
    cases f.Fn == g.Fn <;> cases f.Pc == g.Pc <;> cases f.Seed == g.Seed <;> cases f.Spawned == g.Spawned <;> cases f.Draws == g.Draws <;> cases f.State == g.State <;> cases f.Wait == g.Wait <;> cases O1 <;> cases O2 <;> rfl
  | succ d ih =>
    intro k i h0 h1 hd hk
    obtain ⟨k, rfl⟩ : ∃ m, k = m + 1 := ⟨k - 1, by omega⟩
    simp only [slices_Equal_Slot_l1, r09_Same_l1]
    have p1 : decide (i < (f.Slots.length : Int)) = true := by simp; omega
    have p2 : 0 ≤ i ∧ i < (f.Slots.length : Int) := by omega
    have p3 : 0 ≤ i ∧ i < (g.Slots.length : Int) := by omega
    simp only [if_pos p1, if_pos p2, if_pos p3]
    split
    · exact ⟨false, rfl, rfl⟩
    · rw [w64_id (x := i + 1) (by omega)]
      exact ih k (i + 1) (by omega) (by omega) (by omega) (by omega)
theorem same_eq (K : Nat) (hK : 1000 ≤ K) (f g : GFrame) (h1 : f.Stack.length ≤ 900) (h2 : f.Locals.length ≤ 900) (h3 : f.Slots.length ≤ 900) : ∃ b, frame_Same K f g = some b ∧ r09_Same K f g = some b := by
  unfold frame_Same r09_Same
  obtain ⟨b1, e1⟩ := values_total K hK f.Stack g.Stack h1
  obtain ⟨b2, e2⟩ := values_total K hK f.Locals g.Locals h2
  rw [equal_valuesF, equal_valuesF, e1, e2]
  by_cases hl : f.Slots.length = g.Slots.length
  · have c1 : ((f.Slots.length : Int) != (g.Slots.length : Int)) = false := by simp; omega
    obtain ⟨b3, e3, e4⟩ := same_l1_eq K f g hl h3 f.Slots.length K 0 (by omega) (by omega) (by omega) (by omega)
    have e3' : slices_Equal_Slot K f.Slots g.Slots = some b3 := by unfold slices_Equal_Slot; rw [c1]; exact e3
    rw [e3', c1, e4]
    refine ⟨b1 && (b2 && (b3 && rest09 f g)), ?_, ?_⟩
    · cases b1 <;> cases b2 <;> cases b3 <;> simp only [Option.bind_some, Bool.not_true, Bool.not_false, Bool.false_eq_true, if_true, if_false, Bool.true_and, Bool.false_and, bnd, rest09]
      generalize ((f.Out.Trap == g.Out.Trap) && (((f.Out.V.Re == g.Out.V.Re) && ((f.Out.V.Im == g.Out.V.Im) && true)) && true)) = O1
      generalize ((f.Up.At == g.Up.At) && ((f.Up.Gen == g.Up.Gen) && true)) = O2
      generalize (f.UpSlot == g.UpSlot) = O3
      cases f.Fn == g.Fn <;> cases f.Pc == g.Pc <;> cases f.Seed == g.Seed <;> cases f.Spawned == g.Spawned <;> cases f.Draws == g.Draws <;> cases f.State == g.State <;> cases f.Wait == g.Wait <;> cases O1 <;> cases O2 <;> rfl
    · cases b1 <;> cases b2 <;> simp
  · have c1 : ((f.Slots.length : Int) != (g.Slots.length : Int)) = true := by simp; omega
    have e3' : slices_Equal_Slot K f.Slots g.Slots = some false := by unfold slices_Equal_Slot; rw [if_pos c1]
    rw [e3', c1]
    refine ⟨false, ?_, rfl⟩
    cases b1 <;> cases b2 <;> rfl
theorem copy_some (f : GFrame) (h1 : f.Stack.length ≤ 40) (h2 : f.Locals.length ≤ 40) (h3 : f.Slots.length ≤ 40) : r09_Copy f = some f := by
  unfold r09_Copy
  rw [if_pos (by unfold LIM; simp; omega), if_pos (by unfold LIM; simp; omega), if_pos (by unfold LIM; simp; omega)]
  simp
theorem clone_some40 (f : GFrame) (h1 : f.Stack.length ≤ 40) (h2 : f.Locals.length ≤ 40) (h3 : f.Slots.length ≤ 40) : frame_clone f = some f := by
  unfold frame_clone slices_Clone_Value slices_Clone_Slot
  rw [if_pos (by unfold LIM; omega), if_pos (by unfold LIM; omega), if_pos (by unfold LIM; omega)]
  rfl
theorem gmax0 {x : Int} (h : 0 ≤ x) : gmax x 0 = x := by unfold gmax; rw [if_neg (by omega)]
theorem give_ref (f : GFrame) (i : Int) (o : GOut) (h1 : f.Stack.length ≤ 40) (h2 : f.Locals.length ≤ 40) (h3 : f.Slots.length ≤ 40) : ∃ g b, frame_Give f i o = some (g, b) ∧ r09_Give f i o = some (g, b) ∧ g.Stack.length = f.Stack.length ∧ g.Locals.length = f.Locals.length ∧ g.Slots.length = f.Slots.length := by
  unfold frame_Give r09_Give
  rw [copy_some f h1 h2 h3, clone_some40 f h1 h2 h3]
  by_cases h0 : 0 ≤ i
  · by_cases hl : i < f.Slots.length
    · have hn : ¬ i < 0 := by omega
      have hm : ¬ (f.Slots.length : Int) ≤ i := by omega
      by_cases hs : (gd f.Slots i).State = 1
      · by_cases hst : f.State = 1
        · by_cases hw : f.Wait = i
          · simp [bnd, h0, hl, hs, hn, hm, hst, hw, gmax0 h0, frame_noRef]
          · simp [bnd, h0, hl, hs, hn, hm, hst, hw, gmax0 h0, frame_noRef]
        · simp [bnd, h0, hl, hs, hn, hm, hst, gmax0 h0, frame_noRef]
      · simp [bnd, h0, hl, hs, hn, hm, gmax0 h0]
    · have hn : ¬ i < 0 := by omega
      have hm : (f.Slots.length : Int) ≤ i := by omega
      simp [bnd, hn, hm]
  · have hn : i < 0 := by omega
    simp [bnd, hn]

/-- A function that memory can hold. -/
def FuncOk (x : GFunc) : Prop := IntKind.i64.min ≤ x.Arity ∧ x.Arity ≤ IntKind.i64.max ∧ x.Code.length ≤ maxLen
abbrev rGFuncB : Rep GFunc := rGFunc.also FuncOk
theorem FuncOk.arity {x : GFunc} (h : FuncOk x) : -9223372036854775808 ≤ x.Arity ∧ x.Arity ≤ 9223372036854775807 := ⟨h.1, h.2.1⟩
theorem FuncOk.code {x : GFunc} (h : FuncOk x) : x.Code.length ≤ 9223372036854775807 := h.2.2

set_option maxRecDepth 100000
theorem gd_memL {α : Type} [Inhabited α] {xs : List α} {i : Int} (h0 : 0 ≤ i) (h1 : i < xs.length) : gd xs i ∈ xs := by
  rw [gd_mem h0 h1]; exact List.getElem_mem _
theorem there_out (f : GFrame) (p : List GFunc) (x : GInstr) (act : GAct) (l : List GInstr) (h : f.Pc < 0 ∨ f.Pc ≥ (l.length : Int)) : ∃ t, frame_runner_there ⟨f, p, x, act⟩ l = some (false, t) := by
  unfold frame_runner_there
  simp only [bnd]
  by_cases h1 : f.Pc < 0
  · exact ⟨_, by simp [h1]; rfl⟩
  · have h2 : f.Pc ≥ (l.length : Int) := by omega
    exact ⟨_, by simp [h1, h2]; rfl⟩
/-- Both sides of an instruction end alike. -/
def Both (x y : Option (GFrame × GAct)) : Prop := ∃ g a, x = some (g, a) ∧ y = some (g, a) ∧ g.Stack.length ≤ 100 ∧ g.Locals.length ≤ 100 ∧ g.Slots.length ≤ 100 ∧ a.Args.length ≤ 100
theorem lays_len {K : Nat} {f : GFrame} {i : GInstr} {v ls : List GValue} (h : r09_lays K f i v = some ls) : ls.length ≤ 2 := by
  unfold r09_lays at h
  simp only [bnd] at h
  repeat' (split at h)
  all_goals first | (cases h; done) | (obtain rfl := Option.some.inj h; simp; done) | skip
  all_goals
    cases hd : r04_Div K _ _ with
    | none => rw [hd] at h; cases h
    | some q => rw [hd] at h; obtain rfl := Option.some.inj h; simp
theorem j1_eq {K : Nat} {p : List GFunc} {f : GFrame} {off : Int} {l : List GInstr} {o a b : Int} (hcode : (gd p f.Fn).Code = l) (hi : gd l f.Pc = ⟨o, a, b⟩) (h0 : 0 ≤ off) (h1 : off ≤ f.Stack.length) (hs : f.Stack.length ≤ 40)
    {ls : List GValue} (hlays : r09_lays K f ⟨o, a, b⟩ (lcut f.Stack ((f.Stack.length : Int) - off) f.Stack.length) = some ls) (h2 : o = 2 → 1 ≤ off ∧ 0 ≤ a ∧ a < f.Locals.length) (h11 : o = 11 → 1 ≤ off) :
    r09_Do_j1 K p f off = some ({ f with Pc := if o = 10 then a else if o = 11 ∧ ((r04_Of (gd (lcut f.Stack ((f.Stack.length : Int) - off) f.Stack.length) 0).Re (gd (lcut f.Stack ((f.Stack.length : Int) - off) f.Stack.length) 0).Im).Re = 0 ∧ (r04_Of (gd (lcut f.Stack ((f.Stack.length : Int) - off) f.Stack.length) 0).Re (gd (lcut f.Stack ((f.Stack.length : Int) - off) f.Stack.length) 0).Im).Im = 0) then a else w64 (f.Pc + 1), Stack := f.Stack.take ((f.Stack.length : Int) - off).toNat ++ ls, Locals := if o = 2 then f.Locals.set a.toNat (gd (lcut f.Stack ((f.Stack.length : Int) - off) f.Stack.length) 0) else f.Locals, Draws := if o = 12 then w64 (f.Draws + 1) else f.Draws }, ⟨1, 0, 0, 0, []⟩) := by
  have e1 : w64 ((f.Stack.length : Int) - off) = f.Stack.length - off := w64_id (by omega)
  have g1 : 0 ≤ (f.Stack.length : Int) - off ∧ (f.Stack.length : Int) - off ≤ f.Stack.length := by omega
  have hl := lays_len hlays
  have ht : (f.Stack.take ((f.Stack.length : Int) - off).toNat).length ≤ 40 := by rw [List.length_take]; omega
  have hv : (lcut f.Stack ((f.Stack.length : Int) - off) f.Stack.length).length = off.toNat := by rw [lcut_len (by omega) (by omega) (by omega)]; omega
  unfold r09_Do_j1
  simp only [hcode, hi, e1, if_pos g1, List.nil_append, hlays, Option.bind_some]
  rw [if_pos (by unfold LIM; omega)]
  unfold r09_Do_j2 r09_Do_j3
  simp only [hcode, hi, e1, List.nil_append]
  by_cases o2 : o = 2
  · subst o2
    have q := h2 rfl
    have gv : 0 ≤ (0 : Int) ∧ (0 : Int) < (lcut f.Stack ((f.Stack.length : Int) - off) f.Stack.length).length := by omega
    rw [if_pos (show ((2 : Int) == 2) = true from rfl), if_pos gv, if_pos q.2]
    simp
  by_cases o12 : o = 12
  · subst o12; simp
  by_cases o10 : o = 10
  · subst o10; simp
  by_cases o11 : o = 11
  · subst o11
    have gv : 0 ≤ (0 : Int) ∧ (0 : Int) < (lcut f.Stack ((f.Stack.length : Int) - off) f.Stack.length).length := by have := h11 rfl; omega
    simp only [if_pos gv, bnd]
    generalize r04_Of _ _ = z
    obtain ⟨z1, z2⟩ := z
    by_cases y1 : z1 = 0
    · by_cases y2 : z2 = 0
      · simp [y1, y2]
      · simp [y1, y2]
    · simp [y1]
  · simp [o2, o12, o10, o11]
theorem take_lcut {α : Type} {xs : List α} {off : Int} (h0 : 0 ≤ off) (h1 : off ≤ xs.length) : xs.take ((xs.length : Int) - off).toNat ++ lcut xs ((xs.length : Int) - off) xs.length = xs := by
  unfold lcut
  rw [List.take_of_length_le (l := xs.drop _) (by simp), List.take_append_drop]
theorem do_ref (k0 : Nat) (p : List GFunc) (hp : ∀ g ∈ p, FuncOk g) (f : GFrame) (hs : f.Stack.length ≤ 40) (hl : f.Locals.length ≤ 40) (ht : f.Slots.length ≤ 40) : Both (frame_Do (k0 + 1000) p f) (r09_Do (k0 + 1000) p f) := by
  unfold frame_Do r09_Do
  rw [copy_some f hs hl ht, clone_some40 f hs hl ht]
  by_cases h1 : f.State = 0
  · have c1 : (f.State != 0) = false := by simp [h1]
    by_cases h2 : f.Fn < 0
    · exact ⟨f, ⟨0, 0, 0, 0, []⟩, by simp [bnd, c1, h2], by simp [bnd, c1, h2], by omega, by omega, by omega, by simp⟩
    · by_cases h3 : f.Fn ≥ (p.length : Int)
      · exact ⟨f, ⟨0, 0, 0, 0, []⟩, by simp [bnd, c1, h2, h3], by simp [bnd, c1, h2, h3], by omega, by omega, by omega, by simp⟩
      · have hg : 0 ≤ f.Fn ∧ f.Fn < p.length := by omega
        simp only [bnd, c1, h2, h3, decide_false, Bool.false_eq_true, if_false, Option.bind_some, if_pos hg]
        generalize hcode : (gd p f.Fn).Code = l
        by_cases n1 : f.Pc < 0
        · obtain ⟨t, e⟩ := there_out f p ⟨0, 0, 0⟩ ⟨1, 0, 0, 0, []⟩ l (.inl n1)
          rw [e]
          simp only [n1, decide_true, if_true, Option.bind_some, Bool.not_false, frame_runner_trap, frame_runner_end, r09_trap, r09_end, bnd]
          exact ⟨_, _, rfl, rfl, by simp only; omega, by simp only; omega, by simp only; omega, by simp⟩
        by_cases n2 : f.Pc ≥ (l.length : Int)
        · obtain ⟨t, e⟩ := there_out f p ⟨0, 0, 0⟩ ⟨1, 0, 0, 0, []⟩ l (.inr n2)
          rw [e]
          simp only [n1, n2, decide_true, decide_false, Bool.false_eq_true, if_false, if_true, Option.bind_some, Bool.not_false, frame_runner_trap, frame_runner_end, r09_trap, r09_end, bnd]
          exact ⟨_, _, rfl, rfl, by simp only; omega, by simp only; omega, by simp only; omega, by simp⟩
        have pc0 : 0 ≤ f.Pc ∧ f.Pc < (l.length : Int) := by omega
        simp only [n1, n2, decide_false, Bool.false_eq_true, if_false, gmax0 pc0.1, if_pos pc0]
        obtain ⟨t, et, htt⟩ := there_ref f p ⟨0, 0, 0⟩ ⟨1, 0, 0, 0, []⟩ l pc0.1 pc0.2
        have spec := there_spec f p ⟨0, 0, 0⟩ ⟨1, 0, 0, 0, []⟩ l
        generalize hi : gd l f.Pc = i at et htt spec ⊢
        obtain ⟨o, a, b⟩ := i
        simp only at htt ⊢
        rw [et] at spec ⊢
        simp only [Option.bind_some]
        cases hth : r09_there p f ⟨o, a, b⟩ with
        | false =>
          simp only [Bool.not_false, if_true, frame_runner_trap, frame_runner_end, r09_trap, r09_end, bnd]
          exact ⟨_, _, rfl, rfl, by simp only; omega, by simp only; omega, by simp only; omega, by simp⟩
        | true =>
          rw [hth] at spec
          rcases spec with ⟨t', e'⟩ | ⟨o', a', b', e', p0, p1, pi, pm, q1, q2, q3⟩
          · cases e'
          · obtain ⟨rfl, rfl, rfl⟩ : o = o' ∧ a = a' ∧ b = b' := by
              have := pi; rw [GInstr.mk.injEq] at this; exact this
            have ett := htt hth
            subst ett
            have r := may_range pm
            simp only at r
            obtain ⟨off, on, x, st, hon, hon2, hoff, hOff, k2, k1, k00, k13⟩ := offs p a b (o := o) ⟨r.1, r.2.1⟩ (fun h => ⟨r.2.2.1, (q3 h).1⟩)
            simp only [Bool.not_true, Bool.false_eq_true, if_false]
            rw [room_eq st (hoff f _) hon2 hs, hOff]
            simp only [Option.bind_some, hon]
            have hofr : -9223372036854775808 ≤ off ∧ off ≤ 9223372036854775807 := by
              by_cases o13 : o = 13
              · rw [k13 o13]
                exact (hp _ (gd_memL r.2.2.1 (q3 o13).1)).arity
              · omega
            by_cases q0 : off < 0
            · rw [if_pos (show (!decide _) = true by simp; omega)]
              simp only [q0, decide_true, if_true, frame_runner_trap, frame_runner_end, r09_trap, r09_end, bnd]
              exact ⟨_, _, rfl, rfl, by simp only; omega, by simp only; omega, by simp only; omega, by simp⟩
            have e1 : w64 ((f.Stack.length : Int) - off) = f.Stack.length - off := w64_id (by omega)
            by_cases q1' : (f.Stack.length : Int) - off < 0
            · rw [if_pos (show (!decide _) = true by simp; omega)]
              simp only [q0, e1, q1', decide_true, decide_false, Bool.false_eq_true, if_false, if_true, frame_runner_trap, frame_runner_end, r09_trap, r09_end, bnd]
              exact ⟨_, _, rfl, rfl, by simp only; omega, by simp only; omega, by simp only; omega, by simp⟩
            have e2 : w64 ((f.Stack.length : Int) - off + on) = f.Stack.length - off + on := w64_id (by omega)
            by_cases q2' : on > 0 ∧ (f.Stack.length : Int) - off + on > 16
            · rw [if_pos (show (!decide _) = true by simp; omega)]
              simp only [q0, e1, e2, q1', q2'.1, q2'.2, decide_true, decide_false, Bool.false_eq_true, if_false, if_true, frame_runner_trap, frame_runner_end, r09_trap, r09_end, bnd]
              exact ⟨_, _, rfl, rfl, by simp only; omega, by simp only; omega, by simp only; omega, by simp⟩
            have hcond : (if decide (off < 0) = true then true else decide (w64 ((f.Stack.length : Int) - off) < 0)) = false := by simp [q0, e1]; omega
            have hcond2 : (if decide (on > 0) = true then decide (w64 (w64 ((f.Stack.length : Int) - off) + on) > 16) else false) = false := by
              rw [e1, e2]
              by_cases z : on > 0
              · simp [z]; omega
              · simp [z]
            have g1 : 0 ≤ (f.Stack.length : Int) - off ∧ (f.Stack.length : Int) - off ≤ f.Stack.length := by omega
            have hv : (lcut f.Stack ((f.Stack.length : Int) - off) f.Stack.length).length = off.toNat := by rw [lcut_len (by omega) (by omega) (by omega)]; omega
            have hst : (f.Stack.take ((f.Stack.length : Int) - off).toNat).length ≤ 40 := by rw [List.length_take]; omega
            rw [if_neg (show ¬ (!decide _) = true by simp; omega)]
            simp only [hcond, hcond2, Bool.false_eq_true, if_false]
            simp only [e1, if_pos g1]
            have hL : (([] : List GValue).length + (lcut f.Stack ((f.Stack.length : Int) - off) f.Stack.length).length) * 16 ≤ LIM := by unfold LIM; simp; omega
            simp only [if_pos hL]
            have pop : ∀ n act, n = off → frame_runner_pop ⟨f, p, ⟨o, a, b⟩, act⟩ n = some (lcut f.Stack ((f.Stack.length : Int) - off) f.Stack.length, f.Stack.take ((f.Stack.length : Int) - off).toNat) := fun n act h => by subst h; exact pop_eq (by omega) (by omega) (by omega)
            generalize hvv : lcut f.Stack ((f.Stack.length : Int) - off) f.Stack.length = v at hv pop ⊢
            generalize hss : f.Stack.take ((f.Stack.length : Int) - off).toNat = s at hst pop ⊢
            have push : ∀ act ls, ls.length ≤ 40 → frame_runner_push ⟨{ f with Stack := s }, p, ⟨o, a, b⟩, act⟩ ls = some (s ++ ls) := fun act ls h => push_eq (by simp only; omega) (by omega)
            have j1 : ∀ ls, r09_lays (k0 + 1000) f ⟨o, a, b⟩ v = some ls → _ := fun ls h => j1_eq (off := off) (ls := ls) hcode hi (by omega) (by omega) hs (by rw [hvv]; exact h) (fun h => ⟨by have := k1 (by omega); omega, r.2.2.1, q1 (.inr h)⟩) (fun h => by have := k1 (by omega); omega)
            rw [hvv, hss] at j1
            simp only [List.nil_append]
            rcases ops17 ⟨r.1, r.2.1⟩ with rfl | rfl | rfl | rfl | rfl | rfl | rfl | rfl | rfl | rfl | rfl | rfl | rfl | rfl | rfl | rfl | rfl
            · simp only [Int.reduceBEq, Bool.false_eq_true, if_false, if_true]
              have hoff0 : off = 0 := k00 (by omega)
              subst hoff0
              have hsS : s = f.Stack := by rw [← hss]; simp
              subst hsS
              simp only [Int.reduceEq, if_false, if_true, false_and, true_and] at j1
              rw [j1 [r04_Of a b] rfl]
              unfold frame_runner_plain
              simp only [Int.reduceBEq, Bool.false_eq_true, if_false, if_true]
              simp only [bnd, ofG]
              rw [push _ [r04_Of a b] (by simp)]
              exact ⟨_, _, rfl, rfl, by first | (simp only [List.length_append, List.length_cons, List.length_nil]; omega) | omega, by first | (simp only [List.length_set]; omega) | (simp only; omega) | omega, by first | (simp only [List.length_set]; omega) | (simp only; omega) | omega, by first | (simp; done) | (simp; omega) | omega⟩
            · simp only [Int.reduceBEq, Bool.false_eq_true, if_false, if_true]
              have hoff0 : off = 0 := k00 (by omega)
              subst hoff0
              have hsS : s = f.Stack := by rw [← hss]; simp
              subst hsS
              have ga : 0 ≤ a ∧ a < (f.Locals.length : Int) := ⟨r.2.2.1, q1 (by omega)⟩
              simp only [Int.reduceEq, if_false, if_true, false_and, true_and] at j1
              rw [j1 [⟨(gd f.Locals a).Re, (gd f.Locals a).Im⟩] (by unfold r09_lays; simp [ga])]
              unfold frame_runner_plain
              simp only [Int.reduceBEq, Bool.false_eq_true, if_false, if_true]
              simp only [if_pos ga]
              rw [push _ [_] (by simp)]
              exact ⟨_, _, rfl, rfl, by first | (simp only [List.length_append, List.length_cons, List.length_nil]; omega) | omega, by first | (simp only [List.length_set]; omega) | (simp only; omega) | omega, by first | (simp only [List.length_set]; omega) | (simp only; omega) | omega, by first | (simp; done) | (simp; omega) | omega⟩
            · simp only [Int.reduceBEq, Bool.false_eq_true, if_false, if_true]
              have hoff1 : off = 1 := k1 (by omega)
              have ga : 0 ≤ a ∧ a < (f.Locals.length : Int) := ⟨r.2.2.1, q1 (by omega)⟩
              have gv : 0 ≤ (0 : Int) ∧ (0 : Int) < v.length := by omega
              simp only [Int.reduceEq, if_false, if_true, false_and, true_and] at j1
              rw [j1 [] (by unfold r09_lays; simp)]
              unfold frame_runner_plain
              simp only [Int.reduceBEq, Bool.false_eq_true, if_false, if_true]
              rw [pop 1 _ hoff1.symm]
              simp only [Option.bind_some, if_pos gv, if_pos ga, List.append_nil]
              exact ⟨_, _, rfl, rfl, by first | (simp only [List.length_append, List.length_cons, List.length_nil]; omega) | omega, by first | (simp only [List.length_set]; omega) | (simp only; omega) | omega, by first | (simp only [List.length_set]; omega) | (simp only; omega) | omega, by first | (simp; done) | (simp; omega) | omega⟩
            · simp only [Int.reduceBEq, Bool.false_eq_true, if_false, if_true]
              have hoff2 : off = 2 := k2 (by omega)
              have gv : 0 ≤ (0 : Int) ∧ (0 : Int) < v.length := by omega
              have gw : 0 ≤ (1 : Int) ∧ (1 : Int) < v.length := by omega
              simp only [Int.reduceEq, if_false, if_true, false_and, true_and] at j1
              rw [j1 [r04_Add ⟨(gd v 0).Re, (gd v 0).Im⟩ ⟨(gd v 1).Re, (gd v 1).Im⟩] (by unfold r09_lays; simp only [Int.reduceBEq, Bool.false_eq_true, if_false, if_true, if_pos gv, if_pos gw, bnd])]
              unfold frame_runner_two
              simp only [Int.reduceBEq, Bool.false_eq_true, if_false, if_true]
              rw [pop 2 _ hoff2.symm]
              simp only [Option.bind_some, if_pos gv, if_pos gw, add4]
              rw [push _ [_] (by simp)]
              exact ⟨_, _, rfl, rfl, by first | (simp only [List.length_append, List.length_cons, List.length_nil]; omega) | omega, by first | (simp only [List.length_set]; omega) | (simp only; omega) | omega, by first | (simp only [List.length_set]; omega) | (simp only; omega) | omega, by first | (simp; done) | (simp; omega) | omega⟩
            · simp only [Int.reduceBEq, Bool.false_eq_true, if_false, if_true]
              have hoff2 : off = 2 := k2 (by omega)
              have gv : 0 ≤ (0 : Int) ∧ (0 : Int) < v.length := by omega
              have gw : 0 ≤ (1 : Int) ∧ (1 : Int) < v.length := by omega
              simp only [Int.reduceEq, if_false, if_true, false_and, true_and] at j1
              rw [j1 [r04_Sub ⟨(gd v 0).Re, (gd v 0).Im⟩ ⟨(gd v 1).Re, (gd v 1).Im⟩] (by unfold r09_lays; simp only [Int.reduceBEq, Bool.false_eq_true, if_false, if_true, if_pos gv, if_pos gw, bnd])]
              unfold frame_runner_two
              simp only [Int.reduceBEq, Bool.false_eq_true, if_false, if_true]
              rw [pop 2 _ hoff2.symm]
              simp only [Option.bind_some, if_pos gv, if_pos gw, sub4]
              rw [push _ [_] (by simp)]
              exact ⟨_, _, rfl, rfl, by first | (simp only [List.length_append, List.length_cons, List.length_nil]; omega) | omega, by first | (simp only [List.length_set]; omega) | (simp only; omega) | omega, by first | (simp only [List.length_set]; omega) | (simp only; omega) | omega, by first | (simp; done) | (simp; omega) | omega⟩
            · simp only [Int.reduceBEq, Bool.false_eq_true, if_false, if_true]
              have hoff2 : off = 2 := k2 (by omega)
              have gv : 0 ≤ (0 : Int) ∧ (0 : Int) < v.length := by omega
              have gw : 0 ≤ (1 : Int) ∧ (1 : Int) < v.length := by omega
              simp only [Int.reduceEq, if_false, if_true, false_and, true_and] at j1
              rw [j1 [r04_Mul ⟨(gd v 0).Re, (gd v 0).Im⟩ ⟨(gd v 1).Re, (gd v 1).Im⟩] (by unfold r09_lays; simp only [Int.reduceBEq, Bool.false_eq_true, if_false, if_true, if_pos gv, if_pos gw, bnd])]
              unfold frame_runner_two
              simp only [Int.reduceBEq, Bool.false_eq_true, if_false, if_true]
              rw [pop 2 _ hoff2.symm]
              simp only [Option.bind_some, if_pos gv, if_pos gw, mul4]
              rw [push _ [_] (by simp)]
              exact ⟨_, _, rfl, rfl, by first | (simp only [List.length_append, List.length_cons, List.length_nil]; omega) | omega, by first | (simp only [List.length_set]; omega) | (simp only; omega) | omega, by first | (simp only [List.length_set]; omega) | (simp only; omega) | omega, by first | (simp; done) | (simp; omega) | omega⟩
            · simp only [Int.reduceBEq, Bool.false_eq_true, if_false, if_true]
              have hoff2 : off = 2 := k2 (by omega)
              have gv : 0 ≤ (0 : Int) ∧ (0 : Int) < v.length := by omega
              have gw : 0 ≤ (1 : Int) ∧ (1 : Int) < v.length := by omega
              simp only [Int.reduceEq, if_false, if_true, false_and, true_and] at j1
              unfold frame_runner_two
              simp only [Int.reduceBEq, Bool.false_eq_true, if_false, if_true]
              rw [pop 2 _ hoff2.symm]
              simp only [Option.bind_some, if_pos gv, if_pos gw, div4]
              obtain ⟨⟨q, ok⟩, hd⟩ := div_total (k0 + 1000) (by omega) ⟨(gd v 0).Re, (gd v 0).Im⟩ ⟨(gd v 1).Re, (gd v 1).Im⟩
              rw [div4] at hd
              rw [hd]
              simp only [Option.bind_some]
              cases ok with
              | false =>
                have hsv : s ++ v = f.Stack := by rw [← hss, ← hvv]; exact take_lcut (by omega) (by omega)
                rw [push _ v (by omega)]
                simp only [Bool.not_false, if_true, Option.bind_some, frame_runner_trap, frame_runner_end, r09_trap, r09_end, bnd, hsv]
                exact ⟨_, _, rfl, rfl, by first | (simp only [List.length_append, List.length_cons, List.length_nil]; omega) | omega, by first | (simp only [List.length_set]; omega) | (simp only; omega) | omega, by first | (simp only [List.length_set]; omega) | (simp only; omega) | omega, by first | (simp; done) | (simp; omega) | omega⟩
              | true =>
                rw [j1 [q] (by unfold r09_lays; simp only [Int.reduceBEq, Bool.false_eq_true, if_false, if_true, if_pos gv, if_pos gw, hd, Option.bind_some])]
                simp only [Bool.not_true, Bool.false_eq_true, if_false]
                rw [push _ [q] (by simp)]
                exact ⟨_, _, rfl, rfl, by first | (simp only [List.length_append, List.length_cons, List.length_nil]; omega) | omega, by first | (simp only [List.length_set]; omega) | (simp only; omega) | omega, by first | (simp only [List.length_set]; omega) | (simp only; omega) | omega, by first | (simp; done) | (simp; omega) | omega⟩
            · simp only [Int.reduceBEq, Bool.false_eq_true, if_false, if_true]
              have hoff1 : off = 1 := k1 (by omega)
              have gv : 0 ≤ (0 : Int) ∧ (0 : Int) < v.length := by omega
              simp only [Int.reduceEq, if_false, if_true, false_and, true_and] at j1
              rw [j1 [r04_Conj ⟨(gd v 0).Re, (gd v 0).Im⟩] (by unfold r09_lays; simp only [Int.reduceBEq, Bool.false_eq_true, if_false, if_true, if_pos gv, bnd])]
              unfold frame_runner_plain
              simp only [Int.reduceBEq, Bool.false_eq_true, if_false, if_true]
              rw [pop 1 _ hoff1.symm]
              simp only [Option.bind_some, if_pos gv, conj4]
              rw [push _ [_] (by simp)]
              exact ⟨_, _, rfl, rfl, by first | (simp only [List.length_append, List.length_cons, List.length_nil]; omega) | omega, by first | (simp only [List.length_set]; omega) | (simp only; omega) | omega, by first | (simp only [List.length_set]; omega) | (simp only; omega) | omega, by first | (simp; done) | (simp; omega) | omega⟩
            · simp only [Int.reduceBEq, Bool.false_eq_true, if_false, if_true]
              have hoff1 : off = 1 := k1 (by omega)
              have gv : 0 ≤ (0 : Int) ∧ (0 : Int) < v.length := by omega
              simp only [Int.reduceEq, if_false, if_true, false_and, true_and] at j1
              rw [j1 [⟨(gd v 0).Re, (gd v 0).Im⟩, ⟨(gd v 0).Re, (gd v 0).Im⟩] (by unfold r09_lays; simp only [Int.reduceBEq, Bool.false_eq_true, if_false, if_true, if_pos gv, bnd])]
              unfold frame_runner_plain
              simp only [Int.reduceBEq, Bool.false_eq_true, if_false, if_true]
              rw [pop 1 _ hoff1.symm]
              simp only [Option.bind_some, if_pos gv]
              rw [push _ [_, _] (by simp)]
              exact ⟨_, _, rfl, rfl, by first | (simp only [List.length_append, List.length_cons, List.length_nil]; omega) | omega, by first | (simp only [List.length_set]; omega) | (simp only; omega) | omega, by first | (simp only [List.length_set]; omega) | (simp only; omega) | omega, by first | (simp; done) | (simp; omega) | omega⟩
            · simp only [Int.reduceBEq, Bool.false_eq_true, if_false, if_true]
              have hoff1 : off = 1 := k1 (by omega)
              simp only [Int.reduceEq, if_false, if_true, false_and, true_and] at j1
              rw [j1 [] (by unfold r09_lays; simp)]
              unfold frame_runner_plain
              simp only [Int.reduceBEq, Bool.false_eq_true, if_false, if_true]
              rw [pop 1 _ hoff1.symm]
              simp only [Option.bind_some, List.append_nil]
              exact ⟨_, _, rfl, rfl, by first | (simp only [List.length_append, List.length_cons, List.length_nil]; omega) | omega, by first | (simp only [List.length_set]; omega) | (simp only; omega) | omega, by first | (simp only [List.length_set]; omega) | (simp only; omega) | omega, by first | (simp; done) | (simp; omega) | omega⟩
            · simp only [Int.reduceBEq, Bool.false_eq_true, if_false, if_true]
              have hoff0 : off = 0 := k00 (by omega)
              subst hoff0
              have hsS : s = f.Stack := by rw [← hss]; simp
              subst hsS
              simp only [Int.reduceEq, if_false, if_true, false_and, true_and] at j1
              rw [j1 [] (by unfold r09_lays; simp)]
              unfold frame_runner_plain
              simp only [Int.reduceBEq, Bool.false_eq_true, if_false, if_true]
              simp only [Option.bind_some, List.append_nil]
              exact ⟨_, _, rfl, rfl, by first | (simp only [List.length_append, List.length_cons, List.length_nil]; omega) | omega, by first | (simp only [List.length_set]; omega) | (simp only; omega) | omega, by first | (simp only [List.length_set]; omega) | (simp only; omega) | omega, by first | (simp; done) | (simp; omega) | omega⟩
            · simp only [Int.reduceBEq, Bool.false_eq_true, if_false, if_true]
              have hoff1 : off = 1 := k1 (by omega)
              have gv : 0 ≤ (0 : Int) ∧ (0 : Int) < v.length := by omega
              simp only [Int.reduceEq, if_false, if_true, false_and, true_and] at j1
              rw [j1 [] (by unfold r09_lays; simp)]
              unfold frame_runner_plain
              simp only [Int.reduceBEq, Bool.false_eq_true, if_false, if_true]
              rw [pop 1 _ hoff1.symm]
              simp only [Option.bind_some, if_pos gv, List.append_nil, bnd, ofG]
              generalize r04_Of _ _ = z
              obtain ⟨z1, z2⟩ := z
              by_cases y1 : z1 = 0
              · by_cases y2 : z2 = 0
                · simp only [y1, y2, beq_self_eq_true, Bool.and_self, and_self, if_true, Option.bind_some]
                  exact ⟨_, _, rfl, rfl, by first | (simp only [List.length_append, List.length_cons, List.length_nil]; omega) | omega, by first | (simp only [List.length_set]; omega) | (simp only; omega) | omega, by first | (simp only [List.length_set]; omega) | (simp only; omega) | omega, by first | (simp; done) | (simp; omega) | omega⟩
                · simp only [y1, y2, and_false, if_false, show ((0 : Int) == 0 && (z2 == 0 && true)) = false by simp [y2], Bool.false_eq_true, Option.bind_some]
                  exact ⟨_, _, rfl, rfl, by first | (simp only [List.length_append, List.length_cons, List.length_nil]; omega) | omega, by first | (simp only [List.length_set]; omega) | (simp only; omega) | omega, by first | (simp only [List.length_set]; omega) | (simp only; omega) | omega, by first | (simp; done) | (simp; omega) | omega⟩
              · simp only [y1, false_and, if_false, show (z1 == 0 && (z2 == 0 && true)) = false by simp [y1], Bool.false_eq_true, Option.bind_some]
                exact ⟨_, _, rfl, rfl, by first | (simp only [List.length_append, List.length_cons, List.length_nil]; omega) | omega, by first | (simp only [List.length_set]; omega) | (simp only; omega) | omega, by first | (simp only [List.length_set]; omega) | (simp only; omega) | omega, by first | (simp; done) | (simp; omega) | omega⟩
            · simp only [Int.reduceBEq, Bool.false_eq_true, if_false, if_true]
              have hoff0 : off = 0 := k00 (by omega)
              subst hoff0
              have hsS : s = f.Stack := by rw [← hss]; simp
              subst hsS
              simp only [Int.reduceEq, if_false, if_true, false_and, true_and] at j1
              rw [j1 [r05_Draw f.Seed f.Draws] (by unfold r09_lays; simp [bnd])]
              unfold frame_runner_plain
              simp only [Int.reduceBEq, Bool.false_eq_true, if_false, if_true]
              simp only [draw5, Option.bind_some]
              rw [push _ [_] (by simp)]
              exact ⟨_, _, rfl, rfl, by first | (simp only [List.length_append, List.length_cons, List.length_nil]; omega) | omega, by first | (simp only [List.length_set]; omega) | (simp only; omega) | omega, by first | (simp only [List.length_set]; omega) | (simp only; omega) | omega, by first | (simp; done) | (simp; omega) | omega⟩
            · simp only [Int.reduceBEq, Bool.false_eq_true, if_false, if_true]
              have gb : 0 ≤ b ∧ b < (f.Slots.length : Int) := ⟨r.2.2.2.2.1, (q3 rfl).2⟩
              unfold frame_runner_spawn r09_spawn
              simp only [if_pos gb]
              by_cases hb : (gd f.Slots b).State = 0
              · have hb' : ((gd f.Slots b).State != 0) = false := by simp [hb]
                simp only [hb', Bool.false_eq_true, if_false, child5, Option.bind_some, bnd, hoff]
                rw [pop_eq (f := { f with Slots := f.Slots.set b.toNat ⟨1, frame_noRef, ⟨0, ⟨0, 0⟩⟩⟩ }) (p := p) (x := ⟨13, a, b⟩) (act := ⟨1, 0, 0, 0, []⟩) (by omega) (show off ≤ f.Stack.length by omega) (show f.Stack.length ≤ 1000 by omega)]
                have hvl : (v.length : Int) = off := by omega
                simp only [Option.bind_some, hvl, e1, if_pos g1, hvv, hss, frame_noRef]
                exact ⟨_, _, rfl, rfl, by first | (simp only [List.length_append, List.length_cons, List.length_nil]; omega) | omega, by first | (simp only [List.length_set]; omega) | (simp only; omega) | omega, by first | (simp only [List.length_set]; omega) | (simp only; omega) | omega, by first | (simp; done) | (simp; omega) | omega⟩
              · have hb' : ((gd f.Slots b).State != 0) = true := by simpa using hb
                simp only [hb', if_true, frame_runner_trap, frame_runner_end, r09_trap, r09_end, bnd, Option.bind_some]
                exact ⟨_, _, rfl, rfl, by first | (simp only [List.length_append, List.length_cons, List.length_nil]; omega) | omega, by first | (simp only [List.length_set]; omega) | (simp only; omega) | omega, by first | (simp only [List.length_set]; omega) | (simp only; omega) | omega, by first | (simp; done) | (simp; omega) | omega⟩
            · simp only [Int.reduceBEq, Bool.false_eq_true, if_false, if_true]
              have ga : 0 ≤ a ∧ a < (f.Slots.length : Int) := ⟨r.2.2.1, q2 rfl⟩
              unfold frame_runner_join r09_join
              simp only [if_pos ga]
              by_cases hb : (gd f.Slots a).State = 1
              · simp only [hb, beq_self_eq_true, if_true, Option.bind_some]
                exact ⟨_, _, rfl, rfl, by first | (simp only [List.length_append, List.length_cons, List.length_nil]; omega) | omega, by first | (simp only [List.length_set]; omega) | (simp only; omega) | omega, by first | (simp only [List.length_set]; omega) | (simp only; omega) | omega, by first | (simp; done) | (simp; omega) | omega⟩
              have hb1 : ((gd f.Slots a).State == 1) = false := by simpa using hb
              simp only [hb1, Bool.false_eq_true, if_false]
              by_cases hb2 : (gd f.Slots a).State = 2
              · have hb3 : ((gd f.Slots a).State != 2) = false := by simp [hb2]
                simp only [hb2, beq_self_eq_true, if_true, hb3, show ((2 : Int) != 2) = false from rfl, Bool.false_eq_true, if_false]
                by_cases ht0 : (gd f.Slots a).Out.Trap = 0
                · have ht1 : ((gd f.Slots a).Out.Trap != 0) = false := by simp [ht0]
                  simp only [ht1, Bool.false_eq_true, if_false]
                  rw [push_eq (by simp only; omega) (by simp), if_pos (by unfold LIM; simp; omega)]
                  simp only [Option.bind_some]
                  exact ⟨_, _, rfl, rfl, by first | (simp only [List.length_append, List.length_cons, List.length_nil]; omega) | omega, by first | (simp only [List.length_set]; omega) | (simp only; omega) | omega, by first | (simp only [List.length_set]; omega) | (simp only; omega) | omega, by first | (simp; done) | (simp; omega) | omega⟩
                · have ht1 : ((gd f.Slots a).Out.Trap != 0) = true := by simpa using ht0
                  simp only [ht1, if_true, frame_runner_trap, frame_runner_end, r09_trap, r09_end, bnd, Option.bind_some]
                  exact ⟨_, _, rfl, rfl, by first | (simp only [List.length_append, List.length_cons, List.length_nil]; omega) | omega, by first | (simp only [List.length_set]; omega) | (simp only; omega) | omega, by first | (simp only [List.length_set]; omega) | (simp only; omega) | omega, by first | (simp; done) | (simp; omega) | omega⟩
              · have hb3 : ((gd f.Slots a).State == 2) = false := by simpa using hb2
                have hb4 : ((gd f.Slots a).State != 2) = true := by simpa using hb2
                simp only [hb3, hb4, Bool.false_eq_true, if_false, if_true, frame_runner_trap, frame_runner_end, r09_trap, r09_end, bnd, Option.bind_some]
                exact ⟨_, _, rfl, rfl, by first | (simp only [List.length_append, List.length_cons, List.length_nil]; omega) | omega, by first | (simp only [List.length_set]; omega) | (simp only; omega) | omega, by first | (simp only [List.length_set]; omega) | (simp only; omega) | omega, by first | (simp; done) | (simp; omega) | omega⟩
            · simp only [Int.reduceBEq, Bool.false_eq_true, if_false, if_true]
              have hoff1 : off = 1 := k1 (by omega)
              have gv : 0 ≤ (0 : Int) ∧ (0 : Int) < v.length := by omega
              rw [pop 1 _ hoff1.symm]
              simp only [Option.bind_some, if_pos gv, frame_runner_end, r09_end, bnd]
              exact ⟨_, _, rfl, rfl, by first | (simp only [List.length_append, List.length_cons, List.length_nil]; omega) | omega, by first | (simp only [List.length_set]; omega) | (simp only; omega) | omega, by first | (simp only [List.length_set]; omega) | (simp only; omega) | omega, by first | (simp; done) | (simp; omega) | omega⟩
            · simp only [Int.reduceBEq, Bool.false_eq_true, if_false, if_true]
              simp only [frame_runner_trap, frame_runner_end, r09_trap, r09_end, bnd]
              exact ⟨_, _, rfl, rfl, by first | (simp only [List.length_append, List.length_cons, List.length_nil]; omega) | omega, by first | (simp only [List.length_set]; omega) | (simp only; omega) | omega, by first | (simp only [List.length_set]; omega) | (simp only; omega) | omega, by first | (simp; done) | (simp; omega) | omega⟩
  · exact ⟨f, ⟨0, 0, 0, 0, []⟩, by simp [bnd, h1], by simp [bnd, h1], by omega, by omega, by omega, by simp⟩

set_option maxRecDepth 100000
def trapS (s : GSlot) : Bool := s.State == 2 && s.Out.Trap != 0
def anyB (xs : List GSlot) : Bool := xs.any (fun s => s.State == 1)
def firstT (xs : List GSlot) : Option Int := (xs.find? trapS).map (fun s => s.Out.Trap)
theorem drop_gd {xs : List GSlot} {i : Int} (h0 : 0 ≤ i) (h1 : i < xs.length) : xs.drop i.toNat = gd xs i :: xs.drop (i + 1).toNat := by
  rw [gd_mem h0 h1, show (i + 1).toNat = i.toNat + 1 by omega]
  exact List.drop_eq_getElem_cons (by omega)
theorem take_gd {xs : List GSlot} {i : Int} (h0 : 0 ≤ i) (h1 : i < xs.length) : xs.take (i + 1).toNat = xs.take i.toNat ++ [gd xs i] := by
  rw [gd_mem h0 h1, show (i + 1).toNat = i.toNat + 1 by omega]
  exact (List.take_append_getElem (by omega)).symm
theorem idx_slot (K : Nat) (xs : List GSlot) (hn : xs.length ≤ 900) : ∀ (d k : Nat) (i : Int), 0 ≤ i → i ≤ xs.length → (xs.length : Int) - i = d → d < k → ∃ r, slices_IndexFunc_Slot_at41_l1 K xs k i = some r ∧ decide (r ≥ 0) = anyB (xs.drop i.toNat) := by
  intro d
  induction d with
  | zero =>
    intro k i h0 h1 hd hk
    obtain ⟨k, rfl⟩ : ∃ m, k = m + 1 := ⟨k - 1, by omega⟩
    simp only [slices_IndexFunc_Slot_at41_l1]
    rw [if_neg (by simp; omega)]
    refine ⟨_, rfl, ?_⟩
    rw [List.drop_of_length_le (by omega)]
    rfl
  | succ d ih =>
    intro k i h0 h1 hd hk
    obtain ⟨k, rfl⟩ : ∃ m, k = m + 1 := ⟨k - 1, by omega⟩
    simp only [slices_IndexFunc_Slot_at41_l1, bnd]
    rw [if_pos (by simp; omega), if_pos ⟨h0, by omega⟩, drop_gd h0 (by omega)]
    rw [show ∀ s : GSlot, frame_Final_1 s = (s.State == 1) from fun _ => rfl]
    by_cases hb : (gd xs i).State = 1
    · rw [if_pos (by simpa using hb)]
      refine ⟨_, rfl, ?_⟩
      simp [anyB, hb, h0]
    · rw [if_neg (by simpa using hb), w64_id (x := i + 1) (by omega)]
      obtain ⟨r, e, hr⟩ := ih k (i + 1) (by omega) (by omega) (by omega) (by omega)
      refine ⟨r, e, ?_⟩
      rw [hr]
      simp [anyB, hb]
theorem final_l1 (K : Nat) (f : GFrame) (hn : f.Slots.length ≤ 900) : ∀ (d k : Nat) (i : Int), 0 ≤ i → i ≤ f.Slots.length → (f.Slots.length : Int) - i = d → d < k → frame_Final_l1 K f k i = some ((match firstT (f.Slots.drop i.toNat) with | some t => ⟨t, ⟨0, 0⟩⟩ | none => f.Out), true) := by
  intro d
  induction d with
  | zero =>
    intro k i h0 h1 hd hk
    obtain ⟨k, rfl⟩ : ∃ m, k = m + 1 := ⟨k - 1, by omega⟩
    simp only [frame_Final_l1]
    rw [if_neg (by simp; omega), List.drop_of_length_le (by omega)]
    rfl
  | succ d ih =>
    intro k i h0 h1 hd hk
    obtain ⟨k, rfl⟩ : ∃ m, k = m + 1 := ⟨k - 1, by omega⟩
    simp only [frame_Final_l1, bnd]
    rw [if_pos (by simp; omega), if_pos ⟨h0, by omega⟩, drop_gd h0 (by omega)]
    have hc : (if ((gd f.Slots i).State == 2) = true then (gd f.Slots i).Out.Trap != 0 else false) = trapS (gd f.Slots i) := by
      unfold trapS; cases ((gd f.Slots i).State == 2) <;> rfl
    rw [hc]
    cases hb : trapS (gd f.Slots i) with
    | true => simp [firstT, hb]
    | false =>
      rw [if_neg (by simp), w64_id (x := i + 1) (by omega), ih k (i + 1) (by omega) (by omega) (by omega) (by omega)]
      simp [firstT, hb]
theorem final_ref_l1 (K : Nat) (f : GFrame) (hn : f.Slots.length ≤ 900) : ∀ (n k : Nat) (t re im : Int), n ≤ f.Slots.length → n < k → r09_Final_l1 K f k (t, re, im, (n : Int) - 1) = some (if anyB (f.Slots.take n) then (⟨0, ⟨0, 0⟩⟩, false) else ((match (if f.Out.Trap == 0 then firstT (f.Slots.take n) else none) with | some t => ⟨t, ⟨0, 0⟩⟩ | none => ⟨t, ⟨re, im⟩⟩), true)) := by
  intro n
  induction n with
  | zero =>
    intro k t re im h1 hk
    obtain ⟨k, rfl⟩ : ∃ m, k = m + 1 := ⟨k - 1, by omega⟩
    simp only [r09_Final_l1]
    rw [if_neg (by simp)]
    simp [anyB, firstT]
  | succ n ih =>
    intro k t re im h1 hk
    obtain ⟨k, rfl⟩ : ∃ m, k = m + 1 := ⟨k - 1, by omega⟩
    simp only [r09_Final_l1, bnd]
    rw [show ((n + 1 : Nat) : Int) - 1 = n by omega]
    have g : 0 ≤ (n : Int) ∧ (n : Int) < f.Slots.length := by omega
    rw [if_pos (by simp)]
    simp only [if_pos g]
    have ht : f.Slots.take (n + 1) = f.Slots.take n ++ [gd f.Slots n] := by
      have := take_gd g.1 g.2
      rw [show ((n : Int) + 1).toNat = n + 1 by omega, show ((n : Int)).toNat = n by omega] at this
      exact this
    rw [ht]
    have ha : anyB (f.Slots.take n ++ [gd f.Slots n]) = (anyB (f.Slots.take n) || (gd f.Slots n).State == 1) := by simp [anyB]
    have hf : firstT (f.Slots.take n ++ [gd f.Slots n]) = (firstT (f.Slots.take n)).or (if trapS (gd f.Slots n) then some (gd f.Slots n).Out.Trap else none) := by
      unfold firstT
      rw [List.find?_append]
      cases h1 : List.find? trapS (f.Slots.take n) with
      | some s => simp
      | none => cases h2 : trapS (gd f.Slots n) <;> simp [h2]
    rw [ha, hf]
    by_cases hb : (gd f.Slots n).State = 1
    · rw [if_pos (by simpa using hb)]
      simp [hb]
    · have hb' : ((gd f.Slots n).State == 1) = false := by simpa using hb
      rw [if_neg (by simpa using hb), hb', Bool.or_false]
      have hc : ((if ((gd f.Slots n).State == 2) = true then some ((gd f.Slots n).Out.Trap != 0) else some false).bind fun y40 => if (if y40 = true then f.Out.Trap == 0 else false) = true then r09_Final_l1 K f k ((gd f.Slots n).Out.Trap, 0, 0, w64 ((n : Int) - 1)) else r09_Final_l1 K f k (t, re, im, w64 ((n : Int) - 1))) = (if (trapS (gd f.Slots n) && f.Out.Trap == 0) then r09_Final_l1 K f k ((gd f.Slots n).Out.Trap, 0, 0, w64 ((n : Int) - 1)) else r09_Final_l1 K f k (t, re, im, w64 ((n : Int) - 1))) := by
        unfold trapS
        cases (gd f.Slots n).State == 2 <;> cases (gd f.Slots n).Out.Trap != 0 <;> cases f.Out.Trap == 0 <;> rfl
      rw [hc, w64_id (by omega)]
      have i1 := fun t re im => ih k t re im (by omega) (by omega)
      rw [i1, i1]
      cases trapS (gd f.Slots n) <;> cases f.Out.Trap == 0 <;> cases anyB (f.Slots.take n) <;> cases firstT (f.Slots.take n) <;> rfl
theorem final_ref (K : Nat) (hK : 1000 ≤ K) (f : GFrame) (h3 : f.Slots.length ≤ 40) : ∃ q, frame_Final K f = some q ∧ r09_Final K f = some q := by
  unfold frame_Final r09_Final slices_ContainsFunc_Slot_at41 slices_IndexFunc_Slot_at41
  by_cases hs : f.State = 2
  · have c : (f.State != 2) = false := by simp [hs]
    obtain ⟨r, e, hr⟩ := idx_slot K f.Slots (by omega) f.Slots.length K 0 (by omega) (by omega) (by omega) (by omega)
    rw [e, c]
    have r1 := final_ref_l1 K f (by omega) f.Slots.length K f.Out.Trap f.Out.V.Re f.Out.V.Im (by omega) (by omega)
    have f1 := final_l1 K f (by omega) f.Slots.length K 0 (by omega) (by omega) (by omega) (by omega)
    rw [w64_id (by omega), r1, f1]
    simp only [Option.bind_some, Bool.false_eq_true, if_false, hr, List.take_length, show ((0 : Int)).toNat = 0 from rfl, List.drop_zero]
    cases anyB f.Slots with
    | true => exact ⟨_, rfl, rfl⟩
    | false =>
      simp only [Bool.false_eq_true, if_false]
      by_cases ht : f.Out.Trap = 0
      · have c1 : (f.Out.Trap != 0) = false := by simp [ht]
        have c2 : (f.Out.Trap == 0) = true := by simp [ht]
        rw [c1, c2]
        simp only [Bool.false_eq_true, if_false, if_true]
        cases firstT f.Slots with
        | none => exact ⟨_, rfl, rfl⟩
        | some t => exact ⟨_, rfl, rfl⟩
      · have c1 : (f.Out.Trap != 0) = true := by simpa using ht
        have c2 : (f.Out.Trap == 0) = false := by simpa using ht
        rw [c1, c2]
        exact ⟨_, rfl, rfl⟩
  · have c : (f.State != 2) = true := by simpa using hs
    rw [c]
    exact ⟨_, rfl, rfl⟩

set_option maxRecDepth 100000
theorem drop_gdA {α : Type} [Inhabited α] {xs : List α} {i : Int} (h0 : 0 ≤ i) (h1 : i < xs.length) : xs.drop i.toNat = gd xs i :: xs.drop (i + 1).toNat := by
  rw [gd_mem h0 h1, show (i + 1).toNat = i.toNat + 1 by omega]
  exact List.drop_eq_getElem_cons (by omega)
theorem take_gdA {α : Type} [Inhabited α] {xs : List α} {i : Int} (h0 : 0 ≤ i) (h1 : i < xs.length) : xs.take (i + 1).toNat = xs.take i.toNat ++ [gd xs i] := by
  rw [gd_mem h0 h1, show (i + 1).toNat = i.toNat + 1 by omega]
  exact (List.take_append_getElem (by omega)).symm
theorem idx_instr (K : Nat) (xs : List GInstr) (hn : xs.length ≤ 9223372036854775807) : ∀ (d k : Nat) (i : Int), 0 ≤ i → i ≤ xs.length → (xs.length : Int) - i = d → d < k → ∃ r, slices_IndexFunc_Instr_at82_l1 K xs k i = some r ∧ decide (r ≥ 0) = !((xs.drop i.toNat).all r06_May) := by
  intro d
  induction d with
  | zero =>
    intro k i h0 h1 hd hk
    obtain ⟨k, rfl⟩ : ∃ m, k = m + 1 := ⟨k - 1, by omega⟩
    simp only [slices_IndexFunc_Instr_at82_l1]
    rw [if_neg (by simp; omega)]
    refine ⟨_, rfl, ?_⟩
    rw [List.drop_of_length_le (by omega)]
    rfl
  | succ d ih =>
    intro k i h0 h1 hd hk
    obtain ⟨k, rfl⟩ : ∃ m, k = m + 1 := ⟨k - 1, by omega⟩
    simp only [slices_IndexFunc_Instr_at82_l1, bnd]
    rw [if_pos (by simp; omega), if_pos ⟨h0, by omega⟩, drop_gdA h0 (by omega)]
    have hc : code_May_1 ⟨(gd xs i).Op, (gd xs i).A, (gd xs i).B⟩ = !r06_May (gd xs i) := by
      unfold code_May_1; rw [← may6]; rfl
    rw [hc]
    cases hb : r06_May (gd xs i) with
    | false =>
      rw [if_pos (by simp)]
      exact ⟨_, rfl, by simp [hb, h0]⟩
    | true =>
      rw [if_neg (by simp), w64_id (x := i + 1) (by omega)]
      obtain ⟨r, e, hr⟩ := ih k (i + 1) (by omega) (by omega) (by omega) (by omega)
      refine ⟨r, e, ?_⟩
      rw [hr]
      simp [hb]
theorem contains_instr (K : Nat) (xs : List GInstr) (hn : xs.length ≤ 9223372036854775807) (hK : xs.length < K) : slices_ContainsFunc_Instr_at82 K xs = some (!(xs.all r06_May)) := by
  obtain ⟨r, e, hr⟩ := idx_instr K xs hn xs.length K 0 (by omega) (by omega) (by omega) (by omega)
  unfold slices_ContainsFunc_Instr_at82 slices_IndexFunc_Instr_at82
  rw [e]
  simp only [Option.bind_some, hr, show ((0 : Int)).toNat = 0 from rfl, List.drop_zero]
def headB (f : GFunc) : Bool := decide (0 ≤ f.Arity ∧ f.Arity ≤ 16 ∧ 0 ≤ f.Locals ∧ f.Locals ≤ 16 ∧ 0 ≤ f.Slots ∧ f.Slots ≤ 8)
theorem in_eq (x a b : Int) : code_in x a b = decide (a ≤ x ∧ x ≤ b) := by
  unfold code_in; simp only [bnd]
  by_cases h : x ≥ a
  · have : a ≤ x := h
    simp [h, this]
  · have : ¬ a ≤ x := h
    simp [this]
theorem head_code (f : GFunc) : code_head f = headB f := by
  unfold code_head headB
  simp only [bnd, in_eq]
  by_cases h1 : 0 ≤ f.Arity ∧ f.Arity ≤ 16
  · by_cases h2 : 0 ≤ f.Locals ∧ f.Locals ≤ 16
    · simp [h1, h2]
    · rw [decide_eq_false h2, decide_eq_true h1]; simp; omega
  · rw [decide_eq_false h1]; simp; omega
theorem head_ref (f : GFunc) : r07_Head f = headB f := by
  unfold r07_Head headB
  simp only [bnd]
  by_cases h1 : f.Arity ≥ 0
  · by_cases h2 : f.Arity ≤ 16
    · by_cases h3 : f.Locals ≥ 0
      · by_cases h4 : f.Locals ≤ 16
        · by_cases h5 : f.Slots ≥ 0
          · simp [h1, h2, h3, h4, h5] <;> omega
          · simp [h1, h2, h3, h4, h5] <;> omega
        · simp [h1, h2, h3, h4] <;> omega
      · simp [h1, h2, h3] <;> omega
    · simp [h1, h2] <;> omega
  · simp [h1] <;> omega
def okF (f : GFunc) : Bool := headB f && (decide (1 ≤ (f.Code.length : Int) ∧ (f.Code.length : Int) ≤ 200) && f.Code.all r06_May)
theorem code_l1 (K : Nat) (p : List GFunc) (hp : ∀ f ∈ p, f.Code.length ≤ 9223372036854775807 ∧ f.Code.length < K) (hn : p.length ≤ 20) : ∀ (d k : Nat) (i : Int), 0 ≤ i → i ≤ p.length → (p.length : Int) - i = d → d < k → code_May_l1 K p k i = some ((p.drop i.toNat).all okF && decide (1 ≤ (p.length : Int) ∧ (p.length : Int) ≤ 16)) := by
  intro d
  induction d with
  | zero =>
    intro k i h0 h1 hd hk
    obtain ⟨k, rfl⟩ : ∃ m, k = m + 1 := ⟨k - 1, by omega⟩
    simp only [code_May_l1, bnd]
    rw [if_neg (by simp; omega), List.drop_of_length_le (by omega), in_eq]
    rfl
  | succ d ih =>
    intro k i h0 h1 hd hk
    obtain ⟨k, rfl⟩ : ∃ m, k = m + 1 := ⟨k - 1, by omega⟩
    simp only [code_May_l1, bnd]
    rw [if_pos (by simp; omega), if_pos ⟨h0, by omega⟩, drop_gdA h0 (by omega)]
    have hm := hp _ (gd_memL h0 (show i < p.length by omega))
    rw [contains_instr K _ hm.1 hm.2, in_eq, show code_head ⟨(gd p i).Arity, (gd p i).Locals, (gd p i).Slots, (gd p i).Code⟩ = headB (gd p i) from head_code _, w64_id (x := i + 1) (by omega), ih k (i + 1) (by omega) (by omega) (by omega) (by omega)]
    rw [List.all_cons]
    unfold okF
    generalize decide (1 ≤ ((gd p i).Code.length : Int) ∧ ((gd p i).Code.length : Int) ≤ 200) = B1
    cases headB (gd p i) <;> cases B1 <;> cases (gd p i).Code.all r06_May <;> rfl
theorem code_ref_l2 (K : Nat) (p : List GFunc) (i : Int) (hi : 0 ≤ i ∧ i < p.length) (rec : Int → Option Bool) (hn : (gd p i).Code.length ≤ 9223372036854775807) : ∀ (d k : Nat) (j : Int), 0 ≤ j → j ≤ (gd p i).Code.length → ((gd p i).Code.length : Int) - j = d → d < k → r07_May_l2 K p i rec k j = if ((gd p i).Code.drop j.toNat).all r06_May && (headB (gd p i) && decide (1 ≤ ((gd p i).Code.length : Int) ∧ ((gd p i).Code.length : Int) ≤ 200)) then rec (w64 (i + 1)) else some false := by
  intro d
  induction d with
  | zero =>
    intro k j h0 h1 hd hk
    obtain ⟨k, rfl⟩ : ∃ m, k = m + 1 := ⟨k - 1, by omega⟩
    simp only [r07_May_l2, bnd]
    rw [if_pos hi, if_neg (by simp; omega), List.drop_of_length_le (by omega)]
    simp only [if_pos hi]
    rw [show r07_Head ⟨(gd p i).Arity, (gd p i).Locals, (gd p i).Slots, (gd p i).Code⟩ = headB (gd p i) from head_ref _]
    cases headB (gd p i) with
    | false => rfl
    | true =>
      by_cases q1 : ((gd p i).Code.length : Int) < 1
      · have q2 : ¬ 1 ≤ ((gd p i).Code.length : Int) := by omega
        simp [q1, q2]
      · by_cases q3 : ((gd p i).Code.length : Int) > 200
        · have q2 : ¬ ((gd p i).Code.length : Int) ≤ 200 := by omega
          simp [q1, q3, q2]
        · have q2 : 1 ≤ ((gd p i).Code.length : Int) ∧ ((gd p i).Code.length : Int) ≤ 200 := by omega
          simp only [q1, q3, q2, decide_true, decide_false, Bool.not_true, Bool.false_eq_true, if_false, Option.bind_some, if_true, Bool.and_self, List.all_nil, and_self]
  | succ d ih =>
    intro k j h0 h1 hd hk
    obtain ⟨k, rfl⟩ : ∃ m, k = m + 1 := ⟨k - 1, by omega⟩
    have g2 : 0 ≤ j ∧ j < (gd p i).Code.length := by omega
    simp only [r07_May_l2, bnd]
    rw [if_pos hi, if_pos (by simp; omega)]
    simp only [if_pos hi, if_pos g2]
    rw [drop_gdA h0 (by omega), List.all_cons, show r06_May ⟨(gd (gd p i).Code j).Op, (gd (gd p i).Code j).A, (gd (gd p i).Code j).B⟩ = r06_May (gd (gd p i).Code j) from rfl]
    cases hb : r06_May (gd (gd p i).Code j) with
    | false => simp
    | true =>
      rw [if_neg (by simp), w64_id (x := j + 1) (by omega), ih k (j + 1) (by omega) (by omega) (by omega) (by omega)]
      rw [Bool.true_and]
theorem code_ref_l1 (K : Nat) (p : List GFunc) (hp : ∀ f ∈ p, f.Code.length ≤ 9223372036854775807 ∧ f.Code.length < K) (hn : p.length ≤ 20) : ∀ (d k : Nat) (i : Int), 0 ≤ i → i ≤ p.length → (p.length : Int) - i = d → d < k → r07_May_l1 K p k i = some ((p.drop i.toNat).all okF && decide (1 ≤ (p.length : Int) ∧ (p.length : Int) ≤ 16)) := by
  intro d
  induction d with
  | zero =>
    intro k i h0 h1 hd hk
    obtain ⟨k, rfl⟩ : ∃ m, k = m + 1 := ⟨k - 1, by omega⟩
    simp only [r07_May_l1, bnd]
    rw [if_neg (by simp; omega), List.drop_of_length_le (by omega)]
    by_cases q : (p.length : Int) ≥ 1
    · have : 1 ≤ (p.length : Int) := q
      simp [q, this]
    · have : ¬ 1 ≤ (p.length : Int) := q
      simp [this]
  | succ d ih =>
    intro k i h0 h1 hd hk
    obtain ⟨k, rfl⟩ : ∃ m, k = m + 1 := ⟨k - 1, by omega⟩
    simp only [r07_May_l1]
    rw [if_pos (by simp; omega), drop_gdA h0 (by omega)]
    have hm := hp _ (gd_memL h0 (show i < p.length by omega))
    rw [code_ref_l2 K p i ⟨h0, by omega⟩ _ hm.1 (gd p i).Code.length K 0 (by omega) (by omega) (by omega) (by omega), w64_id (x := i + 1) (by omega), ih k (i + 1) (by omega) (by omega) (by omega) (by omega)]
    rw [List.all_cons, show ((0 : Int)).toNat = 0 from rfl, List.drop_zero]
    unfold okF
    generalize decide (1 ≤ ((gd p i).Code.length : Int) ∧ ((gd p i).Code.length : Int) ≤ 200) = B1
    cases headB (gd p i) <;> cases B1 <;> cases (gd p i).Code.all r06_May <;> rfl
def mayB (p : List GFunc) : Bool := p.all okF && decide (1 ≤ (p.length : Int) ∧ (p.length : Int) ≤ 16)
theorem code_may (K : Nat) (p : List GFunc) (hp : ∀ f ∈ p, f.Code.length ≤ 9223372036854775807 ∧ f.Code.length < K) (hn : p.length ≤ 20) (hK : 1000 ≤ K) : code_May K p = some (mayB p) := by
  have := code_l1 K p hp hn p.length K 0 (by omega) (by omega) (by omega) (by omega)
  exact this
theorem code_may_ref (K : Nat) (p : List GFunc) (hp : ∀ f ∈ p, f.Code.length ≤ 9223372036854775807 ∧ f.Code.length < K) (hn : p.length ≤ 20) (hK : 1000 ≤ K) : r07_May K p = some (mayB p) := by
  have := code_ref_l1 K p hp hn p.length K 0 (by omega) (by omega) (by omega) (by omega)
  exact this

set_option maxRecDepth 100000
theorem may4 (v : GValue) : gauss_May v = r04_May v := by
  unfold gauss_May r04_May
  simp only [bnd, rest_eq]
  rw [Bool.eq_iff_iff]
  by_cases h1 : v.Re ≥ 0
  · by_cases h2 : v.Re < 251
    · by_cases h3 : v.Im ≥ 0
      · simp [h1, h2, h3]; omega
      · simp [h1, h2, h3]; omega
    · simp [h1, h2]; omega
  · simp [h1]; omega
theorem idx_value (K : Nat) (xs : List GValue) (hn : xs.length ≤ 900) : ∀ (d k : Nat) (i : Int), 0 ≤ i → i ≤ xs.length → (xs.length : Int) - i = d → d < k → ∃ r, slices_IndexFunc_Value_at45_l1 K xs k i = some r ∧ decide (r ≥ 0) = !((xs.drop i.toNat).all r04_May) := by
  intro d
  induction d with
  | zero =>
    intro k i h0 h1 hd hk
    obtain ⟨k, rfl⟩ : ∃ m, k = m + 1 := ⟨k - 1, by omega⟩
    simp only [slices_IndexFunc_Value_at45_l1]
    rw [if_neg (by simp; omega)]
    refine ⟨_, rfl, ?_⟩
    rw [List.drop_of_length_le (by omega)]
    rfl
  | succ d ih =>
    intro k i h0 h1 hd hk
    obtain ⟨k, rfl⟩ : ∃ m, k = m + 1 := ⟨k - 1, by omega⟩
    simp only [slices_IndexFunc_Value_at45_l1, bnd]
    rw [if_pos (by simp; omega), if_pos ⟨h0, by omega⟩, drop_gdA h0 (by omega)]
    have hc : frame_New_1 ⟨(gd xs i).Re, (gd xs i).Im⟩ = !r04_May (gd xs i) := by
      unfold frame_New_1; rw [← may4]; rfl
    rw [hc]
    cases hb : r04_May (gd xs i) with
    | false =>
      rw [if_pos (by simp)]
      exact ⟨_, rfl, by simp [hb, h0]⟩
    | true =>
      rw [if_neg (by simp), w64_id (x := i + 1) (by omega)]
      obtain ⟨r, e, hr⟩ := ih k (i + 1) (by omega) (by omega) (by omega) (by omega)
      refine ⟨r, e, ?_⟩
      rw [hr]
      simp [hb]
theorem contains_value (K : Nat) (hK : 1000 ≤ K) (xs : List GValue) (hn : xs.length ≤ 900) : slices_ContainsFunc_Value_at45 K xs = some (!(xs.all r04_May)) := by
  obtain ⟨r, e, hr⟩ := idx_value K xs hn xs.length K 0 (by omega) (by omega) (by omega) (by omega)
  unfold slices_ContainsFunc_Value_at45 slices_IndexFunc_Value_at45
  rw [e]
  simp only [Option.bind_some, hr, show ((0 : Int)).toNat = 0 from rfl, List.drop_zero]
def zV : GValue := ⟨0, 0⟩
def zS : GSlot := ⟨0, ⟨0, 0⟩, ⟨0, ⟨0, 0⟩⟩⟩
def none9 : GFrame × Bool := (⟨0, 0, [], [], [], 0, 0, 0, 0, 0, ⟨0, ⟨0, 0⟩⟩, ⟨0, 0⟩, 0⟩, false)
theorem new_l2 (K : Nat) (p : List GFunc) (fn s : Int) (T : List GValue) (m : Nat) (hm : (gd p fn).Slots = m) (hm2 : m ≤ 8) : ∀ (d k j : Nat), j ≤ m → m - j = d → d < k → r09_New_l2 K p fn s T k (List.replicate j zS, (j : Int)) = some (⟨fn, 0, [], T, List.replicate m zS, s, 0, 0, 0, 0, ⟨0, ⟨0, 0⟩⟩, ⟨-1, 0⟩, 0⟩, true) := by
  intro d
  induction d with
  | zero =>
    intro k j h1 hd hk
    obtain ⟨k, rfl⟩ : ∃ m, k = m + 1 := ⟨k - 1, by omega⟩
    simp only [r09_New_l2]
    rw [if_neg (by simp; omega), show j = m by omega]
  | succ d ih =>
    intro k j h1 hd hk
    obtain ⟨k, rfl⟩ : ∃ m, k = m + 1 := ⟨k - 1, by omega⟩
    simp only [r09_New_l2]
    rw [if_pos (by simp; omega), if_pos (by unfold LIM; simp; omega), w64_id (by omega)]
    have := ih k (j + 1) (by omega) (by omega) (by omega)
    rw [List.replicate_succ'] at this
    exact this
theorem new_l1 (K : Nat) (hK : 1000 ≤ K) (p : List GFunc) (fn s : Int) (args : List GValue) (m n : Nat) (hm : (gd p fn).Slots = m) (hm2 : m ≤ 8) (hl : (gd p fn).Locals = n) (hl2 : n ≤ 16) (ha : args.length ≤ n) :
    ∀ (d k : Nat) (i : Int), 0 ≤ i → i ≤ n → (n : Int) - i = d → d < k → r09_New_l1 K p fn args s k ((args ++ List.replicate (n - args.length) zV).take i.toNat, i) = some (if (args.drop i.toNat).all r04_May then (⟨fn, 0, [], args ++ List.replicate (n - args.length) zV, List.replicate m zS, s, 0, 0, 0, 0, ⟨0, ⟨0, 0⟩⟩, ⟨-1, 0⟩, 0⟩, true) else none9) := by
  have hT : (args ++ List.replicate (n - args.length) zV).length = n := by simp; omega
  intro d
  induction d with
  | zero =>
    intro k i h0 h1 hd hk
    obtain ⟨k, rfl⟩ : ∃ m, k = m + 1 := ⟨k - 1, by omega⟩
    simp only [r09_New_l1]
    rw [if_neg (by simp; omega), List.take_of_length_le (by omega), List.drop_of_length_le (by omega)]
    rw [show ([] : List GSlot) = List.replicate 0 zS from rfl, show (0 : Int) = ((0 : Nat) : Int) from rfl, new_l2 K p fn s _ m hm hm2 m K 0 (by omega) (by omega) (by omega)]
    rfl
  | succ d ih =>
    intro k i h0 h1 hd hk
    obtain ⟨k, rfl⟩ : ∃ m, k = m + 1 := ⟨k - 1, by omega⟩
    simp only [r09_New_l1]
    rw [if_pos (by simp; omega)]
    have step := take_gdA (xs := args ++ List.replicate (n - args.length) zV) h0 (by omega)
    have i2 := ih k (i + 1) (by omega) (by omega) (by omega) (by omega)
    have hlen : ((args ++ List.replicate (n - args.length) zV).take i.toNat).length ≤ 16 := by rw [List.length_take]; omega
    by_cases hi : i < args.length
    · rw [if_pos (by simpa using hi), if_pos ⟨h0, hi⟩, drop_gdA h0 hi]
      have hg : gd (args ++ List.replicate (n - args.length) zV) i = gd args i := by
        rw [gd_mem h0 (by omega), gd_mem h0 hi, List.getElem_append_left (by omega)]
      simp only [bnd]
      rw [show r04_May ⟨(gd args i).Re, (gd args i).Im⟩ = r04_May (gd args i) from rfl]
      cases hb : r04_May (gd args i) with
      | false => simp [hb, none9]
      | true =>
        rw [if_neg (by simp), if_pos (by unfold LIM; simp only [List.length_cons, List.length_nil]; omega), w64_id (x := i + 1) (by omega)]
        rw [step, hg] at i2
        rw [List.all_cons, hb, Bool.true_and, ← i2]
    · rw [if_neg (by simpa using hi)]
      have hg : gd (args ++ List.replicate (n - args.length) zV) i = zV := by
        rw [gd_mem h0 (by omega), List.getElem_append_right (by omega), List.getElem_replicate]
      simp only [bnd]
      rw [show r04_May ⟨0, 0⟩ = true from by decide, if_neg (by simp), if_pos (by unfold LIM; simp only [List.length_cons, List.length_nil]; omega), w64_id (x := i + 1) (by omega)]
      rw [step, hg] at i2
      rw [List.drop_of_length_le (by omega)] at i2 ⊢
      exact i2
theorem new_ref (K : Nat) (hK : 1000 ≤ K) (p : List GFunc) (hp : ∀ f ∈ p, f.Code.length ≤ 9223372036854775807 ∧ f.Code.length < K) (hn : p.length ≤ 20) (fn s : Int) (args : List GValue) (ha : args.length ≤ 40) :
    ∃ q, frame_New K p fn args s = some q ∧ r09_New K p fn args s = some q ∧ q.1.Stack.length ≤ 100 ∧ q.1.Locals.length ≤ 100 ∧ q.1.Slots.length ≤ 100 := by
  have no : none9.1.Stack.length ≤ 100 ∧ none9.1.Locals.length ≤ 100 ∧ none9.1.Slots.length ≤ 100 := by simp [none9]
  unfold frame_New r09_New
  rw [code_may K p hp hn hK, code_may_ref K p hp hn hK]
  simp only [Option.bind_some, bnd]
  cases hm : mayB p with
  | false => exact ⟨none9, by simp [none9], by simp [none9], no⟩
  | true =>
    by_cases f0 : fn < 0
    · exact ⟨none9, by simp [f0, none9], by simp [f0, none9], no⟩
    by_cases f1 : fn ≥ (p.length : Int)
    · exact ⟨none9, by simp [f0, f1, none9], by simp [f0, f1, none9], no⟩
    have hs5 : r05_Is s = !(if decide (s < 0) then true else decide (s > 4294967295)) := by
      unfold r05_Is
      simp only [bnd]
      by_cases z : s < 0
      · have : ¬ s ≥ 0 := by omega
        simp [z, this]
      · have : s ≥ 0 := by omega
        simp [z, this]; rw [Bool.eq_iff_iff]; simp; omega
    rw [hs5]
    by_cases s0 : s < 0
    · exact ⟨none9, by simp [f0, f1, s0, none9], by simp [f0, f1, s0, none9], no⟩
    by_cases s1 : s > 4294967295
    · exact ⟨none9, by simp [f0, f1, s0, s1, none9], by simp [f0, f1, s0, s1, none9], no⟩
    have g : 0 ≤ fn ∧ fn < (p.length : Int) := by omega
    have hok : okF (gd p fn) = true := by
      simp only [mayB, Bool.and_eq_true, List.all_eq_true] at hm
      exact hm.1 _ (gd_memL g.1 g.2)
    simp only [okF, headB, Bool.and_eq_true, decide_eq_true_eq] at hok
    obtain ⟨⟨a0, a1, l0, l1, t0, t1⟩, _, _⟩ := hok
    simp only [f0, f1, s0, s1, decide_false, Bool.not_true, Bool.not_false, Bool.false_eq_true, if_false, if_pos g]
    by_cases c1 : (gd p fn).Arity > (gd p fn).Locals
    · exact ⟨none9, by simp [c1, none9], by simp [c1, none9], no⟩
    by_cases c2 : (args.length : Int) = (gd p fn).Arity
    · have c2' : ((args.length : Int) != (gd p fn).Arity) = false := by simp [c2]
      simp only [c1, c2', decide_false, Bool.false_eq_true, if_false]
      rw [contains_value K hK args (by omega)]
      have r := new_l1 K hK p fn s args (gd p fn).Slots.toNat (gd p fn).Locals.toNat (by omega) (by omega) (by omega) (by omega) (by omega) (gd p fn).Locals.toNat K 0 (by omega) (by omega) (by omega) (by omega)
      rw [show ((0 : Int)).toNat = 0 from rfl, List.take_zero, List.drop_zero] at r
      rw [r]
      simp only [Option.bind_some]
      cases hb : args.all r04_May with
      | false => exact ⟨none9, by simp [none9], by simp, no⟩
      | true =>
        simp only [Bool.not_true, Bool.false_eq_true, if_false]
        rw [if_pos ⟨l0, by omega, by unfold LIM; omega, by omega⟩, if_pos ⟨t0, by omega, by unfold LIM; omega, by omega⟩]
        refine ⟨_, rfl, ?_, by simp, ?_, by simp; omega⟩
        · have hc : copied (List.replicate (gd p fn).Locals.toNat (⟨0, 0⟩ : GValue)) args = args ++ List.replicate ((gd p fn).Locals.toNat - args.length) zV := by
            unfold copied
            rw [List.take_of_length_le (by simp; omega), List.drop_replicate]
            rfl
          rw [hc]
          rfl
        · unfold copied
          simp
          omega
    · have c2' : ((args.length : Int) != (gd p fn).Arity) = true := by simpa using c2
      exact ⟨none9, by simp [c1, c2', none9], by simp [c1, c2', none9], no⟩
theorem fixedK (k : Nat) : law09_fixed (k + 1000) = some true := by kernel_rfl
theorem small_l1 (K : Nat) (p : List GFunc) (m : Int) (hp : p.length ≤ 20) : ∀ (d k : Nat) (n i : Int), 0 ≤ i → i ≤ p.length → (p.length : Int) - i = d → d < k → ∃ b, r07_Small_l1 K p m k (n, i) = some b := by
  intro d
  induction d with
  | zero =>
    intro k n i h0 h1 hd hk
    obtain ⟨k, rfl⟩ : ∃ m, k = m + 1 := ⟨k - 1, by omega⟩
    simp only [r07_Small_l1, bnd]
    rw [if_neg (by simp; omega)]
    exact ⟨_, rfl⟩
  | succ d ih =>
    intro k n i h0 h1 hd hk
    obtain ⟨k, rfl⟩ : ∃ m, k = m + 1 := ⟨k - 1, by omega⟩
    simp only [r07_Small_l1, bnd]
    rw [if_pos (by simp; omega), if_pos ⟨h0, by omega⟩, w64_id (x := i + 1) (by omega)]
    exact ih k _ (i + 1) (by omega) (by omega) (by omega) (by omega)
theorem smallp_spec (K : Nat) (hK : 30 ≤ K) (p : List GFunc) (m : Int) : ∃ b, r07_Small K p m = some b ∧ (b = true → p.length ≤ 20) := by
  unfold r07_Small
  by_cases h : p.length ≤ 20
  · obtain ⟨b, e⟩ := small_l1 K p m h p.length K 0 0 (by omega) (by omega) (by omega) (by omega)
    exact ⟨b, e, fun _ => h⟩
  · obtain ⟨k, rfl⟩ : ∃ m, K = m + 1 := ⟨K - 1, by omega⟩
    simp only [r07_Small_l1, bnd]
    rw [if_neg (by simp; omega)]
    refine ⟨_, rfl, ?_⟩
    intro h2
    rw [if_neg (by simp; omega)] at h2
    cases h2
theorem same_selfK (K : Nat) (hK : 1000 ≤ K) (f : GFrame) (h1 : f.Stack.length ≤ 900) (h2 : f.Locals.length ≤ 900) (h3 : f.Slots.length ≤ 900) : r09_Same K f f = some true := by
  unfold r09_Same r09_Values
  rw [if_neg (by simp), if_neg (by simp), if_neg (by simp), values_l1 K f.Stack (by omega) f.Stack.length K 0 (by omega) (by omega) (by omega) (by omega), values_l1 K f.Locals (by omega) f.Locals.length K 0 (by omega) (by omega) (by omega) (by omega)]
  simp
  exact same_l1 K f (by omega) f.Slots.length K 0 (by omega) (by omega) (by omega) (by omega)
theorem act_selfK (K : Nat) (hK : 1000 ≤ K) (a : GAct) (h : a.Args.length ≤ 900) : r09_SameAct K a a = some true := by
  unfold r09_SameAct r09_Values
  simp [bnd]
  rw [values_l1 K a.Args (by omega) a.Args.length K 0 (by omega) (by omega) (by omega) (by omega)]
theorem code_sum (p : List GFunc) : ∀ f ∈ p, f.Code.length ≤ (p.map fun f => f.Code.length).sum := by
  induction p with
  | nil => intro f h; cases h
  | cons g p ih =>
    intro f h
    rw [List.map_cons, List.sum_cons]
    rcases List.mem_cons.1 h with e | e
    · subst e; omega
    · have := ih f e; omega
theorem pure_FrameTells (x0 : List GFunc) (x1 : GFrame) (x2 : GTold) (fb : ∀ f ∈ x0, FuncOk f) : ∃ K, law09_FrameTells K x0 x1 x2 = some true := by
  refine ⟨(x0.map fun f => f.Code.length).sum + 1000, ?_⟩
  generalize hk : (x0.map fun f => f.Code.length).sum = k0
  have hp : ∀ f ∈ x0, f.Code.length ≤ 9223372036854775807 ∧ f.Code.length < k0 + 1000 := fun f hf => ⟨(fb f hf).code, by have := code_sum x0 f hf; omega⟩
  unfold law09_FrameTells
  obtain ⟨b, hb, hb2⟩ := smallp_spec (k0 + 1000) (by omega) x0 300
  rw [hb, fixedK]
  simp only [Option.bind_some, bnd]
  cases b with
  | false => simp
  | true =>
    have hn := hb2 rfl
    cases hs : r09_Small x1 with
    | false => simp
    | true =>
      obtain ⟨h1, h2, h3⟩ := small_of1000 hs
      by_cases ha : (x2.Args.length : Int) > 40
      · simp [ha]
      · simp only [ha, decide_false, Bool.not_true, Bool.false_eq_true, if_false]
        obtain ⟨g, a, e1, e2, l1, l2, l3, l4⟩ := do_ref k0 x0 fb x1 h1 h2 h3
        obtain ⟨g2, b2, e3, e4, m1, m2, m3⟩ := give_ref x1 x2.Slot x2.Out h1 h2 h3
        obtain ⟨q, e5, e6⟩ := final_ref (k0 + 1000) (by omega) x1 h3
        obtain ⟨n, e7, e8, n1, n2, n3⟩ := new_ref (k0 + 1000) (by omega) x0 hp hn x2.Fn x2.Seed x2.Args (by omega)
        obtain ⟨c, e9, e10⟩ := same_eq (k0 + 1000) (by omega) x1 g (by omega) (by omega) (by omega)
        obtain ⟨c2, e11, e12⟩ := same_eq (k0 + 1000) (by omega) x1 x1 (by omega) (by omega) (by omega)
        have s0 := same_selfK (k0 + 1000) (by omega) x1 (by omega) (by omega) (by omega)
        rw [s0] at e12
        obtain rfl := Option.some.inj e12
        rw [e1, e2, e3, e4, e5, e6, e7, e8]
        simp only [Option.bind_some]
        rw [same_selfK (k0 + 1000) (by omega) g (by omega) (by omega) (by omega), act_selfK (k0 + 1000) (by omega) a (by omega), same_selfK (k0 + 1000) (by omega) g2 (by omega) (by omega) (by omega), same_selfK (k0 + 1000) (by omega) n.1 (by omega) (by omega) (by omega), e9, e10, e11]
        simp

end Go.Proofs.YtcoepljalekglaaGreat.FrameTells.W
