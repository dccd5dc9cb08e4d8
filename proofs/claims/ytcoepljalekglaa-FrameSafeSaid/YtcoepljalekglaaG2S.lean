/- Lemmas for the walk: part S. -/
import Derived.Test.YtcoepljalekglaaG2R
set_option linter.unusedSimpArgs false
set_option linter.unusedVariables false
set_option linter.all false
/-! Whole numbers as floats: exact. -/
namespace Go.Proofs.Ytcoepljalekglaa.G2
open Go.RowKit Ieee

/-- A datum that is a whole number. -/
def IsInt (d : Datum) (n : Int) : Prop := ∃ (s : Bool) (m k : Nat), d = .number s m (-(k : Int)) ∧ (if s then -(m : Int) else (m : Int)) = n * 2 ^ k
theorem signed_eq (s : Bool) (m u : Nat) : signed s m u = (if s then -(m : Int) else (m : Int)) * 2 ^ u := by
  unfold signed
  rw [Nat.shiftLeft_eq]
  cases s
  · simp
  · simp [Int.neg_mul]
theorem pow_split (n : Int) {k M : Nat} (h : k ≤ M) : n * 2 ^ k * 2 ^ (M - k) = n * 2 ^ M := by
  rw [Int.mul_assoc, ← Int.pow_add]; congr 2; omega
theorem sign_abs (t : Int) : (if decide (t < 0) then -(t.natAbs : Int) else (t.natAbs : Int)) = t := by
  by_cases h : t < 0
  · simp [h]; omega
  · simp [h]; omega
theorem IsInt.sum {d e : Datum} {m n : Int} (hd : IsInt d m) (he : IsInt e n) : ∃ r, d.sum e = some r ∧ IsInt r (m + n) := by
  obtain ⟨s, a, k, rfl, h1⟩ := hd
  obtain ⟨t, b, l, rfl, h2⟩ := he
  refine ⟨_, rfl, ?_⟩
  have hb : min (-(k : Int)) (-(l : Int)) = -((max k l : Nat) : Int) := by omega
  have e1 : (-(k : Int) - min (-(k : Int)) (-(l : Int))).toNat = max k l - k := by omega
  have e2 : (-(l : Int) - min (-(k : Int)) (-(l : Int))).toNat = max k l - l := by omega
  rw [e1, e2, signed_eq, signed_eq, h1, h2, pow_split m (Nat.le_max_left k l), pow_split n (Nat.le_max_right k l), hb, ← Int.add_mul]
  refine ⟨_, _, _, rfl, ?_⟩
  generalize (m + n) * 2 ^ max k l = T
  by_cases h0 : T = 0
  · subst h0; simp
  · rw [if_neg h0]; exact sign_abs T
theorem IsInt.neg {d : Datum} {m : Int} (hd : IsInt d m) : IsInt d.opposite (-m) := by
  obtain ⟨s, a, k, rfl, h1⟩ := hd
  refine ⟨!s, a, k, rfl, ?_⟩
  rw [Int.neg_mul, ← h1]
  cases s <;> simp
theorem IsInt.product {d e : Datum} {m n : Int} (hd : IsInt d m) (he : IsInt e n) : ∃ r, d.product e = some r ∧ IsInt r (m * n) := by
  obtain ⟨s, a, k, rfl, h1⟩ := hd
  obtain ⟨t, b, l, rfl, h2⟩ := he
  refine ⟨_, rfl, s ^^ t, a * b, k + l, ?_, ?_⟩
  · congr 1; omega
  · have : m * n * 2 ^ (k + l) = (m * 2 ^ k) * (n * 2 ^ l) := by rw [Int.pow_add]; simp only [Int.mul_assoc, Int.mul_comm, Int.mul_left_comm]
    rw [this, ← h1, ← h2]
    cases s <;> cases t <;> simp [Int.neg_mul, Int.mul_neg]
theorem log2_eq {n L : Nat} (h1 : 2 ^ L ≤ n) (h2 : n < 2 ^ (L + 1)) : n.log2 = L := by
  have hn : n ≠ 0 := by have := Nat.two_pow_pos L; omega
  have a := (Nat.log2_lt hn).2 h2
  have b : ¬ n.log2 < L := fun h => by have := (Nat.log2_lt hn).1 h; omega
  omega
theorem log2_shift {n : Nat} (hn : n ≠ 0) (k : Nat) : (n * 2 ^ k).log2 = n.log2 + k := by
  refine log2_eq ?_ ?_
  · rw [Nat.pow_add]; exact Nat.mul_le_mul_right _ (Nat.log2_self_le hn)
  · rw [show n.log2 + k + 1 = (n.log2 + 1) + k by omega, Nat.pow_add]; exact Nat.mul_lt_mul_of_pos_right Nat.lt_log2_self (Nat.two_pow_pos k)
/-- The rung of a whole number. -/
def rungOf (n : Nat) : Nat := (n.log2 + 1022) * 4503599627370496 + n * 2 ^ (52 - n.log2)
theorem cut_exact (s : Bool) (q r : Nat) (way : Toward) (hq : q ≠ 0) : way.cut s (q * 2 ^ r) r = q := by
  unfold Toward.cut
  have hg : min r ((q * 2 ^ r).log2 + 2) = r := by rw [log2_shift hq]; omega
  have h2 : (0 : Nat) < 2 ^ r := Nat.two_pow_pos r
  simp only [hg, Nat.shiftLeft_eq, Nat.one_mul]
  rw [Nat.mul_div_cancel _ h2, Nat.mul_mod_left]
  have : (2 ^ r == 0) = false := by simp
  cases way <;> simp [this]
theorem sig_bounds {n : Nat} (hn : n ≠ 0) (h : n < 2 ^ 53) : 4503599627370496 ≤ n * 2 ^ (52 - n.log2) ∧ n * 2 ^ (52 - n.log2) < 9007199254740992 := by
  have hL : n.log2 < 53 := (Nat.log2_lt hn).2 h
  constructor
  · have := Nat.mul_le_mul_right (2 ^ (52 - n.log2)) (Nat.log2_self_le hn)
    rw [← Nat.pow_add, show n.log2 + (52 - n.log2) = 52 by omega] at this
    exact this
  · have := Nat.mul_lt_mul_of_pos_right (Nat.lt_log2_self (n := n)) (Nat.two_pow_pos (52 - n.log2))
    rw [← Nat.pow_add, show n.log2 + 1 + (52 - n.log2) = 53 by omega] at this
    exact this
theorem nearest_nat (s : Bool) {n : Nat} (hn : n ≠ 0) (h : n < 2 ^ 53) (k : Nat) : double.nearest s (n * 2 ^ k) (-(k : Int)) = double.word s (rungOf n) := by
  have hL : n.log2 < 53 := (Nat.log2_lt hn).2 h
  have elp : double.leastPlace = -1074 := by decide
  have efb : double.fractionBits = 52 := rfl
  have ebi : double.binade = 4503599627370496 := rfl
  have einf : double.infRung = 9218868437227405312 := rfl
  have hne : n * 2 ^ k ≠ 0 := Nat.mul_ne_zero hn (by have := Nat.two_pow_pos k; omega)
  unfold Format.nearest
  rw [if_neg hne, log2_shift hn]
  have elast : max (-(k : Int) + ((n.log2 + k : Nat) : Int) - (double.fractionBits : Nat)) double.leastPlace = (n.log2 : Int) - 52 := by
    rw [elp, efb]; omega
  simp only [elast]
  rw [elp, ebi, einf]
  have hX := sig_bounds hn h
  have hk : Toward.even.cut s ((n * 2 ^ k) <<< (-(k : Int) - ((n.log2 : Int) - 52)).toNat) ((n.log2 : Int) - 52 - -(k : Int)).toNat = n * 2 ^ (52 - n.log2) := by
    by_cases hc : n.log2 + k ≤ 52
    · rw [show (-(k : Int) - ((n.log2 : Int) - 52)).toNat = 52 - n.log2 - k by omega, show ((n.log2 : Int) - 52 - -(k : Int)).toNat = 0 by omega, Nat.shiftLeft_eq, Nat.mul_assoc, ← Nat.pow_add, show k + (52 - n.log2 - k) = 52 - n.log2 by omega]
      have := cut_exact s (n * 2 ^ (52 - n.log2)) 0 .even (by omega)
      rw [Nat.pow_zero, Nat.mul_one] at this
      exact this
    · rw [show (-(k : Int) - ((n.log2 : Int) - 52)).toNat = 0 by omega, show ((n.log2 : Int) - 52 - -(k : Int)).toNat = n.log2 + k - 52 by omega, Nat.shiftLeft_zero, show n * 2 ^ k = n * 2 ^ (52 - n.log2) * 2 ^ (n.log2 + k - 52) by rw [Nat.mul_assoc, ← Nat.pow_add, show 52 - n.log2 + (n.log2 + k - 52) = k by omega]]
      exact cut_exact s _ _ .even (by omega)
  rw [hk]
  unfold rungOf
  generalize n * 2 ^ (52 - n.log2) = X at hX
  clear ebi einf elp efb elast hk hne h hn
  generalize n.log2 = L at hL ⊢
  rw [show ((L : Int) - 52 - -1074).toNat = L + 1022 by omega, Nat.min_eq_left (by omega)]
theorem read_rung (s : Bool) {n : Nat} (hn : n ≠ 0) (h : n < 2 ^ 53) : double.read (double.word s (rungOf n)) = .number s (n * 2 ^ (52 - n.log2)) (-((52 - n.log2 : Nat) : Int)) := by
  have hL : n.log2 < 53 := (Nat.log2_lt hn).2 h
  have elp : double.leastPlace = -1074 := by decide
  have ebi : double.binade = 4503599627370496 := rfl
  have esw : double.signWeight = 9223372036854775808 := rfl
  have einf : double.infRung = 9218868437227405312 := rfl
  have hX := sig_bounds hn h
  unfold Format.read Format.word rungOf
  rw [elp, ebi, esw, einf]
  generalize n * 2 ^ (52 - n.log2) = X at hX
  clear elp ebi esw einf h hn
  generalize n.log2 = L at hL ⊢
  have e1 : (if s = true then 9223372036854775808 + ((L + 1022) * 4503599627370496 + X) else (L + 1022) * 4503599627370496 + X) / 9223372036854775808 % 2 = if s then 1 else 0 := by
    cases s <;> simp only [Bool.false_eq_true, if_false, if_true] <;> omega
  have e2 : (if s = true then 9223372036854775808 + ((L + 1022) * 4503599627370496 + X) else (L + 1022) * 4503599627370496 + X) % 9223372036854775808 = (L + 1022) * 4503599627370496 + X := by
    cases s <;> simp only [Bool.false_eq_true, if_false, if_true] <;> omega
  simp only [e1, e2]
  rw [if_neg (by omega), if_pos (by omega)]
  congr 1
  · cases s <;> rfl
  · omega
  · omega
/-- Bits that are a whole number. -/
def Is (b : Nat) (n : Int) : Prop := IsInt (double.read b) n
theorem IsInt.write {d : Datum} {n : Int} (h : IsInt d n) (hn : n.natAbs < 2 ^ 53) : Is (double.write d) n := by
  obtain ⟨s, m, k, rfl, h1⟩ := h
  have hm : m = n.natAbs * 2 ^ k := by
    have : ((if s then -(m : Int) else (m : Int))).natAbs = (n * 2 ^ k).natAbs := by rw [h1]
    rw [Int.natAbs_mul, Int.natAbs_pow] at this
    cases s <;> simpa using this
  show IsInt (double.read (double.nearest s m (-(k : Int)))) n
  by_cases h0 : n = 0
  · subst h0
    have : m = 0 := by simpa using hm
    subst this
    have hz : double.nearest s 0 (-(k : Int)) = double.word s 0 := if_pos rfl
    rw [hz]
    refine ⟨s, 0, 1074, ?_, by cases s <;> exact (Int.zero_mul _).symm⟩
    cases s <;> rfl
  · have hN : n.natAbs ≠ 0 := by omega
    rw [hm, nearest_nat s hN hn k, read_rung s hN hn]
    refine ⟨_, _, _, rfl, ?_⟩
    have hs : (if s then -(n.natAbs : Int) else (n.natAbs : Int)) = n := by
      have hp : (0 : Int) < 2 ^ k := Int.pow_pos (by decide)
      rw [hm] at h1
      push_cast at h1
      cases s
      · simp only [Bool.false_eq_true, if_false] at h1 ⊢
        exact Int.eq_of_mul_eq_mul_right (by omega) h1
      · simp only [if_true] at h1 ⊢
        rw [← Int.neg_mul] at h1
        exact Int.eq_of_mul_eq_mul_right (by omega) h1
    push_cast
    cases s
    · simp only [Bool.false_eq_true, if_false] at hs ⊢
      rw [hs]
    · simp only [if_true] at hs ⊢
      rw [← Int.neg_mul, hs]
theorem Is.add {x y : Nat} {a b : Int} (hx : Is x a) (hy : Is y b) (h : (a + b).natAbs < 2 ^ 53) : ∃ r, floatBits .add .f64 x y = some r ∧ Is r (a + b) := by
  obtain ⟨d, h1, h2⟩ := IsInt.sum hx hy
  refine ⟨double.write d, ?_, h2.write h⟩
  show ((double.read x).sum (double.read y)).map double.write = _
  rw [h1]; rfl
theorem Is.sub {x y : Nat} {a b : Int} (hx : Is x a) (hy : Is y b) (h : (a - b).natAbs < 2 ^ 53) : ∃ r, floatBits .sub .f64 x y = some r ∧ Is r (a - b) := by
  rw [Int.sub_eq_add_neg] at h ⊢
  obtain ⟨d, h1, h2⟩ := IsInt.sum hx (IsInt.neg hy)
  refine ⟨double.write d, ?_, h2.write h⟩
  show ((double.read x).sum (double.read y).opposite).map double.write = _
  rw [h1]; rfl
theorem Is.mul {x y : Nat} {a b : Int} (hx : Is x a) (hy : Is y b) (h : (a * b).natAbs < 2 ^ 53) : ∃ r, floatBits .mul .f64 x y = some r ∧ Is r (a * b) := by
  obtain ⟨d, h1, h2⟩ := IsInt.product hx hy
  refine ⟨double.write d, ?_, h2.write h⟩
  show ((double.read x).product (double.read y)).map double.write = _
  rw [h1]; rfl
theorem is_fOf {n : Int} (h : n.natAbs < 2 ^ 53) : Is (fOf n) n := by
  show Is (double.write (.number (n < 0) n.natAbs 0)) n
  refine IsInt.write ⟨decide (n < 0), n.natAbs, 0, rfl, ?_⟩ h
  rw [sign_abs]; simp
theorem Is.neg {x : Nat} {a : Int} (hx : Is x a) : Is (fNeg x) (-a) := by
  have : double.read (fNeg x) = (double.read x).opposite := by
    show double.read (x ^^^ 2 ^ 63) = _
    have esw : double.signWeight = 2 ^ 63 := rfl
    have e1 : (x ^^^ 2 ^ 63) % 2 ^ 63 = x % 2 ^ 63 := by rw [Nat.xor_mod_two_pow, Nat.mod_self, Nat.xor_zero]
    have e2 : ((x ^^^ 2 ^ 63) / 2 ^ 63 % 2 == 1) = !(x / 2 ^ 63 % 2 == 1) := by
      rw [Nat.xor_div_two_pow, Nat.div_self (by decide)]
      have := @Nat.xor_mod_two_eq_one (x / 2 ^ 63) 1
      rcases Nat.mod_two_eq_zero_or_one (x / 2 ^ 63) with h | h
      · have h2 : ((x / 2 ^ 63) ^^^ 1) % 2 = 1 := by rw [this, h]; decide
        rw [h, h2]; rfl
      · have h2 : ¬ ((x / 2 ^ 63) ^^^ 1) % 2 = 1 := by rw [this, h]; decide
        have h3 : ((x / 2 ^ 63) ^^^ 1) % 2 = 0 := by omega
        rw [h, h3]; rfl
    unfold Format.read
    rw [esw]
    simp only [e1, e2]
    split
    · rfl
    · split
      · rfl
      · split <;> rfl
  unfold Is
  rw [this]
  exact IsInt.neg hx
theorem Is.toInt {x : Nat} {a : Int} (hx : Is x a) (h : -9223372036854775808 ≤ a ∧ a ≤ 9223372036854775807) : floatToIntVal .f64 x .i64 = some a := by
  obtain ⟨s, m, k, hr, h1⟩ := hx
  have hm : m = a.natAbs * 2 ^ k := by
    have : ((if s then -(m : Int) else (m : Int))).natAbs = (a * 2 ^ k).natAbs := by rw [h1]
    rw [Int.natAbs_mul, Int.natAbs_pow] at this
    cases s <;> simpa using this
  have ht : (double.read x).toInt .zero = some a := by
    rw [hr]
    unfold Datum.toInt Datum.integral
    simp only
    rw [show (- -(k : Int)).toNat = k by omega, show (-(k : Int)).toNat = 0 by omega, Nat.shiftLeft_zero]
    have hc : Toward.zero.cut s m k = a.natAbs := by
      by_cases h0 : a = 0
      · subst h0
        have : m = 0 := by simpa using hm
        subst this
        unfold Toward.cut
        simp
      · rw [hm]; exact cut_exact s _ k .zero (by omega)
    rw [hc, signed_eq]
    have hp : (0 : Int) < 2 ^ k := Int.pow_pos (by decide)
    rw [hm] at h1
    push_cast at h1
    congr 1
    cases s
    · simp only [Bool.false_eq_true, if_false] at h1 ⊢
      have := Int.eq_of_mul_eq_mul_right (by omega) h1
      rw [this]; simp
    · simp only [if_true] at h1 ⊢
      rw [← Int.neg_mul] at h1
      have := Int.eq_of_mul_eq_mul_right (by omega) h1
      rw [this]; simp
  unfold floatToIntVal
  rw [show FloatKind.f64.decode x = double.read x from rfl, ht]
  exact if_pos h
theorem IsInt.eqs {d e : Datum} {a b : Int} (hd : IsInt d a) (he : IsInt e b) : (d.order e == some .eq) = (a == b) := by
  obtain ⟨s, m, k, rfl, h1⟩ := hd
  obtain ⟨t, n, l, rfl, h2⟩ := he
  unfold Datum.order
  have hb : min (-(k : Int)) (-(l : Int)) = -((max k l : Nat) : Int) := by omega
  have e1 : (-(k : Int) - min (-(k : Int)) (-(l : Int))).toNat = max k l - k := by omega
  have e2 : (-(l : Int) - min (-(k : Int)) (-(l : Int))).toNat = max k l - l := by omega
  simp only
  rw [e1, e2, signed_eq, signed_eq, h1, h2, pow_split a (Nat.le_max_left k l), pow_split b (Nat.le_max_right k l)]
  have hp : (0 : Int) < 2 ^ max k l := Int.pow_pos (by decide)
  by_cases h : a = b
  · subst h
    simp
  · have hne : a * 2 ^ max k l ≠ b * 2 ^ max k l := fun e => h (Int.eq_of_mul_eq_mul_right (by omega) e)
    have : compare (a * 2 ^ max k l) (b * 2 ^ max k l) ≠ .eq := fun e => hne (Std.LawfulEqOrd.eq_of_compare e)
    have h' : (a == b) = false := by simpa using h
    rw [h']
    simpa using this
/-- Parts of a complex number. -/
def CIs (u : Nat × Nat) (a b : Int) : Prop := Is u.1 a ∧ Is u.2 b
theorem CIs.add {u v : Nat × Nat} {a b c d : Int} (hu : CIs u a b) (hv : CIs v c d) (h1 : (a + c).natAbs < 2 ^ 53) (h2 : (b + d).natAbs < 2 ^ 53) : ∃ r, cAdd u v = some r ∧ CIs r (a + c) (b + d) := by
  obtain ⟨x, e1, i1⟩ := hu.1.add hv.1 h1
  obtain ⟨y, e2, i2⟩ := hu.2.add hv.2 h2
  refine ⟨(x, y), ?_, i1, i2⟩
  unfold cAdd cSumBits
  rw [e1, e2]; rfl
theorem CIs.sub {u v : Nat × Nat} {a b c d : Int} (hu : CIs u a b) (hv : CIs v c d) (h1 : (a - c).natAbs < 2 ^ 53) (h2 : (b - d).natAbs < 2 ^ 53) : ∃ r, cSub u v = some r ∧ CIs r (a - c) (b - d) := by
  obtain ⟨x, e1, i1⟩ := hu.1.sub hv.1 h1
  obtain ⟨y, e2, i2⟩ := hu.2.sub hv.2 h2
  refine ⟨(x, y), ?_, i1, i2⟩
  unfold cSub cSumBits
  rw [e1, e2]; rfl
theorem CIs.mul {u v : Nat × Nat} {a b c d : Int} (hu : CIs u a b) (hv : CIs v c d) (h1 : (a * c).natAbs < 2 ^ 53) (h2 : (b * d).natAbs < 2 ^ 53) (h3 : (a * c - b * d).natAbs < 2 ^ 53) (h4 : (a * d).natAbs < 2 ^ 53) (h5 : (b * c).natAbs < 2 ^ 53) (h6 : (a * d + b * c).natAbs < 2 ^ 53) : ∃ r, cMul u v = some r ∧ CIs r (a * c - b * d) (a * d + b * c) := by
  obtain ⟨ac, e1, i1⟩ := hu.1.mul hv.1 h1
  obtain ⟨bd, e2, i2⟩ := hu.2.mul hv.2 h2
  obtain ⟨x, e3, i3⟩ := i1.sub i2 h3
  obtain ⟨ad, e4, i4⟩ := hu.1.mul hv.2 h4
  obtain ⟨bc, e5, i5⟩ := hu.2.mul hv.1 h5
  obtain ⟨y, e6, i6⟩ := i4.add i5 h6
  refine ⟨(x, y), ?_, i3, i6⟩
  unfold cMul cMulBits
  rw [e1]; simp only [Option.bind_some]
  rw [e2]; simp only [Option.bind_some]
  rw [e3]; simp only [Option.bind_some]
  rw [e4]; simp only [Option.bind_some]
  rw [e5]; simp only [Option.bind_some]
  rw [e6]; rfl
theorem CIs.eqs {u v : Nat × Nat} {a b c d : Int} (hu : CIs u a b) (hv : CIs v c d) : cEq u v = ((a == c) && (b == d)) := by
  unfold cEq
  rw [← IsInt.eqs hu.1 hv.1, ← IsInt.eqs hu.2 hv.2]
  rfl
end Go.Proofs.Ytcoepljalekglaa.G2
