/- Lemmas for the walk: part P. -/
import Derived.Test.YtcoepljalekglaaG2O
import Derived.Laws.BytesString
import Derived.Laws.Concat
import Derived.Laws.ComplexArith
set_option linter.unusedSimpArgs false
set_option linter.unusedVariables false
set_option linter.all false
/-! Strings that are laid together, bytes as strings, complex numbers. -/
namespace Go.Proofs.Ytcoepljalekglaa.G2
open Go.RowKit

section
variable {P : Program} {ρ : Env} {w0 w w' : World} {h h' h1 : Gh} {L : List Ent} {o : Oper}
variable {α : Type} {K : Rep α} {B : Nat} {a a2 : Option Addr} {c c2 : Nat} {xs ys : List α}
variable {Kk : Value → World → Prop} {d : Option Tmp} {t e src : TypeId} {x y : Operand} {ty : TypeId} {pos : String} {af : Array Edge} {g : Option (Nat × Bool)}

theorem Tells.concat {u v : ByteArray} {yt : TypeId} (hx : ev ρ x = .string u) (hy : ev ρ y = .string v) (hn : u.size + v.size ≤ 9223372036854775807) (hg : still P (eqGuard .add t x y (ev ρ x) (ev ρ y)) = some ()) : Tells P ρ ⟨d, .binOp .add t x y yt, ty, pos, af, g⟩ w (.string (u ++ v)) := by
  show Sem.run P (do let v ← (do eqGuard .add t x y (ev ρ x) (ev ρ y); binOp .add t (ev ρ x) (ev ρ y)); Pure.pure (Next.value v)) w = _
  have hr : (binOp .add t (.string u) (.string v)).run P w = .ok (.string (u ++ v)) w := run_string_add_sum w u v hn
  have h1 : Sem.run P (do eqGuard .add t x y (ev ρ x) (ev ρ y); binOp .add t (ev ρ x) (ev ρ y)) w = .ok (.string (u ++ v)) w := by
    rw [run_bind_ok (still_run _ hg w), hx, hy]; exact hr
  rw [run_bind_ok h1]
  rfl

def strOf (ns : List Int) : ByteArray := ns.foldl (fun r n => r.push (UInt8.ofNat n.toNat)) ByteArray.empty
theorem rows_bytes {D : List Value} {ns : List Int} (hl : D.length = ns.length * 1) (r : Rows (Rep.int .u8) h D.toArray 0 ns) : D = ns.map (Value.int .u8) := by
  apply List.ext_getElem
  · simpa using hl
  · intro i h1 h2
    have hi : i < ns.length := by simpa using h2
    have := r i hi
    have e : cut D.toArray (0 + i * 1) 1 = [.int .u8 ns[i]] := this
    simp only [cut, Nat.zero_add, Nat.mul_one] at e
    rw [List.drop_eq_getElem_cons h1] at e
    simp only [List.take_succ_cons, List.take_zero, List.cons.injEq, and_true] at e
    rw [List.getElem_map, e]
/-- Bytes of a row as a string. -/
theorem Tells.bytesStr {ns : List Int} (H : St w0 h w L) (i : Nat) (hi : L[i]? = some (row (Rep.int .u8) B h1 a c ns)) (hx : ev ρ x = .slice a ns.length c) (hs : P.underlying src = some (.slice e)) (he : P.underlying e = some (.int .u8)) (hd : P.underlying t = some .string) :
    Tells P ρ ⟨d, .convert src t x, ty, pos, af, g⟩ w (.string (strOf ns)) := by
  obtain ⟨D, hDl, hDr, hDs⟩ := (show Src (Rep.int .u8) h1 w a ns by
    rcases H.get i hi with ⟨_, rfl, _⟩ | ⟨g, o, C, e, e1, hb, e2, e3, e4, e5, r⟩
    · exact .inl rfl
    · exact .inr ⟨g, o, C, e, _, e1, hb, r⟩).cells
  have hD := rows_bytes hDl hDs
  show Sem.run P (do let v ← convert src t (ev ρ x); Pure.pure (Next.value v)) w = _
  have hr : (convert src t (.slice a ns.length c)).run P w = .ok (.string (strOf ns)) w := by
    rw [run_convert_bytes_string w src t e a ns.length c hs he hd]
    cases a with
    | none =>
      rcases H.get i hi with ⟨_, rfl, _⟩ | ⟨g, o, C, e, e1, _⟩
      · rfl
      · cases e1
    | some ad =>
      refine run_bytesToString w ad ns.length c ns ?_
      have := hDr P ns.length c w rfl
      rw [hD] at this
      simpa [Builtin.firstCells, Rep.int] using this
  rw [hx, run_bind_ok hr]
  rfl

/-! ### Complex numbers -/
theorem Tells.toInt {b : Nat} {n : Int} (hx : ev ρ x = .float .f64 b) (hs : (P.underlying src).isSome = true) (hd : P.underlying t = some (.int .i64)) (hv : floatToIntVal .f64 b .i64 = some n) : Tells P ρ ⟨d, .convert src t x, ty, pos, af, g⟩ w (.int .i64 n) := by
  show Sem.run P (do let v ← convert src t (ev ρ x); Pure.pure (Next.value v)) w = _
  rw [hx, run_bind_ok (run_convert_float_int w src t .f64 .i64 b n hs hd hv)]
  rfl
theorem tells_bin {op : BinOp} {yt : TypeId} {v : Value} (hg : still P (eqGuard op t x y (ev ρ x) (ev ρ y)) = some ()) (hr : (binOp op t (ev ρ x) (ev ρ y)).run P w = .ok v w) : Tells P ρ ⟨d, .binOp op t x y yt, ty, pos, af, g⟩ w v := by
  show Sem.run P (do let v ← (do eqGuard op t x y (ev ρ x) (ev ρ y); binOp op t (ev ρ x) (ev ρ y)); Pure.pure (Next.value v)) w = _
  have h1 : Sem.run P (do eqGuard op t x y (ev ρ x) (ev ρ y); binOp op t (ev ρ x) (ev ρ y)) w = .ok v w := by rw [run_bind_ok (still_run _ hg w)]; exact hr
  rw [run_bind_ok h1]
  rfl
def cAdd (u v : Nat × Nat) : Option (Nat × Nat) := cSumBits .add .f64 u.1 u.2 v.1 v.2
def cSub (u v : Nat × Nat) : Option (Nat × Nat) := cSumBits .sub .f64 u.1 u.2 v.1 v.2
def cMul (u v : Nat × Nat) : Option (Nat × Nat) := cMulBits u.1 u.2 v.1 v.2
def cEq (u v : Nat × Nat) : Bool := (FloatKind.f64.format.order u.1 v.1 == some .eq) && (FloatKind.f64.format.order u.2 v.2 == some .eq)
def fOf (n : Int) : Nat := FloatKind.f64.nearest n
def fNeg (b : Nat) : Nat := Op.negFloat .f64 b
theorem Tells.cAdd {yt : TypeId} {u v r : Nat × Nat} (hx : ev ρ x = .complex .f64 u.1 u.2) (hy : ev ρ y = .complex .f64 v.1 v.2) (hr : cAdd u v = some r) (hg : still P (eqGuard .add t x y (ev ρ x) (ev ρ y)) = some ()) : Tells P ρ ⟨d, .binOp .add t x y yt, ty, pos, af, g⟩ w (.complex .f64 r.1 r.2) :=
  tells_bin hg (by rw [hx, hy]; exact run_complex_sum w .add (.inl rfl) t .f64 _ _ _ _ _ _ hr)
theorem Tells.cSub {yt : TypeId} {u v r : Nat × Nat} (hx : ev ρ x = .complex .f64 u.1 u.2) (hy : ev ρ y = .complex .f64 v.1 v.2) (hr : cSub u v = some r) (hg : still P (eqGuard .sub t x y (ev ρ x) (ev ρ y)) = some ()) : Tells P ρ ⟨d, .binOp .sub t x y yt, ty, pos, af, g⟩ w (.complex .f64 r.1 r.2) :=
  tells_bin hg (by rw [hx, hy]; exact run_complex_sum w .sub (.inr rfl) t .f64 _ _ _ _ _ _ hr)
theorem Tells.cMul {yt : TypeId} {u v r : Nat × Nat} (hx : ev ρ x = .complex .f64 u.1 u.2) (hy : ev ρ y = .complex .f64 v.1 v.2) (hr : cMul u v = some r) (hg : still P (eqGuard .mul t x y (ev ρ x) (ev ρ y)) = some ()) : Tells P ρ ⟨d, .binOp .mul t x y yt, ty, pos, af, g⟩ w (.complex .f64 r.1 r.2) :=
  tells_bin hg (by rw [hx, hy]; exact run_complex_mul w t _ _ _ _ _ _ hr)
/-- An element of an array, by a number that is known. -/
theorem Tells.indexLit {z i : Int} {v : Value} (hy : ev ρ y = .int .i64 z) (hz : z = i) (hv : still P (Instr.index t (ev ρ x) (.int .i64 i)) = some v) : Tells P ρ ⟨d, .index t x y, ty, pos, af, g⟩ w v := by
  subst hz
  show Sem.run P (do let v ← Instr.index t (ev ρ x) (ev ρ y); Pure.pure (Next.value v)) w = _
  rw [hy, run_bind_ok (still_run _ hv w)]
  rfl
theorem beq_int {x y : Int} (h : (x == y) = true) : x = y := by simpa using h
theorem Sl.none {xs : List α} (s : Sl K B h none c xs) : xs = [] := by
  obtain ⟨_, _, _, h4⟩ := s
  rcases h4 with h | ⟨b, o, C, t, fr, e, _⟩
  · exact h
  · cases e

/-- A store into a variable of one's own: what it holds then, spelt. -/
theorem Does.storeE (H : St w0 h w L) (i : Nat) {b q : Nat} {cs : List Value} (cs' : List Value) {e : TypeId} (hi : L[i]? = some (var b cs e)) (hx : ev ρ x = .pointer (some ⟨b, q, none⟩)) (hok : storeOk P t (ev ρ y) cs q = true) (hcs : splice cs q (ev ρ y).cells.toList = cs')
    (k : ∀ w', St w0 h w' (L.set i (var b cs' e)) → Kk undef w') : Does P ρ ⟨d, .store t x y, ty, pos, af, g⟩ w Kk :=
  Does.store H i hi hx hok fun w' H' => k w' (by rw [← hcs]; exact H')
/-- What a variable holds, in another spelling. -/
theorem St.recell (H : St w0 h w L) (i : Nat) {b : Nat} {cs : List Value} (cs' : List Value) {e : TypeId} (hi : L[i]? = some (var b cs e)) (hcs : cs' = cs) : St w0 h w (L.set i (var b cs' e)) := by
  subst hcs
  exact H.retell i hi (fun _ hk => hk) (H.get i hi)
theorem sl_len {a : Option Addr} {c m n : Nat} (h : m = n) : Value.slice a m c = Value.slice a n c := by rw [h]
theorem take_set_len {xs : List α} {m i : Nat} {y : α} : ((xs.set i y).take m).length = (xs.take m).length := by simp
end
end Go.Proofs.Ytcoepljalekglaa.G2
