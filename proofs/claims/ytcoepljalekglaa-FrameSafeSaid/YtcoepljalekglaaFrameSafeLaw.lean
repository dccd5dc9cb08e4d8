/- FrameSafe: for every input the law returns true, and the input reads behind the call as it read before. -/
import Derived.Test.YtcoepljalekglaaFrameSafePure
import Derived.Test.YtcoepljalekglaaRows
set_option linter.unusedVariables false
namespace Go.Proofs.Ytcoepljalekglaa.FrameSafe.L
open Go.ChangeShapes Go.WideShapes Go.ChangeAt Go.RowKit Go.Proofs.Ytcoepljalekglaa Go.Proofs.Ytcoepljalekglaa.G2 Go.Proofs.Ytcoepljalekglaa.FrameSafe.W
open Go.ChangeMaps (open_string shut_string)
theorem own : ownKnob Try.prog.godebug = none := by kernel_rfl
theorem laidOut : laidOutB Try.prog = true := by kernel_rfl
theorem o_GInstr_71 {H : Type} {enc : TypeId × Value → H} {w : World} : Opn enc Try.prog w rGInstr 71 := by
  intro fuel cs h
  obtain ⟨fuel, h⟩ := opn_struct (l := [(3, 0, 1), (3, 1, 1), (3, 2, 1)]) (by kernel_rfl) (by kernel_rfl) h
  simp only [List.map_cons, List.map_nil, AllT] at h
  obtain ⟨c0, _, rfl, h0, c1, _, rfl, h1, c2, _, rfl, h2, rfl⟩ := h
  obtain ⟨x0, rfl⟩ := opn_int (k := .i64) (by kernel_rfl) _ _ h0
  obtain ⟨x1, rfl⟩ := opn_int (k := .i64) (by kernel_rfl) _ _ h1
  obtain ⟨x2, rfl⟩ := opn_int (k := .i64) (by kernel_rfl) _ _ h2
  exact ⟨⟨x0, x1, x2⟩, rfl⟩
theorem o_GFunc_31 {H : Type} {enc : TypeId × Value → H} {w : World} : Opn enc Try.prog w rGFunc 31 := by
  intro fuel cs h
  obtain ⟨fuel, h⟩ := opn_struct (l := [(3, 0, 1), (3, 1, 1), (3, 2, 1), (29, 3, 1)]) (by kernel_rfl) (by kernel_rfl) h
  simp only [List.map_cons, List.map_nil, AllT] at h
  obtain ⟨c0, _, rfl, h0, c1, _, rfl, h1, c2, _, rfl, h2, c3, _, rfl, h3, rfl⟩ := h
  obtain ⟨x0, rfl⟩ := opn_int (k := .i64) (by kernel_rfl) _ _ h0
  obtain ⟨x1, rfl⟩ := opn_int (k := .i64) (by kernel_rfl) _ _ h1
  obtain ⟨x2, rfl⟩ := opn_int (k := .i64) (by kernel_rfl) _ _ h2
  obtain ⟨a3, k3, x3, rfl, f3⟩ := opn_sl (K := rGInstr) (B := 24) (e := 71) o_GInstr_71 (by kernel_rfl) (by kernel_rfl) (by decide) h3
  exact ⟨⟨x0, x1, x2, x3⟩, a3, k3, rfl, f3⟩
theorem o_GFunc_31B {H : Type} {enc : TypeId × Value → H} {w : World} : Opn enc Try.prog w rGFuncB 31 := by
  intro fuel cs h
  obtain ⟨fuel, h⟩ := opn_struct (l := [(3, 0, 1), (3, 1, 1), (3, 2, 1), (29, 3, 1)]) (by kernel_rfl) (by kernel_rfl) h
  simp only [List.map_cons, List.map_nil, AllT] at h
  obtain ⟨c0, _, rfl, h0, c1, _, rfl, h1, c2, _, rfl, h2, c3, _, rfl, h3, rfl⟩ := h
  obtain ⟨x0, rfl, w0, w0'⟩ := opn_intB (k := .i64) (by kernel_rfl) _ _ h0
  obtain ⟨x1, rfl⟩ := opn_int (k := .i64) (by kernel_rfl) _ _ h1
  obtain ⟨x2, rfl⟩ := opn_int (k := .i64) (by kernel_rfl) _ _ h2
  obtain ⟨a3, k3, x3, rfl, f3⟩ := opn_sl (K := rGInstr) (B := 24) (e := 71) o_GInstr_71 (by kernel_rfl) (by kernel_rfl) (by decide) h3
  exact ⟨⟨x0, x1, x2, x3⟩, ⟨a3, k3, rfl, f3⟩, ⟨w0, w0', Nat.le_trans f3.1 f3.2.1⟩⟩
theorem o_GValue_33 {H : Type} {enc : TypeId × Value → H} {w : World} : Opn enc Try.prog w rGValue 33 := by
  intro fuel cs h
  obtain ⟨fuel, h⟩ := opn_struct (l := [(3, 0, 1), (3, 1, 1)]) (by kernel_rfl) (by kernel_rfl) h
  simp only [List.map_cons, List.map_nil, AllT] at h
  obtain ⟨c0, _, rfl, h0, c1, _, rfl, h1, rfl⟩ := h
  obtain ⟨x0, rfl⟩ := opn_int (k := .i64) (by kernel_rfl) _ _ h0
  obtain ⟨x1, rfl⟩ := opn_int (k := .i64) (by kernel_rfl) _ _ h1
  exact ⟨⟨x0, x1⟩, rfl⟩
theorem o_GOut_36 {H : Type} {enc : TypeId × Value → H} {w : World} : Opn enc Try.prog w rGOut 36 := by
  intro fuel cs h
  obtain ⟨fuel, h⟩ := opn_struct (l := [(3, 0, 1), (33, 1, 2)]) (by kernel_rfl) (by kernel_rfl) h
  simp only [List.map_cons, List.map_nil, AllT] at h
  obtain ⟨c0, _, rfl, h0, c1, _, rfl, h1, rfl⟩ := h
  obtain ⟨x0, rfl⟩ := opn_int (k := .i64) (by kernel_rfl) _ _ h0
  obtain ⟨x1, rfl⟩ := o_GValue_33 _ _ h1
  exact ⟨⟨x0, x1⟩, rfl⟩
namespace frameSafe
set_option maxRecDepth 100000 in
theorem lifted (os : Os) (started : os.Started) (H : Type) (enc : TypeId × Value → H) :
    ReturnsInHanded {} Try.checked os 3 .any (Rows.frameSafeSpec.pre6 enc Try.prog Try.f3 Rows.frameSafeRow.domain false) (Rows.frameSafeSpec.post enc Try.prog Try.f3 false true false false) := by
  refine returnsInHanded_of_change_sized (C := Try.checked) own started (by kernel_rfl) Try.func3
    (ChangeSpec.witness6 (enc := enc) (C := Try.checked) false ⟨#[], #[.slice none 0 0, .int .i64 0, .slice none 0 0], []⟩ 12 (by kernel_rfl) (by kernel_rfl) (by kernel_rfl) (by kernel_rfl)) ?_
  intro W base args ds gs before hval0 hW hcnd hsz0 _
  have hval : ∀ (j : Nat) t v, Try.f3.params[j]? = some t → args[j]? = some v → Value.okWide Try.prog W .any base t v := hval0
  have hW' := hW
  obtain ⟨p, q, hA0, hV, rfl, hfz, hnd⟩ := hW
  have hA : DataW.TrodAll enc Try.prog W 0 (fun _ => true) true Try.f3.params.toList args.toList ds p := hA0
  rw [Try.params3] at hA hval
  obtain ⟨v0, vs0, d0, ds0, p0, q0, hargs, rfl, rfl, h0, r0⟩ := trodAll_cons hA
  obtain ⟨v1, vs1, d1, ds1, p1, q1, rfl, rfl, rfl, h1, r1⟩ := trodAll_cons r0
  obtain ⟨v2, vs2, d2, ds2, p2, q2, rfl, rfl, rfl, h2, r2⟩ := trodAll_cons r1
  obtain ⟨rfl, rfl, rfl⟩ := trodAll_nil r2
  obtain rfl : args = #[v0, v1, v2] := by cases args; simp_all
  obtain ⟨rfl, rfl⟩ := trodVars_none hV
  have k0 := h0
  have lt0 : ∀ x ∈ p0, x.block < W.heap.size := by obtain ⟨m, hm⟩ := k0; exact DataW.trod_lt m _ _ _ hm
  obtain ⟨m0, e0⟩ := h0
  obtain ⟨b0, n0, cp0, rfl⟩ := okWide_slice (e := 31) (by kernel_rfl) (hval 0 23 v0 rfl rfl)
  obtain ⟨a0, k0, x0, e0', f0⟩ := opn_sl (K := rGFuncB) (B := 48) (e := 31) o_GFunc_31B (by kernel_rfl) (by kernel_rfl) (by decide) ⟨_, _, e0⟩
  obtain ⟨f0, fb0⟩ := f0.also
  obtain ⟨rfl, rfl, rfl⟩ : b0 = a0 ∧ n0 = x0.length ∧ cp0 = k0 := by simpa [Value.cells] using e0'
  have k1 := h1
  have lt1 : ∀ x ∈ p1, x.block < W.heap.size := by obtain ⟨m, hm⟩ := k1; exact DataW.trod_lt m _ _ _ hm
  obtain ⟨m1, e1⟩ := h1
  obtain ⟨x1, rfl, _, _, _⟩ := open_int (k := .i64) (by kernel_rfl) (hval 1 3 v1 rfl rfl) k1
  have k2 := h2
  have lt2 : ∀ x ∈ p2, x.block < W.heap.size := by obtain ⟨m, hm⟩ := k2; exact DataW.trod_lt m _ _ _ hm
  obtain ⟨m2, e2⟩ := h2
  obtain ⟨b2, n2, cp2, rfl⟩ := okWide_slice (e := 36) (by kernel_rfl) (hval 2 24 v2 rfl rfl)
  obtain ⟨a2, k2, x2, e2', f2⟩ := opn_sl (K := rGOut) (B := 24) (e := 36) o_GOut_36 (by kernel_rfl) (by kernel_rfl) (by decide) ⟨_, _, e2⟩
  obtain ⟨rfl, rfl, rfl⟩ : b2 = a2 ∧ n2 = x2.length ∧ cp2 = k2 := by simpa [Value.cells] using e2'
  obtain ⟨K, hr⟩ := pure_FrameSafe x0 x1 x2 fb0
  refine (c_law09_FrameSafe (h := hp W) K x0 f0 x1 x2 f2 (St.root W) hr).mono fun e W' he => ?_
  obtain ⟨_, rfl, rfl, S⟩ := he
  have bel := S.old
  exact ⟨_, rfl, _, _, _, [], _, [], hW', trodAll_mk1 (shut_bool (by kernel_rfl) _), (trodAll_cons_mk (Below.trod laidOut (by kernel_rfl) (of_decide_eq_true (by kernel_rfl)) k0 bel lt0) (trodAll_cons_mk (Below.trod laidOut (by kernel_rfl) (of_decide_eq_true (by kernel_rfl)) k1 bel lt1) (trodAll_cons_mk (Below.trod laidOut (by kernel_rfl) (of_decide_eq_true (by kernel_rfl)) k2 bel lt2) trodAll_mk0))), rfl, bel.frame _, fun h => by cases h⟩
theorem over : Rows.frameSafeRow.holds Try.pinned (OpenSpec.ofChange Rows.frameSafeSpec) :=
  OpenClaim.holds_of_wide 3 Try.f3 rfl rfl rfl rfl rfl rfl rfl ⟨rfl, rfl, rfl, rfl, rfl⟩ rfl rfl rfl rfl rfl (by kernel_rfl) Try.func3 (by kernel_rfl)
    (of_decide_eq_true (by kernel_rfl)) (by unfold Func.isWrapper; first | (rw [if_pos (by decide +kernel)]; kernel_rfl) | (rw [if_neg (by decide +kernel)]; exact ⟨rfl, rfl⟩))
    (fun os started H enc _ => lifted os started H enc)
theorem proved : Rows.FrameSafeSaid := over
end frameSafe
end Go.Proofs.Ytcoepljalekglaa.FrameSafe.L
namespace Go.Proofs.Ytcoepljalekglaa
/-- The row, under a short name, for the claim. -/
theorem frameSafe_holds : Rows.FrameSafeSaid := FrameSafe.L.frameSafe.proved
end Go.Proofs.Ytcoepljalekglaa
