/- FrameStill: for every input the law returns true, and the input reads behind the call as it read before. -/
import Derived.Test.YtcoepljalekglaaFrameStillPure
import Derived.Test.YtcoepljalekglaaRows
set_option linter.unusedVariables false
namespace Go.Proofs.Ytcoepljalekglaa.FrameStill.L
open Go.ChangeShapes Go.WideShapes Go.ChangeAt Go.RowKit Go.Proofs.Ytcoepljalekglaa Go.Proofs.Ytcoepljalekglaa.G2 Go.Proofs.Ytcoepljalekglaa.FrameStill.W
open Go.ChangeMaps (open_string shut_string)
theorem own : ownKnob Try.prog.godebug = none := by kernel_rfl
theorem laidOut : laidOutB Try.prog = true := by kernel_rfl
theorem o_GInstr_71 {H : Type} {enc : TypeId × Value → H} {w : World} : Opn enc Try.prog w rGInstr 71 := by
  intro fuel cs h
  obtain ⟨fuel, h⟩ := opn_struct (l := [(3, 0, 1), (3, 1, 1), (3, 2, 1)]) (by kernel_rfl) (by kernel_rfl) h
  simp only [List.map_cons, List.map_nil, AllT] at h
  obtain ⟨c0, _, rfl, h0, c1, _, rfl, h1, c2, _, rfl, h2, rfl⟩ := h
  obtain ⟨x0, rfl⟩ := opn_int (k := .i64) (by kernel_rfl) _ _ h0
  obtain ⟨x1, rfl⟩ := opn_int (k := .i64) (by kernel_rfl) _ _ h1
  obtain ⟨x2, rfl⟩ := opn_int (k := .i64) (by kernel_rfl) _ _ h2
  exact ⟨⟨x0, x1, x2⟩, rfl⟩
theorem o_GFunc_31 {H : Type} {enc : TypeId × Value → H} {w : World} : Opn enc Try.prog w rGFunc 31 := by
  intro fuel cs h
  obtain ⟨fuel, h⟩ := opn_struct (l := [(3, 0, 1), (3, 1, 1), (3, 2, 1), (29, 3, 1)]) (by kernel_rfl) (by kernel_rfl) h
  simp only [List.map_cons, List.map_nil, AllT] at h
  obtain ⟨c0, _, rfl, h0, c1, _, rfl, h1, c2, _, rfl, h2, c3, _, rfl, h3, rfl⟩ := h
  obtain ⟨x0, rfl⟩ := opn_int (k := .i64) (by kernel_rfl) _ _ h0
  obtain ⟨x1, rfl⟩ := opn_int (k := .i64) (by kernel_rfl) _ _ h1
  obtain ⟨x2, rfl⟩ := opn_int (k := .i64) (by kernel_rfl) _ _ h2
  obtain ⟨a3, k3, x3, rfl, f3⟩ := opn_sl (K := rGInstr) (B := 24) (e := 71) o_GInstr_71 (by kernel_rfl) (by kernel_rfl) (by decide) h3
  exact ⟨⟨x0, x1, x2, x3⟩, a3, k3, rfl, f3⟩
theorem o_GValue_33 {H : Type} {enc : TypeId × Value → H} {w : World} : Opn enc Try.prog w rGValue 33 := by
  intro fuel cs h
  obtain ⟨fuel, h⟩ := opn_struct (l := [(3, 0, 1), (3, 1, 1)]) (by kernel_rfl) (by kernel_rfl) h
  simp only [List.map_cons, List.map_nil, AllT] at h
  obtain ⟨c0, _, rfl, h0, c1, _, rfl, h1, rfl⟩ := h
  obtain ⟨x0, rfl⟩ := opn_int (k := .i64) (by kernel_rfl) _ _ h0
  obtain ⟨x1, rfl⟩ := opn_int (k := .i64) (by kernel_rfl) _ _ h1
  exact ⟨⟨x0, x1⟩, rfl⟩
theorem o_GRef_38 {H : Type} {enc : TypeId × Value → H} {w : World} : Opn enc Try.prog w rGRef 38 := by
  intro fuel cs h
  obtain ⟨fuel, h⟩ := opn_struct (l := [(3, 0, 1), (3, 1, 1)]) (by kernel_rfl) (by kernel_rfl) h
  simp only [List.map_cons, List.map_nil, AllT] at h
  obtain ⟨c0, _, rfl, h0, c1, _, rfl, h1, rfl⟩ := h
  obtain ⟨x0, rfl⟩ := opn_int (k := .i64) (by kernel_rfl) _ _ h0
  obtain ⟨x1, rfl⟩ := opn_int (k := .i64) (by kernel_rfl) _ _ h1
  exact ⟨⟨x0, x1⟩, rfl⟩
theorem o_GOut_36 {H : Type} {enc : TypeId × Value → H} {w : World} : Opn enc Try.prog w rGOut 36 := by
  intro fuel cs h
  obtain ⟨fuel, h⟩ := opn_struct (l := [(3, 0, 1), (33, 1, 2)]) (by kernel_rfl) (by kernel_rfl) h
  simp only [List.map_cons, List.map_nil, AllT] at h
  obtain ⟨c0, _, rfl, h0, c1, _, rfl, h1, rfl⟩ := h
  obtain ⟨x0, rfl⟩ := opn_int (k := .i64) (by kernel_rfl) _ _ h0
  obtain ⟨x1, rfl⟩ := o_GValue_33 _ _ h1
  exact ⟨⟨x0, x1⟩, rfl⟩
theorem o_GSlot_80 {H : Type} {enc : TypeId × Value → H} {w : World} : Opn enc Try.prog w rGSlot 80 := by
  intro fuel cs h
  obtain ⟨fuel, h⟩ := opn_struct (l := [(3, 0, 1), (38, 1, 2), (36, 3, 3)]) (by kernel_rfl) (by kernel_rfl) h
  simp only [List.map_cons, List.map_nil, AllT] at h
  obtain ⟨c0, _, rfl, h0, c1, _, rfl, h1, c2, _, rfl, h2, rfl⟩ := h
  obtain ⟨x0, rfl⟩ := opn_int (k := .i64) (by kernel_rfl) _ _ h0
  obtain ⟨x1, rfl⟩ := o_GRef_38 _ _ h1
  obtain ⟨x2, rfl⟩ := o_GOut_36 _ _ h2
  exact ⟨⟨x0, x1, x2⟩, rfl⟩
theorem o_GFrame_40 {H : Type} {enc : TypeId × Value → H} {w : World} : Opn enc Try.prog w rGFrame 40 := by
  intro fuel cs h
  obtain ⟨fuel, h⟩ := opn_struct (l := [(3, 0, 1), (3, 1, 1), (28, 2, 1), (28, 3, 1), (34, 4, 1), (3, 5, 1), (3, 6, 1), (3, 7, 1), (3, 8, 1), (3, 9, 1), (36, 10, 3), (38, 13, 2), (3, 15, 1)]) (by kernel_rfl) (by kernel_rfl) h
  simp only [List.map_cons, List.map_nil, AllT] at h
  obtain ⟨c0, _, rfl, h0, c1, _, rfl, h1, c2, _, rfl, h2, c3, _, rfl, h3, c4, _, rfl, h4, c5, _, rfl, h5, c6, _, rfl, h6, c7, _, rfl, h7, c8, _, rfl, h8, c9, _, rfl, h9, c10, _, rfl, h10, c11, _, rfl, h11, c12, _, rfl, h12, rfl⟩ := h
  obtain ⟨x0, rfl⟩ := opn_int (k := .i64) (by kernel_rfl) _ _ h0
  obtain ⟨x1, rfl⟩ := opn_int (k := .i64) (by kernel_rfl) _ _ h1
  obtain ⟨a2, k2, x2, rfl, f2⟩ := opn_sl (K := rGValue) (B := 16) (e := 33) o_GValue_33 (by kernel_rfl) (by kernel_rfl) (by decide) h2
  obtain ⟨a3, k3, x3, rfl, f3⟩ := opn_sl (K := rGValue) (B := 16) (e := 33) o_GValue_33 (by kernel_rfl) (by kernel_rfl) (by decide) h3
  obtain ⟨a4, k4, x4, rfl, f4⟩ := opn_sl (K := rGSlot) (B := 48) (e := 80) o_GSlot_80 (by kernel_rfl) (by kernel_rfl) (by decide) h4
  obtain ⟨x5, rfl⟩ := opn_int (k := .i64) (by kernel_rfl) _ _ h5
  obtain ⟨x6, rfl⟩ := opn_int (k := .i64) (by kernel_rfl) _ _ h6
  obtain ⟨x7, rfl⟩ := opn_int (k := .i64) (by kernel_rfl) _ _ h7
  obtain ⟨x8, rfl⟩ := opn_int (k := .i64) (by kernel_rfl) _ _ h8
  obtain ⟨x9, rfl⟩ := opn_int (k := .i64) (by kernel_rfl) _ _ h9
  obtain ⟨x10, rfl⟩ := o_GOut_36 _ _ h10
  obtain ⟨x11, rfl⟩ := o_GRef_38 _ _ h11
  obtain ⟨x12, rfl⟩ := opn_int (k := .i64) (by kernel_rfl) _ _ h12
  exact ⟨⟨x0, x1, x2, x3, x4, x5, x6, x7, x8, x9, x10, x11, x12⟩, a2, k2, a3, k3, a4, k4, rfl, f2, f3, f4⟩
namespace frameStill
set_option maxRecDepth 100000 in
theorem lifted (os : Os) (started : os.Started) (H : Type) (enc : TypeId × Value → H) :
    ReturnsInHanded {} Try.checked os 4 .any (Rows.frameStillSpec.pre6 enc Try.prog Try.f4 Rows.frameStillRow.domain false) (Rows.frameStillSpec.post enc Try.prog Try.f4 false true false false) := by
  refine returnsInHanded_of_change_sized (C := Try.checked) own started (by kernel_rfl) Try.func4
    (ChangeSpec.witness6 (enc := enc) (C := Try.checked) false ⟨#[], #[.slice none 0 0, .agg (cGFrame (⟨0, 0, [], [], [], 0, 0, 0, 0, 0, (⟨0, (⟨0, 0⟩ : GValue)⟩ : GOut), (⟨0, 0⟩ : GRef), 0⟩ : GFrame) none 0 none 0 none 0).toArray], []⟩ 12 (by kernel_rfl) (by kernel_rfl) (by kernel_rfl) (by kernel_rfl)) ?_
  intro W base args ds gs before hval0 hW hcnd hsz0 _
  have hval : ∀ (j : Nat) t v, Try.f4.params[j]? = some t → args[j]? = some v → Value.okWide Try.prog W .any base t v := hval0
  have hW' := hW
  obtain ⟨p, q, hA0, hV, rfl, hfz, hnd⟩ := hW
  have hA : DataW.TrodAll enc Try.prog W 0 (fun _ => true) true Try.f4.params.toList args.toList ds p := hA0
  rw [Try.params4] at hA hval
  obtain ⟨v0, vs0, d0, ds0, p0, q0, hargs, rfl, rfl, h0, r0⟩ := trodAll_cons hA
  obtain ⟨v1, vs1, d1, ds1, p1, q1, rfl, rfl, rfl, h1, r1⟩ := trodAll_cons r0
  obtain ⟨rfl, rfl, rfl⟩ := trodAll_nil r1
  obtain rfl : args = #[v0, v1] := by cases args; simp_all
  obtain ⟨rfl, rfl⟩ := trodVars_none hV
  have k0 := h0
  have lt0 : ∀ x ∈ p0, x.block < W.heap.size := by obtain ⟨m, hm⟩ := k0; exact DataW.trod_lt m _ _ _ hm
  obtain ⟨m0, e0⟩ := h0
  obtain ⟨b0, n0, cp0, rfl⟩ := okWide_slice (e := 31) (by kernel_rfl) (hval 0 23 v0 rfl rfl)
  obtain ⟨a0, k0, x0, e0', f0⟩ := opn_sl (K := rGFunc) (B := 48) (e := 31) o_GFunc_31 (by kernel_rfl) (by kernel_rfl) (by decide) ⟨_, _, e0⟩
  obtain ⟨rfl, rfl, rfl⟩ : b0 = a0 ∧ n0 = x0.length ∧ cp0 = k0 := by simpa [Value.cells] using e0'
  have k1 := h1
  have lt1 : ∀ x ∈ p1, x.block < W.heap.size := by obtain ⟨m, hm⟩ := k1; exact DataW.trod_lt m _ _ _ hm
  obtain ⟨m1, e1⟩ := h1
  obtain ⟨cs1, rfl⟩ := okWide_agg (by kernel_rfl) (hval 1 40 v1 rfl rfl)
  obtain ⟨x1, a1_2, k1_2, a1_3, k1_3, a1_4, k1_4, e1', f1_2, f1_3, f1_4⟩ := o_GFrame_40 _ _ ⟨_, _, e1⟩
  obtain rfl := toArray_of (show cs1.toList = _ from e1')
  obtain ⟨K, hr⟩ := pure_FrameStill x0 x1
  refine (c_law09_FrameStill (h := hp W) K x0 f0 x1 f1_2 f1_3 f1_4 (St.root W) hr).mono fun e W' he => ?_
  obtain ⟨_, rfl, rfl, S⟩ := he
  have bel := S.old
  exact ⟨_, rfl, _, _, _, [], _, [], hW', trodAll_mk1 (shut_bool (by kernel_rfl) _), (trodAll_cons_mk (Below.trod laidOut (by kernel_rfl) (of_decide_eq_true (by kernel_rfl)) k0 bel lt0) (trodAll_cons_mk (Below.trod laidOut (by kernel_rfl) (of_decide_eq_true (by kernel_rfl)) k1 bel lt1) trodAll_mk0)), rfl, bel.frame _, fun h => by cases h⟩
theorem over : Rows.frameStillRow.holds Try.pinned (OpenSpec.ofChange Rows.frameStillSpec) :=
  OpenClaim.holds_of_wide 4 Try.f4 rfl rfl rfl rfl rfl rfl rfl ⟨rfl, rfl, rfl, rfl, rfl⟩ rfl rfl rfl rfl rfl (by kernel_rfl) Try.func4 (by kernel_rfl)
    (of_decide_eq_true (by kernel_rfl)) (by unfold Func.isWrapper; first | (rw [if_pos (by decide +kernel)]; kernel_rfl) | (rw [if_neg (by decide +kernel)]; exact ⟨rfl, rfl⟩))
    (fun os started H enc _ => lifted os started H enc)
theorem proved : Rows.FrameStillSaid := over
end frameStill
end Go.Proofs.Ytcoepljalekglaa.FrameStill.L
namespace Go.Proofs.Ytcoepljalekglaa
/-- The row, under a short name, for the claim. -/
theorem frameStill_holds : Rows.FrameStillSaid := FrameStill.L.frameStill.proved
end Go.Proofs.Ytcoepljalekglaa
