/- FrameTells: for every input the law returns true, and the input reads behind the call as it read before. -/
import Derived.Test.YtcoepljalekglaaGreatFrameTellsPure
import Derived.Test.YtcoepljalekglaaGreatRows
set_option linter.unusedVariables false
namespace Go.Proofs.YtcoepljalekglaaGreat.FrameTells.L
open Go.ChangeShapes Go.WideShapes Go.ChangeAt Go.RowKit Go.Proofs.YtcoepljalekglaaGreat Go.Proofs.YtcoepljalekglaaGreat.G2 Go.Proofs.YtcoepljalekglaaGreat.FrameTells.W
open Go.ChangeMaps (open_string shut_string)
theorem own : ownKnob Tryz.prog.godebug = none := by kernel_rfl
theorem laidOut : laidOutB Tryz.prog = true := by kernel_rfl
theorem o_GInstr_58 {H : Type} {enc : TypeId × Value → H} {w : World} : Opn enc Tryz.prog w rGInstr 58 := by
  intro fuel cs h
  obtain ⟨fuel, h⟩ := opn_struct (l := [(3, 0, 1), (3, 1, 1), (3, 2, 1)]) (by kernel_rfl) (by kernel_rfl) h
  simp only [List.map_cons, List.map_nil, AllT] at h
  obtain ⟨c0, _, rfl, h0, c1, _, rfl, h1, c2, _, rfl, h2, rfl⟩ := h
  obtain ⟨x0, rfl⟩ := opn_int (k := .i64) (by kernel_rfl) _ _ h0
  obtain ⟨x1, rfl⟩ := opn_int (k := .i64) (by kernel_rfl) _ _ h1
  obtain ⟨x2, rfl⟩ := opn_int (k := .i64) (by kernel_rfl) _ _ h2
  exact ⟨⟨x0, x1, x2⟩, rfl⟩
theorem o_GFunc_53 {H : Type} {enc : TypeId × Value → H} {w : World} : Opn enc Tryz.prog w rGFunc 53 := by
  intro fuel cs h
  obtain ⟨fuel, h⟩ := opn_struct (l := [(3, 0, 1), (3, 1, 1), (3, 2, 1), (51, 3, 1)]) (by kernel_rfl) (by kernel_rfl) h
  simp only [List.map_cons, List.map_nil, AllT] at h
  obtain ⟨c0, _, rfl, h0, c1, _, rfl, h1, c2, _, rfl, h2, c3, _, rfl, h3, rfl⟩ := h
  obtain ⟨x0, rfl⟩ := opn_int (k := .i64) (by kernel_rfl) _ _ h0
  obtain ⟨x1, rfl⟩ := opn_int (k := .i64) (by kernel_rfl) _ _ h1
  obtain ⟨x2, rfl⟩ := opn_int (k := .i64) (by kernel_rfl) _ _ h2
  obtain ⟨a3, k3, x3, rfl, f3⟩ := opn_sl (K := rGInstr) (B := 24) (e := 58) o_GInstr_58 (by kernel_rfl) (by kernel_rfl) (by decide) h3
  exact ⟨⟨x0, x1, x2, x3⟩, a3, k3, rfl, f3⟩
theorem o_GFunc_53B {H : Type} {enc : TypeId × Value → H} {w : World} : Opn enc Tryz.prog w rGFuncB 53 := by
  intro fuel cs h
  obtain ⟨fuel, h⟩ := opn_struct (l := [(3, 0, 1), (3, 1, 1), (3, 2, 1), (51, 3, 1)]) (by kernel_rfl) (by kernel_rfl) h
  simp only [List.map_cons, List.map_nil, AllT] at h
  obtain ⟨c0, _, rfl, h0, c1, _, rfl, h1, c2, _, rfl, h2, c3, _, rfl, h3, rfl⟩ := h
  obtain ⟨x0, rfl, w0, w0'⟩ := opn_intB (k := .i64) (by kernel_rfl) _ _ h0
  obtain ⟨x1, rfl⟩ := opn_int (k := .i64) (by kernel_rfl) _ _ h1
  obtain ⟨x2, rfl⟩ := opn_int (k := .i64) (by kernel_rfl) _ _ h2
  obtain ⟨a3, k3, x3, rfl, f3⟩ := opn_sl (K := rGInstr) (B := 24) (e := 58) o_GInstr_58 (by kernel_rfl) (by kernel_rfl) (by decide) h3
  exact ⟨⟨x0, x1, x2, x3⟩, ⟨a3, k3, rfl, f3⟩, ⟨w0, w0', Nat.le_trans f3.1 f3.2.1⟩⟩
theorem o_GValue_27 {H : Type} {enc : TypeId × Value → H} {w : World} : Opn enc Tryz.prog w rGValue 27 := by
  intro fuel cs h
  obtain ⟨fuel, h⟩ := opn_struct (l := [(3, 0, 1), (3, 1, 1)]) (by kernel_rfl) (by kernel_rfl) h
  simp only [List.map_cons, List.map_nil, AllT] at h
  obtain ⟨c0, _, rfl, h0, c1, _, rfl, h1, rfl⟩ := h
  obtain ⟨x0, rfl⟩ := opn_int (k := .i64) (by kernel_rfl) _ _ h0
  obtain ⟨x1, rfl⟩ := opn_int (k := .i64) (by kernel_rfl) _ _ h1
  exact ⟨⟨x0, x1⟩, rfl⟩
theorem o_GRef_31 {H : Type} {enc : TypeId × Value → H} {w : World} : Opn enc Tryz.prog w rGRef 31 := by
  intro fuel cs h
  obtain ⟨fuel, h⟩ := opn_struct (l := [(3, 0, 1), (3, 1, 1)]) (by kernel_rfl) (by kernel_rfl) h
  simp only [List.map_cons, List.map_nil, AllT] at h
  obtain ⟨c0, _, rfl, h0, c1, _, rfl, h1, rfl⟩ := h
  obtain ⟨x0, rfl⟩ := opn_int (k := .i64) (by kernel_rfl) _ _ h0
  obtain ⟨x1, rfl⟩ := opn_int (k := .i64) (by kernel_rfl) _ _ h1
  exact ⟨⟨x0, x1⟩, rfl⟩
theorem o_GOut_29 {H : Type} {enc : TypeId × Value → H} {w : World} : Opn enc Tryz.prog w rGOut 29 := by
  intro fuel cs h
  obtain ⟨fuel, h⟩ := opn_struct (l := [(3, 0, 1), (27, 1, 2)]) (by kernel_rfl) (by kernel_rfl) h
  simp only [List.map_cons, List.map_nil, AllT] at h
  obtain ⟨c0, _, rfl, h0, c1, _, rfl, h1, rfl⟩ := h
  obtain ⟨x0, rfl⟩ := opn_int (k := .i64) (by kernel_rfl) _ _ h0
  obtain ⟨x1, rfl⟩ := o_GValue_27 _ _ h1
  exact ⟨⟨x0, x1⟩, rfl⟩
theorem o_GSlot_77 {H : Type} {enc : TypeId × Value → H} {w : World} : Opn enc Tryz.prog w rGSlot 77 := by
  intro fuel cs h
  obtain ⟨fuel, h⟩ := opn_struct (l := [(3, 0, 1), (31, 1, 2), (29, 3, 3)]) (by kernel_rfl) (by kernel_rfl) h
  simp only [List.map_cons, List.map_nil, AllT] at h
  obtain ⟨c0, _, rfl, h0, c1, _, rfl, h1, c2, _, rfl, h2, rfl⟩ := h
  obtain ⟨x0, rfl⟩ := opn_int (k := .i64) (by kernel_rfl) _ _ h0
  obtain ⟨x1, rfl⟩ := o_GRef_31 _ _ h1
  obtain ⟨x2, rfl⟩ := o_GOut_29 _ _ h2
  exact ⟨⟨x0, x1, x2⟩, rfl⟩
theorem o_GFrame_33 {H : Type} {enc : TypeId × Value → H} {w : World} : Opn enc Tryz.prog w rGFrame 33 := by
  intro fuel cs h
  obtain ⟨fuel, h⟩ := opn_struct (l := [(3, 0, 1), (3, 1, 1), (24, 2, 1), (24, 3, 1), (25, 4, 1), (3, 5, 1), (3, 6, 1), (3, 7, 1), (3, 8, 1), (3, 9, 1), (29, 10, 3), (31, 13, 2), (3, 15, 1)]) (by kernel_rfl) (by kernel_rfl) h
  simp only [List.map_cons, List.map_nil, AllT] at h
  obtain ⟨c0, _, rfl, h0, c1, _, rfl, h1, c2, _, rfl, h2, c3, _, rfl, h3, c4, _, rfl, h4, c5, _, rfl, h5, c6, _, rfl, h6, c7, _, rfl, h7, c8, _, rfl, h8, c9, _, rfl, h9, c10, _, rfl, h10, c11, _, rfl, h11, c12, _, rfl, h12, rfl⟩ := h
  obtain ⟨x0, rfl⟩ := opn_int (k := .i64) (by kernel_rfl) _ _ h0
  obtain ⟨x1, rfl⟩ := opn_int (k := .i64) (by kernel_rfl) _ _ h1
  obtain ⟨a2, k2, x2, rfl, f2⟩ := opn_sl (K := rGValue) (B := 16) (e := 27) o_GValue_27 (by kernel_rfl) (by kernel_rfl) (by decide) h2
  obtain ⟨a3, k3, x3, rfl, f3⟩ := opn_sl (K := rGValue) (B := 16) (e := 27) o_GValue_27 (by kernel_rfl) (by kernel_rfl) (by decide) h3
  obtain ⟨a4, k4, x4, rfl, f4⟩ := opn_sl (K := rGSlot) (B := 48) (e := 77) o_GSlot_77 (by kernel_rfl) (by kernel_rfl) (by decide) h4
  obtain ⟨x5, rfl⟩ := opn_int (k := .i64) (by kernel_rfl) _ _ h5
  obtain ⟨x6, rfl⟩ := opn_int (k := .i64) (by kernel_rfl) _ _ h6
  obtain ⟨x7, rfl⟩ := opn_int (k := .i64) (by kernel_rfl) _ _ h7
  obtain ⟨x8, rfl⟩ := opn_int (k := .i64) (by kernel_rfl) _ _ h8
  obtain ⟨x9, rfl⟩ := opn_int (k := .i64) (by kernel_rfl) _ _ h9
  obtain ⟨x10, rfl⟩ := o_GOut_29 _ _ h10
  obtain ⟨x11, rfl⟩ := o_GRef_31 _ _ h11
  obtain ⟨x12, rfl⟩ := opn_int (k := .i64) (by kernel_rfl) _ _ h12
  exact ⟨⟨x0, x1, x2, x3, x4, x5, x6, x7, x8, x9, x10, x11, x12⟩, a2, k2, a3, k3, a4, k4, rfl, f2, f3, f4⟩
theorem o_GTold_35 {H : Type} {enc : TypeId × Value → H} {w : World} : Opn enc Tryz.prog w rGTold 35 := by
  intro fuel cs h
  obtain ⟨fuel, h⟩ := opn_struct (l := [(3, 0, 1), (29, 1, 3), (3, 4, 1), (24, 5, 1), (3, 6, 1)]) (by kernel_rfl) (by kernel_rfl) h
  simp only [List.map_cons, List.map_nil, AllT] at h
  obtain ⟨c0, _, rfl, h0, c1, _, rfl, h1, c2, _, rfl, h2, c3, _, rfl, h3, c4, _, rfl, h4, rfl⟩ := h
  obtain ⟨x0, rfl⟩ := opn_int (k := .i64) (by kernel_rfl) _ _ h0
  obtain ⟨x1, rfl⟩ := o_GOut_29 _ _ h1
  obtain ⟨x2, rfl⟩ := opn_int (k := .i64) (by kernel_rfl) _ _ h2
  obtain ⟨a3, k3, x3, rfl, f3⟩ := opn_sl (K := rGValue) (B := 16) (e := 27) o_GValue_27 (by kernel_rfl) (by kernel_rfl) (by decide) h3
  obtain ⟨x4, rfl⟩ := opn_int (k := .i64) (by kernel_rfl) _ _ h4
  exact ⟨⟨x0, x1, x2, x3, x4⟩, a3, k3, rfl, f3⟩
namespace frameTells
set_option maxRecDepth 100000 in
theorem lifted (os : Os) (started : os.Started) (H : Type) (enc : TypeId × Value → H) :
    ReturnsInHanded {} Tryz.checked os 3 .any (Rows.frameTellsSpec.pre6 enc Tryz.prog Tryz.f3 Rows.frameTellsRow.domain false) (Rows.frameTellsSpec.post enc Tryz.prog Tryz.f3 false true false false) := by
  refine returnsInHanded_of_change_sized (C := Tryz.checked) own started (by kernel_rfl) Tryz.func3
    (ChangeSpec.witness6 (enc := enc) (C := Tryz.checked) false ⟨#[], #[.slice none 0 0, .agg (cGFrame (⟨0, 0, [], [], [], 0, 0, 0, 0, 0, (⟨0, (⟨0, 0⟩ : GValue)⟩ : GOut), (⟨0, 0⟩ : GRef), 0⟩ : GFrame) none 0 none 0 none 0).toArray, .agg (cGTold (⟨0, (⟨0, (⟨0, 0⟩ : GValue)⟩ : GOut), 0, [], 0⟩ : GTold) none 0).toArray], []⟩ 12 (by kernel_rfl) (by kernel_rfl) (by kernel_rfl) (by kernel_rfl)) ?_
  intro W base args ds gs before hval0 hW hcnd hsz0 _
  have hval : ∀ (j : Nat) t v, Tryz.f3.params[j]? = some t → args[j]? = some v → Value.okWide Tryz.prog W .any base t v := hval0
  have hW' := hW
  obtain ⟨p, q, hA0, hV, rfl, hfz, hnd⟩ := hW
  have hA : DataW.TrodAll enc Tryz.prog W 0 (fun _ => true) true Tryz.f3.params.toList args.toList ds p := hA0
  rw [Tryz.params3] at hA hval
  obtain ⟨v0, vs0, d0, ds0, p0, q0, hargs, rfl, rfl, h0, r0⟩ := trodAll_cons hA
  obtain ⟨v1, vs1, d1, ds1, p1, q1, rfl, rfl, rfl, h1, r1⟩ := trodAll_cons r0
  obtain ⟨v2, vs2, d2, ds2, p2, q2, rfl, rfl, rfl, h2, r2⟩ := trodAll_cons r1
  obtain ⟨rfl, rfl, rfl⟩ := trodAll_nil r2
  obtain rfl : args = #[v0, v1, v2] := by cases args; simp_all
  obtain ⟨rfl, rfl⟩ := trodVars_none hV
  have k0 := h0
  have lt0 : ∀ x ∈ p0, x.block < W.heap.size := by obtain ⟨m, hm⟩ := k0; exact DataW.trod_lt m _ _ _ hm
  obtain ⟨m0, e0⟩ := h0
  obtain ⟨b0, n0, cp0, rfl⟩ := okWide_slice (e := 53) (by kernel_rfl) (hval 0 23 v0 rfl rfl)
  obtain ⟨a0, k0, x0, e0', f0⟩ := opn_sl (K := rGFuncB) (B := 48) (e := 53) o_GFunc_53B (by kernel_rfl) (by kernel_rfl) (by decide) ⟨_, _, e0⟩
  obtain ⟨f0, fb0⟩ := f0.also
  obtain ⟨rfl, rfl, rfl⟩ : b0 = a0 ∧ n0 = x0.length ∧ cp0 = k0 := by simpa [Value.cells] using e0'
  have k1 := h1
  have lt1 : ∀ x ∈ p1, x.block < W.heap.size := by obtain ⟨m, hm⟩ := k1; exact DataW.trod_lt m _ _ _ hm
  obtain ⟨m1, e1⟩ := h1
  obtain ⟨cs1, rfl⟩ := okWide_agg (by kernel_rfl) (hval 1 33 v1 rfl rfl)
  obtain ⟨x1, a1_2, k1_2, a1_3, k1_3, a1_4, k1_4, e1', f1_2, f1_3, f1_4⟩ := o_GFrame_33 _ _ ⟨_, _, e1⟩
  obtain rfl := toArray_of (show cs1.toList = _ from e1')
  have k2 := h2
  have lt2 : ∀ x ∈ p2, x.block < W.heap.size := by obtain ⟨m, hm⟩ := k2; exact DataW.trod_lt m _ _ _ hm
  obtain ⟨m2, e2⟩ := h2
  obtain ⟨cs2, rfl⟩ := okWide_agg (by kernel_rfl) (hval 2 35 v2 rfl rfl)
  obtain ⟨x2, a2_5, k2_5, e2', f2_5⟩ := o_GTold_35 _ _ ⟨_, _, e2⟩
  obtain rfl := toArray_of (show cs2.toList = _ from e2')
  obtain ⟨K, hr⟩ := pure_FrameTells x0 x1 x2 fb0
  refine (c_law09_FrameTells (h := hp W) K x0 f0 x1 f1_2 f1_3 f1_4 x2 f2_5 (St.root W) hr).mono fun e W' he => ?_
  obtain ⟨_, rfl, rfl, S⟩ := he
  have bel := S.old
  exact ⟨_, rfl, _, _, _, [], _, [], hW', trodAll_mk1 (shut_bool (by kernel_rfl) _), (trodAll_cons_mk (Below.trod laidOut (by kernel_rfl) (of_decide_eq_true (by kernel_rfl)) k0 bel lt0) (trodAll_cons_mk (Below.trod laidOut (by kernel_rfl) (of_decide_eq_true (by kernel_rfl)) k1 bel lt1) (trodAll_cons_mk (Below.trod laidOut (by kernel_rfl) (of_decide_eq_true (by kernel_rfl)) k2 bel lt2) trodAll_mk0))), rfl, bel.frame _, fun h => by cases h⟩
theorem over : Rows.frameTellsRow.holds Tryz.pinned (OpenSpec.ofChange Rows.frameTellsSpec) :=
  OpenClaim.holds_of_wide 3 Tryz.f3 rfl rfl rfl rfl rfl rfl rfl ⟨rfl, rfl, rfl, rfl, rfl⟩ rfl rfl rfl rfl rfl (by kernel_rfl) Tryz.func3 (by kernel_rfl)
    (of_decide_eq_true (by kernel_rfl)) (by unfold Func.isWrapper; first | (rw [if_pos (by decide +kernel)]; kernel_rfl) | (rw [if_neg (by decide +kernel)]; exact ⟨rfl, rfl⟩))
    (fun os started H enc _ => lifted os started H enc)
theorem proved : Rows.FrameTellsSaid := over
end frameTells
end Go.Proofs.YtcoepljalekglaaGreat.FrameTells.L
namespace Go.Proofs.YtcoepljalekglaaGreat
/-- The row, under a short name, for the claim. -/
theorem frameTells_holds : Rows.FrameTellsSaid := FrameTells.L.frameTells.proved
end Go.Proofs.YtcoepljalekglaaGreat
