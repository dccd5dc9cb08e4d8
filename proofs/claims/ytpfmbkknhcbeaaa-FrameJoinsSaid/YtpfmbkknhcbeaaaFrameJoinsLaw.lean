/- FrameJoins: for every input the law returns true, and the input reads behind the call as it read before. -/
import Derived.Test.YtpfmbkknhcbeaaaFrameJoinsPure
import Derived.Test.YtpfmbkknhcbeaaaRows
set_option linter.unusedVariables false
namespace Go.Proofs.Ytpfmbkknhcbeaaa.FrameJoins.L
open Go.ChangeShapes Go.WideShapes Go.ChangeAt Go.RowKit Go.Proofs.Ytpfmbkknhcbeaaa Go.Proofs.Ytpfmbkknhcbeaaa.G2 Go.Proofs.Ytpfmbkknhcbeaaa.FrameJoins.W
open Go.ChangeMaps (open_string shut_string)
theorem own : ownKnob Try.prog.godebug = none := by kernel_rfl
theorem laidOut : laidOutB Try.prog = true := by kernel_rfl
theorem o_GValue_33 {H : Type} {enc : TypeId × Value → H} {w : World} : Opn enc Try.prog w rGValue 33 := by
  intro fuel cs h
  obtain ⟨fuel, h⟩ := opn_struct (l := [(3, 0, 1), (3, 1, 1)]) (by kernel_rfl) (by kernel_rfl) h
  simp only [List.map_cons, List.map_nil, AllT] at h
  obtain ⟨c0, _, rfl, h0, c1, _, rfl, h1, rfl⟩ := h
  obtain ⟨x0, rfl⟩ := opn_int (k := .i64) (by kernel_rfl) _ _ h0
  obtain ⟨x1, rfl⟩ := opn_int (k := .i64) (by kernel_rfl) _ _ h1
  exact ⟨⟨x0, x1⟩, rfl⟩
theorem o_GOut_36 {H : Type} {enc : TypeId × Value → H} {w : World} : Opn enc Try.prog w rGOut 36 := by
  intro fuel cs h
  obtain ⟨fuel, h⟩ := opn_struct (l := [(3, 0, 1), (33, 1, 2)]) (by kernel_rfl) (by kernel_rfl) h
  simp only [List.map_cons, List.map_nil, AllT] at h
  obtain ⟨c0, _, rfl, h0, c1, _, rfl, h1, rfl⟩ := h
  obtain ⟨x0, rfl⟩ := opn_int (k := .i64) (by kernel_rfl) _ _ h0
  obtain ⟨x1, rfl⟩ := o_GValue_33 _ _ h1
  exact ⟨⟨x0, x1⟩, rfl⟩
namespace frameJoins
set_option maxRecDepth 100000 in
theorem lifted (os : Os) (started : os.Started) (H : Type) (enc : TypeId × Value → H) :
    ReturnsInHanded {} Try.checked os 6 .any (Rows.frameJoinsSpec.pre6 enc Try.prog Try.f6 Rows.frameJoinsRow.domain false) (Rows.frameJoinsSpec.post enc Try.prog Try.f6 false true false false) := by
  refine returnsInHanded_of_change_sized (C := Try.checked) own started (by kernel_rfl) Try.func6
    (ChangeSpec.witness6 (enc := enc) (C := Try.checked) false ⟨#[], #[.agg #[.int .i64 0, .int .i64 0], .agg #[.int .i64 0, .int .i64 0, .int .i64 0]], []⟩ 12 (by kernel_rfl) (by kernel_rfl) (by kernel_rfl) (by kernel_rfl)) ?_
  intro W base args ds gs before hval0 hW hcnd hsz0 _
  have hval : ∀ (j : Nat) t v, Try.f6.params[j]? = some t → args[j]? = some v → Value.okWide Try.prog W .any base t v := hval0
  have hW' := hW
  obtain ⟨p, q, hA0, hV, rfl, hfz, hnd⟩ := hW
  have hA : DataW.TrodAll enc Try.prog W 0 (fun _ => true) true Try.f6.params.toList args.toList ds p := hA0
  rw [Try.params6] at hA hval
  obtain ⟨v0, vs0, d0, ds0, p0, q0, hargs, rfl, rfl, h0, r0⟩ := trodAll_cons hA
  obtain ⟨v1, vs1, d1, ds1, p1, q1, rfl, rfl, rfl, h1, r1⟩ := trodAll_cons r0
  obtain ⟨rfl, rfl, rfl⟩ := trodAll_nil r1
  obtain rfl : args = #[v0, v1] := by cases args; simp_all
  obtain ⟨rfl, rfl⟩ := trodVars_none hV
  have k0 := h0
  have lt0 : ∀ x ∈ p0, x.block < W.heap.size := by obtain ⟨m, hm⟩ := k0; exact DataW.trod_lt m _ _ _ hm
  obtain ⟨m0, e0⟩ := h0
  obtain ⟨cs0, rfl⟩ := okWide_agg (by kernel_rfl) (hval 0 33 v0 rfl rfl)
  obtain ⟨x0, e0'⟩ := o_GValue_33 _ _ ⟨_, _, e0⟩
  obtain rfl := toArray_of (show cs0.toList = _ from e0')
  have k1 := h1
  have lt1 : ∀ x ∈ p1, x.block < W.heap.size := by obtain ⟨m, hm⟩ := k1; exact DataW.trod_lt m _ _ _ hm
  obtain ⟨m1, e1⟩ := h1
  obtain ⟨cs1, rfl⟩ := okWide_agg (by kernel_rfl) (hval 1 36 v1 rfl rfl)
  obtain ⟨x1, e1'⟩ := o_GOut_36 _ _ ⟨_, _, e1⟩
  obtain rfl := toArray_of (show cs1.toList = _ from e1')
  obtain ⟨K, hr⟩ := pure_FrameJoins x0 x1
  refine (c_law09_FrameJoins (h := hp W) K x0 x1 (St.root W) hr).mono fun e W' he => ?_
  obtain ⟨_, rfl, rfl, S⟩ := he
  have bel := S.old
  exact ⟨_, rfl, _, _, _, [], _, [], hW', trodAll_mk1 (shut_bool (by kernel_rfl) _), (trodAll_cons_mk (Below.trod laidOut (by kernel_rfl) (of_decide_eq_true (by kernel_rfl)) k0 bel lt0) (trodAll_cons_mk (Below.trod laidOut (by kernel_rfl) (of_decide_eq_true (by kernel_rfl)) k1 bel lt1) trodAll_mk0)), rfl, bel.frame _, fun h => by cases h⟩
theorem over : Rows.frameJoinsRow.holds Try.pinned (OpenSpec.ofChange Rows.frameJoinsSpec) :=
  OpenClaim.holds_of_wide 6 Try.f6 rfl rfl rfl rfl rfl rfl rfl ⟨rfl, rfl, rfl, rfl, rfl⟩ rfl rfl rfl rfl rfl (by kernel_rfl) Try.func6 (by kernel_rfl)
    (of_decide_eq_true (by kernel_rfl)) (by unfold Func.isWrapper; first | (rw [if_pos (by decide +kernel)]; kernel_rfl) | (rw [if_neg (by decide +kernel)]; exact ⟨rfl, rfl⟩))
    (fun os started H enc _ => lifted os started H enc)
theorem proved : Rows.FrameJoinsSaid := over
end frameJoins
end Go.Proofs.Ytpfmbkknhcbeaaa.FrameJoins.L
namespace Go.Proofs.Ytpfmbkknhcbeaaa
/-- The row, under a short name, for the claim. -/
theorem frameJoins_holds : Rows.FrameJoinsSaid := FrameJoins.L.frameJoins.proved
end Go.Proofs.Ytpfmbkknhcbeaaa
