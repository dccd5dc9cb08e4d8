/- The walk of FrameStill and of what it calls, part 2: printed by a program of this work. -/
import Derived.Test.YtcoepljalekglaaFrameStillW1
set_option linter.unusedVariables false
set_option linter.unusedSimpArgs false
namespace Go.Proofs.Ytcoepljalekglaa.FrameStill.W
open Go.Proofs.Ytcoepljalekglaa.G2 Go.Proofs
attribute [local irreducible] WE WL LP WD Does Tells
def frame_New (K : Nat) (x0 : List GFunc) (x1 : Int) (x2 : List GValue) (x3 : Int) : Option (GFrame × Bool) :=
  (code_May K x0).bind fun y22 =>
  bnd (
      if !y22 then
        true
      else
        decide (x1 < 0)) fun y23 =>
  bnd (
      if y23 then
        true
      else
        decide (x1 ≥ (x0.length : Int))) fun y24 =>
  bnd (
      if y24 then
        true
      else
        decide (x3 < 0)) fun y25 =>
  bnd (
      if y25 then
        true
      else
        decide (x3 > 4294967295)) fun y26 =>
  if y26 then
    some ((⟨0, 0, [], [], [], 0, 0, 0, 0, 0, (⟨0, (⟨0, 0⟩ : GValue)⟩ : GOut), (⟨0, 0⟩ : GRef), 0⟩ : GFrame), false)
  else
    if 0 ≤ x1 ∧ x1 < x0.length then
      bnd (
          if decide (((gd x0 x1).Arity) > ((gd x0 x1).Locals)) then
            true
          else
            (x2.length : Int) != ((gd x0 x1).Arity)) fun y33 =>
      (
          if y33 then
            some true
          else
            (slices_ContainsFunc_Value_at22 K x2).bind fun y42 =>
            some y42).bind fun y34 =>
      if y34 then
        some ((⟨0, 0, [], [], [], 0, 0, 0, 0, 0, (⟨0, (⟨0, 0⟩ : GValue)⟩ : GOut), (⟨0, 0⟩ : GRef), 0⟩ : GFrame), false)
      else
        if 0 ≤ ((gd x0 x1).Locals) ∧ ((gd x0 x1).Locals) ≤ ((gd x0 x1).Locals) ∧ ((gd x0 x1).Locals).toNat * 16 ≤ LIM ∧ ((gd x0 x1).Locals) ≤ 9223372036854775807 then
          if 0 ≤ ((gd x0 x1).Slots) ∧ ((gd x0 x1).Slots) ≤ ((gd x0 x1).Slots) ∧ ((gd x0 x1).Slots).toNat * 48 ≤ LIM ∧ ((gd x0 x1).Slots) ≤ 9223372036854775807 then
            bnd frame_noRef fun y41 =>
            some ((⟨x1, 0, [], (copied (List.replicate ((gd x0 x1).Locals).toNat (⟨0, 0⟩ : GValue)) x2), (List.replicate ((gd x0 x1).Slots).toNat (⟨0, (⟨0, 0⟩ : GRef), (⟨0, (⟨0, 0⟩ : GValue)⟩ : GOut)⟩ : GSlot)), x3, 0, 0, 0, 0, (⟨0, (⟨0, 0⟩ : GValue)⟩ : GOut), y41, 0⟩ : GFrame), true)
          else none
        else none
    else none
set_option maxRecDepth 100000 in
theorem c_frame_New {w0 w : World} {h : Gh} {L : List Ent} (K : Nat) (x0 : List GFunc) {a1 : Option Addr} {c1 : Nat} (f1 : Sl rGFunc 48 h a1 c1 x0) (x1 : Int) (x2 : List GValue) {a2 : Option Addr} {c2 : Nat} (f2 : Sl rGValue 16 h a2 c2 x2) (x3 : Int) (H : St w0 h w L) {r : GFrame × Bool} (hr : frame_New K x0 x1 x2 x3 = some r) : Calls Try.prog 8 #[.slice a1 x0.length c1, .int .i64 x1, .slice a2 x2.length c2, .int .i64 x3] w (fun e w' => ∃ v, e = .returned v ∧ ∃ (h' : Gh) (a901 : Option Addr) (c901 : Nat) (a902 : Option Addr) (c902 : Nat) (a903 : Option Addr) (c903 : Nat), v = .tuple #[.agg (cGFrame r.1 a901 c901 a902 c902 a903 c903).toArray, .bool r.2] ∧ h.le h' ∧ Sl rGValue 16 h' a901 c901 r.1.Stack ∧ St w0 h' w' (row rGValue 16 h' a902 c902 r.1.Locals :: row rGSlot 48 h' a903 c903 r.1.Slots :: L)) := by
  refine calls_of (args := [.slice a1 x0.length c1, .int .i64 x1, .slice a2 x2.length c2, .int .i64 x3]) (n := 69) (rs := [.cell 8 40, .tmp 9]) Try.func8 rfl rfl rfl rfl rfl ?_
  unfold frame_New at hr
  refine WE.seq ?_
  refine WE.region ?_
  refine WL.does (by kernel_rfl) (by kernel_rfl) (Does.alloc H (cGFrame (⟨0, 0, [], [], [], 0, 0, 0, 0, 0, (⟨0, (⟨0, 0⟩ : GValue)⟩ : GOut), (⟨0, 0⟩ : GRef), 0⟩ : GFrame) none 0 none 0 none 0) (by kernel_rfl) fun b21 w H => ?_)
  refine WL.fin 1 (by kernel_rfl) (by kernel_rfl) ?_
  refine WE.seq ?_
  refine WE.seq ?_
  refine WE.region ?_
  obtain ⟨y22, q22, hr⟩ := bind_cases hr
  refine WL.sg 1 (by kernel_rfl) ?_
  refine WL.does (by kernel_rfl) (by kernel_rfl) (Does.call (c_code_May K x0 f1 H q22) (by kernel_rfl) ?_)
  rintro _ w ⟨rfl, H⟩
  refine WL.sg 2 (by kernel_rfl) ?_
  obtain ⟨y23, hy23, hr⟩ := bnd_cases hr
  refine WL.join 3 (fun (_ : Unit) => [(0, .slice a1 x0.length c1), (1, .int .i64 x1), (2, .slice a2 x2.length c2), (3, .int .i64 x3), (8, .pointer (some ⟨b21, 0, none⟩)), (18, .bool y23)]) (fun (_ : Unit) w => St w0 h w (var b21 (cGFrame (⟨0, 0, [], [], [], 0, 0, 0, 0, 0, (⟨0, (⟨0, 0⟩ : GValue)⟩ : GOut), (⟨0, 0⟩ : GRef), 0⟩ : GFrame) none 0 none 0 none 0) 40 :: L)) ?_ (fun hk_y23 => ?_)
  · rintro _ w H
    refine WL.sg 1 (by kernel_rfl) ?_
    obtain ⟨y24, hy24, hr⟩ := bnd_cases hr
    refine WL.join 5 (fun (_ : Unit) => [(0, .slice a1 x0.length c1), (1, .int .i64 x1), (2, .slice a2 x2.length c2), (3, .int .i64 x3), (8, .pointer (some ⟨b21, 0, none⟩)), (24, .bool y24)]) (fun (_ : Unit) w => St w0 h w (var b21 (cGFrame (⟨0, 0, [], [], [], 0, 0, 0, 0, 0, (⟨0, (⟨0, 0⟩ : GValue)⟩ : GOut), (⟨0, 0⟩ : GRef), 0⟩ : GFrame) none 0 none 0 none 0) 40 :: L)) ?_ (fun hk_y24 => ?_)
    · rintro _ w H
      refine WL.sg 1 (by kernel_rfl) ?_
      obtain ⟨y25, hy25, hr⟩ := bnd_cases hr
      refine WL.join 3 (fun (_ : Unit) => [(0, .slice a1 x0.length c1), (1, .int .i64 x1), (2, .slice a2 x2.length c2), (3, .int .i64 x3), (8, .pointer (some ⟨b21, 0, none⟩)), (28, .bool y25)]) (fun (_ : Unit) w => St w0 h w (var b21 (cGFrame (⟨0, 0, [], [], [], 0, 0, 0, 0, 0, (⟨0, (⟨0, 0⟩ : GValue)⟩ : GOut), (⟨0, 0⟩ : GRef), 0⟩ : GFrame) none 0 none 0 none 0) 40 :: L)) ?_ (fun hk_y25 => ?_)
      · rintro _ w H
        refine WL.sg 1 (by kernel_rfl) ?_
        obtain ⟨y26, hy26, hr⟩ := bnd_cases hr
        refine WL.join 3 (fun (_ : Unit) => [(0, .slice a1 x0.length c1), (1, .int .i64 x1), (2, .slice a2 x2.length c2), (3, .int .i64 x3), (8, .pointer (some ⟨b21, 0, none⟩)), (32, .bool y26)]) (fun (_ : Unit) w => St w0 h w (var b21 (cGFrame (⟨0, 0, [], [], [], 0, 0, 0, 0, 0, (⟨0, (⟨0, 0⟩ : GValue)⟩ : GOut), (⟨0, 0⟩ : GRef), 0⟩ : GFrame) none 0 none 0 none 0) 40 :: L)) ?_ (fun hk_y26 => ?_)
        · rintro _ w H
          refine WL.fin 0 (by kernel_rfl) (by kernel_rfl) ?_
          rcases ite_cases hr with ⟨t27, hr⟩ | ⟨t27, hr⟩
          · refine WE.yes (by kernel_rfl) (b := y26) (by kernel_rfl) t27 ?_
            refine WE.seq ?_
            refine WE.region ?_
            refine WL.sg 1 (by kernel_rfl) ?_
            refine WL.does (by kernel_rfl) (by kernel_rfl) (Does.storeE H 0 (cGFrame (⟨0, 0, [], [], [], 0, 0, 0, 0, 0, (⟨0, (⟨0, 0⟩ : GValue)⟩ : GOut), (⟨0, 0⟩ : GRef), 0⟩ : GFrame) none 0 none 0 none 0) rfl (q := 0) (by kernel_rfl) (by kernel_rfl) (by kernel_rfl) fun w H => ?_)
            refine WL.fin 1 (by kernel_rfl) (by kernel_rfl) ?_
            have H := H.rowNil rGValue 16
            have H := H.rowNil rGSlot 48
            obtain rfl := Option.some.inj hr
            exact WE.ret ⟨[.agg (cGFrame (⟨0, 0, [], [], [], 0, 0, 0, 0, 0, (⟨0, (⟨0, 0⟩ : GValue)⟩ : GOut), (⟨0, 0⟩ : GRef), 0⟩ : GFrame) none 0 none 0 none 0).toArray, .bool false], ⟨⟨(by kernel_rfl), ⟨b21, 0, none⟩, (by kernel_rfl), H.loadVar 2 rfl 0 (by kernel_rfl)⟩, ⟨(by kernel_rfl), (by kernel_rfl)⟩, trivial⟩, ⟨h, none, 0, none, 0, none, 0, rfl, (Gh.refl _), (Sl.nil _ _ (Nat.zero_le _)), ((H.front 1 rfl).mid 2 1)⟩⟩
          · refine WE.no (by kernel_rfl) (b := y26) (by kernel_rfl) t27 ?_
            refine WE.skip ?_
            refine WE.seq ?_
            refine WE.region ?_
            obtain ⟨⟨g0_30, g1_30⟩, hr⟩ := grd_cases hr
            obtain ⟨b30, p30, C30, e30, fr30, cs30, rfl, hb30, hc30, ⟨a31, c31, rfl, f31⟩⟩ := f1.at g0_30 g1_30
            refine WL.sg 2 (by kernel_rfl) ?_
            refine WL.does (by kernel_rfl) (by kernel_rfl) (Does.tells (.idx b30 (p30) x0.length c1 x1 4 (by kernel_rfl) (by kernel_rfl) g0_30 g1_30 (by kernel_rfl)) ?_)
            refine WL.does (by kernel_rfl) (by kernel_rfl) (Does.loadR H hb30 hc30 0 (by kernel_rfl) (by kernel_rfl) ?_)
            refine WL.does (by kernel_rfl) (by kernel_rfl) (Does.alloc H (cGFunc (⟨0, 0, 0, []⟩ : GFunc) none 0) (by kernel_rfl) fun b32 w H => ?_)
            refine WL.does (by kernel_rfl) (by kernel_rfl) (Does.storeE H 0 (cGFunc (⟨(gd x0 x1).Arity, (gd x0 x1).Locals, (gd x0 x1).Slots, (gd x0 x1).Code⟩ : GFunc) a31 c31) rfl (q := 0) (by kernel_rfl) (by kernel_rfl) (by kernel_rfl) fun w H => ?_)
            refine WL.fin 0 (by kernel_rfl) (by kernel_rfl) ?_
            refine WE.seq ?_
            refine WE.seq ?_
            refine WE.region ?_
            refine WL.sg 1 (by kernel_rfl) ?_
            refine WL.does (by kernel_rfl) (by kernel_rfl) (Does.loadV H 0 rfl 0 (by kernel_rfl) (by kernel_rfl) ?_)
            refine WL.sg 1 (by kernel_rfl) ?_
            refine WL.does (by kernel_rfl) (by kernel_rfl) (Does.loadV H 0 rfl 1 (by kernel_rfl) (by kernel_rfl) ?_)
            refine WL.sg 2 (by kernel_rfl) ?_
            obtain ⟨y33, hy33, hr⟩ := bnd_cases hr
            refine WL.join 6 (fun (_ : Unit) => [(1, .int .i64 x1), (2, .slice a2 x2.length c2), (3, .int .i64 x3), (8, .pointer (some ⟨b21, 0, none⟩)), (10, .pointer (some ⟨b32, 0, none⟩)), (49, .bool y33)]) (fun (_ : Unit) w => St w0 h w (var b32 (cGFunc (⟨(gd x0 x1).Arity, (gd x0 x1).Locals, (gd x0 x1).Slots, (gd x0 x1).Code⟩ : GFunc) a31 c31) 31 :: var b21 (cGFrame (⟨0, 0, [], [], [], 0, 0, 0, 0, 0, (⟨0, (⟨0, 0⟩ : GValue)⟩ : GOut), (⟨0, 0⟩ : GRef), 0⟩ : GFrame) none 0 none 0 none 0) 40 :: L)) ?_ (fun hk_y33 => ?_)
            · rintro _ w H
              refine WL.sg 1 (by kernel_rfl) ?_
              obtain ⟨y34, hy34, hr⟩ := bind_cases hr
              refine WL.join 3 (fun (_ : Unit) => [(1, .int .i64 x1), (2, .slice a2 x2.length c2), (3, .int .i64 x3), (8, .pointer (some ⟨b21, 0, none⟩)), (10, .pointer (some ⟨b32, 0, none⟩)), (53, .bool y34)]) (fun (_ : Unit) w => St w0 h w (var b32 (cGFunc (⟨(gd x0 x1).Arity, (gd x0 x1).Locals, (gd x0 x1).Slots, (gd x0 x1).Code⟩ : GFunc) a31 c31) 31 :: var b21 (cGFrame (⟨0, 0, [], [], [], 0, 0, 0, 0, 0, (⟨0, (⟨0, 0⟩ : GValue)⟩ : GOut), (⟨0, 0⟩ : GRef), 0⟩ : GFrame) none 0 none 0 none 0) 40 :: L)) ?_ (fun hk_y34 => ?_)
              · rintro _ w H
                refine WL.fin 0 (by kernel_rfl) (by kernel_rfl) ?_
                rcases ite_cases hr with ⟨t36, hr⟩ | ⟨t36, hr⟩
                · refine WE.yes (by kernel_rfl) (b := y34) (by kernel_rfl) t36 ?_
                  refine WE.seq ?_
                  refine WE.region ?_
                  refine WL.sg 1 (by kernel_rfl) ?_
                  refine WL.does (by kernel_rfl) (by kernel_rfl) (Does.storeE H 1 (cGFrame (⟨0, 0, [], [], [], 0, 0, 0, 0, 0, (⟨0, (⟨0, 0⟩ : GValue)⟩ : GOut), (⟨0, 0⟩ : GRef), 0⟩ : GFrame) none 0 none 0 none 0) rfl (q := 0) (by kernel_rfl) (by kernel_rfl) (by kernel_rfl) fun w H => ?_)
                  refine WL.fin 1 (by kernel_rfl) (by kernel_rfl) ?_
                  have H := H.rowNil rGValue 16
                  have H := H.rowNil rGSlot 48
                  obtain rfl := Option.some.inj hr
                  exact WE.ret ⟨[.agg (cGFrame (⟨0, 0, [], [], [], 0, 0, 0, 0, 0, (⟨0, (⟨0, 0⟩ : GValue)⟩ : GOut), (⟨0, 0⟩ : GRef), 0⟩ : GFrame) none 0 none 0 none 0).toArray, .bool false], ⟨⟨(by kernel_rfl), ⟨b21, 0, none⟩, (by kernel_rfl), H.loadVar 3 rfl 0 (by kernel_rfl)⟩, ⟨(by kernel_rfl), (by kernel_rfl)⟩, trivial⟩, ⟨h, none, 0, none, 0, none, 0, rfl, (Gh.refl _), (Sl.nil _ _ (Nat.zero_le _)), ((H.front 1 rfl).mid 2 2)⟩⟩
                · refine WE.no (by kernel_rfl) (b := y34) (by kernel_rfl) t36 ?_
                  refine WE.skip ?_
                  refine WE.seq ?_
                  refine WE.region ?_
                  refine WL.sg 1 (by kernel_rfl) ?_
                  refine WL.does (by kernel_rfl) (by kernel_rfl) (Does.loadV H 0 rfl 1 (by kernel_rfl) (by kernel_rfl) ?_)
                  obtain ⟨⟨g0_39, g1_39, g2_39, g3_39⟩, hr⟩ := grd_cases hr
                  refine WL.does (by kernel_rfl) (by kernel_rfl) (Does.make (K := rGValue) (B := 16) (e := 33) (z := .agg #[.int .i64 0, .int .i64 0]) H (z1 := ((gd x0 x1).Locals)) (z2 := ((gd x0 x1).Locals)) (by kernel_rfl) (by kernel_rfl) (by kernel_rfl) (y0 := (⟨0, 0⟩ : GValue)) (by show _ = _; kernel_rfl) g0_39 g1_39 g2_39 g3_39 fun b39 w H => ?_)
                  refine WL.fin 1 (by kernel_rfl) (by kernel_rfl) ?_
                  refine WE.seq ?_
                  refine WE.region ?_
                  refine WL.sg 2 (by kernel_rfl) ?_
                  refine WL.does (by kernel_rfl) (by kernel_rfl) (Does.copy (t := 28) (xt := 28) (ty := 3) (e := 33) (z := .agg #[.int .i64 0, .int .i64 0]) H 0 rfl (Gh.refl _) (ys := x2) (c2 := c2) (f2.src H) (by kernel_rfl) (by kernel_rfl) fun w H => ?_)
                  refine WL.spelt 11 (v := .slice (some ⟨b39, 0, none⟩) (copied (List.replicate ((gd x0 x1).Locals).toNat (⟨0, 0⟩ : GValue)) x2).length (((gd x0 x1).Locals).toNat)) (by kernel_rfl) (Eq.trans (b := .slice (some ⟨b39, 0, none⟩) (List.replicate ((gd x0 x1).Locals).toNat (⟨0, 0⟩ : GValue)).length (((gd x0 x1).Locals).toNat)) (by kernel_rfl) (sl_len (copied_len ..).symm)) ?_
                  refine WL.fin 0 (by kernel_rfl) (by kernel_rfl) ?_
                  refine WE.seq ?_
                  refine WE.draws mo [1, 3, 8, 10, 11] (ρ' := [(1, .int .i64 x1), (3, .int .i64 x3), (8, .pointer (some ⟨b21, 0, none⟩)), (10, .pointer (some ⟨b32, 0, none⟩)), (11, .slice (some ⟨b39, 0, none⟩) (copied (List.replicate ((gd x0 x1).Locals).toNat (⟨0, 0⟩ : GValue)) x2).length (((gd x0 x1).Locals).toNat))]) (by kernel_rfl) fun w e1 e2 e3 e4 => ?_
                  have H := H.same e1 e2 e3 e4
                  clear e1 e2 e3 e4
                  refine WD.know [0] (by kernel_rfl) ?_
                  refine WD.know [1] (by kernel_rfl) ?_
                  refine WD.know [2] (by kernel_rfl) ?_
                  refine WD.told 3 64 (.int .i64 ((gd x0 x1).Slots)) (by kernel_rfl) (by kernel_rfl) ?_
                  refine WD.know [5] (by kernel_rfl) ?_
                  obtain ⟨⟨g0_40, g1_40, g2_40, g3_40⟩, hr⟩ := grd_cases hr
                  obtain ⟨y41, q41, hr⟩ := bnd_cases hr
                  refine WD.either 4 6 (by kernel_rfl) (Floats.of [5, 2, 1, 0] [3] (by kernel_rfl) (Floats.pure _ (by kernel_rfl) (by kernel_rfl)) (.cons (.tells rfl (by kernel_rfl) rfl (.loadV H 1 rfl 2 (by kernel_rfl) (by kernel_rfl))) .nil)) ?_ ?_
                  · refine WT.does 4 (by kernel_rfl) rfl (by kernel_rfl) (by kernel_rfl) (Does.make (K := rGSlot) (B := 48) (e := 80) (z := .agg (cGSlot (⟨0, (⟨0, 0⟩ : GRef), (⟨0, (⟨0, 0⟩ : GValue)⟩ : GOut)⟩ : GSlot)).toArray) H (z1 := ((gd x0 x1).Slots)) (z2 := ((gd x0 x1).Slots)) (by kernel_rfl) (by kernel_rfl) (by kernel_rfl) (y0 := (⟨0, (⟨0, 0⟩ : GRef), (⟨0, (⟨0, 0⟩ : GValue)⟩ : GOut)⟩ : GSlot)) (by show _ = _; kernel_rfl) g0_40 g1_40 g2_40 g3_40 fun b40 w H => ?_)
                    refine WD.does 6 (by kernel_rfl) rfl (Floats.of [5, 2, 1, 0] [] (by kernel_rfl) (Floats.pure _ (by kernel_rfl) (by kernel_rfl)) .nil) (by kernel_rfl) (by kernel_rfl) (Does.call (c_frame_noRef H q41) (by kernel_rfl) ?_)
                    rintro _ w ⟨rfl, H⟩
                    refine WD.know [7] (by kernel_rfl) ?_
                    refine WD.does 8 (by kernel_rfl) rfl (Floats.of [7, 5, 2, 1, 0] [] (by kernel_rfl) (Floats.pure _ (by kernel_rfl) (by kernel_rfl)) .nil) (by kernel_rfl) (by kernel_rfl) (Does.storeE H 3 (cGFrame (⟨x1, 0, [], (copied (List.replicate ((gd x0 x1).Locals).toNat (⟨0, 0⟩ : GValue)) x2), (List.replicate ((gd x0 x1).Slots).toNat (⟨0, (⟨0, 0⟩ : GRef), (⟨0, (⟨0, 0⟩ : GValue)⟩ : GOut)⟩ : GSlot)), x3, 0, 0, 0, 0, (⟨0, (⟨0, 0⟩ : GValue)⟩ : GOut), y41, 0⟩ : GFrame) none 0 (some ⟨b39, 0, none⟩) (((gd x0 x1).Locals).toNat) (some ⟨b40, 0, none⟩) (((gd x0 x1).Slots).toNat)) rfl (q := 0) (by kernel_rfl) (by kernel_rfl) (by kernel_rfl) fun w H => ?_)
                    refine WD.does 9 (by kernel_rfl) rfl (Floats.of [] [] (by kernel_rfl) .nil .nil) (by kernel_rfl) (by kernel_rfl) (Does.reck (by kernel_rfl) ?_)
                    refine WD.fin (by kernel_rfl) (Floats.of [] [] (by kernel_rfl) .nil .nil) (by kernel_rfl) (by kernel_rfl) ?_
                    obtain rfl := Option.some.inj hr
                    exact WE.ret ⟨[.agg (cGFrame (⟨x1, 0, [], (copied (List.replicate ((gd x0 x1).Locals).toNat (⟨0, 0⟩ : GValue)) x2), (List.replicate ((gd x0 x1).Slots).toNat (⟨0, (⟨0, 0⟩ : GRef), (⟨0, (⟨0, 0⟩ : GValue)⟩ : GOut)⟩ : GSlot)), x3, 0, 0, 0, 0, (⟨0, (⟨0, 0⟩ : GValue)⟩ : GOut), y41, 0⟩ : GFrame) none 0 (some ⟨b39, 0, none⟩) (((gd x0 x1).Locals).toNat) (some ⟨b40, 0, none⟩) (((gd x0 x1).Slots).toNat)).toArray, .bool true], ⟨⟨(by kernel_rfl), ⟨b21, 0, none⟩, (by kernel_rfl), H.loadVar 3 rfl 0 (by kernel_rfl)⟩, ⟨(by kernel_rfl), (by kernel_rfl)⟩, trivial⟩, ⟨h, none, 0, (some ⟨b39, 0, none⟩), ((gd x0 x1).Locals).toNat, (some ⟨b40, 0, none⟩), ((gd x0 x1).Slots).toNat, rfl, (Gh.refl _), (Sl.nil _ _ (Nat.zero_le _)), ((H.front 1 rfl).mid 2 2)⟩⟩
                  · refine WT.does 6 (by kernel_rfl) rfl (by kernel_rfl) (by kernel_rfl) (Does.call (c_frame_noRef H q41) (by kernel_rfl) ?_)
                    rintro _ w ⟨rfl, H⟩
                    refine WD.does 4 (by kernel_rfl) rfl (Floats.of [5, 2, 1, 0] [3] (by kernel_rfl) (Floats.pure _ (by kernel_rfl) (by kernel_rfl)) (.cons (.tells rfl (by kernel_rfl) rfl (.loadV H 1 rfl 2 (by kernel_rfl) (by kernel_rfl))) .nil)) (by kernel_rfl) (by kernel_rfl) (Does.make (K := rGSlot) (B := 48) (e := 80) (z := .agg (cGSlot (⟨0, (⟨0, 0⟩ : GRef), (⟨0, (⟨0, 0⟩ : GValue)⟩ : GOut)⟩ : GSlot)).toArray) H (z1 := ((gd x0 x1).Slots)) (z2 := ((gd x0 x1).Slots)) (by kernel_rfl) (by kernel_rfl) (by kernel_rfl) (y0 := (⟨0, (⟨0, 0⟩ : GRef), (⟨0, (⟨0, 0⟩ : GValue)⟩ : GOut)⟩ : GSlot)) (by show _ = _; kernel_rfl) g0_40 g1_40 g2_40 g3_40 fun b40 w H => ?_)
                    refine WD.know [7] (by kernel_rfl) ?_
                    refine WD.does 8 (by kernel_rfl) rfl (Floats.of [7, 5, 2, 1, 0] [] (by kernel_rfl) (Floats.pure _ (by kernel_rfl) (by kernel_rfl)) .nil) (by kernel_rfl) (by kernel_rfl) (Does.storeE H 3 (cGFrame (⟨x1, 0, [], (copied (List.replicate ((gd x0 x1).Locals).toNat (⟨0, 0⟩ : GValue)) x2), (List.replicate ((gd x0 x1).Slots).toNat (⟨0, (⟨0, 0⟩ : GRef), (⟨0, (⟨0, 0⟩ : GValue)⟩ : GOut)⟩ : GSlot)), x3, 0, 0, 0, 0, (⟨0, (⟨0, 0⟩ : GValue)⟩ : GOut), y41, 0⟩ : GFrame) none 0 (some ⟨b39, 0, none⟩) (((gd x0 x1).Locals).toNat) (some ⟨b40, 0, none⟩) (((gd x0 x1).Slots).toNat)) rfl (q := 0) (by kernel_rfl) (by kernel_rfl) (by kernel_rfl) fun w H => ?_)
                    refine WD.does 9 (by kernel_rfl) rfl (Floats.of [] [] (by kernel_rfl) .nil .nil) (by kernel_rfl) (by kernel_rfl) (Does.reck (by kernel_rfl) ?_)
                    refine WD.fin (by kernel_rfl) (Floats.of [] [] (by kernel_rfl) .nil .nil) (by kernel_rfl) (by kernel_rfl) ?_
                    obtain rfl := Option.some.inj hr
                    exact WE.ret ⟨[.agg (cGFrame (⟨x1, 0, [], (copied (List.replicate ((gd x0 x1).Locals).toNat (⟨0, 0⟩ : GValue)) x2), (List.replicate ((gd x0 x1).Slots).toNat (⟨0, (⟨0, 0⟩ : GRef), (⟨0, (⟨0, 0⟩ : GValue)⟩ : GOut)⟩ : GSlot)), x3, 0, 0, 0, 0, (⟨0, (⟨0, 0⟩ : GValue)⟩ : GOut), y41, 0⟩ : GFrame) none 0 (some ⟨b39, 0, none⟩) (((gd x0 x1).Locals).toNat) (some ⟨b40, 0, none⟩) (((gd x0 x1).Slots).toNat)).toArray, .bool true], ⟨⟨(by kernel_rfl), ⟨b21, 0, none⟩, (by kernel_rfl), H.loadVar 3 rfl 0 (by kernel_rfl)⟩, ⟨(by kernel_rfl), (by kernel_rfl)⟩, trivial⟩, ⟨h, none, 0, (some ⟨b39, 0, none⟩), ((gd x0 x1).Locals).toNat, (some ⟨b40, 0, none⟩), ((gd x0 x1).Slots).toNat, rfl, (Gh.refl _), (Sl.nil _ _ (Nat.zero_le _)), ((H.front 1 rfl).mid 2 2)⟩⟩
              rcases ite_cases hy34 with ⟨ty34, hy34⟩ | ⟨ty34, hy34⟩
              · refine WL.known 50 ty34 (by kernel_rfl) (by kernel_rfl) ?_
                refine WL.sg 3 (by kernel_rfl) ?_
                obtain rfl := Option.some.inj hy34
                exact WL.live [1, 2, 3, 8, 10, 53] (by kernel_rfl) (hk_y34 () _ H)
              · refine WL.known 50 ty34 (by kernel_rfl) (by kernel_rfl) ?_
                obtain ⟨y42, q42, hy34⟩ := bind_cases hy34
                refine WL.sg 1 (by kernel_rfl) ?_
                refine WL.does (by kernel_rfl) (by kernel_rfl) (Does.call (c_slices_ContainsFunc_Value_at22 K x2 f2 H q42) (by kernel_rfl) ?_)
                rintro _ w ⟨rfl, H⟩
                refine WL.sg 1 (by kernel_rfl) ?_
                obtain rfl := Option.some.inj hy34
                exact WL.live [1, 2, 3, 8, 10, 53] (by kernel_rfl) (hk_y34 () _ H)
            rcases ite_cases hy33 with ⟨ty33, hy33⟩ | ⟨ty33, hy33⟩
            · refine WL.known 43 ty33 (by kernel_rfl) (by kernel_rfl) ?_
              refine WL.sg 6 (by kernel_rfl) ?_
              obtain rfl := hy33
              exact WL.live [1, 2, 3, 8, 10, 49] (by kernel_rfl) (hk_y33 () _ H)
            · refine WL.known 43 ty33 (by kernel_rfl) (by kernel_rfl) ?_
              refine WL.sg 3 (by kernel_rfl) ?_
              refine WL.does (by kernel_rfl) (by kernel_rfl) (Does.loadV H 0 rfl 0 (by kernel_rfl) (by kernel_rfl) ?_)
              refine WL.sg 2 (by kernel_rfl) ?_
              obtain rfl := hy33
              exact WL.live [1, 2, 3, 8, 10, 49] (by kernel_rfl) (hk_y33 () _ H)
        rcases ite_cases hy26 with ⟨ty26, hy26⟩ | ⟨ty26, hy26⟩
        · refine WL.known 29 ty26 (by kernel_rfl) (by kernel_rfl) ?_
          refine WL.sg 3 (by kernel_rfl) ?_
          obtain rfl := hy26
          exact WL.live [0, 1, 2, 3, 8, 32] (by kernel_rfl) (hk_y26 () _ H)
        · refine WL.known 29 ty26 (by kernel_rfl) (by kernel_rfl) ?_
          refine WL.sg 3 (by kernel_rfl) ?_
          obtain rfl := hy26
          exact WL.live [0, 1, 2, 3, 8, 32] (by kernel_rfl) (hk_y26 () _ H)
      rcases ite_cases hy25 with ⟨ty25, hy25⟩ | ⟨ty25, hy25⟩
      · refine WL.known 25 ty25 (by kernel_rfl) (by kernel_rfl) ?_
        refine WL.sg 3 (by kernel_rfl) ?_
        obtain rfl := hy25
        exact WL.live [0, 1, 2, 3, 8, 28] (by kernel_rfl) (hk_y25 () _ H)
      · refine WL.known 25 ty25 (by kernel_rfl) (by kernel_rfl) ?_
        refine WL.sg 3 (by kernel_rfl) ?_
        obtain rfl := hy25
        exact WL.live [0, 1, 2, 3, 8, 28] (by kernel_rfl) (hk_y25 () _ H)
    rcases ite_cases hy24 with ⟨ty24, hy24⟩ | ⟨ty24, hy24⟩
    · refine WL.known 19 ty24 (by kernel_rfl) (by kernel_rfl) ?_
      refine WL.sg 5 (by kernel_rfl) ?_
      obtain rfl := hy24
      exact WL.live [0, 1, 2, 3, 8, 24] (by kernel_rfl) (hk_y24 () _ H)
    · refine WL.known 19 ty24 (by kernel_rfl) (by kernel_rfl) ?_
      refine WL.sg 5 (by kernel_rfl) ?_
      obtain rfl := hy24
      exact WL.live [0, 1, 2, 3, 8, 24] (by kernel_rfl) (hk_y24 () _ H)
  rcases ite_cases hy23 with ⟨ty23, hy23⟩ | ⟨ty23, hy23⟩
  · refine WL.known 15 ty23 (by kernel_rfl) (by kernel_rfl) ?_
    refine WL.sg 3 (by kernel_rfl) ?_
    obtain rfl := hy23
    exact WL.live [0, 1, 2, 3, 8, 18] (by kernel_rfl) (hk_y23 () _ H)
  · refine WL.known 15 ty23 (by kernel_rfl) (by kernel_rfl) ?_
    refine WL.sg 3 (by kernel_rfl) ?_
    obtain rfl := hy23
    exact WL.live [0, 1, 2, 3, 8, 18] (by kernel_rfl) (hk_y23 () _ H)
def slices_Clone_Value (x0 : List GValue) : Option (List GValue) := if x0.length * 16 ≤ LIM then some x0 else none
set_option maxRecDepth 100000 in
theorem c_slices_Clone_Value {w0 w : World} {h : Gh} {L : List Ent} (x0 : List GValue) {a : Option Addr} {c : Nat} (f : Sl rGValue 16 h a c x0) (H : St w0 h w L) {r : List GValue} (hr : slices_Clone_Value x0 = some r) : Calls Try.prog 54 #[.slice a x0.length c] w (fun e w' => ∃ v, e = .returned v ∧ ∃ (h' : Gh) (a1 : Option Addr) (c1 : Nat), v = .slice a1 r.length c1 ∧ h.le h' ∧ St w0 h' w' (row rGValue 16 h' a1 c1 r :: L)) := by
  refine calls_of (args := [.slice a x0.length c]) (n := 8) (rs := [.tmp 2]) Try.func54 rfl rfl rfl rfl rfl ?_
  unfold slices_Clone_Value at hr
  obtain ⟨hB, hr⟩ := grd_cases hr
  obtain rfl := Option.some.inj hr
  cases a with
  | none =>
    have hx := f.none
    subst hx
    refine WE.seq (WE.region (WL.fin 1 (by kernel_rfl) (by kernel_rfl) ?_))
    refine WE.seq (WE.seq (WE.region (WL.fin 2 (by kernel_rfl) (by kernel_rfl) ?_)))
    refine WE.yes (by kernel_rfl) (b := true) (by kernel_rfl) rfl ?_
    refine WE.seq (WE.region (WL.fin 1 (by kernel_rfl) (by kernel_rfl) ?_))
    exact WE.ret ⟨[.slice none 0 0], ⟨⟨by kernel_rfl, by kernel_rfl⟩, trivial⟩, ⟨h, none, 0, rfl, Gh.refl _, H.rowNil _ _⟩⟩
  | some ad =>
    refine WE.seq (WE.region (WL.fin 1 (by kernel_rfl) (by kernel_rfl) ?_))
    refine WE.seq (WE.seq (WE.region (WL.fin 2 (by kernel_rfl) (by kernel_rfl) ?_)))
    refine WE.no (by kernel_rfl) (b := false) (by kernel_rfl) rfl (WE.skip ?_)
    refine WE.seq (WE.region ?_)
    refine WL.does (by kernel_rfl) (by kernel_rfl) (Does.lit (K := rGValue) (B := 16) (xs := []) (e := 33) H [] (by kernel_rfl) Rows.nil (by kernel_rfl) (by kernel_rfl) (by kernel_rfl) (by kernel_rfl) fun b w H => ?_)
    refine WL.sg 1 (by kernel_rfl) ?_
    refine WL.does (by kernel_rfl) (by kernel_rfl) (Does.append (t := 28) (xt := 28) (ty := 28) (e := 33) (e2 := 33) (z := .agg #[.int .i64 0, .int .i64 0]) H 0 rfl (Gh.refl _) (ys := x0) (c2 := c) (f.src H) (by simpa using hB) (by kernel_rfl) (by kernel_rfl) (by kernel_rfl) (by kernel_rfl) fun a1 c1 w H => ?_)
    refine WL.fin 1 (by kernel_rfl) (by kernel_rfl) ?_
    exact WE.ret ⟨[.slice a1 ([] ++ x0).length c1], ⟨⟨by kernel_rfl, by kernel_rfl⟩, trivial⟩, ⟨h, a1, c1, rfl, Gh.refl _, H⟩⟩
def slices_Clone_Slot (x0 : List GSlot) : Option (List GSlot) := if x0.length * 48 ≤ LIM then some x0 else none
set_option maxRecDepth 100000 in
theorem c_slices_Clone_Slot {w0 w : World} {h : Gh} {L : List Ent} (x0 : List GSlot) {a : Option Addr} {c : Nat} (f : Sl rGSlot 48 h a c x0) (H : St w0 h w L) {r : List GSlot} (hr : slices_Clone_Slot x0 = some r) : Calls Try.prog 55 #[.slice a x0.length c] w (fun e w' => ∃ v, e = .returned v ∧ ∃ (h' : Gh) (a1 : Option Addr) (c1 : Nat), v = .slice a1 r.length c1 ∧ h.le h' ∧ St w0 h' w' (row rGSlot 48 h' a1 c1 r :: L)) := by
  refine calls_of (args := [.slice a x0.length c]) (n := 8) (rs := [.tmp 2]) Try.func55 rfl rfl rfl rfl rfl ?_
  unfold slices_Clone_Slot at hr
  obtain ⟨hB, hr⟩ := grd_cases hr
  obtain rfl := Option.some.inj hr
  cases a with
  | none =>
    have hx := f.none
    subst hx
    refine WE.seq (WE.region (WL.fin 1 (by kernel_rfl) (by kernel_rfl) ?_))
    refine WE.seq (WE.seq (WE.region (WL.fin 2 (by kernel_rfl) (by kernel_rfl) ?_)))
    refine WE.yes (by kernel_rfl) (b := true) (by kernel_rfl) rfl ?_
    refine WE.seq (WE.region (WL.fin 1 (by kernel_rfl) (by kernel_rfl) ?_))
    exact WE.ret ⟨[.slice none 0 0], ⟨⟨by kernel_rfl, by kernel_rfl⟩, trivial⟩, ⟨h, none, 0, rfl, Gh.refl _, H.rowNil _ _⟩⟩
  | some ad =>
    refine WE.seq (WE.region (WL.fin 1 (by kernel_rfl) (by kernel_rfl) ?_))
    refine WE.seq (WE.seq (WE.region (WL.fin 2 (by kernel_rfl) (by kernel_rfl) ?_)))
    refine WE.no (by kernel_rfl) (b := false) (by kernel_rfl) rfl (WE.skip ?_)
    refine WE.seq (WE.region ?_)
    refine WL.does (by kernel_rfl) (by kernel_rfl) (Does.lit (K := rGSlot) (B := 48) (xs := []) (e := 80) H [] (by kernel_rfl) Rows.nil (by kernel_rfl) (by kernel_rfl) (by kernel_rfl) (by kernel_rfl) fun b w H => ?_)
    refine WL.sg 1 (by kernel_rfl) ?_
    refine WL.does (by kernel_rfl) (by kernel_rfl) (Does.append (t := 34) (xt := 34) (ty := 34) (e := 80) (e2 := 80) (z := .agg (cGSlot (⟨0, (⟨0, 0⟩ : GRef), (⟨0, (⟨0, 0⟩ : GValue)⟩ : GOut)⟩ : GSlot)).toArray) H 0 rfl (Gh.refl _) (ys := x0) (c2 := c) (f.src H) (by simpa using hB) (by kernel_rfl) (by kernel_rfl) (by kernel_rfl) (by kernel_rfl) fun a1 c1 w H => ?_)
    refine WL.fin 1 (by kernel_rfl) (by kernel_rfl) ?_
    exact WE.ret ⟨[.slice a1 ([] ++ x0).length c1], ⟨⟨by kernel_rfl, by kernel_rfl⟩, trivial⟩, ⟨h, a1, c1, rfl, Gh.refl _, H⟩⟩
def frame_clone (x0 : GFrame) : Option GFrame :=
  (slices_Clone_Value x0.Stack).bind fun y17 =>
  (slices_Clone_Value x0.Locals).bind fun y20 =>
  (slices_Clone_Slot x0.Slots).bind fun y23 =>
  some ({ x0 with Stack := y17, Locals := y20, Slots := y23 })
set_option maxRecDepth 100000 in
theorem c_frame_clone {w0 w : World} {h : Gh} {L : List Ent} (x0 : GFrame) {a1 : Option Addr} {c1 : Nat} {a2 : Option Addr} {c2 : Nat} {a3 : Option Addr} {c3 : Nat} (f1 : Sl rGValue 16 h a1 c1 x0.Stack) (f2 : Sl rGValue 16 h a2 c2 x0.Locals) (f3 : Sl rGSlot 48 h a3 c3 x0.Slots) (H : St w0 h w L) {r : GFrame} (hr : frame_clone x0 = some r) : Calls Try.prog 26 #[.agg (cGFrame x0 a1 c1 a2 c2 a3 c3).toArray] w (fun e w' => ∃ v, e = .returned v ∧ ∃ (h' : Gh) (a901 : Option Addr) (c901 : Nat) (a902 : Option Addr) (c902 : Nat) (a903 : Option Addr) (c903 : Nat), v = .agg (cGFrame r a901 c901 a902 c902 a903 c903).toArray ∧ h.le h' ∧ St w0 h' w' (row rGValue 16 h' a901 c901 r.Stack :: row rGValue 16 h' a902 c902 r.Locals :: row rGSlot 48 h' a903 c903 r.Slots :: L)) := by
  refine calls_of (args := [.agg (cGFrame x0 a1 c1 a2 c2 a3 c3).toArray]) (n := 16) (rs := [.cell 2 40]) Try.func26 rfl rfl rfl rfl rfl ?_
  unfold frame_clone at hr
  refine WE.seq ?_
  refine WE.region ?_
  refine WL.does (by kernel_rfl) (by kernel_rfl) (Does.box H (cGFrame x0 a1 c1 a2 c2 a3 c3) (by kernel_rfl) fun b15 w H => ?_)
  refine WL.does (by kernel_rfl) (by kernel_rfl) (Does.alloc H (cGFrame (⟨0, 0, [], [], [], 0, 0, 0, 0, 0, (⟨0, (⟨0, 0⟩ : GValue)⟩ : GOut), (⟨0, 0⟩ : GRef), 0⟩ : GFrame) none 0 none 0 none 0) (by kernel_rfl) fun b16 w H => ?_)
  refine WL.fin 0 (by kernel_rfl) (by kernel_rfl) ?_
  refine WE.seq ?_
  refine WE.draws mo [1, 2] (ρ' := [(1, .pointer (some ⟨b15, 0, none⟩)), (2, .pointer (some ⟨b16, 0, none⟩))]) (by kernel_rfl) fun w e1 e2 e3 e4 => ?_
  have H := H.same e1 e2 e3 e4
  clear e1 e2 e3 e4
  refine WD.know [0] (by kernel_rfl) ?_
  refine WD.told 1 4 (.slice a1 x0.Stack.length c1) (by kernel_rfl) (by kernel_rfl) ?_
  refine WD.know [3] (by kernel_rfl) ?_
  refine WD.told 4 7 (.slice a2 x0.Locals.length c2) (by kernel_rfl) (by kernel_rfl) ?_
  refine WD.know [6] (by kernel_rfl) ?_
  refine WD.told 7 10 (.slice a3 x0.Slots.length c3) (by kernel_rfl) (by kernel_rfl) ?_
  obtain ⟨y17, q17, hr⟩ := bind_cases hr
  refine WD.does 2 (by kernel_rfl) rfl (Floats.of [6, 3, 0] [7, 4, 1] (by kernel_rfl) (Floats.pure _ (by kernel_rfl) (by kernel_rfl)) (.cons (.tells rfl (by kernel_rfl) rfl (.loadV H 1 rfl 4 (by kernel_rfl) (by kernel_rfl))) (.cons (.tells rfl (by kernel_rfl) rfl (.loadV H 1 rfl 3 (by kernel_rfl) (by kernel_rfl))) (.cons (.tells rfl (by kernel_rfl) rfl (.loadV H 1 rfl 2 (by kernel_rfl) (by kernel_rfl))) .nil)))) (by kernel_rfl) (by kernel_rfl) (Does.call (c_slices_Clone_Value x0.Stack f1 H q17) (by kernel_rfl) ?_)
  rintro _ w ⟨h17, a18, c18, rfl, le17, H⟩
  refine WD.know [9] (by kernel_rfl) ?_
  obtain ⟨y20, q20, hr⟩ := bind_cases hr
  refine WD.does 5 (by kernel_rfl) rfl (Floats.of [9, 6, 3, 0] [7, 4] (by kernel_rfl) (Floats.pure _ (by kernel_rfl) (by kernel_rfl)) (.cons (.tells rfl (by kernel_rfl) rfl (.loadV H 2 rfl 4 (by kernel_rfl) (by kernel_rfl))) (.cons (.tells rfl (by kernel_rfl) rfl (.loadV H 2 rfl 3 (by kernel_rfl) (by kernel_rfl))) .nil))) (by kernel_rfl) (by kernel_rfl) (Does.call (c_slices_Clone_Value x0.Locals (f2.up le17) H q20) (by kernel_rfl) ?_)
  rintro _ w ⟨h20, a21, c21, rfl, le20, H⟩
  obtain ⟨y23, q23, hr⟩ := bind_cases hr
  refine WD.does 8 (by kernel_rfl) rfl (Floats.of [9, 6, 3, 0] [7] (by kernel_rfl) (Floats.pure _ (by kernel_rfl) (by kernel_rfl)) (.cons (.tells rfl (by kernel_rfl) rfl (.loadV H 3 rfl 4 (by kernel_rfl) (by kernel_rfl))) .nil)) (by kernel_rfl) (by kernel_rfl) (Does.call (c_slices_Clone_Slot x0.Slots ((f3.up le17).up le20) H q23) (by kernel_rfl) ?_)
  rintro _ w ⟨h23, a24, c24, rfl, le23, H⟩
  refine WD.does 10 (by kernel_rfl) rfl (Floats.of [9, 6, 3, 0] [] (by kernel_rfl) (Floats.pure _ (by kernel_rfl) (by kernel_rfl)) .nil) (by kernel_rfl) (by kernel_rfl) (Does.storeE H 4 (cGFrame ({ x0 with Stack := y17 }) a18 c18 a2 c2 a3 c3) rfl (q := 2) (by kernel_rfl) (by kernel_rfl) (by kernel_rfl) fun w H => ?_)
  refine WD.know [11] (by kernel_rfl) ?_
  refine WD.does 12 (by kernel_rfl) rfl (Floats.of [11] [] (by kernel_rfl) (Floats.pure _ (by kernel_rfl) (by kernel_rfl)) .nil) (by kernel_rfl) (by kernel_rfl) (Does.storeE H 4 (cGFrame ({ x0 with Stack := y17, Locals := y20 }) a18 c18 a21 c21 a3 c3) rfl (q := 3) (by kernel_rfl) (by kernel_rfl) (by kernel_rfl) fun w H => ?_)
  refine WD.know [13] (by kernel_rfl) ?_
  refine WD.does 14 (by kernel_rfl) rfl (Floats.of [13] [] (by kernel_rfl) (Floats.pure _ (by kernel_rfl) (by kernel_rfl)) .nil) (by kernel_rfl) (by kernel_rfl) (Does.storeE H 4 (cGFrame ({ x0 with Stack := y17, Locals := y20, Slots := y23 }) a18 c18 a21 c21 a24 c24) rfl (q := 4) (by kernel_rfl) (by kernel_rfl) (by kernel_rfl) fun w H => ?_)
  refine WD.fin (by kernel_rfl) (Floats.of [] [] (by kernel_rfl) .nil .nil) (by kernel_rfl) (by kernel_rfl) ?_
  refine WE.seq ?_
  refine WE.region ?_
  refine WL.does (by kernel_rfl) (by kernel_rfl) (Does.loadV H 4 rfl 0 (by kernel_rfl) (by kernel_rfl) ?_)
  refine WL.does (by kernel_rfl) (by kernel_rfl) (Does.storeE H 3 (cGFrame ({ x0 with Stack := y17, Locals := y20, Slots := y23 }) a18 c18 a21 c21 a24 c24) rfl (q := 0) (by kernel_rfl) (by kernel_rfl) (by kernel_rfl) fun w H => ?_)
  refine WL.fin 0 (by kernel_rfl) (by kernel_rfl) ?_
  have H := H.rowUp 2 rfl (le20.trans le23)
  have H := H.rowUp 1 rfl le23
  obtain rfl := Option.some.inj hr
  exact WE.ret ⟨[.agg (cGFrame ({ x0 with Stack := y17, Locals := y20, Slots := y23 }) a18 c18 a21 c21 a24 c24).toArray], ⟨⟨(by kernel_rfl), ⟨b16, 0, none⟩, (by kernel_rfl), H.loadVar 3 rfl 0 (by kernel_rfl)⟩, trivial⟩, ⟨h23, a18, c18, a21, c21, a24, c24, rfl, ((le17.trans le20).trans le23), (((H.front 1 rfl).front 2 rfl).mid 3 2)⟩⟩
def frame_runner_there (x0 : Grunner) (x1 : List GInstr) : Option (Bool × Int × Int × Int) :=
  bnd (
      if decide (x0.Frame.Pc < 0) then
        true
      else
        decide (x0.Frame.Pc ≥ (x1.length : Int))) fun y24 =>
  (
      if y24 then
        some true
      else
        if 0 ≤ x0.Frame.Pc ∧ x0.Frame.Pc < x1.length then
          bnd (op_May (⟨(gd x1 x0.Frame.Pc).Op, (gd x1 x0.Frame.Pc).A, (gd x1 x0.Frame.Pc).B⟩ : GInstr)) fun y40 =>
          some (!y40)
        else none).bind fun y25 =>
  if y25 then
    some (false, x0.x.Op, x0.x.A, x0.x.B)
  else
    if 0 ≤ x0.Frame.Pc ∧ x0.Frame.Pc < x1.length then
      if ((gd x1 x0.Frame.Pc).Op) == 1 then
        if ((gd x1 x0.Frame.Pc).Op) == 1 then
          some (decide (((gd x1 x0.Frame.Pc).A) < (x0.Frame.Locals.length : Int)), (gd x1 x0.Frame.Pc).Op, (gd x1 x0.Frame.Pc).A, (gd x1 x0.Frame.Pc).B)
        else
          if ((gd x1 x0.Frame.Pc).Op) == 14 then
            some (decide (((gd x1 x0.Frame.Pc).A) < (x0.Frame.Slots.length : Int)), (gd x1 x0.Frame.Pc).Op, (gd x1 x0.Frame.Pc).A, (gd x1 x0.Frame.Pc).B)
          else
            if ((gd x1 x0.Frame.Pc).Op) == 13 then
              if decide (((gd x1 x0.Frame.Pc).A) < (x0.p.length : Int)) then
                some (decide (((gd x1 x0.Frame.Pc).B) < (x0.Frame.Slots.length : Int)), (gd x1 x0.Frame.Pc).Op, (gd x1 x0.Frame.Pc).A, (gd x1 x0.Frame.Pc).B)
              else
                some (false, (gd x1 x0.Frame.Pc).Op, (gd x1 x0.Frame.Pc).A, (gd x1 x0.Frame.Pc).B)
            else
              some (true, (gd x1 x0.Frame.Pc).Op, (gd x1 x0.Frame.Pc).A, (gd x1 x0.Frame.Pc).B)
      else
        if ((gd x1 x0.Frame.Pc).Op) == 2 then
          some (decide (((gd x1 x0.Frame.Pc).A) < (x0.Frame.Locals.length : Int)), (gd x1 x0.Frame.Pc).Op, (gd x1 x0.Frame.Pc).A, (gd x1 x0.Frame.Pc).B)
        else
          if ((gd x1 x0.Frame.Pc).Op) == 14 then
            some (decide (((gd x1 x0.Frame.Pc).A) < (x0.Frame.Slots.length : Int)), (gd x1 x0.Frame.Pc).Op, (gd x1 x0.Frame.Pc).A, (gd x1 x0.Frame.Pc).B)
          else
            if ((gd x1 x0.Frame.Pc).Op) == 13 then
              if decide (((gd x1 x0.Frame.Pc).A) < (x0.p.length : Int)) then
                some (decide (((gd x1 x0.Frame.Pc).B) < (x0.Frame.Slots.length : Int)), (gd x1 x0.Frame.Pc).Op, (gd x1 x0.Frame.Pc).A, (gd x1 x0.Frame.Pc).B)
              else
                some (false, (gd x1 x0.Frame.Pc).Op, (gd x1 x0.Frame.Pc).A, (gd x1 x0.Frame.Pc).B)
            else
              some (true, (gd x1 x0.Frame.Pc).Op, (gd x1 x0.Frame.Pc).A, (gd x1 x0.Frame.Pc).B)
    else none
set_option maxRecDepth 100000 in
theorem c_frame_runner_there {w0 w : World} {h : Gh} {L : List Ent} (x0 : Grunner) {a1 : Option Addr} {c1 : Nat} {a2 : Option Addr} {c2 : Nat} {a3 : Option Addr} {c3 : Nat} {a4 : Option Addr} {c4 : Nat} {a5 : Option Addr} {c5 : Nat} (f4 : Sl rGFunc 48 h a4 c4 x0.p) (f5 : Sl rGValue 16 h a5 c5 x0.act.Args) {b_0 : Nat} (x1 : List GInstr) {a6 : Option Addr} {c6 : Nat} (f6 : Sl rGInstr 24 h a6 c6 x1) (H : St w0 h w (var b_0 (cGrunner x0 a1 c1 a2 c2 a3 c3 a4 c4 a5 c5) 73 :: row rGValue 16 h a1 c1 x0.Frame.Stack :: row rGValue 16 h a2 c2 x0.Frame.Locals :: row rGSlot 48 h a3 c3 x0.Frame.Slots :: L)) {r : Bool × Int × Int × Int} (hr : frame_runner_there x0 x1 = some r) : Calls Try.prog 27 #[.pointer (some ⟨b_0, 0, none⟩), .slice a6 x1.length c6] w (fun e w' => ∃ v, e = .returned v ∧ v = .bool r.1 ∧ St w0 h w' (var b_0 (cGrunner ({ x0 with x := (⟨r.2.1, r.2.2.1, r.2.2.2⟩ : GInstr) }) a1 c1 a2 c2 a3 c3 a4 c4 a5 c5) 73 :: row rGValue 16 h a1 c1 x0.Frame.Stack :: row rGValue 16 h a2 c2 x0.Frame.Locals :: row rGSlot 48 h a3 c3 x0.Frame.Slots :: L)) := by
  refine calls_of (args := [.pointer (some ⟨b_0, 0, none⟩), .slice a6 x1.length c6]) (n := 105) (rs := [.tmp 4]) Try.func27 rfl rfl rfl rfl rfl ?_
  unfold frame_runner_there at hr
  refine WE.seq ?_
  refine WE.region ?_
  refine WL.fin 1 (by kernel_rfl) (by kernel_rfl) ?_
  refine WE.seq ?_
  refine WE.seq ?_
  refine WE.region ?_
  refine WL.sg 4 (by kernel_rfl) ?_
  refine WL.does (by kernel_rfl) (by kernel_rfl) (Does.loadV H 0 rfl 1 (by kernel_rfl) (by kernel_rfl) ?_)
  refine WL.sg 2 (by kernel_rfl) ?_
  obtain ⟨y24, hy24, hr⟩ := bnd_cases hr
  refine WL.join 9 (fun (_ : Unit) => [(0, .pointer (some ⟨b_0, 0, none⟩)), (1, .slice a6 x1.length c6), (20, .bool y24)]) (fun (_ : Unit) w => St w0 h w (var b_0 (cGrunner x0 a1 c1 a2 c2 a3 c3 a4 c4 a5 c5) 73 :: row rGValue 16 h a1 c1 x0.Frame.Stack :: row rGValue 16 h a2 c2 x0.Frame.Locals :: row rGSlot 48 h a3 c3 x0.Frame.Slots :: L)) ?_ (fun hk_y24 => ?_)
  · rintro _ w H
    refine WL.sg 1 (by kernel_rfl) ?_
    obtain ⟨y25, hy25, hr⟩ := bind_cases hr
    refine WL.join 11 (fun (_ : Unit) => [(0, .pointer (some ⟨b_0, 0, none⟩)), (1, .slice a6 x1.length c6), (32, .bool y25)]) (fun (_ : Unit) w => St w0 h w (var b_0 (cGrunner x0 a1 c1 a2 c2 a3 c3 a4 c4 a5 c5) 73 :: row rGValue 16 h a1 c1 x0.Frame.Stack :: row rGValue 16 h a2 c2 x0.Frame.Locals :: row rGSlot 48 h a3 c3 x0.Frame.Slots :: L)) ?_ (fun hk_y25 => ?_)
    · rintro _ w H
      refine WL.fin 0 (by kernel_rfl) (by kernel_rfl) ?_
      rcases ite_cases hr with ⟨t28, hr⟩ | ⟨t28, hr⟩
      · refine WE.yes (by kernel_rfl) (b := y25) (by kernel_rfl) t28 ?_
        refine WE.seq ?_
        refine WE.region ?_
        refine WL.fin 1 (by kernel_rfl) (by kernel_rfl) ?_
        obtain rfl := Option.some.inj hr
        exact WE.ret ⟨[.bool false], ⟨⟨(by kernel_rfl), (by kernel_rfl)⟩, trivial⟩, ⟨rfl, H⟩⟩
      · refine WE.no (by kernel_rfl) (b := y25) (by kernel_rfl) t28 ?_
        refine WE.skip ?_
        refine WE.seq ?_
        refine WE.region ?_
        refine WL.sg 6 (by kernel_rfl) ?_
        refine WL.does (by kernel_rfl) (by kernel_rfl) (Does.loadV H 0 rfl 1 (by kernel_rfl) (by kernel_rfl) ?_)
        obtain ⟨⟨g0_29, g1_29⟩, hr⟩ := grd_cases hr
        obtain ⟨b29, p29, C29, e29, fr29, cs29, rfl, hb29, hc29, rfl⟩ := f6.at g0_29 g1_29
        refine WL.does (by kernel_rfl) (by kernel_rfl) (Does.tells (.idx b29 (p29) x1.length c6 x0.Frame.Pc 3 (by kernel_rfl) (by kernel_rfl) g0_29 g1_29 (by kernel_rfl)) ?_)
        refine WL.does (by kernel_rfl) (by kernel_rfl) (Does.loadR H hb29 hc29 0 (by kernel_rfl) (by kernel_rfl) ?_)
        refine WL.sg 2 (by kernel_rfl) ?_
        refine WL.does (by kernel_rfl) (by kernel_rfl) (Does.storeE H 0 (cGrunner ({ x0 with x := (⟨(gd x1 x0.Frame.Pc).Op, (gd x1 x0.Frame.Pc).A, (gd x1 x0.Frame.Pc).B⟩ : GInstr) }) a1 c1 a2 c2 a3 c3 a4 c4 a5 c5) rfl (q := 17) (by kernel_rfl) (by kernel_rfl) (by kernel_rfl) fun w H => ?_)
        refine WL.fin 0 (by kernel_rfl) (by kernel_rfl) ?_
        refine WE.seq ?_
        refine WE.seq ?_
        refine WE.region ?_
        refine WL.sg 4 (by kernel_rfl) ?_
        refine WL.does (by kernel_rfl) (by kernel_rfl) (Does.loadV H 0 rfl 17 (by kernel_rfl) (by kernel_rfl) ?_)
        refine WL.fin 0 (by kernel_rfl) (by kernel_rfl) ?_
        refine WE.block ?_
        refine WE.seq ?_
        refine WE.seq ?_
        refine WE.region ?_
        refine WL.fin 2 (by kernel_rfl) (by kernel_rfl) ?_
        rcases ite_cases hr with ⟨t30, hr⟩ | ⟨t30, hr⟩
        · refine WE.yes (by kernel_rfl) (b := ((gd x1 x0.Frame.Pc).Op) == 1) (by kernel_rfl) t30 ?_
          refine WE.skip ?_
          rcases ite_cases hr with ⟨t31, hr⟩ | ⟨t31, hr⟩
          · refine WE.yes (by kernel_rfl) (b := ((gd x1 x0.Frame.Pc).Op) == 1) (by kernel_rfl) t31 ?_
            refine WE.seq ?_
            refine WE.draws mo [0] (ρ' := [(0, .pointer (some ⟨b_0, 0, none⟩))]) (by kernel_rfl) fun w e1 e2 e3 e4 => ?_
            have H := H.same e1 e2 e3 e4
            clear e1 e2 e3 e4
            refine WD.know [0] (by kernel_rfl) ?_
            refine WD.know [1] (by kernel_rfl) ?_
            refine WD.know [2] (by kernel_rfl) ?_
            refine WD.know [3] (by kernel_rfl) ?_
            refine WD.told 4 56 (.int .i64 ((gd x1 x0.Frame.Pc).A)) (by kernel_rfl) (by kernel_rfl) ?_
            refine WD.know [5] (by kernel_rfl) ?_
            refine WD.know [6] (by kernel_rfl) ?_
            refine WD.know [7] (by kernel_rfl) ?_
            refine WD.know [8] (by kernel_rfl) ?_
            refine WD.told 9 61 (.slice a2 x0.Frame.Locals.length c2) (by kernel_rfl) (by kernel_rfl) ?_
            refine WD.know [10] (by kernel_rfl) ?_
            refine WD.know [11] (by kernel_rfl) ?_
            refine WD.does 12 (by kernel_rfl) rfl (Floats.of [11, 10, 8, 7, 6, 5, 3, 2, 1, 0] [9, 4] (by kernel_rfl) (Floats.pure _ (by kernel_rfl) (by kernel_rfl)) (.cons (.tells rfl (by kernel_rfl) rfl (.loadV H 0 rfl 3 (by kernel_rfl) (by kernel_rfl))) (.cons (.tells rfl (by kernel_rfl) rfl (.loadV H 0 rfl 18 (by kernel_rfl) (by kernel_rfl))) .nil))) (by kernel_rfl) (by kernel_rfl) (Does.reck (by kernel_rfl) ?_)
            refine WD.fin (by kernel_rfl) (Floats.of [] [] (by kernel_rfl) .nil .nil) (by kernel_rfl) (by kernel_rfl) ?_
            obtain rfl := Option.some.inj hr
            exact WE.ret ⟨[.bool (decide (((gd x1 x0.Frame.Pc).A) < (x0.Frame.Locals.length : Int)))], ⟨⟨(by kernel_rfl), (by kernel_rfl)⟩, trivial⟩, ⟨rfl, H⟩⟩
          · refine WE.no (by kernel_rfl) (b := ((gd x1 x0.Frame.Pc).Op) == 1) (by kernel_rfl) t31 ?_
            refine WE.seq ?_
            refine WE.region ?_
            refine WL.fin 2 (by kernel_rfl) (by kernel_rfl) ?_
            rcases ite_cases hr with ⟨t32, hr⟩ | ⟨t32, hr⟩
            · refine WE.yes (by kernel_rfl) (b := ((gd x1 x0.Frame.Pc).Op) == 14) (by kernel_rfl) t32 ?_
              refine WE.seq ?_
              refine WE.draws mo [0] (ρ' := [(0, .pointer (some ⟨b_0, 0, none⟩))]) (by kernel_rfl) fun w e1 e2 e3 e4 => ?_
              have H := H.same e1 e2 e3 e4
              clear e1 e2 e3 e4
              refine WD.know [0] (by kernel_rfl) ?_
              refine WD.know [1] (by kernel_rfl) ?_
              refine WD.know [2] (by kernel_rfl) ?_
              refine WD.know [3] (by kernel_rfl) ?_
              refine WD.told 4 70 (.int .i64 ((gd x1 x0.Frame.Pc).A)) (by kernel_rfl) (by kernel_rfl) ?_
              refine WD.know [5] (by kernel_rfl) ?_
              refine WD.know [6] (by kernel_rfl) ?_
              refine WD.know [7] (by kernel_rfl) ?_
              refine WD.know [8] (by kernel_rfl) ?_
              refine WD.told 9 75 (.slice a3 x0.Frame.Slots.length c3) (by kernel_rfl) (by kernel_rfl) ?_
              refine WD.know [10] (by kernel_rfl) ?_
              refine WD.know [11] (by kernel_rfl) ?_
              refine WD.does 12 (by kernel_rfl) rfl (Floats.of [11, 10, 8, 7, 6, 5, 3, 2, 1, 0] [9, 4] (by kernel_rfl) (Floats.pure _ (by kernel_rfl) (by kernel_rfl)) (.cons (.tells rfl (by kernel_rfl) rfl (.loadV H 0 rfl 4 (by kernel_rfl) (by kernel_rfl))) (.cons (.tells rfl (by kernel_rfl) rfl (.loadV H 0 rfl 18 (by kernel_rfl) (by kernel_rfl))) .nil))) (by kernel_rfl) (by kernel_rfl) (Does.reck (by kernel_rfl) ?_)
              refine WD.fin (by kernel_rfl) (Floats.of [] [] (by kernel_rfl) .nil .nil) (by kernel_rfl) (by kernel_rfl) ?_
              obtain rfl := Option.some.inj hr
              exact WE.ret ⟨[.bool (decide (((gd x1 x0.Frame.Pc).A) < (x0.Frame.Slots.length : Int)))], ⟨⟨(by kernel_rfl), (by kernel_rfl)⟩, trivial⟩, ⟨rfl, H⟩⟩
            · refine WE.no (by kernel_rfl) (b := ((gd x1 x0.Frame.Pc).Op) == 14) (by kernel_rfl) t32 ?_
              refine WE.seq ?_
              refine WE.region ?_
              refine WL.fin 2 (by kernel_rfl) (by kernel_rfl) ?_
              rcases ite_cases hr with ⟨t33, hr⟩ | ⟨t33, hr⟩
              · refine WE.yes (by kernel_rfl) (b := ((gd x1 x0.Frame.Pc).Op) == 13) (by kernel_rfl) t33 ?_
                refine WE.seq ?_
                refine WE.draws mo [0] (ρ' := [(0, .pointer (some ⟨b_0, 0, none⟩))]) (by kernel_rfl) fun w e1 e2 e3 e4 => ?_
                have H := H.same e1 e2 e3 e4
                clear e1 e2 e3 e4
                refine WD.know [0] (by kernel_rfl) ?_
                refine WD.know [1] (by kernel_rfl) ?_
                refine WD.know [2] (by kernel_rfl) ?_
                refine WD.know [3] (by kernel_rfl) ?_
                refine WD.told 4 84 (.int .i64 ((gd x1 x0.Frame.Pc).A)) (by kernel_rfl) (by kernel_rfl) ?_
                refine WD.know [5] (by kernel_rfl) ?_
                refine WD.know [6] (by kernel_rfl) ?_
                refine WD.know [7] (by kernel_rfl) ?_
                refine WD.told 8 88 (.slice a4 x0.p.length c4) (by kernel_rfl) (by kernel_rfl) ?_
                refine WD.know [9] (by kernel_rfl) ?_
                refine WD.know [10] (by kernel_rfl) ?_
                refine WD.know [11] (by kernel_rfl) ?_
                rcases ite_cases hr with ⟨t34, hr⟩ | ⟨t34, hr⟩
                · refine WD.known 91 t34 (by kernel_rfl) (by kernel_rfl) ?_
                  refine WD.know [12] (by kernel_rfl) ?_
                  refine WD.know [13] (by kernel_rfl) ?_
                  refine WD.know [14] (by kernel_rfl) ?_
                  refine WD.know [15] (by kernel_rfl) ?_
                  refine WD.told 16 96 (.int .i64 ((gd x1 x0.Frame.Pc).B)) (by kernel_rfl) (by kernel_rfl) ?_
                  refine WD.know [17] (by kernel_rfl) ?_
                  refine WD.know [18] (by kernel_rfl) ?_
                  refine WD.know [19] (by kernel_rfl) ?_
                  refine WD.know [20] (by kernel_rfl) ?_
                  refine WD.told 21 101 (.slice a3 x0.Frame.Slots.length c3) (by kernel_rfl) (by kernel_rfl) ?_
                  refine WD.know [22] (by kernel_rfl) ?_
                  refine WD.know [23] (by kernel_rfl) ?_
                  refine WD.know [24] (by kernel_rfl) ?_
                  refine WD.does 25 (by kernel_rfl) rfl (Floats.of [24, 23, 22, 20, 19, 18, 17, 15, 14, 13, 12, 10, 9, 7, 6, 5, 3, 2, 1, 0] [21, 16, 11, 8, 4] (by kernel_rfl) (Floats.pure _ (by kernel_rfl) (by kernel_rfl)) (.cons (.tells rfl (by kernel_rfl) rfl (.loadV H 0 rfl 4 (by kernel_rfl) (by kernel_rfl))) (.cons (.tells rfl (by kernel_rfl) rfl (.loadV H 0 rfl 19 (by kernel_rfl) (by kernel_rfl))) (.cons (.tells rfl (by kernel_rfl) (by kernel_rfl) (.calmB t34 (by kernel_rfl))) (.cons (.tells rfl (by kernel_rfl) rfl (.loadV H 0 rfl 16 (by kernel_rfl) (by kernel_rfl))) (.cons (.tells rfl (by kernel_rfl) rfl (.loadV H 0 rfl 18 (by kernel_rfl) (by kernel_rfl))) .nil)))))) (by kernel_rfl) (by kernel_rfl) (Does.reck (by kernel_rfl) ?_)
                  refine WD.fin (by kernel_rfl) (Floats.of [] [] (by kernel_rfl) .nil .nil) (by kernel_rfl) (by kernel_rfl) ?_
                  obtain rfl := Option.some.inj hr
                  exact WE.ret ⟨[.bool (decide (((gd x1 x0.Frame.Pc).B) < (x0.Frame.Slots.length : Int)))], ⟨⟨(by kernel_rfl), (by kernel_rfl)⟩, trivial⟩, ⟨rfl, H⟩⟩
                · refine WD.known 91 t34 (by kernel_rfl) (by kernel_rfl) ?_
                  refine WD.know [12] (by kernel_rfl) ?_
                  refine WD.know [13] (by kernel_rfl) ?_
                  refine WD.know [14] (by kernel_rfl) ?_
                  refine WD.know [15] (by kernel_rfl) ?_
                  refine WD.know [16] (by kernel_rfl) ?_
                  refine WD.know [17] (by kernel_rfl) ?_
                  refine WD.know [18] (by kernel_rfl) ?_
                  refine WD.know [19] (by kernel_rfl) ?_
                  refine WD.know [20] (by kernel_rfl) ?_
                  refine WD.know [21] (by kernel_rfl) ?_
                  refine WD.know [22] (by kernel_rfl) ?_
                  refine WD.know [23] (by kernel_rfl) ?_
                  refine WD.know [24] (by kernel_rfl) ?_
                  refine WD.does 25 (by kernel_rfl) rfl (Floats.of [24, 23, 22, 21, 20, 19, 18, 17, 16, 15, 14, 13, 12, 10, 9, 7, 6, 5, 3, 2, 1, 0] [11, 8, 4] (by kernel_rfl) (Floats.pure _ (by kernel_rfl) (by kernel_rfl)) (.cons (.tells rfl (by kernel_rfl) (by kernel_rfl) (.calmB t34 (by kernel_rfl))) (.cons (.tells rfl (by kernel_rfl) rfl (.loadV H 0 rfl 16 (by kernel_rfl) (by kernel_rfl))) (.cons (.tells rfl (by kernel_rfl) rfl (.loadV H 0 rfl 18 (by kernel_rfl) (by kernel_rfl))) .nil)))) (by kernel_rfl) (by kernel_rfl) (Does.reck (by kernel_rfl) ?_)
                  refine WD.fin (by kernel_rfl) (Floats.of [] [] (by kernel_rfl) .nil .nil) (by kernel_rfl) (by kernel_rfl) ?_
                  obtain rfl := Option.some.inj hr
                  exact WE.ret ⟨[.bool false], ⟨⟨(by kernel_rfl), (by kernel_rfl)⟩, trivial⟩, ⟨rfl, H⟩⟩
              · refine WE.no (by kernel_rfl) (b := ((gd x1 x0.Frame.Pc).Op) == 13) (by kernel_rfl) t33 ?_
                refine WE.skip ?_
                refine WE.seq ?_
                refine WE.region ?_
                refine WL.fin 1 (by kernel_rfl) (by kernel_rfl) ?_
                obtain rfl := Option.some.inj hr
                exact WE.ret ⟨[.bool true], ⟨⟨(by kernel_rfl), (by kernel_rfl)⟩, trivial⟩, ⟨rfl, H⟩⟩
        · refine WE.no (by kernel_rfl) (b := ((gd x1 x0.Frame.Pc).Op) == 1) (by kernel_rfl) t30 ?_
          refine WE.region ?_
          refine WL.fin 2 (by kernel_rfl) (by kernel_rfl) ?_
          rcases ite_cases hr with ⟨t35, hr⟩ | ⟨t35, hr⟩
          · refine WE.yes (by kernel_rfl) (b := ((gd x1 x0.Frame.Pc).Op) == 2) (by kernel_rfl) t35 ?_
            refine WE.seq ?_
            refine WE.draws mo [0] (ρ' := [(0, .pointer (some ⟨b_0, 0, none⟩))]) (by kernel_rfl) fun w e1 e2 e3 e4 => ?_
            have H := H.same e1 e2 e3 e4
            clear e1 e2 e3 e4
            refine WD.know [0] (by kernel_rfl) ?_
            refine WD.know [1] (by kernel_rfl) ?_
            refine WD.know [2] (by kernel_rfl) ?_
            refine WD.know [3] (by kernel_rfl) ?_
            refine WD.told 4 56 (.int .i64 ((gd x1 x0.Frame.Pc).A)) (by kernel_rfl) (by kernel_rfl) ?_
            refine WD.know [5] (by kernel_rfl) ?_
            refine WD.know [6] (by kernel_rfl) ?_
            refine WD.know [7] (by kernel_rfl) ?_
            refine WD.know [8] (by kernel_rfl) ?_
            refine WD.told 9 61 (.slice a2 x0.Frame.Locals.length c2) (by kernel_rfl) (by kernel_rfl) ?_
            refine WD.know [10] (by kernel_rfl) ?_
            refine WD.know [11] (by kernel_rfl) ?_
            refine WD.does 12 (by kernel_rfl) rfl (Floats.of [11, 10, 8, 7, 6, 5, 3, 2, 1, 0] [9, 4] (by kernel_rfl) (Floats.pure _ (by kernel_rfl) (by kernel_rfl)) (.cons (.tells rfl (by kernel_rfl) rfl (.loadV H 0 rfl 3 (by kernel_rfl) (by kernel_rfl))) (.cons (.tells rfl (by kernel_rfl) rfl (.loadV H 0 rfl 18 (by kernel_rfl) (by kernel_rfl))) .nil))) (by kernel_rfl) (by kernel_rfl) (Does.reck (by kernel_rfl) ?_)
            refine WD.fin (by kernel_rfl) (Floats.of [] [] (by kernel_rfl) .nil .nil) (by kernel_rfl) (by kernel_rfl) ?_
            obtain rfl := Option.some.inj hr
            exact WE.ret ⟨[.bool (decide (((gd x1 x0.Frame.Pc).A) < (x0.Frame.Locals.length : Int)))], ⟨⟨(by kernel_rfl), (by kernel_rfl)⟩, trivial⟩, ⟨rfl, H⟩⟩
          · refine WE.no (by kernel_rfl) (b := ((gd x1 x0.Frame.Pc).Op) == 2) (by kernel_rfl) t35 ?_
            refine WE.seq ?_
            refine WE.region ?_
            refine WL.fin 2 (by kernel_rfl) (by kernel_rfl) ?_
            rcases ite_cases hr with ⟨t36, hr⟩ | ⟨t36, hr⟩
            · refine WE.yes (by kernel_rfl) (b := ((gd x1 x0.Frame.Pc).Op) == 14) (by kernel_rfl) t36 ?_
              refine WE.seq ?_
              refine WE.draws mo [0] (ρ' := [(0, .pointer (some ⟨b_0, 0, none⟩))]) (by kernel_rfl) fun w e1 e2 e3 e4 => ?_
              have H := H.same e1 e2 e3 e4
              clear e1 e2 e3 e4
              refine WD.know [0] (by kernel_rfl) ?_
              refine WD.know [1] (by kernel_rfl) ?_
              refine WD.know [2] (by kernel_rfl) ?_
              refine WD.know [3] (by kernel_rfl) ?_
              refine WD.told 4 70 (.int .i64 ((gd x1 x0.Frame.Pc).A)) (by kernel_rfl) (by kernel_rfl) ?_
              refine WD.know [5] (by kernel_rfl) ?_
              refine WD.know [6] (by kernel_rfl) ?_
              refine WD.know [7] (by kernel_rfl) ?_
              refine WD.know [8] (by kernel_rfl) ?_
              refine WD.told 9 75 (.slice a3 x0.Frame.Slots.length c3) (by kernel_rfl) (by kernel_rfl) ?_
              refine WD.know [10] (by kernel_rfl) ?_
              refine WD.know [11] (by kernel_rfl) ?_
              refine WD.does 12 (by kernel_rfl) rfl (Floats.of [11, 10, 8, 7, 6, 5, 3, 2, 1, 0] [9, 4] (by kernel_rfl) (Floats.pure _ (by kernel_rfl) (by kernel_rfl)) (.cons (.tells rfl (by kernel_rfl) rfl (.loadV H 0 rfl 4 (by kernel_rfl) (by kernel_rfl))) (.cons (.tells rfl (by kernel_rfl) rfl (.loadV H 0 rfl 18 (by kernel_rfl) (by kernel_rfl))) .nil))) (by kernel_rfl) (by kernel_rfl) (Does.reck (by kernel_rfl) ?_)
              refine WD.fin (by kernel_rfl) (Floats.of [] [] (by kernel_rfl) .nil .nil) (by kernel_rfl) (by kernel_rfl) ?_
              obtain rfl := Option.some.inj hr
              exact WE.ret ⟨[.bool (decide (((gd x1 x0.Frame.Pc).A) < (x0.Frame.Slots.length : Int)))], ⟨⟨(by kernel_rfl), (by kernel_rfl)⟩, trivial⟩, ⟨rfl, H⟩⟩
            · refine WE.no (by kernel_rfl) (b := ((gd x1 x0.Frame.Pc).Op) == 14) (by kernel_rfl) t36 ?_
              refine WE.seq ?_
              refine WE.region ?_
              refine WL.fin 2 (by kernel_rfl) (by kernel_rfl) ?_
              rcases ite_cases hr with ⟨t37, hr⟩ | ⟨t37, hr⟩
              · refine WE.yes (by kernel_rfl) (b := ((gd x1 x0.Frame.Pc).Op) == 13) (by kernel_rfl) t37 ?_
                refine WE.seq ?_
                refine WE.draws mo [0] (ρ' := [(0, .pointer (some ⟨b_0, 0, none⟩))]) (by kernel_rfl) fun w e1 e2 e3 e4 => ?_
                have H := H.same e1 e2 e3 e4
                clear e1 e2 e3 e4
                refine WD.know [0] (by kernel_rfl) ?_
                refine WD.know [1] (by kernel_rfl) ?_
                refine WD.know [2] (by kernel_rfl) ?_
                refine WD.know [3] (by kernel_rfl) ?_
                refine WD.told 4 84 (.int .i64 ((gd x1 x0.Frame.Pc).A)) (by kernel_rfl) (by kernel_rfl) ?_
                refine WD.know [5] (by kernel_rfl) ?_
                refine WD.know [6] (by kernel_rfl) ?_
                refine WD.know [7] (by kernel_rfl) ?_
                refine WD.told 8 88 (.slice a4 x0.p.length c4) (by kernel_rfl) (by kernel_rfl) ?_
                refine WD.know [9] (by kernel_rfl) ?_
                refine WD.know [10] (by kernel_rfl) ?_
                refine WD.know [11] (by kernel_rfl) ?_
                rcases ite_cases hr with ⟨t38, hr⟩ | ⟨t38, hr⟩
                · refine WD.known 91 t38 (by kernel_rfl) (by kernel_rfl) ?_
                  refine WD.know [12] (by kernel_rfl) ?_
                  refine WD.know [13] (by kernel_rfl) ?_
                  refine WD.know [14] (by kernel_rfl) ?_
                  refine WD.know [15] (by kernel_rfl) ?_
                  refine WD.told 16 96 (.int .i64 ((gd x1 x0.Frame.Pc).B)) (by kernel_rfl) (by kernel_rfl) ?_
                  refine WD.know [17] (by kernel_rfl) ?_
                  refine WD.know [18] (by kernel_rfl) ?_
                  refine WD.know [19] (by kernel_rfl) ?_
                  refine WD.know [20] (by kernel_rfl) ?_
                  refine WD.told 21 101 (.slice a3 x0.Frame.Slots.length c3) (by kernel_rfl) (by kernel_rfl) ?_
                  refine WD.know [22] (by kernel_rfl) ?_
                  refine WD.know [23] (by kernel_rfl) ?_
                  refine WD.know [24] (by kernel_rfl) ?_
                  refine WD.does 25 (by kernel_rfl) rfl (Floats.of [24, 23, 22, 20, 19, 18, 17, 15, 14, 13, 12, 10, 9, 7, 6, 5, 3, 2, 1, 0] [21, 16, 11, 8, 4] (by kernel_rfl) (Floats.pure _ (by kernel_rfl) (by kernel_rfl)) (.cons (.tells rfl (by kernel_rfl) rfl (.loadV H 0 rfl 4 (by kernel_rfl) (by kernel_rfl))) (.cons (.tells rfl (by kernel_rfl) rfl (.loadV H 0 rfl 19 (by kernel_rfl) (by kernel_rfl))) (.cons (.tells rfl (by kernel_rfl) (by kernel_rfl) (.calmB t38 (by kernel_rfl))) (.cons (.tells rfl (by kernel_rfl) rfl (.loadV H 0 rfl 16 (by kernel_rfl) (by kernel_rfl))) (.cons (.tells rfl (by kernel_rfl) rfl (.loadV H 0 rfl 18 (by kernel_rfl) (by kernel_rfl))) .nil)))))) (by kernel_rfl) (by kernel_rfl) (Does.reck (by kernel_rfl) ?_)
                  refine WD.fin (by kernel_rfl) (Floats.of [] [] (by kernel_rfl) .nil .nil) (by kernel_rfl) (by kernel_rfl) ?_
                  obtain rfl := Option.some.inj hr
                  exact WE.ret ⟨[.bool (decide (((gd x1 x0.Frame.Pc).B) < (x0.Frame.Slots.length : Int)))], ⟨⟨(by kernel_rfl), (by kernel_rfl)⟩, trivial⟩, ⟨rfl, H⟩⟩
                · refine WD.known 91 t38 (by kernel_rfl) (by kernel_rfl) ?_
                  refine WD.know [12] (by kernel_rfl) ?_
                  refine WD.know [13] (by kernel_rfl) ?_
                  refine WD.know [14] (by kernel_rfl) ?_
                  refine WD.know [15] (by kernel_rfl) ?_
                  refine WD.know [16] (by kernel_rfl) ?_
                  refine WD.know [17] (by kernel_rfl) ?_
                  refine WD.know [18] (by kernel_rfl) ?_
                  refine WD.know [19] (by kernel_rfl) ?_
                  refine WD.know [20] (by kernel_rfl) ?_
                  refine WD.know [21] (by kernel_rfl) ?_
                  refine WD.know [22] (by kernel_rfl) ?_
                  refine WD.know [23] (by kernel_rfl) ?_
                  refine WD.know [24] (by kernel_rfl) ?_
                  refine WD.does 25 (by kernel_rfl) rfl (Floats.of [24, 23, 22, 21, 20, 19, 18, 17, 16, 15, 14, 13, 12, 10, 9, 7, 6, 5, 3, 2, 1, 0] [11, 8, 4] (by kernel_rfl) (Floats.pure _ (by kernel_rfl) (by kernel_rfl)) (.cons (.tells rfl (by kernel_rfl) (by kernel_rfl) (.calmB t38 (by kernel_rfl))) (.cons (.tells rfl (by kernel_rfl) rfl (.loadV H 0 rfl 16 (by kernel_rfl) (by kernel_rfl))) (.cons (.tells rfl (by kernel_rfl) rfl (.loadV H 0 rfl 18 (by kernel_rfl) (by kernel_rfl))) .nil)))) (by kernel_rfl) (by kernel_rfl) (Does.reck (by kernel_rfl) ?_)
                  refine WD.fin (by kernel_rfl) (Floats.of [] [] (by kernel_rfl) .nil .nil) (by kernel_rfl) (by kernel_rfl) ?_
                  obtain rfl := Option.some.inj hr
                  exact WE.ret ⟨[.bool false], ⟨⟨(by kernel_rfl), (by kernel_rfl)⟩, trivial⟩, ⟨rfl, H⟩⟩
              · refine WE.no (by kernel_rfl) (b := ((gd x1 x0.Frame.Pc).Op) == 13) (by kernel_rfl) t37 ?_
                refine WE.skip ?_
                refine WE.seq ?_
                refine WE.region ?_
                refine WL.fin 1 (by kernel_rfl) (by kernel_rfl) ?_
                obtain rfl := Option.some.inj hr
                exact WE.ret ⟨[.bool true], ⟨⟨(by kernel_rfl), (by kernel_rfl)⟩, trivial⟩, ⟨rfl, H⟩⟩
    rcases ite_cases hy25 with ⟨ty25, hy25⟩ | ⟨ty25, hy25⟩
    · refine WL.known 21 ty25 (by kernel_rfl) (by kernel_rfl) ?_
      refine WL.sg 11 (by kernel_rfl) ?_
      obtain rfl := Option.some.inj hy25
      exact WL.live [0, 1, 32] (by kernel_rfl) (hk_y25 () _ H)
    · refine WL.known 21 ty25 (by kernel_rfl) (by kernel_rfl) ?_
      refine WL.sg 5 (by kernel_rfl) ?_
      refine WL.does (by kernel_rfl) (by kernel_rfl) (Does.loadV H 0 rfl 1 (by kernel_rfl) (by kernel_rfl) ?_)
      obtain ⟨⟨g0_39, g1_39⟩, hy25⟩ := grd_cases hy25
      obtain ⟨b39, p39, C39, e39, fr39, cs39, rfl, hb39, hc39, rfl⟩ := f6.at g0_39 g1_39
      refine WL.does (by kernel_rfl) (by kernel_rfl) (Does.tells (.idx b39 (p39) x1.length c6 x0.Frame.Pc 3 (by kernel_rfl) (by kernel_rfl) g0_39 g1_39 (by kernel_rfl)) ?_)
      refine WL.does (by kernel_rfl) (by kernel_rfl) (Does.loadR H hb39 hc39 0 (by kernel_rfl) (by kernel_rfl) ?_)
      obtain ⟨y40, q40, hy25⟩ := bnd_cases hy25
      refine WL.does (by kernel_rfl) (by kernel_rfl) (Does.call (c_op_May (⟨(gd x1 x0.Frame.Pc).Op, (gd x1 x0.Frame.Pc).A, (gd x1 x0.Frame.Pc).B⟩ : GInstr) H q40) (by kernel_rfl) ?_)
      rintro _ w ⟨rfl, H⟩
      refine WL.sg 2 (by kernel_rfl) ?_
      obtain rfl := Option.some.inj hy25
      exact WL.live [0, 1, 32] (by kernel_rfl) (hk_y25 () _ H)
  rcases ite_cases hy24 with ⟨ty24, hy24⟩ | ⟨ty24, hy24⟩
  · refine WL.known 11 ty24 (by kernel_rfl) (by kernel_rfl) ?_
    refine WL.sg 9 (by kernel_rfl) ?_
    obtain rfl := hy24
    exact WL.live [0, 1, 20] (by kernel_rfl) (hk_y24 () _ H)
  · refine WL.known 11 ty24 (by kernel_rfl) (by kernel_rfl) ?_
    refine WL.sg 4 (by kernel_rfl) ?_
    refine WL.does (by kernel_rfl) (by kernel_rfl) (Does.loadV H 0 rfl 1 (by kernel_rfl) (by kernel_rfl) ?_)
    refine WL.sg 4 (by kernel_rfl) ?_
    obtain rfl := hy24
    exact WL.live [0, 1, 20] (by kernel_rfl) (hk_y24 () _ H)
def frame_runner_end (x0 : Grunner) (x1 : GOut) : Int × Int × Int × Int × Int × Int × Int × Int × (List GValue) :=
  (2, x1.Trap, x1.V.Re, x1.V.Im, 4, 0, 0, 0, [])
set_option maxRecDepth 100000 in
theorem c_frame_runner_end {w0 w : World} {h : Gh} {L : List Ent} (x0 : Grunner) {a1 : Option Addr} {c1 : Nat} {a2 : Option Addr} {c2 : Nat} {a3 : Option Addr} {c3 : Nat} {a4 : Option Addr} {c4 : Nat} {a5 : Option Addr} {c5 : Nat} (f4 : Sl rGFunc 48 h a4 c4 x0.p) (f5 : Sl rGValue 16 h a5 c5 x0.act.Args) {b_0 : Nat} (x1 : GOut) (H : St w0 h w (var b_0 (cGrunner x0 a1 c1 a2 c2 a3 c3 a4 c4 a5 c5) 73 :: row rGValue 16 h a1 c1 x0.Frame.Stack :: row rGValue 16 h a2 c2 x0.Frame.Locals :: row rGSlot 48 h a3 c3 x0.Frame.Slots :: L)) {r : Int × Int × Int × Int × Int × Int × Int × Int × (List GValue)} (hr : frame_runner_end x0 x1 = r) : Calls Try.prog 30 #[.pointer (some ⟨b_0, 0, none⟩), .agg #[.int .i64 x1.Trap, .int .i64 x1.V.Re, .int .i64 x1.V.Im]] w (fun e w' => ∃ v, e = .returned v ∧ ∃ (h' : Gh) (a901 : Option Addr) (c901 : Nat), v = .tuple #[] ∧ h.le h' ∧ Sl rGValue 16 h' a901 c901 r.2.2.2.2.2.2.2.2 ∧ St w0 h' w' (var b_0 (cGrunner ({ x0 with Frame := { x0.Frame with State := r.1, Out := (⟨r.2.1, (⟨r.2.2.1, r.2.2.2.1⟩ : GValue)⟩ : GOut) }, act := (⟨r.2.2.2.2.1, r.2.2.2.2.2.1, r.2.2.2.2.2.2.1, r.2.2.2.2.2.2.2.1, r.2.2.2.2.2.2.2.2⟩ : GAct) }) a1 c1 a2 c2 a3 c3 a4 c4 a901 c901) 73 :: row rGValue 16 h a1 c1 x0.Frame.Stack :: row rGValue 16 h a2 c2 x0.Frame.Locals :: row rGSlot 48 h a3 c3 x0.Frame.Slots :: L)) := by
  refine calls_of (args := [.pointer (some ⟨b_0, 0, none⟩), .agg #[.int .i64 x1.Trap, .int .i64 x1.V.Re, .int .i64 x1.V.Im]]) (n := 17) (rs := []) Try.func30 rfl rfl rfl rfl rfl ?_
  unfold frame_runner_end at hr
  refine WE.seq ?_
  refine WE.region ?_
  refine WL.does (by kernel_rfl) (by kernel_rfl) (Does.box H [.int .i64 x1.Trap, .int .i64 x1.V.Re, .int .i64 x1.V.Im] (by kernel_rfl) fun b7 w H => ?_)
  refine WL.fin 0 (by kernel_rfl) (by kernel_rfl) ?_
  refine WE.seq ?_
  refine WE.draws mo [0, 3] (ρ' := [(0, .pointer (some ⟨b_0, 0, none⟩)), (3, .pointer (some ⟨b7, 0, none⟩))]) (by kernel_rfl) fun w e1 e2 e3 e4 => ?_
  have H := H.same e1 e2 e3 e4
  clear e1 e2 e3 e4
  refine WD.know [0] (by kernel_rfl) ?_
  refine WD.know [1] (by kernel_rfl) ?_
  refine WD.told 2 6 (.agg #[.int .i64 x1.Trap, .int .i64 x1.V.Re, .int .i64 x1.V.Im]) (by kernel_rfl) (by kernel_rfl) ?_
  refine WD.know [3] (by kernel_rfl) ?_
  refine WD.know [4] (by kernel_rfl) ?_
  refine WD.know [5] (by kernel_rfl) ?_
  refine WD.does 6 (by kernel_rfl) rfl (Floats.of [5, 4, 3, 1, 0] [2] (by kernel_rfl) (Floats.pure _ (by kernel_rfl) (by kernel_rfl)) (.cons (.tells rfl (by kernel_rfl) rfl (.loadV H 0 rfl 0 (by kernel_rfl) (by kernel_rfl))) .nil)) (by kernel_rfl) (by kernel_rfl) (Does.storeE H 1 (cGrunner ({ x0 with Frame := { x0.Frame with State := 2 } }) a1 c1 a2 c2 a3 c3 a4 c4 a5 c5) rfl (q := 8) (by kernel_rfl) (by kernel_rfl) (by kernel_rfl) fun w H => ?_)
  refine WD.know [7] (by kernel_rfl) ?_
  refine WD.know [8] (by kernel_rfl) ?_
  refine WD.know [9] (by kernel_rfl) ?_
  refine WD.does 10 (by kernel_rfl) rfl (Floats.of [9, 8, 7, 4, 3, 1] [2] (by kernel_rfl) (Floats.pure _ (by kernel_rfl) (by kernel_rfl)) (.cons (.tells rfl (by kernel_rfl) rfl (.loadV H 0 rfl 0 (by kernel_rfl) (by kernel_rfl))) .nil)) (by kernel_rfl) (by kernel_rfl) (Does.storeE H 1 (cGrunner ({ x0 with Frame := { x0.Frame with State := 2, Out := x1 } }) a1 c1 a2 c2 a3 c3 a4 c4 a5 c5) rfl (q := 10) (by kernel_rfl) (by kernel_rfl) (by kernel_rfl) fun w H => ?_)
  refine WD.fin (by kernel_rfl) (Floats.of [8, 7] [] (by kernel_rfl) (Floats.pure _ (by kernel_rfl) (by kernel_rfl)) .nil) (by kernel_rfl) (by kernel_rfl) ?_
  refine WE.region ?_
  refine WL.sg 4 (by kernel_rfl) ?_
  refine WL.does (by kernel_rfl) (by kernel_rfl) (Does.storeE H 1 (cGrunner ({ x0 with Frame := { x0.Frame with State := 2, Out := x1 }, act := (⟨4, 0, 0, 0, []⟩ : GAct) }) a1 c1 a2 c2 a3 c3 a4 c4 none 0) rfl (q := 20) (by kernel_rfl) (by kernel_rfl) (by kernel_rfl) fun w H => ?_)
  refine WL.fin 0 (by kernel_rfl) (by kernel_rfl) ?_
  obtain rfl := hr
  exact ⟨[], trivial, ⟨h, none, 0, rfl, (Gh.refl _), (Sl.nil _ _ (Nat.zero_le _)), (H.keep 1)⟩⟩
def frame_runner_trap (x0 : Grunner) (x1 : Int) : Int × Int × Int × Int × Int × Int × Int × Int × (List GValue) :=
  bnd (frame_runner_end x0 (⟨x1, (⟨0, 0⟩ : GValue)⟩ : GOut)) fun y8 =>
  (y8.1, y8.2.1, y8.2.2.1, y8.2.2.2.1, y8.2.2.2.2.1, y8.2.2.2.2.2.1, y8.2.2.2.2.2.2.1, y8.2.2.2.2.2.2.2.1, y8.2.2.2.2.2.2.2.2)
set_option maxRecDepth 100000 in
theorem c_frame_runner_trap {w0 w : World} {h : Gh} {L : List Ent} (x0 : Grunner) {a1 : Option Addr} {c1 : Nat} {a2 : Option Addr} {c2 : Nat} {a3 : Option Addr} {c3 : Nat} {a4 : Option Addr} {c4 : Nat} {a5 : Option Addr} {c5 : Nat} (f4 : Sl rGFunc 48 h a4 c4 x0.p) (f5 : Sl rGValue 16 h a5 c5 x0.act.Args) {b_0 : Nat} (x1 : Int) (H : St w0 h w (var b_0 (cGrunner x0 a1 c1 a2 c2 a3 c3 a4 c4 a5 c5) 73 :: row rGValue 16 h a1 c1 x0.Frame.Stack :: row rGValue 16 h a2 c2 x0.Frame.Locals :: row rGSlot 48 h a3 c3 x0.Frame.Slots :: L)) {r : Int × Int × Int × Int × Int × Int × Int × Int × (List GValue)} (hr : frame_runner_trap x0 x1 = r) : Calls Try.prog 28 #[.pointer (some ⟨b_0, 0, none⟩), .int .i64 x1] w (fun e w' => ∃ v, e = .returned v ∧ ∃ (h' : Gh) (a901 : Option Addr) (c901 : Nat), v = .tuple #[] ∧ h.le h' ∧ Sl rGValue 16 h' a901 c901 r.2.2.2.2.2.2.2.2 ∧ St w0 h' w' (var b_0 (cGrunner ({ x0 with Frame := { x0.Frame with State := r.1, Out := (⟨r.2.1, (⟨r.2.2.1, r.2.2.2.1⟩ : GValue)⟩ : GOut) }, act := (⟨r.2.2.2.2.1, r.2.2.2.2.2.1, r.2.2.2.2.2.2.1, r.2.2.2.2.2.2.2.1, r.2.2.2.2.2.2.2.2⟩ : GAct) }) a1 c1 a2 c2 a3 c3 a4 c4 a901 c901) 73 :: row rGValue 16 h a1 c1 x0.Frame.Stack :: row rGValue 16 h a2 c2 x0.Frame.Locals :: row rGSlot 48 h a3 c3 x0.Frame.Slots :: L)) := by
  refine calls_of (args := [.pointer (some ⟨b_0, 0, none⟩), .int .i64 x1]) (n := 8) (rs := []) Try.func28 rfl rfl rfl rfl rfl ?_
  unfold frame_runner_trap at hr
  refine WE.region ?_
  obtain ⟨y8, q8, hr⟩ := bnd_cases hr
  refine WL.sg 3 (by kernel_rfl) ?_
  refine WL.does (by kernel_rfl) (by kernel_rfl) (Does.call (c_frame_runner_end x0 f4 f5 (⟨x1, (⟨0, 0⟩ : GValue)⟩ : GOut) H q8) (by kernel_rfl) ?_)
  rintro _ w ⟨h8, a9, c9, rfl, le8, f9, H⟩
  refine WL.fin 0 (by kernel_rfl) (by kernel_rfl) ?_
  obtain rfl := hr
  exact ⟨[], trivial, ⟨h8, a9, c9, rfl, le8, f9, H⟩⟩
def op_kinds : GA17_Gkind :=
  (⟨(⟨(⟨#[112, 117, 115, 104]⟩ : ByteArray), 2, 0, 1⟩ : Gkind), (⟨(⟨#[108, 111, 97, 100]⟩ : ByteArray), 1, 0, 1⟩ : Gkind), (⟨(⟨#[115, 116, 111, 114, 101]⟩ : ByteArray), 1, 1, 0⟩ : Gkind), (⟨(⟨#[97, 100, 100]⟩ : ByteArray), 0, 2, 1⟩ : Gkind), (⟨(⟨#[115, 117, 98]⟩ : ByteArray), 0, 2, 1⟩ : Gkind), (⟨(⟨#[109, 117, 108]⟩ : ByteArray), 0, 2, 1⟩ : Gkind), (⟨(⟨#[100, 105, 118]⟩ : ByteArray), 0, 2, 1⟩ : Gkind), (⟨(⟨#[99, 111, 110, 106]⟩ : ByteArray), 0, 1, 1⟩ : Gkind), (⟨(⟨#[100, 117, 112]⟩ : ByteArray), 0, 1, 2⟩ : Gkind), (⟨(⟨#[100, 114, 111, 112]⟩ : ByteArray), 0, 1, 0⟩ : Gkind), (⟨(⟨#[106, 117, 109, 112]⟩ : ByteArray), 1, 0, 0⟩ : Gkind), (⟨(⟨#[122, 101, 114, 111]⟩ : ByteArray), 1, 1, 0⟩ : Gkind), (⟨(⟨#[114, 97, 110, 100]⟩ : ByteArray), 0, 0, 1⟩ : Gkind), (⟨(⟨#[115, 112, 97, 119, 110]⟩ : ByteArray), 2, 0, 0⟩ : Gkind), (⟨(⟨#[106, 111, 105, 110]⟩ : ByteArray), 1, 0, 1⟩ : Gkind), (⟨(⟨#[114, 101, 116]⟩ : ByteArray), 0, 1, 0⟩ : Gkind), (⟨(⟨#[116, 114, 97, 112]⟩ : ByteArray), 1, 0, 0⟩ : Gkind)⟩ : GA17_Gkind)
set_option maxRecDepth 100000 in
theorem c_op_kinds {w0 w : World} {h : Gh} {L : List Ent} (H : St w0 h w L) {r : GA17_Gkind} (hr : op_kinds = r) : Calls Try.prog 88 #[] w (fun e w' => ∃ v, e = .returned v ∧ v = .agg (cGA17_Gkind r).toArray ∧ St w0 h w' (L)) := by
  refine calls_of (args := []) (n := 19) (rs := [.cell 0 136]) Try.func88 rfl rfl rfl rfl rfl ?_
  unfold op_kinds at hr
  refine WE.seq ?_
  refine WE.region ?_
  refine WL.does (by kernel_rfl) (by kernel_rfl) (Does.alloc H (cGA17_Gkind (⟨(⟨ByteArray.empty, 0, 0, 0⟩ : Gkind), (⟨ByteArray.empty, 0, 0, 0⟩ : Gkind), (⟨ByteArray.empty, 0, 0, 0⟩ : Gkind), (⟨ByteArray.empty, 0, 0, 0⟩ : Gkind), (⟨ByteArray.empty, 0, 0, 0⟩ : Gkind), (⟨ByteArray.empty, 0, 0, 0⟩ : Gkind), (⟨ByteArray.empty, 0, 0, 0⟩ : Gkind), (⟨ByteArray.empty, 0, 0, 0⟩ : Gkind), (⟨ByteArray.empty, 0, 0, 0⟩ : Gkind), (⟨ByteArray.empty, 0, 0, 0⟩ : Gkind), (⟨ByteArray.empty, 0, 0, 0⟩ : Gkind), (⟨ByteArray.empty, 0, 0, 0⟩ : Gkind), (⟨ByteArray.empty, 0, 0, 0⟩ : Gkind), (⟨ByteArray.empty, 0, 0, 0⟩ : Gkind), (⟨ByteArray.empty, 0, 0, 0⟩ : Gkind), (⟨ByteArray.empty, 0, 0, 0⟩ : Gkind), (⟨ByteArray.empty, 0, 0, 0⟩ : Gkind)⟩ : GA17_Gkind)) (by kernel_rfl) fun b1 w H => ?_)
  refine WL.fin 0 (by kernel_rfl) (by kernel_rfl) ?_
  refine WE.seq ?_
  refine WE.region ?_
  refine WL.sg 18 (by kernel_rfl) ?_
  refine WL.does (by kernel_rfl) (by kernel_rfl) (Does.storeE H 0 (cGA17_Gkind (⟨(⟨(⟨#[112, 117, 115, 104]⟩ : ByteArray), 2, 0, 1⟩ : Gkind), (⟨(⟨#[108, 111, 97, 100]⟩ : ByteArray), 1, 0, 1⟩ : Gkind), (⟨(⟨#[115, 116, 111, 114, 101]⟩ : ByteArray), 1, 1, 0⟩ : Gkind), (⟨(⟨#[97, 100, 100]⟩ : ByteArray), 0, 2, 1⟩ : Gkind), (⟨(⟨#[115, 117, 98]⟩ : ByteArray), 0, 2, 1⟩ : Gkind), (⟨(⟨#[109, 117, 108]⟩ : ByteArray), 0, 2, 1⟩ : Gkind), (⟨(⟨#[100, 105, 118]⟩ : ByteArray), 0, 2, 1⟩ : Gkind), (⟨(⟨#[99, 111, 110, 106]⟩ : ByteArray), 0, 1, 1⟩ : Gkind), (⟨(⟨#[100, 117, 112]⟩ : ByteArray), 0, 1, 2⟩ : Gkind), (⟨(⟨#[100, 114, 111, 112]⟩ : ByteArray), 0, 1, 0⟩ : Gkind), (⟨(⟨#[106, 117, 109, 112]⟩ : ByteArray), 1, 0, 0⟩ : Gkind), (⟨(⟨#[122, 101, 114, 111]⟩ : ByteArray), 1, 1, 0⟩ : Gkind), (⟨(⟨#[114, 97, 110, 100]⟩ : ByteArray), 0, 0, 1⟩ : Gkind), (⟨(⟨#[115, 112, 97, 119, 110]⟩ : ByteArray), 2, 0, 0⟩ : Gkind), (⟨(⟨#[106, 111, 105, 110]⟩ : ByteArray), 1, 0, 1⟩ : Gkind), (⟨(⟨#[114, 101, 116]⟩ : ByteArray), 0, 1, 0⟩ : Gkind), (⟨(⟨#[116, 114, 97, 112]⟩ : ByteArray), 1, 0, 0⟩ : Gkind)⟩ : GA17_Gkind)) rfl (q := 0) (by kernel_rfl) (by kernel_rfl) (by kernel_rfl) fun w H => ?_)
  refine WL.fin 0 (by kernel_rfl) (by kernel_rfl) ?_
  obtain rfl := hr
  exact WE.ret ⟨[.agg (cGA17_Gkind (⟨(⟨(⟨#[112, 117, 115, 104]⟩ : ByteArray), 2, 0, 1⟩ : Gkind), (⟨(⟨#[108, 111, 97, 100]⟩ : ByteArray), 1, 0, 1⟩ : Gkind), (⟨(⟨#[115, 116, 111, 114, 101]⟩ : ByteArray), 1, 1, 0⟩ : Gkind), (⟨(⟨#[97, 100, 100]⟩ : ByteArray), 0, 2, 1⟩ : Gkind), (⟨(⟨#[115, 117, 98]⟩ : ByteArray), 0, 2, 1⟩ : Gkind), (⟨(⟨#[109, 117, 108]⟩ : ByteArray), 0, 2, 1⟩ : Gkind), (⟨(⟨#[100, 105, 118]⟩ : ByteArray), 0, 2, 1⟩ : Gkind), (⟨(⟨#[99, 111, 110, 106]⟩ : ByteArray), 0, 1, 1⟩ : Gkind), (⟨(⟨#[100, 117, 112]⟩ : ByteArray), 0, 1, 2⟩ : Gkind), (⟨(⟨#[100, 114, 111, 112]⟩ : ByteArray), 0, 1, 0⟩ : Gkind), (⟨(⟨#[106, 117, 109, 112]⟩ : ByteArray), 1, 0, 0⟩ : Gkind), (⟨(⟨#[122, 101, 114, 111]⟩ : ByteArray), 1, 1, 0⟩ : Gkind), (⟨(⟨#[114, 97, 110, 100]⟩ : ByteArray), 0, 0, 1⟩ : Gkind), (⟨(⟨#[115, 112, 97, 119, 110]⟩ : ByteArray), 2, 0, 0⟩ : Gkind), (⟨(⟨#[106, 111, 105, 110]⟩ : ByteArray), 1, 0, 1⟩ : Gkind), (⟨(⟨#[114, 101, 116]⟩ : ByteArray), 0, 1, 0⟩ : Gkind), (⟨(⟨#[116, 114, 97, 112]⟩ : ByteArray), 1, 0, 0⟩ : Gkind)⟩ : GA17_Gkind)).toArray], ⟨⟨(by kernel_rfl), ⟨b1, 0, none⟩, (by kernel_rfl), H.loadVar 0 rfl 0 (by kernel_rfl)⟩, trivial⟩, ⟨rfl, (H.keep 1)⟩⟩
def op_of (x0 : Int) : Option Gkind :=
  bnd (
      if decide (x0 < 0) then
        true
      else
        decide (x0 ≥ 17)) fun y2 =>
  if y2 then
    some (⟨ByteArray.empty, 0, 0, 0⟩ : Gkind)
  else
    bnd op_kinds fun y4 =>
    if x0 == 0 then
      some y4.e0
    else
      if x0 == 1 then
        some y4.e1
      else
        if x0 == 2 then
          some y4.e2
        else
          if x0 == 3 then
            some y4.e3
          else
            if x0 == 4 then
              some y4.e4
            else
              if x0 == 5 then
                some y4.e5
              else
                if x0 == 6 then
                  some y4.e6
                else
                  if x0 == 7 then
                    some y4.e7
                  else
                    if x0 == 8 then
                      some y4.e8
                    else
                      if x0 == 9 then
                        some y4.e9
                      else
                        if x0 == 10 then
                          some y4.e10
                        else
                          if x0 == 11 then
                            some y4.e11
                          else
                            if x0 == 12 then
                              some y4.e12
                            else
                              if x0 == 13 then
                                some y4.e13
                              else
                                if x0 == 14 then
                                  some y4.e14
                                else
                                  if x0 == 15 then
                                    some y4.e15
                                  else
                                    if x0 = 16 then
                                      some y4.e16
                                    else none
set_option maxRecDepth 100000 in
theorem c_op_of {w0 w : World} {h : Gh} {L : List Ent} (x0 : Int) (H : St w0 h w L) {r : Gkind} (hr : op_of x0 = some r) : Calls Try.prog 78 #[.int .i64 x0] w (fun e w' => ∃ v, e = .returned v ∧ v = .agg (cGkind r).toArray ∧ St w0 h w' (L)) := by
  refine calls_of (args := [.int .i64 x0]) (n := 13) (rs := [.cell 2 125]) Try.func78 rfl rfl rfl rfl rfl ?_
  unfold op_of at hr
  refine WE.seq ?_
  refine WE.region ?_
  refine WL.does (by kernel_rfl) (by kernel_rfl) (Does.alloc H (cGkind (⟨ByteArray.empty, 0, 0, 0⟩ : Gkind)) (by kernel_rfl) fun b1 w H => ?_)
  refine WL.fin 0 (by kernel_rfl) (by kernel_rfl) ?_
  refine WE.seq ?_
  refine WE.seq ?_
  refine WE.region ?_
  refine WL.sg 3 (by kernel_rfl) ?_
  obtain ⟨y2, hy2, hr⟩ := bnd_cases hr
  refine WL.join 3 (fun (_ : Unit) => [(0, .int .i64 x0), (2, .pointer (some ⟨b1, 0, none⟩)), (8, .bool y2)]) (fun (_ : Unit) w => St w0 h w (var b1 (cGkind (⟨ByteArray.empty, 0, 0, 0⟩ : Gkind)) 125 :: L)) ?_ (fun hk_y2 => ?_)
  · rintro _ w H
    refine WL.fin 0 (by kernel_rfl) (by kernel_rfl) ?_
    rcases ite_cases hr with ⟨t3, hr⟩ | ⟨t3, hr⟩
    · refine WE.yes (by kernel_rfl) (b := y2) (by kernel_rfl) t3 ?_
      refine WE.seq ?_
      refine WE.region ?_
      refine WL.sg 1 (by kernel_rfl) ?_
      refine WL.does (by kernel_rfl) (by kernel_rfl) (Does.storeE H 0 (cGkind (⟨ByteArray.empty, 0, 0, 0⟩ : Gkind)) rfl (q := 0) (by kernel_rfl) (by kernel_rfl) (by kernel_rfl) fun w H => ?_)
      refine WL.fin 0 (by kernel_rfl) (by kernel_rfl) ?_
      obtain rfl := Option.some.inj hr
      exact WE.ret ⟨[.agg (cGkind (⟨ByteArray.empty, 0, 0, 0⟩ : Gkind)).toArray], ⟨⟨(by kernel_rfl), ⟨b1, 0, none⟩, (by kernel_rfl), H.loadVar 0 rfl 0 (by kernel_rfl)⟩, trivial⟩, ⟨rfl, (H.keep 1)⟩⟩
    · refine WE.no (by kernel_rfl) (b := y2) (by kernel_rfl) t3 ?_
      refine WE.skip ?_
      refine WE.seq ?_
      refine WE.region ?_
      obtain ⟨y4, q4, hr⟩ := bnd_cases hr
      refine WL.does (by kernel_rfl) (by kernel_rfl) (Does.call (c_op_kinds H q4) (by kernel_rfl) ?_)
      rintro _ w ⟨rfl, H⟩
      rcases ite_cases hr with ⟨t5, hr⟩ | ⟨t5, hr⟩
      · refine WL.sg 1 (by kernel_rfl) ?_
        refine WL.does (by kernel_rfl) (by kernel_rfl) (Does.tells (.indexLit (i := 0) (v := .agg (cGkind y4.e0).toArray) (by kernel_rfl) (beq_int t5) (by kernel_rfl)) ?_)
        refine WL.does (by kernel_rfl) (by kernel_rfl) (Does.storeE H 0 (cGkind y4.e0) rfl (q := 0) (by kernel_rfl) (by kernel_rfl) (by kernel_rfl) fun w H => ?_)
        refine WL.fin 0 (by kernel_rfl) (by kernel_rfl) ?_
        obtain rfl := Option.some.inj hr
        exact WE.ret ⟨[.agg (cGkind y4.e0).toArray], ⟨⟨(by kernel_rfl), ⟨b1, 0, none⟩, (by kernel_rfl), H.loadVar 0 rfl 0 (by kernel_rfl)⟩, trivial⟩, ⟨rfl, (H.keep 1)⟩⟩
      · rcases ite_cases hr with ⟨t6, hr⟩ | ⟨t6, hr⟩
        · refine WL.sg 1 (by kernel_rfl) ?_
          refine WL.does (by kernel_rfl) (by kernel_rfl) (Does.tells (.indexLit (i := 1) (v := .agg (cGkind y4.e1).toArray) (by kernel_rfl) (beq_int t6) (by kernel_rfl)) ?_)
          refine WL.does (by kernel_rfl) (by kernel_rfl) (Does.storeE H 0 (cGkind y4.e1) rfl (q := 0) (by kernel_rfl) (by kernel_rfl) (by kernel_rfl) fun w H => ?_)
          refine WL.fin 0 (by kernel_rfl) (by kernel_rfl) ?_
          obtain rfl := Option.some.inj hr
          exact WE.ret ⟨[.agg (cGkind y4.e1).toArray], ⟨⟨(by kernel_rfl), ⟨b1, 0, none⟩, (by kernel_rfl), H.loadVar 0 rfl 0 (by kernel_rfl)⟩, trivial⟩, ⟨rfl, (H.keep 1)⟩⟩
        · rcases ite_cases hr with ⟨t7, hr⟩ | ⟨t7, hr⟩
          · refine WL.sg 1 (by kernel_rfl) ?_
            refine WL.does (by kernel_rfl) (by kernel_rfl) (Does.tells (.indexLit (i := 2) (v := .agg (cGkind y4.e2).toArray) (by kernel_rfl) (beq_int t7) (by kernel_rfl)) ?_)
            refine WL.does (by kernel_rfl) (by kernel_rfl) (Does.storeE H 0 (cGkind y4.e2) rfl (q := 0) (by kernel_rfl) (by kernel_rfl) (by kernel_rfl) fun w H => ?_)
            refine WL.fin 0 (by kernel_rfl) (by kernel_rfl) ?_
            obtain rfl := Option.some.inj hr
            exact WE.ret ⟨[.agg (cGkind y4.e2).toArray], ⟨⟨(by kernel_rfl), ⟨b1, 0, none⟩, (by kernel_rfl), H.loadVar 0 rfl 0 (by kernel_rfl)⟩, trivial⟩, ⟨rfl, (H.keep 1)⟩⟩
          · rcases ite_cases hr with ⟨t8, hr⟩ | ⟨t8, hr⟩
            · refine WL.sg 1 (by kernel_rfl) ?_
              refine WL.does (by kernel_rfl) (by kernel_rfl) (Does.tells (.indexLit (i := 3) (v := .agg (cGkind y4.e3).toArray) (by kernel_rfl) (beq_int t8) (by kernel_rfl)) ?_)
              refine WL.does (by kernel_rfl) (by kernel_rfl) (Does.storeE H 0 (cGkind y4.e3) rfl (q := 0) (by kernel_rfl) (by kernel_rfl) (by kernel_rfl) fun w H => ?_)
              refine WL.fin 0 (by kernel_rfl) (by kernel_rfl) ?_
              obtain rfl := Option.some.inj hr
              exact WE.ret ⟨[.agg (cGkind y4.e3).toArray], ⟨⟨(by kernel_rfl), ⟨b1, 0, none⟩, (by kernel_rfl), H.loadVar 0 rfl 0 (by kernel_rfl)⟩, trivial⟩, ⟨rfl, (H.keep 1)⟩⟩
            · rcases ite_cases hr with ⟨t9, hr⟩ | ⟨t9, hr⟩
              · refine WL.sg 1 (by kernel_rfl) ?_
                refine WL.does (by kernel_rfl) (by kernel_rfl) (Does.tells (.indexLit (i := 4) (v := .agg (cGkind y4.e4).toArray) (by kernel_rfl) (beq_int t9) (by kernel_rfl)) ?_)
                refine WL.does (by kernel_rfl) (by kernel_rfl) (Does.storeE H 0 (cGkind y4.e4) rfl (q := 0) (by kernel_rfl) (by kernel_rfl) (by kernel_rfl) fun w H => ?_)
                refine WL.fin 0 (by kernel_rfl) (by kernel_rfl) ?_
                obtain rfl := Option.some.inj hr
                exact WE.ret ⟨[.agg (cGkind y4.e4).toArray], ⟨⟨(by kernel_rfl), ⟨b1, 0, none⟩, (by kernel_rfl), H.loadVar 0 rfl 0 (by kernel_rfl)⟩, trivial⟩, ⟨rfl, (H.keep 1)⟩⟩
              · rcases ite_cases hr with ⟨t10, hr⟩ | ⟨t10, hr⟩
                · refine WL.sg 1 (by kernel_rfl) ?_
                  refine WL.does (by kernel_rfl) (by kernel_rfl) (Does.tells (.indexLit (i := 5) (v := .agg (cGkind y4.e5).toArray) (by kernel_rfl) (beq_int t10) (by kernel_rfl)) ?_)
                  refine WL.does (by kernel_rfl) (by kernel_rfl) (Does.storeE H 0 (cGkind y4.e5) rfl (q := 0) (by kernel_rfl) (by kernel_rfl) (by kernel_rfl) fun w H => ?_)
                  refine WL.fin 0 (by kernel_rfl) (by kernel_rfl) ?_
                  obtain rfl := Option.some.inj hr
                  exact WE.ret ⟨[.agg (cGkind y4.e5).toArray], ⟨⟨(by kernel_rfl), ⟨b1, 0, none⟩, (by kernel_rfl), H.loadVar 0 rfl 0 (by kernel_rfl)⟩, trivial⟩, ⟨rfl, (H.keep 1)⟩⟩
                · rcases ite_cases hr with ⟨t11, hr⟩ | ⟨t11, hr⟩
                  · refine WL.sg 1 (by kernel_rfl) ?_
                    refine WL.does (by kernel_rfl) (by kernel_rfl) (Does.tells (.indexLit (i := 6) (v := .agg (cGkind y4.e6).toArray) (by kernel_rfl) (beq_int t11) (by kernel_rfl)) ?_)
                    refine WL.does (by kernel_rfl) (by kernel_rfl) (Does.storeE H 0 (cGkind y4.e6) rfl (q := 0) (by kernel_rfl) (by kernel_rfl) (by kernel_rfl) fun w H => ?_)
                    refine WL.fin 0 (by kernel_rfl) (by kernel_rfl) ?_
                    obtain rfl := Option.some.inj hr
                    exact WE.ret ⟨[.agg (cGkind y4.e6).toArray], ⟨⟨(by kernel_rfl), ⟨b1, 0, none⟩, (by kernel_rfl), H.loadVar 0 rfl 0 (by kernel_rfl)⟩, trivial⟩, ⟨rfl, (H.keep 1)⟩⟩
                  · rcases ite_cases hr with ⟨t12, hr⟩ | ⟨t12, hr⟩
                    · refine WL.sg 1 (by kernel_rfl) ?_
                      refine WL.does (by kernel_rfl) (by kernel_rfl) (Does.tells (.indexLit (i := 7) (v := .agg (cGkind y4.e7).toArray) (by kernel_rfl) (beq_int t12) (by kernel_rfl)) ?_)
                      refine WL.does (by kernel_rfl) (by kernel_rfl) (Does.storeE H 0 (cGkind y4.e7) rfl (q := 0) (by kernel_rfl) (by kernel_rfl) (by kernel_rfl) fun w H => ?_)
                      refine WL.fin 0 (by kernel_rfl) (by kernel_rfl) ?_
                      obtain rfl := Option.some.inj hr
                      exact WE.ret ⟨[.agg (cGkind y4.e7).toArray], ⟨⟨(by kernel_rfl), ⟨b1, 0, none⟩, (by kernel_rfl), H.loadVar 0 rfl 0 (by kernel_rfl)⟩, trivial⟩, ⟨rfl, (H.keep 1)⟩⟩
                    · rcases ite_cases hr with ⟨t13, hr⟩ | ⟨t13, hr⟩
                      · refine WL.sg 1 (by kernel_rfl) ?_
                        refine WL.does (by kernel_rfl) (by kernel_rfl) (Does.tells (.indexLit (i := 8) (v := .agg (cGkind y4.e8).toArray) (by kernel_rfl) (beq_int t13) (by kernel_rfl)) ?_)
                        refine WL.does (by kernel_rfl) (by kernel_rfl) (Does.storeE H 0 (cGkind y4.e8) rfl (q := 0) (by kernel_rfl) (by kernel_rfl) (by kernel_rfl) fun w H => ?_)
                        refine WL.fin 0 (by kernel_rfl) (by kernel_rfl) ?_
                        obtain rfl := Option.some.inj hr
                        exact WE.ret ⟨[.agg (cGkind y4.e8).toArray], ⟨⟨(by kernel_rfl), ⟨b1, 0, none⟩, (by kernel_rfl), H.loadVar 0 rfl 0 (by kernel_rfl)⟩, trivial⟩, ⟨rfl, (H.keep 1)⟩⟩
                      · rcases ite_cases hr with ⟨t14, hr⟩ | ⟨t14, hr⟩
                        · refine WL.sg 1 (by kernel_rfl) ?_
                          refine WL.does (by kernel_rfl) (by kernel_rfl) (Does.tells (.indexLit (i := 9) (v := .agg (cGkind y4.e9).toArray) (by kernel_rfl) (beq_int t14) (by kernel_rfl)) ?_)
                          refine WL.does (by kernel_rfl) (by kernel_rfl) (Does.storeE H 0 (cGkind y4.e9) rfl (q := 0) (by kernel_rfl) (by kernel_rfl) (by kernel_rfl) fun w H => ?_)
                          refine WL.fin 0 (by kernel_rfl) (by kernel_rfl) ?_
                          obtain rfl := Option.some.inj hr
                          exact WE.ret ⟨[.agg (cGkind y4.e9).toArray], ⟨⟨(by kernel_rfl), ⟨b1, 0, none⟩, (by kernel_rfl), H.loadVar 0 rfl 0 (by kernel_rfl)⟩, trivial⟩, ⟨rfl, (H.keep 1)⟩⟩
                        · rcases ite_cases hr with ⟨t15, hr⟩ | ⟨t15, hr⟩
                          · refine WL.sg 1 (by kernel_rfl) ?_
                            refine WL.does (by kernel_rfl) (by kernel_rfl) (Does.tells (.indexLit (i := 10) (v := .agg (cGkind y4.e10).toArray) (by kernel_rfl) (beq_int t15) (by kernel_rfl)) ?_)
                            refine WL.does (by kernel_rfl) (by kernel_rfl) (Does.storeE H 0 (cGkind y4.e10) rfl (q := 0) (by kernel_rfl) (by kernel_rfl) (by kernel_rfl) fun w H => ?_)
                            refine WL.fin 0 (by kernel_rfl) (by kernel_rfl) ?_
                            obtain rfl := Option.some.inj hr
                            exact WE.ret ⟨[.agg (cGkind y4.e10).toArray], ⟨⟨(by kernel_rfl), ⟨b1, 0, none⟩, (by kernel_rfl), H.loadVar 0 rfl 0 (by kernel_rfl)⟩, trivial⟩, ⟨rfl, (H.keep 1)⟩⟩
                          · rcases ite_cases hr with ⟨t16, hr⟩ | ⟨t16, hr⟩
                            · refine WL.sg 1 (by kernel_rfl) ?_
                              refine WL.does (by kernel_rfl) (by kernel_rfl) (Does.tells (.indexLit (i := 11) (v := .agg (cGkind y4.e11).toArray) (by kernel_rfl) (beq_int t16) (by kernel_rfl)) ?_)
                              refine WL.does (by kernel_rfl) (by kernel_rfl) (Does.storeE H 0 (cGkind y4.e11) rfl (q := 0) (by kernel_rfl) (by kernel_rfl) (by kernel_rfl) fun w H => ?_)
                              refine WL.fin 0 (by kernel_rfl) (by kernel_rfl) ?_
                              obtain rfl := Option.some.inj hr
                              exact WE.ret ⟨[.agg (cGkind y4.e11).toArray], ⟨⟨(by kernel_rfl), ⟨b1, 0, none⟩, (by kernel_rfl), H.loadVar 0 rfl 0 (by kernel_rfl)⟩, trivial⟩, ⟨rfl, (H.keep 1)⟩⟩
                            · rcases ite_cases hr with ⟨t17, hr⟩ | ⟨t17, hr⟩
                              · refine WL.sg 1 (by kernel_rfl) ?_
                                refine WL.does (by kernel_rfl) (by kernel_rfl) (Does.tells (.indexLit (i := 12) (v := .agg (cGkind y4.e12).toArray) (by kernel_rfl) (beq_int t17) (by kernel_rfl)) ?_)
                                refine WL.does (by kernel_rfl) (by kernel_rfl) (Does.storeE H 0 (cGkind y4.e12) rfl (q := 0) (by kernel_rfl) (by kernel_rfl) (by kernel_rfl) fun w H => ?_)
                                refine WL.fin 0 (by kernel_rfl) (by kernel_rfl) ?_
                                obtain rfl := Option.some.inj hr
                                exact WE.ret ⟨[.agg (cGkind y4.e12).toArray], ⟨⟨(by kernel_rfl), ⟨b1, 0, none⟩, (by kernel_rfl), H.loadVar 0 rfl 0 (by kernel_rfl)⟩, trivial⟩, ⟨rfl, (H.keep 1)⟩⟩
                              · rcases ite_cases hr with ⟨t18, hr⟩ | ⟨t18, hr⟩
                                · refine WL.sg 1 (by kernel_rfl) ?_
                                  refine WL.does (by kernel_rfl) (by kernel_rfl) (Does.tells (.indexLit (i := 13) (v := .agg (cGkind y4.e13).toArray) (by kernel_rfl) (beq_int t18) (by kernel_rfl)) ?_)
                                  refine WL.does (by kernel_rfl) (by kernel_rfl) (Does.storeE H 0 (cGkind y4.e13) rfl (q := 0) (by kernel_rfl) (by kernel_rfl) (by kernel_rfl) fun w H => ?_)
                                  refine WL.fin 0 (by kernel_rfl) (by kernel_rfl) ?_
                                  obtain rfl := Option.some.inj hr
                                  exact WE.ret ⟨[.agg (cGkind y4.e13).toArray], ⟨⟨(by kernel_rfl), ⟨b1, 0, none⟩, (by kernel_rfl), H.loadVar 0 rfl 0 (by kernel_rfl)⟩, trivial⟩, ⟨rfl, (H.keep 1)⟩⟩
                                · rcases ite_cases hr with ⟨t19, hr⟩ | ⟨t19, hr⟩
                                  · refine WL.sg 1 (by kernel_rfl) ?_
                                    refine WL.does (by kernel_rfl) (by kernel_rfl) (Does.tells (.indexLit (i := 14) (v := .agg (cGkind y4.e14).toArray) (by kernel_rfl) (beq_int t19) (by kernel_rfl)) ?_)
                                    refine WL.does (by kernel_rfl) (by kernel_rfl) (Does.storeE H 0 (cGkind y4.e14) rfl (q := 0) (by kernel_rfl) (by kernel_rfl) (by kernel_rfl) fun w H => ?_)
                                    refine WL.fin 0 (by kernel_rfl) (by kernel_rfl) ?_
                                    obtain rfl := Option.some.inj hr
                                    exact WE.ret ⟨[.agg (cGkind y4.e14).toArray], ⟨⟨(by kernel_rfl), ⟨b1, 0, none⟩, (by kernel_rfl), H.loadVar 0 rfl 0 (by kernel_rfl)⟩, trivial⟩, ⟨rfl, (H.keep 1)⟩⟩
                                  · rcases ite_cases hr with ⟨t20, hr⟩ | ⟨t20, hr⟩
                                    · refine WL.sg 1 (by kernel_rfl) ?_
                                      refine WL.does (by kernel_rfl) (by kernel_rfl) (Does.tells (.indexLit (i := 15) (v := .agg (cGkind y4.e15).toArray) (by kernel_rfl) (beq_int t20) (by kernel_rfl)) ?_)
                                      refine WL.does (by kernel_rfl) (by kernel_rfl) (Does.storeE H 0 (cGkind y4.e15) rfl (q := 0) (by kernel_rfl) (by kernel_rfl) (by kernel_rfl) fun w H => ?_)
                                      refine WL.fin 0 (by kernel_rfl) (by kernel_rfl) ?_
                                      obtain rfl := Option.some.inj hr
                                      exact WE.ret ⟨[.agg (cGkind y4.e15).toArray], ⟨⟨(by kernel_rfl), ⟨b1, 0, none⟩, (by kernel_rfl), H.loadVar 0 rfl 0 (by kernel_rfl)⟩, trivial⟩, ⟨rfl, (H.keep 1)⟩⟩
                                    · obtain ⟨t21, hr⟩ := grd_cases hr
                                      refine WL.sg 1 (by kernel_rfl) ?_
                                      refine WL.does (by kernel_rfl) (by kernel_rfl) (Does.tells (.indexLit (i := 16) (v := .agg (cGkind y4.e16).toArray) (by kernel_rfl) t21 (by kernel_rfl)) ?_)
                                      refine WL.does (by kernel_rfl) (by kernel_rfl) (Does.storeE H 0 (cGkind y4.e16) rfl (q := 0) (by kernel_rfl) (by kernel_rfl) (by kernel_rfl) fun w H => ?_)
                                      refine WL.fin 0 (by kernel_rfl) (by kernel_rfl) ?_
                                      obtain rfl := Option.some.inj hr
                                      exact WE.ret ⟨[.agg (cGkind y4.e16).toArray], ⟨⟨(by kernel_rfl), ⟨b1, 0, none⟩, (by kernel_rfl), H.loadVar 0 rfl 0 (by kernel_rfl)⟩, trivial⟩, ⟨rfl, (H.keep 1)⟩⟩
  rcases ite_cases hy2 with ⟨ty2, hy2⟩ | ⟨ty2, hy2⟩
  · refine WL.known 5 ty2 (by kernel_rfl) (by kernel_rfl) ?_
    refine WL.sg 3 (by kernel_rfl) ?_
    obtain rfl := hy2
    exact WL.live [0, 2, 8] (by kernel_rfl) (hk_y2 () _ H)
  · refine WL.known 5 ty2 (by kernel_rfl) (by kernel_rfl) ?_
    refine WL.sg 3 (by kernel_rfl) ?_
    obtain rfl := hy2
    exact WL.live [0, 2, 8] (by kernel_rfl) (hk_y2 () _ H)
def op_Stack (x0 : Int) : Option (Int × Int) :=
  (op_of x0).bind fun y1 =>
  some (y1.off, y1.on)
set_option maxRecDepth 100000 in
theorem c_op_Stack {w0 w : World} {h : Gh} {L : List Ent} (x0 : Int) (H : St w0 h w L) {r : Int × Int} (hr : op_Stack x0 = some r) : Calls Try.prog 56 #[.int .i64 x0] w (fun e w' => ∃ v, e = .returned v ∧ v = .tuple #[.int .i64 r.1, .int .i64 r.2] ∧ St w0 h w' (L)) := by
  refine calls_of (args := [.int .i64 x0]) (n := 11) (rs := [.tmp 2, .tmp 3]) Try.func56 rfl rfl rfl rfl rfl ?_
  unfold op_Stack at hr
  refine WE.seq ?_
  refine WE.region ?_
  refine WL.fin 2 (by kernel_rfl) (by kernel_rfl) ?_
  refine WE.seq ?_
  refine WE.region ?_
  obtain ⟨y1, q1, hr⟩ := bind_cases hr
  refine WL.sg 1 (by kernel_rfl) ?_
  refine WL.does (by kernel_rfl) (by kernel_rfl) (Does.call (c_op_of x0 H q1) (by kernel_rfl) ?_)
  rintro _ w ⟨rfl, H⟩
  refine WL.does (by kernel_rfl) (by kernel_rfl) (Does.alloc H (cGkind (⟨ByteArray.empty, 0, 0, 0⟩ : Gkind)) (by kernel_rfl) fun b2 w H => ?_)
  refine WL.does (by kernel_rfl) (by kernel_rfl) (Does.storeE H 0 (cGkind y1) rfl (q := 0) (by kernel_rfl) (by kernel_rfl) (by kernel_rfl) fun w H => ?_)
  refine WL.fin 0 (by kernel_rfl) (by kernel_rfl) ?_
  refine WE.seq ?_
  refine WE.draws mo [4] (ρ' := [(4, .pointer (some ⟨b2, 0, none⟩))]) (by kernel_rfl) fun w e1 e2 e3 e4 => ?_
  have H := H.same e1 e2 e3 e4
  clear e1 e2 e3 e4
  refine WD.know [0] (by kernel_rfl) ?_
  refine WD.told 1 8 (.int .i64 y1.off) (by kernel_rfl) (by kernel_rfl) ?_
  refine WD.know [2] (by kernel_rfl) ?_
  refine WD.told 3 10 (.int .i64 y1.on) (by kernel_rfl) (by kernel_rfl) ?_
  refine WD.does 4 (by kernel_rfl) rfl (Floats.of [2, 0] [3, 1] (by kernel_rfl) (Floats.pure _ (by kernel_rfl) (by kernel_rfl)) (.cons (.tells rfl (by kernel_rfl) rfl (.loadV H 0 rfl 3 (by kernel_rfl) (by kernel_rfl))) (.cons (.tells rfl (by kernel_rfl) rfl (.loadV H 0 rfl 2 (by kernel_rfl) (by kernel_rfl))) .nil))) (by kernel_rfl) (by kernel_rfl) (Does.reck (by kernel_rfl) ?_)
  refine WD.does 5 (by kernel_rfl) rfl (Floats.of [2] [3] (by kernel_rfl) (Floats.pure _ (by kernel_rfl) (by kernel_rfl)) (.cons (.tells rfl (by kernel_rfl) rfl (.loadV H 0 rfl 3 (by kernel_rfl) (by kernel_rfl))) .nil)) (by kernel_rfl) (by kernel_rfl) (Does.reck (by kernel_rfl) ?_)
  refine WD.fin (by kernel_rfl) (Floats.of [] [] (by kernel_rfl) .nil .nil) (by kernel_rfl) (by kernel_rfl) ?_
  obtain rfl := Option.some.inj hr
  exact WE.ret ⟨[.int .i64 y1.off, .int .i64 y1.on], ⟨⟨(by kernel_rfl), (by kernel_rfl)⟩, ⟨(by kernel_rfl), (by kernel_rfl)⟩, trivial⟩, ⟨rfl, (H.keep 1)⟩⟩
def frame_runner_off (x0 : Grunner) : Option Int :=
  if x0.x.Op == 13 then
    if 0 ≤ x0.x.A ∧ x0.x.A < x0.p.length then
      some ((gd x0.p x0.x.A).Arity)
    else none
  else
    (op_Stack x0.x.Op).bind fun y13 =>
    some y13.1
set_option maxRecDepth 100000 in
theorem c_frame_runner_off {w0 w : World} {h : Gh} {L : List Ent} (x0 : Grunner) {a1 : Option Addr} {c1 : Nat} {a2 : Option Addr} {c2 : Nat} {a3 : Option Addr} {c3 : Nat} {a4 : Option Addr} {c4 : Nat} {a5 : Option Addr} {c5 : Nat} (f4 : Sl rGFunc 48 h a4 c4 x0.p) (f5 : Sl rGValue 16 h a5 c5 x0.act.Args) {b_0 : Nat} (H : St w0 h w (var b_0 (cGrunner x0 a1 c1 a2 c2 a3 c3 a4 c4 a5 c5) 73 :: row rGValue 16 h a1 c1 x0.Frame.Stack :: row rGValue 16 h a2 c2 x0.Frame.Locals :: row rGSlot 48 h a3 c3 x0.Frame.Slots :: L)) {r : Int} (hr : frame_runner_off x0 = some r) : Calls Try.prog 57 #[.pointer (some ⟨b_0, 0, none⟩)] w (fun e w' => ∃ v, e = .returned v ∧ v = .int .i64 r ∧ St w0 h w' (var b_0 (cGrunner x0 a1 c1 a2 c2 a3 c3 a4 c4 a5 c5) 73 :: row rGValue 16 h a1 c1 x0.Frame.Stack :: row rGValue 16 h a2 c2 x0.Frame.Locals :: row rGSlot 48 h a3 c3 x0.Frame.Slots :: L)) := by
  refine calls_of (args := [.pointer (some ⟨b_0, 0, none⟩)]) (n := 33) (rs := [.tmp 2]) Try.func57 rfl rfl rfl rfl rfl ?_
  unfold frame_runner_off at hr
  refine WE.seq ?_
  refine WE.region ?_
  refine WL.fin 1 (by kernel_rfl) (by kernel_rfl) ?_
  refine WE.seq ?_
  refine WE.seq ?_
  refine WE.region ?_
  refine WL.sg 4 (by kernel_rfl) ?_
  refine WL.does (by kernel_rfl) (by kernel_rfl) (Does.loadV H 0 rfl 17 (by kernel_rfl) (by kernel_rfl) ?_)
  refine WL.fin 1 (by kernel_rfl) (by kernel_rfl) ?_
  rcases ite_cases hr with ⟨t10, hr⟩ | ⟨t10, hr⟩
  · refine WE.yes (by kernel_rfl) (b := x0.x.Op == 13) (by kernel_rfl) t10 ?_
    refine WE.seq ?_
    refine WE.draws mo [0] (ρ' := [(0, .pointer (some ⟨b_0, 0, none⟩))]) (by kernel_rfl) fun w e1 e2 e3 e4 => ?_
    have H := H.same e1 e2 e3 e4
    clear e1 e2 e3 e4
    refine WD.know [0] (by kernel_rfl) ?_
    refine WD.know [1] (by kernel_rfl) ?_
    refine WD.know [2] (by kernel_rfl) ?_
    refine WD.told 3 14 (.slice a4 x0.p.length c4) (by kernel_rfl) (by kernel_rfl) ?_
    refine WD.know [4] (by kernel_rfl) ?_
    refine WD.know [5] (by kernel_rfl) ?_
    refine WD.know [6] (by kernel_rfl) ?_
    refine WD.know [7] (by kernel_rfl) ?_
    refine WD.told 8 19 (.int .i64 x0.x.A) (by kernel_rfl) (by kernel_rfl) ?_
    obtain ⟨⟨g0_11, g1_11⟩, hr⟩ := grd_cases hr
    obtain ⟨b11, p11, C11, e11, fr11, cs11, rfl, hb11, hc11, ⟨a12, c12, rfl, f12⟩⟩ := f4.at g0_11 g1_11
    refine WD.told 9 20 (.pointer (some ⟨b11, p11 + x0.x.A.toNat * 4, none⟩)) (by kernel_rfl) (by kernel_rfl) ?_
    refine WD.know [10] (by kernel_rfl) ?_
    refine WD.told 11 22 (.int .i64 ((gd x0.p x0.x.A).Arity)) (by kernel_rfl) (by kernel_rfl) ?_
    refine WD.does 12 (by kernel_rfl) rfl (Floats.of [10, 7, 6, 5, 4, 2, 1, 0] [11, 9, 8, 3] (by kernel_rfl) (Floats.pure _ (by kernel_rfl) (by kernel_rfl)) (.cons (.tells rfl (by kernel_rfl) rfl (.loadR H hb11 hc11 0 (by kernel_rfl) (by kernel_rfl))) (.cons (.tells rfl (by kernel_rfl) (by kernel_rfl) (.idx b11 (p11) x0.p.length c4 x0.x.A 4 (by kernel_rfl) (by kernel_rfl) g0_11 g1_11 (by kernel_rfl))) (.cons (.tells rfl (by kernel_rfl) rfl (.loadV H 0 rfl 18 (by kernel_rfl) (by kernel_rfl))) (.cons (.tells rfl (by kernel_rfl) rfl (.loadV H 0 rfl 16 (by kernel_rfl) (by kernel_rfl))) .nil))))) (by kernel_rfl) (by kernel_rfl) (Does.reck (by kernel_rfl) ?_)
    refine WD.fin (by kernel_rfl) (Floats.of [] [] (by kernel_rfl) .nil .nil) (by kernel_rfl) (by kernel_rfl) ?_
    obtain rfl := Option.some.inj hr
    exact WE.ret ⟨[.int .i64 ((gd x0.p x0.x.A).Arity)], ⟨⟨(by kernel_rfl), (by kernel_rfl)⟩, trivial⟩, ⟨rfl, H⟩⟩
  · refine WE.no (by kernel_rfl) (b := x0.x.Op == 13) (by kernel_rfl) t10 ?_
    refine WE.skip ?_
    refine WE.seq ?_
    refine WE.region ?_
    refine WL.sg 4 (by kernel_rfl) ?_
    refine WL.does (by kernel_rfl) (by kernel_rfl) (Does.loadV H 0 rfl 17 (by kernel_rfl) (by kernel_rfl) ?_)
    obtain ⟨y13, q13, hr⟩ := bind_cases hr
    refine WL.does (by kernel_rfl) (by kernel_rfl) (Does.call (c_op_Stack x0.x.Op H q13) (by kernel_rfl) ?_)
    rintro _ w ⟨rfl, H⟩
    refine WL.fin 5 (by kernel_rfl) (by kernel_rfl) ?_
    refine WE.seq ?_
    refine WE.region ?_
    refine WL.fin 2 (by kernel_rfl) (by kernel_rfl) ?_
    obtain rfl := Option.some.inj hr
    exact WE.ret ⟨[.int .i64 y13.1], ⟨⟨(by kernel_rfl), (by kernel_rfl)⟩, trivial⟩, ⟨rfl, H⟩⟩
def frame_runner_room (x0 : Grunner) : Option Bool :=
  (op_Stack x0.x.Op).bind fun y12 =>
  (frame_runner_off x0).bind fun y13 =>
  bnd (
      if decide (y13 ≥ 0) then
        decide ((x0.Frame.Stack.length : Int) ≥ y13)
      else
        false) fun y14 =>
  bnd (
      if y14 then
        bnd (
            if y12.2 == 0 then
              true
            else
              decide ((w64 ((w64 ((x0.Frame.Stack.length : Int) - y13)) + y12.2)) ≤ 16)) fun y17 =>
        y17
      else
        false) fun y15 =>
  some y15
set_option maxRecDepth 100000 in
theorem c_frame_runner_room {w0 w : World} {h : Gh} {L : List Ent} (x0 : Grunner) {a1 : Option Addr} {c1 : Nat} {a2 : Option Addr} {c2 : Nat} {a3 : Option Addr} {c3 : Nat} {a4 : Option Addr} {c4 : Nat} {a5 : Option Addr} {c5 : Nat} (f4 : Sl rGFunc 48 h a4 c4 x0.p) (f5 : Sl rGValue 16 h a5 c5 x0.act.Args) {b_0 : Nat} (H : St w0 h w (var b_0 (cGrunner x0 a1 c1 a2 c2 a3 c3 a4 c4 a5 c5) 73 :: row rGValue 16 h a1 c1 x0.Frame.Stack :: row rGValue 16 h a2 c2 x0.Frame.Locals :: row rGSlot 48 h a3 c3 x0.Frame.Slots :: L)) {r : Bool} (hr : frame_runner_room x0 = some r) : Calls Try.prog 29 #[.pointer (some ⟨b_0, 0, none⟩)] w (fun e w' => ∃ v, e = .returned v ∧ v = .bool r ∧ St w0 h w' (var b_0 (cGrunner x0 a1 c1 a2 c2 a3 c3 a4 c4 a5 c5) 73 :: row rGValue 16 h a1 c1 x0.Frame.Stack :: row rGValue 16 h a2 c2 x0.Frame.Locals :: row rGSlot 48 h a3 c3 x0.Frame.Slots :: L)) := by
  refine calls_of (args := [.pointer (some ⟨b_0, 0, none⟩)]) (n := 46) (rs := [.tmp 2]) Try.func29 rfl rfl rfl rfl rfl ?_
  unfold frame_runner_room at hr
  refine WE.seq ?_
  refine WE.region ?_
  refine WL.fin 1 (by kernel_rfl) (by kernel_rfl) ?_
  refine WE.seq ?_
  refine WE.region ?_
  refine WL.sg 4 (by kernel_rfl) ?_
  refine WL.does (by kernel_rfl) (by kernel_rfl) (Does.loadV H 0 rfl 17 (by kernel_rfl) (by kernel_rfl) ?_)
  obtain ⟨y12, q12, hr⟩ := bind_cases hr
  refine WL.does (by kernel_rfl) (by kernel_rfl) (Does.call (c_op_Stack x0.x.Op H q12) (by kernel_rfl) ?_)
  rintro _ w ⟨rfl, H⟩
  refine WL.fin 5 (by kernel_rfl) (by kernel_rfl) ?_
  refine WE.seq ?_
  refine WE.region ?_
  obtain ⟨y13, q13, hr⟩ := bind_cases hr
  refine WL.sg 1 (by kernel_rfl) ?_
  refine WL.does (by kernel_rfl) (by kernel_rfl) (Does.call (c_frame_runner_off x0 f4 f5 H q13) (by kernel_rfl) ?_)
  rintro _ w ⟨rfl, H⟩
  refine WL.fin 1 (by kernel_rfl) (by kernel_rfl) ?_
  refine WE.seq ?_
  refine WE.region ?_
  refine WL.sg 3 (by kernel_rfl) ?_
  obtain ⟨y14, hy14, hr⟩ := bnd_cases hr
  refine WL.join 9 (fun (_ : Unit) => [(0, .pointer (some ⟨b_0, 0, none⟩)), (4, .int .i64 y12.2), (5, .int .i64 y13), (28, .bool y14)]) (fun (_ : Unit) w => St w0 h w (var b_0 (cGrunner x0 a1 c1 a2 c2 a3 c3 a4 c4 a5 c5) 73 :: row rGValue 16 h a1 c1 x0.Frame.Stack :: row rGValue 16 h a2 c2 x0.Frame.Locals :: row rGSlot 48 h a3 c3 x0.Frame.Slots :: L)) ?_ (fun hk_y14 => ?_)
  · rintro _ w H
    refine WL.sg 1 (by kernel_rfl) ?_
    obtain ⟨y15, hy15, hr⟩ := bnd_cases hr
    refine WL.join 16 (fun (_ : Unit) => [(45, .bool y15)]) (fun (_ : Unit) w => St w0 h w (var b_0 (cGrunner x0 a1 c1 a2 c2 a3 c3 a4 c4 a5 c5) 73 :: row rGValue 16 h a1 c1 x0.Frame.Stack :: row rGValue 16 h a2 c2 x0.Frame.Locals :: row rGSlot 48 h a3 c3 x0.Frame.Slots :: L)) ?_ (fun hk_y15 => ?_)
    · rintro _ w H
      refine WL.fin 1 (by kernel_rfl) (by kernel_rfl) ?_
      obtain rfl := Option.some.inj hr
      exact WE.ret ⟨[.bool y15], ⟨⟨(by kernel_rfl), (by kernel_rfl)⟩, trivial⟩, ⟨rfl, H⟩⟩
    rcases ite_cases hy15 with ⟨ty15, hy15⟩ | ⟨ty15, hy15⟩
    · refine WL.known 29 ty15 (by kernel_rfl) (by kernel_rfl) ?_
      refine WL.sg 3 (by kernel_rfl) ?_
      obtain ⟨y17, hy17, hy15⟩ := bnd_cases hy15
      refine WL.join 12 (fun (_ : Unit) => [(29, .bool true), (44, .bool y17)]) (fun (_ : Unit) w => St w0 h w (var b_0 (cGrunner x0 a1 c1 a2 c2 a3 c3 a4 c4 a5 c5) 73 :: row rGValue 16 h a1 c1 x0.Frame.Stack :: row rGValue 16 h a2 c2 x0.Frame.Locals :: row rGSlot 48 h a3 c3 x0.Frame.Slots :: L)) ?_ (fun hk_y17 => ?_)
      · rintro _ w H
        refine WL.sg 1 (by kernel_rfl) ?_
        obtain rfl := hy15
        exact WL.live [45] (by kernel_rfl) (hk_y15 () _ H)
      rcases ite_cases hy17 with ⟨ty17, hy17⟩ | ⟨ty17, hy17⟩
      · refine WL.known 32 ty17 (by kernel_rfl) (by kernel_rfl) ?_
        refine WL.sg 12 (by kernel_rfl) ?_
        obtain rfl := hy17
        exact WL.live [29, 44] (by kernel_rfl) (hk_y17 () _ H)
      · refine WL.known 32 ty17 (by kernel_rfl) (by kernel_rfl) ?_
        refine WL.sg 4 (by kernel_rfl) ?_
        refine WL.does (by kernel_rfl) (by kernel_rfl) (Does.loadV H 0 rfl 2 (by kernel_rfl) (by kernel_rfl) ?_)
        refine WL.sg 7 (by kernel_rfl) ?_
        obtain rfl := hy17
        exact WL.live [29, 44] (by kernel_rfl) (hk_y17 () _ H)
    · refine WL.known 29 ty15 (by kernel_rfl) (by kernel_rfl) ?_
      refine WL.sg 16 (by kernel_rfl) ?_
      obtain rfl := hy15
      exact WL.live [45] (by kernel_rfl) (hk_y15 () _ H)
  rcases ite_cases hy14 with ⟨ty14, hy14⟩ | ⟨ty14, hy14⟩
  · refine WL.known 19 ty14 (by kernel_rfl) (by kernel_rfl) ?_
    refine WL.sg 4 (by kernel_rfl) ?_
    refine WL.does (by kernel_rfl) (by kernel_rfl) (Does.loadV H 0 rfl 2 (by kernel_rfl) (by kernel_rfl) ?_)
    refine WL.sg 4 (by kernel_rfl) ?_
    obtain rfl := hy14
    exact WL.live [0, 4, 5, 28] (by kernel_rfl) (hk_y14 () _ H)
  · refine WL.known 19 ty14 (by kernel_rfl) (by kernel_rfl) ?_
    refine WL.sg 9 (by kernel_rfl) ?_
    obtain rfl := hy14
    exact WL.live [0, 4, 5, 28] (by kernel_rfl) (hk_y14 () _ H)
def frame_runner_pop (x0 : Grunner) (x1 : Int) : Option ((List GValue) × (List GValue)) :=
  if 0 ≤ (w64 ((x0.Frame.Stack.length : Int) - x1)) ∧ (w64 ((x0.Frame.Stack.length : Int) - x1)) ≤ (x0.Frame.Stack.length : Int) then
    (slices_Clone_Value (lcut x0.Frame.Stack (w64 ((x0.Frame.Stack.length : Int) - x1)) (x0.Frame.Stack.length : Int))).bind fun y14 =>
    if 0 ≤ (w64 ((x0.Frame.Stack.length : Int) - x1)) ∧ (w64 ((x0.Frame.Stack.length : Int) - x1)) ≤ (x0.Frame.Stack.length : Int) then
      some (y14, (x0.Frame.Stack.take (w64 ((x0.Frame.Stack.length : Int) - x1)).toNat))
    else none
  else none
set_option maxRecDepth 100000 in
theorem c_frame_runner_pop {w0 w : World} {h : Gh} {L : List Ent} (x0 : Grunner) {a1 : Option Addr} {c1 : Nat} {a2 : Option Addr} {c2 : Nat} {a3 : Option Addr} {c3 : Nat} {a4 : Option Addr} {c4 : Nat} {a5 : Option Addr} {c5 : Nat} (f4 : Sl rGFunc 48 h a4 c4 x0.p) (f5 : Sl rGValue 16 h a5 c5 x0.act.Args) {b_0 : Nat} (x1 : Int) (H : St w0 h w (var b_0 (cGrunner x0 a1 c1 a2 c2 a3 c3 a4 c4 a5 c5) 73 :: row rGValue 16 h a1 c1 x0.Frame.Stack :: row rGValue 16 h a2 c2 x0.Frame.Locals :: row rGSlot 48 h a3 c3 x0.Frame.Slots :: L)) {r : (List GValue) × (List GValue)} (hr : frame_runner_pop x0 x1 = some r) : Calls Try.prog 31 #[.pointer (some ⟨b_0, 0, none⟩), .int .i64 x1] w (fun e w' => ∃ v, e = .returned v ∧ ∃ (h' : Gh) (a901 : Option Addr) (c901 : Nat) (a903 : Option Addr) (c903 : Nat), v = .slice a901 r.1.length c901 ∧ h.le h' ∧ St w0 h' w' (var b_0 (cGrunner ({ x0 with Frame := { x0.Frame with Stack := r.2 } }) a903 c903 a2 c2 a3 c3 a4 c4 a5 c5) 73 :: row rGValue 16 h' a903 c903 r.2 :: row rGValue 16 h a2 c2 x0.Frame.Locals :: row rGSlot 48 h a3 c3 x0.Frame.Slots :: row rGValue 16 h' a901 c901 r.1 :: L)) := by
  refine calls_of (args := [.pointer (some ⟨b_0, 0, none⟩), .int .i64 x1]) (n := 35) (rs := [.tmp 4]) Try.func31 rfl rfl rfl rfl rfl ?_
  unfold frame_runner_pop at hr
  refine WE.seq ?_
  refine WE.region ?_
  refine WL.fin 1 (by kernel_rfl) (by kernel_rfl) ?_
  refine WE.seq ?_
  refine WE.region ?_
  refine WL.sg 4 (by kernel_rfl) ?_
  refine WL.does (by kernel_rfl) (by kernel_rfl) (Does.loadV H 0 rfl 2 (by kernel_rfl) (by kernel_rfl) ?_)
  refine WL.fin 4 (by kernel_rfl) (by kernel_rfl) ?_
  refine WE.seq ?_
  refine WE.region ?_
  refine WL.sg 4 (by kernel_rfl) ?_
  refine WL.does (by kernel_rfl) (by kernel_rfl) (Does.loadV H 0 rfl 2 (by kernel_rfl) (by kernel_rfl) ?_)
  obtain ⟨⟨g0_12, g1_12⟩, hr⟩ := grd_cases hr
  refine WL.sg 1 (by kernel_rfl) ?_
  refine WL.does (by kernel_rfl) (by kernel_rfl) (Does.tells (.cutR (a := a1) (c := c1) (xs := x0.Frame.Stack) (some (w64 ((x0.Frame.Stack.length : Int) - x1))) none 2 (w64 ((x0.Frame.Stack.length : Int) - x1)) (x0.Frame.Stack.length : Int) (by kernel_rfl) (by kernel_rfl) (by kernel_rfl) (by kernel_rfl) rfl rfl g0_12 g1_12 (Int.le_refl _) (H.rowLen 1 rfl).1) ?_)
  obtain ⟨y14, q14, hr⟩ := bind_cases hr
  obtain ⟨h13, le13, f13, H, bk13⟩ := (H.front 1 rfl).rowLend (Gh.refl _)
  refine WL.does (by kernel_rfl) (by kernel_rfl) (Does.call (c_slices_Clone_Value (lcut x0.Frame.Stack (w64 ((x0.Frame.Stack.length : Int) - x1)) (x0.Frame.Stack.length : Int)) (Sl.lcut f13 g0_12 g1_12 (Int.le_refl _)) H q14) (by kernel_rfl) ?_)
  rintro _ w ⟨h14, a15, c15, rfl, le14, H⟩
  obtain ⟨h13', le13', H⟩ := bk13 _ _ _ le14 H
  have H := H.rowFlat (h' := h13') 1 rfl (fun _ _ e => e)
  refine WL.fin 1 (by kernel_rfl) (by kernel_rfl) ?_
  refine WE.seq ?_
  refine WE.region ?_
  refine WL.sg 5 (by kernel_rfl) ?_
  refine WL.does (by kernel_rfl) (by kernel_rfl) (Does.loadV H 2 rfl 2 (by kernel_rfl) (by kernel_rfl) ?_)
  obtain ⟨⟨g1_17, g2_17⟩, hr⟩ := grd_cases hr
  refine WL.sg 1 (by kernel_rfl) ?_
  refine WL.does (by kernel_rfl) (by kernel_rfl) (Does.tells (.cutO H 0 rfl none (some (w64 ((x0.Frame.Stack.length : Int) - x1))) 2 (w64 ((x0.Frame.Stack.length : Int) - x1)) (by kernel_rfl) (by kernel_rfl) (by kernel_rfl) (by kernel_rfl) rfl rfl g1_17 g2_17 (Nat.le_refl _)) ?_)
  refine WL.sg 3 (by kernel_rfl) ?_
  refine WL.does (by kernel_rfl) (by kernel_rfl) (Does.storeE H 2 (cGrunner ({ x0 with Frame := { x0.Frame with Stack := (x0.Frame.Stack.take (w64 ((x0.Frame.Stack.length : Int) - x1)).toNat) } }) a1 c1 a2 c2 a3 c3 a4 c4 a5 c5) rfl (q := 2) (by kernel_rfl) (by kernel_rfl) (by kernel_rfl) fun w H => ?_)
  refine WL.fin 0 (by kernel_rfl) (by kernel_rfl) ?_
  refine WE.seq ?_
  refine WE.region ?_
  refine WL.fin 2 (by kernel_rfl) (by kernel_rfl) ?_
  have H := H.rowTake 0 rfl (w64 ((x0.Frame.Stack.length : Int) - x1)).toNat
  have H := H.rowUp 0 rfl le13'
  obtain rfl := Option.some.inj hr
  exact WE.ret ⟨[.slice a15 y14.length c15], ⟨⟨(by kernel_rfl), (by kernel_rfl)⟩, trivial⟩, ⟨h13', a15, c15, a1, c1, rfl, le13', (((((H.front 1 rfl).front 4 rfl).front 4 rfl).front 3 rfl).front 4 rfl)⟩⟩
def seed_may (x0 : Int) : Bool :=
  bnd (
      if decide (x0 ≥ 0) then
        decide (x0 ≤ 4294967295)
      else
        false) fun y1 =>
  y1
set_option maxRecDepth 100000 in
theorem c_seed_may {w0 w : World} {h : Gh} {L : List Ent} (x0 : Int) (H : St w0 h w L) {r : Bool} (hr : seed_may x0 = r) : Calls Try.prog 90 #[.int .i64 x0] w (fun e w' => ∃ v, e = .returned v ∧ v = .bool r ∧ St w0 h w' (L)) := by
  refine calls_of (args := [.int .i64 x0]) (n := 9) (rs := [.tmp 2]) Try.func90 rfl rfl rfl rfl rfl ?_
  unfold seed_may at hr
  refine WE.seq ?_
  refine WE.region ?_
  refine WL.fin 1 (by kernel_rfl) (by kernel_rfl) ?_
  refine WE.seq ?_
  refine WE.region ?_
  refine WL.sg 3 (by kernel_rfl) ?_
  obtain ⟨y1, hy1, hr⟩ := bnd_cases hr
  refine WL.join 3 (fun (_ : Unit) => [(8, .bool y1)]) (fun (_ : Unit) w => St w0 h w (L)) ?_ (fun hk_y1 => ?_)
  · rintro _ w H
    refine WL.fin 1 (by kernel_rfl) (by kernel_rfl) ?_
    obtain rfl := hr
    exact WE.ret ⟨[.bool y1], ⟨⟨(by kernel_rfl), (by kernel_rfl)⟩, trivial⟩, ⟨rfl, H⟩⟩
  rcases ite_cases hy1 with ⟨ty1, hy1⟩ | ⟨ty1, hy1⟩
  · refine WL.known 5 ty1 (by kernel_rfl) (by kernel_rfl) ?_
    refine WL.sg 3 (by kernel_rfl) ?_
    obtain rfl := hy1
    exact WL.live [8] (by kernel_rfl) (hk_y1 () _ H)
  · refine WL.known 5 ty1 (by kernel_rfl) (by kernel_rfl) ?_
    refine WL.sg 3 (by kernel_rfl) ?_
    obtain rfl := hy1
    exact WL.live [8] (by kernel_rfl) (hk_y1 () _ H)
def seed_Mix_l1 (K : Nat) : Nat → (Int × Int) → Option Int
  | 0, _ => none
  | k1 + 1, (y9, y10) =>
    if decide (y9 < 2) then
      seed_Mix_l1 K k1 (w64 (y9 + 1), IntKind.wrap .u32 ((ixor .u32 y10 (ishr .u32 y10 15)) * 2246822507))
    else
      some (w64 (ixor .u32 y10 (ishr .u32 y10 13)))
def seed_Mix (K : Nat) (x0 : Int) (x1 : Int) : Option Int :=
  bnd (seed_may x0) fun y1 =>
  bnd (
      if !y1 then
        true
      else
        bnd (seed_may x1) fun y12 =>
        !y12) fun y2 =>
  if y2 then
    some 0
  else
    seed_Mix_l1 K K (0, ixor .u32 (IntKind.wrap .u32 x0) (IntKind.wrap .u32 ((IntKind.wrap .u32 ((IntKind.wrap .u32 x1) + 1)) * 2654435761)))
set_option maxRecDepth 100000 in
theorem c_seed_Mix {w0 w : World} {h : Gh} {L : List Ent} (K : Nat) (x0 : Int) (x1 : Int) (H : St w0 h w L) {r : Int} (hr : seed_Mix K x0 x1 = some r) : Calls Try.prog 89 #[.int .i64 x0, .int .i64 x1] w (fun e w' => ∃ v, e = .returned v ∧ v = .int .i64 r ∧ St w0 h w' (L)) := by
  refine calls_of (args := [.int .i64 x0, .int .i64 x1]) (n := 34) (rs := [.tmp 4]) Try.func89 rfl rfl rfl rfl rfl ?_
  unfold seed_Mix at hr
  refine WE.seq ?_
  refine WE.region ?_
  refine WL.fin 1 (by kernel_rfl) (by kernel_rfl) ?_
  refine WE.seq ?_
  refine WE.seq ?_
  refine WE.region ?_
  obtain ⟨y1, q1, hr⟩ := bnd_cases hr
  refine WL.sg 1 (by kernel_rfl) ?_
  refine WL.does (by kernel_rfl) (by kernel_rfl) (Does.call (c_seed_may x0 H q1) (by kernel_rfl) ?_)
  rintro _ w ⟨rfl, H⟩
  refine WL.sg 2 (by kernel_rfl) ?_
  obtain ⟨y2, hy2, hr⟩ := bnd_cases hr
  refine WL.join 4 (fun (_ : Unit) => [(0, .int .i64 x0), (1, .int .i64 x1), (13, .bool y2)]) (fun (_ : Unit) w => St w0 h w (L)) ?_ (fun hk_y2 => ?_)
  · rintro _ w H
    refine WL.fin 0 (by kernel_rfl) (by kernel_rfl) ?_
    rcases ite_cases hr with ⟨t4, hr⟩ | ⟨t4, hr⟩
    · refine WE.yes (by kernel_rfl) (b := y2) (by kernel_rfl) t4 ?_
      refine WE.seq ?_
      refine WE.region ?_
      refine WL.fin 1 (by kernel_rfl) (by kernel_rfl) ?_
      obtain rfl := Option.some.inj hr
      exact WE.ret ⟨[.int .i64 0], ⟨⟨(by kernel_rfl), (by kernel_rfl)⟩, trivial⟩, ⟨rfl, H⟩⟩
    · refine WE.no (by kernel_rfl) (b := y2) (by kernel_rfl) t4 ?_
      refine WE.skip ?_
      refine WE.seq ?_
      refine WE.region ?_
      refine WL.fin 8 (by kernel_rfl) (by kernel_rfl) ?_
      refine WE.seq ?_
      refine WE.seq ?_
      refine WE.region ?_
      refine WL.fin 1 (by kernel_rfl) (by kernel_rfl) ?_
      refine WE.block ?_
      refine WE.loop (LP.live [5, 21] (by kernel_rfl) (LP.rec (seed_Mix_l1 K) (fun (⟨y9, y10⟩ : Int × Int) (_ : Unit) => [(5, .int .u32 y10), (21, .int .i64 y9)]) (fun (⟨y9, y10⟩ : Int × Int) (_ : Unit) => fun w => St w0 h w (L)) r (fun _ => rfl) ?_ K (0, ixor .u32 (IntKind.wrap .u32 x0) (IntKind.wrap .u32 ((IntKind.wrap .u32 ((IntKind.wrap .u32 x1) + 1)) * 2654435761))) () _ H hr))
      rintro k1 ih1 ⟨y9, y10⟩ _ w H hr
      simp only [seed_Mix_l1] at hr
      refine WE.seq ?_
      refine WE.region ?_
      refine WL.fin 1 (by kernel_rfl) (by kernel_rfl) ?_
      refine WE.seq ?_
      rcases ite_cases hr with ⟨t11, hr⟩ | ⟨t11, hr⟩
      · refine WE.yes (by kernel_rfl) (b := decide (y9 < 2)) (by kernel_rfl) t11 ?_
        refine WE.skip ?_
        refine WE.seq ?_
        refine WE.block ?_
        refine WE.region ?_
        refine WL.fin 6 (by kernel_rfl) (by kernel_rfl) ?_
        refine WE.region ?_
        refine WL.fin 2 (by kernel_rfl) (by kernel_rfl) ?_
        exact LP.live [5, 21] (by kernel_rfl) (ih1 (w64 (y9 + 1), IntKind.wrap .u32 ((ixor .u32 y10 (ishr .u32 y10 15)) * 2246822507)) () _ H hr)
      · refine WE.no (by kernel_rfl) (b := decide (y9 < 2)) (by kernel_rfl) t11 ?_
        refine WE.exit ?_
        refine WE.seq ?_
        refine WE.region ?_
        refine WL.fin 6 (by kernel_rfl) (by kernel_rfl) ?_
        obtain rfl := Option.some.inj hr
        exact WE.ret ⟨[.int .i64 (w64 (ixor .u32 y10 (ishr .u32 y10 13)))], ⟨⟨(by kernel_rfl), (by kernel_rfl)⟩, trivial⟩, ⟨rfl, H⟩⟩
  rcases ite_cases hy2 with ⟨ty2, hy2⟩ | ⟨ty2, hy2⟩
  · refine WL.known 9 ty2 (by kernel_rfl) (by kernel_rfl) ?_
    refine WL.sg 4 (by kernel_rfl) ?_
    obtain rfl := hy2
    exact WL.live [0, 1, 13] (by kernel_rfl) (hk_y2 () _ H)
  · refine WL.known 9 ty2 (by kernel_rfl) (by kernel_rfl) ?_
    obtain ⟨y12, q12, hy2⟩ := bnd_cases hy2
    refine WL.sg 1 (by kernel_rfl) ?_
    refine WL.does (by kernel_rfl) (by kernel_rfl) (Does.call (c_seed_may x1 H q12) (by kernel_rfl) ?_)
    rintro _ w ⟨rfl, H⟩
    refine WL.sg 2 (by kernel_rfl) ?_
    obtain rfl := hy2
    exact WL.live [0, 1, 13] (by kernel_rfl) (hk_y2 () _ H)
def seed_of (K : Nat) (x0 : Int) (x1 : Int) (x2 : Int) : Option (Int × Bool) :=
  (seed_Mix K x0 x1).bind fun y1 =>
  (seed_Mix K y1 x2).bind fun y2 =>
  bnd (seed_may x0) fun y3 =>
  bnd (
      if y3 then
        bnd (seed_may x2) fun y6 =>
        y6
      else
        false) fun y4 =>
  some (y2, y4)
set_option maxRecDepth 100000 in
theorem c_seed_of {w0 w : World} {h : Gh} {L : List Ent} (K : Nat) (x0 : Int) (x1 : Int) (x2 : Int) (H : St w0 h w L) {r : Int × Bool} (hr : seed_of K x0 x1 x2 = some r) : Calls Try.prog 79 #[.int .i64 x0, .int .i64 x1, .int .i64 x2] w (fun e w' => ∃ v, e = .returned v ∧ v = .tuple #[.int .i64 r.1, .bool r.2] ∧ St w0 h w' (L)) := by
  refine calls_of (args := [.int .i64 x0, .int .i64 x1, .int .i64 x2]) (n := 19) (rs := [.tmp 6, .tmp 7]) Try.func79 rfl rfl rfl rfl rfl ?_
  unfold seed_of at hr
  refine WE.seq ?_
  refine WE.region ?_
  refine WL.fin 2 (by kernel_rfl) (by kernel_rfl) ?_
  refine WE.seq ?_
  refine WE.region ?_
  obtain ⟨y1, q1, hr⟩ := bind_cases hr
  refine WL.sg 2 (by kernel_rfl) ?_
  refine WL.does (by kernel_rfl) (by kernel_rfl) (Does.call (c_seed_Mix K x0 x1 H q1) (by kernel_rfl) ?_)
  rintro _ w ⟨rfl, H⟩
  obtain ⟨y2, q2, hr⟩ := bind_cases hr
  refine WL.sg 1 (by kernel_rfl) ?_
  refine WL.does (by kernel_rfl) (by kernel_rfl) (Does.call (c_seed_Mix K y1 x2 H q2) (by kernel_rfl) ?_)
  rintro _ w ⟨rfl, H⟩
  obtain ⟨y3, q3, hr⟩ := bnd_cases hr
  refine WL.sg 1 (by kernel_rfl) ?_
  refine WL.does (by kernel_rfl) (by kernel_rfl) (Does.call (c_seed_may x0 H q3) (by kernel_rfl) ?_)
  rintro _ w ⟨rfl, H⟩
  refine WL.sg 1 (by kernel_rfl) ?_
  obtain ⟨y4, hy4, hr⟩ := bnd_cases hr
  refine WL.join 3 (fun (_ : Unit) => [(12, .int .i64 y2), (18, .bool y4)]) (fun (_ : Unit) w => St w0 h w (L)) ?_ (fun hk_y4 => ?_)
  · rintro _ w H
    refine WL.fin 2 (by kernel_rfl) (by kernel_rfl) ?_
    obtain rfl := Option.some.inj hr
    exact WE.ret ⟨[.int .i64 y2, .bool y4], ⟨⟨(by kernel_rfl), (by kernel_rfl)⟩, ⟨(by kernel_rfl), (by kernel_rfl)⟩, trivial⟩, ⟨rfl, H⟩⟩
  rcases ite_cases hy4 with ⟨ty4, hy4⟩ | ⟨ty4, hy4⟩
  · refine WL.known 15 ty4 (by kernel_rfl) (by kernel_rfl) ?_
    obtain ⟨y6, q6, hy4⟩ := bnd_cases hy4
    refine WL.sg 1 (by kernel_rfl) ?_
    refine WL.does (by kernel_rfl) (by kernel_rfl) (Does.call (c_seed_may x2 H q6) (by kernel_rfl) ?_)
    rintro _ w ⟨rfl, H⟩
    refine WL.sg 1 (by kernel_rfl) ?_
    obtain rfl := hy4
    exact WL.live [12, 18] (by kernel_rfl) (hk_y4 () _ H)
  · refine WL.known 15 ty4 (by kernel_rfl) (by kernel_rfl) ?_
    refine WL.sg 3 (by kernel_rfl) ?_
    obtain rfl := hy4
    exact WL.live [12, 18] (by kernel_rfl) (hk_y4 () _ H)
def seed_Child (K : Nat) (x0 : Int) (x1 : Int) : Option Int :=
  (seed_of K x0 1 x1).bind fun y1 =>
  if !y1.2 then
    some 0
  else
    some y1.1
set_option maxRecDepth 100000 in
theorem c_seed_Child {w0 w : World} {h : Gh} {L : List Ent} (K : Nat) (x0 : Int) (x1 : Int) (H : St w0 h w L) {r : Int} (hr : seed_Child K x0 x1 = some r) : Calls Try.prog 58 #[.int .i64 x0, .int .i64 x1] w (fun e w' => ∃ v, e = .returned v ∧ v = .int .i64 r ∧ St w0 h w' (L)) := by
  refine calls_of (args := [.int .i64 x0, .int .i64 x1]) (n := 16) (rs := [.tmp 4]) Try.func58 rfl rfl rfl rfl rfl ?_
  unfold seed_Child at hr
  refine WE.seq ?_
  refine WE.region ?_
  refine WL.fin 1 (by kernel_rfl) (by kernel_rfl) ?_
  refine WE.seq ?_
  refine WE.region ?_
  obtain ⟨y1, q1, hr⟩ := bind_cases hr
  refine WL.sg 2 (by kernel_rfl) ?_
  refine WL.does (by kernel_rfl) (by kernel_rfl) (Does.call (c_seed_of K x0 1 x1 H q1) (by kernel_rfl) ?_)
  rintro _ w ⟨rfl, H⟩
  refine WL.fin 5 (by kernel_rfl) (by kernel_rfl) ?_
  refine WE.seq ?_
  refine WE.seq ?_
  refine WE.region ?_
  refine WL.fin 2 (by kernel_rfl) (by kernel_rfl) ?_
  rcases ite_cases hr with ⟨t2, hr⟩ | ⟨t2, hr⟩
  · refine WE.yes (by kernel_rfl) (b := !y1.2) (by kernel_rfl) t2 ?_
    refine WE.seq ?_
    refine WE.region ?_
    refine WL.fin 1 (by kernel_rfl) (by kernel_rfl) ?_
    obtain rfl := Option.some.inj hr
    exact WE.ret ⟨[.int .i64 0], ⟨⟨(by kernel_rfl), (by kernel_rfl)⟩, trivial⟩, ⟨rfl, H⟩⟩
  · refine WE.no (by kernel_rfl) (b := !y1.2) (by kernel_rfl) t2 ?_
    refine WE.skip ?_
    refine WE.seq ?_
    refine WE.region ?_
    refine WL.fin 2 (by kernel_rfl) (by kernel_rfl) ?_
    obtain rfl := Option.some.inj hr
    exact WE.ret ⟨[.int .i64 y1.1], ⟨⟨(by kernel_rfl), (by kernel_rfl)⟩, trivial⟩, ⟨rfl, H⟩⟩
def frame_runner_spawn (K : Nat) (x0 : Grunner) : Option (Int × (List GValue) × (List GSlot) × Int × Int × Int × Int × Int × Int × Int × Int × Int × (List GValue)) :=
  if 0 ≤ x0.x.B ∧ x0.x.B < x0.Frame.Slots.length then
    if ((gd x0.Frame.Slots x0.x.B).State) != 0 then
      bnd (frame_runner_trap x0 2) fun y21 =>
      some (x0.Frame.Pc, x0.Frame.Stack, x0.Frame.Slots, x0.Frame.Spawned, y21.1, y21.2.1, y21.2.2.1, y21.2.2.2.1, y21.2.2.2.2.1, y21.2.2.2.2.2.1, y21.2.2.2.2.2.2.1, y21.2.2.2.2.2.2.2.1, y21.2.2.2.2.2.2.2.2)
    else
      bnd frame_noRef fun y23 =>
      (seed_Child K x0.Frame.Seed x0.Frame.Spawned).bind fun y25 =>
      (frame_runner_off ({ x0 with Frame := { x0.Frame with Slots := (x0.Frame.Slots.set x0.x.B.toNat (⟨1, y23, (⟨0, (⟨0, 0⟩ : GValue)⟩ : GOut)⟩ : GSlot)) } })).bind fun y26 =>
      (frame_runner_pop ({ x0 with Frame := { x0.Frame with Slots := (x0.Frame.Slots.set x0.x.B.toNat (⟨1, y23, (⟨0, (⟨0, 0⟩ : GValue)⟩ : GOut)⟩ : GSlot)) } }) y26).bind fun y27 =>
      some (w64 (x0.Frame.Pc + 1), y27.2, (x0.Frame.Slots.set x0.x.B.toNat (⟨1, y23, (⟨0, (⟨0, 0⟩ : GValue)⟩ : GOut)⟩ : GSlot)), w64 (x0.Frame.Spawned + 1), x0.Frame.State, x0.Frame.Out.Trap, x0.Frame.Out.V.Re, x0.Frame.Out.V.Im, 2, x0.x.A, x0.x.B, y25, y27.1)
  else none
set_option maxRecDepth 100000 in
theorem c_frame_runner_spawn {w0 w : World} {h : Gh} {L : List Ent} (K : Nat) (x0 : Grunner) {a1 : Option Addr} {c1 : Nat} {a2 : Option Addr} {c2 : Nat} {a3 : Option Addr} {c3 : Nat} {a4 : Option Addr} {c4 : Nat} {a5 : Option Addr} {c5 : Nat} (f4 : Sl rGFunc 48 h a4 c4 x0.p) (f5 : Sl rGValue 16 h a5 c5 x0.act.Args) {b_0 : Nat} (H : St w0 h w (var b_0 (cGrunner x0 a1 c1 a2 c2 a3 c3 a4 c4 a5 c5) 73 :: row rGValue 16 h a1 c1 x0.Frame.Stack :: row rGValue 16 h a2 c2 x0.Frame.Locals :: row rGSlot 48 h a3 c3 x0.Frame.Slots :: L)) {r : Int × (List GValue) × (List GSlot) × Int × Int × Int × Int × Int × Int × Int × Int × Int × (List GValue)} (hr : frame_runner_spawn K x0 = some r) : Calls Try.prog 32 #[.pointer (some ⟨b_0, 0, none⟩)] w (fun e w' => ∃ v, e = .returned v ∧ ∃ (h' : Gh) (a901 : Option Addr) (c901 : Nat) (a903 : Option Addr) (c903 : Nat) (a905 : Option Addr) (c905 : Nat), v = .tuple #[] ∧ h.le h' ∧ Sl rGValue 16 h' a905 c905 r.2.2.2.2.2.2.2.2.2.2.2.2 ∧ St w0 h' w' (var b_0 (cGrunner ({ x0 with Frame := { x0.Frame with Pc := r.1, Stack := r.2.1, Slots := r.2.2.1, Spawned := r.2.2.2.1, State := r.2.2.2.2.1, Out := (⟨r.2.2.2.2.2.1, (⟨r.2.2.2.2.2.2.1, r.2.2.2.2.2.2.2.1⟩ : GValue)⟩ : GOut) }, act := (⟨r.2.2.2.2.2.2.2.2.1, r.2.2.2.2.2.2.2.2.2.1, r.2.2.2.2.2.2.2.2.2.2.1, r.2.2.2.2.2.2.2.2.2.2.2.1, r.2.2.2.2.2.2.2.2.2.2.2.2⟩ : GAct) }) a901 c901 a2 c2 a903 c903 a4 c4 a905 c905) 73 :: row rGValue 16 h' a901 c901 r.2.1 :: row rGValue 16 h a2 c2 x0.Frame.Locals :: row rGSlot 48 h' a903 c903 r.2.2.1 :: L)) := by
  refine calls_of (args := [.pointer (some ⟨b_0, 0, none⟩)]) (n := 72) (rs := []) Try.func32 rfl rfl rfl rfl rfl ?_
  unfold frame_runner_spawn at hr
  refine WE.seq ?_
  refine WE.draws mo [0] (ρ' := [(0, .pointer (some ⟨b_0, 0, none⟩))]) (by kernel_rfl) fun w e1 e2 e3 e4 => ?_
  have H := H.same e1 e2 e3 e4
  clear e1 e2 e3 e4
  refine WD.know [0] (by kernel_rfl) ?_
  refine WD.know [1] (by kernel_rfl) ?_
  refine WD.know [2] (by kernel_rfl) ?_
  refine WD.know [3] (by kernel_rfl) ?_
  refine WD.told 4 7 (.slice a3 x0.Frame.Slots.length c3) (by kernel_rfl) (by kernel_rfl) ?_
  refine WD.know [5] (by kernel_rfl) ?_
  refine WD.know [6] (by kernel_rfl) ?_
  refine WD.know [7] (by kernel_rfl) ?_
  refine WD.know [8] (by kernel_rfl) ?_
  refine WD.told 9 12 (.int .i64 x0.x.B) (by kernel_rfl) (by kernel_rfl) ?_
  obtain ⟨⟨g0_19, g1_19⟩, hr⟩ := grd_cases hr
  obtain ⟨b19, p19, rfl⟩ := H.rowSome 3 rfl g0_19 g1_19
  refine WD.told 10 13 (.pointer (some ⟨b19, p19 + x0.x.B.toNat * 6, none⟩)) (by kernel_rfl) (by kernel_rfl) ?_
  refine WD.does 11 (by kernel_rfl) rfl (Floats.of [8, 7, 6, 5, 3, 2, 1, 0] [10, 9, 4] (by kernel_rfl) (Floats.pure _ (by kernel_rfl) (by kernel_rfl)) (.cons (.tells rfl (by kernel_rfl) (by kernel_rfl) (.idx b19 (p19) x0.Frame.Slots.length c3 x0.x.B 6 (by kernel_rfl) (by kernel_rfl) g0_19 g1_19 (by kernel_rfl))) (.cons (.tells rfl (by kernel_rfl) rfl (.loadV H 0 rfl 19 (by kernel_rfl) (by kernel_rfl))) (.cons (.tells rfl (by kernel_rfl) rfl (.loadV H 0 rfl 4 (by kernel_rfl) (by kernel_rfl))) .nil)))) (by kernel_rfl) (by kernel_rfl) (Does.reck (by kernel_rfl) ?_)
  refine WD.fin (by kernel_rfl) (Floats.of [] [] (by kernel_rfl) .nil .nil) (by kernel_rfl) (by kernel_rfl) ?_
  refine WE.seq ?_
  refine WE.seq ?_
  refine WE.region ?_
  refine WL.sg 3 (by kernel_rfl) ?_
  refine WL.does (by kernel_rfl) (by kernel_rfl) (Does.tells (.loadRow (v := .int .i64 ((gd x0.Frame.Slots x0.x.B).State)) H 3 rfl g0_19 g1_19 0 6 rfl (fun _ e => by rcases e with rfl; kernel_rfl) (by kernel_rfl)) ?_)
  refine WL.fin 1 (by kernel_rfl) (by kernel_rfl) ?_
  rcases ite_cases hr with ⟨t20, hr⟩ | ⟨t20, hr⟩
  · refine WE.yes (by kernel_rfl) (b := ((gd x0.Frame.Slots x0.x.B).State) != 0) (by kernel_rfl) t20 ?_
    refine WE.seq ?_
    refine WE.region ?_
    obtain ⟨y21, q21, hr⟩ := bnd_cases hr
    refine WL.sg 1 (by kernel_rfl) ?_
    refine WL.does (by kernel_rfl) (by kernel_rfl) (Does.call (c_frame_runner_trap x0 f4 f5 2 H q21) (by kernel_rfl) ?_)
    rintro _ w ⟨h21, a22, c22, rfl, le21, f22, H⟩
    refine WL.fin 0 (by kernel_rfl) (by kernel_rfl) ?_
    have H := H.rowUp 1 rfl le21
    have H := H.rowUp 3 rfl le21
    obtain rfl := Option.some.inj hr
    exact WE.ret ⟨[], trivial, ⟨h21, a1, c1, (some ⟨b19, p19, none⟩), c3, a22, c22, rfl, le21, f22, H⟩⟩
  · refine WE.no (by kernel_rfl) (b := ((gd x0.Frame.Slots x0.x.B).State) != 0) (by kernel_rfl) t20 ?_
    refine WE.skip ?_
    refine WE.seq ?_
    refine WE.region ?_
    obtain ⟨y23, q23, hr⟩ := bnd_cases hr
    refine WL.sg 1 (by kernel_rfl) ?_
    refine WL.does (by kernel_rfl) (by kernel_rfl) (Does.call (c_frame_noRef H q23) (by kernel_rfl) ?_)
    rintro _ w ⟨rfl, H⟩
    refine WL.sg 2 (by kernel_rfl) ?_
    obtain ⟨C24, e24, _, hb24, hc24, rfl⟩ := H.rowAt2 3 rfl g0_19 g1_19
    refine WL.does (by kernel_rfl) (by kernel_rfl) (Does.storeRow H 3 rfl (Gh.refl _) (j := x0.x.B.toNat) (by have h0 := g0_19; have h1 := g1_19; omega) hb24 hc24 0 (by kernel_rfl) (by kernel_rfl) (y' := (⟨1, y23, (⟨0, (⟨0, 0⟩ : GValue)⟩ : GOut)⟩ : GSlot)) (by show _ = _; kernel_rfl) fun w H => ?_)
    have H := H.recell 0 (cGrunner ({ x0 with Frame := { x0.Frame with Slots := (x0.Frame.Slots.set x0.x.B.toNat (⟨1, y23, (⟨0, (⟨0, 0⟩ : GValue)⟩ : GOut)⟩ : GSlot)) } }) a1 c1 a2 c2 (some ⟨b19, p19, none⟩) c3 a4 c4 a5 c5) rfl (by simp only [cGrunner, List.length_set, List.length_take, copied_len])
    refine WL.fin 0 (by kernel_rfl) (by kernel_rfl) ?_
    refine WE.seq ?_
    refine WE.draws mo [0] (ρ' := [(0, .pointer (some ⟨b_0, 0, none⟩))]) (by kernel_rfl) fun w e1 e2 e3 e4 => ?_
    have H := H.same e1 e2 e3 e4
    clear e1 e2 e3 e4
    refine WD.know [0] (by kernel_rfl) ?_
    refine WD.know [1] (by kernel_rfl) ?_
    refine WD.know [2] (by kernel_rfl) ?_
    refine WD.know [3] (by kernel_rfl) ?_
    refine WD.know [4] (by kernel_rfl) ?_
    refine WD.told 5 30 (.int .i64 x0.x.A) (by kernel_rfl) (by kernel_rfl) ?_
    refine WD.know [6] (by kernel_rfl) ?_
    refine WD.know [7] (by kernel_rfl) ?_
    refine WD.know [8] (by kernel_rfl) ?_
    refine WD.know [9] (by kernel_rfl) ?_
    refine WD.told 10 35 (.int .i64 x0.x.B) (by kernel_rfl) (by kernel_rfl) ?_
    refine WD.know [11] (by kernel_rfl) ?_
    refine WD.know [12] (by kernel_rfl) ?_
    refine WD.know [13] (by kernel_rfl) ?_
    refine WD.know [14] (by kernel_rfl) ?_
    refine WD.told 15 40 (.int .i64 x0.Frame.Seed) (by kernel_rfl) (by kernel_rfl) ?_
    refine WD.know [16] (by kernel_rfl) ?_
    refine WD.know [17] (by kernel_rfl) ?_
    refine WD.know [18] (by kernel_rfl) ?_
    refine WD.know [19] (by kernel_rfl) ?_
    refine WD.told 20 45 (.int .i64 x0.Frame.Spawned) (by kernel_rfl) (by kernel_rfl) ?_
    refine WD.know [22] (by kernel_rfl) ?_
    refine WD.know [23] (by kernel_rfl) ?_
    obtain ⟨y25, q25, hr⟩ := bind_cases hr
    refine WD.does 21 (by kernel_rfl) rfl (Floats.of [23, 22, 19, 18, 17, 16, 14, 13, 12, 11, 9, 8, 7, 6, 4, 3, 2, 1, 0] [20, 15, 10, 5] (by kernel_rfl) (Floats.pure _ (by kernel_rfl) (by kernel_rfl)) (.cons (.tells rfl (by kernel_rfl) rfl (.loadV H 0 rfl 6 (by kernel_rfl) (by kernel_rfl))) (.cons (.tells rfl (by kernel_rfl) rfl (.loadV H 0 rfl 5 (by kernel_rfl) (by kernel_rfl))) (.cons (.tells rfl (by kernel_rfl) rfl (.loadV H 0 rfl 19 (by kernel_rfl) (by kernel_rfl))) (.cons (.tells rfl (by kernel_rfl) rfl (.loadV H 0 rfl 18 (by kernel_rfl) (by kernel_rfl))) .nil))))) (by kernel_rfl) (by kernel_rfl) (Does.call (c_seed_Child K x0.Frame.Seed x0.Frame.Spawned H q25) (by kernel_rfl) ?_)
    rintro _ w ⟨rfl, H⟩
    obtain ⟨y26, q26, hr⟩ := bind_cases hr
    refine WD.does 24 (by kernel_rfl) rfl (Floats.of [23, 22, 19, 18, 17, 16, 14, 13, 12, 11, 9, 8, 7, 6, 4, 3, 2, 1, 0] [10, 5] (by kernel_rfl) (Floats.pure _ (by kernel_rfl) (by kernel_rfl)) (.cons (.tells rfl (by kernel_rfl) rfl (.loadV H 0 rfl 19 (by kernel_rfl) (by kernel_rfl))) (.cons (.tells rfl (by kernel_rfl) rfl (.loadV H 0 rfl 18 (by kernel_rfl) (by kernel_rfl))) .nil))) (by kernel_rfl) (by kernel_rfl) (Does.call (c_frame_runner_off ({ x0 with Frame := { x0.Frame with Slots := (x0.Frame.Slots.set x0.x.B.toNat (⟨1, y23, (⟨0, (⟨0, 0⟩ : GValue)⟩ : GOut)⟩ : GSlot)) } }) f4 f5 H q26) (by kernel_rfl) ?_)
    rintro _ w ⟨rfl, H⟩
    obtain ⟨y27, q27, hr⟩ := bind_cases hr
    refine WD.does 25 (by kernel_rfl) rfl (Floats.of [22, 19, 18, 17, 16, 14, 13, 12, 11, 9, 8, 7, 6, 4, 3, 2, 1, 0] [10, 5] (by kernel_rfl) (Floats.pure _ (by kernel_rfl) (by kernel_rfl)) (.cons (.tells rfl (by kernel_rfl) rfl (.loadV H 0 rfl 19 (by kernel_rfl) (by kernel_rfl))) (.cons (.tells rfl (by kernel_rfl) rfl (.loadV H 0 rfl 18 (by kernel_rfl) (by kernel_rfl))) .nil))) (by kernel_rfl) (by kernel_rfl) (Does.call (c_frame_runner_pop ({ x0 with Frame := { x0.Frame with Slots := (x0.Frame.Slots.set x0.x.B.toNat (⟨1, y23, (⟨0, (⟨0, 0⟩ : GValue)⟩ : GOut)⟩ : GSlot)) } }) f4 f5 y26 H q27) (by kernel_rfl) ?_)
    rintro _ w ⟨h27, a28, c28, a30, c30, rfl, le27, H⟩
    refine WD.know [26] (by kernel_rfl) ?_
    refine WD.know [27] (by kernel_rfl) ?_
    refine WD.know [28] (by kernel_rfl) ?_
    refine WD.does 29 (by kernel_rfl) rfl (Floats.of [28, 27, 26, 19, 18, 17, 16, 14, 13, 12, 11, 9, 8, 7, 6, 4, 3, 2, 1, 0] [10, 5] (by kernel_rfl) (Floats.pure _ (by kernel_rfl) (by kernel_rfl)) (.cons (.tells rfl (by kernel_rfl) rfl (.loadV H 0 rfl 19 (by kernel_rfl) (by kernel_rfl))) (.cons (.tells rfl (by kernel_rfl) rfl (.loadV H 0 rfl 18 (by kernel_rfl) (by kernel_rfl))) .nil))) (by kernel_rfl) (by kernel_rfl) (Does.storeE H 0 (cGrunner ({ x0 with Frame := { x0.Frame with Stack := y27.2, Slots := (x0.Frame.Slots.set x0.x.B.toNat (⟨1, y23, (⟨0, (⟨0, 0⟩ : GValue)⟩ : GOut)⟩ : GSlot)) }, act := (⟨2, x0.x.A, x0.x.B, y25, y27.1⟩ : GAct) }) a30 c30 a2 c2 (some ⟨b19, p19, none⟩) c3 a4 c4 a28 c28) rfl (q := 20) (by kernel_rfl) (by kernel_rfl) (by kernel_rfl) fun w H => ?_)
    refine WD.fin (by kernel_rfl) (Floats.of [27] [] (by kernel_rfl) (Floats.pure _ (by kernel_rfl) (by kernel_rfl)) .nil) (by kernel_rfl) (by kernel_rfl) ?_
    refine WE.seq ?_
    refine WE.region ?_
    refine WL.sg 4 (by kernel_rfl) ?_
    refine WL.does (by kernel_rfl) (by kernel_rfl) (Does.loadV H 0 rfl 6 (by kernel_rfl) (by kernel_rfl) ?_)
    refine WL.sg 4 (by kernel_rfl) ?_
    refine WL.does (by kernel_rfl) (by kernel_rfl) (Does.storeE H 0 (cGrunner ({ x0 with Frame := { x0.Frame with Stack := y27.2, Slots := (x0.Frame.Slots.set x0.x.B.toNat (⟨1, y23, (⟨0, (⟨0, 0⟩ : GValue)⟩ : GOut)⟩ : GSlot)), Spawned := w64 (x0.Frame.Spawned + 1) }, act := (⟨2, x0.x.A, x0.x.B, y25, y27.1⟩ : GAct) }) a30 c30 a2 c2 (some ⟨b19, p19, none⟩) c3 a4 c4 a28 c28) rfl (q := 6) (by kernel_rfl) (by kernel_rfl) (by kernel_rfl) fun w H => ?_)
    refine WL.fin 0 (by kernel_rfl) (by kernel_rfl) ?_
    refine WE.region ?_
    refine WL.sg 4 (by kernel_rfl) ?_
    refine WL.does (by kernel_rfl) (by kernel_rfl) (Does.loadV H 0 rfl 1 (by kernel_rfl) (by kernel_rfl) ?_)
    refine WL.sg 4 (by kernel_rfl) ?_
    refine WL.does (by kernel_rfl) (by kernel_rfl) (Does.storeE H 0 (cGrunner ({ x0 with Frame := { x0.Frame with Pc := w64 (x0.Frame.Pc + 1), Stack := y27.2, Slots := (x0.Frame.Slots.set x0.x.B.toNat (⟨1, y23, (⟨0, (⟨0, 0⟩ : GValue)⟩ : GOut)⟩ : GSlot)), Spawned := w64 (x0.Frame.Spawned + 1) }, act := (⟨2, x0.x.A, x0.x.B, y25, y27.1⟩ : GAct) }) a30 c30 a2 c2 (some ⟨b19, p19, none⟩) c3 a4 c4 a28 c28) rfl (q := 1) (by kernel_rfl) (by kernel_rfl) (by kernel_rfl) fun w H => ?_)
    refine WL.fin 0 (by kernel_rfl) (by kernel_rfl) ?_
    obtain ⟨h32, le32, f32, H⟩ := (H.front 4 rfl).rowFreeze (Gh.refl _)
    have H := H.rowUp 1 rfl le32
    have H := H.rowUp 3 rfl (le27.trans le32)
    obtain rfl := Option.some.inj hr
    exact ⟨[], trivial, ⟨h32, a30, c30, (some ⟨b19, p19, none⟩), c3, a28, c28, rfl, (le27.trans le32), f32, H⟩⟩
def frame_runner_push (x0 : Grunner) (x1 : List GValue) : Option (List GValue) :=
  if (x0.Frame.Stack.length + x1.length) * 16 ≤ LIM then
    some (x0.Frame.Stack ++ x1)
  else none
set_option maxRecDepth 100000 in
theorem c_frame_runner_push {w0 w : World} {h : Gh} {L : List Ent} (x0 : Grunner) {a1 : Option Addr} {c1 : Nat} {a2 : Option Addr} {c2 : Nat} {a3 : Option Addr} {c3 : Nat} {a4 : Option Addr} {c4 : Nat} {a5 : Option Addr} {c5 : Nat} (f4 : Sl rGFunc 48 h a4 c4 x0.p) (f5 : Sl rGValue 16 h a5 c5 x0.act.Args) {b_0 : Nat} (x1 : List GValue) {a6 : Option Addr} {c6 : Nat} (f6 : Sl rGValue 16 h a6 c6 x1) (H : St w0 h w (var b_0 (cGrunner x0 a1 c1 a2 c2 a3 c3 a4 c4 a5 c5) 73 :: row rGValue 16 h a1 c1 x0.Frame.Stack :: row rGValue 16 h a2 c2 x0.Frame.Locals :: row rGSlot 48 h a3 c3 x0.Frame.Slots :: L)) {r : (List GValue)} (hr : frame_runner_push x0 x1 = some r) : Calls Try.prog 59 #[.pointer (some ⟨b_0, 0, none⟩), .slice a6 x1.length c6] w (fun e w' => ∃ v, e = .returned v ∧ ∃ (h' : Gh) (a901 : Option Addr) (c901 : Nat), v = .tuple #[] ∧ h.le h' ∧ St w0 h' w' (var b_0 (cGrunner ({ x0 with Frame := { x0.Frame with Stack := r } }) a901 c901 a2 c2 a3 c3 a4 c4 a5 c5) 73 :: row rGValue 16 h' a901 c901 r :: row rGValue 16 h a2 c2 x0.Frame.Locals :: row rGSlot 48 h a3 c3 x0.Frame.Slots :: L)) := by
  refine calls_of (args := [.pointer (some ⟨b_0, 0, none⟩), .slice a6 x1.length c6]) (n := 15) (rs := []) Try.func59 rfl rfl rfl rfl rfl ?_
  unfold frame_runner_push at hr
  refine WE.region ?_
  refine WL.sg 5 (by kernel_rfl) ?_
  refine WL.does (by kernel_rfl) (by kernel_rfl) (Does.loadV H 0 rfl 2 (by kernel_rfl) (by kernel_rfl) ?_)
  obtain ⟨g8, hr⟩ := grd_cases hr
  refine WL.sg 1 (by kernel_rfl) ?_
  refine WL.does (by kernel_rfl) (by kernel_rfl) (Does.append (t := 28) (xt := 28) (ty := 28) (e := 33) (e2 := 33) (z := .agg #[.int .i64 0, .int .i64 0]) H 1 rfl (Gh.refl _) (ys := x1) (c2 := c6) (f6.src H) g8 (by kernel_rfl) (by kernel_rfl) (by kernel_rfl) (by kernel_rfl) fun a8 c8 w H => ?_)
  refine WL.sg 3 (by kernel_rfl) ?_
  refine WL.does (by kernel_rfl) (by kernel_rfl) (Does.storeE H 0 (cGrunner ({ x0 with Frame := { x0.Frame with Stack := (x0.Frame.Stack ++ x1) } }) a8 c8 a2 c2 a3 c3 a4 c4 a5 c5) rfl (q := 2) (by kernel_rfl) (by kernel_rfl) (by kernel_rfl) fun w H => ?_)
  refine WL.fin 0 (by kernel_rfl) (by kernel_rfl) ?_
  obtain rfl := Option.some.inj hr
  exact ⟨[], trivial, ⟨h, a8, c8, rfl, (Gh.refl _), H⟩⟩
def frame_runner_join (x0 : Grunner) : Option (Int × (List GValue) × (List GValue) × (List GSlot) × Int × Int × Int × Int × Int × Int × Int × Int × Int × (List GValue)) :=
  if 0 ≤ x0.x.A ∧ x0.x.A < x0.Frame.Slots.length then
    if ((gd x0.Frame.Slots x0.x.A).State) == 1 then
      some (x0.Frame.Pc, x0.Frame.Stack, x0.Frame.Locals, x0.Frame.Slots, 1, x0.x.A, x0.Frame.Out.Trap, x0.Frame.Out.V.Re, x0.Frame.Out.V.Im, 3, 0, 0, 0, [])
    else
      if ((gd x0.Frame.Slots x0.x.A).State) == 2 then
        if 0 ≤ x0.x.A ∧ x0.x.A < x0.Frame.Slots.length then
          if ((gd x0.Frame.Slots x0.x.A).Out.Trap) != 0 then
            bnd (frame_runner_trap ({ x0 with Frame := { x0.Frame with Slots := (x0.Frame.Slots.set x0.x.A.toNat (⟨0, (⟨0, 0⟩ : GRef), (⟨0, (⟨0, 0⟩ : GValue)⟩ : GOut)⟩ : GSlot)) } }) ((gd x0.Frame.Slots x0.x.A).Out.Trap)) fun y29 =>
            some (x0.Frame.Pc, x0.Frame.Stack, x0.Frame.Locals, (x0.Frame.Slots.set x0.x.A.toNat (⟨0, (⟨0, 0⟩ : GRef), (⟨0, (⟨0, 0⟩ : GValue)⟩ : GOut)⟩ : GSlot)), y29.1, x0.Frame.Wait, y29.2.1, y29.2.2.1, y29.2.2.2.1, y29.2.2.2.2.1, y29.2.2.2.2.2.1, y29.2.2.2.2.2.2.1, y29.2.2.2.2.2.2.2.1, y29.2.2.2.2.2.2.2.2)
          else
            (frame_runner_push ({ x0 with Frame := { x0.Frame with Slots := (x0.Frame.Slots.set x0.x.A.toNat (⟨0, (⟨0, 0⟩ : GRef), (⟨0, (⟨0, 0⟩ : GValue)⟩ : GOut)⟩ : GSlot)) } }) [(⟨(gd x0.Frame.Slots x0.x.A).Out.V.Re, (gd x0.Frame.Slots x0.x.A).Out.V.Im⟩ : GValue)]).bind fun y33 =>
            some (w64 (x0.Frame.Pc + 1), y33, x0.Frame.Locals, (x0.Frame.Slots.set x0.x.A.toNat (⟨0, (⟨0, 0⟩ : GRef), (⟨0, (⟨0, 0⟩ : GValue)⟩ : GOut)⟩ : GSlot)), x0.Frame.State, x0.Frame.Wait, x0.Frame.Out.Trap, x0.Frame.Out.V.Re, x0.Frame.Out.V.Im, x0.act.Kind, x0.act.Fn, x0.act.Slot, x0.act.Seed, x0.act.Args)
        else none
      else
        bnd (frame_runner_trap x0 2) fun y36 =>
        some (x0.Frame.Pc, x0.Frame.Stack, x0.Frame.Locals, x0.Frame.Slots, y36.1, x0.Frame.Wait, y36.2.1, y36.2.2.1, y36.2.2.2.1, y36.2.2.2.2.1, y36.2.2.2.2.2.1, y36.2.2.2.2.2.2.1, y36.2.2.2.2.2.2.2.1, y36.2.2.2.2.2.2.2.2)
  else none
set_option maxRecDepth 100000 in
theorem c_frame_runner_join {w0 w : World} {h : Gh} {L : List Ent} (x0 : Grunner) {a1 : Option Addr} {c1 : Nat} {a2 : Option Addr} {c2 : Nat} {a3 : Option Addr} {c3 : Nat} {a4 : Option Addr} {c4 : Nat} {a5 : Option Addr} {c5 : Nat} (f4 : Sl rGFunc 48 h a4 c4 x0.p) (f5 : Sl rGValue 16 h a5 c5 x0.act.Args) {b_0 : Nat} (H : St w0 h w (var b_0 (cGrunner x0 a1 c1 a2 c2 a3 c3 a4 c4 a5 c5) 73 :: row rGValue 16 h a1 c1 x0.Frame.Stack :: row rGValue 16 h a2 c2 x0.Frame.Locals :: row rGSlot 48 h a3 c3 x0.Frame.Slots :: L)) {r : Int × (List GValue) × (List GValue) × (List GSlot) × Int × Int × Int × Int × Int × Int × Int × Int × Int × (List GValue)} (hr : frame_runner_join x0 = some r) : Calls Try.prog 33 #[.pointer (some ⟨b_0, 0, none⟩)] w (fun e w' => ∃ v, e = .returned v ∧ ∃ (h' : Gh) (a901 : Option Addr) (c901 : Nat) (a903 : Option Addr) (c903 : Nat) (a905 : Option Addr) (c905 : Nat) (a907 : Option Addr) (c907 : Nat), v = .tuple #[] ∧ h.le h' ∧ Sl rGValue 16 h' a907 c907 r.2.2.2.2.2.2.2.2.2.2.2.2.2 ∧ St w0 h' w' (var b_0 (cGrunner ({ x0 with Frame := (⟨x0.Frame.Fn, r.1, r.2.1, r.2.2.1, r.2.2.2.1, x0.Frame.Seed, x0.Frame.Spawned, x0.Frame.Draws, r.2.2.2.2.1, r.2.2.2.2.2.1, (⟨r.2.2.2.2.2.2.1, (⟨r.2.2.2.2.2.2.2.1, r.2.2.2.2.2.2.2.2.1⟩ : GValue)⟩ : GOut), x0.Frame.Up, x0.Frame.UpSlot⟩ : GFrame), act := (⟨r.2.2.2.2.2.2.2.2.2.1, r.2.2.2.2.2.2.2.2.2.2.1, r.2.2.2.2.2.2.2.2.2.2.2.1, r.2.2.2.2.2.2.2.2.2.2.2.2.1, r.2.2.2.2.2.2.2.2.2.2.2.2.2⟩ : GAct) }) a901 c901 a903 c903 a905 c905 a4 c4 a907 c907) 73 :: row rGValue 16 h' a901 c901 r.2.1 :: row rGValue 16 h' a903 c903 r.2.2.1 :: row rGSlot 48 h' a905 c905 r.2.2.2.1 :: L)) := by
  refine calls_of (args := [.pointer (some ⟨b_0, 0, none⟩)]) (n := 76) (rs := []) Try.func33 rfl rfl rfl rfl rfl ?_
  unfold frame_runner_join at hr
  refine WE.seq ?_
  refine WE.draws mo [0] (ρ' := [(0, .pointer (some ⟨b_0, 0, none⟩))]) (by kernel_rfl) fun w e1 e2 e3 e4 => ?_
  have H := H.same e1 e2 e3 e4
  clear e1 e2 e3 e4
  refine WD.know [0] (by kernel_rfl) ?_
  refine WD.know [1] (by kernel_rfl) ?_
  refine WD.know [2] (by kernel_rfl) ?_
  refine WD.know [3] (by kernel_rfl) ?_
  refine WD.told 4 7 (.slice a3 x0.Frame.Slots.length c3) (by kernel_rfl) (by kernel_rfl) ?_
  refine WD.know [5] (by kernel_rfl) ?_
  refine WD.know [6] (by kernel_rfl) ?_
  refine WD.know [7] (by kernel_rfl) ?_
  refine WD.know [8] (by kernel_rfl) ?_
  refine WD.told 9 12 (.int .i64 x0.x.A) (by kernel_rfl) (by kernel_rfl) ?_
  obtain ⟨⟨g0_22, g1_22⟩, hr⟩ := grd_cases hr
  obtain ⟨b22, p22, rfl⟩ := H.rowSome 3 rfl g0_22 g1_22
  refine WD.told 10 13 (.pointer (some ⟨b22, p22 + x0.x.A.toNat * 6, none⟩)) (by kernel_rfl) (by kernel_rfl) ?_
  refine WD.told 11 14 (.agg (cGSlot (⟨(gd x0.Frame.Slots x0.x.A).State, (⟨(gd x0.Frame.Slots x0.x.A).Kid.At, (gd x0.Frame.Slots x0.x.A).Kid.Gen⟩ : GRef), (⟨(gd x0.Frame.Slots x0.x.A).Out.Trap, (⟨(gd x0.Frame.Slots x0.x.A).Out.V.Re, (gd x0.Frame.Slots x0.x.A).Out.V.Im⟩ : GValue)⟩ : GOut)⟩ : GSlot)).toArray) (by kernel_rfl) (by kernel_rfl) ?_
  refine WD.does 12 (by kernel_rfl) rfl (Floats.of [8, 7, 6, 5, 3, 2, 1, 0] [11, 10, 9, 4] (by kernel_rfl) (Floats.pure _ (by kernel_rfl) (by kernel_rfl)) (.cons (.tells rfl (by kernel_rfl) (by kernel_rfl) (.loadRow (v := .agg (cGSlot (⟨(gd x0.Frame.Slots x0.x.A).State, (⟨(gd x0.Frame.Slots x0.x.A).Kid.At, (gd x0.Frame.Slots x0.x.A).Kid.Gen⟩ : GRef), (⟨(gd x0.Frame.Slots x0.x.A).Out.Trap, (⟨(gd x0.Frame.Slots x0.x.A).Out.V.Re, (gd x0.Frame.Slots x0.x.A).Out.V.Im⟩ : GValue)⟩ : GOut)⟩ : GSlot)).toArray) H 3 rfl g0_22 g1_22 0 6 rfl (fun _ e => by rcases e with rfl; kernel_rfl) (by kernel_rfl))) (.cons (.tells rfl (by kernel_rfl) (by kernel_rfl) (.idx b22 (p22) x0.Frame.Slots.length c3 x0.x.A 6 (by kernel_rfl) (by kernel_rfl) g0_22 g1_22 (by kernel_rfl))) (.cons (.tells rfl (by kernel_rfl) rfl (.loadV H 0 rfl 18 (by kernel_rfl) (by kernel_rfl))) (.cons (.tells rfl (by kernel_rfl) rfl (.loadV H 0 rfl 4 (by kernel_rfl) (by kernel_rfl))) .nil))))) (by kernel_rfl) (by kernel_rfl) (Does.alloc H (cGSlot (⟨0, (⟨0, 0⟩ : GRef), (⟨0, (⟨0, 0⟩ : GValue)⟩ : GOut)⟩ : GSlot)) (by kernel_rfl) fun b23 w H => ?_)
  refine WD.does 13 (by kernel_rfl) rfl (Floats.of [8, 7, 6, 5, 3, 2, 1, 0] [11, 10, 9, 4] (by kernel_rfl) (Floats.pure _ (by kernel_rfl) (by kernel_rfl)) (.cons (.tells rfl (by kernel_rfl) (by kernel_rfl) (.loadRow (v := .agg (cGSlot (⟨(gd x0.Frame.Slots x0.x.A).State, (⟨(gd x0.Frame.Slots x0.x.A).Kid.At, (gd x0.Frame.Slots x0.x.A).Kid.Gen⟩ : GRef), (⟨(gd x0.Frame.Slots x0.x.A).Out.Trap, (⟨(gd x0.Frame.Slots x0.x.A).Out.V.Re, (gd x0.Frame.Slots x0.x.A).Out.V.Im⟩ : GValue)⟩ : GOut)⟩ : GSlot)).toArray) H 4 rfl g0_22 g1_22 0 6 rfl (fun _ e => by rcases e with rfl; kernel_rfl) (by kernel_rfl))) (.cons (.tells rfl (by kernel_rfl) (by kernel_rfl) (.idx b22 (p22) x0.Frame.Slots.length c3 x0.x.A 6 (by kernel_rfl) (by kernel_rfl) g0_22 g1_22 (by kernel_rfl))) (.cons (.tells rfl (by kernel_rfl) rfl (.loadV H 1 rfl 18 (by kernel_rfl) (by kernel_rfl))) (.cons (.tells rfl (by kernel_rfl) rfl (.loadV H 1 rfl 4 (by kernel_rfl) (by kernel_rfl))) .nil))))) (by kernel_rfl) (by kernel_rfl) (Does.storeE H 0 (cGSlot (⟨(gd x0.Frame.Slots x0.x.A).State, (⟨(gd x0.Frame.Slots x0.x.A).Kid.At, (gd x0.Frame.Slots x0.x.A).Kid.Gen⟩ : GRef), (⟨(gd x0.Frame.Slots x0.x.A).Out.Trap, (⟨(gd x0.Frame.Slots x0.x.A).Out.V.Re, (gd x0.Frame.Slots x0.x.A).Out.V.Im⟩ : GValue)⟩ : GOut)⟩ : GSlot)) rfl (q := 0) (by kernel_rfl) (by kernel_rfl) (by kernel_rfl) fun w H => ?_)
  refine WD.fin (by kernel_rfl) (Floats.of [] [] (by kernel_rfl) .nil .nil) (by kernel_rfl) (by kernel_rfl) ?_
  refine WE.seq ?_
  refine WE.seq ?_
  refine WE.region ?_
  refine WL.sg 1 (by kernel_rfl) ?_
  refine WL.does (by kernel_rfl) (by kernel_rfl) (Does.loadV H 0 rfl 0 (by kernel_rfl) (by kernel_rfl) ?_)
  refine WL.fin 0 (by kernel_rfl) (by kernel_rfl) ?_
  refine WE.block ?_
  refine WE.seq ?_
  refine WE.region ?_
  refine WL.fin 2 (by kernel_rfl) (by kernel_rfl) ?_
  rcases ite_cases hr with ⟨t24, hr⟩ | ⟨t24, hr⟩
  · refine WE.yes (by kernel_rfl) (b := ((gd x0.Frame.Slots x0.x.A).State) == 1) (by kernel_rfl) t24 ?_
    refine WE.seq ?_
    refine WE.region ?_
    refine WL.sg 7 (by kernel_rfl) ?_
    refine WL.does (by kernel_rfl) (by kernel_rfl) (Does.loadV H 1 rfl 18 (by kernel_rfl) (by kernel_rfl) ?_)
    refine WL.sg 4 (by kernel_rfl) ?_
    refine WL.does (by kernel_rfl) (by kernel_rfl) (Does.storeE H 1 (cGrunner ({ x0 with Frame := { x0.Frame with State := 1 } }) a1 c1 a2 c2 (some ⟨b22, p22, none⟩) c3 a4 c4 a5 c5) rfl (q := 8) (by kernel_rfl) (by kernel_rfl) (by kernel_rfl) fun w H => ?_)
    refine WL.sg 3 (by kernel_rfl) ?_
    refine WL.does (by kernel_rfl) (by kernel_rfl) (Does.storeE H 1 (cGrunner ({ x0 with Frame := { x0.Frame with State := 1, Wait := x0.x.A } }) a1 c1 a2 c2 (some ⟨b22, p22, none⟩) c3 a4 c4 a5 c5) rfl (q := 9) (by kernel_rfl) (by kernel_rfl) (by kernel_rfl) fun w H => ?_)
    refine WL.sg 2 (by kernel_rfl) ?_
    refine WL.does (by kernel_rfl) (by kernel_rfl) (Does.storeE H 1 (cGrunner ({ x0 with Frame := { x0.Frame with State := 1, Wait := x0.x.A }, act := (⟨3, 0, 0, 0, []⟩ : GAct) }) a1 c1 a2 c2 (some ⟨b22, p22, none⟩) c3 a4 c4 none 0) rfl (q := 20) (by kernel_rfl) (by kernel_rfl) (by kernel_rfl) fun w H => ?_)
    refine WL.fin 0 (by kernel_rfl) (by kernel_rfl) ?_
    obtain rfl := Option.some.inj hr
    exact WE.ret ⟨[], trivial, ⟨h, a1, c1, a2, c2, (some ⟨b22, p22, none⟩), c3, none, 0, rfl, (Gh.refl _), (Sl.nil _ _ (Nat.zero_le _)), (H.keep 1)⟩⟩
  · refine WE.no (by kernel_rfl) (b := ((gd x0.Frame.Slots x0.x.A).State) == 1) (by kernel_rfl) t24 ?_
    refine WE.seq ?_
    refine WE.region ?_
    refine WL.fin 2 (by kernel_rfl) (by kernel_rfl) ?_
    rcases ite_cases hr with ⟨t25, hr⟩ | ⟨t25, hr⟩
    · refine WE.yes (by kernel_rfl) (b := ((gd x0.Frame.Slots x0.x.A).State) == 2) (by kernel_rfl) t25 ?_
      refine WE.skip ?_
      refine WE.seq ?_
      refine WE.draws mo [0, 2] (ρ' := [(0, .pointer (some ⟨b_0, 0, none⟩)), (2, .pointer (some ⟨b23, 0, none⟩))]) (by kernel_rfl) fun w e1 e2 e3 e4 => ?_
      have H := H.same e1 e2 e3 e4
      clear e1 e2 e3 e4
      refine WD.know [0] (by kernel_rfl) ?_
      refine WD.know [1] (by kernel_rfl) ?_
      refine WD.know [2] (by kernel_rfl) ?_
      refine WD.know [3] (by kernel_rfl) ?_
      refine WD.told 4 44 (.slice (some ⟨b22, p22, none⟩) x0.Frame.Slots.length c3) (by kernel_rfl) (by kernel_rfl) ?_
      refine WD.know [5] (by kernel_rfl) ?_
      refine WD.know [6] (by kernel_rfl) ?_
      refine WD.know [7] (by kernel_rfl) ?_
      refine WD.know [8] (by kernel_rfl) ?_
      refine WD.told 9 49 (.int .i64 x0.x.A) (by kernel_rfl) (by kernel_rfl) ?_
      refine WD.know [10] (by kernel_rfl) ?_
      obtain ⟨⟨g0_26, g1_26⟩, hr⟩ := grd_cases hr
      refine WD.told 11 51 (.pointer (some ⟨b22, p22 + x0.x.A.toNat * 6, none⟩)) (by kernel_rfl) (by kernel_rfl) ?_
      obtain ⟨C27, e27, _, hb27, hc27, rfl⟩ := H.rowAt2 4 rfl g0_26 g1_26
      refine WD.does 12 (by kernel_rfl) rfl (Floats.of [10, 8, 7, 6, 5, 3, 2, 1, 0] [11, 9, 4] (by kernel_rfl) (Floats.pure _ (by kernel_rfl) (by kernel_rfl)) (.cons (.tells rfl (by kernel_rfl) (by kernel_rfl) (.idx b22 (p22) x0.Frame.Slots.length c3 x0.x.A 6 (by kernel_rfl) (by kernel_rfl) g0_26 g1_26 (by kernel_rfl))) (.cons (.tells rfl (by kernel_rfl) rfl (.loadV H 1 rfl 18 (by kernel_rfl) (by kernel_rfl))) (.cons (.tells rfl (by kernel_rfl) rfl (.loadV H 1 rfl 4 (by kernel_rfl) (by kernel_rfl))) .nil)))) (by kernel_rfl) (by kernel_rfl) (Does.storeRow H 4 rfl (Gh.refl _) (j := x0.x.A.toNat) (by have h0 := g0_26; have h1 := g1_26; omega) hb27 hc27 0 (by kernel_rfl) (by kernel_rfl) (y' := (⟨0, (⟨0, 0⟩ : GRef), (⟨0, (⟨0, 0⟩ : GValue)⟩ : GOut)⟩ : GSlot)) (by show _ = _; kernel_rfl) fun w H => ?_)
      refine WD.spelt 44 (v := .slice (some ⟨b22, p22, none⟩) (x0.Frame.Slots.set x0.x.A.toNat (⟨0, (⟨0, 0⟩ : GRef), (⟨0, (⟨0, 0⟩ : GValue)⟩ : GOut)⟩ : GSlot)).length c3) (by kernel_rfl) (Eq.trans (b := .slice (some ⟨b22, p22, none⟩) x0.Frame.Slots.length c3) (by kernel_rfl) (sl_len (List.length_set ..).symm)) ?_
      have H := H.recell 1 (cGrunner ({ x0 with Frame := { x0.Frame with Slots := (x0.Frame.Slots.set x0.x.A.toNat (⟨0, (⟨0, 0⟩ : GRef), (⟨0, (⟨0, 0⟩ : GValue)⟩ : GOut)⟩ : GSlot)) } }) a1 c1 a2 c2 (some ⟨b22, p22, none⟩) c3 a4 c4 a5 c5) rfl (by simp only [cGrunner, List.length_set, List.length_take, copied_len])
      refine WD.fin (by kernel_rfl) (Floats.of [] [] (by kernel_rfl) .nil .nil) (by kernel_rfl) (by kernel_rfl) ?_
      refine WE.seq ?_
      refine WE.seq ?_
      refine WE.region ?_
      refine WL.sg 2 (by kernel_rfl) ?_
      refine WL.does (by kernel_rfl) (by kernel_rfl) (Does.loadV H 0 rfl 3 (by kernel_rfl) (by kernel_rfl) ?_)
      refine WL.fin 1 (by kernel_rfl) (by kernel_rfl) ?_
      rcases ite_cases hr with ⟨t28, hr⟩ | ⟨t28, hr⟩
      · refine WE.yes (by kernel_rfl) (b := ((gd x0.Frame.Slots x0.x.A).Out.Trap) != 0) (by kernel_rfl) t28 ?_
        refine WE.seq ?_
        refine WE.region ?_
        refine WL.sg 3 (by kernel_rfl) ?_
        refine WL.does (by kernel_rfl) (by kernel_rfl) (Does.loadV H 0 rfl 3 (by kernel_rfl) (by kernel_rfl) ?_)
        obtain ⟨y29, q29, hr⟩ := bnd_cases hr
        refine WL.does (by kernel_rfl) (by kernel_rfl) (Does.call (c_frame_runner_trap ({ x0 with Frame := { x0.Frame with Slots := (x0.Frame.Slots.set x0.x.A.toNat (⟨0, (⟨0, 0⟩ : GRef), (⟨0, (⟨0, 0⟩ : GValue)⟩ : GOut)⟩ : GSlot)) } }) f4 f5 ((gd x0.Frame.Slots x0.x.A).Out.Trap) ((((H.front 4 rfl).front 4 rfl).front 4 rfl).front 4 rfl) q29) (by kernel_rfl) ?_)
        rintro _ w ⟨h29, a30, c30, rfl, le29, f30, H⟩
        refine WL.fin 0 (by kernel_rfl) (by kernel_rfl) ?_
        have H := H.rowUp 1 rfl le29
        have H := H.rowUp 2 rfl le29
        have H := H.rowUp 3 rfl le29
        obtain rfl := Option.some.inj hr
        exact WE.ret ⟨[], trivial, ⟨h29, a1, c1, a2, c2, (some ⟨b22, p22, none⟩), c3, a30, c30, rfl, le29, f30, (((((H.front 3 rfl).front 3 rfl).front 3 rfl).front 3 rfl).mid 4 1)⟩⟩
      · refine WE.no (by kernel_rfl) (b := ((gd x0.Frame.Slots x0.x.A).Out.Trap) != 0) (by kernel_rfl) t28 ?_
        refine WE.skip ?_
        refine WE.seq ?_
        refine WE.region ?_
        refine WL.sg 3 (by kernel_rfl) ?_
        refine WL.does (by kernel_rfl) (by kernel_rfl) (Does.loadV H 0 rfl 4 (by kernel_rfl) (by kernel_rfl) ?_)
        refine WL.does (by kernel_rfl) (by kernel_rfl) (Does.lit (K := rGValue) (B := 16) (xs := [(⟨(gd x0.Frame.Slots x0.x.A).Out.V.Re, (gd x0.Frame.Slots x0.x.A).Out.V.Im⟩ : GValue)]) (e := 33) H ([.int .i64 ((gd x0.Frame.Slots x0.x.A).Out.V.Re), .int .i64 ((gd x0.Frame.Slots x0.x.A).Out.V.Im)] ++ []) (by kernel_rfl) (Rows.cons (C := [.int .i64 ((gd x0.Frame.Slots x0.x.A).Out.V.Re), .int .i64 ((gd x0.Frame.Slots x0.x.A).Out.V.Im)]) (x := (⟨(gd x0.Frame.Slots x0.x.A).Out.V.Re, (gd x0.Frame.Slots x0.x.A).Out.V.Im⟩ : GValue)) (by show _ = _; kernel_rfl) Rows.nil) (by kernel_rfl) (by kernel_rfl) (by kernel_rfl) (by kernel_rfl) fun b31 w H => ?_)
        obtain ⟨y33, q33, hr⟩ := bind_cases hr
        obtain ⟨h32, le32, f32, H, bk32⟩ := (H).rowLend (Gh.refl _)
        have H := H.rowUp 2 rfl le32
        have H := H.rowUp 3 rfl le32
        have H := H.rowUp 4 rfl le32
        refine WL.does (by kernel_rfl) (by kernel_rfl) (Does.call (c_frame_runner_push ({ x0 with Frame := { x0.Frame with Slots := (x0.Frame.Slots.set x0.x.A.toNat (⟨0, (⟨0, 0⟩ : GRef), (⟨0, (⟨0, 0⟩ : GValue)⟩ : GOut)⟩ : GSlot)) } }) (f4.up le32) (f5.up le32) [(⟨(gd x0.Frame.Slots x0.x.A).Out.V.Re, (gd x0.Frame.Slots x0.x.A).Out.V.Im⟩ : GValue)] f32 ((((H.front 4 rfl).front 4 rfl).front 4 rfl).front 4 rfl) q33) (by kernel_rfl) ?_)
        rintro _ w ⟨h33, a34, c34, rfl, le33, H⟩
        obtain ⟨h32', le32', H⟩ := bk32 _ _ _ le33 H
        have H := H.rowFlat (h' := h32') 2 rfl (fun _ _ e => e)
        have H := H.rowFlat (h' := h32') 3 rfl (fun _ _ e => e)
        have H := H.rowFlat (h' := h32') 4 rfl (fun _ _ e => e)
        refine WL.fin 0 (by kernel_rfl) (by kernel_rfl) ?_
        refine WE.region ?_
        refine WL.sg 4 (by kernel_rfl) ?_
        refine WL.does (by kernel_rfl) (by kernel_rfl) (Does.loadV H 1 rfl 1 (by kernel_rfl) (by kernel_rfl) ?_)
        refine WL.sg 4 (by kernel_rfl) ?_
        refine WL.does (by kernel_rfl) (by kernel_rfl) (Does.storeE H 1 (cGrunner ({ x0 with Frame := { x0.Frame with Pc := w64 (x0.Frame.Pc + 1), Stack := y33, Slots := (x0.Frame.Slots.set x0.x.A.toNat (⟨0, (⟨0, 0⟩ : GRef), (⟨0, (⟨0, 0⟩ : GValue)⟩ : GOut)⟩ : GSlot)) } }) a34 c34 a2 c2 (some ⟨b22, p22, none⟩) c3 a4 c4 a5 c5) rfl (q := 1) (by kernel_rfl) (by kernel_rfl) (by kernel_rfl) fun w H => ?_)
        refine WL.fin 0 (by kernel_rfl) (by kernel_rfl) ?_
        obtain rfl := Option.some.inj hr
        exact ⟨[], trivial, ⟨h32', a34, c34, a2, c2, (some ⟨b22, p22, none⟩), c3, a5, c5, rfl, le32', (f5.up le32'), (((((H.front 4 rfl).front 4 rfl).front 4 rfl).front 4 rfl).mid 4 2)⟩⟩
    · refine WE.no (by kernel_rfl) (b := ((gd x0.Frame.Slots x0.x.A).State) == 2) (by kernel_rfl) t25 ?_
      refine WE.seq ?_
      refine WE.region ?_
      obtain ⟨y36, q36, hr⟩ := bnd_cases hr
      refine WL.sg 1 (by kernel_rfl) ?_
      refine WL.does (by kernel_rfl) (by kernel_rfl) (Does.call (c_frame_runner_trap x0 f4 f5 2 ((((H.front 4 rfl).front 4 rfl).front 4 rfl).front 4 rfl) q36) (by kernel_rfl) ?_)
      rintro _ w ⟨h36, a37, c37, rfl, le36, f37, H⟩
      refine WL.fin 0 (by kernel_rfl) (by kernel_rfl) ?_
      have H := H.rowUp 1 rfl le36
      have H := H.rowUp 2 rfl le36
      have H := H.rowUp 3 rfl le36
      obtain rfl := Option.some.inj hr
      exact WE.ret ⟨[], trivial, ⟨h36, a1, c1, a2, c2, (some ⟨b22, p22, none⟩), c3, a37, c37, rfl, le36, f37, (((((H.front 3 rfl).front 3 rfl).front 3 rfl).front 3 rfl).mid 4 1)⟩⟩
def gauss_of (x0 : GValue) : (Nat × Nat) :=
  bnd (gauss_rest x0.Re) fun y2 =>
  bnd (gauss_rest x0.Im) fun y3 =>
  (fOf y2, fOf y3)
set_option maxRecDepth 100000 in
theorem c_gauss_of {w0 w : World} {h : Gh} {L : List Ent} (x0 : GValue) (H : St w0 h w L) {r : (Nat × Nat)} (hr : gauss_of x0 = r) : Calls Try.prog 81 #[.agg #[.int .i64 x0.Re, .int .i64 x0.Im]] w (fun e w' => ∃ v, e = .returned v ∧ v = .complex .f64 r.1 r.2 ∧ St w0 h w' (L)) := by
  refine calls_of (args := [.agg #[.int .i64 x0.Re, .int .i64 x0.Im]]) (n := 12) (rs := [.tmp 2]) Try.func81 rfl rfl rfl rfl rfl ?_
  unfold gauss_of at hr
  refine WE.seq ?_
  refine WE.region ?_
  refine WL.does (by kernel_rfl) (by kernel_rfl) (Does.box H [.int .i64 x0.Re, .int .i64 x0.Im] (by kernel_rfl) fun b1 w H => ?_)
  refine WL.fin 1 (by kernel_rfl) (by kernel_rfl) ?_
  refine WE.seq ?_
  refine WE.draws mo [1] (ρ' := [(1, .pointer (some ⟨b1, 0, none⟩))]) (by kernel_rfl) fun w e1 e2 e3 e4 => ?_
  have H := H.same e1 e2 e3 e4
  clear e1 e2 e3 e4
  refine WD.know [0] (by kernel_rfl) ?_
  refine WD.told 1 4 (.int .i64 x0.Re) (by kernel_rfl) (by kernel_rfl) ?_
  refine WD.know [4] (by kernel_rfl) ?_
  refine WD.told 5 8 (.int .i64 x0.Im) (by kernel_rfl) (by kernel_rfl) ?_
  obtain ⟨y2, q2, hr⟩ := bnd_cases hr
  refine WD.does 2 (by kernel_rfl) rfl (Floats.of [4, 0] [5, 1] (by kernel_rfl) (Floats.pure _ (by kernel_rfl) (by kernel_rfl)) (.cons (.tells rfl (by kernel_rfl) rfl (.loadV H 0 rfl 1 (by kernel_rfl) (by kernel_rfl))) (.cons (.tells rfl (by kernel_rfl) rfl (.loadV H 0 rfl 0 (by kernel_rfl) (by kernel_rfl))) .nil))) (by kernel_rfl) (by kernel_rfl) (Does.call (c_gauss_rest x0.Re H q2) (by kernel_rfl) ?_)
  rintro _ w ⟨rfl, H⟩
  refine WD.know [3] (by kernel_rfl) ?_
  obtain ⟨y3, q3, hr⟩ := bnd_cases hr
  refine WD.does 6 (by kernel_rfl) rfl (Floats.of [3, 4, 0] [5] (by kernel_rfl) (Floats.pure _ (by kernel_rfl) (by kernel_rfl)) (.cons (.tells rfl (by kernel_rfl) rfl (.loadV H 0 rfl 1 (by kernel_rfl) (by kernel_rfl))) .nil)) (by kernel_rfl) (by kernel_rfl) (Does.call (c_gauss_rest x0.Im H q3) (by kernel_rfl) ?_)
  rintro _ w ⟨rfl, H⟩
  refine WD.know [7] (by kernel_rfl) ?_
  refine WD.know [8] (by kernel_rfl) ?_
  refine WD.does 9 (by kernel_rfl) rfl (Floats.of [8, 7, 3, 4, 0] [] (by kernel_rfl) (Floats.pure _ (by kernel_rfl) (by kernel_rfl)) .nil) (by kernel_rfl) (by kernel_rfl) (Does.reck (by kernel_rfl) ?_)
  refine WD.fin (by kernel_rfl) (Floats.of [] [] (by kernel_rfl) .nil .nil) (by kernel_rfl) (by kernel_rfl) ?_
  obtain rfl := hr
  exact WE.ret ⟨[.complex .f64 (fOf y2) (fOf y3)], ⟨⟨(by kernel_rfl), (by kernel_rfl)⟩, trivial⟩, ⟨rfl, (H.keep 1)⟩⟩
def gauss_Of (x0 : Int) (x1 : Int) : GValue :=
  bnd (gauss_rest x0) fun y2 =>
  bnd (gauss_rest x1) fun y3 =>
  (⟨y2, y3⟩ : GValue)
set_option maxRecDepth 100000 in
theorem c_gauss_Of {w0 w : World} {h : Gh} {L : List Ent} (x0 : Int) (x1 : Int) (H : St w0 h w L) {r : GValue} (hr : gauss_Of x0 x1 = r) : Calls Try.prog 64 #[.int .i64 x0, .int .i64 x1] w (fun e w' => ∃ v, e = .returned v ∧ v = .agg #[.int .i64 r.Re, .int .i64 r.Im] ∧ St w0 h w' (L)) := by
  refine calls_of (args := [.int .i64 x0, .int .i64 x1]) (n := 10) (rs := [.cell 4 33]) Try.func64 rfl rfl rfl rfl rfl ?_
  unfold gauss_Of at hr
  refine WE.seq ?_
  refine WE.region ?_
  refine WL.does (by kernel_rfl) (by kernel_rfl) (Does.alloc H [.int .i64 0, .int .i64 0] (by kernel_rfl) fun b1 w H => ?_)
  refine WL.fin 0 (by kernel_rfl) (by kernel_rfl) ?_
  refine WE.seq ?_
  refine WE.region ?_
  obtain ⟨y2, q2, hr⟩ := bnd_cases hr
  refine WL.sg 1 (by kernel_rfl) ?_
  refine WL.does (by kernel_rfl) (by kernel_rfl) (Does.call (c_gauss_rest x0 H q2) (by kernel_rfl) ?_)
  rintro _ w ⟨rfl, H⟩
  obtain ⟨y3, q3, hr⟩ := bnd_cases hr
  refine WL.sg 1 (by kernel_rfl) ?_
  refine WL.does (by kernel_rfl) (by kernel_rfl) (Does.call (c_gauss_rest x1 H q3) (by kernel_rfl) ?_)
  rintro _ w ⟨rfl, H⟩
  refine WL.sg 1 (by kernel_rfl) ?_
  refine WL.does (by kernel_rfl) (by kernel_rfl) (Does.storeE H 0 [.int .i64 y2, .int .i64 y3] rfl (q := 0) (by kernel_rfl) (by kernel_rfl) (by kernel_rfl) fun w H => ?_)
  refine WL.fin 0 (by kernel_rfl) (by kernel_rfl) ?_
  obtain rfl := hr
  exact WE.ret ⟨[.agg #[.int .i64 y2, .int .i64 y3]], ⟨⟨(by kernel_rfl), ⟨b1, 0, none⟩, (by kernel_rfl), H.loadVar 0 rfl 0 (by kernel_rfl)⟩, trivial⟩, ⟨rfl, (H.keep 1)⟩⟩
def gauss_value (x0 : Nat × Nat) : Option GValue :=
  (floatToIntVal .f64 x0.1 .i64).bind fun y2 =>
  (floatToIntVal .f64 x0.2 .i64).bind fun y3 =>
  bnd (gauss_Of y2 y3) fun y4 =>
  some y4
set_option maxRecDepth 100000 in
theorem c_gauss_value {w0 w : World} {h : Gh} {L : List Ent} (x0 : Nat × Nat) (H : St w0 h w L) {r : GValue} (hr : gauss_value x0 = some r) : Calls Try.prog 80 #[.complex .f64 x0.1 x0.2] w (fun e w' => ∃ v, e = .returned v ∧ v = .agg #[.int .i64 r.Re, .int .i64 r.Im] ∧ St w0 h w' (L)) := by
  refine calls_of (args := [.complex .f64 x0.1 x0.2]) (n := 10) (rs := [.cell 2 33]) Try.func80 rfl rfl rfl rfl rfl ?_
  unfold gauss_value at hr
  refine WE.seq ?_
  refine WE.region ?_
  refine WL.does (by kernel_rfl) (by kernel_rfl) (Does.alloc H [.int .i64 0, .int .i64 0] (by kernel_rfl) fun b1 w H => ?_)
  refine WL.fin 0 (by kernel_rfl) (by kernel_rfl) ?_
  refine WE.seq ?_
  refine WE.region ?_
  obtain ⟨y2, qy2, hr⟩ := bind_cases hr
  refine WL.sg 2 (by kernel_rfl) ?_
  refine WL.does (by kernel_rfl) (by kernel_rfl) (Does.tells (.toInt (by kernel_rfl) (by kernel_rfl) (by kernel_rfl) qy2) ?_)
  obtain ⟨y3, qy3, hr⟩ := bind_cases hr
  refine WL.sg 2 (by kernel_rfl) ?_
  refine WL.does (by kernel_rfl) (by kernel_rfl) (Does.tells (.toInt (by kernel_rfl) (by kernel_rfl) (by kernel_rfl) qy3) ?_)
  obtain ⟨y4, q4, hr⟩ := bnd_cases hr
  refine WL.does (by kernel_rfl) (by kernel_rfl) (Does.call (c_gauss_Of y2 y3 H q4) (by kernel_rfl) ?_)
  rintro _ w ⟨rfl, H⟩
  refine WL.does (by kernel_rfl) (by kernel_rfl) (Does.storeE H 0 [.int .i64 y4.Re, .int .i64 y4.Im] rfl (q := 0) (by kernel_rfl) (by kernel_rfl) (by kernel_rfl) fun w H => ?_)
  refine WL.fin 0 (by kernel_rfl) (by kernel_rfl) ?_
  obtain rfl := Option.some.inj hr
  exact WE.ret ⟨[.agg #[.int .i64 y4.Re, .int .i64 y4.Im]], ⟨⟨(by kernel_rfl), ⟨b1, 0, none⟩, (by kernel_rfl), H.loadVar 0 rfl 0 (by kernel_rfl)⟩, trivial⟩, ⟨rfl, (H.keep 1)⟩⟩
def gauss_Add (x0 : GValue) (x1 : GValue) : Option GValue :=
  bnd (gauss_of x0) fun y4 =>
  bnd (gauss_of x1) fun y5 =>
  (cAdd y4 y5).bind fun y6 =>
  (gauss_value y6).bind fun y7 =>
  some y7
set_option maxRecDepth 100000 in
theorem c_gauss_Add {w0 w : World} {h : Gh} {L : List Ent} (x0 : GValue) (x1 : GValue) (H : St w0 h w L) {r : GValue} (hr : gauss_Add x0 x1 = some r) : Calls Try.prog 60 #[.agg #[.int .i64 x0.Re, .int .i64 x0.Im], .agg #[.int .i64 x1.Re, .int .i64 x1.Im]] w (fun e w' => ∃ v, e = .returned v ∧ v = .agg #[.int .i64 r.Re, .int .i64 r.Im] ∧ St w0 h w' (L)) := by
  refine calls_of (args := [.agg #[.int .i64 x0.Re, .int .i64 x0.Im], .agg #[.int .i64 x1.Re, .int .i64 x1.Im]]) (n := 11) (rs := [.cell 4 33]) Try.func60 rfl rfl rfl rfl rfl ?_
  unfold gauss_Add at hr
  refine WE.seq ?_
  refine WE.region ?_
  refine WL.does (by kernel_rfl) (by kernel_rfl) (Does.box H [.int .i64 x0.Re, .int .i64 x0.Im] (by kernel_rfl) fun b1 w H => ?_)
  refine WL.does (by kernel_rfl) (by kernel_rfl) (Does.box H [.int .i64 x1.Re, .int .i64 x1.Im] (by kernel_rfl) fun b2 w H => ?_)
  refine WL.does (by kernel_rfl) (by kernel_rfl) (Does.alloc H [.int .i64 0, .int .i64 0] (by kernel_rfl) fun b3 w H => ?_)
  refine WL.fin 0 (by kernel_rfl) (by kernel_rfl) ?_
  refine WE.seq ?_
  refine WE.draws mo [2, 3, 4] (ρ' := [(2, .pointer (some ⟨b1, 0, none⟩)), (3, .pointer (some ⟨b2, 0, none⟩)), (4, .pointer (some ⟨b3, 0, none⟩))]) (by kernel_rfl) fun w e1 e2 e3 e4 => ?_
  have H := H.same e1 e2 e3 e4
  clear e1 e2 e3 e4
  refine WD.told 0 5 (.agg #[.int .i64 x0.Re, .int .i64 x0.Im]) (by kernel_rfl) (by kernel_rfl) ?_
  refine WD.told 2 7 (.agg #[.int .i64 x1.Re, .int .i64 x1.Im]) (by kernel_rfl) (by kernel_rfl) ?_
  obtain ⟨y4, q4, hr⟩ := bnd_cases hr
  refine WD.does 1 (by kernel_rfl) rfl (Floats.of [] [2, 0] (by kernel_rfl) .nil (.cons (.tells rfl (by kernel_rfl) rfl (.loadV H 1 rfl 0 (by kernel_rfl) (by kernel_rfl))) (.cons (.tells rfl (by kernel_rfl) rfl (.loadV H 2 rfl 0 (by kernel_rfl) (by kernel_rfl))) .nil))) (by kernel_rfl) (by kernel_rfl) (Does.call (c_gauss_of x0 H q4) (by kernel_rfl) ?_)
  rintro _ w ⟨rfl, H⟩
  obtain ⟨y5, q5, hr⟩ := bnd_cases hr
  refine WD.does 3 (by kernel_rfl) rfl (Floats.of [] [2] (by kernel_rfl) .nil (.cons (.tells rfl (by kernel_rfl) rfl (.loadV H 1 rfl 0 (by kernel_rfl) (by kernel_rfl))) .nil)) (by kernel_rfl) (by kernel_rfl) (Does.call (c_gauss_of x1 H q5) (by kernel_rfl) ?_)
  rintro _ w ⟨rfl, H⟩
  obtain ⟨y6, qy6, hr⟩ := bind_cases hr
  refine WD.told 4 9 (.complex .f64 y6.1 y6.2) (by kernel_rfl) (by kernel_rfl) ?_
  obtain ⟨y7, q7, hr⟩ := bind_cases hr
  refine WD.does 5 (by kernel_rfl) rfl (Floats.of [] [4] (by kernel_rfl) .nil (.cons (.tells rfl (by kernel_rfl) (by kernel_rfl) (.cAdd (u := y4) (v := y5) (by kernel_rfl) (by kernel_rfl) qy6 (by kernel_rfl))) .nil)) (by kernel_rfl) (by kernel_rfl) (Does.call (c_gauss_value y6 H q7) (by kernel_rfl) ?_)
  rintro _ w ⟨rfl, H⟩
  refine WD.does 6 (by kernel_rfl) rfl (Floats.of [] [] (by kernel_rfl) .nil .nil) (by kernel_rfl) (by kernel_rfl) (Does.storeE H 0 [.int .i64 y7.Re, .int .i64 y7.Im] rfl (q := 0) (by kernel_rfl) (by kernel_rfl) (by kernel_rfl) fun w H => ?_)
  refine WD.fin (by kernel_rfl) (Floats.of [] [] (by kernel_rfl) .nil .nil) (by kernel_rfl) (by kernel_rfl) ?_
  obtain rfl := Option.some.inj hr
  exact WE.ret ⟨[.agg #[.int .i64 y7.Re, .int .i64 y7.Im]], ⟨⟨(by kernel_rfl), ⟨b3, 0, none⟩, (by kernel_rfl), H.loadVar 0 rfl 0 (by kernel_rfl)⟩, trivial⟩, ⟨rfl, (H.keep 3)⟩⟩
def gauss_Sub (x0 : GValue) (x1 : GValue) : Option GValue :=
  bnd (gauss_of x0) fun y4 =>
  bnd (gauss_of x1) fun y5 =>
  (cSub y4 y5).bind fun y6 =>
  (gauss_value y6).bind fun y7 =>
  some y7
set_option maxRecDepth 100000 in
theorem c_gauss_Sub {w0 w : World} {h : Gh} {L : List Ent} (x0 : GValue) (x1 : GValue) (H : St w0 h w L) {r : GValue} (hr : gauss_Sub x0 x1 = some r) : Calls Try.prog 61 #[.agg #[.int .i64 x0.Re, .int .i64 x0.Im], .agg #[.int .i64 x1.Re, .int .i64 x1.Im]] w (fun e w' => ∃ v, e = .returned v ∧ v = .agg #[.int .i64 r.Re, .int .i64 r.Im] ∧ St w0 h w' (L)) := by
  refine calls_of (args := [.agg #[.int .i64 x0.Re, .int .i64 x0.Im], .agg #[.int .i64 x1.Re, .int .i64 x1.Im]]) (n := 11) (rs := [.cell 4 33]) Try.func61 rfl rfl rfl rfl rfl ?_
  unfold gauss_Sub at hr
  refine WE.seq ?_
  refine WE.region ?_
  refine WL.does (by kernel_rfl) (by kernel_rfl) (Does.box H [.int .i64 x0.Re, .int .i64 x0.Im] (by kernel_rfl) fun b1 w H => ?_)
  refine WL.does (by kernel_rfl) (by kernel_rfl) (Does.box H [.int .i64 x1.Re, .int .i64 x1.Im] (by kernel_rfl) fun b2 w H => ?_)
  refine WL.does (by kernel_rfl) (by kernel_rfl) (Does.alloc H [.int .i64 0, .int .i64 0] (by kernel_rfl) fun b3 w H => ?_)
  refine WL.fin 0 (by kernel_rfl) (by kernel_rfl) ?_
  refine WE.seq ?_
  refine WE.draws mo [2, 3, 4] (ρ' := [(2, .pointer (some ⟨b1, 0, none⟩)), (3, .pointer (some ⟨b2, 0, none⟩)), (4, .pointer (some ⟨b3, 0, none⟩))]) (by kernel_rfl) fun w e1 e2 e3 e4 => ?_
  have H := H.same e1 e2 e3 e4
  clear e1 e2 e3 e4
  refine WD.told 0 5 (.agg #[.int .i64 x0.Re, .int .i64 x0.Im]) (by kernel_rfl) (by kernel_rfl) ?_
  refine WD.told 2 7 (.agg #[.int .i64 x1.Re, .int .i64 x1.Im]) (by kernel_rfl) (by kernel_rfl) ?_
  obtain ⟨y4, q4, hr⟩ := bnd_cases hr
  refine WD.does 1 (by kernel_rfl) rfl (Floats.of [] [2, 0] (by kernel_rfl) .nil (.cons (.tells rfl (by kernel_rfl) rfl (.loadV H 1 rfl 0 (by kernel_rfl) (by kernel_rfl))) (.cons (.tells rfl (by kernel_rfl) rfl (.loadV H 2 rfl 0 (by kernel_rfl) (by kernel_rfl))) .nil))) (by kernel_rfl) (by kernel_rfl) (Does.call (c_gauss_of x0 H q4) (by kernel_rfl) ?_)
  rintro _ w ⟨rfl, H⟩
  obtain ⟨y5, q5, hr⟩ := bnd_cases hr
  refine WD.does 3 (by kernel_rfl) rfl (Floats.of [] [2] (by kernel_rfl) .nil (.cons (.tells rfl (by kernel_rfl) rfl (.loadV H 1 rfl 0 (by kernel_rfl) (by kernel_rfl))) .nil)) (by kernel_rfl) (by kernel_rfl) (Does.call (c_gauss_of x1 H q5) (by kernel_rfl) ?_)
  rintro _ w ⟨rfl, H⟩
  obtain ⟨y6, qy6, hr⟩ := bind_cases hr
  refine WD.told 4 9 (.complex .f64 y6.1 y6.2) (by kernel_rfl) (by kernel_rfl) ?_
  obtain ⟨y7, q7, hr⟩ := bind_cases hr
  refine WD.does 5 (by kernel_rfl) rfl (Floats.of [] [4] (by kernel_rfl) .nil (.cons (.tells rfl (by kernel_rfl) (by kernel_rfl) (.cSub (u := y4) (v := y5) (by kernel_rfl) (by kernel_rfl) qy6 (by kernel_rfl))) .nil)) (by kernel_rfl) (by kernel_rfl) (Does.call (c_gauss_value y6 H q7) (by kernel_rfl) ?_)
  rintro _ w ⟨rfl, H⟩
  refine WD.does 6 (by kernel_rfl) rfl (Floats.of [] [] (by kernel_rfl) .nil .nil) (by kernel_rfl) (by kernel_rfl) (Does.storeE H 0 [.int .i64 y7.Re, .int .i64 y7.Im] rfl (q := 0) (by kernel_rfl) (by kernel_rfl) (by kernel_rfl) fun w H => ?_)
  refine WD.fin (by kernel_rfl) (Floats.of [] [] (by kernel_rfl) .nil .nil) (by kernel_rfl) (by kernel_rfl) ?_
  obtain rfl := Option.some.inj hr
  exact WE.ret ⟨[.agg #[.int .i64 y7.Re, .int .i64 y7.Im]], ⟨⟨(by kernel_rfl), ⟨b3, 0, none⟩, (by kernel_rfl), H.loadVar 0 rfl 0 (by kernel_rfl)⟩, trivial⟩, ⟨rfl, (H.keep 3)⟩⟩
def gauss_Mul (x0 : GValue) (x1 : GValue) : Option GValue :=
  bnd (gauss_of x0) fun y4 =>
  bnd (gauss_of x1) fun y5 =>
  (cMul y4 y5).bind fun y6 =>
  (gauss_value y6).bind fun y7 =>
  some y7
set_option maxRecDepth 100000 in
theorem c_gauss_Mul {w0 w : World} {h : Gh} {L : List Ent} (x0 : GValue) (x1 : GValue) (H : St w0 h w L) {r : GValue} (hr : gauss_Mul x0 x1 = some r) : Calls Try.prog 62 #[.agg #[.int .i64 x0.Re, .int .i64 x0.Im], .agg #[.int .i64 x1.Re, .int .i64 x1.Im]] w (fun e w' => ∃ v, e = .returned v ∧ v = .agg #[.int .i64 r.Re, .int .i64 r.Im] ∧ St w0 h w' (L)) := by
  refine calls_of (args := [.agg #[.int .i64 x0.Re, .int .i64 x0.Im], .agg #[.int .i64 x1.Re, .int .i64 x1.Im]]) (n := 11) (rs := [.cell 4 33]) Try.func62 rfl rfl rfl rfl rfl ?_
  unfold gauss_Mul at hr
  refine WE.seq ?_
  refine WE.region ?_
  refine WL.does (by kernel_rfl) (by kernel_rfl) (Does.box H [.int .i64 x0.Re, .int .i64 x0.Im] (by kernel_rfl) fun b1 w H => ?_)
  refine WL.does (by kernel_rfl) (by kernel_rfl) (Does.box H [.int .i64 x1.Re, .int .i64 x1.Im] (by kernel_rfl) fun b2 w H => ?_)
  refine WL.does (by kernel_rfl) (by kernel_rfl) (Does.alloc H [.int .i64 0, .int .i64 0] (by kernel_rfl) fun b3 w H => ?_)
  refine WL.fin 0 (by kernel_rfl) (by kernel_rfl) ?_
  refine WE.seq ?_
  refine WE.draws mo [2, 3, 4] (ρ' := [(2, .pointer (some ⟨b1, 0, none⟩)), (3, .pointer (some ⟨b2, 0, none⟩)), (4, .pointer (some ⟨b3, 0, none⟩))]) (by kernel_rfl) fun w e1 e2 e3 e4 => ?_
  have H := H.same e1 e2 e3 e4
  clear e1 e2 e3 e4
  refine WD.told 0 5 (.agg #[.int .i64 x0.Re, .int .i64 x0.Im]) (by kernel_rfl) (by kernel_rfl) ?_
  refine WD.told 2 7 (.agg #[.int .i64 x1.Re, .int .i64 x1.Im]) (by kernel_rfl) (by kernel_rfl) ?_
  obtain ⟨y4, q4, hr⟩ := bnd_cases hr
  refine WD.does 1 (by kernel_rfl) rfl (Floats.of [] [2, 0] (by kernel_rfl) .nil (.cons (.tells rfl (by kernel_rfl) rfl (.loadV H 1 rfl 0 (by kernel_rfl) (by kernel_rfl))) (.cons (.tells rfl (by kernel_rfl) rfl (.loadV H 2 rfl 0 (by kernel_rfl) (by kernel_rfl))) .nil))) (by kernel_rfl) (by kernel_rfl) (Does.call (c_gauss_of x0 H q4) (by kernel_rfl) ?_)
  rintro _ w ⟨rfl, H⟩
  obtain ⟨y5, q5, hr⟩ := bnd_cases hr
  refine WD.does 3 (by kernel_rfl) rfl (Floats.of [] [2] (by kernel_rfl) .nil (.cons (.tells rfl (by kernel_rfl) rfl (.loadV H 1 rfl 0 (by kernel_rfl) (by kernel_rfl))) .nil)) (by kernel_rfl) (by kernel_rfl) (Does.call (c_gauss_of x1 H q5) (by kernel_rfl) ?_)
  rintro _ w ⟨rfl, H⟩
  obtain ⟨y6, qy6, hr⟩ := bind_cases hr
  refine WD.told 4 9 (.complex .f64 y6.1 y6.2) (by kernel_rfl) (by kernel_rfl) ?_
  obtain ⟨y7, q7, hr⟩ := bind_cases hr
  refine WD.does 5 (by kernel_rfl) rfl (Floats.of [] [4] (by kernel_rfl) .nil (.cons (.tells rfl (by kernel_rfl) (by kernel_rfl) (.cMul (u := y4) (v := y5) (by kernel_rfl) (by kernel_rfl) qy6 (by kernel_rfl))) .nil)) (by kernel_rfl) (by kernel_rfl) (Does.call (c_gauss_value y6 H q7) (by kernel_rfl) ?_)
  rintro _ w ⟨rfl, H⟩
  refine WD.does 6 (by kernel_rfl) rfl (Floats.of [] [] (by kernel_rfl) .nil .nil) (by kernel_rfl) (by kernel_rfl) (Does.storeE H 0 [.int .i64 y7.Re, .int .i64 y7.Im] rfl (q := 0) (by kernel_rfl) (by kernel_rfl) (by kernel_rfl) fun w H => ?_)
  refine WD.fin (by kernel_rfl) (Floats.of [] [] (by kernel_rfl) .nil .nil) (by kernel_rfl) (by kernel_rfl) ?_
  obtain rfl := Option.some.inj hr
  exact WE.ret ⟨[.agg #[.int .i64 y7.Re, .int .i64 y7.Im]], ⟨⟨(by kernel_rfl), ⟨b3, 0, none⟩, (by kernel_rfl), H.loadVar 0 rfl 0 (by kernel_rfl)⟩, trivial⟩, ⟨rfl, (H.keep 3)⟩⟩
def gauss_Pow_l1 (K : Nat) : Nat → (Int × Int × Int × Int × Int) → Option GValue
  | 0, _ => none
  | k1 + 1, (y23, y24, y25, y26, y27) =>
    if decide (y27 > 0) then
      if (Int.tmod y27 2) == 1 then
        (gauss_Mul (⟨y25, y26⟩ : GValue) (⟨y23, y24⟩ : GValue)).bind fun y30 =>
        (gauss_Mul (⟨y23, y24⟩ : GValue) (⟨y23, y24⟩ : GValue)).bind fun y31 =>
        gauss_Pow_l1 K k1 (y31.Re, y31.Im, y30.Re, y30.Im, w64 (y27.tdiv 2))
      else
        (gauss_Mul (⟨y23, y24⟩ : GValue) (⟨y23, y24⟩ : GValue)).bind fun y32 =>
        gauss_Pow_l1 K k1 (y32.Re, y32.Im, y25, y26, w64 (y27.tdiv 2))
    else
      some (⟨y25, y26⟩ : GValue)
def gauss_Pow (K : Nat) (x0 : GValue) (x1 : Int) : Option GValue :=
  if decide (x1 < 0) then
    some (⟨0, 0⟩ : GValue)
  else
    bnd (gauss_Of 1 0) fun y4 =>
    bnd (gauss_of x0) fun y6 =>
    (gauss_value y6).bind fun y7 =>
    gauss_Pow_l1 K K (y7.Re, y7.Im, y4.Re, y4.Im, x1)
set_option maxRecDepth 100000 in
theorem c_gauss_Pow {w0 w : World} {h : Gh} {L : List Ent} (K : Nat) (x0 : GValue) (x1 : Int) (H : St w0 h w L) {r : GValue} (hr : gauss_Pow K x0 x1 = some r) : Calls Try.prog 82 #[.agg #[.int .i64 x0.Re, .int .i64 x0.Im], .int .i64 x1] w (fun e w' => ∃ v, e = .returned v ∧ v = .agg #[.int .i64 r.Re, .int .i64 r.Im] ∧ St w0 h w' (L)) := by
  refine calls_of (args := [.agg #[.int .i64 x0.Re, .int .i64 x0.Im], .int .i64 x1]) (n := 27) (rs := [.cell 4 33]) Try.func82 rfl rfl rfl rfl rfl ?_
  unfold gauss_Pow at hr
  refine WE.seq ?_
  refine WE.region ?_
  refine WL.does (by kernel_rfl) (by kernel_rfl) (Does.box H [.int .i64 x0.Re, .int .i64 x0.Im] (by kernel_rfl) fun b1 w H => ?_)
  refine WL.does (by kernel_rfl) (by kernel_rfl) (Does.alloc H [.int .i64 0, .int .i64 0] (by kernel_rfl) fun b2 w H => ?_)
  refine WL.fin 0 (by kernel_rfl) (by kernel_rfl) ?_
  refine WE.seq ?_
  refine WE.seq ?_
  refine WE.region ?_
  refine WL.fin 2 (by kernel_rfl) (by kernel_rfl) ?_
  rcases ite_cases hr with ⟨t3, hr⟩ | ⟨t3, hr⟩
  · refine WE.yes (by kernel_rfl) (b := decide (x1 < 0)) (by kernel_rfl) t3 ?_
    refine WE.seq ?_
    refine WE.region ?_
    refine WL.sg 1 (by kernel_rfl) ?_
    refine WL.does (by kernel_rfl) (by kernel_rfl) (Does.storeE H 0 [.int .i64 0, .int .i64 0] rfl (q := 0) (by kernel_rfl) (by kernel_rfl) (by kernel_rfl) fun w H => ?_)
    refine WL.fin 0 (by kernel_rfl) (by kernel_rfl) ?_
    obtain rfl := Option.some.inj hr
    exact WE.ret ⟨[.agg #[.int .i64 0, .int .i64 0]], ⟨⟨(by kernel_rfl), ⟨b2, 0, none⟩, (by kernel_rfl), H.loadVar 0 rfl 0 (by kernel_rfl)⟩, trivial⟩, ⟨rfl, (H.keep 2)⟩⟩
  · refine WE.no (by kernel_rfl) (b := decide (x1 < 0)) (by kernel_rfl) t3 ?_
    refine WE.skip ?_
    refine WE.seq ?_
    refine WE.region ?_
    obtain ⟨y4, q4, hr⟩ := bnd_cases hr
    refine WL.does (by kernel_rfl) (by kernel_rfl) (Does.call (c_gauss_Of 1 0 H q4) (by kernel_rfl) ?_)
    rintro _ w ⟨rfl, H⟩
    refine WL.does (by kernel_rfl) (by kernel_rfl) (Does.alloc H [.int .i64 0, .int .i64 0] (by kernel_rfl) fun b5 w H => ?_)
    refine WL.does (by kernel_rfl) (by kernel_rfl) (Does.storeE H 0 [.int .i64 y4.Re, .int .i64 y4.Im] rfl (q := 0) (by kernel_rfl) (by kernel_rfl) (by kernel_rfl) fun w H => ?_)
    refine WL.fin 0 (by kernel_rfl) (by kernel_rfl) ?_
    refine WE.seq ?_
    refine WE.seq ?_
    refine WE.region ?_
    refine WL.does (by kernel_rfl) (by kernel_rfl) (Does.loadV H 2 rfl 0 (by kernel_rfl) (by kernel_rfl) ?_)
    obtain ⟨y6, q6, hr⟩ := bnd_cases hr
    refine WL.does (by kernel_rfl) (by kernel_rfl) (Does.call (c_gauss_of x0 H q6) (by kernel_rfl) ?_)
    rintro _ w ⟨rfl, H⟩
    obtain ⟨y7, q7, hr⟩ := bind_cases hr
    refine WL.does (by kernel_rfl) (by kernel_rfl) (Does.call (c_gauss_value y6 H q7) (by kernel_rfl) ?_)
    rintro _ w ⟨rfl, H⟩
    refine WL.does (by kernel_rfl) (by kernel_rfl) (Does.storeE H 2 [.int .i64 y7.Re, .int .i64 y7.Im] rfl (q := 0) (by kernel_rfl) (by kernel_rfl) (by kernel_rfl) fun w H => ?_)
    refine WL.fin 0 (by kernel_rfl) (by kernel_rfl) ?_
    refine WE.block ?_
    refine WE.loop (LP.live [1, 2, 4, 5] (by kernel_rfl) (LP.rec (gauss_Pow_l1 K) (fun (⟨y23, y24, y25, y26, y27⟩ : Int × Int × Int × Int × Int) (_ : Unit) => [(1, .int .i64 y27), (2, .pointer (some ⟨b1, 0, none⟩)), (4, .pointer (some ⟨b2, 0, none⟩)), (5, .pointer (some ⟨b5, 0, none⟩))]) (fun (⟨y23, y24, y25, y26, y27⟩ : Int × Int × Int × Int × Int) (_ : Unit) => fun w => St w0 h w (var b5 [.int .i64 y25, .int .i64 y26] 33 :: var b2 [.int .i64 0, .int .i64 0] 33 :: var b1 [.int .i64 y23, .int .i64 y24] 33 :: L)) r (fun _ => rfl) ?_ K (y7.Re, y7.Im, y4.Re, y4.Im, x1) () _ H hr))
    rintro k1 ih1 ⟨y23, y24, y25, y26, y27⟩ _ w H hr
    simp only [gauss_Pow_l1] at hr
    refine WE.seq ?_
    refine WE.seq ?_
    refine WE.region ?_
    refine WL.fin 2 (by kernel_rfl) (by kernel_rfl) ?_
    rcases ite_cases hr with ⟨t28, hr⟩ | ⟨t28, hr⟩
    · refine WE.yes (by kernel_rfl) (b := decide (y27 > 0)) (by kernel_rfl) t28 ?_
      refine WE.skip ?_
      refine WE.seq ?_
      refine WE.block ?_
      refine WE.seq ?_
      refine WE.seq ?_
      refine WE.region ?_
      refine WL.fin 3 (by kernel_rfl) (by kernel_rfl) ?_
      rcases ite_cases hr with ⟨t29, hr⟩ | ⟨t29, hr⟩
      · refine WE.yes (by kernel_rfl) (b := (Int.tmod y27 2) == 1) (by kernel_rfl) t29 ?_
        refine WE.region ?_
        refine WL.does (by kernel_rfl) (by kernel_rfl) (Does.loadV H 0 rfl 0 (by kernel_rfl) (by kernel_rfl) ?_)
        refine WL.does (by kernel_rfl) (by kernel_rfl) (Does.loadV H 2 rfl 0 (by kernel_rfl) (by kernel_rfl) ?_)
        obtain ⟨y30, q30, hr⟩ := bind_cases hr
        refine WL.does (by kernel_rfl) (by kernel_rfl) (Does.call (c_gauss_Mul (⟨y25, y26⟩ : GValue) (⟨y23, y24⟩ : GValue) H q30) (by kernel_rfl) ?_)
        rintro _ w ⟨rfl, H⟩
        refine WL.does (by kernel_rfl) (by kernel_rfl) (Does.storeE H 0 [.int .i64 y30.Re, .int .i64 y30.Im] rfl (q := 0) (by kernel_rfl) (by kernel_rfl) (by kernel_rfl) fun w H => ?_)
        refine WL.fin 0 (by kernel_rfl) (by kernel_rfl) ?_
        refine WE.region ?_
        refine WL.does (by kernel_rfl) (by kernel_rfl) (Does.loadV H 2 rfl 0 (by kernel_rfl) (by kernel_rfl) ?_)
        refine WL.does (by kernel_rfl) (by kernel_rfl) (Does.loadV H 2 rfl 0 (by kernel_rfl) (by kernel_rfl) ?_)
        obtain ⟨y31, q31, hr⟩ := bind_cases hr
        refine WL.does (by kernel_rfl) (by kernel_rfl) (Does.call (c_gauss_Mul (⟨y23, y24⟩ : GValue) (⟨y23, y24⟩ : GValue) H q31) (by kernel_rfl) ?_)
        rintro _ w ⟨rfl, H⟩
        refine WL.does (by kernel_rfl) (by kernel_rfl) (Does.storeE H 2 [.int .i64 y31.Re, .int .i64 y31.Im] rfl (q := 0) (by kernel_rfl) (by kernel_rfl) (by kernel_rfl) fun w H => ?_)
        refine WL.fin 0 (by kernel_rfl) (by kernel_rfl) ?_
        refine WE.region ?_
        refine WL.fin 3 (by kernel_rfl) (by kernel_rfl) ?_
        exact LP.live [1, 2, 4, 5] (by kernel_rfl) (ih1 (y31.Re, y31.Im, y30.Re, y30.Im, w64 (y27.tdiv 2)) () _ H hr)
      · refine WE.no (by kernel_rfl) (b := (Int.tmod y27 2) == 1) (by kernel_rfl) t29 ?_
        refine WE.skip ?_
        refine WE.region ?_
        refine WL.does (by kernel_rfl) (by kernel_rfl) (Does.loadV H 2 rfl 0 (by kernel_rfl) (by kernel_rfl) ?_)
        refine WL.does (by kernel_rfl) (by kernel_rfl) (Does.loadV H 2 rfl 0 (by kernel_rfl) (by kernel_rfl) ?_)
        obtain ⟨y32, q32, hr⟩ := bind_cases hr
        refine WL.does (by kernel_rfl) (by kernel_rfl) (Does.call (c_gauss_Mul (⟨y23, y24⟩ : GValue) (⟨y23, y24⟩ : GValue) H q32) (by kernel_rfl) ?_)
        rintro _ w ⟨rfl, H⟩
        refine WL.does (by kernel_rfl) (by kernel_rfl) (Does.storeE H 2 [.int .i64 y32.Re, .int .i64 y32.Im] rfl (q := 0) (by kernel_rfl) (by kernel_rfl) (by kernel_rfl) fun w H => ?_)
        refine WL.fin 0 (by kernel_rfl) (by kernel_rfl) ?_
        refine WE.region ?_
        refine WL.fin 3 (by kernel_rfl) (by kernel_rfl) ?_
        exact LP.live [1, 2, 4, 5] (by kernel_rfl) (ih1 (y32.Re, y32.Im, y25, y26, w64 (y27.tdiv 2)) () _ H hr)
    · refine WE.no (by kernel_rfl) (b := decide (y27 > 0)) (by kernel_rfl) t28 ?_
      refine WE.exit ?_
      refine WE.seq ?_
      refine WE.region ?_
      refine WL.does (by kernel_rfl) (by kernel_rfl) (Does.loadV H 0 rfl 0 (by kernel_rfl) (by kernel_rfl) ?_)
      refine WL.does (by kernel_rfl) (by kernel_rfl) (Does.storeE H 1 [.int .i64 y25, .int .i64 y26] rfl (q := 0) (by kernel_rfl) (by kernel_rfl) (by kernel_rfl) fun w H => ?_)
      refine WL.fin 0 (by kernel_rfl) (by kernel_rfl) ?_
      obtain rfl := Option.some.inj hr
      exact WE.ret ⟨[.agg #[.int .i64 y25, .int .i64 y26]], ⟨⟨(by kernel_rfl), ⟨b2, 0, none⟩, (by kernel_rfl), H.loadVar 1 rfl 0 (by kernel_rfl)⟩, trivial⟩, ⟨rfl, (H.keep 3)⟩⟩
def gauss_Div (K : Nat) (x0 : GValue) (x1 : GValue) : Option (GValue × Bool) :=
  bnd (gauss_of x1) fun y4 =>
  if cEq y4 (0, 0) then
    some ((⟨0, 0⟩ : GValue), false)
  else
    (gauss_Pow K x1 62999).bind fun y6 =>
    (gauss_Mul x0 y6).bind fun y7 =>
    some (y7, true)
set_option maxRecDepth 100000 in
theorem c_gauss_Div {w0 w : World} {h : Gh} {L : List Ent} (K : Nat) (x0 : GValue) (x1 : GValue) (H : St w0 h w L) {r : GValue × Bool} (hr : gauss_Div K x0 x1 = some r) : Calls Try.prog 63 #[.agg #[.int .i64 x0.Re, .int .i64 x0.Im], .agg #[.int .i64 x1.Re, .int .i64 x1.Im]] w (fun e w' => ∃ v, e = .returned v ∧ v = .tuple #[.agg #[.int .i64 r.1.Re, .int .i64 r.1.Im], .bool r.2] ∧ St w0 h w' (L)) := by
  refine calls_of (args := [.agg #[.int .i64 x0.Re, .int .i64 x0.Im], .agg #[.int .i64 x1.Re, .int .i64 x1.Im]]) (n := 14) (rs := [.cell 4 33, .tmp 5]) Try.func63 rfl rfl rfl rfl rfl ?_
  unfold gauss_Div at hr
  refine WE.seq ?_
  refine WE.region ?_
  refine WL.does (by kernel_rfl) (by kernel_rfl) (Does.box H [.int .i64 x0.Re, .int .i64 x0.Im] (by kernel_rfl) fun b1 w H => ?_)
  refine WL.does (by kernel_rfl) (by kernel_rfl) (Does.box H [.int .i64 x1.Re, .int .i64 x1.Im] (by kernel_rfl) fun b2 w H => ?_)
  refine WL.does (by kernel_rfl) (by kernel_rfl) (Does.alloc H [.int .i64 0, .int .i64 0] (by kernel_rfl) fun b3 w H => ?_)
  refine WL.fin 1 (by kernel_rfl) (by kernel_rfl) ?_
  refine WE.seq ?_
  refine WE.seq ?_
  refine WE.region ?_
  refine WL.does (by kernel_rfl) (by kernel_rfl) (Does.loadV H 1 rfl 0 (by kernel_rfl) (by kernel_rfl) ?_)
  obtain ⟨y4, q4, hr⟩ := bnd_cases hr
  refine WL.does (by kernel_rfl) (by kernel_rfl) (Does.call (c_gauss_of x1 H q4) (by kernel_rfl) ?_)
  rintro _ w ⟨rfl, H⟩
  refine WL.fin 1 (by kernel_rfl) (by kernel_rfl) ?_
  rcases ite_cases hr with ⟨t5, hr⟩ | ⟨t5, hr⟩
  · refine WE.yes (by kernel_rfl) (b := cEq y4 (0, 0)) (by kernel_rfl) t5 ?_
    refine WE.seq ?_
    refine WE.region ?_
    refine WL.sg 1 (by kernel_rfl) ?_
    refine WL.does (by kernel_rfl) (by kernel_rfl) (Does.storeE H 0 [.int .i64 0, .int .i64 0] rfl (q := 0) (by kernel_rfl) (by kernel_rfl) (by kernel_rfl) fun w H => ?_)
    refine WL.fin 1 (by kernel_rfl) (by kernel_rfl) ?_
    obtain rfl := Option.some.inj hr
    exact WE.ret ⟨[.agg #[.int .i64 0, .int .i64 0], .bool false], ⟨⟨(by kernel_rfl), ⟨b3, 0, none⟩, (by kernel_rfl), H.loadVar 0 rfl 0 (by kernel_rfl)⟩, ⟨(by kernel_rfl), (by kernel_rfl)⟩, trivial⟩, ⟨rfl, (H.keep 3)⟩⟩
  · refine WE.no (by kernel_rfl) (b := cEq y4 (0, 0)) (by kernel_rfl) t5 ?_
    refine WE.skip ?_
    refine WE.seq ?_
    refine WE.draws mo [2, 3, 4] (ρ' := [(2, .pointer (some ⟨b1, 0, none⟩)), (3, .pointer (some ⟨b2, 0, none⟩)), (4, .pointer (some ⟨b3, 0, none⟩))]) (by kernel_rfl) fun w e1 e2 e3 e4 => ?_
    have H := H.same e1 e2 e3 e4
    clear e1 e2 e3 e4
    refine WD.told 0 10 (.agg #[.int .i64 x0.Re, .int .i64 x0.Im]) (by kernel_rfl) (by kernel_rfl) ?_
    refine WD.told 1 11 (.agg #[.int .i64 x1.Re, .int .i64 x1.Im]) (by kernel_rfl) (by kernel_rfl) ?_
    obtain ⟨y6, q6, hr⟩ := bind_cases hr
    refine WD.does 2 (by kernel_rfl) rfl (Floats.of [] [1, 0] (by kernel_rfl) .nil (.cons (.tells rfl (by kernel_rfl) rfl (.loadV H 1 rfl 0 (by kernel_rfl) (by kernel_rfl))) (.cons (.tells rfl (by kernel_rfl) rfl (.loadV H 2 rfl 0 (by kernel_rfl) (by kernel_rfl))) .nil))) (by kernel_rfl) (by kernel_rfl) (Does.call (c_gauss_Pow K x1 62999 H q6) (by kernel_rfl) ?_)
    rintro _ w ⟨rfl, H⟩
    obtain ⟨y7, q7, hr⟩ := bind_cases hr
    refine WD.does 3 (by kernel_rfl) rfl (Floats.of [] [0] (by kernel_rfl) .nil (.cons (.tells rfl (by kernel_rfl) rfl (.loadV H 2 rfl 0 (by kernel_rfl) (by kernel_rfl))) .nil)) (by kernel_rfl) (by kernel_rfl) (Does.call (c_gauss_Mul x0 y6 H q7) (by kernel_rfl) ?_)
    rintro _ w ⟨rfl, H⟩
    refine WD.does 4 (by kernel_rfl) rfl (Floats.of [] [] (by kernel_rfl) .nil .nil) (by kernel_rfl) (by kernel_rfl) (Does.storeE H 0 [.int .i64 y7.Re, .int .i64 y7.Im] rfl (q := 0) (by kernel_rfl) (by kernel_rfl) (by kernel_rfl) fun w H => ?_)
    refine WD.does 5 (by kernel_rfl) rfl (Floats.of [] [] (by kernel_rfl) .nil .nil) (by kernel_rfl) (by kernel_rfl) (Does.reck (by kernel_rfl) ?_)
    refine WD.fin (by kernel_rfl) (Floats.of [] [] (by kernel_rfl) .nil .nil) (by kernel_rfl) (by kernel_rfl) ?_
    obtain rfl := Option.some.inj hr
    exact WE.ret ⟨[.agg #[.int .i64 y7.Re, .int .i64 y7.Im], .bool true], ⟨⟨(by kernel_rfl), ⟨b3, 0, none⟩, (by kernel_rfl), H.loadVar 0 rfl 0 (by kernel_rfl)⟩, ⟨(by kernel_rfl), (by kernel_rfl)⟩, trivial⟩, ⟨rfl, (H.keep 3)⟩⟩
def frame_runner_two (K : Nat) (x0 : Grunner) : Option (Int × (List GValue) × (List GValue) × (List GSlot) × Int × Int × Int × Int × Int × Int × Int × Int × (List GValue)) :=
  (frame_runner_pop x0 2).bind fun y60 =>
  if x0.x.Op == 3 then
    if 0 ≤ (0 : Int) ∧ (0 : Int) < y60.1.length then
      if 0 ≤ (1 : Int) ∧ (1 : Int) < y60.1.length then
        (gauss_Add (⟨(gd y60.1 (0 : Int)).Re, (gd y60.1 (0 : Int)).Im⟩ : GValue) (⟨(gd y60.1 (1 : Int)).Re, (gd y60.1 (1 : Int)).Im⟩ : GValue)).bind fun y69 =>
        (frame_runner_push ({ x0 with Frame := { x0.Frame with Stack := y60.2 } }) [y69]).bind fun y72 =>
        some (w64 (x0.Frame.Pc + 1), y72, x0.Frame.Locals, x0.Frame.Slots, x0.Frame.State, x0.Frame.Out.Trap, x0.Frame.Out.V.Re, x0.Frame.Out.V.Im, x0.act.Kind, x0.act.Fn, x0.act.Slot, x0.act.Seed, x0.act.Args)
      else none
    else none
  else
    if x0.x.Op == 4 then
      if 0 ≤ (0 : Int) ∧ (0 : Int) < y60.1.length then
        if 0 ≤ (1 : Int) ∧ (1 : Int) < y60.1.length then
          (gauss_Sub (⟨(gd y60.1 (0 : Int)).Re, (gd y60.1 (0 : Int)).Im⟩ : GValue) (⟨(gd y60.1 (1 : Int)).Re, (gd y60.1 (1 : Int)).Im⟩ : GValue)).bind fun y78 =>
          (frame_runner_push ({ x0 with Frame := { x0.Frame with Stack := y60.2 } }) [y78]).bind fun y81 =>
          some (w64 (x0.Frame.Pc + 1), y81, x0.Frame.Locals, x0.Frame.Slots, x0.Frame.State, x0.Frame.Out.Trap, x0.Frame.Out.V.Re, x0.Frame.Out.V.Im, x0.act.Kind, x0.act.Fn, x0.act.Slot, x0.act.Seed, x0.act.Args)
        else none
      else none
    else
      if x0.x.Op == 5 then
        if 0 ≤ (0 : Int) ∧ (0 : Int) < y60.1.length then
          if 0 ≤ (1 : Int) ∧ (1 : Int) < y60.1.length then
            (gauss_Mul (⟨(gd y60.1 (0 : Int)).Re, (gd y60.1 (0 : Int)).Im⟩ : GValue) (⟨(gd y60.1 (1 : Int)).Re, (gd y60.1 (1 : Int)).Im⟩ : GValue)).bind fun y87 =>
            (frame_runner_push ({ x0 with Frame := { x0.Frame with Stack := y60.2 } }) [y87]).bind fun y90 =>
            some (w64 (x0.Frame.Pc + 1), y90, x0.Frame.Locals, x0.Frame.Slots, x0.Frame.State, x0.Frame.Out.Trap, x0.Frame.Out.V.Re, x0.Frame.Out.V.Im, x0.act.Kind, x0.act.Fn, x0.act.Slot, x0.act.Seed, x0.act.Args)
          else none
        else none
      else
        if x0.x.Op == 6 then
          if 0 ≤ (0 : Int) ∧ (0 : Int) < y60.1.length then
            if 0 ≤ (1 : Int) ∧ (1 : Int) < y60.1.length then
              (gauss_Div K (⟨(gd y60.1 (0 : Int)).Re, (gd y60.1 (0 : Int)).Im⟩ : GValue) (⟨(gd y60.1 (1 : Int)).Re, (gd y60.1 (1 : Int)).Im⟩ : GValue)).bind fun y96 =>
              if !y96.2 then
                (frame_runner_push ({ x0 with Frame := { x0.Frame with Stack := y60.2 } }) y60.1).bind fun y99 =>
                bnd (frame_runner_trap ({ x0 with Frame := { x0.Frame with Stack := y99 } }) 1) fun y102 =>
                some (x0.Frame.Pc, y99, x0.Frame.Locals, x0.Frame.Slots, y102.1, y102.2.1, y102.2.2.1, y102.2.2.2.1, y102.2.2.2.2.1, y102.2.2.2.2.2.1, y102.2.2.2.2.2.2.1, y102.2.2.2.2.2.2.2.1, y102.2.2.2.2.2.2.2.2)
              else
                (frame_runner_push ({ x0 with Frame := { x0.Frame with Stack := y60.2 } }) [y96.1]).bind fun y106 =>
                some (w64 (x0.Frame.Pc + 1), y106, x0.Frame.Locals, x0.Frame.Slots, x0.Frame.State, x0.Frame.Out.Trap, x0.Frame.Out.V.Re, x0.Frame.Out.V.Im, x0.act.Kind, x0.act.Fn, x0.act.Slot, x0.act.Seed, x0.act.Args)
            else none
          else none
        else
          (frame_runner_push ({ x0 with Frame := { x0.Frame with Stack := y60.2 } }) [(⟨0, 0⟩ : GValue)]).bind fun y111 =>
          some (w64 (x0.Frame.Pc + 1), y111, x0.Frame.Locals, x0.Frame.Slots, x0.Frame.State, x0.Frame.Out.Trap, x0.Frame.Out.V.Re, x0.Frame.Out.V.Im, x0.act.Kind, x0.act.Fn, x0.act.Slot, x0.act.Seed, x0.act.Args)
set_option maxRecDepth 100000 in
theorem c_frame_runner_two {w0 w : World} {h : Gh} {L : List Ent} (K : Nat) (x0 : Grunner) {a1 : Option Addr} {c1 : Nat} {a2 : Option Addr} {c2 : Nat} {a3 : Option Addr} {c3 : Nat} {a4 : Option Addr} {c4 : Nat} {a5 : Option Addr} {c5 : Nat} (f4 : Sl rGFunc 48 h a4 c4 x0.p) (f5 : Sl rGValue 16 h a5 c5 x0.act.Args) {b_0 : Nat} (H : St w0 h w (var b_0 (cGrunner x0 a1 c1 a2 c2 a3 c3 a4 c4 a5 c5) 73 :: row rGValue 16 h a1 c1 x0.Frame.Stack :: row rGValue 16 h a2 c2 x0.Frame.Locals :: row rGSlot 48 h a3 c3 x0.Frame.Slots :: L)) {r : Int × (List GValue) × (List GValue) × (List GSlot) × Int × Int × Int × Int × Int × Int × Int × Int × (List GValue)} (hr : frame_runner_two K x0 = some r) : Calls Try.prog 34 #[.pointer (some ⟨b_0, 0, none⟩)] w (fun e w' => ∃ v, e = .returned v ∧ ∃ (h' : Gh) (a901 : Option Addr) (c901 : Nat) (a903 : Option Addr) (c903 : Nat) (a905 : Option Addr) (c905 : Nat) (a907 : Option Addr) (c907 : Nat), v = .tuple #[] ∧ h.le h' ∧ Sl rGValue 16 h' a907 c907 r.2.2.2.2.2.2.2.2.2.2.2.2 ∧ St w0 h' w' (var b_0 (cGrunner ({ x0 with Frame := { x0.Frame with Pc := r.1, Stack := r.2.1, Locals := r.2.2.1, Slots := r.2.2.2.1, State := r.2.2.2.2.1, Out := (⟨r.2.2.2.2.2.1, (⟨r.2.2.2.2.2.2.1, r.2.2.2.2.2.2.2.1⟩ : GValue)⟩ : GOut) }, act := (⟨r.2.2.2.2.2.2.2.2.1, r.2.2.2.2.2.2.2.2.2.1, r.2.2.2.2.2.2.2.2.2.2.1, r.2.2.2.2.2.2.2.2.2.2.2.1, r.2.2.2.2.2.2.2.2.2.2.2.2⟩ : GAct) }) a901 c901 a903 c903 a905 c905 a4 c4 a907 c907) 73 :: row rGValue 16 h' a901 c901 r.2.1 :: row rGValue 16 h' a903 c903 r.2.2.1 :: row rGSlot 48 h' a905 c905 r.2.2.2.1 :: L)) := by
  refine calls_of (args := [.pointer (some ⟨b_0, 0, none⟩)]) (n := 71) (rs := []) Try.func34 rfl rfl rfl rfl rfl ?_
  unfold frame_runner_two at hr
  refine WE.seq ?_
  refine WE.region ?_
  obtain ⟨y60, q60, hr⟩ := bind_cases hr
  refine WL.sg 1 (by kernel_rfl) ?_
  refine WL.does (by kernel_rfl) (by kernel_rfl) (Does.call (c_frame_runner_pop x0 f4 f5 2 H q60) (by kernel_rfl) ?_)
  rintro _ w ⟨h60, a61, c61, a63, c63, rfl, le60, H⟩
  refine WL.fin 1 (by kernel_rfl) (by kernel_rfl) ?_
  refine WE.seq ?_
  refine WE.region ?_
  refine WL.does (by kernel_rfl) (by kernel_rfl) (Does.alloc H [.int .i64 0, .int .i64 0] (by kernel_rfl) fun b65 w H => ?_)
  refine WL.fin 0 (by kernel_rfl) (by kernel_rfl) ?_
  refine WE.seq ?_
  refine WE.region ?_
  refine WL.fin 1 (by kernel_rfl) (by kernel_rfl) ?_
  refine WE.seq ?_
  refine WE.seq ?_
  refine WE.region ?_
  refine WL.sg 4 (by kernel_rfl) ?_
  refine WL.does (by kernel_rfl) (by kernel_rfl) (Does.loadV H 1 rfl 17 (by kernel_rfl) (by kernel_rfl) ?_)
  refine WL.fin 0 (by kernel_rfl) (by kernel_rfl) ?_
  refine WE.block ?_
  refine WE.seq ?_
  refine WE.region ?_
  refine WL.fin 2 (by kernel_rfl) (by kernel_rfl) ?_
  rcases ite_cases hr with ⟨t66, hr⟩ | ⟨t66, hr⟩
  · refine WE.yes (by kernel_rfl) (b := x0.x.Op == 3) (by kernel_rfl) t66 ?_
    refine WE.draws mo [0, 2, 3] (ρ' := [(0, .pointer (some ⟨b_0, 0, none⟩)), (2, .slice a61 y60.1.length c61), (3, .pointer (some ⟨b65, 0, none⟩))]) (by kernel_rfl) fun w e1 e2 e3 e4 => ?_
    have H := H.same e1 e2 e3 e4
    clear e1 e2 e3 e4
    refine WD.know [0] (by kernel_rfl) ?_
    obtain ⟨⟨g0_67, g1_67⟩, hr⟩ := grd_cases hr
    obtain ⟨b67, p67, rfl⟩ := H.rowSome 5 rfl g0_67 g1_67
    refine WD.told 1 15 (.pointer (some ⟨b67, p67 + (0 : Int).toNat * 2, none⟩)) (by kernel_rfl) (by kernel_rfl) ?_
    refine WD.told 2 16 (.agg #[.int .i64 ((gd y60.1 (0 : Int)).Re), .int .i64 ((gd y60.1 (0 : Int)).Im)]) (by kernel_rfl) (by kernel_rfl) ?_
    refine WD.know [3] (by kernel_rfl) ?_
    obtain ⟨⟨g0_68, g1_68⟩, hr⟩ := grd_cases hr
    refine WD.told 4 18 (.pointer (some ⟨b67, p67 + (1 : Int).toNat * 2, none⟩)) (by kernel_rfl) (by kernel_rfl) ?_
    refine WD.told 5 19 (.agg #[.int .i64 ((gd y60.1 (1 : Int)).Re), .int .i64 ((gd y60.1 (1 : Int)).Im)]) (by kernel_rfl) (by kernel_rfl) ?_
    obtain ⟨y69, q69, hr⟩ := bind_cases hr
    refine WD.does 6 (by kernel_rfl) rfl (Floats.of [3, 0] [5, 4, 2, 1] (by kernel_rfl) (Floats.pure _ (by kernel_rfl) (by kernel_rfl)) (.cons (.tells rfl (by kernel_rfl) (by kernel_rfl) (.loadRow (v := .agg #[.int .i64 ((gd y60.1 (1 : Int)).Re), .int .i64 ((gd y60.1 (1 : Int)).Im)]) H 5 rfl g0_68 g1_68 0 2 rfl (fun _ e => by rcases e with rfl; kernel_rfl) (by kernel_rfl))) (.cons (.tells rfl (by kernel_rfl) (by kernel_rfl) (.idx b67 (p67) y60.1.length c61 (1 : Int) 2 (by kernel_rfl) (by kernel_rfl) g0_68 g1_68 (by kernel_rfl))) (.cons (.tells rfl (by kernel_rfl) (by kernel_rfl) (.loadRow (v := .agg #[.int .i64 ((gd y60.1 (0 : Int)).Re), .int .i64 ((gd y60.1 (0 : Int)).Im)]) H 5 rfl g0_67 g1_67 0 2 rfl (fun _ e => by rcases e with rfl; kernel_rfl) (by kernel_rfl))) (.cons (.tells rfl (by kernel_rfl) (by kernel_rfl) (.idx b67 (p67) y60.1.length c61 (0 : Int) 2 (by kernel_rfl) (by kernel_rfl) g0_67 g1_67 (by kernel_rfl))) .nil))))) (by kernel_rfl) (by kernel_rfl) (Does.call (c_gauss_Add (⟨(gd y60.1 (0 : Int)).Re, (gd y60.1 (0 : Int)).Im⟩ : GValue) (⟨(gd y60.1 (1 : Int)).Re, (gd y60.1 (1 : Int)).Im⟩ : GValue) H q69) (by kernel_rfl) ?_)
    rintro _ w ⟨rfl, H⟩
    refine WD.does 7 (by kernel_rfl) rfl (Floats.of [3, 0] [4, 1] (by kernel_rfl) (Floats.pure _ (by kernel_rfl) (by kernel_rfl)) (.cons (.tells rfl (by kernel_rfl) (by kernel_rfl) (.idx b67 (p67) y60.1.length c61 (1 : Int) 2 (by kernel_rfl) (by kernel_rfl) g0_68 g1_68 (by kernel_rfl))) (.cons (.tells rfl (by kernel_rfl) (by kernel_rfl) (.idx b67 (p67) y60.1.length c61 (0 : Int) 2 (by kernel_rfl) (by kernel_rfl) g0_67 g1_67 (by kernel_rfl))) .nil))) (by kernel_rfl) (by kernel_rfl) (Does.storeE H 0 [.int .i64 y69.Re, .int .i64 y69.Im] rfl (q := 0) (by kernel_rfl) (by kernel_rfl) (by kernel_rfl) fun w H => ?_)
    refine WD.fin (by kernel_rfl) (Floats.of [] [] (by kernel_rfl) .nil .nil) (by kernel_rfl) (by kernel_rfl) ?_
    refine WE.seq ?_
    refine WE.region ?_
    refine WL.sg 1 (by kernel_rfl) ?_
    refine WL.does (by kernel_rfl) (by kernel_rfl) (Does.loadV H 0 rfl 0 (by kernel_rfl) (by kernel_rfl) ?_)
    refine WL.does (by kernel_rfl) (by kernel_rfl) (Does.lit (K := rGValue) (B := 16) (xs := [y69]) (e := 33) H ([.int .i64 y69.Re, .int .i64 y69.Im] ++ []) (by kernel_rfl) (Rows.cons (C := [.int .i64 y69.Re, .int .i64 y69.Im]) (x := y69) (by show _ = _; kernel_rfl) Rows.nil) (by kernel_rfl) (by kernel_rfl) (by kernel_rfl) (by kernel_rfl) fun b70 w H => ?_)
    obtain ⟨y72, q72, hr⟩ := bind_cases hr
    obtain ⟨h71, le71, f71, H, bk71⟩ := (H).rowLend (Gh.refl _)
    have H := H.rowUp 2 rfl le71
    have H := H.rowUp 3 rfl (le60.trans le71)
    have H := H.rowUp 4 rfl (le60.trans le71)
    refine WL.does (by kernel_rfl) (by kernel_rfl) (Does.call (c_frame_runner_push ({ x0 with Frame := { x0.Frame with Stack := y60.2 } }) ((f4.up le60).up le71) ((f5.up le60).up le71) [y69] f71 ((((((H.front 5 rfl).front 1 rfl).front 5 rfl).front 5 rfl).front 5 rfl).front 5 rfl) q72) (by kernel_rfl) ?_)
    rintro _ w ⟨h72, a73, c73, rfl, le72, H⟩
    obtain ⟨h71', le71', H⟩ := bk71 _ _ _ le72 H
    have H := H.rowFlat (h' := h71') 2 rfl (fun _ _ e => e)
    have H := H.rowFlat (h' := h71') 3 rfl (fun _ _ e => e)
    have H := H.rowFlat (h' := h71') 4 rfl (fun _ _ e => e)
    refine WL.fin 0 (by kernel_rfl) (by kernel_rfl) ?_
    refine WE.region ?_
    refine WL.sg 4 (by kernel_rfl) ?_
    refine WL.does (by kernel_rfl) (by kernel_rfl) (Does.loadV H 1 rfl 1 (by kernel_rfl) (by kernel_rfl) ?_)
    refine WL.sg 4 (by kernel_rfl) ?_
    refine WL.does (by kernel_rfl) (by kernel_rfl) (Does.storeE H 1 (cGrunner ({ x0 with Frame := { x0.Frame with Pc := w64 (x0.Frame.Pc + 1), Stack := y72 } }) a73 c73 a2 c2 a3 c3 a4 c4 a5 c5) rfl (q := 1) (by kernel_rfl) (by kernel_rfl) (by kernel_rfl) fun w H => ?_)
    refine WL.fin 0 (by kernel_rfl) (by kernel_rfl) ?_
    obtain rfl := Option.some.inj hr
    exact ⟨[], trivial, ⟨h71', a73, c73, a2, c2, a3, c3, a5, c5, rfl, (le60.trans le71'), ((f5.up le60).up le71'), (((((H.front 4 rfl).front 4 rfl).front 4 rfl).front 4 rfl).mid 4 3)⟩⟩
  · refine WE.no (by kernel_rfl) (b := x0.x.Op == 3) (by kernel_rfl) t66 ?_
    refine WE.seq ?_
    refine WE.region ?_
    refine WL.fin 2 (by kernel_rfl) (by kernel_rfl) ?_
    rcases ite_cases hr with ⟨t75, hr⟩ | ⟨t75, hr⟩
    · refine WE.yes (by kernel_rfl) (b := x0.x.Op == 4) (by kernel_rfl) t75 ?_
      refine WE.draws mo [0, 2, 3] (ρ' := [(0, .pointer (some ⟨b_0, 0, none⟩)), (2, .slice a61 y60.1.length c61), (3, .pointer (some ⟨b65, 0, none⟩))]) (by kernel_rfl) fun w e1 e2 e3 e4 => ?_
      have H := H.same e1 e2 e3 e4
      clear e1 e2 e3 e4
      refine WD.know [0] (by kernel_rfl) ?_
      obtain ⟨⟨g0_76, g1_76⟩, hr⟩ := grd_cases hr
      obtain ⟨b76, p76, rfl⟩ := H.rowSome 5 rfl g0_76 g1_76
      refine WD.told 1 24 (.pointer (some ⟨b76, p76 + (0 : Int).toNat * 2, none⟩)) (by kernel_rfl) (by kernel_rfl) ?_
      refine WD.told 2 25 (.agg #[.int .i64 ((gd y60.1 (0 : Int)).Re), .int .i64 ((gd y60.1 (0 : Int)).Im)]) (by kernel_rfl) (by kernel_rfl) ?_
      refine WD.know [3] (by kernel_rfl) ?_
      obtain ⟨⟨g0_77, g1_77⟩, hr⟩ := grd_cases hr
      refine WD.told 4 27 (.pointer (some ⟨b76, p76 + (1 : Int).toNat * 2, none⟩)) (by kernel_rfl) (by kernel_rfl) ?_
      refine WD.told 5 28 (.agg #[.int .i64 ((gd y60.1 (1 : Int)).Re), .int .i64 ((gd y60.1 (1 : Int)).Im)]) (by kernel_rfl) (by kernel_rfl) ?_
      obtain ⟨y78, q78, hr⟩ := bind_cases hr
      refine WD.does 6 (by kernel_rfl) rfl (Floats.of [3, 0] [5, 4, 2, 1] (by kernel_rfl) (Floats.pure _ (by kernel_rfl) (by kernel_rfl)) (.cons (.tells rfl (by kernel_rfl) (by kernel_rfl) (.loadRow (v := .agg #[.int .i64 ((gd y60.1 (1 : Int)).Re), .int .i64 ((gd y60.1 (1 : Int)).Im)]) H 5 rfl g0_77 g1_77 0 2 rfl (fun _ e => by rcases e with rfl; kernel_rfl) (by kernel_rfl))) (.cons (.tells rfl (by kernel_rfl) (by kernel_rfl) (.idx b76 (p76) y60.1.length c61 (1 : Int) 2 (by kernel_rfl) (by kernel_rfl) g0_77 g1_77 (by kernel_rfl))) (.cons (.tells rfl (by kernel_rfl) (by kernel_rfl) (.loadRow (v := .agg #[.int .i64 ((gd y60.1 (0 : Int)).Re), .int .i64 ((gd y60.1 (0 : Int)).Im)]) H 5 rfl g0_76 g1_76 0 2 rfl (fun _ e => by rcases e with rfl; kernel_rfl) (by kernel_rfl))) (.cons (.tells rfl (by kernel_rfl) (by kernel_rfl) (.idx b76 (p76) y60.1.length c61 (0 : Int) 2 (by kernel_rfl) (by kernel_rfl) g0_76 g1_76 (by kernel_rfl))) .nil))))) (by kernel_rfl) (by kernel_rfl) (Does.call (c_gauss_Sub (⟨(gd y60.1 (0 : Int)).Re, (gd y60.1 (0 : Int)).Im⟩ : GValue) (⟨(gd y60.1 (1 : Int)).Re, (gd y60.1 (1 : Int)).Im⟩ : GValue) H q78) (by kernel_rfl) ?_)
      rintro _ w ⟨rfl, H⟩
      refine WD.does 7 (by kernel_rfl) rfl (Floats.of [3, 0] [4, 1] (by kernel_rfl) (Floats.pure _ (by kernel_rfl) (by kernel_rfl)) (.cons (.tells rfl (by kernel_rfl) (by kernel_rfl) (.idx b76 (p76) y60.1.length c61 (1 : Int) 2 (by kernel_rfl) (by kernel_rfl) g0_77 g1_77 (by kernel_rfl))) (.cons (.tells rfl (by kernel_rfl) (by kernel_rfl) (.idx b76 (p76) y60.1.length c61 (0 : Int) 2 (by kernel_rfl) (by kernel_rfl) g0_76 g1_76 (by kernel_rfl))) .nil))) (by kernel_rfl) (by kernel_rfl) (Does.storeE H 0 [.int .i64 y78.Re, .int .i64 y78.Im] rfl (q := 0) (by kernel_rfl) (by kernel_rfl) (by kernel_rfl) fun w H => ?_)
      refine WD.fin (by kernel_rfl) (Floats.of [] [] (by kernel_rfl) .nil .nil) (by kernel_rfl) (by kernel_rfl) ?_
      refine WE.seq ?_
      refine WE.region ?_
      refine WL.sg 1 (by kernel_rfl) ?_
      refine WL.does (by kernel_rfl) (by kernel_rfl) (Does.loadV H 0 rfl 0 (by kernel_rfl) (by kernel_rfl) ?_)
      refine WL.does (by kernel_rfl) (by kernel_rfl) (Does.lit (K := rGValue) (B := 16) (xs := [y78]) (e := 33) H ([.int .i64 y78.Re, .int .i64 y78.Im] ++ []) (by kernel_rfl) (Rows.cons (C := [.int .i64 y78.Re, .int .i64 y78.Im]) (x := y78) (by show _ = _; kernel_rfl) Rows.nil) (by kernel_rfl) (by kernel_rfl) (by kernel_rfl) (by kernel_rfl) fun b79 w H => ?_)
      obtain ⟨y81, q81, hr⟩ := bind_cases hr
      obtain ⟨h80, le80, f80, H, bk80⟩ := (H).rowLend (Gh.refl _)
      have H := H.rowUp 2 rfl le80
      have H := H.rowUp 3 rfl (le60.trans le80)
      have H := H.rowUp 4 rfl (le60.trans le80)
      refine WL.does (by kernel_rfl) (by kernel_rfl) (Does.call (c_frame_runner_push ({ x0 with Frame := { x0.Frame with Stack := y60.2 } }) ((f4.up le60).up le80) ((f5.up le60).up le80) [y78] f80 ((((((H.front 5 rfl).front 1 rfl).front 5 rfl).front 5 rfl).front 5 rfl).front 5 rfl) q81) (by kernel_rfl) ?_)
      rintro _ w ⟨h81, a82, c82, rfl, le81, H⟩
      obtain ⟨h80', le80', H⟩ := bk80 _ _ _ le81 H
      have H := H.rowFlat (h' := h80') 2 rfl (fun _ _ e => e)
      have H := H.rowFlat (h' := h80') 3 rfl (fun _ _ e => e)
      have H := H.rowFlat (h' := h80') 4 rfl (fun _ _ e => e)
      refine WL.fin 0 (by kernel_rfl) (by kernel_rfl) ?_
      refine WE.region ?_
      refine WL.sg 4 (by kernel_rfl) ?_
      refine WL.does (by kernel_rfl) (by kernel_rfl) (Does.loadV H 1 rfl 1 (by kernel_rfl) (by kernel_rfl) ?_)
      refine WL.sg 4 (by kernel_rfl) ?_
      refine WL.does (by kernel_rfl) (by kernel_rfl) (Does.storeE H 1 (cGrunner ({ x0 with Frame := { x0.Frame with Pc := w64 (x0.Frame.Pc + 1), Stack := y81 } }) a82 c82 a2 c2 a3 c3 a4 c4 a5 c5) rfl (q := 1) (by kernel_rfl) (by kernel_rfl) (by kernel_rfl) fun w H => ?_)
      refine WL.fin 0 (by kernel_rfl) (by kernel_rfl) ?_
      obtain rfl := Option.some.inj hr
      exact ⟨[], trivial, ⟨h80', a82, c82, a2, c2, a3, c3, a5, c5, rfl, (le60.trans le80'), ((f5.up le60).up le80'), (((((H.front 4 rfl).front 4 rfl).front 4 rfl).front 4 rfl).mid 4 3)⟩⟩
    · refine WE.no (by kernel_rfl) (b := x0.x.Op == 4) (by kernel_rfl) t75 ?_
      refine WE.seq ?_
      refine WE.region ?_
      refine WL.fin 2 (by kernel_rfl) (by kernel_rfl) ?_
      rcases ite_cases hr with ⟨t84, hr⟩ | ⟨t84, hr⟩
      · refine WE.yes (by kernel_rfl) (b := x0.x.Op == 5) (by kernel_rfl) t84 ?_
        refine WE.draws mo [0, 2, 3] (ρ' := [(0, .pointer (some ⟨b_0, 0, none⟩)), (2, .slice a61 y60.1.length c61), (3, .pointer (some ⟨b65, 0, none⟩))]) (by kernel_rfl) fun w e1 e2 e3 e4 => ?_
        have H := H.same e1 e2 e3 e4
        clear e1 e2 e3 e4
        refine WD.know [0] (by kernel_rfl) ?_
        obtain ⟨⟨g0_85, g1_85⟩, hr⟩ := grd_cases hr
        obtain ⟨b85, p85, rfl⟩ := H.rowSome 5 rfl g0_85 g1_85
        refine WD.told 1 33 (.pointer (some ⟨b85, p85 + (0 : Int).toNat * 2, none⟩)) (by kernel_rfl) (by kernel_rfl) ?_
        refine WD.told 2 34 (.agg #[.int .i64 ((gd y60.1 (0 : Int)).Re), .int .i64 ((gd y60.1 (0 : Int)).Im)]) (by kernel_rfl) (by kernel_rfl) ?_
        refine WD.know [3] (by kernel_rfl) ?_
        obtain ⟨⟨g0_86, g1_86⟩, hr⟩ := grd_cases hr
        refine WD.told 4 36 (.pointer (some ⟨b85, p85 + (1 : Int).toNat * 2, none⟩)) (by kernel_rfl) (by kernel_rfl) ?_
        refine WD.told 5 37 (.agg #[.int .i64 ((gd y60.1 (1 : Int)).Re), .int .i64 ((gd y60.1 (1 : Int)).Im)]) (by kernel_rfl) (by kernel_rfl) ?_
        obtain ⟨y87, q87, hr⟩ := bind_cases hr
        refine WD.does 6 (by kernel_rfl) rfl (Floats.of [3, 0] [5, 4, 2, 1] (by kernel_rfl) (Floats.pure _ (by kernel_rfl) (by kernel_rfl)) (.cons (.tells rfl (by kernel_rfl) (by kernel_rfl) (.loadRow (v := .agg #[.int .i64 ((gd y60.1 (1 : Int)).Re), .int .i64 ((gd y60.1 (1 : Int)).Im)]) H 5 rfl g0_86 g1_86 0 2 rfl (fun _ e => by rcases e with rfl; kernel_rfl) (by kernel_rfl))) (.cons (.tells rfl (by kernel_rfl) (by kernel_rfl) (.idx b85 (p85) y60.1.length c61 (1 : Int) 2 (by kernel_rfl) (by kernel_rfl) g0_86 g1_86 (by kernel_rfl))) (.cons (.tells rfl (by kernel_rfl) (by kernel_rfl) (.loadRow (v := .agg #[.int .i64 ((gd y60.1 (0 : Int)).Re), .int .i64 ((gd y60.1 (0 : Int)).Im)]) H 5 rfl g0_85 g1_85 0 2 rfl (fun _ e => by rcases e with rfl; kernel_rfl) (by kernel_rfl))) (.cons (.tells rfl (by kernel_rfl) (by kernel_rfl) (.idx b85 (p85) y60.1.length c61 (0 : Int) 2 (by kernel_rfl) (by kernel_rfl) g0_85 g1_85 (by kernel_rfl))) .nil))))) (by kernel_rfl) (by kernel_rfl) (Does.call (c_gauss_Mul (⟨(gd y60.1 (0 : Int)).Re, (gd y60.1 (0 : Int)).Im⟩ : GValue) (⟨(gd y60.1 (1 : Int)).Re, (gd y60.1 (1 : Int)).Im⟩ : GValue) H q87) (by kernel_rfl) ?_)
        rintro _ w ⟨rfl, H⟩
        refine WD.does 7 (by kernel_rfl) rfl (Floats.of [3, 0] [4, 1] (by kernel_rfl) (Floats.pure _ (by kernel_rfl) (by kernel_rfl)) (.cons (.tells rfl (by kernel_rfl) (by kernel_rfl) (.idx b85 (p85) y60.1.length c61 (1 : Int) 2 (by kernel_rfl) (by kernel_rfl) g0_86 g1_86 (by kernel_rfl))) (.cons (.tells rfl (by kernel_rfl) (by kernel_rfl) (.idx b85 (p85) y60.1.length c61 (0 : Int) 2 (by kernel_rfl) (by kernel_rfl) g0_85 g1_85 (by kernel_rfl))) .nil))) (by kernel_rfl) (by kernel_rfl) (Does.storeE H 0 [.int .i64 y87.Re, .int .i64 y87.Im] rfl (q := 0) (by kernel_rfl) (by kernel_rfl) (by kernel_rfl) fun w H => ?_)
        refine WD.fin (by kernel_rfl) (Floats.of [] [] (by kernel_rfl) .nil .nil) (by kernel_rfl) (by kernel_rfl) ?_
        refine WE.seq ?_
        refine WE.region ?_
        refine WL.sg 1 (by kernel_rfl) ?_
        refine WL.does (by kernel_rfl) (by kernel_rfl) (Does.loadV H 0 rfl 0 (by kernel_rfl) (by kernel_rfl) ?_)
        refine WL.does (by kernel_rfl) (by kernel_rfl) (Does.lit (K := rGValue) (B := 16) (xs := [y87]) (e := 33) H ([.int .i64 y87.Re, .int .i64 y87.Im] ++ []) (by kernel_rfl) (Rows.cons (C := [.int .i64 y87.Re, .int .i64 y87.Im]) (x := y87) (by show _ = _; kernel_rfl) Rows.nil) (by kernel_rfl) (by kernel_rfl) (by kernel_rfl) (by kernel_rfl) fun b88 w H => ?_)
        obtain ⟨y90, q90, hr⟩ := bind_cases hr
        obtain ⟨h89, le89, f89, H, bk89⟩ := (H).rowLend (Gh.refl _)
        have H := H.rowUp 2 rfl le89
        have H := H.rowUp 3 rfl (le60.trans le89)
        have H := H.rowUp 4 rfl (le60.trans le89)
        refine WL.does (by kernel_rfl) (by kernel_rfl) (Does.call (c_frame_runner_push ({ x0 with Frame := { x0.Frame with Stack := y60.2 } }) ((f4.up le60).up le89) ((f5.up le60).up le89) [y87] f89 ((((((H.front 5 rfl).front 1 rfl).front 5 rfl).front 5 rfl).front 5 rfl).front 5 rfl) q90) (by kernel_rfl) ?_)
        rintro _ w ⟨h90, a91, c91, rfl, le90, H⟩
        obtain ⟨h89', le89', H⟩ := bk89 _ _ _ le90 H
        have H := H.rowFlat (h' := h89') 2 rfl (fun _ _ e => e)
        have H := H.rowFlat (h' := h89') 3 rfl (fun _ _ e => e)
        have H := H.rowFlat (h' := h89') 4 rfl (fun _ _ e => e)
        refine WL.fin 0 (by kernel_rfl) (by kernel_rfl) ?_
        refine WE.region ?_
        refine WL.sg 4 (by kernel_rfl) ?_
        refine WL.does (by kernel_rfl) (by kernel_rfl) (Does.loadV H 1 rfl 1 (by kernel_rfl) (by kernel_rfl) ?_)
        refine WL.sg 4 (by kernel_rfl) ?_
        refine WL.does (by kernel_rfl) (by kernel_rfl) (Does.storeE H 1 (cGrunner ({ x0 with Frame := { x0.Frame with Pc := w64 (x0.Frame.Pc + 1), Stack := y90 } }) a91 c91 a2 c2 a3 c3 a4 c4 a5 c5) rfl (q := 1) (by kernel_rfl) (by kernel_rfl) (by kernel_rfl) fun w H => ?_)
        refine WL.fin 0 (by kernel_rfl) (by kernel_rfl) ?_
        obtain rfl := Option.some.inj hr
        exact ⟨[], trivial, ⟨h89', a91, c91, a2, c2, a3, c3, a5, c5, rfl, (le60.trans le89'), ((f5.up le60).up le89'), (((((H.front 4 rfl).front 4 rfl).front 4 rfl).front 4 rfl).mid 4 3)⟩⟩
      · refine WE.no (by kernel_rfl) (b := x0.x.Op == 5) (by kernel_rfl) t84 ?_
        refine WE.seq ?_
        refine WE.region ?_
        refine WL.fin 2 (by kernel_rfl) (by kernel_rfl) ?_
        rcases ite_cases hr with ⟨t93, hr⟩ | ⟨t93, hr⟩
        · refine WE.yes (by kernel_rfl) (b := x0.x.Op == 6) (by kernel_rfl) t93 ?_
          refine WE.seq ?_
          refine WE.draws mo [0, 2, 3] (ρ' := [(0, .pointer (some ⟨b_0, 0, none⟩)), (2, .slice a61 y60.1.length c61), (3, .pointer (some ⟨b65, 0, none⟩))]) (by kernel_rfl) fun w e1 e2 e3 e4 => ?_
          have H := H.same e1 e2 e3 e4
          clear e1 e2 e3 e4
          refine WD.know [0] (by kernel_rfl) ?_
          obtain ⟨⟨g0_94, g1_94⟩, hr⟩ := grd_cases hr
          obtain ⟨b94, p94, rfl⟩ := H.rowSome 5 rfl g0_94 g1_94
          refine WD.told 1 43 (.pointer (some ⟨b94, p94 + (0 : Int).toNat * 2, none⟩)) (by kernel_rfl) (by kernel_rfl) ?_
          refine WD.told 2 44 (.agg #[.int .i64 ((gd y60.1 (0 : Int)).Re), .int .i64 ((gd y60.1 (0 : Int)).Im)]) (by kernel_rfl) (by kernel_rfl) ?_
          refine WD.know [3] (by kernel_rfl) ?_
          obtain ⟨⟨g0_95, g1_95⟩, hr⟩ := grd_cases hr
          refine WD.told 4 46 (.pointer (some ⟨b94, p94 + (1 : Int).toNat * 2, none⟩)) (by kernel_rfl) (by kernel_rfl) ?_
          refine WD.told 5 47 (.agg #[.int .i64 ((gd y60.1 (1 : Int)).Re), .int .i64 ((gd y60.1 (1 : Int)).Im)]) (by kernel_rfl) (by kernel_rfl) ?_
          obtain ⟨y96, q96, hr⟩ := bind_cases hr
          refine WD.does 6 (by kernel_rfl) rfl (Floats.of [3, 0] [5, 4, 2, 1] (by kernel_rfl) (Floats.pure _ (by kernel_rfl) (by kernel_rfl)) (.cons (.tells rfl (by kernel_rfl) (by kernel_rfl) (.loadRow (v := .agg #[.int .i64 ((gd y60.1 (1 : Int)).Re), .int .i64 ((gd y60.1 (1 : Int)).Im)]) H 5 rfl g0_95 g1_95 0 2 rfl (fun _ e => by rcases e with rfl; kernel_rfl) (by kernel_rfl))) (.cons (.tells rfl (by kernel_rfl) (by kernel_rfl) (.idx b94 (p94) y60.1.length c61 (1 : Int) 2 (by kernel_rfl) (by kernel_rfl) g0_95 g1_95 (by kernel_rfl))) (.cons (.tells rfl (by kernel_rfl) (by kernel_rfl) (.loadRow (v := .agg #[.int .i64 ((gd y60.1 (0 : Int)).Re), .int .i64 ((gd y60.1 (0 : Int)).Im)]) H 5 rfl g0_94 g1_94 0 2 rfl (fun _ e => by rcases e with rfl; kernel_rfl) (by kernel_rfl))) (.cons (.tells rfl (by kernel_rfl) (by kernel_rfl) (.idx b94 (p94) y60.1.length c61 (0 : Int) 2 (by kernel_rfl) (by kernel_rfl) g0_94 g1_94 (by kernel_rfl))) .nil))))) (by kernel_rfl) (by kernel_rfl) (Does.call (c_gauss_Div K (⟨(gd y60.1 (0 : Int)).Re, (gd y60.1 (0 : Int)).Im⟩ : GValue) (⟨(gd y60.1 (1 : Int)).Re, (gd y60.1 (1 : Int)).Im⟩ : GValue) H q96) (by kernel_rfl) ?_)
          rintro _ w ⟨rfl, H⟩
          refine WD.know [7] (by kernel_rfl) ?_
          refine WD.know [8] (by kernel_rfl) ?_
          refine WD.know [9] (by kernel_rfl) ?_
          refine WD.does 10 (by kernel_rfl) rfl (Floats.of [9, 8, 7, 3, 0] [4, 1] (by kernel_rfl) (Floats.pure _ (by kernel_rfl) (by kernel_rfl)) (.cons (.tells rfl (by kernel_rfl) (by kernel_rfl) (.idx b94 (p94) y60.1.length c61 (1 : Int) 2 (by kernel_rfl) (by kernel_rfl) g0_95 g1_95 (by kernel_rfl))) (.cons (.tells rfl (by kernel_rfl) (by kernel_rfl) (.idx b94 (p94) y60.1.length c61 (0 : Int) 2 (by kernel_rfl) (by kernel_rfl) g0_94 g1_94 (by kernel_rfl))) .nil))) (by kernel_rfl) (by kernel_rfl) (Does.storeE H 0 [.int .i64 y96.1.Re, .int .i64 y96.1.Im] rfl (q := 0) (by kernel_rfl) (by kernel_rfl) (by kernel_rfl) fun w H => ?_)
          refine WD.does 11 (by kernel_rfl) rfl (Floats.of [9] [] (by kernel_rfl) (Floats.pure _ (by kernel_rfl) (by kernel_rfl)) .nil) (by kernel_rfl) (by kernel_rfl) (Does.reck (by kernel_rfl) ?_)
          refine WD.fin (by kernel_rfl) (Floats.of [] [] (by kernel_rfl) .nil .nil) (by kernel_rfl) (by kernel_rfl) ?_
          refine WE.seq ?_
          refine WE.region ?_
          refine WL.fin 2 (by kernel_rfl) (by kernel_rfl) ?_
          rcases ite_cases hr with ⟨t97, hr⟩ | ⟨t97, hr⟩
          · refine WE.yes (by kernel_rfl) (b := !y96.2) (by kernel_rfl) t97 ?_
            refine WE.seq ?_
            refine WE.region ?_
            obtain ⟨y99, q99, hr⟩ := bind_cases hr
            refine WL.sg 2 (by kernel_rfl) ?_
            obtain ⟨h98, le98, f98, H, bk98⟩ := (H.front 5 rfl).rowLend (Gh.refl _)
            have H := H.rowUp 2 rfl le98
            have H := H.rowUp 3 rfl (le60.trans le98)
            have H := H.rowUp 4 rfl (le60.trans le98)
            refine WL.does (by kernel_rfl) (by kernel_rfl) (Does.call (c_frame_runner_push ({ x0 with Frame := { x0.Frame with Stack := y60.2 } }) ((f4.up le60).up le98) ((f5.up le60).up le98) y60.1 f98 ((((H.front 4 rfl).front 4 rfl).front 4 rfl).front 4 rfl) q99) (by kernel_rfl) ?_)
            rintro _ w ⟨h99, a100, c100, rfl, le99, H⟩
            obtain ⟨h98', le98', H⟩ := bk98 _ _ _ le99 H
            have H := H.rowFlat (h' := h98') 2 rfl (fun _ _ e => e)
            have H := H.rowFlat (h' := h98') 3 rfl (fun _ _ e => e)
            have H := H.rowFlat (h' := h98') 4 rfl (fun _ _ e => e)
            refine WL.fin 0 (by kernel_rfl) (by kernel_rfl) ?_
            refine WE.seq ?_
            refine WE.region ?_
            obtain ⟨y102, q102, hr⟩ := bnd_cases hr
            refine WL.sg 1 (by kernel_rfl) ?_
            refine WL.does (by kernel_rfl) (by kernel_rfl) (Does.call (c_frame_runner_trap ({ x0 with Frame := { x0.Frame with Stack := y99 } }) ((f4.up le60).up le98') ((f5.up le60).up le98') 1 ((((((H.front 5 rfl).front 1 rfl).front 5 rfl).front 5 rfl).front 5 rfl).front 5 rfl) q102) (by kernel_rfl) ?_)
            rintro _ w ⟨h102, a103, c103, rfl, le102, f103, H⟩
            refine WL.fin 0 (by kernel_rfl) (by kernel_rfl) ?_
            have H := H.rowUp 1 rfl le102
            have H := H.rowUp 2 rfl le102
            have H := H.rowUp 3 rfl le102
            obtain rfl := Option.some.inj hr
            exact WE.ret ⟨[], trivial, ⟨h102, a100, c100, a2, c2, a3, c3, a103, c103, rfl, ((le60.trans le98').trans le102), f103, (((((H.front 3 rfl).front 3 rfl).front 3 rfl).front 3 rfl).mid 4 2)⟩⟩
          · refine WE.no (by kernel_rfl) (b := !y96.2) (by kernel_rfl) t97 ?_
            refine WE.skip ?_
            refine WE.seq ?_
            refine WE.region ?_
            refine WL.sg 1 (by kernel_rfl) ?_
            refine WL.does (by kernel_rfl) (by kernel_rfl) (Does.loadV H 0 rfl 0 (by kernel_rfl) (by kernel_rfl) ?_)
            refine WL.does (by kernel_rfl) (by kernel_rfl) (Does.lit (K := rGValue) (B := 16) (xs := [y96.1]) (e := 33) H ([.int .i64 y96.1.Re, .int .i64 y96.1.Im] ++ []) (by kernel_rfl) (Rows.cons (C := [.int .i64 y96.1.Re, .int .i64 y96.1.Im]) (x := y96.1) (by show _ = _; kernel_rfl) Rows.nil) (by kernel_rfl) (by kernel_rfl) (by kernel_rfl) (by kernel_rfl) fun b104 w H => ?_)
            obtain ⟨y106, q106, hr⟩ := bind_cases hr
            obtain ⟨h105, le105, f105, H, bk105⟩ := (H).rowLend (Gh.refl _)
            have H := H.rowUp 2 rfl le105
            have H := H.rowUp 3 rfl (le60.trans le105)
            have H := H.rowUp 4 rfl (le60.trans le105)
            refine WL.does (by kernel_rfl) (by kernel_rfl) (Does.call (c_frame_runner_push ({ x0 with Frame := { x0.Frame with Stack := y60.2 } }) ((f4.up le60).up le105) ((f5.up le60).up le105) [y96.1] f105 ((((((H.front 5 rfl).front 1 rfl).front 5 rfl).front 5 rfl).front 5 rfl).front 5 rfl) q106) (by kernel_rfl) ?_)
            rintro _ w ⟨h106, a107, c107, rfl, le106, H⟩
            obtain ⟨h105', le105', H⟩ := bk105 _ _ _ le106 H
            have H := H.rowFlat (h' := h105') 2 rfl (fun _ _ e => e)
            have H := H.rowFlat (h' := h105') 3 rfl (fun _ _ e => e)
            have H := H.rowFlat (h' := h105') 4 rfl (fun _ _ e => e)
            refine WL.fin 0 (by kernel_rfl) (by kernel_rfl) ?_
            refine WE.region ?_
            refine WL.sg 4 (by kernel_rfl) ?_
            refine WL.does (by kernel_rfl) (by kernel_rfl) (Does.loadV H 1 rfl 1 (by kernel_rfl) (by kernel_rfl) ?_)
            refine WL.sg 4 (by kernel_rfl) ?_
            refine WL.does (by kernel_rfl) (by kernel_rfl) (Does.storeE H 1 (cGrunner ({ x0 with Frame := { x0.Frame with Pc := w64 (x0.Frame.Pc + 1), Stack := y106 } }) a107 c107 a2 c2 a3 c3 a4 c4 a5 c5) rfl (q := 1) (by kernel_rfl) (by kernel_rfl) (by kernel_rfl) fun w H => ?_)
            refine WL.fin 0 (by kernel_rfl) (by kernel_rfl) ?_
            obtain rfl := Option.some.inj hr
            exact ⟨[], trivial, ⟨h105', a107, c107, a2, c2, a3, c3, a5, c5, rfl, (le60.trans le105'), ((f5.up le60).up le105'), (((((H.front 4 rfl).front 4 rfl).front 4 rfl).front 4 rfl).mid 4 3)⟩⟩
        · refine WE.no (by kernel_rfl) (b := x0.x.Op == 6) (by kernel_rfl) t93 ?_
          refine WE.skip ?_
          refine WE.seq ?_
          refine WE.region ?_
          refine WL.sg 1 (by kernel_rfl) ?_
          refine WL.does (by kernel_rfl) (by kernel_rfl) (Does.loadV H 0 rfl 0 (by kernel_rfl) (by kernel_rfl) ?_)
          refine WL.does (by kernel_rfl) (by kernel_rfl) (Does.lit (K := rGValue) (B := 16) (xs := [(⟨0, 0⟩ : GValue)]) (e := 33) H ([.int .i64 0, .int .i64 0] ++ []) (by kernel_rfl) (Rows.cons (C := [.int .i64 0, .int .i64 0]) (x := (⟨0, 0⟩ : GValue)) (by show _ = _; kernel_rfl) Rows.nil) (by kernel_rfl) (by kernel_rfl) (by kernel_rfl) (by kernel_rfl) fun b109 w H => ?_)
          obtain ⟨y111, q111, hr⟩ := bind_cases hr
          obtain ⟨h110, le110, f110, H, bk110⟩ := (H).rowLend (Gh.refl _)
          have H := H.rowUp 2 rfl le110
          have H := H.rowUp 3 rfl (le60.trans le110)
          have H := H.rowUp 4 rfl (le60.trans le110)
          refine WL.does (by kernel_rfl) (by kernel_rfl) (Does.call (c_frame_runner_push ({ x0 with Frame := { x0.Frame with Stack := y60.2 } }) ((f4.up le60).up le110) ((f5.up le60).up le110) [(⟨0, 0⟩ : GValue)] f110 ((((((H.front 5 rfl).front 1 rfl).front 5 rfl).front 5 rfl).front 5 rfl).front 5 rfl) q111) (by kernel_rfl) ?_)
          rintro _ w ⟨h111, a112, c112, rfl, le111, H⟩
          obtain ⟨h110', le110', H⟩ := bk110 _ _ _ le111 H
          have H := H.rowFlat (h' := h110') 2 rfl (fun _ _ e => e)
          have H := H.rowFlat (h' := h110') 3 rfl (fun _ _ e => e)
          have H := H.rowFlat (h' := h110') 4 rfl (fun _ _ e => e)
          refine WL.fin 0 (by kernel_rfl) (by kernel_rfl) ?_
          refine WE.region ?_
          refine WL.sg 4 (by kernel_rfl) ?_
          refine WL.does (by kernel_rfl) (by kernel_rfl) (Does.loadV H 1 rfl 1 (by kernel_rfl) (by kernel_rfl) ?_)
          refine WL.sg 4 (by kernel_rfl) ?_
          refine WL.does (by kernel_rfl) (by kernel_rfl) (Does.storeE H 1 (cGrunner ({ x0 with Frame := { x0.Frame with Pc := w64 (x0.Frame.Pc + 1), Stack := y111 } }) a112 c112 a2 c2 a3 c3 a4 c4 a5 c5) rfl (q := 1) (by kernel_rfl) (by kernel_rfl) (by kernel_rfl) fun w H => ?_)
          refine WL.fin 0 (by kernel_rfl) (by kernel_rfl) ?_
          obtain rfl := Option.some.inj hr
          exact ⟨[], trivial, ⟨h110', a112, c112, a2, c2, a3, c3, a5, c5, rfl, (le60.trans le110'), ((f5.up le60).up le110'), (((((H.front 4 rfl).front 4 rfl).front 4 rfl).front 4 rfl).mid 4 3)⟩⟩
def gauss_Conj (x0 : GValue) : Option GValue :=
  bnd (gauss_of x0) fun y3 =>
  (gauss_value (y3.1, fNeg y3.2)).bind fun y4 =>
  some y4
set_option maxRecDepth 100000 in
theorem c_gauss_Conj {w0 w : World} {h : Gh} {L : List Ent} (x0 : GValue) (H : St w0 h w L) {r : GValue} (hr : gauss_Conj x0 = some r) : Calls Try.prog 65 #[.agg #[.int .i64 x0.Re, .int .i64 x0.Im]] w (fun e w' => ∃ v, e = .returned v ∧ v = .agg #[.int .i64 r.Re, .int .i64 r.Im] ∧ St w0 h w' (L)) := by
  refine calls_of (args := [.agg #[.int .i64 x0.Re, .int .i64 x0.Im]]) (n := 13) (rs := [.cell 2 33]) Try.func65 rfl rfl rfl rfl rfl ?_
  unfold gauss_Conj at hr
  refine WE.seq ?_
  refine WE.region ?_
  refine WL.does (by kernel_rfl) (by kernel_rfl) (Does.box H [.int .i64 x0.Re, .int .i64 x0.Im] (by kernel_rfl) fun b1 w H => ?_)
  refine WL.does (by kernel_rfl) (by kernel_rfl) (Does.alloc H [.int .i64 0, .int .i64 0] (by kernel_rfl) fun b2 w H => ?_)
  refine WL.fin 0 (by kernel_rfl) (by kernel_rfl) ?_
  refine WE.seq ?_
  refine WE.region ?_
  refine WL.does (by kernel_rfl) (by kernel_rfl) (Does.loadV H 1 rfl 0 (by kernel_rfl) (by kernel_rfl) ?_)
  obtain ⟨y3, q3, hr⟩ := bnd_cases hr
  refine WL.does (by kernel_rfl) (by kernel_rfl) (Does.call (c_gauss_of x0 H q3) (by kernel_rfl) ?_)
  rintro _ w ⟨rfl, H⟩
  refine WL.fin 1 (by kernel_rfl) (by kernel_rfl) ?_
  refine WE.seq ?_
  refine WE.region ?_
  obtain ⟨y4, q4, hr⟩ := bind_cases hr
  refine WL.sg 6 (by kernel_rfl) ?_
  refine WL.does (by kernel_rfl) (by kernel_rfl) (Does.call (c_gauss_value (y3.1, fNeg y3.2) H q4) (by kernel_rfl) ?_)
  rintro _ w ⟨rfl, H⟩
  refine WL.does (by kernel_rfl) (by kernel_rfl) (Does.storeE H 0 [.int .i64 y4.Re, .int .i64 y4.Im] rfl (q := 0) (by kernel_rfl) (by kernel_rfl) (by kernel_rfl) fun w H => ?_)
  refine WL.fin 0 (by kernel_rfl) (by kernel_rfl) ?_
  obtain rfl := Option.some.inj hr
  exact WE.ret ⟨[.agg #[.int .i64 y4.Re, .int .i64 y4.Im]], ⟨⟨(by kernel_rfl), ⟨b2, 0, none⟩, (by kernel_rfl), H.loadVar 0 rfl 0 (by kernel_rfl)⟩, trivial⟩, ⟨rfl, (H.keep 2)⟩⟩
def seed_Draw (K : Nat) (x0 : Int) (x1 : Int) : Option GValue :=
  (seed_of K x0 2 x1).bind fun y2 =>
  if !y2.2 then
    some (⟨0, 0⟩ : GValue)
  else
    bnd (gauss_Of y2.1 (ishr .i64 y2.1 16)) fun y4 =>
    some y4
set_option maxRecDepth 100000 in
theorem c_seed_Draw {w0 w : World} {h : Gh} {L : List Ent} (K : Nat) (x0 : Int) (x1 : Int) (H : St w0 h w L) {r : GValue} (hr : seed_Draw K x0 x1 = some r) : Calls Try.prog 66 #[.int .i64 x0, .int .i64 x1] w (fun e w' => ∃ v, e = .returned v ∧ v = .agg #[.int .i64 r.Re, .int .i64 r.Im] ∧ St w0 h w' (L)) := by
  refine calls_of (args := [.int .i64 x0, .int .i64 x1]) (n := 20) (rs := [.cell 4 33]) Try.func66 rfl rfl rfl rfl rfl ?_
  unfold seed_Draw at hr
  refine WE.seq ?_
  refine WE.region ?_
  refine WL.does (by kernel_rfl) (by kernel_rfl) (Does.alloc H [.int .i64 0, .int .i64 0] (by kernel_rfl) fun b1 w H => ?_)
  refine WL.fin 0 (by kernel_rfl) (by kernel_rfl) ?_
  refine WE.seq ?_
  refine WE.region ?_
  obtain ⟨y2, q2, hr⟩ := bind_cases hr
  refine WL.sg 2 (by kernel_rfl) ?_
  refine WL.does (by kernel_rfl) (by kernel_rfl) (Does.call (c_seed_of K x0 2 x1 H q2) (by kernel_rfl) ?_)
  rintro _ w ⟨rfl, H⟩
  refine WL.fin 5 (by kernel_rfl) (by kernel_rfl) ?_
  refine WE.seq ?_
  refine WE.seq ?_
  refine WE.region ?_
  refine WL.fin 2 (by kernel_rfl) (by kernel_rfl) ?_
  rcases ite_cases hr with ⟨t3, hr⟩ | ⟨t3, hr⟩
  · refine WE.yes (by kernel_rfl) (b := !y2.2) (by kernel_rfl) t3 ?_
    refine WE.seq ?_
    refine WE.region ?_
    refine WL.sg 1 (by kernel_rfl) ?_
    refine WL.does (by kernel_rfl) (by kernel_rfl) (Does.storeE H 0 [.int .i64 0, .int .i64 0] rfl (q := 0) (by kernel_rfl) (by kernel_rfl) (by kernel_rfl) fun w H => ?_)
    refine WL.fin 0 (by kernel_rfl) (by kernel_rfl) ?_
    obtain rfl := Option.some.inj hr
    exact WE.ret ⟨[.agg #[.int .i64 0, .int .i64 0]], ⟨⟨(by kernel_rfl), ⟨b1, 0, none⟩, (by kernel_rfl), H.loadVar 0 rfl 0 (by kernel_rfl)⟩, trivial⟩, ⟨rfl, (H.keep 1)⟩⟩
  · refine WE.no (by kernel_rfl) (b := !y2.2) (by kernel_rfl) t3 ?_
    refine WE.skip ?_
    refine WE.seq ?_
    refine WE.region ?_
    obtain ⟨y4, q4, hr⟩ := bnd_cases hr
    refine WL.sg 3 (by kernel_rfl) ?_
    refine WL.does (by kernel_rfl) (by kernel_rfl) (Does.call (c_gauss_Of y2.1 (ishr .i64 y2.1 16) H q4) (by kernel_rfl) ?_)
    rintro _ w ⟨rfl, H⟩
    refine WL.does (by kernel_rfl) (by kernel_rfl) (Does.storeE H 0 [.int .i64 y4.Re, .int .i64 y4.Im] rfl (q := 0) (by kernel_rfl) (by kernel_rfl) (by kernel_rfl) fun w H => ?_)
    refine WL.fin 0 (by kernel_rfl) (by kernel_rfl) ?_
    obtain rfl := Option.some.inj hr
    exact WE.ret ⟨[.agg #[.int .i64 y4.Re, .int .i64 y4.Im]], ⟨⟨(by kernel_rfl), ⟨b1, 0, none⟩, (by kernel_rfl), H.loadVar 0 rfl 0 (by kernel_rfl)⟩, trivial⟩, ⟨rfl, (H.keep 1)⟩⟩
def frame_runner_plain (K : Nat) (x0 : Grunner) : Option (Int × (List GValue) × (List GValue) × (List GSlot) × Int) :=
  if x0.x.Op == 0 then
    bnd (gauss_Of x0.x.A x0.x.B) fun y80 =>
    (frame_runner_push x0 [y80]).bind fun y83 =>
    some (w64 (x0.Frame.Pc + 1), y83, x0.Frame.Locals, x0.Frame.Slots, x0.Frame.Draws)
  else
    if x0.x.Op == 1 then
      if 0 ≤ x0.x.A ∧ x0.x.A < x0.Frame.Locals.length then
        (frame_runner_push x0 [(⟨(gd x0.Frame.Locals x0.x.A).Re, (gd x0.Frame.Locals x0.x.A).Im⟩ : GValue)]).bind fun y90 =>
        some (w64 (x0.Frame.Pc + 1), y90, x0.Frame.Locals, x0.Frame.Slots, x0.Frame.Draws)
      else none
    else
      if x0.x.Op == 2 then
        (frame_runner_pop x0 1).bind fun y94 =>
        if 0 ≤ (0 : Int) ∧ (0 : Int) < y94.1.length then
          if 0 ≤ x0.x.A ∧ x0.x.A < x0.Frame.Locals.length then
            some (w64 (x0.Frame.Pc + 1), y94.2, (x0.Frame.Locals.set x0.x.A.toNat (⟨(gd y94.1 (0 : Int)).Re, (gd y94.1 (0 : Int)).Im⟩ : GValue)), x0.Frame.Slots, x0.Frame.Draws)
          else none
        else none
      else
        if x0.x.Op == 7 then
          (frame_runner_pop x0 1).bind fun y103 =>
          if 0 ≤ (0 : Int) ∧ (0 : Int) < y103.1.length then
            (gauss_Conj (⟨(gd y103.1 (0 : Int)).Re, (gd y103.1 (0 : Int)).Im⟩ : GValue)).bind fun y109 =>
            (frame_runner_push ({ x0 with Frame := { x0.Frame with Stack := y103.2 } }) [y109]).bind fun y112 =>
            some (w64 (x0.Frame.Pc + 1), y112, x0.Frame.Locals, x0.Frame.Slots, x0.Frame.Draws)
          else none
        else
          if x0.x.Op == 8 then
            (frame_runner_pop x0 1).bind fun y116 =>
            if 0 ≤ (0 : Int) ∧ (0 : Int) < y116.1.length then
              (frame_runner_push ({ x0 with Frame := { x0.Frame with Stack := y116.2 } }) [(⟨(gd y116.1 (0 : Int)).Re, (gd y116.1 (0 : Int)).Im⟩ : GValue), (⟨(gd y116.1 (0 : Int)).Re, (gd y116.1 (0 : Int)).Im⟩ : GValue)]).bind fun y125 =>
              some (w64 (x0.Frame.Pc + 1), y125, x0.Frame.Locals, x0.Frame.Slots, x0.Frame.Draws)
            else none
          else
            if x0.x.Op == 9 then
              (frame_runner_pop x0 1).bind fun y129 =>
              some (w64 (x0.Frame.Pc + 1), y129.2, x0.Frame.Locals, x0.Frame.Slots, x0.Frame.Draws)
            else
              if x0.x.Op == 10 then
                some (x0.x.A, x0.Frame.Stack, x0.Frame.Locals, x0.Frame.Slots, x0.Frame.Draws)
              else
                if x0.x.Op == 11 then
                  (frame_runner_pop x0 1).bind fun y136 =>
                  if 0 ≤ (0 : Int) ∧ (0 : Int) < y136.1.length then
                    bnd (gauss_Of ((gd y136.1 (0 : Int)).Re) ((gd y136.1 (0 : Int)).Im)) fun y143 =>
                    if (y143.Re == 0) && ((y143.Im == 0) && true) then
                      some (x0.x.A, y136.2, x0.Frame.Locals, x0.Frame.Slots, x0.Frame.Draws)
                    else
                      some (w64 (x0.Frame.Pc + 1), y136.2, x0.Frame.Locals, x0.Frame.Slots, x0.Frame.Draws)
                  else none
                else
                  if x0.x.Op == 12 then
                    (seed_Draw K x0.Frame.Seed x0.Frame.Draws).bind fun y146 =>
                    (frame_runner_push x0 [y146]).bind fun y149 =>
                    some (w64 (x0.Frame.Pc + 1), y149, x0.Frame.Locals, x0.Frame.Slots, w64 (x0.Frame.Draws + 1))
                  else
                    some (w64 (x0.Frame.Pc + 1), x0.Frame.Stack, x0.Frame.Locals, x0.Frame.Slots, x0.Frame.Draws)
set_option maxRecDepth 100000 in
theorem c_frame_runner_plain {w0 w : World} {h : Gh} {L : List Ent} (K : Nat) (x0 : Grunner) {a1 : Option Addr} {c1 : Nat} {a2 : Option Addr} {c2 : Nat} {a3 : Option Addr} {c3 : Nat} {a4 : Option Addr} {c4 : Nat} {a5 : Option Addr} {c5 : Nat} (f4 : Sl rGFunc 48 h a4 c4 x0.p) (f5 : Sl rGValue 16 h a5 c5 x0.act.Args) {b_0 : Nat} (H : St w0 h w (var b_0 (cGrunner x0 a1 c1 a2 c2 a3 c3 a4 c4 a5 c5) 73 :: row rGValue 16 h a1 c1 x0.Frame.Stack :: row rGValue 16 h a2 c2 x0.Frame.Locals :: row rGSlot 48 h a3 c3 x0.Frame.Slots :: L)) {r : Int × (List GValue) × (List GValue) × (List GSlot) × Int} (hr : frame_runner_plain K x0 = some r) : Calls Try.prog 35 #[.pointer (some ⟨b_0, 0, none⟩)] w (fun e w' => ∃ v, e = .returned v ∧ ∃ (h' : Gh) (a901 : Option Addr) (c901 : Nat) (a903 : Option Addr) (c903 : Nat) (a905 : Option Addr) (c905 : Nat), v = .tuple #[] ∧ h.le h' ∧ St w0 h' w' (var b_0 (cGrunner ({ x0 with Frame := { x0.Frame with Pc := r.1, Stack := r.2.1, Locals := r.2.2.1, Slots := r.2.2.2.1, Draws := r.2.2.2.2 } }) a901 c901 a903 c903 a905 c905 a4 c4 a5 c5) 73 :: row rGValue 16 h' a901 c901 r.2.1 :: row rGValue 16 h' a903 c903 r.2.2.1 :: row rGSlot 48 h' a905 c905 r.2.2.2.1 :: L)) := by
  refine calls_of (args := [.pointer (some ⟨b_0, 0, none⟩)]) (n := 146) (rs := []) Try.func35 rfl rfl rfl rfl rfl ?_
  unfold frame_runner_plain at hr
  refine WE.seq ?_
  refine WE.region ?_
  refine WL.sg 4 (by kernel_rfl) ?_
  refine WL.does (by kernel_rfl) (by kernel_rfl) (Does.loadV H 0 rfl 1 (by kernel_rfl) (by kernel_rfl) ?_)
  refine WL.fin 2 (by kernel_rfl) (by kernel_rfl) ?_
  refine WE.seq ?_
  refine WE.seq ?_
  refine WE.region ?_
  refine WL.sg 4 (by kernel_rfl) ?_
  refine WL.does (by kernel_rfl) (by kernel_rfl) (Does.loadV H 0 rfl 17 (by kernel_rfl) (by kernel_rfl) ?_)
  refine WL.fin 0 (by kernel_rfl) (by kernel_rfl) ?_
  refine WE.block ?_
  refine WE.seq ?_
  refine WE.region ?_
  refine WL.fin 2 (by kernel_rfl) (by kernel_rfl) ?_
  rcases ite_cases hr with ⟨t79, hr⟩ | ⟨t79, hr⟩
  · refine WE.yes (by kernel_rfl) (b := x0.x.Op == 0) (by kernel_rfl) t79 ?_
    refine WE.draws mo [0, 2] (ρ' := [(0, .pointer (some ⟨b_0, 0, none⟩)), (2, .int .i64 (w64 (x0.Frame.Pc + 1)))]) (by kernel_rfl) fun w e1 e2 e3 e4 => ?_
    have H := H.same e1 e2 e3 e4
    clear e1 e2 e3 e4
    refine WD.know [0] (by kernel_rfl) ?_
    refine WD.know [1] (by kernel_rfl) ?_
    refine WD.know [2] (by kernel_rfl) ?_
    refine WD.know [3] (by kernel_rfl) ?_
    refine WD.know [4] (by kernel_rfl) ?_
    refine WD.told 5 23 (.int .i64 x0.x.A) (by kernel_rfl) (by kernel_rfl) ?_
    refine WD.know [6] (by kernel_rfl) ?_
    refine WD.know [7] (by kernel_rfl) ?_
    refine WD.know [8] (by kernel_rfl) ?_
    refine WD.know [9] (by kernel_rfl) ?_
    refine WD.told 10 28 (.int .i64 x0.x.B) (by kernel_rfl) (by kernel_rfl) ?_
    obtain ⟨y80, q80, hr⟩ := bnd_cases hr
    refine WD.does 11 (by kernel_rfl) rfl (Floats.of [9, 8, 7, 6, 4, 3, 2, 1, 0] [10, 5] (by kernel_rfl) (Floats.pure _ (by kernel_rfl) (by kernel_rfl)) (.cons (.tells rfl (by kernel_rfl) rfl (.loadV H 0 rfl 19 (by kernel_rfl) (by kernel_rfl))) (.cons (.tells rfl (by kernel_rfl) rfl (.loadV H 0 rfl 18 (by kernel_rfl) (by kernel_rfl))) .nil))) (by kernel_rfl) (by kernel_rfl) (Does.call (c_gauss_Of x0.x.A x0.x.B H q80) (by kernel_rfl) ?_)
    rintro _ w ⟨rfl, H⟩
    refine WD.does 12 (by kernel_rfl) rfl (Floats.of [9, 8, 7, 6, 4, 3, 2, 1, 0] [] (by kernel_rfl) (Floats.pure _ (by kernel_rfl) (by kernel_rfl)) .nil) (by kernel_rfl) (by kernel_rfl) (Does.lit (K := rGValue) (B := 16) (xs := [y80]) (e := 33) H ([.int .i64 y80.Re, .int .i64 y80.Im] ++ []) (by kernel_rfl) (Rows.cons (C := [.int .i64 y80.Re, .int .i64 y80.Im]) (x := y80) (by show _ = _; kernel_rfl) Rows.nil) (by kernel_rfl) (by kernel_rfl) (by kernel_rfl) (by kernel_rfl) fun b81 w H => ?_)
    obtain ⟨y83, q83, hr⟩ := bind_cases hr
    obtain ⟨h82, le82, f82, H, bk82⟩ := (H).rowLend (Gh.refl _)
    have H := H.rowUp 1 rfl le82
    have H := H.rowUp 2 rfl le82
    have H := H.rowUp 3 rfl le82
    refine WD.does 13 (by kernel_rfl) rfl (Floats.of [9, 8, 7, 6, 4, 3, 2, 1, 0] [] (by kernel_rfl) (Floats.pure _ (by kernel_rfl) (by kernel_rfl)) .nil) (by kernel_rfl) (by kernel_rfl) (Does.call (c_frame_runner_push x0 (f4.up le82) (f5.up le82) [y80] f82 H q83) (by kernel_rfl) ?_)
    rintro _ w ⟨h83, a84, c84, rfl, le83, H⟩
    obtain ⟨h82', le82', H⟩ := bk82 _ _ _ le83 H
    have H := H.rowFlat (h' := h82') 2 rfl (fun _ _ e => e)
    have H := H.rowFlat (h' := h82') 3 rfl (fun _ _ e => e)
    have H := H.rowFlat (h' := h82') 4 rfl (fun _ _ e => e)
    refine WD.fin (by kernel_rfl) (Floats.of [9, 8, 7, 6, 4, 3, 2, 1] [] (by kernel_rfl) (Floats.pure _ (by kernel_rfl) (by kernel_rfl)) .nil) (by kernel_rfl) (by kernel_rfl) ?_
    refine WE.region ?_
    refine WL.sg 5 (by kernel_rfl) ?_
    refine WL.does (by kernel_rfl) (by kernel_rfl) (Does.storeE H 1 (cGrunner ({ x0 with Frame := { x0.Frame with Pc := w64 (x0.Frame.Pc + 1), Stack := y83 } }) a84 c84 a2 c2 a3 c3 a4 c4 a5 c5) rfl (q := 1) (by kernel_rfl) (by kernel_rfl) (by kernel_rfl) fun w H => ?_)
    refine WL.fin 0 (by kernel_rfl) (by kernel_rfl) ?_
    obtain rfl := Option.some.inj hr
    exact ⟨[], trivial, ⟨h82', a84, c84, a2, c2, a3, c3, rfl, le82', (H.keep 1)⟩⟩
  · refine WE.no (by kernel_rfl) (b := x0.x.Op == 0) (by kernel_rfl) t79 ?_
    refine WE.seq ?_
    refine WE.region ?_
    refine WL.fin 2 (by kernel_rfl) (by kernel_rfl) ?_
    rcases ite_cases hr with ⟨t86, hr⟩ | ⟨t86, hr⟩
    · refine WE.yes (by kernel_rfl) (b := x0.x.Op == 1) (by kernel_rfl) t86 ?_
      refine WE.draws mo [0, 2] (ρ' := [(0, .pointer (some ⟨b_0, 0, none⟩)), (2, .int .i64 (w64 (x0.Frame.Pc + 1)))]) (by kernel_rfl) fun w e1 e2 e3 e4 => ?_
      have H := H.same e1 e2 e3 e4
      clear e1 e2 e3 e4
      refine WD.know [0] (by kernel_rfl) ?_
      refine WD.know [1] (by kernel_rfl) ?_
      refine WD.know [2] (by kernel_rfl) ?_
      refine WD.know [3] (by kernel_rfl) ?_
      refine WD.know [4] (by kernel_rfl) ?_
      refine WD.told 5 39 (.slice a2 x0.Frame.Locals.length c2) (by kernel_rfl) (by kernel_rfl) ?_
      refine WD.know [6] (by kernel_rfl) ?_
      refine WD.know [7] (by kernel_rfl) ?_
      refine WD.know [8] (by kernel_rfl) ?_
      refine WD.know [9] (by kernel_rfl) ?_
      refine WD.told 10 44 (.int .i64 x0.x.A) (by kernel_rfl) (by kernel_rfl) ?_
      obtain ⟨⟨g0_87, g1_87⟩, hr⟩ := grd_cases hr
      obtain ⟨b87, p87, rfl⟩ := H.rowSome 2 rfl g0_87 g1_87
      refine WD.told 11 45 (.pointer (some ⟨b87, p87 + x0.x.A.toNat * 2, none⟩)) (by kernel_rfl) (by kernel_rfl) ?_
      refine WD.told 12 46 (.agg #[.int .i64 ((gd x0.Frame.Locals x0.x.A).Re), .int .i64 ((gd x0.Frame.Locals x0.x.A).Im)]) (by kernel_rfl) (by kernel_rfl) ?_
      refine WD.does 13 (by kernel_rfl) rfl (Floats.of [9, 8, 7, 6, 4, 3, 2, 1, 0] [12, 11, 10, 5] (by kernel_rfl) (Floats.pure _ (by kernel_rfl) (by kernel_rfl)) (.cons (.tells rfl (by kernel_rfl) (by kernel_rfl) (.loadRow (v := .agg #[.int .i64 ((gd x0.Frame.Locals x0.x.A).Re), .int .i64 ((gd x0.Frame.Locals x0.x.A).Im)]) H 2 rfl g0_87 g1_87 0 2 rfl (fun _ e => by rcases e with rfl; kernel_rfl) (by kernel_rfl))) (.cons (.tells rfl (by kernel_rfl) (by kernel_rfl) (.idx b87 (p87) x0.Frame.Locals.length c2 x0.x.A 2 (by kernel_rfl) (by kernel_rfl) g0_87 g1_87 (by kernel_rfl))) (.cons (.tells rfl (by kernel_rfl) rfl (.loadV H 0 rfl 18 (by kernel_rfl) (by kernel_rfl))) (.cons (.tells rfl (by kernel_rfl) rfl (.loadV H 0 rfl 3 (by kernel_rfl) (by kernel_rfl))) .nil))))) (by kernel_rfl) (by kernel_rfl) (Does.lit (K := rGValue) (B := 16) (xs := [(⟨(gd x0.Frame.Locals x0.x.A).Re, (gd x0.Frame.Locals x0.x.A).Im⟩ : GValue)]) (e := 33) H ([.int .i64 ((gd x0.Frame.Locals x0.x.A).Re), .int .i64 ((gd x0.Frame.Locals x0.x.A).Im)] ++ []) (by kernel_rfl) (Rows.cons (C := [.int .i64 ((gd x0.Frame.Locals x0.x.A).Re), .int .i64 ((gd x0.Frame.Locals x0.x.A).Im)]) (x := (⟨(gd x0.Frame.Locals x0.x.A).Re, (gd x0.Frame.Locals x0.x.A).Im⟩ : GValue)) (by show _ = _; kernel_rfl) Rows.nil) (by kernel_rfl) (by kernel_rfl) (by kernel_rfl) (by kernel_rfl) fun b88 w H => ?_)
      obtain ⟨y90, q90, hr⟩ := bind_cases hr
      obtain ⟨h89, le89, f89, H, bk89⟩ := (H).rowLend (Gh.refl _)
      have H := H.rowUp 1 rfl le89
      have H := H.rowUp 2 rfl le89
      have H := H.rowUp 3 rfl le89
      refine WD.does 14 (by kernel_rfl) rfl (Floats.of [9, 8, 7, 6, 4, 3, 2, 1, 0] [11, 10, 5] (by kernel_rfl) (Floats.pure _ (by kernel_rfl) (by kernel_rfl)) (.cons (.tells rfl (by kernel_rfl) (by kernel_rfl) (.idx b87 (p87) x0.Frame.Locals.length c2 x0.x.A 2 (by kernel_rfl) (by kernel_rfl) g0_87 g1_87 (by kernel_rfl))) (.cons (.tells rfl (by kernel_rfl) rfl (.loadV H 0 rfl 18 (by kernel_rfl) (by kernel_rfl))) (.cons (.tells rfl (by kernel_rfl) rfl (.loadV H 0 rfl 3 (by kernel_rfl) (by kernel_rfl))) .nil)))) (by kernel_rfl) (by kernel_rfl) (Does.call (c_frame_runner_push x0 (f4.up le89) (f5.up le89) [(⟨(gd x0.Frame.Locals x0.x.A).Re, (gd x0.Frame.Locals x0.x.A).Im⟩ : GValue)] f89 H q90) (by kernel_rfl) ?_)
      rintro _ w ⟨h90, a91, c91, rfl, le90, H⟩
      obtain ⟨h89', le89', H⟩ := bk89 _ _ _ le90 H
      have H := H.rowFlat (h' := h89') 2 rfl (fun _ _ e => e)
      have H := H.rowFlat (h' := h89') 3 rfl (fun _ _ e => e)
      have H := H.rowFlat (h' := h89') 4 rfl (fun _ _ e => e)
      refine WD.fin (by kernel_rfl) (Floats.of [9, 8, 7, 6, 4, 3, 2, 1] [11, 10, 5] (by kernel_rfl) (Floats.pure _ (by kernel_rfl) (by kernel_rfl)) (.cons (.tells rfl (by kernel_rfl) (by kernel_rfl) (.idx b87 (p87) x0.Frame.Locals.length c2 x0.x.A 2 (by kernel_rfl) (by kernel_rfl) g0_87 g1_87 (by kernel_rfl))) (.cons (.tells rfl (by kernel_rfl) rfl (.loadV H 1 rfl 18 (by kernel_rfl) (by kernel_rfl))) (.cons (.tells rfl (by kernel_rfl) rfl (.loadV H 1 rfl 3 (by kernel_rfl) (by kernel_rfl))) .nil)))) (by kernel_rfl) (by kernel_rfl) ?_
      refine WE.region ?_
      refine WL.sg 5 (by kernel_rfl) ?_
      refine WL.does (by kernel_rfl) (by kernel_rfl) (Does.storeE H 1 (cGrunner ({ x0 with Frame := { x0.Frame with Pc := w64 (x0.Frame.Pc + 1), Stack := y90 } }) a91 c91 (some ⟨b87, p87, none⟩) c2 a3 c3 a4 c4 a5 c5) rfl (q := 1) (by kernel_rfl) (by kernel_rfl) (by kernel_rfl) fun w H => ?_)
      refine WL.fin 0 (by kernel_rfl) (by kernel_rfl) ?_
      obtain rfl := Option.some.inj hr
      exact ⟨[], trivial, ⟨h89', a91, c91, (some ⟨b87, p87, none⟩), c2, a3, c3, rfl, le89', (H.keep 1)⟩⟩
    · refine WE.no (by kernel_rfl) (b := x0.x.Op == 1) (by kernel_rfl) t86 ?_
      refine WE.seq ?_
      refine WE.region ?_
      refine WL.fin 2 (by kernel_rfl) (by kernel_rfl) ?_
      rcases ite_cases hr with ⟨t93, hr⟩ | ⟨t93, hr⟩
      · refine WE.yes (by kernel_rfl) (b := x0.x.Op == 2) (by kernel_rfl) t93 ?_
        refine WE.draws mo [0, 2] (ρ' := [(0, .pointer (some ⟨b_0, 0, none⟩)), (2, .int .i64 (w64 (x0.Frame.Pc + 1)))]) (by kernel_rfl) fun w e1 e2 e3 e4 => ?_
        have H := H.same e1 e2 e3 e4
        clear e1 e2 e3 e4
        refine WD.know [0] (by kernel_rfl) ?_
        refine WD.know [1] (by kernel_rfl) ?_
        refine WD.know [2] (by kernel_rfl) ?_
        refine WD.know [3] (by kernel_rfl) ?_
        refine WD.told 4 55 (.slice a2 x0.Frame.Locals.length c2) (by kernel_rfl) (by kernel_rfl) ?_
        refine WD.know [5] (by kernel_rfl) ?_
        refine WD.know [6] (by kernel_rfl) ?_
        refine WD.know [7] (by kernel_rfl) ?_
        refine WD.know [8] (by kernel_rfl) ?_
        refine WD.told 9 60 (.int .i64 x0.x.A) (by kernel_rfl) (by kernel_rfl) ?_
        refine WD.know [10] (by kernel_rfl) ?_
        obtain ⟨y94, q94, hr⟩ := bind_cases hr
        refine WD.does 11 (by kernel_rfl) rfl (Floats.of [10, 8, 7, 6, 5, 3, 2, 1, 0] [9, 4] (by kernel_rfl) (Floats.pure _ (by kernel_rfl) (by kernel_rfl)) (.cons (.tells rfl (by kernel_rfl) rfl (.loadV H 0 rfl 18 (by kernel_rfl) (by kernel_rfl))) (.cons (.tells rfl (by kernel_rfl) rfl (.loadV H 0 rfl 3 (by kernel_rfl) (by kernel_rfl))) .nil))) (by kernel_rfl) (by kernel_rfl) (Does.call (c_frame_runner_pop x0 f4 f5 1 H q94) (by kernel_rfl) ?_)
        rintro _ w ⟨h94, a95, c95, a97, c97, rfl, le94, H⟩
        obtain ⟨⟨g0_99, g1_99⟩, hr⟩ := grd_cases hr
        obtain ⟨b99, p99, rfl⟩ := H.rowSome 4 rfl g0_99 g1_99
        refine WD.told 12 63 (.pointer (some ⟨b99, p99 + (0 : Int).toNat * 2, none⟩)) (by kernel_rfl) (by kernel_rfl) ?_
        refine WD.told 13 64 (.agg #[.int .i64 ((gd y94.1 (0 : Int)).Re), .int .i64 ((gd y94.1 (0 : Int)).Im)]) (by kernel_rfl) (by kernel_rfl) ?_
        obtain ⟨⟨g0_100, g1_100⟩, hr⟩ := grd_cases hr
        obtain ⟨b100, p100, rfl⟩ := H.rowSome 2 rfl g0_100 g1_100
        refine WD.told 14 65 (.pointer (some ⟨b100, p100 + x0.x.A.toNat * 2, none⟩)) (by kernel_rfl) (by kernel_rfl) ?_
        obtain ⟨C101, e101, _, hb101, hc101, rfl⟩ := H.rowAt2 2 rfl g0_100 g1_100
        refine WD.does 15 (by kernel_rfl) rfl (Floats.of [8, 7, 6, 5, 3, 2, 1, 0] [14, 13, 12, 9, 4] (by kernel_rfl) (Floats.pure _ (by kernel_rfl) (by kernel_rfl)) (.cons (.tells rfl (by kernel_rfl) (by kernel_rfl) (.idx b100 (p100) x0.Frame.Locals.length c2 x0.x.A 2 (by kernel_rfl) (by kernel_rfl) g0_100 g1_100 (by kernel_rfl))) (.cons (.tells rfl (by kernel_rfl) (by kernel_rfl) (.loadRow (v := .agg #[.int .i64 ((gd y94.1 (0 : Int)).Re), .int .i64 ((gd y94.1 (0 : Int)).Im)]) H 4 rfl g0_99 g1_99 0 2 rfl (fun _ e => by rcases e with rfl; kernel_rfl) (by kernel_rfl))) (.cons (.tells rfl (by kernel_rfl) (by kernel_rfl) (.idx b99 (p99) y94.1.length c95 (0 : Int) 2 (by kernel_rfl) (by kernel_rfl) g0_99 g1_99 (by kernel_rfl))) (.cons (.tells rfl (by kernel_rfl) rfl (.loadV H 0 rfl 18 (by kernel_rfl) (by kernel_rfl))) (.cons (.tells rfl (by kernel_rfl) rfl (.loadV H 0 rfl 3 (by kernel_rfl) (by kernel_rfl))) .nil)))))) (by kernel_rfl) (by kernel_rfl) (Does.storeRow H 2 rfl le94 (j := x0.x.A.toNat) (by have h0 := g0_100; have h1 := g1_100; omega) hb101 hc101 0 (by kernel_rfl) (by kernel_rfl) (y' := (⟨(gd y94.1 (0 : Int)).Re, (gd y94.1 (0 : Int)).Im⟩ : GValue)) (by show _ = _; kernel_rfl) fun w H => ?_)
        refine WD.spelt 55 (v := .slice (some ⟨b100, p100, none⟩) (x0.Frame.Locals.set x0.x.A.toNat (⟨(gd y94.1 (0 : Int)).Re, (gd y94.1 (0 : Int)).Im⟩ : GValue)).length c2) (by kernel_rfl) (Eq.trans (b := .slice (some ⟨b100, p100, none⟩) x0.Frame.Locals.length c2) (by kernel_rfl) (sl_len (List.length_set ..).symm)) ?_
        have H := H.recell 0 (cGrunner ({ x0 with Frame := { x0.Frame with Stack := y94.2, Locals := (x0.Frame.Locals.set x0.x.A.toNat (⟨(gd y94.1 (0 : Int)).Re, (gd y94.1 (0 : Int)).Im⟩ : GValue)) } }) a97 c97 (some ⟨b100, p100, none⟩) c2 a3 c3 a4 c4 a5 c5) rfl (by simp only [cGrunner, List.length_set, List.length_take, copied_len])
        refine WD.fin (by kernel_rfl) (Floats.of [] [] (by kernel_rfl) .nil .nil) (by kernel_rfl) (by kernel_rfl) ?_
        refine WE.region ?_
        refine WL.sg 5 (by kernel_rfl) ?_
        refine WL.does (by kernel_rfl) (by kernel_rfl) (Does.storeE H 0 (cGrunner ({ x0 with Frame := { x0.Frame with Pc := w64 (x0.Frame.Pc + 1), Stack := y94.2, Locals := (x0.Frame.Locals.set x0.x.A.toNat (⟨(gd y94.1 (0 : Int)).Re, (gd y94.1 (0 : Int)).Im⟩ : GValue)) } }) a97 c97 (some ⟨b100, p100, none⟩) c2 a3 c3 a4 c4 a5 c5) rfl (q := 1) (by kernel_rfl) (by kernel_rfl) (by kernel_rfl) fun w H => ?_)
        refine WL.fin 0 (by kernel_rfl) (by kernel_rfl) ?_
        have H := H.rowUp 3 rfl le94
        obtain rfl := Option.some.inj hr
        exact ⟨[], trivial, ⟨h94, a97, c97, (some ⟨b100, p100, none⟩), c2, a3, c3, rfl, le94, (((((H.front 3 rfl).front 3 rfl).front 3 rfl).front 3 rfl).mid 4 1)⟩⟩
      · refine WE.no (by kernel_rfl) (b := x0.x.Op == 2) (by kernel_rfl) t93 ?_
        refine WE.seq ?_
        refine WE.region ?_
        refine WL.fin 2 (by kernel_rfl) (by kernel_rfl) ?_
        rcases ite_cases hr with ⟨t102, hr⟩ | ⟨t102, hr⟩
        · refine WE.yes (by kernel_rfl) (b := x0.x.Op == 7) (by kernel_rfl) t102 ?_
          refine WE.region ?_
          obtain ⟨y103, q103, hr⟩ := bind_cases hr
          refine WL.sg 2 (by kernel_rfl) ?_
          refine WL.does (by kernel_rfl) (by kernel_rfl) (Does.call (c_frame_runner_pop x0 f4 f5 1 H q103) (by kernel_rfl) ?_)
          rintro _ w ⟨h103, a104, c104, a106, c106, rfl, le103, H⟩
          obtain ⟨⟨g0_108, g1_108⟩, hr⟩ := grd_cases hr
          obtain ⟨b108, p108, rfl⟩ := H.rowSome 4 rfl g0_108 g1_108
          refine WL.does (by kernel_rfl) (by kernel_rfl) (Does.tells (.idx b108 (p108) y103.1.length c104 (0 : Int) 2 (by kernel_rfl) (by kernel_rfl) g0_108 g1_108 (by kernel_rfl)) ?_)
          refine WL.does (by kernel_rfl) (by kernel_rfl) (Does.tells (.loadRow (v := .agg #[.int .i64 ((gd y103.1 (0 : Int)).Re), .int .i64 ((gd y103.1 (0 : Int)).Im)]) H 4 rfl g0_108 g1_108 0 2 rfl (fun _ e => by rcases e with rfl; kernel_rfl) (by kernel_rfl)) ?_)
          obtain ⟨y109, q109, hr⟩ := bind_cases hr
          refine WL.does (by kernel_rfl) (by kernel_rfl) (Does.call (c_gauss_Conj (⟨(gd y103.1 (0 : Int)).Re, (gd y103.1 (0 : Int)).Im⟩ : GValue) H q109) (by kernel_rfl) ?_)
          rintro _ w ⟨rfl, H⟩
          refine WL.does (by kernel_rfl) (by kernel_rfl) (Does.lit (K := rGValue) (B := 16) (xs := [y109]) (e := 33) H ([.int .i64 y109.Re, .int .i64 y109.Im] ++ []) (by kernel_rfl) (Rows.cons (C := [.int .i64 y109.Re, .int .i64 y109.Im]) (x := y109) (by show _ = _; kernel_rfl) Rows.nil) (by kernel_rfl) (by kernel_rfl) (by kernel_rfl) (by kernel_rfl) fun b110 w H => ?_)
          obtain ⟨y112, q112, hr⟩ := bind_cases hr
          obtain ⟨h111, le111, f111, H, bk111⟩ := (H).rowLend (Gh.refl _)
          have H := H.rowUp 1 rfl le111
          have H := H.rowUp 2 rfl (le103.trans le111)
          have H := H.rowUp 3 rfl (le103.trans le111)
          refine WL.does (by kernel_rfl) (by kernel_rfl) (Does.call (c_frame_runner_push ({ x0 with Frame := { x0.Frame with Stack := y103.2 } }) ((f4.up le103).up le111) ((f5.up le103).up le111) [y109] f111 H q112) (by kernel_rfl) ?_)
          rintro _ w ⟨h112, a113, c113, rfl, le112, H⟩
          obtain ⟨h111', le111', H⟩ := bk111 _ _ _ le112 H
          have H := H.rowFlat (h' := h111') 2 rfl (fun _ _ e => e)
          have H := H.rowFlat (h' := h111') 3 rfl (fun _ _ e => e)
          have H := H.rowFlat (h' := h111') 4 rfl (fun _ _ e => e)
          refine WL.fin 0 (by kernel_rfl) (by kernel_rfl) ?_
          refine WE.region ?_
          refine WL.sg 5 (by kernel_rfl) ?_
          refine WL.does (by kernel_rfl) (by kernel_rfl) (Does.storeE H 1 (cGrunner ({ x0 with Frame := { x0.Frame with Pc := w64 (x0.Frame.Pc + 1), Stack := y112 } }) a113 c113 a2 c2 a3 c3 a4 c4 a5 c5) rfl (q := 1) (by kernel_rfl) (by kernel_rfl) (by kernel_rfl) fun w H => ?_)
          refine WL.fin 0 (by kernel_rfl) (by kernel_rfl) ?_
          obtain rfl := Option.some.inj hr
          exact ⟨[], trivial, ⟨h111', a113, c113, a2, c2, a3, c3, rfl, (le103.trans le111'), (((((H.front 4 rfl).front 4 rfl).front 4 rfl).front 4 rfl).mid 4 2)⟩⟩
        · refine WE.no (by kernel_rfl) (b := x0.x.Op == 7) (by kernel_rfl) t102 ?_
          refine WE.seq ?_
          refine WE.region ?_
          refine WL.fin 2 (by kernel_rfl) (by kernel_rfl) ?_
          rcases ite_cases hr with ⟨t115, hr⟩ | ⟨t115, hr⟩
          · refine WE.yes (by kernel_rfl) (b := x0.x.Op == 8) (by kernel_rfl) t115 ?_
            refine WE.seq ?_
            refine WE.region ?_
            obtain ⟨y116, q116, hr⟩ := bind_cases hr
            refine WL.sg 1 (by kernel_rfl) ?_
            refine WL.does (by kernel_rfl) (by kernel_rfl) (Does.call (c_frame_runner_pop x0 f4 f5 1 H q116) (by kernel_rfl) ?_)
            rintro _ w ⟨h116, a117, c117, a119, c119, rfl, le116, H⟩
            obtain ⟨⟨g0_121, g1_121⟩, hr⟩ := grd_cases hr
            obtain ⟨b121, p121, rfl⟩ := H.rowSome 4 rfl g0_121 g1_121
            refine WL.does (by kernel_rfl) (by kernel_rfl) (Does.tells (.idx b121 (p121) y116.1.length c117 (0 : Int) 2 (by kernel_rfl) (by kernel_rfl) g0_121 g1_121 (by kernel_rfl)) ?_)
            refine WL.does (by kernel_rfl) (by kernel_rfl) (Does.tells (.loadRow (v := .agg #[.int .i64 ((gd y116.1 (0 : Int)).Re), .int .i64 ((gd y116.1 (0 : Int)).Im)]) H 4 rfl g0_121 g1_121 0 2 rfl (fun _ e => by rcases e with rfl; kernel_rfl) (by kernel_rfl)) ?_)
            refine WL.does (by kernel_rfl) (by kernel_rfl) (Does.alloc H [.int .i64 0, .int .i64 0] (by kernel_rfl) fun b122 w H => ?_)
            refine WL.does (by kernel_rfl) (by kernel_rfl) (Does.storeE H 0 [.int .i64 ((gd y116.1 (0 : Int)).Re), .int .i64 ((gd y116.1 (0 : Int)).Im)] rfl (q := 0) (by kernel_rfl) (by kernel_rfl) (by kernel_rfl) fun w H => ?_)
            refine WL.fin 0 (by kernel_rfl) (by kernel_rfl) ?_
            refine WE.region ?_
            refine WL.sg 1 (by kernel_rfl) ?_
            refine WL.does (by kernel_rfl) (by kernel_rfl) (Does.loadV H 0 rfl 0 (by kernel_rfl) (by kernel_rfl) ?_)
            refine WL.does (by kernel_rfl) (by kernel_rfl) (Does.loadV H 0 rfl 0 (by kernel_rfl) (by kernel_rfl) ?_)
            refine WL.does (by kernel_rfl) (by kernel_rfl) (Does.lit (K := rGValue) (B := 16) (xs := [(⟨(gd y116.1 (0 : Int)).Re, (gd y116.1 (0 : Int)).Im⟩ : GValue), (⟨(gd y116.1 (0 : Int)).Re, (gd y116.1 (0 : Int)).Im⟩ : GValue)]) (e := 33) H ([.int .i64 ((gd y116.1 (0 : Int)).Re), .int .i64 ((gd y116.1 (0 : Int)).Im)] ++ ([.int .i64 ((gd y116.1 (0 : Int)).Re), .int .i64 ((gd y116.1 (0 : Int)).Im)] ++ [])) (by kernel_rfl) (Rows.cons (C := [.int .i64 ((gd y116.1 (0 : Int)).Re), .int .i64 ((gd y116.1 (0 : Int)).Im)]) (x := (⟨(gd y116.1 (0 : Int)).Re, (gd y116.1 (0 : Int)).Im⟩ : GValue)) (by show _ = _; kernel_rfl) (Rows.cons (C := [.int .i64 ((gd y116.1 (0 : Int)).Re), .int .i64 ((gd y116.1 (0 : Int)).Im)]) (x := (⟨(gd y116.1 (0 : Int)).Re, (gd y116.1 (0 : Int)).Im⟩ : GValue)) (by show _ = _; kernel_rfl) Rows.nil)) (by kernel_rfl) (by kernel_rfl) (by kernel_rfl) (by kernel_rfl) fun b123 w H => ?_)
            obtain ⟨y125, q125, hr⟩ := bind_cases hr
            obtain ⟨h124, le124, f124, H, bk124⟩ := (H).rowLend (Gh.refl _)
            have H := H.rowUp 2 rfl le124
            have H := H.rowUp 3 rfl (le116.trans le124)
            have H := H.rowUp 4 rfl (le116.trans le124)
            refine WL.does (by kernel_rfl) (by kernel_rfl) (Does.call (c_frame_runner_push ({ x0 with Frame := { x0.Frame with Stack := y116.2 } }) ((f4.up le116).up le124) ((f5.up le116).up le124) [(⟨(gd y116.1 (0 : Int)).Re, (gd y116.1 (0 : Int)).Im⟩ : GValue), (⟨(gd y116.1 (0 : Int)).Re, (gd y116.1 (0 : Int)).Im⟩ : GValue)] f124 ((((((H.front 5 rfl).front 1 rfl).front 5 rfl).front 5 rfl).front 5 rfl).front 5 rfl) q125) (by kernel_rfl) ?_)
            rintro _ w ⟨h125, a126, c126, rfl, le125, H⟩
            obtain ⟨h124', le124', H⟩ := bk124 _ _ _ le125 H
            have H := H.rowFlat (h' := h124') 2 rfl (fun _ _ e => e)
            have H := H.rowFlat (h' := h124') 3 rfl (fun _ _ e => e)
            have H := H.rowFlat (h' := h124') 4 rfl (fun _ _ e => e)
            refine WL.fin 0 (by kernel_rfl) (by kernel_rfl) ?_
            refine WE.region ?_
            refine WL.sg 5 (by kernel_rfl) ?_
            refine WL.does (by kernel_rfl) (by kernel_rfl) (Does.storeE H 1 (cGrunner ({ x0 with Frame := { x0.Frame with Pc := w64 (x0.Frame.Pc + 1), Stack := y125 } }) a126 c126 a2 c2 a3 c3 a4 c4 a5 c5) rfl (q := 1) (by kernel_rfl) (by kernel_rfl) (by kernel_rfl) fun w H => ?_)
            refine WL.fin 0 (by kernel_rfl) (by kernel_rfl) ?_
            obtain rfl := Option.some.inj hr
            exact ⟨[], trivial, ⟨h124', a126, c126, a2, c2, a3, c3, rfl, (le116.trans le124'), (((((H.front 4 rfl).front 4 rfl).front 4 rfl).front 4 rfl).mid 4 3)⟩⟩
          · refine WE.no (by kernel_rfl) (b := x0.x.Op == 8) (by kernel_rfl) t115 ?_
            refine WE.seq ?_
            refine WE.region ?_
            refine WL.fin 2 (by kernel_rfl) (by kernel_rfl) ?_
            rcases ite_cases hr with ⟨t128, hr⟩ | ⟨t128, hr⟩
            · refine WE.yes (by kernel_rfl) (b := x0.x.Op == 9) (by kernel_rfl) t128 ?_
              refine WE.region ?_
              obtain ⟨y129, q129, hr⟩ := bind_cases hr
              refine WL.sg 1 (by kernel_rfl) ?_
              refine WL.does (by kernel_rfl) (by kernel_rfl) (Does.call (c_frame_runner_pop x0 f4 f5 1 H q129) (by kernel_rfl) ?_)
              rintro _ w ⟨h129, a130, c130, a132, c132, rfl, le129, H⟩
              refine WL.fin 0 (by kernel_rfl) (by kernel_rfl) ?_
              refine WE.region ?_
              refine WL.sg 5 (by kernel_rfl) ?_
              refine WL.does (by kernel_rfl) (by kernel_rfl) (Does.storeE H 0 (cGrunner ({ x0 with Frame := { x0.Frame with Pc := w64 (x0.Frame.Pc + 1), Stack := y129.2 } }) a132 c132 a2 c2 a3 c3 a4 c4 a5 c5) rfl (q := 1) (by kernel_rfl) (by kernel_rfl) (by kernel_rfl) fun w H => ?_)
              refine WL.fin 0 (by kernel_rfl) (by kernel_rfl) ?_
              have H := H.rowUp 2 rfl le129
              have H := H.rowUp 3 rfl le129
              obtain rfl := Option.some.inj hr
              exact ⟨[], trivial, ⟨h129, a132, c132, a2, c2, a3, c3, rfl, le129, (((((H.front 3 rfl).front 3 rfl).front 3 rfl).front 3 rfl).mid 4 1)⟩⟩
            · refine WE.no (by kernel_rfl) (b := x0.x.Op == 9) (by kernel_rfl) t128 ?_
              refine WE.seq ?_
              refine WE.region ?_
              refine WL.fin 2 (by kernel_rfl) (by kernel_rfl) ?_
              rcases ite_cases hr with ⟨t134, hr⟩ | ⟨t134, hr⟩
              · refine WE.yes (by kernel_rfl) (b := x0.x.Op == 10) (by kernel_rfl) t134 ?_
                refine WE.region ?_
                refine WL.sg 4 (by kernel_rfl) ?_
                refine WL.does (by kernel_rfl) (by kernel_rfl) (Does.loadV H 0 rfl 18 (by kernel_rfl) (by kernel_rfl) ?_)
                refine WL.fin 1 (by kernel_rfl) (by kernel_rfl) ?_
                refine WE.region ?_
                refine WL.sg 5 (by kernel_rfl) ?_
                refine WL.does (by kernel_rfl) (by kernel_rfl) (Does.storeE H 0 (cGrunner ({ x0 with Frame := { x0.Frame with Pc := x0.x.A } }) a1 c1 a2 c2 a3 c3 a4 c4 a5 c5) rfl (q := 1) (by kernel_rfl) (by kernel_rfl) (by kernel_rfl) fun w H => ?_)
                refine WL.fin 0 (by kernel_rfl) (by kernel_rfl) ?_
                obtain rfl := Option.some.inj hr
                exact ⟨[], trivial, ⟨h, a1, c1, a2, c2, a3, c3, rfl, (Gh.refl _), H⟩⟩
              · refine WE.no (by kernel_rfl) (b := x0.x.Op == 10) (by kernel_rfl) t134 ?_
                refine WE.seq ?_
                refine WE.region ?_
                refine WL.fin 2 (by kernel_rfl) (by kernel_rfl) ?_
                rcases ite_cases hr with ⟨t135, hr⟩ | ⟨t135, hr⟩
                · refine WE.yes (by kernel_rfl) (b := x0.x.Op == 11) (by kernel_rfl) t135 ?_
                  refine WE.seq ?_
                  refine WE.region ?_
                  obtain ⟨y136, q136, hr⟩ := bind_cases hr
                  refine WL.sg 1 (by kernel_rfl) ?_
                  refine WL.does (by kernel_rfl) (by kernel_rfl) (Does.call (c_frame_runner_pop x0 f4 f5 1 H q136) (by kernel_rfl) ?_)
                  rintro _ w ⟨h136, a137, c137, a139, c139, rfl, le136, H⟩
                  obtain ⟨⟨g0_141, g1_141⟩, hr⟩ := grd_cases hr
                  obtain ⟨b141, p141, rfl⟩ := H.rowSome 4 rfl g0_141 g1_141
                  refine WL.does (by kernel_rfl) (by kernel_rfl) (Does.tells (.idx b141 (p141) y136.1.length c137 (0 : Int) 2 (by kernel_rfl) (by kernel_rfl) g0_141 g1_141 (by kernel_rfl)) ?_)
                  refine WL.does (by kernel_rfl) (by kernel_rfl) (Does.tells (.loadRow (v := .agg #[.int .i64 ((gd y136.1 (0 : Int)).Re), .int .i64 ((gd y136.1 (0 : Int)).Im)]) H 4 rfl g0_141 g1_141 0 2 rfl (fun _ e => by rcases e with rfl; kernel_rfl) (by kernel_rfl)) ?_)
                  refine WL.does (by kernel_rfl) (by kernel_rfl) (Does.alloc H [.int .i64 0, .int .i64 0] (by kernel_rfl) fun b142 w H => ?_)
                  refine WL.does (by kernel_rfl) (by kernel_rfl) (Does.storeE H 0 [.int .i64 ((gd y136.1 (0 : Int)).Re), .int .i64 ((gd y136.1 (0 : Int)).Im)] rfl (q := 0) (by kernel_rfl) (by kernel_rfl) (by kernel_rfl) fun w H => ?_)
                  refine WL.fin 0 (by kernel_rfl) (by kernel_rfl) ?_
                  refine WE.seq ?_
                  refine WE.region ?_
                  refine WL.sg 1 (by kernel_rfl) ?_
                  refine WL.does (by kernel_rfl) (by kernel_rfl) (Does.loadV H 0 rfl 0 (by kernel_rfl) (by kernel_rfl) ?_)
                  refine WL.sg 1 (by kernel_rfl) ?_
                  refine WL.does (by kernel_rfl) (by kernel_rfl) (Does.loadV H 0 rfl 1 (by kernel_rfl) (by kernel_rfl) ?_)
                  obtain ⟨y143, q143, hr⟩ := bnd_cases hr
                  refine WL.does (by kernel_rfl) (by kernel_rfl) (Does.call (c_gauss_Of ((gd y136.1 (0 : Int)).Re) ((gd y136.1 (0 : Int)).Im) H q143) (by kernel_rfl) ?_)
                  rintro _ w ⟨rfl, H⟩
                  refine WL.sg 1 (by kernel_rfl) ?_
                  refine WL.does (by kernel_rfl) (by kernel_rfl) (Does.tells (.eql ((y143.Re == 0) && ((y143.Im == 0) && true)) (by kernel_rfl) (by kernel_rfl) (by kernel_rfl)) ?_)
                  refine WL.fin 0 (by kernel_rfl) (by kernel_rfl) ?_
                  rcases ite_cases hr with ⟨t144, hr⟩ | ⟨t144, hr⟩
                  · refine WE.yes (by kernel_rfl) (b := (y143.Re == 0) && ((y143.Im == 0) && true)) (by kernel_rfl) t144 ?_
                    refine WE.region ?_
                    refine WL.sg 4 (by kernel_rfl) ?_
                    refine WL.does (by kernel_rfl) (by kernel_rfl) (Does.loadV H 1 rfl 18 (by kernel_rfl) (by kernel_rfl) ?_)
                    refine WL.fin 1 (by kernel_rfl) (by kernel_rfl) ?_
                    refine WE.region ?_
                    refine WL.sg 5 (by kernel_rfl) ?_
                    refine WL.does (by kernel_rfl) (by kernel_rfl) (Does.storeE H 1 (cGrunner ({ x0 with Frame := { x0.Frame with Pc := x0.x.A, Stack := y136.2 } }) a139 c139 a2 c2 a3 c3 a4 c4 a5 c5) rfl (q := 1) (by kernel_rfl) (by kernel_rfl) (by kernel_rfl) fun w H => ?_)
                    refine WL.fin 0 (by kernel_rfl) (by kernel_rfl) ?_
                    have H := H.rowUp 3 rfl le136
                    have H := H.rowUp 4 rfl le136
                    obtain rfl := Option.some.inj hr
                    exact ⟨[], trivial, ⟨h136, a139, c139, a2, c2, a3, c3, rfl, le136, (((((H.front 4 rfl).front 4 rfl).front 4 rfl).front 4 rfl).mid 4 2)⟩⟩
                  · refine WE.no (by kernel_rfl) (b := (y143.Re == 0) && ((y143.Im == 0) && true)) (by kernel_rfl) t144 ?_
                    refine WE.skip ?_
                    refine WE.region ?_
                    refine WL.sg 5 (by kernel_rfl) ?_
                    refine WL.does (by kernel_rfl) (by kernel_rfl) (Does.storeE H 1 (cGrunner ({ x0 with Frame := { x0.Frame with Pc := w64 (x0.Frame.Pc + 1), Stack := y136.2 } }) a139 c139 a2 c2 a3 c3 a4 c4 a5 c5) rfl (q := 1) (by kernel_rfl) (by kernel_rfl) (by kernel_rfl) fun w H => ?_)
                    refine WL.fin 0 (by kernel_rfl) (by kernel_rfl) ?_
                    have H := H.rowUp 3 rfl le136
                    have H := H.rowUp 4 rfl le136
                    obtain rfl := Option.some.inj hr
                    exact ⟨[], trivial, ⟨h136, a139, c139, a2, c2, a3, c3, rfl, le136, (((((H.front 4 rfl).front 4 rfl).front 4 rfl).front 4 rfl).mid 4 2)⟩⟩
                · refine WE.no (by kernel_rfl) (b := x0.x.Op == 11) (by kernel_rfl) t135 ?_
                  refine WE.seq ?_
                  refine WE.region ?_
                  refine WL.fin 2 (by kernel_rfl) (by kernel_rfl) ?_
                  rcases ite_cases hr with ⟨t145, hr⟩ | ⟨t145, hr⟩
                  · refine WE.yes (by kernel_rfl) (b := x0.x.Op == 12) (by kernel_rfl) t145 ?_
                    refine WE.seq ?_
                    refine WE.draws mo [0, 2] (ρ' := [(0, .pointer (some ⟨b_0, 0, none⟩)), (2, .int .i64 (w64 (x0.Frame.Pc + 1)))]) (by kernel_rfl) fun w e1 e2 e3 e4 => ?_
                    have H := H.same e1 e2 e3 e4
                    clear e1 e2 e3 e4
                    refine WD.know [0] (by kernel_rfl) ?_
                    refine WD.know [1] (by kernel_rfl) ?_
                    refine WD.know [2] (by kernel_rfl) ?_
                    refine WD.know [3] (by kernel_rfl) ?_
                    refine WD.know [4] (by kernel_rfl) ?_
                    refine WD.told 5 123 (.int .i64 x0.Frame.Seed) (by kernel_rfl) (by kernel_rfl) ?_
                    refine WD.know [6] (by kernel_rfl) ?_
                    refine WD.know [7] (by kernel_rfl) ?_
                    refine WD.know [8] (by kernel_rfl) ?_
                    refine WD.know [9] (by kernel_rfl) ?_
                    refine WD.told 10 128 (.int .i64 x0.Frame.Draws) (by kernel_rfl) (by kernel_rfl) ?_
                    obtain ⟨y146, q146, hr⟩ := bind_cases hr
                    refine WD.does 11 (by kernel_rfl) rfl (Floats.of [9, 8, 7, 6, 4, 3, 2, 1, 0] [10, 5] (by kernel_rfl) (Floats.pure _ (by kernel_rfl) (by kernel_rfl)) (.cons (.tells rfl (by kernel_rfl) rfl (.loadV H 0 rfl 7 (by kernel_rfl) (by kernel_rfl))) (.cons (.tells rfl (by kernel_rfl) rfl (.loadV H 0 rfl 5 (by kernel_rfl) (by kernel_rfl))) .nil))) (by kernel_rfl) (by kernel_rfl) (Does.call (c_seed_Draw K x0.Frame.Seed x0.Frame.Draws H q146) (by kernel_rfl) ?_)
                    rintro _ w ⟨rfl, H⟩
                    refine WD.does 12 (by kernel_rfl) rfl (Floats.of [9, 8, 7, 6, 4, 3, 2, 1, 0] [] (by kernel_rfl) (Floats.pure _ (by kernel_rfl) (by kernel_rfl)) .nil) (by kernel_rfl) (by kernel_rfl) (Does.lit (K := rGValue) (B := 16) (xs := [y146]) (e := 33) H ([.int .i64 y146.Re, .int .i64 y146.Im] ++ []) (by kernel_rfl) (Rows.cons (C := [.int .i64 y146.Re, .int .i64 y146.Im]) (x := y146) (by show _ = _; kernel_rfl) Rows.nil) (by kernel_rfl) (by kernel_rfl) (by kernel_rfl) (by kernel_rfl) fun b147 w H => ?_)
                    obtain ⟨y149, q149, hr⟩ := bind_cases hr
                    obtain ⟨h148, le148, f148, H, bk148⟩ := (H).rowLend (Gh.refl _)
                    have H := H.rowUp 1 rfl le148
                    have H := H.rowUp 2 rfl le148
                    have H := H.rowUp 3 rfl le148
                    refine WD.does 13 (by kernel_rfl) rfl (Floats.of [9, 8, 7, 6, 4, 3, 2, 1, 0] [] (by kernel_rfl) (Floats.pure _ (by kernel_rfl) (by kernel_rfl)) .nil) (by kernel_rfl) (by kernel_rfl) (Does.call (c_frame_runner_push x0 (f4.up le148) (f5.up le148) [y146] f148 H q149) (by kernel_rfl) ?_)
                    rintro _ w ⟨h149, a150, c150, rfl, le149, H⟩
                    obtain ⟨h148', le148', H⟩ := bk148 _ _ _ le149 H
                    have H := H.rowFlat (h' := h148') 2 rfl (fun _ _ e => e)
                    have H := H.rowFlat (h' := h148') 3 rfl (fun _ _ e => e)
                    have H := H.rowFlat (h' := h148') 4 rfl (fun _ _ e => e)
                    refine WD.fin (by kernel_rfl) (Floats.of [9, 8, 7, 6, 4, 3, 2, 1] [] (by kernel_rfl) (Floats.pure _ (by kernel_rfl) (by kernel_rfl)) .nil) (by kernel_rfl) (by kernel_rfl) ?_
                    refine WE.region ?_
                    refine WL.sg 4 (by kernel_rfl) ?_
                    refine WL.does (by kernel_rfl) (by kernel_rfl) (Does.loadV H 1 rfl 7 (by kernel_rfl) (by kernel_rfl) ?_)
                    refine WL.sg 4 (by kernel_rfl) ?_
                    refine WL.does (by kernel_rfl) (by kernel_rfl) (Does.storeE H 1 (cGrunner ({ x0 with Frame := { x0.Frame with Stack := y149, Draws := w64 (x0.Frame.Draws + 1) } }) a150 c150 a2 c2 a3 c3 a4 c4 a5 c5) rfl (q := 7) (by kernel_rfl) (by kernel_rfl) (by kernel_rfl) fun w H => ?_)
                    refine WL.fin 0 (by kernel_rfl) (by kernel_rfl) ?_
                    refine WE.region ?_
                    refine WL.sg 5 (by kernel_rfl) ?_
                    refine WL.does (by kernel_rfl) (by kernel_rfl) (Does.storeE H 1 (cGrunner ({ x0 with Frame := { x0.Frame with Pc := w64 (x0.Frame.Pc + 1), Stack := y149, Draws := w64 (x0.Frame.Draws + 1) } }) a150 c150 a2 c2 a3 c3 a4 c4 a5 c5) rfl (q := 1) (by kernel_rfl) (by kernel_rfl) (by kernel_rfl) fun w H => ?_)
                    refine WL.fin 0 (by kernel_rfl) (by kernel_rfl) ?_
                    obtain rfl := Option.some.inj hr
                    exact ⟨[], trivial, ⟨h148', a150, c150, a2, c2, a3, c3, rfl, le148', (H.keep 1)⟩⟩
                  · refine WE.no (by kernel_rfl) (b := x0.x.Op == 12) (by kernel_rfl) t145 ?_
                    refine WE.skip ?_
                    refine WE.region ?_
                    refine WL.sg 5 (by kernel_rfl) ?_
                    refine WL.does (by kernel_rfl) (by kernel_rfl) (Does.storeE H 0 (cGrunner ({ x0 with Frame := { x0.Frame with Pc := w64 (x0.Frame.Pc + 1) } }) a1 c1 a2 c2 a3 c3 a4 c4 a5 c5) rfl (q := 1) (by kernel_rfl) (by kernel_rfl) (by kernel_rfl) fun w H => ?_)
                    refine WL.fin 0 (by kernel_rfl) (by kernel_rfl) ?_
                    obtain rfl := Option.some.inj hr
                    exact ⟨[], trivial, ⟨h, a1, c1, a2, c2, a3, c3, rfl, (Gh.refl _), H⟩⟩
end Go.Proofs.Ytcoepljalekglaa.FrameStill.W
