/- The walk of FrameGives and of what it calls, part 4: printed by a program of this work. -/
import Derived.Test.YtpfmbkknhcbeaaaFrameGivesW3
set_option linter.unusedVariables false
set_option linter.unusedSimpArgs false
namespace Go.Proofs.Ytpfmbkknhcbeaaa.FrameGives.W
open Go.Proofs.Ytpfmbkknhcbeaaa.G2 Go.Proofs
attribute [local irreducible] WE WL LP WD Does Tells
def law09_FrameGives (K : Nat) (x0 : GFrame) (x1 : GA2_Int) (x2 : GA2_GOut) : Option Bool :=
  (law09_fixed K).bind fun y7 =>
  bnd (
      if !y7 then
        true
      else
        bnd (r09_Small x0) fun y55 =>
        !y55) fun y8 =>
  if y8 then
    (law09_fixed K).bind fun y11 =>
    some y11
  else
    (frame_Give x0 x1.e0 x2.e0).bind fun y12 =>
    if !y12.2 then
      (r09_Same K y12.1 x0).bind fun y18 =>
      some y18
    else
      (frame_Give y12.1 x1.e0 x2.e1).bind fun y19 =>
      (
          if y19.2 then
            some true
          else
            (r09_Same K y12.1 y19.1).bind fun y54 =>
            some (!y54)).bind fun y24 =>
      bnd (
          if y24 then
            true
          else
            bnd (
                if y12.1.State == 1 then
                  y12.1.Wait == x1.e0
                else
                  false) fun y53 =>
            y53) fun y26 =>
      bnd (
          if y26 then
            true
          else
            (y12.1.Slots.length : Int) != (x0.Slots.length : Int)) fun y28 =>
      bnd (
          if y28 then
            true
          else
            decide (x1.e0 < 0)) fun y29 =>
      bnd (
          if y29 then
            true
          else
            decide (x1.e0 ≥ (y12.1.Slots.length : Int))) fun y30 =>
      if y30 then
        some false
      else
        if 0 ≤ x1.e0 ∧ x1.e0 < y12.1.Slots.length then
          if !((((gd y12.1.Slots x1.e0).Out.Trap) == x2.e0.Trap) && (((((gd y12.1.Slots x1.e0).Out.V.Re) == x2.e0.V.Re) && ((((gd y12.1.Slots x1.e0).Out.V.Im) == x2.e0.V.Im) && true)) && true)) then
            some false
          else
            if 0 ≤ x1.e0 ∧ x1.e0 < y12.1.Slots.length then
              if ((gd y12.1.Slots x1.e0).State) != 2 then
                some false
              else
                if x1.e0 == x1.e1 then
                  some true
                else
                  (frame_Give y12.1 x1.e1 x2.e1).bind fun y37 =>
                  (frame_Give x0 x1.e1 x2.e1).bind fun y42 =>
                  (frame_Give y42.1 x1.e0 x2.e0).bind fun y47 =>
                  (r09_Same K y37.1 y47.1).bind fun y52 =>
                  some y52
            else none
        else none
set_option maxRecDepth 100000 in
theorem c_law09_FrameGives {w0 w : World} {h : Gh} {L : List Ent} (K : Nat) (x0 : GFrame) {a1 : Option Addr} {c1 : Nat} {a2 : Option Addr} {c2 : Nat} {a3 : Option Addr} {c3 : Nat} (f1 : Sl rGValue 16 h a1 c1 x0.Stack) (f2 : Sl rGValue 16 h a2 c2 x0.Locals) (f3 : Sl rGSlot 48 h a3 c3 x0.Slots) (x1 : GA2_Int) (x2 : GA2_GOut) (H : St w0 h w L) {r : Bool} (hr : law09_FrameGives K x0 x1 x2 = some r) : Calls Try.prog 5 #[.agg (cGFrame x0 a1 c1 a2 c2 a3 c3).toArray, .agg #[.int .i64 x1.e0, .int .i64 x1.e1], .agg (cGA2_GOut x2).toArray] w (fun e w' => ∃ v, e = .returned v ∧ v = .bool r ∧ St w0 h w' (L)) := by
  refine calls_of (args := [.agg (cGFrame x0 a1 c1 a2 c2 a3 c3).toArray, .agg #[.int .i64 x1.e0, .int .i64 x1.e1], .agg (cGA2_GOut x2).toArray]) (n := 144) (rs := [.tmp 6]) Try.func5 rfl rfl rfl rfl rfl ?_
  unfold law09_FrameGives at hr
  refine WE.seq ?_
  refine WE.region ?_
  refine WL.does (by kernel_rfl) (by kernel_rfl) (Does.box H (cGFrame x0 a1 c1 a2 c2 a3 c3) (by kernel_rfl) fun b4 w H => ?_)
  refine WL.does (by kernel_rfl) (by kernel_rfl) (Does.box H [.int .i64 x1.e0, .int .i64 x1.e1] (by kernel_rfl) fun b5 w H => ?_)
  refine WL.does (by kernel_rfl) (by kernel_rfl) (Does.box H (cGA2_GOut x2) (by kernel_rfl) fun b6 w H => ?_)
  refine WL.fin 1 (by kernel_rfl) (by kernel_rfl) ?_
  refine WE.seq ?_
  refine WE.seq ?_
  refine WE.region ?_
  obtain ⟨y7, q7, hr⟩ := bind_cases hr
  refine WL.does (by kernel_rfl) (by kernel_rfl) (Does.call (c_law09_fixed K H q7) (by kernel_rfl) ?_)
  rintro _ w ⟨rfl, H⟩
  refine WL.sg 2 (by kernel_rfl) ?_
  obtain ⟨y8, hy8, hr⟩ := bnd_cases hr
  refine WL.join 4 (fun (_ : Unit) => [(3, .pointer (some ⟨b4, 0, none⟩)), (4, .pointer (some ⟨b5, 0, none⟩)), (5, .pointer (some ⟨b6, 0, none⟩)), (23, .bool y8)]) (fun (_ : Unit) w => St w0 h w (var b6 (cGA2_GOut x2) 57 :: var b5 [.int .i64 x1.e0, .int .i64 x1.e1] 56 :: var b4 (cGFrame x0 a1 c1 a2 c2 a3 c3) 40 :: L)) ?_ (fun hk_y8 => ?_)
  · rintro _ w H
    refine WL.fin 0 (by kernel_rfl) (by kernel_rfl) ?_
    rcases ite_cases hr with ⟨t10, hr⟩ | ⟨t10, hr⟩
    · refine WE.yes (by kernel_rfl) (b := y8) (by kernel_rfl) t10 ?_
      refine WE.seq ?_
      refine WE.region ?_
      obtain ⟨y11, q11, hr⟩ := bind_cases hr
      refine WL.does (by kernel_rfl) (by kernel_rfl) (Does.call (c_law09_fixed K H q11) (by kernel_rfl) ?_)
      rintro _ w ⟨rfl, H⟩
      refine WL.fin 1 (by kernel_rfl) (by kernel_rfl) ?_
      obtain rfl := Option.some.inj hr
      exact WE.ret ⟨[.bool y11], ⟨⟨(by kernel_rfl), (by kernel_rfl)⟩, trivial⟩, ⟨rfl, (H.keep 3)⟩⟩
    · refine WE.no (by kernel_rfl) (b := y8) (by kernel_rfl) t10 ?_
      refine WE.skip ?_
      refine WE.seq ?_
      refine WE.region ?_
      refine WL.does (by kernel_rfl) (by kernel_rfl) (Does.loadV H 2 rfl 0 (by kernel_rfl) (by kernel_rfl) ?_)
      refine WL.sg 1 (by kernel_rfl) ?_
      refine WL.does (by kernel_rfl) (by kernel_rfl) (Does.loadV H 1 rfl 0 (by kernel_rfl) (by kernel_rfl) ?_)
      refine WL.sg 1 (by kernel_rfl) ?_
      refine WL.does (by kernel_rfl) (by kernel_rfl) (Does.loadV H 0 rfl 0 (by kernel_rfl) (by kernel_rfl) ?_)
      obtain ⟨y12, q12, hr⟩ := bind_cases hr
      refine WL.does (by kernel_rfl) (by kernel_rfl) (Does.call (c_frame_Give x0 f1 f2 f3 x1.e0 x2.e0 H q12) (by kernel_rfl) ?_)
      rintro _ w ⟨h12, a13, c13, a14, c14, a15, c15, rfl, le12, f13, f14, f15, H⟩
      refine WL.sg 3 (by kernel_rfl) ?_
      refine WL.does (by kernel_rfl) (by kernel_rfl) (Does.alloc H (cGFrame (⟨0, 0, [], [], [], 0, 0, 0, 0, 0, (⟨0, (⟨0, 0⟩ : GValue)⟩ : GOut), (⟨0, 0⟩ : GRef), 0⟩ : GFrame) none 0 none 0 none 0) (by kernel_rfl) fun b16 w H => ?_)
      refine WL.does (by kernel_rfl) (by kernel_rfl) (Does.storeE H 0 (cGFrame y12.1 a13 c13 a14 c14 a15 c15) rfl (q := 0) (by kernel_rfl) (by kernel_rfl) (by kernel_rfl) fun w H => ?_)
      refine WL.fin 1 (by kernel_rfl) (by kernel_rfl) ?_
      refine WE.seq ?_
      refine WE.seq ?_
      refine WE.region ?_
      refine WL.fin 2 (by kernel_rfl) (by kernel_rfl) ?_
      rcases ite_cases hr with ⟨t17, hr⟩ | ⟨t17, hr⟩
      · refine WE.yes (by kernel_rfl) (b := !y12.2) (by kernel_rfl) t17 ?_
        refine WE.seq ?_
        refine WE.region ?_
        refine WL.does (by kernel_rfl) (by kernel_rfl) (Does.loadV H 0 rfl 0 (by kernel_rfl) (by kernel_rfl) ?_)
        refine WL.does (by kernel_rfl) (by kernel_rfl) (Does.loadV H 3 rfl 0 (by kernel_rfl) (by kernel_rfl) ?_)
        obtain ⟨y18, q18, hr⟩ := bind_cases hr
        refine WL.does (by kernel_rfl) (by kernel_rfl) (Does.call (c_r09_Same K y12.1 f13 f14 f15 x0 (f1.up le12) (f2.up le12) (f3.up le12) H q18) (by kernel_rfl) ?_)
        rintro _ w ⟨rfl, H⟩
        refine WL.fin 1 (by kernel_rfl) (by kernel_rfl) ?_
        obtain rfl := Option.some.inj hr
        exact WE.ret ⟨[.bool y18], ⟨⟨(by kernel_rfl), (by kernel_rfl)⟩, trivial⟩, ⟨rfl, ((H.keep 4).less le12)⟩⟩
      · refine WE.no (by kernel_rfl) (b := !y12.2) (by kernel_rfl) t17 ?_
        refine WE.skip ?_
        refine WE.seq ?_
        refine WE.region ?_
        refine WL.does (by kernel_rfl) (by kernel_rfl) (Does.loadV H 0 rfl 0 (by kernel_rfl) (by kernel_rfl) ?_)
        refine WL.sg 1 (by kernel_rfl) ?_
        refine WL.does (by kernel_rfl) (by kernel_rfl) (Does.loadV H 2 rfl 0 (by kernel_rfl) (by kernel_rfl) ?_)
        refine WL.sg 1 (by kernel_rfl) ?_
        refine WL.does (by kernel_rfl) (by kernel_rfl) (Does.loadV H 1 rfl 3 (by kernel_rfl) (by kernel_rfl) ?_)
        obtain ⟨y19, q19, hr⟩ := bind_cases hr
        refine WL.does (by kernel_rfl) (by kernel_rfl) (Does.call (c_frame_Give y12.1 f13 f14 f15 x1.e0 x2.e1 H q19) (by kernel_rfl) ?_)
        rintro _ w ⟨h19, a20, c20, a21, c21, a22, c22, rfl, le19, f20, f21, f22, H⟩
        refine WL.sg 3 (by kernel_rfl) ?_
        refine WL.does (by kernel_rfl) (by kernel_rfl) (Does.alloc H (cGFrame (⟨0, 0, [], [], [], 0, 0, 0, 0, 0, (⟨0, (⟨0, 0⟩ : GValue)⟩ : GOut), (⟨0, 0⟩ : GRef), 0⟩ : GFrame) none 0 none 0 none 0) (by kernel_rfl) fun b23 w H => ?_)
        refine WL.does (by kernel_rfl) (by kernel_rfl) (Does.storeE H 0 (cGFrame y19.1 a20 c20 a21 c21 a22 c22) rfl (q := 0) (by kernel_rfl) (by kernel_rfl) (by kernel_rfl) fun w H => ?_)
        refine WL.fin 1 (by kernel_rfl) (by kernel_rfl) ?_
        refine WE.seq ?_
        refine WE.seq ?_
        refine WE.region ?_
        refine WL.sg 2 (by kernel_rfl) ?_
        obtain ⟨y24, hy24, hr⟩ := bind_cases hr
        refine WL.join 5 (fun (_ : Unit) => [(3, .pointer (some ⟨b4, 0, none⟩)), (4, .pointer (some ⟨b5, 0, none⟩)), (5, .pointer (some ⟨b6, 0, none⟩)), (7, .pointer (some ⟨b16, 0, none⟩)), (54, .bool y24)]) (fun (_ : Unit) w => St w0 h19 w (var b23 (cGFrame y19.1 a20 c20 a21 c21 a22 c22) 40 :: var b16 (cGFrame y12.1 a13 c13 a14 c14 a15 c15) 40 :: var b6 (cGA2_GOut x2) 57 :: var b5 [.int .i64 x1.e0, .int .i64 x1.e1] 56 :: var b4 (cGFrame x0 a1 c1 a2 c2 a3 c3) 40 :: L)) ?_ (fun hk_y24 => ?_)
        · rintro _ w H
          refine WL.sg 1 (by kernel_rfl) ?_
          obtain ⟨y26, hy26, hr⟩ := bnd_cases hr
          refine WL.join 11 (fun (_ : Unit) => [(3, .pointer (some ⟨b4, 0, none⟩)), (4, .pointer (some ⟨b5, 0, none⟩)), (5, .pointer (some ⟨b6, 0, none⟩)), (7, .pointer (some ⟨b16, 0, none⟩)), (66, .bool y26)]) (fun (_ : Unit) w => St w0 h19 w (var b23 (cGFrame y19.1 a20 c20 a21 c21 a22 c22) 40 :: var b16 (cGFrame y12.1 a13 c13 a14 c14 a15 c15) 40 :: var b6 (cGA2_GOut x2) 57 :: var b5 [.int .i64 x1.e0, .int .i64 x1.e1] 56 :: var b4 (cGFrame x0 a1 c1 a2 c2 a3 c3) 40 :: L)) ?_ (fun hk_y26 => ?_)
          · rintro _ w H
            refine WL.sg 1 (by kernel_rfl) ?_
            obtain ⟨y28, hy28, hr⟩ := bnd_cases hr
            refine WL.join 8 (fun (_ : Unit) => [(3, .pointer (some ⟨b4, 0, none⟩)), (4, .pointer (some ⟨b5, 0, none⟩)), (5, .pointer (some ⟨b6, 0, none⟩)), (7, .pointer (some ⟨b16, 0, none⟩)), (75, .bool y28)]) (fun (_ : Unit) w => St w0 h19 w (var b23 (cGFrame y19.1 a20 c20 a21 c21 a22 c22) 40 :: var b16 (cGFrame y12.1 a13 c13 a14 c14 a15 c15) 40 :: var b6 (cGA2_GOut x2) 57 :: var b5 [.int .i64 x1.e0, .int .i64 x1.e1] 56 :: var b4 (cGFrame x0 a1 c1 a2 c2 a3 c3) 40 :: L)) ?_ (fun hk_y28 => ?_)
            · rintro _ w H
              refine WL.sg 1 (by kernel_rfl) ?_
              obtain ⟨y29, hy29, hr⟩ := bnd_cases hr
              refine WL.join 4 (fun (_ : Unit) => [(3, .pointer (some ⟨b4, 0, none⟩)), (4, .pointer (some ⟨b5, 0, none⟩)), (5, .pointer (some ⟨b6, 0, none⟩)), (7, .pointer (some ⟨b16, 0, none⟩)), (80, .bool y29)]) (fun (_ : Unit) w => St w0 h19 w (var b23 (cGFrame y19.1 a20 c20 a21 c21 a22 c22) 40 :: var b16 (cGFrame y12.1 a13 c13 a14 c14 a15 c15) 40 :: var b6 (cGA2_GOut x2) 57 :: var b5 [.int .i64 x1.e0, .int .i64 x1.e1] 56 :: var b4 (cGFrame x0 a1 c1 a2 c2 a3 c3) 40 :: L)) ?_ (fun hk_y29 => ?_)
              · rintro _ w H
                refine WL.sg 1 (by kernel_rfl) ?_
                obtain ⟨y30, hy30, hr⟩ := bnd_cases hr
                refine WL.join 7 (fun (_ : Unit) => [(3, .pointer (some ⟨b4, 0, none⟩)), (4, .pointer (some ⟨b5, 0, none⟩)), (5, .pointer (some ⟨b6, 0, none⟩)), (7, .pointer (some ⟨b16, 0, none⟩)), (88, .bool y30)]) (fun (_ : Unit) w => St w0 h19 w (var b23 (cGFrame y19.1 a20 c20 a21 c21 a22 c22) 40 :: var b16 (cGFrame y12.1 a13 c13 a14 c14 a15 c15) 40 :: var b6 (cGA2_GOut x2) 57 :: var b5 [.int .i64 x1.e0, .int .i64 x1.e1] 56 :: var b4 (cGFrame x0 a1 c1 a2 c2 a3 c3) 40 :: L)) ?_ (fun hk_y30 => ?_)
                · rintro _ w H
                  refine WL.fin 0 (by kernel_rfl) (by kernel_rfl) ?_
                  rcases ite_cases hr with ⟨t31, hr⟩ | ⟨t31, hr⟩
                  · refine WE.yes (by kernel_rfl) (b := y30) (by kernel_rfl) t31 ?_
                    refine WE.seq ?_
                    refine WE.region ?_
                    refine WL.fin 1 (by kernel_rfl) (by kernel_rfl) ?_
                    obtain rfl := Option.some.inj hr
                    exact WE.ret ⟨[.bool false], ⟨⟨(by kernel_rfl), (by kernel_rfl)⟩, trivial⟩, ⟨rfl, ((H.keep 5).less (le12.trans le19))⟩⟩
                  · refine WE.no (by kernel_rfl) (b := y30) (by kernel_rfl) t31 ?_
                    refine WE.skip ?_
                    refine WE.seq ?_
                    refine WE.seq ?_
                    refine WE.draws mo [3, 4, 5, 7] (ρ' := [(3, .pointer (some ⟨b4, 0, none⟩)), (4, .pointer (some ⟨b5, 0, none⟩)), (5, .pointer (some ⟨b6, 0, none⟩)), (7, .pointer (some ⟨b16, 0, none⟩))]) (by kernel_rfl) fun w e1 e2 e3 e4 => ?_
                    have H := H.same e1 e2 e3 e4
                    clear e1 e2 e3 e4
                    refine WD.know [0] (by kernel_rfl) ?_
                    refine WD.told 1 90 (.slice a15 y12.1.Slots.length c15) (by kernel_rfl) (by kernel_rfl) ?_
                    refine WD.know [2] (by kernel_rfl) ?_
                    refine WD.told 3 92 (.int .i64 x1.e0) (by kernel_rfl) (by kernel_rfl) ?_
                    obtain ⟨⟨g0_32, g1_32⟩, hr⟩ := grd_cases hr
                    obtain ⟨b32, p32, C32, e32, fr32, cs32, rfl, hb32, hc32, rfl⟩ := (f15.up le19).at g0_32 g1_32
                    refine WD.told 4 93 (.pointer (some ⟨b32, p32 + x1.e0.toNat * 6, none⟩)) (by kernel_rfl) (by kernel_rfl) ?_
                    refine WD.know [5] (by kernel_rfl) ?_
                    refine WD.told 6 95 (.agg #[.int .i64 ((gd y12.1.Slots x1.e0).Out.Trap), .int .i64 ((gd y12.1.Slots x1.e0).Out.V.Re), .int .i64 ((gd y12.1.Slots x1.e0).Out.V.Im)]) (by kernel_rfl) (by kernel_rfl) ?_
                    refine WD.know [7] (by kernel_rfl) ?_
                    refine WD.told 8 97 (.agg #[.int .i64 x2.e0.Trap, .int .i64 x2.e0.V.Re, .int .i64 x2.e0.V.Im]) (by kernel_rfl) (by kernel_rfl) ?_
                    refine WD.told 9 98 (.bool (!((((gd y12.1.Slots x1.e0).Out.Trap) == x2.e0.Trap) && (((((gd y12.1.Slots x1.e0).Out.V.Re) == x2.e0.V.Re) && ((((gd y12.1.Slots x1.e0).Out.V.Im) == x2.e0.V.Im) && true)) && true)))) (by kernel_rfl) (by kernel_rfl) ?_
                    refine WD.know [10] (by kernel_rfl) ?_
                    rcases ite_cases hr with ⟨t33, hr⟩ | ⟨t33, hr⟩
                    · refine WD.known 99 t33 (by kernel_rfl) (by kernel_rfl) ?_
                      refine WD.know [11] (by kernel_rfl) ?_
                      refine WD.know [12] (by kernel_rfl) ?_
                      refine WD.know [13] (by kernel_rfl) ?_
                      refine WD.know [14] (by kernel_rfl) ?_
                      refine WD.know [15] (by kernel_rfl) ?_
                      refine WD.know [16] (by kernel_rfl) ?_
                      refine WD.know [17] (by kernel_rfl) ?_
                      refine WD.know [18] (by kernel_rfl) ?_
                      refine WD.know [19] (by kernel_rfl) ?_
                      refine WD.fin (by kernel_rfl) (Floats.of [19, 18, 17, 16, 15, 14, 13, 12, 11, 7, 5, 2, 0] [10, 9, 8, 6, 4, 3, 1] (by kernel_rfl) (Floats.pure _ (by kernel_rfl) (by kernel_rfl)) (.cons (.tells rfl (by kernel_rfl) (by kernel_rfl) (.calmB t33 (by kernel_rfl))) (.cons (.tells rfl (by kernel_rfl) (by kernel_rfl) (.neq ((((gd y12.1.Slots x1.e0).Out.Trap) == x2.e0.Trap) && (((((gd y12.1.Slots x1.e0).Out.V.Re) == x2.e0.V.Re) && ((((gd y12.1.Slots x1.e0).Out.V.Im) == x2.e0.V.Im) && true)) && true)) (by kernel_rfl) (by kernel_rfl) (by kernel_rfl))) (.cons (.tells rfl (by kernel_rfl) rfl (.loadV H 2 rfl 0 (by kernel_rfl) (by kernel_rfl))) (.cons (.tells rfl (by kernel_rfl) rfl (.loadR H hb32 hc32 3 (by kernel_rfl) (by kernel_rfl))) (.cons (.tells rfl (by kernel_rfl) (by kernel_rfl) (.idx b32 (p32) y12.1.Slots.length c15 x1.e0 6 (by kernel_rfl) (by kernel_rfl) g0_32 g1_32 (by kernel_rfl))) (.cons (.tells rfl (by kernel_rfl) rfl (.loadV H 3 rfl 0 (by kernel_rfl) (by kernel_rfl))) (.cons (.tells rfl (by kernel_rfl) rfl (.loadV H 1 rfl 4 (by kernel_rfl) (by kernel_rfl))) .nil)))))))) (by kernel_rfl) (by kernel_rfl) ?_
                      refine WE.yes (by kernel_rfl) (b := true) (by kernel_rfl) rfl ?_
                      refine WE.seq ?_
                      refine WE.region ?_
                      refine WL.fin 1 (by kernel_rfl) (by kernel_rfl) ?_
                      obtain rfl := Option.some.inj hr
                      exact WE.ret ⟨[.bool false], ⟨⟨(by kernel_rfl), (by kernel_rfl)⟩, trivial⟩, ⟨rfl, ((H.keep 5).less (le12.trans le19))⟩⟩
                    · refine WD.known 99 t33 (by kernel_rfl) (by kernel_rfl) ?_
                      refine WD.know [11] (by kernel_rfl) ?_
                      refine WD.told 12 101 (.slice (some ⟨b32, p32, none⟩) y12.1.Slots.length c15) (by kernel_rfl) (by kernel_rfl) ?_
                      refine WD.know [13] (by kernel_rfl) ?_
                      refine WD.told 14 103 (.int .i64 x1.e0) (by kernel_rfl) (by kernel_rfl) ?_
                      obtain ⟨⟨g0_34, g1_34⟩, hr⟩ := grd_cases hr
                      obtain ⟨C34, e34, fr34, cs34, hb34, hc34, rfl⟩ := (f15.up le19).at2 g0_34 g1_34
                      refine WD.told 15 104 (.pointer (some ⟨b32, p32 + x1.e0.toNat * 6, none⟩)) (by kernel_rfl) (by kernel_rfl) ?_
                      refine WD.know [16] (by kernel_rfl) ?_
                      refine WD.told 17 106 (.int .i64 ((gd y12.1.Slots x1.e0).State)) (by kernel_rfl) (by kernel_rfl) ?_
                      refine WD.know [18] (by kernel_rfl) ?_
                      refine WD.know [19] (by kernel_rfl) ?_
                      refine WD.fin (by kernel_rfl) (Floats.of [19, 18, 16, 13, 11, 7, 5, 2, 0] [17, 15, 14, 12, 10, 9, 8, 6, 4, 3, 1] (by kernel_rfl) (Floats.pure _ (by kernel_rfl) (by kernel_rfl)) (.cons (.tells rfl (by kernel_rfl) rfl (.loadR H hb34 hc34 0 (by kernel_rfl) (by kernel_rfl))) (.cons (.tells rfl (by kernel_rfl) (by kernel_rfl) (.idx b32 (p32) y12.1.Slots.length c15 x1.e0 6 (by kernel_rfl) (by kernel_rfl) g0_34 g1_34 (by kernel_rfl))) (.cons (.tells rfl (by kernel_rfl) rfl (.loadV H 3 rfl 0 (by kernel_rfl) (by kernel_rfl))) (.cons (.tells rfl (by kernel_rfl) rfl (.loadV H 1 rfl 4 (by kernel_rfl) (by kernel_rfl))) (.cons (.tells rfl (by kernel_rfl) (by kernel_rfl) (.calmB t33 (by kernel_rfl))) (.cons (.tells rfl (by kernel_rfl) (by kernel_rfl) (.neq ((((gd y12.1.Slots x1.e0).Out.Trap) == x2.e0.Trap) && (((((gd y12.1.Slots x1.e0).Out.V.Re) == x2.e0.V.Re) && ((((gd y12.1.Slots x1.e0).Out.V.Im) == x2.e0.V.Im) && true)) && true)) (by kernel_rfl) (by kernel_rfl) (by kernel_rfl))) (.cons (.tells rfl (by kernel_rfl) rfl (.loadV H 2 rfl 0 (by kernel_rfl) (by kernel_rfl))) (.cons (.tells rfl (by kernel_rfl) rfl (.loadR H hb32 hc32 3 (by kernel_rfl) (by kernel_rfl))) (.cons (.tells rfl (by kernel_rfl) (by kernel_rfl) (.idx b32 (p32) y12.1.Slots.length c15 x1.e0 6 (by kernel_rfl) (by kernel_rfl) g0_32 g1_32 (by kernel_rfl))) (.cons (.tells rfl (by kernel_rfl) rfl (.loadV H 3 rfl 0 (by kernel_rfl) (by kernel_rfl))) (.cons (.tells rfl (by kernel_rfl) rfl (.loadV H 1 rfl 4 (by kernel_rfl) (by kernel_rfl))) .nil)))))))))))) (by kernel_rfl) (by kernel_rfl) ?_
                      rcases ite_cases hr with ⟨t35, hr⟩ | ⟨t35, hr⟩
                      · refine WE.yes (by kernel_rfl) (b := ((gd y12.1.Slots x1.e0).State) != 2) (by kernel_rfl) t35 ?_
                        refine WE.seq ?_
                        refine WE.region ?_
                        refine WL.fin 1 (by kernel_rfl) (by kernel_rfl) ?_
                        obtain rfl := Option.some.inj hr
                        exact WE.ret ⟨[.bool false], ⟨⟨(by kernel_rfl), (by kernel_rfl)⟩, trivial⟩, ⟨rfl, ((H.keep 5).less (le12.trans le19))⟩⟩
                      · refine WE.no (by kernel_rfl) (b := ((gd y12.1.Slots x1.e0).State) != 2) (by kernel_rfl) t35 ?_
                        refine WE.skip ?_
                        refine WE.seq ?_
                        refine WE.seq ?_
                        refine WE.region ?_
                        refine WL.sg 1 (by kernel_rfl) ?_
                        refine WL.does (by kernel_rfl) (by kernel_rfl) (Does.loadV H 3 rfl 0 (by kernel_rfl) (by kernel_rfl) ?_)
                        refine WL.sg 1 (by kernel_rfl) ?_
                        refine WL.does (by kernel_rfl) (by kernel_rfl) (Does.loadV H 3 rfl 1 (by kernel_rfl) (by kernel_rfl) ?_)
                        refine WL.fin 1 (by kernel_rfl) (by kernel_rfl) ?_
                        rcases ite_cases hr with ⟨t36, hr⟩ | ⟨t36, hr⟩
                        · refine WE.yes (by kernel_rfl) (b := x1.e0 == x1.e1) (by kernel_rfl) t36 ?_
                          refine WE.seq ?_
                          refine WE.region ?_
                          refine WL.fin 1 (by kernel_rfl) (by kernel_rfl) ?_
                          obtain rfl := Option.some.inj hr
                          exact WE.ret ⟨[.bool true], ⟨⟨(by kernel_rfl), (by kernel_rfl)⟩, trivial⟩, ⟨rfl, ((H.keep 5).less (le12.trans le19))⟩⟩
                        · refine WE.no (by kernel_rfl) (b := x1.e0 == x1.e1) (by kernel_rfl) t36 ?_
                          refine WE.skip ?_
                          refine WE.seq ?_
                          refine WE.region ?_
                          refine WL.does (by kernel_rfl) (by kernel_rfl) (Does.loadV H 1 rfl 0 (by kernel_rfl) (by kernel_rfl) ?_)
                          refine WL.sg 1 (by kernel_rfl) ?_
                          refine WL.does (by kernel_rfl) (by kernel_rfl) (Does.loadV H 3 rfl 1 (by kernel_rfl) (by kernel_rfl) ?_)
                          refine WL.sg 1 (by kernel_rfl) ?_
                          refine WL.does (by kernel_rfl) (by kernel_rfl) (Does.loadV H 2 rfl 3 (by kernel_rfl) (by kernel_rfl) ?_)
                          obtain ⟨y37, q37, hr⟩ := bind_cases hr
                          refine WL.does (by kernel_rfl) (by kernel_rfl) (Does.call (c_frame_Give y12.1 (f13.up le19) (f14.up le19) (f15.up le19) x1.e1 x2.e1 H q37) (by kernel_rfl) ?_)
                          rintro _ w ⟨h37, a38, c38, a39, c39, a40, c40, rfl, le37, f38, f39, f40, H⟩
                          refine WL.sg 3 (by kernel_rfl) ?_
                          refine WL.does (by kernel_rfl) (by kernel_rfl) (Does.alloc H (cGFrame (⟨0, 0, [], [], [], 0, 0, 0, 0, 0, (⟨0, (⟨0, 0⟩ : GValue)⟩ : GOut), (⟨0, 0⟩ : GRef), 0⟩ : GFrame) none 0 none 0 none 0) (by kernel_rfl) fun b41 w H => ?_)
                          refine WL.does (by kernel_rfl) (by kernel_rfl) (Does.storeE H 0 (cGFrame y37.1 a38 c38 a39 c39 a40 c40) rfl (q := 0) (by kernel_rfl) (by kernel_rfl) (by kernel_rfl) fun w H => ?_)
                          refine WL.fin 1 (by kernel_rfl) (by kernel_rfl) ?_
                          refine WE.seq ?_
                          refine WE.region ?_
                          refine WL.does (by kernel_rfl) (by kernel_rfl) (Does.loadV H 5 rfl 0 (by kernel_rfl) (by kernel_rfl) ?_)
                          refine WL.sg 1 (by kernel_rfl) ?_
                          refine WL.does (by kernel_rfl) (by kernel_rfl) (Does.loadV H 4 rfl 1 (by kernel_rfl) (by kernel_rfl) ?_)
                          refine WL.sg 1 (by kernel_rfl) ?_
                          refine WL.does (by kernel_rfl) (by kernel_rfl) (Does.loadV H 3 rfl 3 (by kernel_rfl) (by kernel_rfl) ?_)
                          obtain ⟨y42, q42, hr⟩ := bind_cases hr
                          refine WL.does (by kernel_rfl) (by kernel_rfl) (Does.call (c_frame_Give x0 (((f1.up le12).up le19).up le37) (((f2.up le12).up le19).up le37) (((f3.up le12).up le19).up le37) x1.e1 x2.e1 H q42) (by kernel_rfl) ?_)
                          rintro _ w ⟨h42, a43, c43, a44, c44, a45, c45, rfl, le42, f43, f44, f45, H⟩
                          refine WL.sg 3 (by kernel_rfl) ?_
                          refine WL.does (by kernel_rfl) (by kernel_rfl) (Does.alloc H (cGFrame (⟨0, 0, [], [], [], 0, 0, 0, 0, 0, (⟨0, (⟨0, 0⟩ : GValue)⟩ : GOut), (⟨0, 0⟩ : GRef), 0⟩ : GFrame) none 0 none 0 none 0) (by kernel_rfl) fun b46 w H => ?_)
                          refine WL.does (by kernel_rfl) (by kernel_rfl) (Does.storeE H 0 (cGFrame y42.1 a43 c43 a44 c44 a45 c45) rfl (q := 0) (by kernel_rfl) (by kernel_rfl) (by kernel_rfl) fun w H => ?_)
                          refine WL.fin 1 (by kernel_rfl) (by kernel_rfl) ?_
                          refine WE.seq ?_
                          refine WE.region ?_
                          refine WL.does (by kernel_rfl) (by kernel_rfl) (Does.loadV H 0 rfl 0 (by kernel_rfl) (by kernel_rfl) ?_)
                          refine WL.sg 1 (by kernel_rfl) ?_
                          refine WL.does (by kernel_rfl) (by kernel_rfl) (Does.loadV H 5 rfl 0 (by kernel_rfl) (by kernel_rfl) ?_)
                          refine WL.sg 1 (by kernel_rfl) ?_
                          refine WL.does (by kernel_rfl) (by kernel_rfl) (Does.loadV H 4 rfl 0 (by kernel_rfl) (by kernel_rfl) ?_)
                          obtain ⟨y47, q47, hr⟩ := bind_cases hr
                          refine WL.does (by kernel_rfl) (by kernel_rfl) (Does.call (c_frame_Give y42.1 f43 f44 f45 x1.e0 x2.e0 H q47) (by kernel_rfl) ?_)
                          rintro _ w ⟨h47, a48, c48, a49, c49, a50, c50, rfl, le47, f48, f49, f50, H⟩
                          refine WL.sg 3 (by kernel_rfl) ?_
                          refine WL.does (by kernel_rfl) (by kernel_rfl) (Does.alloc H (cGFrame (⟨0, 0, [], [], [], 0, 0, 0, 0, 0, (⟨0, (⟨0, 0⟩ : GValue)⟩ : GOut), (⟨0, 0⟩ : GRef), 0⟩ : GFrame) none 0 none 0 none 0) (by kernel_rfl) fun b51 w H => ?_)
                          refine WL.does (by kernel_rfl) (by kernel_rfl) (Does.storeE H 0 (cGFrame y47.1 a48 c48 a49 c49 a50 c50) rfl (q := 0) (by kernel_rfl) (by kernel_rfl) (by kernel_rfl) fun w H => ?_)
                          refine WL.fin 1 (by kernel_rfl) (by kernel_rfl) ?_
                          refine WE.seq ?_
                          refine WE.region ?_
                          refine WL.does (by kernel_rfl) (by kernel_rfl) (Does.loadV H 2 rfl 0 (by kernel_rfl) (by kernel_rfl) ?_)
                          refine WL.does (by kernel_rfl) (by kernel_rfl) (Does.loadV H 0 rfl 0 (by kernel_rfl) (by kernel_rfl) ?_)
                          obtain ⟨y52, q52, hr⟩ := bind_cases hr
                          refine WL.does (by kernel_rfl) (by kernel_rfl) (Does.call (c_r09_Same K y37.1 ((f38.up le42).up le47) ((f39.up le42).up le47) ((f40.up le42).up le47) y47.1 f48 f49 f50 H q52) (by kernel_rfl) ?_)
                          rintro _ w ⟨rfl, H⟩
                          refine WL.fin 1 (by kernel_rfl) (by kernel_rfl) ?_
                          obtain rfl := Option.some.inj hr
                          exact WE.ret ⟨[.bool y52], ⟨⟨(by kernel_rfl), (by kernel_rfl)⟩, trivial⟩, ⟨rfl, ((H.keep 8).less ((((le12.trans le19).trans le37).trans le42).trans le47))⟩⟩
                rcases ite_cases hy30 with ⟨ty30, hy30⟩ | ⟨ty30, hy30⟩
                · refine WL.known 81 ty30 (by kernel_rfl) (by kernel_rfl) ?_
                  refine WL.sg 7 (by kernel_rfl) ?_
                  obtain rfl := hy30
                  exact WL.live [3, 4, 5, 7, 88] (by kernel_rfl) (hk_y30 () _ H)
                · refine WL.known 81 ty30 (by kernel_rfl) (by kernel_rfl) ?_
                  refine WL.sg 1 (by kernel_rfl) ?_
                  refine WL.does (by kernel_rfl) (by kernel_rfl) (Does.loadV H 3 rfl 0 (by kernel_rfl) (by kernel_rfl) ?_)
                  refine WL.sg 1 (by kernel_rfl) ?_
                  refine WL.does (by kernel_rfl) (by kernel_rfl) (Does.loadV H 1 rfl 4 (by kernel_rfl) (by kernel_rfl) ?_)
                  refine WL.sg 3 (by kernel_rfl) ?_
                  obtain rfl := hy30
                  exact WL.live [3, 4, 5, 7, 88] (by kernel_rfl) (hk_y30 () _ H)
              rcases ite_cases hy29 with ⟨ty29, hy29⟩ | ⟨ty29, hy29⟩
              · refine WL.known 76 ty29 (by kernel_rfl) (by kernel_rfl) ?_
                refine WL.sg 4 (by kernel_rfl) ?_
                obtain rfl := hy29
                exact WL.live [3, 4, 5, 7, 80] (by kernel_rfl) (hk_y29 () _ H)
              · refine WL.known 76 ty29 (by kernel_rfl) (by kernel_rfl) ?_
                refine WL.sg 1 (by kernel_rfl) ?_
                refine WL.does (by kernel_rfl) (by kernel_rfl) (Does.loadV H 3 rfl 0 (by kernel_rfl) (by kernel_rfl) ?_)
                refine WL.sg 2 (by kernel_rfl) ?_
                obtain rfl := hy29
                exact WL.live [3, 4, 5, 7, 80] (by kernel_rfl) (hk_y29 () _ H)
            rcases ite_cases hy28 with ⟨ty28, hy28⟩ | ⟨ty28, hy28⟩
            · refine WL.known 67 ty28 (by kernel_rfl) (by kernel_rfl) ?_
              refine WL.sg 8 (by kernel_rfl) ?_
              obtain rfl := hy28
              exact WL.live [3, 4, 5, 7, 75] (by kernel_rfl) (hk_y28 () _ H)
            · refine WL.known 67 ty28 (by kernel_rfl) (by kernel_rfl) ?_
              refine WL.sg 1 (by kernel_rfl) ?_
              refine WL.does (by kernel_rfl) (by kernel_rfl) (Does.loadV H 1 rfl 4 (by kernel_rfl) (by kernel_rfl) ?_)
              refine WL.sg 2 (by kernel_rfl) ?_
              refine WL.does (by kernel_rfl) (by kernel_rfl) (Does.loadV H 4 rfl 4 (by kernel_rfl) (by kernel_rfl) ?_)
              refine WL.sg 3 (by kernel_rfl) ?_
              obtain rfl := hy28
              exact WL.live [3, 4, 5, 7, 75] (by kernel_rfl) (hk_y28 () _ H)
          rcases ite_cases hy26 with ⟨ty26, hy26⟩ | ⟨ty26, hy26⟩
          · refine WL.known 55 ty26 (by kernel_rfl) (by kernel_rfl) ?_
            refine WL.sg 11 (by kernel_rfl) ?_
            obtain rfl := hy26
            exact WL.live [3, 4, 5, 7, 66] (by kernel_rfl) (hk_y26 () _ H)
          · refine WL.known 55 ty26 (by kernel_rfl) (by kernel_rfl) ?_
            refine WL.sg 1 (by kernel_rfl) ?_
            refine WL.does (by kernel_rfl) (by kernel_rfl) (Does.loadV H 1 rfl 8 (by kernel_rfl) (by kernel_rfl) ?_)
            refine WL.sg 2 (by kernel_rfl) ?_
            obtain ⟨y53, hy53, hy26⟩ := bnd_cases hy26
            refine WL.join 6 (fun (_ : Unit) => [(3, .pointer (some ⟨b4, 0, none⟩)), (4, .pointer (some ⟨b5, 0, none⟩)), (5, .pointer (some ⟨b6, 0, none⟩)), (7, .pointer (some ⟨b16, 0, none⟩)), (55, .bool false), (65, .bool y53)]) (fun (_ : Unit) w => St w0 h19 w (var b23 (cGFrame y19.1 a20 c20 a21 c21 a22 c22) 40 :: var b16 (cGFrame y12.1 a13 c13 a14 c14 a15 c15) 40 :: var b6 (cGA2_GOut x2) 57 :: var b5 [.int .i64 x1.e0, .int .i64 x1.e1] 56 :: var b4 (cGFrame x0 a1 c1 a2 c2 a3 c3) 40 :: L)) ?_ (fun hk_y53 => ?_)
            · rintro _ w H
              refine WL.sg 1 (by kernel_rfl) ?_
              obtain rfl := hy26
              exact WL.live [3, 4, 5, 7, 66] (by kernel_rfl) (hk_y26 () _ H)
            rcases ite_cases hy53 with ⟨ty53, hy53⟩ | ⟨ty53, hy53⟩
            · refine WL.known 59 ty53 (by kernel_rfl) (by kernel_rfl) ?_
              refine WL.sg 1 (by kernel_rfl) ?_
              refine WL.does (by kernel_rfl) (by kernel_rfl) (Does.loadV H 1 rfl 9 (by kernel_rfl) (by kernel_rfl) ?_)
              refine WL.sg 1 (by kernel_rfl) ?_
              refine WL.does (by kernel_rfl) (by kernel_rfl) (Does.loadV H 3 rfl 0 (by kernel_rfl) (by kernel_rfl) ?_)
              refine WL.sg 2 (by kernel_rfl) ?_
              obtain rfl := hy53
              exact WL.live [3, 4, 5, 7, 55, 65] (by kernel_rfl) (hk_y53 () _ H)
            · refine WL.known 59 ty53 (by kernel_rfl) (by kernel_rfl) ?_
              refine WL.sg 6 (by kernel_rfl) ?_
              obtain rfl := hy53
              exact WL.live [3, 4, 5, 7, 55, 65] (by kernel_rfl) (hk_y53 () _ H)
        rcases ite_cases hy24 with ⟨ty24, hy24⟩ | ⟨ty24, hy24⟩
        · refine WL.known 49 ty24 (by kernel_rfl) (by kernel_rfl) ?_
          refine WL.sg 5 (by kernel_rfl) ?_
          obtain rfl := Option.some.inj hy24
          exact WL.live [3, 4, 5, 7, 54] (by kernel_rfl) (hk_y24 () _ H)
        · refine WL.known 49 ty24 (by kernel_rfl) (by kernel_rfl) ?_
          refine WL.does (by kernel_rfl) (by kernel_rfl) (Does.loadV H 1 rfl 0 (by kernel_rfl) (by kernel_rfl) ?_)
          refine WL.does (by kernel_rfl) (by kernel_rfl) (Does.loadV H 0 rfl 0 (by kernel_rfl) (by kernel_rfl) ?_)
          obtain ⟨y54, q54, hy24⟩ := bind_cases hy24
          refine WL.does (by kernel_rfl) (by kernel_rfl) (Does.call (c_r09_Same K y12.1 (f13.up le19) (f14.up le19) (f15.up le19) y19.1 f20 f21 f22 H q54) (by kernel_rfl) ?_)
          rintro _ w ⟨rfl, H⟩
          refine WL.sg 2 (by kernel_rfl) ?_
          obtain rfl := Option.some.inj hy24
          exact WL.live [3, 4, 5, 7, 54] (by kernel_rfl) (hk_y24 () _ H)
  rcases ite_cases hy8 with ⟨ty8, hy8⟩ | ⟨ty8, hy8⟩
  · refine WL.known 19 ty8 (by kernel_rfl) (by kernel_rfl) ?_
    refine WL.sg 4 (by kernel_rfl) ?_
    obtain rfl := hy8
    exact WL.live [3, 4, 5, 23] (by kernel_rfl) (hk_y8 () _ H)
  · refine WL.known 19 ty8 (by kernel_rfl) (by kernel_rfl) ?_
    refine WL.does (by kernel_rfl) (by kernel_rfl) (Does.loadV H 2 rfl 0 (by kernel_rfl) (by kernel_rfl) ?_)
    obtain ⟨y55, q55, hy8⟩ := bnd_cases hy8
    refine WL.does (by kernel_rfl) (by kernel_rfl) (Does.call (c_r09_Small x0 f1 f2 f3 H q55) (by kernel_rfl) ?_)
    rintro _ w ⟨rfl, H⟩
    refine WL.sg 2 (by kernel_rfl) ?_
    obtain rfl := hy8
    exact WL.live [3, 4, 5, 23] (by kernel_rfl) (hk_y8 () _ H)
end Go.Proofs.Ytpfmbkknhcbeaaa.FrameGives.W
