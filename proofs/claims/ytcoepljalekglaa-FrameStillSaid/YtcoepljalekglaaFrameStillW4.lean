/- The walk of FrameStill and of what it calls, part 4: printed by a program of this work. -/
import Derived.Test.YtcoepljalekglaaFrameStillW3
set_option linter.unusedVariables false
set_option linter.unusedSimpArgs false
namespace Go.Proofs.Ytcoepljalekglaa.FrameStill.W
open Go.Proofs.Ytcoepljalekglaa.G2 Go.Proofs
attribute [local irreducible] WE WL LP WD Does Tells
def law09_FrameStill (K : Nat) (x0 : List GFunc) (x1 : GFrame) : Option Bool :=
  (law09_fixed K).bind fun y6 =>
  (
      if !y6 then
        some true
      else
        (r07_Small K x0 300).bind fun y62 =>
        some (!y62)).bind fun y7 =>
  bnd (
      if y7 then
        true
      else
        bnd (r09_Small x1) fun y61 =>
        !y61) fun y9 =>
  if y9 then
    (law09_fixed K).bind fun y12 =>
    some y12
  else
    (frame_Do K x0 x1).bind fun y13 =>
    (frame_Do K x0 x1).bind fun y20 =>
    (r09_Same K y13.1 y20.1).bind fun y27 =>
    (
        if !y27 then
          some true
        else
          (r09_SameAct K y13.2 y20.2).bind fun y60 =>
          some (!y60)).bind fun y28 =>
    (
        if y28 then
          some true
        else
          (
              if x1.State != 0 then
                (r09_Same K x1 y13.1).bind fun y58 =>
                bnd (
                    if !y58 then
                      true
                    else
                      y13.2.Kind != 0) fun y59 =>
                some y59
              else
                some false).bind fun y55 =>
          some y55).bind fun y30 =>
    if y30 then
      some false
    else
      bnd (
          if y13.1.Fn != x1.Fn then
            true
          else
            y13.1.Seed != x1.Seed) fun y37 =>
      bnd (
          if y37 then
            true
          else
            !((y13.1.Up.At == x1.Up.At) && ((y13.1.Up.Gen == x1.Up.Gen) && true))) fun y38 =>
      bnd (
          if y38 then
            true
          else
            y13.1.UpSlot != x1.UpSlot) fun y39 =>
      bnd (
          if y39 then
            true
          else
            (y13.1.Locals.length : Int) != (x1.Locals.length : Int)) fun y40 =>
      bnd (
          if y40 then
            true
          else
            (y13.1.Slots.length : Int) != (x1.Slots.length : Int)) fun y41 =>
      if y41 then
        some false
      else
        bnd (
            if y13.1.Spawned == x1.Spawned then
              true
            else
              bnd (
                  if y13.2.Kind == 2 then
                    y13.1.Spawned == (w64 (x1.Spawned + 1))
                  else
                    false) fun y54 =>
              y54) fun y43 =>
        bnd (
            if y43 then
              bnd (
                  if y13.1.Draws == x1.Draws then
                    true
                  else
                    y13.1.Draws == (w64 (x1.Draws + 1))) fun y53 =>
              y53
            else
              false) fun y45 =>
        bnd (
            if y45 then
              bnd (
                  if y13.2.Kind == 2 then
                    true
                  else
                    (y13.2.Args.length : Int) == 0) fun y52 =>
              y52
            else
              false) fun y47 =>
        bnd (
            if y47 then
              bnd (
                  if y13.2.Kind != 4 then
                    true
                  else
                    y13.1.State == 2) fun y51 =>
              y51
            else
              false) fun y49 =>
        some y49
set_option maxRecDepth 100000 in
theorem c_law09_FrameStill {w0 w : World} {h : Gh} {L : List Ent} (K : Nat) (x0 : List GFunc) {a1 : Option Addr} {c1 : Nat} (f1 : Sl rGFunc 48 h a1 c1 x0) (x1 : GFrame) {a2 : Option Addr} {c2 : Nat} {a3 : Option Addr} {c3 : Nat} {a4 : Option Addr} {c4 : Nat} (f2 : Sl rGValue 16 h a2 c2 x1.Stack) (f3 : Sl rGValue 16 h a3 c3 x1.Locals) (f4 : Sl rGSlot 48 h a4 c4 x1.Slots) (H : St w0 h w L) {r : Bool} (hr : law09_FrameStill K x0 x1 = some r) : Calls Try.prog 4 #[.slice a1 x0.length c1, .agg (cGFrame x1 a2 c2 a3 c3 a4 c4).toArray] w (fun e w' => ∃ v, e = .returned v ∧ v = .bool r ∧ St w0 h w' (L)) := by
  refine calls_of (args := [.slice a1 x0.length c1, .agg (cGFrame x1 a2 c2 a3 c3 a4 c4).toArray]) (n := 158) (rs := [.tmp 4]) Try.func4 rfl rfl rfl rfl rfl ?_
  unfold law09_FrameStill at hr
  refine WE.seq ?_
  refine WE.region ?_
  refine WL.does (by kernel_rfl) (by kernel_rfl) (Does.box H (cGFrame x1 a2 c2 a3 c3 a4 c4) (by kernel_rfl) fun b5 w H => ?_)
  refine WL.fin 1 (by kernel_rfl) (by kernel_rfl) ?_
  refine WE.seq ?_
  refine WE.seq ?_
  refine WE.region ?_
  obtain ⟨y6, q6, hr⟩ := bind_cases hr
  refine WL.does (by kernel_rfl) (by kernel_rfl) (Does.call (c_law09_fixed K H q6) (by kernel_rfl) ?_)
  rintro _ w ⟨rfl, H⟩
  refine WL.sg 2 (by kernel_rfl) ?_
  obtain ⟨y7, hy7, hr⟩ := bind_cases hr
  refine WL.join 4 (fun (_ : Unit) => [(0, .slice a1 x0.length c1), (3, .pointer (some ⟨b5, 0, none⟩)), (15, .bool y7)]) (fun (_ : Unit) w => St w0 h w (var b5 (cGFrame x1 a2 c2 a3 c3 a4 c4) 40 :: L)) ?_ (fun hk_y7 => ?_)
  · rintro _ w H
    refine WL.sg 1 (by kernel_rfl) ?_
    obtain ⟨y9, hy9, hr⟩ := bnd_cases hr
    refine WL.join 4 (fun (_ : Unit) => [(0, .slice a1 x0.length c1), (3, .pointer (some ⟨b5, 0, none⟩)), (20, .bool y9)]) (fun (_ : Unit) w => St w0 h w (var b5 (cGFrame x1 a2 c2 a3 c3 a4 c4) 40 :: L)) ?_ (fun hk_y9 => ?_)
    · rintro _ w H
      refine WL.fin 0 (by kernel_rfl) (by kernel_rfl) ?_
      rcases ite_cases hr with ⟨t11, hr⟩ | ⟨t11, hr⟩
      · refine WE.yes (by kernel_rfl) (b := y9) (by kernel_rfl) t11 ?_
        refine WE.seq ?_
        refine WE.region ?_
        obtain ⟨y12, q12, hr⟩ := bind_cases hr
        refine WL.does (by kernel_rfl) (by kernel_rfl) (Does.call (c_law09_fixed K H q12) (by kernel_rfl) ?_)
        rintro _ w ⟨rfl, H⟩
        refine WL.fin 1 (by kernel_rfl) (by kernel_rfl) ?_
        obtain rfl := Option.some.inj hr
        exact WE.ret ⟨[.bool y12], ⟨⟨(by kernel_rfl), (by kernel_rfl)⟩, trivial⟩, ⟨rfl, (H.keep 1)⟩⟩
      · refine WE.no (by kernel_rfl) (b := y9) (by kernel_rfl) t11 ?_
        refine WE.skip ?_
        refine WE.seq ?_
        refine WE.region ?_
        refine WL.sg 1 (by kernel_rfl) ?_
        refine WL.does (by kernel_rfl) (by kernel_rfl) (Does.loadV H 0 rfl 0 (by kernel_rfl) (by kernel_rfl) ?_)
        obtain ⟨y13, q13, hr⟩ := bind_cases hr
        refine WL.does (by kernel_rfl) (by kernel_rfl) (Does.call (c_frame_Do K x0 f1 x1 f2 f3 f4 H q13) (by kernel_rfl) ?_)
        rintro _ w ⟨h13, a14, c14, a15, c15, a16, c16, a17, c17, rfl, le13, f14, f15, f16, f17, H⟩
        refine WL.sg 3 (by kernel_rfl) ?_
        refine WL.does (by kernel_rfl) (by kernel_rfl) (Does.alloc H (cGFrame (⟨0, 0, [], [], [], 0, 0, 0, 0, 0, (⟨0, (⟨0, 0⟩ : GValue)⟩ : GOut), (⟨0, 0⟩ : GRef), 0⟩ : GFrame) none 0 none 0 none 0) (by kernel_rfl) fun b18 w H => ?_)
        refine WL.does (by kernel_rfl) (by kernel_rfl) (Does.alloc H (cGAct (⟨0, 0, 0, 0, []⟩ : GAct) none 0) (by kernel_rfl) fun b19 w H => ?_)
        refine WL.does (by kernel_rfl) (by kernel_rfl) (Does.storeE H 1 (cGFrame y13.1 a14 c14 a15 c15 a16 c16) rfl (q := 0) (by kernel_rfl) (by kernel_rfl) (by kernel_rfl) fun w H => ?_)
        refine WL.does (by kernel_rfl) (by kernel_rfl) (Does.storeE H 0 (cGAct y13.2 a17 c17) rfl (q := 0) (by kernel_rfl) (by kernel_rfl) (by kernel_rfl) fun w H => ?_)
        refine WL.fin 0 (by kernel_rfl) (by kernel_rfl) ?_
        refine WE.seq ?_
        refine WE.region ?_
        refine WL.sg 1 (by kernel_rfl) ?_
        refine WL.does (by kernel_rfl) (by kernel_rfl) (Does.loadV H 2 rfl 0 (by kernel_rfl) (by kernel_rfl) ?_)
        obtain ⟨y20, q20, hr⟩ := bind_cases hr
        refine WL.does (by kernel_rfl) (by kernel_rfl) (Does.call (c_frame_Do K x0 (f1.up le13) x1 (f2.up le13) (f3.up le13) (f4.up le13) H q20) (by kernel_rfl) ?_)
        rintro _ w ⟨h20, a21, c21, a22, c22, a23, c23, a24, c24, rfl, le20, f21, f22, f23, f24, H⟩
        refine WL.sg 3 (by kernel_rfl) ?_
        refine WL.does (by kernel_rfl) (by kernel_rfl) (Does.alloc H (cGFrame (⟨0, 0, [], [], [], 0, 0, 0, 0, 0, (⟨0, (⟨0, 0⟩ : GValue)⟩ : GOut), (⟨0, 0⟩ : GRef), 0⟩ : GFrame) none 0 none 0 none 0) (by kernel_rfl) fun b25 w H => ?_)
        refine WL.does (by kernel_rfl) (by kernel_rfl) (Does.alloc H (cGAct (⟨0, 0, 0, 0, []⟩ : GAct) none 0) (by kernel_rfl) fun b26 w H => ?_)
        refine WL.does (by kernel_rfl) (by kernel_rfl) (Does.storeE H 1 (cGFrame y20.1 a21 c21 a22 c22 a23 c23) rfl (q := 0) (by kernel_rfl) (by kernel_rfl) (by kernel_rfl) fun w H => ?_)
        refine WL.does (by kernel_rfl) (by kernel_rfl) (Does.storeE H 0 (cGAct y20.2 a24 c24) rfl (q := 0) (by kernel_rfl) (by kernel_rfl) (by kernel_rfl) fun w H => ?_)
        refine WL.fin 0 (by kernel_rfl) (by kernel_rfl) ?_
        refine WE.seq ?_
        refine WE.seq ?_
        refine WE.region ?_
        refine WL.does (by kernel_rfl) (by kernel_rfl) (Does.loadV H 3 rfl 0 (by kernel_rfl) (by kernel_rfl) ?_)
        refine WL.does (by kernel_rfl) (by kernel_rfl) (Does.loadV H 1 rfl 0 (by kernel_rfl) (by kernel_rfl) ?_)
        obtain ⟨y27, q27, hr⟩ := bind_cases hr
        refine WL.does (by kernel_rfl) (by kernel_rfl) (Does.call (c_r09_Same K y13.1 (f14.up le20) (f15.up le20) (f16.up le20) y20.1 f21 f22 f23 H q27) (by kernel_rfl) ?_)
        rintro _ w ⟨rfl, H⟩
        refine WL.sg 2 (by kernel_rfl) ?_
        obtain ⟨y28, hy28, hr⟩ := bind_cases hr
        refine WL.join 5 (fun (_ : Unit) => [(3, .pointer (some ⟨b5, 0, none⟩)), (5, .pointer (some ⟨b18, 0, none⟩)), (6, .pointer (some ⟨b19, 0, none⟩)), (43, .bool y28)]) (fun (_ : Unit) w => St w0 h20 w (var b26 (cGAct y20.2 a24 c24) 50 :: var b25 (cGFrame y20.1 a21 c21 a22 c22 a23 c23) 40 :: var b19 (cGAct y13.2 a17 c17) 50 :: var b18 (cGFrame y13.1 a14 c14 a15 c15 a16 c16) 40 :: var b5 (cGFrame x1 a2 c2 a3 c3 a4 c4) 40 :: L)) ?_ (fun hk_y28 => ?_)
        · rintro _ w H
          refine WL.sg 1 (by kernel_rfl) ?_
          obtain ⟨y30, hy30, hr⟩ := bind_cases hr
          refine WL.join 15 (fun (_ : Unit) => [(3, .pointer (some ⟨b5, 0, none⟩)), (5, .pointer (some ⟨b18, 0, none⟩)), (6, .pointer (some ⟨b19, 0, none⟩)), (59, .bool y30)]) (fun (_ : Unit) w => St w0 h20 w (var b26 (cGAct y20.2 a24 c24) 50 :: var b25 (cGFrame y20.1 a21 c21 a22 c22 a23 c23) 40 :: var b19 (cGAct y13.2 a17 c17) 50 :: var b18 (cGFrame y13.1 a14 c14 a15 c15 a16 c16) 40 :: var b5 (cGFrame x1 a2 c2 a3 c3 a4 c4) 40 :: L)) ?_ (fun hk_y30 => ?_)
          · rintro _ w H
            refine WL.fin 0 (by kernel_rfl) (by kernel_rfl) ?_
            rcases ite_cases hr with ⟨t36, hr⟩ | ⟨t36, hr⟩
            · refine WE.yes (by kernel_rfl) (b := y30) (by kernel_rfl) t36 ?_
              refine WE.seq ?_
              refine WE.region ?_
              refine WL.fin 1 (by kernel_rfl) (by kernel_rfl) ?_
              obtain rfl := Option.some.inj hr
              exact WE.ret ⟨[.bool false], ⟨⟨(by kernel_rfl), (by kernel_rfl)⟩, trivial⟩, ⟨rfl, ((H.keep 5).less (le13.trans le20))⟩⟩
            · refine WE.no (by kernel_rfl) (b := y30) (by kernel_rfl) t36 ?_
              refine WE.skip ?_
              refine WE.seq ?_
              refine WE.seq ?_
              refine WE.region ?_
              refine WL.sg 1 (by kernel_rfl) ?_
              refine WL.does (by kernel_rfl) (by kernel_rfl) (Does.loadV H 3 rfl 0 (by kernel_rfl) (by kernel_rfl) ?_)
              refine WL.sg 1 (by kernel_rfl) ?_
              refine WL.does (by kernel_rfl) (by kernel_rfl) (Does.loadV H 4 rfl 0 (by kernel_rfl) (by kernel_rfl) ?_)
              refine WL.sg 2 (by kernel_rfl) ?_
              obtain ⟨y37, hy37, hr⟩ := bnd_cases hr
              refine WL.join 6 (fun (_ : Unit) => [(3, .pointer (some ⟨b5, 0, none⟩)), (5, .pointer (some ⟨b18, 0, none⟩)), (6, .pointer (some ⟨b19, 0, none⟩)), (71, .bool y37)]) (fun (_ : Unit) w => St w0 h20 w (var b26 (cGAct y20.2 a24 c24) 50 :: var b25 (cGFrame y20.1 a21 c21 a22 c22 a23 c23) 40 :: var b19 (cGAct y13.2 a17 c17) 50 :: var b18 (cGFrame y13.1 a14 c14 a15 c15 a16 c16) 40 :: var b5 (cGFrame x1 a2 c2 a3 c3 a4 c4) 40 :: L)) ?_ (fun hk_y37 => ?_)
              · rintro _ w H
                refine WL.sg 1 (by kernel_rfl) ?_
                obtain ⟨y38, hy38, hr⟩ := bnd_cases hr
                refine WL.join 6 (fun (_ : Unit) => [(3, .pointer (some ⟨b5, 0, none⟩)), (5, .pointer (some ⟨b18, 0, none⟩)), (6, .pointer (some ⟨b19, 0, none⟩)), (78, .bool y38)]) (fun (_ : Unit) w => St w0 h20 w (var b26 (cGAct y20.2 a24 c24) 50 :: var b25 (cGFrame y20.1 a21 c21 a22 c22 a23 c23) 40 :: var b19 (cGAct y13.2 a17 c17) 50 :: var b18 (cGFrame y13.1 a14 c14 a15 c15 a16 c16) 40 :: var b5 (cGFrame x1 a2 c2 a3 c3 a4 c4) 40 :: L)) ?_ (fun hk_y38 => ?_)
                · rintro _ w H
                  refine WL.sg 1 (by kernel_rfl) ?_
                  obtain ⟨y39, hy39, hr⟩ := bnd_cases hr
                  refine WL.join 6 (fun (_ : Unit) => [(3, .pointer (some ⟨b5, 0, none⟩)), (5, .pointer (some ⟨b18, 0, none⟩)), (6, .pointer (some ⟨b19, 0, none⟩)), (85, .bool y39)]) (fun (_ : Unit) w => St w0 h20 w (var b26 (cGAct y20.2 a24 c24) 50 :: var b25 (cGFrame y20.1 a21 c21 a22 c22 a23 c23) 40 :: var b19 (cGAct y13.2 a17 c17) 50 :: var b18 (cGFrame y13.1 a14 c14 a15 c15 a16 c16) 40 :: var b5 (cGFrame x1 a2 c2 a3 c3 a4 c4) 40 :: L)) ?_ (fun hk_y39 => ?_)
                  · rintro _ w H
                    refine WL.sg 1 (by kernel_rfl) ?_
                    obtain ⟨y40, hy40, hr⟩ := bnd_cases hr
                    refine WL.join 8 (fun (_ : Unit) => [(3, .pointer (some ⟨b5, 0, none⟩)), (5, .pointer (some ⟨b18, 0, none⟩)), (6, .pointer (some ⟨b19, 0, none⟩)), (94, .bool y40)]) (fun (_ : Unit) w => St w0 h20 w (var b26 (cGAct y20.2 a24 c24) 50 :: var b25 (cGFrame y20.1 a21 c21 a22 c22 a23 c23) 40 :: var b19 (cGAct y13.2 a17 c17) 50 :: var b18 (cGFrame y13.1 a14 c14 a15 c15 a16 c16) 40 :: var b5 (cGFrame x1 a2 c2 a3 c3 a4 c4) 40 :: L)) ?_ (fun hk_y40 => ?_)
                    · rintro _ w H
                      refine WL.sg 1 (by kernel_rfl) ?_
                      obtain ⟨y41, hy41, hr⟩ := bnd_cases hr
                      refine WL.join 8 (fun (_ : Unit) => [(3, .pointer (some ⟨b5, 0, none⟩)), (5, .pointer (some ⟨b18, 0, none⟩)), (6, .pointer (some ⟨b19, 0, none⟩)), (103, .bool y41)]) (fun (_ : Unit) w => St w0 h20 w (var b26 (cGAct y20.2 a24 c24) 50 :: var b25 (cGFrame y20.1 a21 c21 a22 c22 a23 c23) 40 :: var b19 (cGAct y13.2 a17 c17) 50 :: var b18 (cGFrame y13.1 a14 c14 a15 c15 a16 c16) 40 :: var b5 (cGFrame x1 a2 c2 a3 c3 a4 c4) 40 :: L)) ?_ (fun hk_y41 => ?_)
                      · rintro _ w H
                        refine WL.fin 0 (by kernel_rfl) (by kernel_rfl) ?_
                        rcases ite_cases hr with ⟨t42, hr⟩ | ⟨t42, hr⟩
                        · refine WE.yes (by kernel_rfl) (b := y41) (by kernel_rfl) t42 ?_
                          refine WE.seq ?_
                          refine WE.region ?_
                          refine WL.fin 1 (by kernel_rfl) (by kernel_rfl) ?_
                          obtain rfl := Option.some.inj hr
                          exact WE.ret ⟨[.bool false], ⟨⟨(by kernel_rfl), (by kernel_rfl)⟩, trivial⟩, ⟨rfl, ((H.keep 5).less (le13.trans le20))⟩⟩
                        · refine WE.no (by kernel_rfl) (b := y41) (by kernel_rfl) t42 ?_
                          refine WE.skip ?_
                          refine WE.seq ?_
                          refine WE.region ?_
                          refine WL.sg 1 (by kernel_rfl) ?_
                          refine WL.does (by kernel_rfl) (by kernel_rfl) (Does.loadV H 3 rfl 6 (by kernel_rfl) (by kernel_rfl) ?_)
                          refine WL.sg 1 (by kernel_rfl) ?_
                          refine WL.does (by kernel_rfl) (by kernel_rfl) (Does.loadV H 4 rfl 6 (by kernel_rfl) (by kernel_rfl) ?_)
                          refine WL.sg 2 (by kernel_rfl) ?_
                          obtain ⟨y43, hy43, hr⟩ := bnd_cases hr
                          refine WL.join 12 (fun (_ : Unit) => [(3, .pointer (some ⟨b5, 0, none⟩)), (5, .pointer (some ⟨b18, 0, none⟩)), (6, .pointer (some ⟨b19, 0, none⟩)), (121, .bool y43)]) (fun (_ : Unit) w => St w0 h20 w (var b26 (cGAct y20.2 a24 c24) 50 :: var b25 (cGFrame y20.1 a21 c21 a22 c22 a23 c23) 40 :: var b19 (cGAct y13.2 a17 c17) 50 :: var b18 (cGFrame y13.1 a14 c14 a15 c15 a16 c16) 40 :: var b5 (cGFrame x1 a2 c2 a3 c3 a4 c4) 40 :: L)) ?_ (fun hk_y43 => ?_)
                          · rintro _ w H
                            refine WL.sg 1 (by kernel_rfl) ?_
                            obtain ⟨y45, hy45, hr⟩ := bnd_cases hr
                            refine WL.join 14 (fun (_ : Unit) => [(5, .pointer (some ⟨b18, 0, none⟩)), (6, .pointer (some ⟨b19, 0, none⟩)), (136, .bool y45)]) (fun (_ : Unit) w => St w0 h20 w (var b26 (cGAct y20.2 a24 c24) 50 :: var b25 (cGFrame y20.1 a21 c21 a22 c22 a23 c23) 40 :: var b19 (cGAct y13.2 a17 c17) 50 :: var b18 (cGFrame y13.1 a14 c14 a15 c15 a16 c16) 40 :: var b5 (cGFrame x1 a2 c2 a3 c3 a4 c4) 40 :: L)) ?_ (fun hk_y45 => ?_)
                            · rintro _ w H
                              refine WL.sg 1 (by kernel_rfl) ?_
                              obtain ⟨y47, hy47, hr⟩ := bnd_cases hr
                              refine WL.join 10 (fun (_ : Unit) => [(5, .pointer (some ⟨b18, 0, none⟩)), (6, .pointer (some ⟨b19, 0, none⟩)), (147, .bool y47)]) (fun (_ : Unit) w => St w0 h20 w (var b26 (cGAct y20.2 a24 c24) 50 :: var b25 (cGFrame y20.1 a21 c21 a22 c22 a23 c23) 40 :: var b19 (cGAct y13.2 a17 c17) 50 :: var b18 (cGFrame y13.1 a14 c14 a15 c15 a16 c16) 40 :: var b5 (cGFrame x1 a2 c2 a3 c3 a4 c4) 40 :: L)) ?_ (fun hk_y47 => ?_)
                              · rintro _ w H
                                refine WL.sg 1 (by kernel_rfl) ?_
                                obtain ⟨y49, hy49, hr⟩ := bnd_cases hr
                                refine WL.join 9 (fun (_ : Unit) => [(157, .bool y49)]) (fun (_ : Unit) w => St w0 h20 w (var b26 (cGAct y20.2 a24 c24) 50 :: var b25 (cGFrame y20.1 a21 c21 a22 c22 a23 c23) 40 :: var b19 (cGAct y13.2 a17 c17) 50 :: var b18 (cGFrame y13.1 a14 c14 a15 c15 a16 c16) 40 :: var b5 (cGFrame x1 a2 c2 a3 c3 a4 c4) 40 :: L)) ?_ (fun hk_y49 => ?_)
                                · rintro _ w H
                                  refine WL.fin 1 (by kernel_rfl) (by kernel_rfl) ?_
                                  obtain rfl := Option.some.inj hr
                                  exact WE.ret ⟨[.bool y49], ⟨⟨(by kernel_rfl), (by kernel_rfl)⟩, trivial⟩, ⟨rfl, ((H.keep 5).less (le13.trans le20))⟩⟩
                                rcases ite_cases hy49 with ⟨ty49, hy49⟩ | ⟨ty49, hy49⟩
                                · refine WL.known 148 ty49 (by kernel_rfl) (by kernel_rfl) ?_
                                  refine WL.sg 1 (by kernel_rfl) ?_
                                  refine WL.does (by kernel_rfl) (by kernel_rfl) (Does.loadV H 2 rfl 0 (by kernel_rfl) (by kernel_rfl) ?_)
                                  refine WL.sg 2 (by kernel_rfl) ?_
                                  obtain ⟨y51, hy51, hy49⟩ := bnd_cases hy49
                                  refine WL.join 4 (fun (_ : Unit) => [(148, .bool true), (156, .bool y51)]) (fun (_ : Unit) w => St w0 h20 w (var b26 (cGAct y20.2 a24 c24) 50 :: var b25 (cGFrame y20.1 a21 c21 a22 c22 a23 c23) 40 :: var b19 (cGAct y13.2 a17 c17) 50 :: var b18 (cGFrame y13.1 a14 c14 a15 c15 a16 c16) 40 :: var b5 (cGFrame x1 a2 c2 a3 c3 a4 c4) 40 :: L)) ?_ (fun hk_y51 => ?_)
                                  · rintro _ w H
                                    refine WL.sg 1 (by kernel_rfl) ?_
                                    obtain rfl := hy49
                                    exact WL.live [157] (by kernel_rfl) (hk_y49 () _ H)
                                  rcases ite_cases hy51 with ⟨ty51, hy51⟩ | ⟨ty51, hy51⟩
                                  · refine WL.known 152 ty51 (by kernel_rfl) (by kernel_rfl) ?_
                                    refine WL.sg 4 (by kernel_rfl) ?_
                                    obtain rfl := hy51
                                    exact WL.live [148, 156] (by kernel_rfl) (hk_y51 () _ H)
                                  · refine WL.known 152 ty51 (by kernel_rfl) (by kernel_rfl) ?_
                                    refine WL.sg 1 (by kernel_rfl) ?_
                                    refine WL.does (by kernel_rfl) (by kernel_rfl) (Does.loadV H 3 rfl 8 (by kernel_rfl) (by kernel_rfl) ?_)
                                    refine WL.sg 2 (by kernel_rfl) ?_
                                    obtain rfl := hy51
                                    exact WL.live [148, 156] (by kernel_rfl) (hk_y51 () _ H)
                                · refine WL.known 148 ty49 (by kernel_rfl) (by kernel_rfl) ?_
                                  refine WL.sg 9 (by kernel_rfl) ?_
                                  obtain rfl := hy49
                                  exact WL.live [157] (by kernel_rfl) (hk_y49 () _ H)
                              rcases ite_cases hy47 with ⟨ty47, hy47⟩ | ⟨ty47, hy47⟩
                              · refine WL.known 137 ty47 (by kernel_rfl) (by kernel_rfl) ?_
                                refine WL.sg 1 (by kernel_rfl) ?_
                                refine WL.does (by kernel_rfl) (by kernel_rfl) (Does.loadV H 2 rfl 0 (by kernel_rfl) (by kernel_rfl) ?_)
                                refine WL.sg 2 (by kernel_rfl) ?_
                                obtain ⟨y52, hy52, hy47⟩ := bnd_cases hy47
                                refine WL.join 5 (fun (_ : Unit) => [(5, .pointer (some ⟨b18, 0, none⟩)), (6, .pointer (some ⟨b19, 0, none⟩)), (137, .bool true), (146, .bool y52)]) (fun (_ : Unit) w => St w0 h20 w (var b26 (cGAct y20.2 a24 c24) 50 :: var b25 (cGFrame y20.1 a21 c21 a22 c22 a23 c23) 40 :: var b19 (cGAct y13.2 a17 c17) 50 :: var b18 (cGFrame y13.1 a14 c14 a15 c15 a16 c16) 40 :: var b5 (cGFrame x1 a2 c2 a3 c3 a4 c4) 40 :: L)) ?_ (fun hk_y52 => ?_)
                                · rintro _ w H
                                  refine WL.sg 1 (by kernel_rfl) ?_
                                  obtain rfl := hy47
                                  exact WL.live [5, 6, 147] (by kernel_rfl) (hk_y47 () _ H)
                                rcases ite_cases hy52 with ⟨ty52, hy52⟩ | ⟨ty52, hy52⟩
                                · refine WL.known 141 ty52 (by kernel_rfl) (by kernel_rfl) ?_
                                  refine WL.sg 5 (by kernel_rfl) ?_
                                  obtain rfl := hy52
                                  exact WL.live [5, 6, 137, 146] (by kernel_rfl) (hk_y52 () _ H)
                                · refine WL.known 141 ty52 (by kernel_rfl) (by kernel_rfl) ?_
                                  refine WL.sg 1 (by kernel_rfl) ?_
                                  refine WL.does (by kernel_rfl) (by kernel_rfl) (Does.loadV H 2 rfl 4 (by kernel_rfl) (by kernel_rfl) ?_)
                                  refine WL.sg 3 (by kernel_rfl) ?_
                                  obtain rfl := hy52
                                  exact WL.live [5, 6, 137, 146] (by kernel_rfl) (hk_y52 () _ H)
                              · refine WL.known 137 ty47 (by kernel_rfl) (by kernel_rfl) ?_
                                refine WL.sg 10 (by kernel_rfl) ?_
                                obtain rfl := hy47
                                exact WL.live [5, 6, 147] (by kernel_rfl) (hk_y47 () _ H)
                            rcases ite_cases hy45 with ⟨ty45, hy45⟩ | ⟨ty45, hy45⟩
                            · refine WL.known 122 ty45 (by kernel_rfl) (by kernel_rfl) ?_
                              refine WL.sg 1 (by kernel_rfl) ?_
                              refine WL.does (by kernel_rfl) (by kernel_rfl) (Does.loadV H 3 rfl 7 (by kernel_rfl) (by kernel_rfl) ?_)
                              refine WL.sg 1 (by kernel_rfl) ?_
                              refine WL.does (by kernel_rfl) (by kernel_rfl) (Does.loadV H 4 rfl 7 (by kernel_rfl) (by kernel_rfl) ?_)
                              refine WL.sg 2 (by kernel_rfl) ?_
                              obtain ⟨y53, hy53, hy45⟩ := bnd_cases hy45
                              refine WL.join 7 (fun (_ : Unit) => [(5, .pointer (some ⟨b18, 0, none⟩)), (6, .pointer (some ⟨b19, 0, none⟩)), (122, .bool true), (135, .bool y53)]) (fun (_ : Unit) w => St w0 h20 w (var b26 (cGAct y20.2 a24 c24) 50 :: var b25 (cGFrame y20.1 a21 c21 a22 c22 a23 c23) 40 :: var b19 (cGAct y13.2 a17 c17) 50 :: var b18 (cGFrame y13.1 a14 c14 a15 c15 a16 c16) 40 :: var b5 (cGFrame x1 a2 c2 a3 c3 a4 c4) 40 :: L)) ?_ (fun hk_y53 => ?_)
                              · rintro _ w H
                                refine WL.sg 1 (by kernel_rfl) ?_
                                obtain rfl := hy45
                                exact WL.live [5, 6, 136] (by kernel_rfl) (hk_y45 () _ H)
                              rcases ite_cases hy53 with ⟨ty53, hy53⟩ | ⟨ty53, hy53⟩
                              · refine WL.known 128 ty53 (by kernel_rfl) (by kernel_rfl) ?_
                                refine WL.sg 7 (by kernel_rfl) ?_
                                obtain rfl := hy53
                                exact WL.live [5, 6, 122, 135] (by kernel_rfl) (hk_y53 () _ H)
                              · refine WL.known 128 ty53 (by kernel_rfl) (by kernel_rfl) ?_
                                refine WL.sg 1 (by kernel_rfl) ?_
                                refine WL.does (by kernel_rfl) (by kernel_rfl) (Does.loadV H 3 rfl 7 (by kernel_rfl) (by kernel_rfl) ?_)
                                refine WL.sg 1 (by kernel_rfl) ?_
                                refine WL.does (by kernel_rfl) (by kernel_rfl) (Does.loadV H 4 rfl 7 (by kernel_rfl) (by kernel_rfl) ?_)
                                refine WL.sg 3 (by kernel_rfl) ?_
                                obtain rfl := hy53
                                exact WL.live [5, 6, 122, 135] (by kernel_rfl) (hk_y53 () _ H)
                            · refine WL.known 122 ty45 (by kernel_rfl) (by kernel_rfl) ?_
                              refine WL.sg 14 (by kernel_rfl) ?_
                              obtain rfl := hy45
                              exact WL.live [5, 6, 136] (by kernel_rfl) (hk_y45 () _ H)
                          rcases ite_cases hy43 with ⟨ty43, hy43⟩ | ⟨ty43, hy43⟩
                          · refine WL.known 109 ty43 (by kernel_rfl) (by kernel_rfl) ?_
                            refine WL.sg 12 (by kernel_rfl) ?_
                            obtain rfl := hy43
                            exact WL.live [3, 5, 6, 121] (by kernel_rfl) (hk_y43 () _ H)
                          · refine WL.known 109 ty43 (by kernel_rfl) (by kernel_rfl) ?_
                            refine WL.sg 1 (by kernel_rfl) ?_
                            refine WL.does (by kernel_rfl) (by kernel_rfl) (Does.loadV H 2 rfl 0 (by kernel_rfl) (by kernel_rfl) ?_)
                            refine WL.sg 2 (by kernel_rfl) ?_
                            obtain ⟨y54, hy54, hy43⟩ := bnd_cases hy43
                            refine WL.join 7 (fun (_ : Unit) => [(3, .pointer (some ⟨b5, 0, none⟩)), (5, .pointer (some ⟨b18, 0, none⟩)), (6, .pointer (some ⟨b19, 0, none⟩)), (109, .bool false), (120, .bool y54)]) (fun (_ : Unit) w => St w0 h20 w (var b26 (cGAct y20.2 a24 c24) 50 :: var b25 (cGFrame y20.1 a21 c21 a22 c22 a23 c23) 40 :: var b19 (cGAct y13.2 a17 c17) 50 :: var b18 (cGFrame y13.1 a14 c14 a15 c15 a16 c16) 40 :: var b5 (cGFrame x1 a2 c2 a3 c3 a4 c4) 40 :: L)) ?_ (fun hk_y54 => ?_)
                            · rintro _ w H
                              refine WL.sg 1 (by kernel_rfl) ?_
                              obtain rfl := hy43
                              exact WL.live [3, 5, 6, 121] (by kernel_rfl) (hk_y43 () _ H)
                            rcases ite_cases hy54 with ⟨ty54, hy54⟩ | ⟨ty54, hy54⟩
                            · refine WL.known 113 ty54 (by kernel_rfl) (by kernel_rfl) ?_
                              refine WL.sg 1 (by kernel_rfl) ?_
                              refine WL.does (by kernel_rfl) (by kernel_rfl) (Does.loadV H 3 rfl 6 (by kernel_rfl) (by kernel_rfl) ?_)
                              refine WL.sg 1 (by kernel_rfl) ?_
                              refine WL.does (by kernel_rfl) (by kernel_rfl) (Does.loadV H 4 rfl 6 (by kernel_rfl) (by kernel_rfl) ?_)
                              refine WL.sg 3 (by kernel_rfl) ?_
                              obtain rfl := hy54
                              exact WL.live [3, 5, 6, 109, 120] (by kernel_rfl) (hk_y54 () _ H)
                            · refine WL.known 113 ty54 (by kernel_rfl) (by kernel_rfl) ?_
                              refine WL.sg 7 (by kernel_rfl) ?_
                              obtain rfl := hy54
                              exact WL.live [3, 5, 6, 109, 120] (by kernel_rfl) (hk_y54 () _ H)
                      rcases ite_cases hy41 with ⟨ty41, hy41⟩ | ⟨ty41, hy41⟩
                      · refine WL.known 95 ty41 (by kernel_rfl) (by kernel_rfl) ?_
                        refine WL.sg 8 (by kernel_rfl) ?_
                        obtain rfl := hy41
                        exact WL.live [3, 5, 6, 103] (by kernel_rfl) (hk_y41 () _ H)
                      · refine WL.known 95 ty41 (by kernel_rfl) (by kernel_rfl) ?_
                        refine WL.sg 1 (by kernel_rfl) ?_
                        refine WL.does (by kernel_rfl) (by kernel_rfl) (Does.loadV H 3 rfl 4 (by kernel_rfl) (by kernel_rfl) ?_)
                        refine WL.sg 2 (by kernel_rfl) ?_
                        refine WL.does (by kernel_rfl) (by kernel_rfl) (Does.loadV H 4 rfl 4 (by kernel_rfl) (by kernel_rfl) ?_)
                        refine WL.sg 3 (by kernel_rfl) ?_
                        obtain rfl := hy41
                        exact WL.live [3, 5, 6, 103] (by kernel_rfl) (hk_y41 () _ H)
                    rcases ite_cases hy40 with ⟨ty40, hy40⟩ | ⟨ty40, hy40⟩
                    · refine WL.known 86 ty40 (by kernel_rfl) (by kernel_rfl) ?_
                      refine WL.sg 8 (by kernel_rfl) ?_
                      obtain rfl := hy40
                      exact WL.live [3, 5, 6, 94] (by kernel_rfl) (hk_y40 () _ H)
                    · refine WL.known 86 ty40 (by kernel_rfl) (by kernel_rfl) ?_
                      refine WL.sg 1 (by kernel_rfl) ?_
                      refine WL.does (by kernel_rfl) (by kernel_rfl) (Does.loadV H 3 rfl 3 (by kernel_rfl) (by kernel_rfl) ?_)
                      refine WL.sg 2 (by kernel_rfl) ?_
                      refine WL.does (by kernel_rfl) (by kernel_rfl) (Does.loadV H 4 rfl 3 (by kernel_rfl) (by kernel_rfl) ?_)
                      refine WL.sg 3 (by kernel_rfl) ?_
                      obtain rfl := hy40
                      exact WL.live [3, 5, 6, 94] (by kernel_rfl) (hk_y40 () _ H)
                  rcases ite_cases hy39 with ⟨ty39, hy39⟩ | ⟨ty39, hy39⟩
                  · refine WL.known 79 ty39 (by kernel_rfl) (by kernel_rfl) ?_
                    refine WL.sg 6 (by kernel_rfl) ?_
                    obtain rfl := hy39
                    exact WL.live [3, 5, 6, 85] (by kernel_rfl) (hk_y39 () _ H)
                  · refine WL.known 79 ty39 (by kernel_rfl) (by kernel_rfl) ?_
                    refine WL.sg 1 (by kernel_rfl) ?_
                    refine WL.does (by kernel_rfl) (by kernel_rfl) (Does.loadV H 3 rfl 15 (by kernel_rfl) (by kernel_rfl) ?_)
                    refine WL.sg 1 (by kernel_rfl) ?_
                    refine WL.does (by kernel_rfl) (by kernel_rfl) (Does.loadV H 4 rfl 15 (by kernel_rfl) (by kernel_rfl) ?_)
                    refine WL.sg 2 (by kernel_rfl) ?_
                    obtain rfl := hy39
                    exact WL.live [3, 5, 6, 85] (by kernel_rfl) (hk_y39 () _ H)
                rcases ite_cases hy38 with ⟨ty38, hy38⟩ | ⟨ty38, hy38⟩
                · refine WL.known 72 ty38 (by kernel_rfl) (by kernel_rfl) ?_
                  refine WL.sg 6 (by kernel_rfl) ?_
                  obtain rfl := hy38
                  exact WL.live [3, 5, 6, 78] (by kernel_rfl) (hk_y38 () _ H)
                · refine WL.known 72 ty38 (by kernel_rfl) (by kernel_rfl) ?_
                  refine WL.sg 1 (by kernel_rfl) ?_
                  refine WL.does (by kernel_rfl) (by kernel_rfl) (Does.loadV H 3 rfl 13 (by kernel_rfl) (by kernel_rfl) ?_)
                  refine WL.sg 1 (by kernel_rfl) ?_
                  refine WL.does (by kernel_rfl) (by kernel_rfl) (Does.loadV H 4 rfl 13 (by kernel_rfl) (by kernel_rfl) ?_)
                  refine WL.does (by kernel_rfl) (by kernel_rfl) (Does.tells (.neq ((y13.1.Up.At == x1.Up.At) && ((y13.1.Up.Gen == x1.Up.Gen) && true)) (by kernel_rfl) (by kernel_rfl) (by kernel_rfl)) ?_)
                  refine WL.sg 1 (by kernel_rfl) ?_
                  obtain rfl := hy38
                  exact WL.live [3, 5, 6, 78] (by kernel_rfl) (hk_y38 () _ H)
              rcases ite_cases hy37 with ⟨ty37, hy37⟩ | ⟨ty37, hy37⟩
              · refine WL.known 65 ty37 (by kernel_rfl) (by kernel_rfl) ?_
                refine WL.sg 6 (by kernel_rfl) ?_
                obtain rfl := hy37
                exact WL.live [3, 5, 6, 71] (by kernel_rfl) (hk_y37 () _ H)
              · refine WL.known 65 ty37 (by kernel_rfl) (by kernel_rfl) ?_
                refine WL.sg 1 (by kernel_rfl) ?_
                refine WL.does (by kernel_rfl) (by kernel_rfl) (Does.loadV H 3 rfl 5 (by kernel_rfl) (by kernel_rfl) ?_)
                refine WL.sg 1 (by kernel_rfl) ?_
                refine WL.does (by kernel_rfl) (by kernel_rfl) (Does.loadV H 4 rfl 5 (by kernel_rfl) (by kernel_rfl) ?_)
                refine WL.sg 2 (by kernel_rfl) ?_
                obtain rfl := hy37
                exact WL.live [3, 5, 6, 71] (by kernel_rfl) (hk_y37 () _ H)
          rcases ite_cases hy30 with ⟨ty30, hy30⟩ | ⟨ty30, hy30⟩
          · refine WL.known 44 ty30 (by kernel_rfl) (by kernel_rfl) ?_
            refine WL.sg 15 (by kernel_rfl) ?_
            obtain rfl := Option.some.inj hy30
            exact WL.live [3, 5, 6, 59] (by kernel_rfl) (hk_y30 () _ H)
          · refine WL.known 44 ty30 (by kernel_rfl) (by kernel_rfl) ?_
            refine WL.sg 1 (by kernel_rfl) ?_
            refine WL.does (by kernel_rfl) (by kernel_rfl) (Does.loadV H 4 rfl 8 (by kernel_rfl) (by kernel_rfl) ?_)
            refine WL.sg 2 (by kernel_rfl) ?_
            obtain ⟨y55, hy55, hy30⟩ := bind_cases hy30
            refine WL.join 10 (fun (_ : Unit) => [(3, .pointer (some ⟨b5, 0, none⟩)), (5, .pointer (some ⟨b18, 0, none⟩)), (6, .pointer (some ⟨b19, 0, none⟩)), (44, .bool false), (58, .bool y55)]) (fun (_ : Unit) w => St w0 h20 w (var b26 (cGAct y20.2 a24 c24) 50 :: var b25 (cGFrame y20.1 a21 c21 a22 c22 a23 c23) 40 :: var b19 (cGAct y13.2 a17 c17) 50 :: var b18 (cGFrame y13.1 a14 c14 a15 c15 a16 c16) 40 :: var b5 (cGFrame x1 a2 c2 a3 c3 a4 c4) 40 :: L)) ?_ (fun hk_y55 => ?_)
            · rintro _ w H
              refine WL.sg 1 (by kernel_rfl) ?_
              obtain rfl := Option.some.inj hy30
              exact WL.live [3, 5, 6, 59] (by kernel_rfl) (hk_y30 () _ H)
            rcases ite_cases hy55 with ⟨ty55, hy55⟩ | ⟨ty55, hy55⟩
            · refine WL.known 48 ty55 (by kernel_rfl) (by kernel_rfl) ?_
              refine WL.does (by kernel_rfl) (by kernel_rfl) (Does.loadV H 4 rfl 0 (by kernel_rfl) (by kernel_rfl) ?_)
              refine WL.does (by kernel_rfl) (by kernel_rfl) (Does.loadV H 3 rfl 0 (by kernel_rfl) (by kernel_rfl) ?_)
              obtain ⟨y58, q58, hy55⟩ := bind_cases hy55
              refine WL.does (by kernel_rfl) (by kernel_rfl) (Does.call (c_r09_Same K x1 ((f2.up le13).up le20) ((f3.up le13).up le20) ((f4.up le13).up le20) y13.1 (f14.up le20) (f15.up le20) (f16.up le20) H q58) (by kernel_rfl) ?_)
              rintro _ w ⟨rfl, H⟩
              refine WL.sg 2 (by kernel_rfl) ?_
              obtain ⟨y59, hy59, hy55⟩ := bnd_cases hy55
              refine WL.join 4 (fun (_ : Unit) => [(3, .pointer (some ⟨b5, 0, none⟩)), (5, .pointer (some ⟨b18, 0, none⟩)), (6, .pointer (some ⟨b19, 0, none⟩)), (44, .bool false), (48, .bool true), (57, .bool y59)]) (fun (_ : Unit) w => St w0 h20 w (var b26 (cGAct y20.2 a24 c24) 50 :: var b25 (cGFrame y20.1 a21 c21 a22 c22 a23 c23) 40 :: var b19 (cGAct y13.2 a17 c17) 50 :: var b18 (cGFrame y13.1 a14 c14 a15 c15 a16 c16) 40 :: var b5 (cGFrame x1 a2 c2 a3 c3 a4 c4) 40 :: L)) ?_ (fun hk_y59 => ?_)
              · rintro _ w H
                refine WL.sg 1 (by kernel_rfl) ?_
                obtain rfl := Option.some.inj hy55
                exact WL.live [3, 5, 6, 44, 58] (by kernel_rfl) (hk_y55 () _ H)
              rcases ite_cases hy59 with ⟨ty59, hy59⟩ | ⟨ty59, hy59⟩
              · refine WL.known 53 ty59 (by kernel_rfl) (by kernel_rfl) ?_
                refine WL.sg 4 (by kernel_rfl) ?_
                obtain rfl := hy59
                exact WL.live [3, 5, 6, 44, 48, 57] (by kernel_rfl) (hk_y59 () _ H)
              · refine WL.known 53 ty59 (by kernel_rfl) (by kernel_rfl) ?_
                refine WL.sg 1 (by kernel_rfl) ?_
                refine WL.does (by kernel_rfl) (by kernel_rfl) (Does.loadV H 2 rfl 0 (by kernel_rfl) (by kernel_rfl) ?_)
                refine WL.sg 2 (by kernel_rfl) ?_
                obtain rfl := hy59
                exact WL.live [3, 5, 6, 44, 48, 57] (by kernel_rfl) (hk_y59 () _ H)
            · refine WL.known 48 ty55 (by kernel_rfl) (by kernel_rfl) ?_
              refine WL.sg 10 (by kernel_rfl) ?_
              obtain rfl := Option.some.inj hy55
              exact WL.live [3, 5, 6, 44, 58] (by kernel_rfl) (hk_y55 () _ H)
        rcases ite_cases hy28 with ⟨ty28, hy28⟩ | ⟨ty28, hy28⟩
        · refine WL.known 38 ty28 (by kernel_rfl) (by kernel_rfl) ?_
          refine WL.sg 5 (by kernel_rfl) ?_
          obtain rfl := Option.some.inj hy28
          exact WL.live [3, 5, 6, 43] (by kernel_rfl) (hk_y28 () _ H)
        · refine WL.known 38 ty28 (by kernel_rfl) (by kernel_rfl) ?_
          refine WL.does (by kernel_rfl) (by kernel_rfl) (Does.loadV H 2 rfl 0 (by kernel_rfl) (by kernel_rfl) ?_)
          refine WL.does (by kernel_rfl) (by kernel_rfl) (Does.loadV H 0 rfl 0 (by kernel_rfl) (by kernel_rfl) ?_)
          obtain ⟨y60, q60, hy28⟩ := bind_cases hy28
          refine WL.does (by kernel_rfl) (by kernel_rfl) (Does.call (c_r09_SameAct K y13.2 (f17.up le20) y20.2 f24 H q60) (by kernel_rfl) ?_)
          rintro _ w ⟨rfl, H⟩
          refine WL.sg 2 (by kernel_rfl) ?_
          obtain rfl := Option.some.inj hy28
          exact WL.live [3, 5, 6, 43] (by kernel_rfl) (hk_y28 () _ H)
    rcases ite_cases hy9 with ⟨ty9, hy9⟩ | ⟨ty9, hy9⟩
    · refine WL.known 16 ty9 (by kernel_rfl) (by kernel_rfl) ?_
      refine WL.sg 4 (by kernel_rfl) ?_
      obtain rfl := hy9
      exact WL.live [0, 3, 20] (by kernel_rfl) (hk_y9 () _ H)
    · refine WL.known 16 ty9 (by kernel_rfl) (by kernel_rfl) ?_
      refine WL.does (by kernel_rfl) (by kernel_rfl) (Does.loadV H 0 rfl 0 (by kernel_rfl) (by kernel_rfl) ?_)
      obtain ⟨y61, q61, hy9⟩ := bnd_cases hy9
      refine WL.does (by kernel_rfl) (by kernel_rfl) (Does.call (c_r09_Small x1 f2 f3 f4 H q61) (by kernel_rfl) ?_)
      rintro _ w ⟨rfl, H⟩
      refine WL.sg 2 (by kernel_rfl) ?_
      obtain rfl := hy9
      exact WL.live [0, 3, 20] (by kernel_rfl) (hk_y9 () _ H)
  rcases ite_cases hy7 with ⟨ty7, hy7⟩ | ⟨ty7, hy7⟩
  · refine WL.known 11 ty7 (by kernel_rfl) (by kernel_rfl) ?_
    refine WL.sg 4 (by kernel_rfl) ?_
    obtain rfl := Option.some.inj hy7
    exact WL.live [0, 3, 15] (by kernel_rfl) (hk_y7 () _ H)
  · refine WL.known 11 ty7 (by kernel_rfl) (by kernel_rfl) ?_
    obtain ⟨y62, q62, hy7⟩ := bind_cases hy7
    refine WL.sg 1 (by kernel_rfl) ?_
    refine WL.does (by kernel_rfl) (by kernel_rfl) (Does.call (c_r07_Small K x0 f1 300 H q62) (by kernel_rfl) ?_)
    rintro _ w ⟨rfl, H⟩
    refine WL.sg 2 (by kernel_rfl) ?_
    obtain rfl := Option.some.inj hy7
    exact WL.live [0, 3, 15] (by kernel_rfl) (hk_y7 () _ H)
end Go.Proofs.Ytcoepljalekglaa.FrameStill.W
