/- The walk of FrameStill and of what it calls, part 3: printed by a program of this work. -/
import Derived.Test.YtcoepljalekglaaFrameStillW2
set_option linter.unusedVariables false
set_option linter.unusedSimpArgs false
namespace Go.Proofs.Ytcoepljalekglaa.FrameStill.W
open Go.Proofs.Ytcoepljalekglaa.G2 Go.Proofs
attribute [local irreducible] WE WL LP WD Does Tells
def frame_Do (K : Nat) (x0 : List GFunc) (x1 : GFrame) : Option (GFrame × GAct) :=
  bnd (
      if x1.State != 0 then
        true
      else
        decide (x1.Fn < 0)) fun y127 =>
  bnd (
      if y127 then
        true
      else
        decide (x1.Fn ≥ (x0.length : Int))) fun y128 =>
  if y128 then
    some (x1, (⟨0, 0, 0, 0, []⟩ : GAct))
  else
    (frame_clone x1).bind fun y130 =>
    if 0 ≤ x1.Fn ∧ x1.Fn < x0.length then
      (frame_runner_there (⟨y130, x0, (⟨0, 0, 0⟩ : GInstr), (⟨1, 0, 0, 0, []⟩ : GAct)⟩ : Grunner) ((gd x0 x1.Fn).Code)).bind fun y140 =>
      if !y140.1 then
        bnd (frame_runner_trap (⟨y130, x0, (⟨y140.2.1, y140.2.2.1, y140.2.2.2⟩ : GInstr), (⟨1, 0, 0, 0, []⟩ : GAct)⟩ : Grunner) 4) fun y142 =>
        some ({ y130 with State := y142.1, Out := (⟨y142.2.1, (⟨y142.2.2.1, y142.2.2.2.1⟩ : GValue)⟩ : GOut) }, (⟨y142.2.2.2.2.1, y142.2.2.2.2.2.1, y142.2.2.2.2.2.2.1, y142.2.2.2.2.2.2.2.1, y142.2.2.2.2.2.2.2.2⟩ : GAct))
      else
        (frame_runner_room (⟨y130, x0, (⟨y140.2.1, y140.2.2.1, y140.2.2.2⟩ : GInstr), (⟨1, 0, 0, 0, []⟩ : GAct)⟩ : Grunner)).bind fun y147 =>
        if !y147 then
          bnd (frame_runner_trap (⟨y130, x0, (⟨y140.2.1, y140.2.2.1, y140.2.2.2⟩ : GInstr), (⟨1, 0, 0, 0, []⟩ : GAct)⟩ : Grunner) 3) fun y149 =>
          some ({ y130 with State := y149.1, Out := (⟨y149.2.1, (⟨y149.2.2.1, y149.2.2.2.1⟩ : GValue)⟩ : GOut) }, (⟨y149.2.2.2.2.1, y149.2.2.2.2.2.1, y149.2.2.2.2.2.2.1, y149.2.2.2.2.2.2.2.1, y149.2.2.2.2.2.2.2.2⟩ : GAct))
        else
          if y140.2.1 == 16 then
            bnd (frame_runner_trap (⟨y130, x0, (⟨y140.2.1, y140.2.2.1, y140.2.2.2⟩ : GInstr), (⟨1, 0, 0, 0, []⟩ : GAct)⟩ : Grunner) y140.2.2.1) fun y155 =>
            some ({ y130 with State := y155.1, Out := (⟨y155.2.1, (⟨y155.2.2.1, y155.2.2.2.1⟩ : GValue)⟩ : GOut) }, (⟨y155.2.2.2.2.1, y155.2.2.2.2.2.1, y155.2.2.2.2.2.2.1, y155.2.2.2.2.2.2.2.1, y155.2.2.2.2.2.2.2.2⟩ : GAct))
          else
            if y140.2.1 == 15 then
              (frame_runner_pop (⟨y130, x0, (⟨y140.2.1, y140.2.2.1, y140.2.2.2⟩ : GInstr), (⟨1, 0, 0, 0, []⟩ : GAct)⟩ : Grunner) 1).bind fun y161 =>
              if 0 ≤ (0 : Int) ∧ (0 : Int) < y161.1.length then
                bnd (frame_runner_end (⟨{ y130 with Stack := y161.2 }, x0, (⟨y140.2.1, y140.2.2.1, y140.2.2.2⟩ : GInstr), (⟨1, 0, 0, 0, []⟩ : GAct)⟩ : Grunner) (⟨0, (⟨(gd y161.1 (0 : Int)).Re, (gd y161.1 (0 : Int)).Im⟩ : GValue)⟩ : GOut)) fun y167 =>
                some ({ y130 with Stack := y161.2, State := y167.1, Out := (⟨y167.2.1, (⟨y167.2.2.1, y167.2.2.2.1⟩ : GValue)⟩ : GOut) }, (⟨y167.2.2.2.2.1, y167.2.2.2.2.2.1, y167.2.2.2.2.2.2.1, y167.2.2.2.2.2.2.2.1, y167.2.2.2.2.2.2.2.2⟩ : GAct))
              else none
            else
              if y140.2.1 == 13 then
                (frame_runner_spawn K (⟨y130, x0, (⟨y140.2.1, y140.2.2.1, y140.2.2.2⟩ : GInstr), (⟨1, 0, 0, 0, []⟩ : GAct)⟩ : Grunner)).bind fun y173 =>
                some ({ y130 with Pc := y173.1, Stack := y173.2.1, Slots := y173.2.2.1, Spawned := y173.2.2.2.1, State := y173.2.2.2.2.1, Out := (⟨y173.2.2.2.2.2.1, (⟨y173.2.2.2.2.2.2.1, y173.2.2.2.2.2.2.2.1⟩ : GValue)⟩ : GOut) }, (⟨y173.2.2.2.2.2.2.2.2.1, y173.2.2.2.2.2.2.2.2.2.1, y173.2.2.2.2.2.2.2.2.2.2.1, y173.2.2.2.2.2.2.2.2.2.2.2.1, y173.2.2.2.2.2.2.2.2.2.2.2.2⟩ : GAct))
              else
                if y140.2.1 == 14 then
                  (frame_runner_join (⟨y130, x0, (⟨y140.2.1, y140.2.2.1, y140.2.2.2⟩ : GInstr), (⟨1, 0, 0, 0, []⟩ : GAct)⟩ : Grunner)).bind fun y183 =>
                  some ((⟨y130.Fn, y183.1, y183.2.1, y183.2.2.1, y183.2.2.2.1, y130.Seed, y130.Spawned, y130.Draws, y183.2.2.2.2.1, y183.2.2.2.2.2.1, (⟨y183.2.2.2.2.2.2.1, (⟨y183.2.2.2.2.2.2.2.1, y183.2.2.2.2.2.2.2.2.1⟩ : GValue)⟩ : GOut), y130.Up, y130.UpSlot⟩ : GFrame), (⟨y183.2.2.2.2.2.2.2.2.2.1, y183.2.2.2.2.2.2.2.2.2.2.1, y183.2.2.2.2.2.2.2.2.2.2.2.1, y183.2.2.2.2.2.2.2.2.2.2.2.2.1, y183.2.2.2.2.2.2.2.2.2.2.2.2.2⟩ : GAct))
                else
                  if y140.2.1 == 3 then
                    if y140.2.1 == 3 then
                      (frame_runner_two K (⟨y130, x0, (⟨y140.2.1, y140.2.2.1, y140.2.2.2⟩ : GInstr), (⟨1, 0, 0, 0, []⟩ : GAct)⟩ : Grunner)).bind fun y196 =>
                      some ({ y130 with Pc := y196.1, Stack := y196.2.1, Locals := y196.2.2.1, Slots := y196.2.2.2.1, State := y196.2.2.2.2.1, Out := (⟨y196.2.2.2.2.2.1, (⟨y196.2.2.2.2.2.2.1, y196.2.2.2.2.2.2.2.1⟩ : GValue)⟩ : GOut) }, (⟨y196.2.2.2.2.2.2.2.2.1, y196.2.2.2.2.2.2.2.2.2.1, y196.2.2.2.2.2.2.2.2.2.2.1, y196.2.2.2.2.2.2.2.2.2.2.2.1, y196.2.2.2.2.2.2.2.2.2.2.2.2⟩ : GAct))
                    else
                      (frame_runner_plain K (⟨y130, x0, (⟨y140.2.1, y140.2.2.1, y140.2.2.2⟩ : GInstr), (⟨1, 0, 0, 0, []⟩ : GAct)⟩ : Grunner)).bind fun y207 =>
                      some ({ y130 with Pc := y207.1, Stack := y207.2.1, Locals := y207.2.2.1, Slots := y207.2.2.2.1, Draws := y207.2.2.2.2 }, (⟨1, 0, 0, 0, []⟩ : GAct))
                  else
                    if y140.2.1 == 4 then
                      if y140.2.1 == 4 then
                        (frame_runner_two K (⟨y130, x0, (⟨y140.2.1, y140.2.2.1, y140.2.2.2⟩ : GInstr), (⟨1, 0, 0, 0, []⟩ : GAct)⟩ : Grunner)).bind fun y219 =>
                        some ({ y130 with Pc := y219.1, Stack := y219.2.1, Locals := y219.2.2.1, Slots := y219.2.2.2.1, State := y219.2.2.2.2.1, Out := (⟨y219.2.2.2.2.2.1, (⟨y219.2.2.2.2.2.2.1, y219.2.2.2.2.2.2.2.1⟩ : GValue)⟩ : GOut) }, (⟨y219.2.2.2.2.2.2.2.2.1, y219.2.2.2.2.2.2.2.2.2.1, y219.2.2.2.2.2.2.2.2.2.2.1, y219.2.2.2.2.2.2.2.2.2.2.2.1, y219.2.2.2.2.2.2.2.2.2.2.2.2⟩ : GAct))
                      else
                        (frame_runner_plain K (⟨y130, x0, (⟨y140.2.1, y140.2.2.1, y140.2.2.2⟩ : GInstr), (⟨1, 0, 0, 0, []⟩ : GAct)⟩ : Grunner)).bind fun y230 =>
                        some ({ y130 with Pc := y230.1, Stack := y230.2.1, Locals := y230.2.2.1, Slots := y230.2.2.2.1, Draws := y230.2.2.2.2 }, (⟨1, 0, 0, 0, []⟩ : GAct))
                    else
                      if y140.2.1 == 5 then
                        if y140.2.1 == 5 then
                          (frame_runner_two K (⟨y130, x0, (⟨y140.2.1, y140.2.2.1, y140.2.2.2⟩ : GInstr), (⟨1, 0, 0, 0, []⟩ : GAct)⟩ : Grunner)).bind fun y242 =>
                          some ({ y130 with Pc := y242.1, Stack := y242.2.1, Locals := y242.2.2.1, Slots := y242.2.2.2.1, State := y242.2.2.2.2.1, Out := (⟨y242.2.2.2.2.2.1, (⟨y242.2.2.2.2.2.2.1, y242.2.2.2.2.2.2.2.1⟩ : GValue)⟩ : GOut) }, (⟨y242.2.2.2.2.2.2.2.2.1, y242.2.2.2.2.2.2.2.2.2.1, y242.2.2.2.2.2.2.2.2.2.2.1, y242.2.2.2.2.2.2.2.2.2.2.2.1, y242.2.2.2.2.2.2.2.2.2.2.2.2⟩ : GAct))
                        else
                          (frame_runner_plain K (⟨y130, x0, (⟨y140.2.1, y140.2.2.1, y140.2.2.2⟩ : GInstr), (⟨1, 0, 0, 0, []⟩ : GAct)⟩ : Grunner)).bind fun y253 =>
                          some ({ y130 with Pc := y253.1, Stack := y253.2.1, Locals := y253.2.2.1, Slots := y253.2.2.2.1, Draws := y253.2.2.2.2 }, (⟨1, 0, 0, 0, []⟩ : GAct))
                      else
                        if y140.2.1 == 6 then
                          (frame_runner_two K (⟨y130, x0, (⟨y140.2.1, y140.2.2.1, y140.2.2.2⟩ : GInstr), (⟨1, 0, 0, 0, []⟩ : GAct)⟩ : Grunner)).bind fun y264 =>
                          some ({ y130 with Pc := y264.1, Stack := y264.2.1, Locals := y264.2.2.1, Slots := y264.2.2.2.1, State := y264.2.2.2.2.1, Out := (⟨y264.2.2.2.2.2.1, (⟨y264.2.2.2.2.2.2.1, y264.2.2.2.2.2.2.2.1⟩ : GValue)⟩ : GOut) }, (⟨y264.2.2.2.2.2.2.2.2.1, y264.2.2.2.2.2.2.2.2.2.1, y264.2.2.2.2.2.2.2.2.2.2.1, y264.2.2.2.2.2.2.2.2.2.2.2.1, y264.2.2.2.2.2.2.2.2.2.2.2.2⟩ : GAct))
                        else
                          (frame_runner_plain K (⟨y130, x0, (⟨y140.2.1, y140.2.2.1, y140.2.2.2⟩ : GInstr), (⟨1, 0, 0, 0, []⟩ : GAct)⟩ : Grunner)).bind fun y275 =>
                          some ({ y130 with Pc := y275.1, Stack := y275.2.1, Locals := y275.2.2.1, Slots := y275.2.2.2.1, Draws := y275.2.2.2.2 }, (⟨1, 0, 0, 0, []⟩ : GAct))
    else none
set_option maxRecDepth 100000 in
theorem c_frame_Do {w0 w : World} {h : Gh} {L : List Ent} (K : Nat) (x0 : List GFunc) {a1 : Option Addr} {c1 : Nat} (f1 : Sl rGFunc 48 h a1 c1 x0) (x1 : GFrame) {a2 : Option Addr} {c2 : Nat} {a3 : Option Addr} {c3 : Nat} {a4 : Option Addr} {c4 : Nat} (f2 : Sl rGValue 16 h a2 c2 x1.Stack) (f3 : Sl rGValue 16 h a3 c3 x1.Locals) (f4 : Sl rGSlot 48 h a4 c4 x1.Slots) (H : St w0 h w L) {r : GFrame × GAct} (hr : frame_Do K x0 x1 = some r) : Calls Try.prog 12 #[.slice a1 x0.length c1, .agg (cGFrame x1 a2 c2 a3 c3 a4 c4).toArray] w (fun e w' => ∃ v, e = .returned v ∧ ∃ (h' : Gh) (a901 : Option Addr) (c901 : Nat) (a902 : Option Addr) (c902 : Nat) (a903 : Option Addr) (c903 : Nat) (a904 : Option Addr) (c904 : Nat), v = .tuple #[.agg (cGFrame r.1 a901 c901 a902 c902 a903 c903).toArray, .agg (cGAct r.2 a904 c904).toArray] ∧ h.le h' ∧ Sl rGValue 16 h' a901 c901 r.1.Stack ∧ Sl rGValue 16 h' a902 c902 r.1.Locals ∧ Sl rGSlot 48 h' a903 c903 r.1.Slots ∧ Sl rGValue 16 h' a904 c904 r.2.Args ∧ St w0 h' w' (L)) := by
  refine calls_of (args := [.slice a1 x0.length c1, .agg (cGFrame x1 a2 c2 a3 c3 a4 c4).toArray]) (n := 96) (rs := [.cell 4 40, .cell 5 50]) Try.func12 rfl rfl rfl rfl rfl ?_
  unfold frame_Do at hr
  refine WE.seq ?_
  refine WE.region ?_
  refine WL.does (by kernel_rfl) (by kernel_rfl) (Does.box H (cGFrame x1 a2 c2 a3 c3 a4 c4) (by kernel_rfl) fun b124 w H => ?_)
  refine WL.does (by kernel_rfl) (by kernel_rfl) (Does.alloc H (cGFrame (⟨0, 0, [], [], [], 0, 0, 0, 0, 0, (⟨0, (⟨0, 0⟩ : GValue)⟩ : GOut), (⟨0, 0⟩ : GRef), 0⟩ : GFrame) none 0 none 0 none 0) (by kernel_rfl) fun b125 w H => ?_)
  refine WL.does (by kernel_rfl) (by kernel_rfl) (Does.alloc H (cGAct (⟨0, 0, 0, 0, []⟩ : GAct) none 0) (by kernel_rfl) fun b126 w H => ?_)
  refine WL.fin 0 (by kernel_rfl) (by kernel_rfl) ?_
  refine WE.scope 0 rfl ?_
  refine WE.seq ?_
  refine WE.seq ?_
  refine WE.region ?_
  refine WL.sg 1 (by kernel_rfl) ?_
  refine WL.does (by kernel_rfl) (by kernel_rfl) (Does.loadV H 2 rfl 8 (by kernel_rfl) (by kernel_rfl) ?_)
  refine WL.sg 2 (by kernel_rfl) ?_
  obtain ⟨y127, hy127, hr⟩ := bnd_cases hr
  refine WL.join 4 (fun (_ : Unit) => [(0, .slice a1 x0.length c1), (3, .pointer (some ⟨b124, 0, none⟩)), (4, .pointer (some ⟨b125, 0, none⟩)), (5, .pointer (some ⟨b126, 0, none⟩)), (14, .bool y127)]) (fun (_ : Unit) w => St w0 h w (var b126 (cGAct (⟨0, 0, 0, 0, []⟩ : GAct) none 0) 50 :: var b125 (cGFrame (⟨0, 0, [], [], [], 0, 0, 0, 0, 0, (⟨0, (⟨0, 0⟩ : GValue)⟩ : GOut), (⟨0, 0⟩ : GRef), 0⟩ : GFrame) none 0 none 0 none 0) 40 :: var b124 (cGFrame x1 a2 c2 a3 c3 a4 c4) 40 :: L)) ?_ (fun hk_y127 => ?_)
  · rintro _ w H
    refine WL.sg 1 (by kernel_rfl) ?_
    obtain ⟨y128, hy128, hr⟩ := bnd_cases hr
    refine WL.join 6 (fun (_ : Unit) => [(0, .slice a1 x0.length c1), (3, .pointer (some ⟨b124, 0, none⟩)), (4, .pointer (some ⟨b125, 0, none⟩)), (5, .pointer (some ⟨b126, 0, none⟩)), (21, .bool y128)]) (fun (_ : Unit) w => St w0 h w (var b126 (cGAct (⟨0, 0, 0, 0, []⟩ : GAct) none 0) 50 :: var b125 (cGFrame (⟨0, 0, [], [], [], 0, 0, 0, 0, 0, (⟨0, (⟨0, 0⟩ : GValue)⟩ : GOut), (⟨0, 0⟩ : GRef), 0⟩ : GFrame) none 0 none 0 none 0) 40 :: var b124 (cGFrame x1 a2 c2 a3 c3 a4 c4) 40 :: L)) ?_ (fun hk_y128 => ?_)
    · rintro _ w H
      refine WL.fin 0 (by kernel_rfl) (by kernel_rfl) ?_
      rcases ite_cases hr with ⟨t129, hr⟩ | ⟨t129, hr⟩
      · refine WE.yes (by kernel_rfl) (b := y128) (by kernel_rfl) t129 ?_
        refine WE.seq ?_
        refine WE.region ?_
        refine WL.does (by kernel_rfl) (by kernel_rfl) (Does.loadV H 2 rfl 0 (by kernel_rfl) (by kernel_rfl) ?_)
        refine WL.sg 1 (by kernel_rfl) ?_
        refine WL.does (by kernel_rfl) (by kernel_rfl) (Does.storeE H 1 (cGFrame x1 a2 c2 a3 c3 a4 c4) rfl (q := 0) (by kernel_rfl) (by kernel_rfl) (by kernel_rfl) fun w H => ?_)
        refine WL.does (by kernel_rfl) (by kernel_rfl) (Does.storeE H 0 (cGAct (⟨0, 0, 0, 0, []⟩ : GAct) none 0) rfl (q := 0) (by kernel_rfl) (by kernel_rfl) (by kernel_rfl) fun w H => ?_)
        refine WL.fin 0 (by kernel_rfl) (by kernel_rfl) ?_
        obtain rfl := Option.some.inj hr
        exact WE.ret ⟨[.agg (cGFrame x1 a2 c2 a3 c3 a4 c4).toArray, .agg (cGAct (⟨0, 0, 0, 0, []⟩ : GAct) none 0).toArray], ⟨⟨(by kernel_rfl), ⟨b125, 0, none⟩, (by kernel_rfl), H.loadVar 1 rfl 0 (by kernel_rfl)⟩, ⟨(by kernel_rfl), ⟨b126, 0, none⟩, (by kernel_rfl), H.loadVar 0 rfl 0 (by kernel_rfl)⟩, trivial⟩, ⟨h, a2, c2, a3, c3, a4, c4, none, 0, rfl, (Gh.refl _), f2, f3, f4, (Sl.nil _ _ (Nat.zero_le _)), (H.keep 3)⟩⟩
      · refine WE.no (by kernel_rfl) (b := y128) (by kernel_rfl) t129 ?_
        refine WE.skip ?_
        refine WE.seq ?_
        refine WE.region ?_
        refine WL.does (by kernel_rfl) (by kernel_rfl) (Does.loadV H 2 rfl 0 (by kernel_rfl) (by kernel_rfl) ?_)
        obtain ⟨y130, q130, hr⟩ := bind_cases hr
        refine WL.does (by kernel_rfl) (by kernel_rfl) (Does.call (c_frame_clone x1 f2 f3 f4 H q130) (by kernel_rfl) ?_)
        rintro _ w ⟨h130, a131, c131, a132, c132, a133, c133, rfl, le130, H⟩
        refine WL.sg 3 (by kernel_rfl) ?_
        refine WL.does (by kernel_rfl) (by kernel_rfl) (Does.box H (cGrunner (⟨y130, x0, (⟨0, 0, 0⟩ : GInstr), (⟨1, 0, 0, 0, []⟩ : GAct)⟩ : Grunner) a131 c131 a132 c132 a133 c133 a1 c1 none 0) (by kernel_rfl) fun b137 w H => ?_)
        refine WL.fin 1 (by kernel_rfl) (by kernel_rfl) ?_
        refine WE.seq ?_
        refine WE.block ?_
        refine WE.seq ?_
        refine WE.region ?_
        refine WL.sg 3 (by kernel_rfl) ?_
        refine WL.does (by kernel_rfl) (by kernel_rfl) (Does.loadV H 6 rfl 0 (by kernel_rfl) (by kernel_rfl) ?_)
        obtain ⟨⟨g0_138, g1_138⟩, hr⟩ := grd_cases hr
        obtain ⟨b138, p138, C138, e138, fr138, cs138, rfl, hb138, hc138, ⟨a139, c139, rfl, f139⟩⟩ := (f1.up le130).at g0_138 g1_138
        refine WL.does (by kernel_rfl) (by kernel_rfl) (Does.tells (.idx b138 (p138) x0.length c1 x1.Fn 4 (by kernel_rfl) (by kernel_rfl) g0_138 g1_138 (by kernel_rfl)) ?_)
        refine WL.sg 1 (by kernel_rfl) ?_
        refine WL.does (by kernel_rfl) (by kernel_rfl) (Does.loadR H hb138 hc138 3 (by kernel_rfl) (by kernel_rfl) ?_)
        obtain ⟨y140, q140, hr⟩ := bind_cases hr
        refine WL.does (by kernel_rfl) (by kernel_rfl) (Does.call (c_frame_runner_there (⟨y130, x0, (⟨0, 0, 0⟩ : GInstr), (⟨1, 0, 0, 0, []⟩ : GAct)⟩ : Grunner) (f1.up le130) (Sl.nil none 0 (Nat.zero_le _)) ((gd x0 x1.Fn).Code) f139 H q140) (by kernel_rfl) ?_)
        rintro _ w ⟨rfl, H⟩
        refine WL.fin 2 (by kernel_rfl) (by kernel_rfl) ?_
        rcases ite_cases hr with ⟨t141, hr⟩ | ⟨t141, hr⟩
        · refine WE.yes (by kernel_rfl) (b := !y140.1) (by kernel_rfl) t141 ?_
          refine WE.seq ?_
          refine WE.region ?_
          obtain ⟨y142, q142, hr⟩ := bnd_cases hr
          refine WL.sg 1 (by kernel_rfl) ?_
          refine WL.does (by kernel_rfl) (by kernel_rfl) (Does.call (c_frame_runner_trap (⟨y130, x0, (⟨y140.2.1, y140.2.2.1, y140.2.2.2⟩ : GInstr), (⟨1, 0, 0, 0, []⟩ : GAct)⟩ : Grunner) (f1.up le130) (Sl.nil none 0 (Nat.zero_le _)) 4 H q142) (by kernel_rfl) ?_)
          rintro _ w ⟨h142, a143, c143, rfl, le142, f143, H⟩
          refine WL.fin 0 (by kernel_rfl) (by kernel_rfl) ?_
          refine WE.goto ?_
          refine ⟨rfl, ?_⟩
          refine WE.seq ?_
          refine WE.skip ?_
          refine WE.seq ?_
          refine WE.draws mo [4, 5, 6] (ρ' := [(4, .pointer (some ⟨b125, 0, none⟩)), (5, .pointer (some ⟨b126, 0, none⟩)), (6, .pointer (some ⟨b137, 0, none⟩))]) (by kernel_rfl) fun w e1 e2 e3 e4 => ?_
          have H := H.same e1 e2 e3 e4
          clear e1 e2 e3 e4
          refine WD.know [0] (by kernel_rfl) ?_
          refine WD.know [1] (by kernel_rfl) ?_
          refine WD.know [2] (by kernel_rfl) ?_
          refine WD.told 3 91 (.agg (cGFrame ({ y130 with State := y142.1, Out := (⟨y142.2.1, (⟨y142.2.2.1, y142.2.2.2.1⟩ : GValue)⟩ : GOut) }) a131 c131 a132 c132 a133 c133).toArray) (by kernel_rfl) (by kernel_rfl) ?_
          refine WD.know [4] (by kernel_rfl) ?_
          refine WD.know [5] (by kernel_rfl) ?_
          refine WD.know [6] (by kernel_rfl) ?_
          refine WD.told 7 95 (.agg (cGAct (⟨y142.2.2.2.2.1, y142.2.2.2.2.2.1, y142.2.2.2.2.2.2.1, y142.2.2.2.2.2.2.2.1, y142.2.2.2.2.2.2.2.2⟩ : GAct) a143 c143).toArray) (by kernel_rfl) (by kernel_rfl) ?_
          refine WD.does 8 (by kernel_rfl) rfl (Floats.of [6, 5, 4, 2, 1, 0] [7, 3] (by kernel_rfl) (Floats.pure _ (by kernel_rfl) (by kernel_rfl)) (.cons (.tells rfl (by kernel_rfl) rfl (.loadV H 0 rfl 20 (by kernel_rfl) (by kernel_rfl))) (.cons (.tells rfl (by kernel_rfl) rfl (.loadV H 0 rfl 0 (by kernel_rfl) (by kernel_rfl))) .nil))) (by kernel_rfl) (by kernel_rfl) (Does.storeE H 5 (cGFrame ({ y130 with State := y142.1, Out := (⟨y142.2.1, (⟨y142.2.2.1, y142.2.2.2.1⟩ : GValue)⟩ : GOut) }) a131 c131 a132 c132 a133 c133) rfl (q := 0) (by kernel_rfl) (by kernel_rfl) (by kernel_rfl) fun w H => ?_)
          refine WD.does 9 (by kernel_rfl) rfl (Floats.of [6, 5, 4] [7] (by kernel_rfl) (Floats.pure _ (by kernel_rfl) (by kernel_rfl)) (.cons (.tells rfl (by kernel_rfl) rfl (.loadV H 0 rfl 20 (by kernel_rfl) (by kernel_rfl))) .nil)) (by kernel_rfl) (by kernel_rfl) (Does.storeE H 4 (cGAct (⟨y142.2.2.2.2.1, y142.2.2.2.2.2.1, y142.2.2.2.2.2.2.1, y142.2.2.2.2.2.2.2.1, y142.2.2.2.2.2.2.2.2⟩ : GAct) a143 c143) rfl (q := 0) (by kernel_rfl) (by kernel_rfl) (by kernel_rfl) fun w H => ?_)
          refine WD.fin (by kernel_rfl) (Floats.of [] [] (by kernel_rfl) .nil .nil) (by kernel_rfl) (by kernel_rfl) ?_
          obtain ⟨h144, le144, f144, H⟩ := (H.front 1 rfl).rowFreeze le142
          obtain ⟨h145, le145, f145, H⟩ := (H.front 1 rfl).rowFreeze (le142.trans le144)
          obtain ⟨h146, le146, f146, H⟩ := (H.front 1 rfl).rowFreeze ((le142.trans le144).trans le145)
          obtain rfl := Option.some.inj hr
          exact WE.ret ⟨[.agg (cGFrame ({ y130 with State := y142.1, Out := (⟨y142.2.1, (⟨y142.2.2.1, y142.2.2.2.1⟩ : GValue)⟩ : GOut) }) a131 c131 a132 c132 a133 c133).toArray, .agg (cGAct (⟨y142.2.2.2.2.1, y142.2.2.2.2.2.1, y142.2.2.2.2.2.2.1, y142.2.2.2.2.2.2.2.1, y142.2.2.2.2.2.2.2.2⟩ : GAct) a143 c143).toArray], ⟨⟨(by kernel_rfl), ⟨b125, 0, none⟩, (by kernel_rfl), H.loadVar 2 rfl 0 (by kernel_rfl)⟩, ⟨(by kernel_rfl), ⟨b126, 0, none⟩, (by kernel_rfl), H.loadVar 1 rfl 0 (by kernel_rfl)⟩, trivial⟩, ⟨h146, a131, c131, a132, c132, a133, c133, a143, c143, rfl, ((((le130.trans le142).trans le144).trans le145).trans le146), ((f144.up le145).up le146), (f145.up le146), f146, (((f143.up le144).up le145).up le146), (H.keep 4)⟩⟩
        · refine WE.no (by kernel_rfl) (b := !y140.1) (by kernel_rfl) t141 ?_
          refine WE.seq ?_
          refine WE.region ?_
          obtain ⟨y147, q147, hr⟩ := bind_cases hr
          refine WL.sg 1 (by kernel_rfl) ?_
          refine WL.does (by kernel_rfl) (by kernel_rfl) (Does.call (c_frame_runner_room (⟨y130, x0, (⟨y140.2.1, y140.2.2.1, y140.2.2.2⟩ : GInstr), (⟨1, 0, 0, 0, []⟩ : GAct)⟩ : Grunner) (f1.up le130) (Sl.nil none 0 (Nat.zero_le _)) H q147) (by kernel_rfl) ?_)
          rintro _ w ⟨rfl, H⟩
          refine WL.fin 2 (by kernel_rfl) (by kernel_rfl) ?_
          rcases ite_cases hr with ⟨t148, hr⟩ | ⟨t148, hr⟩
          · refine WE.yes (by kernel_rfl) (b := !y147) (by kernel_rfl) t148 ?_
            refine WE.seq ?_
            refine WE.region ?_
            obtain ⟨y149, q149, hr⟩ := bnd_cases hr
            refine WL.sg 1 (by kernel_rfl) ?_
            refine WL.does (by kernel_rfl) (by kernel_rfl) (Does.call (c_frame_runner_trap (⟨y130, x0, (⟨y140.2.1, y140.2.2.1, y140.2.2.2⟩ : GInstr), (⟨1, 0, 0, 0, []⟩ : GAct)⟩ : Grunner) (f1.up le130) (Sl.nil none 0 (Nat.zero_le _)) 3 H q149) (by kernel_rfl) ?_)
            rintro _ w ⟨h149, a150, c150, rfl, le149, f150, H⟩
            refine WL.fin 0 (by kernel_rfl) (by kernel_rfl) ?_
            refine WE.goto ?_
            refine ⟨rfl, ?_⟩
            refine WE.seq ?_
            refine WE.skip ?_
            refine WE.seq ?_
            refine WE.draws mo [4, 5, 6] (ρ' := [(4, .pointer (some ⟨b125, 0, none⟩)), (5, .pointer (some ⟨b126, 0, none⟩)), (6, .pointer (some ⟨b137, 0, none⟩))]) (by kernel_rfl) fun w e1 e2 e3 e4 => ?_
            have H := H.same e1 e2 e3 e4
            clear e1 e2 e3 e4
            refine WD.know [0] (by kernel_rfl) ?_
            refine WD.know [1] (by kernel_rfl) ?_
            refine WD.know [2] (by kernel_rfl) ?_
            refine WD.told 3 91 (.agg (cGFrame ({ y130 with State := y149.1, Out := (⟨y149.2.1, (⟨y149.2.2.1, y149.2.2.2.1⟩ : GValue)⟩ : GOut) }) a131 c131 a132 c132 a133 c133).toArray) (by kernel_rfl) (by kernel_rfl) ?_
            refine WD.know [4] (by kernel_rfl) ?_
            refine WD.know [5] (by kernel_rfl) ?_
            refine WD.know [6] (by kernel_rfl) ?_
            refine WD.told 7 95 (.agg (cGAct (⟨y149.2.2.2.2.1, y149.2.2.2.2.2.1, y149.2.2.2.2.2.2.1, y149.2.2.2.2.2.2.2.1, y149.2.2.2.2.2.2.2.2⟩ : GAct) a150 c150).toArray) (by kernel_rfl) (by kernel_rfl) ?_
            refine WD.does 8 (by kernel_rfl) rfl (Floats.of [6, 5, 4, 2, 1, 0] [7, 3] (by kernel_rfl) (Floats.pure _ (by kernel_rfl) (by kernel_rfl)) (.cons (.tells rfl (by kernel_rfl) rfl (.loadV H 0 rfl 20 (by kernel_rfl) (by kernel_rfl))) (.cons (.tells rfl (by kernel_rfl) rfl (.loadV H 0 rfl 0 (by kernel_rfl) (by kernel_rfl))) .nil))) (by kernel_rfl) (by kernel_rfl) (Does.storeE H 5 (cGFrame ({ y130 with State := y149.1, Out := (⟨y149.2.1, (⟨y149.2.2.1, y149.2.2.2.1⟩ : GValue)⟩ : GOut) }) a131 c131 a132 c132 a133 c133) rfl (q := 0) (by kernel_rfl) (by kernel_rfl) (by kernel_rfl) fun w H => ?_)
            refine WD.does 9 (by kernel_rfl) rfl (Floats.of [6, 5, 4] [7] (by kernel_rfl) (Floats.pure _ (by kernel_rfl) (by kernel_rfl)) (.cons (.tells rfl (by kernel_rfl) rfl (.loadV H 0 rfl 20 (by kernel_rfl) (by kernel_rfl))) .nil)) (by kernel_rfl) (by kernel_rfl) (Does.storeE H 4 (cGAct (⟨y149.2.2.2.2.1, y149.2.2.2.2.2.1, y149.2.2.2.2.2.2.1, y149.2.2.2.2.2.2.2.1, y149.2.2.2.2.2.2.2.2⟩ : GAct) a150 c150) rfl (q := 0) (by kernel_rfl) (by kernel_rfl) (by kernel_rfl) fun w H => ?_)
            refine WD.fin (by kernel_rfl) (Floats.of [] [] (by kernel_rfl) .nil .nil) (by kernel_rfl) (by kernel_rfl) ?_
            obtain ⟨h151, le151, f151, H⟩ := (H.front 1 rfl).rowFreeze le149
            obtain ⟨h152, le152, f152, H⟩ := (H.front 1 rfl).rowFreeze (le149.trans le151)
            obtain ⟨h153, le153, f153, H⟩ := (H.front 1 rfl).rowFreeze ((le149.trans le151).trans le152)
            obtain rfl := Option.some.inj hr
            exact WE.ret ⟨[.agg (cGFrame ({ y130 with State := y149.1, Out := (⟨y149.2.1, (⟨y149.2.2.1, y149.2.2.2.1⟩ : GValue)⟩ : GOut) }) a131 c131 a132 c132 a133 c133).toArray, .agg (cGAct (⟨y149.2.2.2.2.1, y149.2.2.2.2.2.1, y149.2.2.2.2.2.2.1, y149.2.2.2.2.2.2.2.1, y149.2.2.2.2.2.2.2.2⟩ : GAct) a150 c150).toArray], ⟨⟨(by kernel_rfl), ⟨b125, 0, none⟩, (by kernel_rfl), H.loadVar 2 rfl 0 (by kernel_rfl)⟩, ⟨(by kernel_rfl), ⟨b126, 0, none⟩, (by kernel_rfl), H.loadVar 1 rfl 0 (by kernel_rfl)⟩, trivial⟩, ⟨h153, a131, c131, a132, c132, a133, c133, a150, c150, rfl, ((((le130.trans le149).trans le151).trans le152).trans le153), ((f151.up le152).up le153), (f152.up le153), f153, (((f150.up le151).up le152).up le153), (H.keep 4)⟩⟩
          · refine WE.no (by kernel_rfl) (b := !y147) (by kernel_rfl) t148 ?_
            refine WE.skip ?_
            refine WE.seq ?_
            refine WE.seq ?_
            refine WE.region ?_
            refine WL.sg 4 (by kernel_rfl) ?_
            refine WL.does (by kernel_rfl) (by kernel_rfl) (Does.loadV H 0 rfl 17 (by kernel_rfl) (by kernel_rfl) ?_)
            refine WL.fin 0 (by kernel_rfl) (by kernel_rfl) ?_
            refine WE.block ?_
            refine WE.seq ?_
            refine WE.region ?_
            refine WL.fin 2 (by kernel_rfl) (by kernel_rfl) ?_
            rcases ite_cases hr with ⟨t154, hr⟩ | ⟨t154, hr⟩
            · refine WE.yes (by kernel_rfl) (b := y140.2.1 == 16) (by kernel_rfl) t154 ?_
              refine WE.region ?_
              refine WL.sg 5 (by kernel_rfl) ?_
              refine WL.does (by kernel_rfl) (by kernel_rfl) (Does.loadV H 0 rfl 18 (by kernel_rfl) (by kernel_rfl) ?_)
              obtain ⟨y155, q155, hr⟩ := bnd_cases hr
              refine WL.does (by kernel_rfl) (by kernel_rfl) (Does.call (c_frame_runner_trap (⟨y130, x0, (⟨y140.2.1, y140.2.2.1, y140.2.2.2⟩ : GInstr), (⟨1, 0, 0, 0, []⟩ : GAct)⟩ : Grunner) (f1.up le130) (Sl.nil none 0 (Nat.zero_le _)) y140.2.2.1 H q155) (by kernel_rfl) ?_)
              rintro _ w ⟨h155, a156, c156, rfl, le155, f156, H⟩
              refine WL.fin 0 (by kernel_rfl) (by kernel_rfl) ?_
              refine WE.seq ?_
              refine WE.label ?_
              refine WE.seq ?_
              refine WE.draws mo [4, 5, 6] (ρ' := [(4, .pointer (some ⟨b125, 0, none⟩)), (5, .pointer (some ⟨b126, 0, none⟩)), (6, .pointer (some ⟨b137, 0, none⟩))]) (by kernel_rfl) fun w e1 e2 e3 e4 => ?_
              have H := H.same e1 e2 e3 e4
              clear e1 e2 e3 e4
              refine WD.know [0] (by kernel_rfl) ?_
              refine WD.know [1] (by kernel_rfl) ?_
              refine WD.know [2] (by kernel_rfl) ?_
              refine WD.told 3 91 (.agg (cGFrame ({ y130 with State := y155.1, Out := (⟨y155.2.1, (⟨y155.2.2.1, y155.2.2.2.1⟩ : GValue)⟩ : GOut) }) a131 c131 a132 c132 a133 c133).toArray) (by kernel_rfl) (by kernel_rfl) ?_
              refine WD.know [4] (by kernel_rfl) ?_
              refine WD.know [5] (by kernel_rfl) ?_
              refine WD.know [6] (by kernel_rfl) ?_
              refine WD.told 7 95 (.agg (cGAct (⟨y155.2.2.2.2.1, y155.2.2.2.2.2.1, y155.2.2.2.2.2.2.1, y155.2.2.2.2.2.2.2.1, y155.2.2.2.2.2.2.2.2⟩ : GAct) a156 c156).toArray) (by kernel_rfl) (by kernel_rfl) ?_
              refine WD.does 8 (by kernel_rfl) rfl (Floats.of [6, 5, 4, 2, 1, 0] [7, 3] (by kernel_rfl) (Floats.pure _ (by kernel_rfl) (by kernel_rfl)) (.cons (.tells rfl (by kernel_rfl) rfl (.loadV H 0 rfl 20 (by kernel_rfl) (by kernel_rfl))) (.cons (.tells rfl (by kernel_rfl) rfl (.loadV H 0 rfl 0 (by kernel_rfl) (by kernel_rfl))) .nil))) (by kernel_rfl) (by kernel_rfl) (Does.storeE H 5 (cGFrame ({ y130 with State := y155.1, Out := (⟨y155.2.1, (⟨y155.2.2.1, y155.2.2.2.1⟩ : GValue)⟩ : GOut) }) a131 c131 a132 c132 a133 c133) rfl (q := 0) (by kernel_rfl) (by kernel_rfl) (by kernel_rfl) fun w H => ?_)
              refine WD.does 9 (by kernel_rfl) rfl (Floats.of [6, 5, 4] [7] (by kernel_rfl) (Floats.pure _ (by kernel_rfl) (by kernel_rfl)) (.cons (.tells rfl (by kernel_rfl) rfl (.loadV H 0 rfl 20 (by kernel_rfl) (by kernel_rfl))) .nil)) (by kernel_rfl) (by kernel_rfl) (Does.storeE H 4 (cGAct (⟨y155.2.2.2.2.1, y155.2.2.2.2.2.1, y155.2.2.2.2.2.2.1, y155.2.2.2.2.2.2.2.1, y155.2.2.2.2.2.2.2.2⟩ : GAct) a156 c156) rfl (q := 0) (by kernel_rfl) (by kernel_rfl) (by kernel_rfl) fun w H => ?_)
              refine WD.fin (by kernel_rfl) (Floats.of [] [] (by kernel_rfl) .nil .nil) (by kernel_rfl) (by kernel_rfl) ?_
              obtain ⟨h157, le157, f157, H⟩ := (H.front 1 rfl).rowFreeze le155
              obtain ⟨h158, le158, f158, H⟩ := (H.front 1 rfl).rowFreeze (le155.trans le157)
              obtain ⟨h159, le159, f159, H⟩ := (H.front 1 rfl).rowFreeze ((le155.trans le157).trans le158)
              obtain rfl := Option.some.inj hr
              exact WE.ret ⟨[.agg (cGFrame ({ y130 with State := y155.1, Out := (⟨y155.2.1, (⟨y155.2.2.1, y155.2.2.2.1⟩ : GValue)⟩ : GOut) }) a131 c131 a132 c132 a133 c133).toArray, .agg (cGAct (⟨y155.2.2.2.2.1, y155.2.2.2.2.2.1, y155.2.2.2.2.2.2.1, y155.2.2.2.2.2.2.2.1, y155.2.2.2.2.2.2.2.2⟩ : GAct) a156 c156).toArray], ⟨⟨(by kernel_rfl), ⟨b125, 0, none⟩, (by kernel_rfl), H.loadVar 2 rfl 0 (by kernel_rfl)⟩, ⟨(by kernel_rfl), ⟨b126, 0, none⟩, (by kernel_rfl), H.loadVar 1 rfl 0 (by kernel_rfl)⟩, trivial⟩, ⟨h159, a131, c131, a132, c132, a133, c133, a156, c156, rfl, ((((le130.trans le155).trans le157).trans le158).trans le159), ((f157.up le158).up le159), (f158.up le159), f159, (((f156.up le157).up le158).up le159), (H.keep 4)⟩⟩
            · refine WE.no (by kernel_rfl) (b := y140.2.1 == 16) (by kernel_rfl) t154 ?_
              refine WE.seq ?_
              refine WE.region ?_
              refine WL.fin 2 (by kernel_rfl) (by kernel_rfl) ?_
              rcases ite_cases hr with ⟨t160, hr⟩ | ⟨t160, hr⟩
              · refine WE.yes (by kernel_rfl) (b := y140.2.1 == 15) (by kernel_rfl) t160 ?_
                refine WE.region ?_
                obtain ⟨y161, q161, hr⟩ := bind_cases hr
                refine WL.sg 2 (by kernel_rfl) ?_
                refine WL.does (by kernel_rfl) (by kernel_rfl) (Does.call (c_frame_runner_pop (⟨y130, x0, (⟨y140.2.1, y140.2.2.1, y140.2.2.2⟩ : GInstr), (⟨1, 0, 0, 0, []⟩ : GAct)⟩ : Grunner) (f1.up le130) (Sl.nil none 0 (Nat.zero_le _)) 1 H q161) (by kernel_rfl) ?_)
                rintro _ w ⟨h161, a162, c162, a164, c164, rfl, le161, H⟩
                obtain ⟨⟨g0_166, g1_166⟩, hr⟩ := grd_cases hr
                obtain ⟨b166, p166, rfl⟩ := H.rowSome 4 rfl g0_166 g1_166
                refine WL.does (by kernel_rfl) (by kernel_rfl) (Does.tells (.idx b166 (p166) y161.1.length c162 (0 : Int) 2 (by kernel_rfl) (by kernel_rfl) g0_166 g1_166 (by kernel_rfl)) ?_)
                refine WL.does (by kernel_rfl) (by kernel_rfl) (Does.tells (.loadRow (v := .agg #[.int .i64 ((gd y161.1 (0 : Int)).Re), .int .i64 ((gd y161.1 (0 : Int)).Im)]) H 4 rfl g0_166 g1_166 0 2 rfl (fun _ e => by rcases e with rfl; kernel_rfl) (by kernel_rfl)) ?_)
                obtain ⟨y167, q167, hr⟩ := bnd_cases hr
                refine WL.sg 1 (by kernel_rfl) ?_
                have H := H.rowUp 2 rfl le161
                have H := H.rowUp 3 rfl le161
                refine WL.does (by kernel_rfl) (by kernel_rfl) (Does.call (c_frame_runner_end (⟨{ y130 with Stack := y161.2 }, x0, (⟨y140.2.1, y140.2.2.1, y140.2.2.2⟩ : GInstr), (⟨1, 0, 0, 0, []⟩ : GAct)⟩ : Grunner) ((f1.up le130).up le161) (Sl.nil none 0 (Nat.zero_le _)) (⟨0, (⟨(gd y161.1 (0 : Int)).Re, (gd y161.1 (0 : Int)).Im⟩ : GValue)⟩ : GOut) H q167) (by kernel_rfl) ?_)
                rintro _ w ⟨h167, a168, c168, rfl, le167, f168, H⟩
                refine WL.fin 0 (by kernel_rfl) (by kernel_rfl) ?_
                refine WE.seq ?_
                refine WE.label ?_
                refine WE.seq ?_
                refine WE.draws mo [4, 5, 6] (ρ' := [(4, .pointer (some ⟨b125, 0, none⟩)), (5, .pointer (some ⟨b126, 0, none⟩)), (6, .pointer (some ⟨b137, 0, none⟩))]) (by kernel_rfl) fun w e1 e2 e3 e4 => ?_
                have H := H.same e1 e2 e3 e4
                clear e1 e2 e3 e4
                refine WD.know [0] (by kernel_rfl) ?_
                refine WD.know [1] (by kernel_rfl) ?_
                refine WD.know [2] (by kernel_rfl) ?_
                refine WD.told 3 91 (.agg (cGFrame ({ y130 with Stack := y161.2, State := y167.1, Out := (⟨y167.2.1, (⟨y167.2.2.1, y167.2.2.2.1⟩ : GValue)⟩ : GOut) }) a164 c164 a132 c132 a133 c133).toArray) (by kernel_rfl) (by kernel_rfl) ?_
                refine WD.know [4] (by kernel_rfl) ?_
                refine WD.know [5] (by kernel_rfl) ?_
                refine WD.know [6] (by kernel_rfl) ?_
                refine WD.told 7 95 (.agg (cGAct (⟨y167.2.2.2.2.1, y167.2.2.2.2.2.1, y167.2.2.2.2.2.2.1, y167.2.2.2.2.2.2.2.1, y167.2.2.2.2.2.2.2.2⟩ : GAct) a168 c168).toArray) (by kernel_rfl) (by kernel_rfl) ?_
                refine WD.does 8 (by kernel_rfl) rfl (Floats.of [6, 5, 4, 2, 1, 0] [7, 3] (by kernel_rfl) (Floats.pure _ (by kernel_rfl) (by kernel_rfl)) (.cons (.tells rfl (by kernel_rfl) rfl (.loadV H 0 rfl 20 (by kernel_rfl) (by kernel_rfl))) (.cons (.tells rfl (by kernel_rfl) rfl (.loadV H 0 rfl 0 (by kernel_rfl) (by kernel_rfl))) .nil))) (by kernel_rfl) (by kernel_rfl) (Does.storeE H 6 (cGFrame ({ y130 with Stack := y161.2, State := y167.1, Out := (⟨y167.2.1, (⟨y167.2.2.1, y167.2.2.2.1⟩ : GValue)⟩ : GOut) }) a164 c164 a132 c132 a133 c133) rfl (q := 0) (by kernel_rfl) (by kernel_rfl) (by kernel_rfl) fun w H => ?_)
                refine WD.does 9 (by kernel_rfl) rfl (Floats.of [6, 5, 4] [7] (by kernel_rfl) (Floats.pure _ (by kernel_rfl) (by kernel_rfl)) (.cons (.tells rfl (by kernel_rfl) rfl (.loadV H 0 rfl 20 (by kernel_rfl) (by kernel_rfl))) .nil)) (by kernel_rfl) (by kernel_rfl) (Does.storeE H 5 (cGAct (⟨y167.2.2.2.2.1, y167.2.2.2.2.2.1, y167.2.2.2.2.2.2.1, y167.2.2.2.2.2.2.2.1, y167.2.2.2.2.2.2.2.2⟩ : GAct) a168 c168) rfl (q := 0) (by kernel_rfl) (by kernel_rfl) (by kernel_rfl) fun w H => ?_)
                refine WD.fin (by kernel_rfl) (Floats.of [] [] (by kernel_rfl) .nil .nil) (by kernel_rfl) (by kernel_rfl) ?_
                obtain ⟨h169, le169, f169, H⟩ := (H.front 1 rfl).rowFreeze le167
                obtain ⟨h170, le170, f170, H⟩ := (H.front 1 rfl).rowFreeze (le167.trans le169)
                obtain ⟨h171, le171, f171, H⟩ := (H.front 1 rfl).rowFreeze ((le167.trans le169).trans le170)
                obtain rfl := Option.some.inj hr
                exact WE.ret ⟨[.agg (cGFrame ({ y130 with Stack := y161.2, State := y167.1, Out := (⟨y167.2.1, (⟨y167.2.2.1, y167.2.2.2.1⟩ : GValue)⟩ : GOut) }) a164 c164 a132 c132 a133 c133).toArray, .agg (cGAct (⟨y167.2.2.2.2.1, y167.2.2.2.2.2.1, y167.2.2.2.2.2.2.1, y167.2.2.2.2.2.2.2.1, y167.2.2.2.2.2.2.2.2⟩ : GAct) a168 c168).toArray], ⟨⟨(by kernel_rfl), ⟨b125, 0, none⟩, (by kernel_rfl), H.loadVar 3 rfl 0 (by kernel_rfl)⟩, ⟨(by kernel_rfl), ⟨b126, 0, none⟩, (by kernel_rfl), H.loadVar 2 rfl 0 (by kernel_rfl)⟩, trivial⟩, ⟨h171, a164, c164, a132, c132, a133, c133, a168, c168, rfl, (((((le130.trans le161).trans le167).trans le169).trans le170).trans le171), ((f169.up le170).up le171), (f170.up le171), f171, (((f168.up le169).up le170).up le171), (H.keep 5)⟩⟩
              · refine WE.no (by kernel_rfl) (b := y140.2.1 == 15) (by kernel_rfl) t160 ?_
                refine WE.seq ?_
                refine WE.region ?_
                refine WL.fin 2 (by kernel_rfl) (by kernel_rfl) ?_
                rcases ite_cases hr with ⟨t172, hr⟩ | ⟨t172, hr⟩
                · refine WE.yes (by kernel_rfl) (b := y140.2.1 == 13) (by kernel_rfl) t172 ?_
                  refine WE.region ?_
                  obtain ⟨y173, q173, hr⟩ := bind_cases hr
                  refine WL.sg 1 (by kernel_rfl) ?_
                  refine WL.does (by kernel_rfl) (by kernel_rfl) (Does.call (c_frame_runner_spawn K (⟨y130, x0, (⟨y140.2.1, y140.2.2.1, y140.2.2.2⟩ : GInstr), (⟨1, 0, 0, 0, []⟩ : GAct)⟩ : Grunner) (f1.up le130) (Sl.nil none 0 (Nat.zero_le _)) H q173) (by kernel_rfl) ?_)
                  rintro _ w ⟨h173, a174, c174, a176, c176, a178, c178, rfl, le173, f178, H⟩
                  refine WL.fin 0 (by kernel_rfl) (by kernel_rfl) ?_
                  refine WE.seq ?_
                  refine WE.label ?_
                  refine WE.seq ?_
                  refine WE.draws mo [4, 5, 6] (ρ' := [(4, .pointer (some ⟨b125, 0, none⟩)), (5, .pointer (some ⟨b126, 0, none⟩)), (6, .pointer (some ⟨b137, 0, none⟩))]) (by kernel_rfl) fun w e1 e2 e3 e4 => ?_
                  have H := H.same e1 e2 e3 e4
                  clear e1 e2 e3 e4
                  refine WD.know [0] (by kernel_rfl) ?_
                  refine WD.know [1] (by kernel_rfl) ?_
                  refine WD.know [2] (by kernel_rfl) ?_
                  refine WD.told 3 91 (.agg (cGFrame ({ y130 with Pc := y173.1, Stack := y173.2.1, Slots := y173.2.2.1, Spawned := y173.2.2.2.1, State := y173.2.2.2.2.1, Out := (⟨y173.2.2.2.2.2.1, (⟨y173.2.2.2.2.2.2.1, y173.2.2.2.2.2.2.2.1⟩ : GValue)⟩ : GOut) }) a174 c174 a132 c132 a176 c176).toArray) (by kernel_rfl) (by kernel_rfl) ?_
                  refine WD.know [4] (by kernel_rfl) ?_
                  refine WD.know [5] (by kernel_rfl) ?_
                  refine WD.know [6] (by kernel_rfl) ?_
                  refine WD.told 7 95 (.agg (cGAct (⟨y173.2.2.2.2.2.2.2.2.1, y173.2.2.2.2.2.2.2.2.2.1, y173.2.2.2.2.2.2.2.2.2.2.1, y173.2.2.2.2.2.2.2.2.2.2.2.1, y173.2.2.2.2.2.2.2.2.2.2.2.2⟩ : GAct) a178 c178).toArray) (by kernel_rfl) (by kernel_rfl) ?_
                  refine WD.does 8 (by kernel_rfl) rfl (Floats.of [6, 5, 4, 2, 1, 0] [7, 3] (by kernel_rfl) (Floats.pure _ (by kernel_rfl) (by kernel_rfl)) (.cons (.tells rfl (by kernel_rfl) rfl (.loadV H 0 rfl 20 (by kernel_rfl) (by kernel_rfl))) (.cons (.tells rfl (by kernel_rfl) rfl (.loadV H 0 rfl 0 (by kernel_rfl) (by kernel_rfl))) .nil))) (by kernel_rfl) (by kernel_rfl) (Does.storeE H 5 (cGFrame ({ y130 with Pc := y173.1, Stack := y173.2.1, Slots := y173.2.2.1, Spawned := y173.2.2.2.1, State := y173.2.2.2.2.1, Out := (⟨y173.2.2.2.2.2.1, (⟨y173.2.2.2.2.2.2.1, y173.2.2.2.2.2.2.2.1⟩ : GValue)⟩ : GOut) }) a174 c174 a132 c132 a176 c176) rfl (q := 0) (by kernel_rfl) (by kernel_rfl) (by kernel_rfl) fun w H => ?_)
                  refine WD.does 9 (by kernel_rfl) rfl (Floats.of [6, 5, 4] [7] (by kernel_rfl) (Floats.pure _ (by kernel_rfl) (by kernel_rfl)) (.cons (.tells rfl (by kernel_rfl) rfl (.loadV H 0 rfl 20 (by kernel_rfl) (by kernel_rfl))) .nil)) (by kernel_rfl) (by kernel_rfl) (Does.storeE H 4 (cGAct (⟨y173.2.2.2.2.2.2.2.2.1, y173.2.2.2.2.2.2.2.2.2.1, y173.2.2.2.2.2.2.2.2.2.2.1, y173.2.2.2.2.2.2.2.2.2.2.2.1, y173.2.2.2.2.2.2.2.2.2.2.2.2⟩ : GAct) a178 c178) rfl (q := 0) (by kernel_rfl) (by kernel_rfl) (by kernel_rfl) fun w H => ?_)
                  refine WD.fin (by kernel_rfl) (Floats.of [] [] (by kernel_rfl) .nil .nil) (by kernel_rfl) (by kernel_rfl) ?_
                  obtain ⟨h179, le179, f179, H⟩ := (H.front 1 rfl).rowFreeze (Gh.refl _)
                  obtain ⟨h180, le180, f180, H⟩ := (H.front 1 rfl).rowFreeze (le173.trans le179)
                  obtain ⟨h181, le181, f181, H⟩ := (H.front 1 rfl).rowFreeze (le179.trans le180)
                  obtain rfl := Option.some.inj hr
                  exact WE.ret ⟨[.agg (cGFrame ({ y130 with Pc := y173.1, Stack := y173.2.1, Slots := y173.2.2.1, Spawned := y173.2.2.2.1, State := y173.2.2.2.2.1, Out := (⟨y173.2.2.2.2.2.1, (⟨y173.2.2.2.2.2.2.1, y173.2.2.2.2.2.2.2.1⟩ : GValue)⟩ : GOut) }) a174 c174 a132 c132 a176 c176).toArray, .agg (cGAct (⟨y173.2.2.2.2.2.2.2.2.1, y173.2.2.2.2.2.2.2.2.2.1, y173.2.2.2.2.2.2.2.2.2.2.1, y173.2.2.2.2.2.2.2.2.2.2.2.1, y173.2.2.2.2.2.2.2.2.2.2.2.2⟩ : GAct) a178 c178).toArray], ⟨⟨(by kernel_rfl), ⟨b125, 0, none⟩, (by kernel_rfl), H.loadVar 2 rfl 0 (by kernel_rfl)⟩, ⟨(by kernel_rfl), ⟨b126, 0, none⟩, (by kernel_rfl), H.loadVar 1 rfl 0 (by kernel_rfl)⟩, trivial⟩, ⟨h181, a174, c174, a132, c132, a176, c176, a178, c178, rfl, ((((le130.trans le173).trans le179).trans le180).trans le181), ((f179.up le180).up le181), (f180.up le181), f181, (((f178.up le179).up le180).up le181), (H.keep 4)⟩⟩
                · refine WE.no (by kernel_rfl) (b := y140.2.1 == 13) (by kernel_rfl) t172 ?_
                  refine WE.seq ?_
                  refine WE.region ?_
                  refine WL.fin 2 (by kernel_rfl) (by kernel_rfl) ?_
                  rcases ite_cases hr with ⟨t182, hr⟩ | ⟨t182, hr⟩
                  · refine WE.yes (by kernel_rfl) (b := y140.2.1 == 14) (by kernel_rfl) t182 ?_
                    refine WE.region ?_
                    obtain ⟨y183, q183, hr⟩ := bind_cases hr
                    refine WL.sg 1 (by kernel_rfl) ?_
                    refine WL.does (by kernel_rfl) (by kernel_rfl) (Does.call (c_frame_runner_join (⟨y130, x0, (⟨y140.2.1, y140.2.2.1, y140.2.2.2⟩ : GInstr), (⟨1, 0, 0, 0, []⟩ : GAct)⟩ : Grunner) (f1.up le130) (Sl.nil none 0 (Nat.zero_le _)) H q183) (by kernel_rfl) ?_)
                    rintro _ w ⟨h183, a184, c184, a186, c186, a188, c188, a190, c190, rfl, le183, f190, H⟩
                    refine WL.fin 0 (by kernel_rfl) (by kernel_rfl) ?_
                    refine WE.seq ?_
                    refine WE.label ?_
                    refine WE.seq ?_
                    refine WE.draws mo [4, 5, 6] (ρ' := [(4, .pointer (some ⟨b125, 0, none⟩)), (5, .pointer (some ⟨b126, 0, none⟩)), (6, .pointer (some ⟨b137, 0, none⟩))]) (by kernel_rfl) fun w e1 e2 e3 e4 => ?_
                    have H := H.same e1 e2 e3 e4
                    clear e1 e2 e3 e4
                    refine WD.know [0] (by kernel_rfl) ?_
                    refine WD.know [1] (by kernel_rfl) ?_
                    refine WD.know [2] (by kernel_rfl) ?_
                    refine WD.told 3 91 (.agg (cGFrame (⟨y130.Fn, y183.1, y183.2.1, y183.2.2.1, y183.2.2.2.1, y130.Seed, y130.Spawned, y130.Draws, y183.2.2.2.2.1, y183.2.2.2.2.2.1, (⟨y183.2.2.2.2.2.2.1, (⟨y183.2.2.2.2.2.2.2.1, y183.2.2.2.2.2.2.2.2.1⟩ : GValue)⟩ : GOut), y130.Up, y130.UpSlot⟩ : GFrame) a184 c184 a186 c186 a188 c188).toArray) (by kernel_rfl) (by kernel_rfl) ?_
                    refine WD.know [4] (by kernel_rfl) ?_
                    refine WD.know [5] (by kernel_rfl) ?_
                    refine WD.know [6] (by kernel_rfl) ?_
                    refine WD.told 7 95 (.agg (cGAct (⟨y183.2.2.2.2.2.2.2.2.2.1, y183.2.2.2.2.2.2.2.2.2.2.1, y183.2.2.2.2.2.2.2.2.2.2.2.1, y183.2.2.2.2.2.2.2.2.2.2.2.2.1, y183.2.2.2.2.2.2.2.2.2.2.2.2.2⟩ : GAct) a190 c190).toArray) (by kernel_rfl) (by kernel_rfl) ?_
                    refine WD.does 8 (by kernel_rfl) rfl (Floats.of [6, 5, 4, 2, 1, 0] [7, 3] (by kernel_rfl) (Floats.pure _ (by kernel_rfl) (by kernel_rfl)) (.cons (.tells rfl (by kernel_rfl) rfl (.loadV H 0 rfl 20 (by kernel_rfl) (by kernel_rfl))) (.cons (.tells rfl (by kernel_rfl) rfl (.loadV H 0 rfl 0 (by kernel_rfl) (by kernel_rfl))) .nil))) (by kernel_rfl) (by kernel_rfl) (Does.storeE H 5 (cGFrame (⟨y130.Fn, y183.1, y183.2.1, y183.2.2.1, y183.2.2.2.1, y130.Seed, y130.Spawned, y130.Draws, y183.2.2.2.2.1, y183.2.2.2.2.2.1, (⟨y183.2.2.2.2.2.2.1, (⟨y183.2.2.2.2.2.2.2.1, y183.2.2.2.2.2.2.2.2.1⟩ : GValue)⟩ : GOut), y130.Up, y130.UpSlot⟩ : GFrame) a184 c184 a186 c186 a188 c188) rfl (q := 0) (by kernel_rfl) (by kernel_rfl) (by kernel_rfl) fun w H => ?_)
                    refine WD.does 9 (by kernel_rfl) rfl (Floats.of [6, 5, 4] [7] (by kernel_rfl) (Floats.pure _ (by kernel_rfl) (by kernel_rfl)) (.cons (.tells rfl (by kernel_rfl) rfl (.loadV H 0 rfl 20 (by kernel_rfl) (by kernel_rfl))) .nil)) (by kernel_rfl) (by kernel_rfl) (Does.storeE H 4 (cGAct (⟨y183.2.2.2.2.2.2.2.2.2.1, y183.2.2.2.2.2.2.2.2.2.2.1, y183.2.2.2.2.2.2.2.2.2.2.2.1, y183.2.2.2.2.2.2.2.2.2.2.2.2.1, y183.2.2.2.2.2.2.2.2.2.2.2.2.2⟩ : GAct) a190 c190) rfl (q := 0) (by kernel_rfl) (by kernel_rfl) (by kernel_rfl) fun w H => ?_)
                    refine WD.fin (by kernel_rfl) (Floats.of [] [] (by kernel_rfl) .nil .nil) (by kernel_rfl) (by kernel_rfl) ?_
                    obtain ⟨h191, le191, f191, H⟩ := (H.front 1 rfl).rowFreeze (Gh.refl _)
                    obtain ⟨h192, le192, f192, H⟩ := (H.front 1 rfl).rowFreeze le191
                    obtain ⟨h193, le193, f193, H⟩ := (H.front 1 rfl).rowFreeze (le191.trans le192)
                    obtain rfl := Option.some.inj hr
                    exact WE.ret ⟨[.agg (cGFrame (⟨y130.Fn, y183.1, y183.2.1, y183.2.2.1, y183.2.2.2.1, y130.Seed, y130.Spawned, y130.Draws, y183.2.2.2.2.1, y183.2.2.2.2.2.1, (⟨y183.2.2.2.2.2.2.1, (⟨y183.2.2.2.2.2.2.2.1, y183.2.2.2.2.2.2.2.2.1⟩ : GValue)⟩ : GOut), y130.Up, y130.UpSlot⟩ : GFrame) a184 c184 a186 c186 a188 c188).toArray, .agg (cGAct (⟨y183.2.2.2.2.2.2.2.2.2.1, y183.2.2.2.2.2.2.2.2.2.2.1, y183.2.2.2.2.2.2.2.2.2.2.2.1, y183.2.2.2.2.2.2.2.2.2.2.2.2.1, y183.2.2.2.2.2.2.2.2.2.2.2.2.2⟩ : GAct) a190 c190).toArray], ⟨⟨(by kernel_rfl), ⟨b125, 0, none⟩, (by kernel_rfl), H.loadVar 2 rfl 0 (by kernel_rfl)⟩, ⟨(by kernel_rfl), ⟨b126, 0, none⟩, (by kernel_rfl), H.loadVar 1 rfl 0 (by kernel_rfl)⟩, trivial⟩, ⟨h193, a184, c184, a186, c186, a188, c188, a190, c190, rfl, ((((le130.trans le183).trans le191).trans le192).trans le193), ((f191.up le192).up le193), (f192.up le193), f193, (((f190.up le191).up le192).up le193), (H.keep 4)⟩⟩
                  · refine WE.no (by kernel_rfl) (b := y140.2.1 == 14) (by kernel_rfl) t182 ?_
                    refine WE.seq ?_
                    refine WE.seq ?_
                    refine WE.region ?_
                    refine WL.fin 2 (by kernel_rfl) (by kernel_rfl) ?_
                    rcases ite_cases hr with ⟨t194, hr⟩ | ⟨t194, hr⟩
                    · refine WE.yes (by kernel_rfl) (b := y140.2.1 == 3) (by kernel_rfl) t194 ?_
                      refine WE.skip ?_
                      rcases ite_cases hr with ⟨t195, hr⟩ | ⟨t195, hr⟩
                      · refine WE.yes (by kernel_rfl) (b := y140.2.1 == 3) (by kernel_rfl) t195 ?_
                        refine WE.region ?_
                        obtain ⟨y196, q196, hr⟩ := bind_cases hr
                        refine WL.sg 1 (by kernel_rfl) ?_
                        refine WL.does (by kernel_rfl) (by kernel_rfl) (Does.call (c_frame_runner_two K (⟨y130, x0, (⟨y140.2.1, y140.2.2.1, y140.2.2.2⟩ : GInstr), (⟨1, 0, 0, 0, []⟩ : GAct)⟩ : Grunner) (f1.up le130) (Sl.nil none 0 (Nat.zero_le _)) H q196) (by kernel_rfl) ?_)
                        rintro _ w ⟨h196, a197, c197, a199, c199, a201, c201, a203, c203, rfl, le196, f203, H⟩
                        refine WL.fin 0 (by kernel_rfl) (by kernel_rfl) ?_
                        refine WE.seq ?_
                        refine WE.label ?_
                        refine WE.seq ?_
                        refine WE.draws mo [4, 5, 6] (ρ' := [(4, .pointer (some ⟨b125, 0, none⟩)), (5, .pointer (some ⟨b126, 0, none⟩)), (6, .pointer (some ⟨b137, 0, none⟩))]) (by kernel_rfl) fun w e1 e2 e3 e4 => ?_
                        have H := H.same e1 e2 e3 e4
                        clear e1 e2 e3 e4
                        refine WD.know [0] (by kernel_rfl) ?_
                        refine WD.know [1] (by kernel_rfl) ?_
                        refine WD.know [2] (by kernel_rfl) ?_
                        refine WD.told 3 91 (.agg (cGFrame ({ y130 with Pc := y196.1, Stack := y196.2.1, Locals := y196.2.2.1, Slots := y196.2.2.2.1, State := y196.2.2.2.2.1, Out := (⟨y196.2.2.2.2.2.1, (⟨y196.2.2.2.2.2.2.1, y196.2.2.2.2.2.2.2.1⟩ : GValue)⟩ : GOut) }) a197 c197 a199 c199 a201 c201).toArray) (by kernel_rfl) (by kernel_rfl) ?_
                        refine WD.know [4] (by kernel_rfl) ?_
                        refine WD.know [5] (by kernel_rfl) ?_
                        refine WD.know [6] (by kernel_rfl) ?_
                        refine WD.told 7 95 (.agg (cGAct (⟨y196.2.2.2.2.2.2.2.2.1, y196.2.2.2.2.2.2.2.2.2.1, y196.2.2.2.2.2.2.2.2.2.2.1, y196.2.2.2.2.2.2.2.2.2.2.2.1, y196.2.2.2.2.2.2.2.2.2.2.2.2⟩ : GAct) a203 c203).toArray) (by kernel_rfl) (by kernel_rfl) ?_
                        refine WD.does 8 (by kernel_rfl) rfl (Floats.of [6, 5, 4, 2, 1, 0] [7, 3] (by kernel_rfl) (Floats.pure _ (by kernel_rfl) (by kernel_rfl)) (.cons (.tells rfl (by kernel_rfl) rfl (.loadV H 0 rfl 20 (by kernel_rfl) (by kernel_rfl))) (.cons (.tells rfl (by kernel_rfl) rfl (.loadV H 0 rfl 0 (by kernel_rfl) (by kernel_rfl))) .nil))) (by kernel_rfl) (by kernel_rfl) (Does.storeE H 5 (cGFrame ({ y130 with Pc := y196.1, Stack := y196.2.1, Locals := y196.2.2.1, Slots := y196.2.2.2.1, State := y196.2.2.2.2.1, Out := (⟨y196.2.2.2.2.2.1, (⟨y196.2.2.2.2.2.2.1, y196.2.2.2.2.2.2.2.1⟩ : GValue)⟩ : GOut) }) a197 c197 a199 c199 a201 c201) rfl (q := 0) (by kernel_rfl) (by kernel_rfl) (by kernel_rfl) fun w H => ?_)
                        refine WD.does 9 (by kernel_rfl) rfl (Floats.of [6, 5, 4] [7] (by kernel_rfl) (Floats.pure _ (by kernel_rfl) (by kernel_rfl)) (.cons (.tells rfl (by kernel_rfl) rfl (.loadV H 0 rfl 20 (by kernel_rfl) (by kernel_rfl))) .nil)) (by kernel_rfl) (by kernel_rfl) (Does.storeE H 4 (cGAct (⟨y196.2.2.2.2.2.2.2.2.1, y196.2.2.2.2.2.2.2.2.2.1, y196.2.2.2.2.2.2.2.2.2.2.1, y196.2.2.2.2.2.2.2.2.2.2.2.1, y196.2.2.2.2.2.2.2.2.2.2.2.2⟩ : GAct) a203 c203) rfl (q := 0) (by kernel_rfl) (by kernel_rfl) (by kernel_rfl) fun w H => ?_)
                        refine WD.fin (by kernel_rfl) (Floats.of [] [] (by kernel_rfl) .nil .nil) (by kernel_rfl) (by kernel_rfl) ?_
                        obtain ⟨h204, le204, f204, H⟩ := (H.front 1 rfl).rowFreeze (Gh.refl _)
                        obtain ⟨h205, le205, f205, H⟩ := (H.front 1 rfl).rowFreeze le204
                        obtain ⟨h206, le206, f206, H⟩ := (H.front 1 rfl).rowFreeze (le204.trans le205)
                        obtain rfl := Option.some.inj hr
                        exact WE.ret ⟨[.agg (cGFrame ({ y130 with Pc := y196.1, Stack := y196.2.1, Locals := y196.2.2.1, Slots := y196.2.2.2.1, State := y196.2.2.2.2.1, Out := (⟨y196.2.2.2.2.2.1, (⟨y196.2.2.2.2.2.2.1, y196.2.2.2.2.2.2.2.1⟩ : GValue)⟩ : GOut) }) a197 c197 a199 c199 a201 c201).toArray, .agg (cGAct (⟨y196.2.2.2.2.2.2.2.2.1, y196.2.2.2.2.2.2.2.2.2.1, y196.2.2.2.2.2.2.2.2.2.2.1, y196.2.2.2.2.2.2.2.2.2.2.2.1, y196.2.2.2.2.2.2.2.2.2.2.2.2⟩ : GAct) a203 c203).toArray], ⟨⟨(by kernel_rfl), ⟨b125, 0, none⟩, (by kernel_rfl), H.loadVar 2 rfl 0 (by kernel_rfl)⟩, ⟨(by kernel_rfl), ⟨b126, 0, none⟩, (by kernel_rfl), H.loadVar 1 rfl 0 (by kernel_rfl)⟩, trivial⟩, ⟨h206, a197, c197, a199, c199, a201, c201, a203, c203, rfl, ((((le130.trans le196).trans le204).trans le205).trans le206), ((f204.up le205).up le206), (f205.up le206), f206, (((f203.up le204).up le205).up le206), (H.keep 4)⟩⟩
                      · refine WE.no (by kernel_rfl) (b := y140.2.1 == 3) (by kernel_rfl) t195 ?_
                        refine WE.region ?_
                        obtain ⟨y207, q207, hr⟩ := bind_cases hr
                        refine WL.sg 1 (by kernel_rfl) ?_
                        refine WL.does (by kernel_rfl) (by kernel_rfl) (Does.call (c_frame_runner_plain K (⟨y130, x0, (⟨y140.2.1, y140.2.2.1, y140.2.2.2⟩ : GInstr), (⟨1, 0, 0, 0, []⟩ : GAct)⟩ : Grunner) (f1.up le130) (Sl.nil none 0 (Nat.zero_le _)) H q207) (by kernel_rfl) ?_)
                        rintro _ w ⟨h207, a208, c208, a210, c210, a212, c212, rfl, le207, H⟩
                        refine WL.fin 0 (by kernel_rfl) (by kernel_rfl) ?_
                        refine WE.seq ?_
                        refine WE.label ?_
                        refine WE.seq ?_
                        refine WE.draws mo [4, 5, 6] (ρ' := [(4, .pointer (some ⟨b125, 0, none⟩)), (5, .pointer (some ⟨b126, 0, none⟩)), (6, .pointer (some ⟨b137, 0, none⟩))]) (by kernel_rfl) fun w e1 e2 e3 e4 => ?_
                        have H := H.same e1 e2 e3 e4
                        clear e1 e2 e3 e4
                        refine WD.know [0] (by kernel_rfl) ?_
                        refine WD.know [1] (by kernel_rfl) ?_
                        refine WD.know [2] (by kernel_rfl) ?_
                        refine WD.told 3 91 (.agg (cGFrame ({ y130 with Pc := y207.1, Stack := y207.2.1, Locals := y207.2.2.1, Slots := y207.2.2.2.1, Draws := y207.2.2.2.2 }) a208 c208 a210 c210 a212 c212).toArray) (by kernel_rfl) (by kernel_rfl) ?_
                        refine WD.know [4] (by kernel_rfl) ?_
                        refine WD.know [5] (by kernel_rfl) ?_
                        refine WD.know [6] (by kernel_rfl) ?_
                        refine WD.told 7 95 (.agg (cGAct (⟨1, 0, 0, 0, []⟩ : GAct) none 0).toArray) (by kernel_rfl) (by kernel_rfl) ?_
                        refine WD.does 8 (by kernel_rfl) rfl (Floats.of [6, 5, 4, 2, 1, 0] [7, 3] (by kernel_rfl) (Floats.pure _ (by kernel_rfl) (by kernel_rfl)) (.cons (.tells rfl (by kernel_rfl) rfl (.loadV H 0 rfl 20 (by kernel_rfl) (by kernel_rfl))) (.cons (.tells rfl (by kernel_rfl) rfl (.loadV H 0 rfl 0 (by kernel_rfl) (by kernel_rfl))) .nil))) (by kernel_rfl) (by kernel_rfl) (Does.storeE H 5 (cGFrame ({ y130 with Pc := y207.1, Stack := y207.2.1, Locals := y207.2.2.1, Slots := y207.2.2.2.1, Draws := y207.2.2.2.2 }) a208 c208 a210 c210 a212 c212) rfl (q := 0) (by kernel_rfl) (by kernel_rfl) (by kernel_rfl) fun w H => ?_)
                        refine WD.does 9 (by kernel_rfl) rfl (Floats.of [6, 5, 4] [7] (by kernel_rfl) (Floats.pure _ (by kernel_rfl) (by kernel_rfl)) (.cons (.tells rfl (by kernel_rfl) rfl (.loadV H 0 rfl 20 (by kernel_rfl) (by kernel_rfl))) .nil)) (by kernel_rfl) (by kernel_rfl) (Does.storeE H 4 (cGAct (⟨1, 0, 0, 0, []⟩ : GAct) none 0) rfl (q := 0) (by kernel_rfl) (by kernel_rfl) (by kernel_rfl) fun w H => ?_)
                        refine WD.fin (by kernel_rfl) (Floats.of [] [] (by kernel_rfl) .nil .nil) (by kernel_rfl) (by kernel_rfl) ?_
                        obtain ⟨h214, le214, f214, H⟩ := (H.front 1 rfl).rowFreeze (Gh.refl _)
                        obtain ⟨h215, le215, f215, H⟩ := (H.front 1 rfl).rowFreeze le214
                        obtain ⟨h216, le216, f216, H⟩ := (H.front 1 rfl).rowFreeze (le214.trans le215)
                        obtain rfl := Option.some.inj hr
                        exact WE.ret ⟨[.agg (cGFrame ({ y130 with Pc := y207.1, Stack := y207.2.1, Locals := y207.2.2.1, Slots := y207.2.2.2.1, Draws := y207.2.2.2.2 }) a208 c208 a210 c210 a212 c212).toArray, .agg (cGAct (⟨1, 0, 0, 0, []⟩ : GAct) none 0).toArray], ⟨⟨(by kernel_rfl), ⟨b125, 0, none⟩, (by kernel_rfl), H.loadVar 2 rfl 0 (by kernel_rfl)⟩, ⟨(by kernel_rfl), ⟨b126, 0, none⟩, (by kernel_rfl), H.loadVar 1 rfl 0 (by kernel_rfl)⟩, trivial⟩, ⟨h216, a208, c208, a210, c210, a212, c212, none, 0, rfl, ((((le130.trans le207).trans le214).trans le215).trans le216), ((f214.up le215).up le216), (f215.up le216), f216, (Sl.nil _ _ (Nat.zero_le _)), (H.keep 4)⟩⟩
                    · refine WE.no (by kernel_rfl) (b := y140.2.1 == 3) (by kernel_rfl) t194 ?_
                      refine WE.seq ?_
                      refine WE.region ?_
                      refine WL.fin 2 (by kernel_rfl) (by kernel_rfl) ?_
                      rcases ite_cases hr with ⟨t217, hr⟩ | ⟨t217, hr⟩
                      · refine WE.yes (by kernel_rfl) (b := y140.2.1 == 4) (by kernel_rfl) t217 ?_
                        refine WE.skip ?_
                        rcases ite_cases hr with ⟨t218, hr⟩ | ⟨t218, hr⟩
                        · refine WE.yes (by kernel_rfl) (b := y140.2.1 == 4) (by kernel_rfl) t218 ?_
                          refine WE.region ?_
                          obtain ⟨y219, q219, hr⟩ := bind_cases hr
                          refine WL.sg 1 (by kernel_rfl) ?_
                          refine WL.does (by kernel_rfl) (by kernel_rfl) (Does.call (c_frame_runner_two K (⟨y130, x0, (⟨y140.2.1, y140.2.2.1, y140.2.2.2⟩ : GInstr), (⟨1, 0, 0, 0, []⟩ : GAct)⟩ : Grunner) (f1.up le130) (Sl.nil none 0 (Nat.zero_le _)) H q219) (by kernel_rfl) ?_)
                          rintro _ w ⟨h219, a220, c220, a222, c222, a224, c224, a226, c226, rfl, le219, f226, H⟩
                          refine WL.fin 0 (by kernel_rfl) (by kernel_rfl) ?_
                          refine WE.seq ?_
                          refine WE.label ?_
                          refine WE.seq ?_
                          refine WE.draws mo [4, 5, 6] (ρ' := [(4, .pointer (some ⟨b125, 0, none⟩)), (5, .pointer (some ⟨b126, 0, none⟩)), (6, .pointer (some ⟨b137, 0, none⟩))]) (by kernel_rfl) fun w e1 e2 e3 e4 => ?_
                          have H := H.same e1 e2 e3 e4
                          clear e1 e2 e3 e4
                          refine WD.know [0] (by kernel_rfl) ?_
                          refine WD.know [1] (by kernel_rfl) ?_
                          refine WD.know [2] (by kernel_rfl) ?_
                          refine WD.told 3 91 (.agg (cGFrame ({ y130 with Pc := y219.1, Stack := y219.2.1, Locals := y219.2.2.1, Slots := y219.2.2.2.1, State := y219.2.2.2.2.1, Out := (⟨y219.2.2.2.2.2.1, (⟨y219.2.2.2.2.2.2.1, y219.2.2.2.2.2.2.2.1⟩ : GValue)⟩ : GOut) }) a220 c220 a222 c222 a224 c224).toArray) (by kernel_rfl) (by kernel_rfl) ?_
                          refine WD.know [4] (by kernel_rfl) ?_
                          refine WD.know [5] (by kernel_rfl) ?_
                          refine WD.know [6] (by kernel_rfl) ?_
                          refine WD.told 7 95 (.agg (cGAct (⟨y219.2.2.2.2.2.2.2.2.1, y219.2.2.2.2.2.2.2.2.2.1, y219.2.2.2.2.2.2.2.2.2.2.1, y219.2.2.2.2.2.2.2.2.2.2.2.1, y219.2.2.2.2.2.2.2.2.2.2.2.2⟩ : GAct) a226 c226).toArray) (by kernel_rfl) (by kernel_rfl) ?_
                          refine WD.does 8 (by kernel_rfl) rfl (Floats.of [6, 5, 4, 2, 1, 0] [7, 3] (by kernel_rfl) (Floats.pure _ (by kernel_rfl) (by kernel_rfl)) (.cons (.tells rfl (by kernel_rfl) rfl (.loadV H 0 rfl 20 (by kernel_rfl) (by kernel_rfl))) (.cons (.tells rfl (by kernel_rfl) rfl (.loadV H 0 rfl 0 (by kernel_rfl) (by kernel_rfl))) .nil))) (by kernel_rfl) (by kernel_rfl) (Does.storeE H 5 (cGFrame ({ y130 with Pc := y219.1, Stack := y219.2.1, Locals := y219.2.2.1, Slots := y219.2.2.2.1, State := y219.2.2.2.2.1, Out := (⟨y219.2.2.2.2.2.1, (⟨y219.2.2.2.2.2.2.1, y219.2.2.2.2.2.2.2.1⟩ : GValue)⟩ : GOut) }) a220 c220 a222 c222 a224 c224) rfl (q := 0) (by kernel_rfl) (by kernel_rfl) (by kernel_rfl) fun w H => ?_)
                          refine WD.does 9 (by kernel_rfl) rfl (Floats.of [6, 5, 4] [7] (by kernel_rfl) (Floats.pure _ (by kernel_rfl) (by kernel_rfl)) (.cons (.tells rfl (by kernel_rfl) rfl (.loadV H 0 rfl 20 (by kernel_rfl) (by kernel_rfl))) .nil)) (by kernel_rfl) (by kernel_rfl) (Does.storeE H 4 (cGAct (⟨y219.2.2.2.2.2.2.2.2.1, y219.2.2.2.2.2.2.2.2.2.1, y219.2.2.2.2.2.2.2.2.2.2.1, y219.2.2.2.2.2.2.2.2.2.2.2.1, y219.2.2.2.2.2.2.2.2.2.2.2.2⟩ : GAct) a226 c226) rfl (q := 0) (by kernel_rfl) (by kernel_rfl) (by kernel_rfl) fun w H => ?_)
                          refine WD.fin (by kernel_rfl) (Floats.of [] [] (by kernel_rfl) .nil .nil) (by kernel_rfl) (by kernel_rfl) ?_
                          obtain ⟨h227, le227, f227, H⟩ := (H.front 1 rfl).rowFreeze (Gh.refl _)
                          obtain ⟨h228, le228, f228, H⟩ := (H.front 1 rfl).rowFreeze le227
                          obtain ⟨h229, le229, f229, H⟩ := (H.front 1 rfl).rowFreeze (le227.trans le228)
                          obtain rfl := Option.some.inj hr
                          exact WE.ret ⟨[.agg (cGFrame ({ y130 with Pc := y219.1, Stack := y219.2.1, Locals := y219.2.2.1, Slots := y219.2.2.2.1, State := y219.2.2.2.2.1, Out := (⟨y219.2.2.2.2.2.1, (⟨y219.2.2.2.2.2.2.1, y219.2.2.2.2.2.2.2.1⟩ : GValue)⟩ : GOut) }) a220 c220 a222 c222 a224 c224).toArray, .agg (cGAct (⟨y219.2.2.2.2.2.2.2.2.1, y219.2.2.2.2.2.2.2.2.2.1, y219.2.2.2.2.2.2.2.2.2.2.1, y219.2.2.2.2.2.2.2.2.2.2.2.1, y219.2.2.2.2.2.2.2.2.2.2.2.2⟩ : GAct) a226 c226).toArray], ⟨⟨(by kernel_rfl), ⟨b125, 0, none⟩, (by kernel_rfl), H.loadVar 2 rfl 0 (by kernel_rfl)⟩, ⟨(by kernel_rfl), ⟨b126, 0, none⟩, (by kernel_rfl), H.loadVar 1 rfl 0 (by kernel_rfl)⟩, trivial⟩, ⟨h229, a220, c220, a222, c222, a224, c224, a226, c226, rfl, ((((le130.trans le219).trans le227).trans le228).trans le229), ((f227.up le228).up le229), (f228.up le229), f229, (((f226.up le227).up le228).up le229), (H.keep 4)⟩⟩
                        · refine WE.no (by kernel_rfl) (b := y140.2.1 == 4) (by kernel_rfl) t218 ?_
                          refine WE.region ?_
                          obtain ⟨y230, q230, hr⟩ := bind_cases hr
                          refine WL.sg 1 (by kernel_rfl) ?_
                          refine WL.does (by kernel_rfl) (by kernel_rfl) (Does.call (c_frame_runner_plain K (⟨y130, x0, (⟨y140.2.1, y140.2.2.1, y140.2.2.2⟩ : GInstr), (⟨1, 0, 0, 0, []⟩ : GAct)⟩ : Grunner) (f1.up le130) (Sl.nil none 0 (Nat.zero_le _)) H q230) (by kernel_rfl) ?_)
                          rintro _ w ⟨h230, a231, c231, a233, c233, a235, c235, rfl, le230, H⟩
                          refine WL.fin 0 (by kernel_rfl) (by kernel_rfl) ?_
                          refine WE.seq ?_
                          refine WE.label ?_
                          refine WE.seq ?_
                          refine WE.draws mo [4, 5, 6] (ρ' := [(4, .pointer (some ⟨b125, 0, none⟩)), (5, .pointer (some ⟨b126, 0, none⟩)), (6, .pointer (some ⟨b137, 0, none⟩))]) (by kernel_rfl) fun w e1 e2 e3 e4 => ?_
                          have H := H.same e1 e2 e3 e4
                          clear e1 e2 e3 e4
                          refine WD.know [0] (by kernel_rfl) ?_
                          refine WD.know [1] (by kernel_rfl) ?_
                          refine WD.know [2] (by kernel_rfl) ?_
                          refine WD.told 3 91 (.agg (cGFrame ({ y130 with Pc := y230.1, Stack := y230.2.1, Locals := y230.2.2.1, Slots := y230.2.2.2.1, Draws := y230.2.2.2.2 }) a231 c231 a233 c233 a235 c235).toArray) (by kernel_rfl) (by kernel_rfl) ?_
                          refine WD.know [4] (by kernel_rfl) ?_
                          refine WD.know [5] (by kernel_rfl) ?_
                          refine WD.know [6] (by kernel_rfl) ?_
                          refine WD.told 7 95 (.agg (cGAct (⟨1, 0, 0, 0, []⟩ : GAct) none 0).toArray) (by kernel_rfl) (by kernel_rfl) ?_
                          refine WD.does 8 (by kernel_rfl) rfl (Floats.of [6, 5, 4, 2, 1, 0] [7, 3] (by kernel_rfl) (Floats.pure _ (by kernel_rfl) (by kernel_rfl)) (.cons (.tells rfl (by kernel_rfl) rfl (.loadV H 0 rfl 20 (by kernel_rfl) (by kernel_rfl))) (.cons (.tells rfl (by kernel_rfl) rfl (.loadV H 0 rfl 0 (by kernel_rfl) (by kernel_rfl))) .nil))) (by kernel_rfl) (by kernel_rfl) (Does.storeE H 5 (cGFrame ({ y130 with Pc := y230.1, Stack := y230.2.1, Locals := y230.2.2.1, Slots := y230.2.2.2.1, Draws := y230.2.2.2.2 }) a231 c231 a233 c233 a235 c235) rfl (q := 0) (by kernel_rfl) (by kernel_rfl) (by kernel_rfl) fun w H => ?_)
                          refine WD.does 9 (by kernel_rfl) rfl (Floats.of [6, 5, 4] [7] (by kernel_rfl) (Floats.pure _ (by kernel_rfl) (by kernel_rfl)) (.cons (.tells rfl (by kernel_rfl) rfl (.loadV H 0 rfl 20 (by kernel_rfl) (by kernel_rfl))) .nil)) (by kernel_rfl) (by kernel_rfl) (Does.storeE H 4 (cGAct (⟨1, 0, 0, 0, []⟩ : GAct) none 0) rfl (q := 0) (by kernel_rfl) (by kernel_rfl) (by kernel_rfl) fun w H => ?_)
                          refine WD.fin (by kernel_rfl) (Floats.of [] [] (by kernel_rfl) .nil .nil) (by kernel_rfl) (by kernel_rfl) ?_
                          obtain ⟨h237, le237, f237, H⟩ := (H.front 1 rfl).rowFreeze (Gh.refl _)
                          obtain ⟨h238, le238, f238, H⟩ := (H.front 1 rfl).rowFreeze le237
                          obtain ⟨h239, le239, f239, H⟩ := (H.front 1 rfl).rowFreeze (le237.trans le238)
                          obtain rfl := Option.some.inj hr
                          exact WE.ret ⟨[.agg (cGFrame ({ y130 with Pc := y230.1, Stack := y230.2.1, Locals := y230.2.2.1, Slots := y230.2.2.2.1, Draws := y230.2.2.2.2 }) a231 c231 a233 c233 a235 c235).toArray, .agg (cGAct (⟨1, 0, 0, 0, []⟩ : GAct) none 0).toArray], ⟨⟨(by kernel_rfl), ⟨b125, 0, none⟩, (by kernel_rfl), H.loadVar 2 rfl 0 (by kernel_rfl)⟩, ⟨(by kernel_rfl), ⟨b126, 0, none⟩, (by kernel_rfl), H.loadVar 1 rfl 0 (by kernel_rfl)⟩, trivial⟩, ⟨h239, a231, c231, a233, c233, a235, c235, none, 0, rfl, ((((le130.trans le230).trans le237).trans le238).trans le239), ((f237.up le238).up le239), (f238.up le239), f239, (Sl.nil _ _ (Nat.zero_le _)), (H.keep 4)⟩⟩
                      · refine WE.no (by kernel_rfl) (b := y140.2.1 == 4) (by kernel_rfl) t217 ?_
                        refine WE.seq ?_
                        refine WE.region ?_
                        refine WL.fin 2 (by kernel_rfl) (by kernel_rfl) ?_
                        rcases ite_cases hr with ⟨t240, hr⟩ | ⟨t240, hr⟩
                        · refine WE.yes (by kernel_rfl) (b := y140.2.1 == 5) (by kernel_rfl) t240 ?_
                          refine WE.skip ?_
                          rcases ite_cases hr with ⟨t241, hr⟩ | ⟨t241, hr⟩
                          · refine WE.yes (by kernel_rfl) (b := y140.2.1 == 5) (by kernel_rfl) t241 ?_
                            refine WE.region ?_
                            obtain ⟨y242, q242, hr⟩ := bind_cases hr
                            refine WL.sg 1 (by kernel_rfl) ?_
                            refine WL.does (by kernel_rfl) (by kernel_rfl) (Does.call (c_frame_runner_two K (⟨y130, x0, (⟨y140.2.1, y140.2.2.1, y140.2.2.2⟩ : GInstr), (⟨1, 0, 0, 0, []⟩ : GAct)⟩ : Grunner) (f1.up le130) (Sl.nil none 0 (Nat.zero_le _)) H q242) (by kernel_rfl) ?_)
                            rintro _ w ⟨h242, a243, c243, a245, c245, a247, c247, a249, c249, rfl, le242, f249, H⟩
                            refine WL.fin 0 (by kernel_rfl) (by kernel_rfl) ?_
                            refine WE.seq ?_
                            refine WE.label ?_
                            refine WE.seq ?_
                            refine WE.draws mo [4, 5, 6] (ρ' := [(4, .pointer (some ⟨b125, 0, none⟩)), (5, .pointer (some ⟨b126, 0, none⟩)), (6, .pointer (some ⟨b137, 0, none⟩))]) (by kernel_rfl) fun w e1 e2 e3 e4 => ?_
                            have H := H.same e1 e2 e3 e4
                            clear e1 e2 e3 e4
                            refine WD.know [0] (by kernel_rfl) ?_
                            refine WD.know [1] (by kernel_rfl) ?_
                            refine WD.know [2] (by kernel_rfl) ?_
                            refine WD.told 3 91 (.agg (cGFrame ({ y130 with Pc := y242.1, Stack := y242.2.1, Locals := y242.2.2.1, Slots := y242.2.2.2.1, State := y242.2.2.2.2.1, Out := (⟨y242.2.2.2.2.2.1, (⟨y242.2.2.2.2.2.2.1, y242.2.2.2.2.2.2.2.1⟩ : GValue)⟩ : GOut) }) a243 c243 a245 c245 a247 c247).toArray) (by kernel_rfl) (by kernel_rfl) ?_
                            refine WD.know [4] (by kernel_rfl) ?_
                            refine WD.know [5] (by kernel_rfl) ?_
                            refine WD.know [6] (by kernel_rfl) ?_
                            refine WD.told 7 95 (.agg (cGAct (⟨y242.2.2.2.2.2.2.2.2.1, y242.2.2.2.2.2.2.2.2.2.1, y242.2.2.2.2.2.2.2.2.2.2.1, y242.2.2.2.2.2.2.2.2.2.2.2.1, y242.2.2.2.2.2.2.2.2.2.2.2.2⟩ : GAct) a249 c249).toArray) (by kernel_rfl) (by kernel_rfl) ?_
                            refine WD.does 8 (by kernel_rfl) rfl (Floats.of [6, 5, 4, 2, 1, 0] [7, 3] (by kernel_rfl) (Floats.pure _ (by kernel_rfl) (by kernel_rfl)) (.cons (.tells rfl (by kernel_rfl) rfl (.loadV H 0 rfl 20 (by kernel_rfl) (by kernel_rfl))) (.cons (.tells rfl (by kernel_rfl) rfl (.loadV H 0 rfl 0 (by kernel_rfl) (by kernel_rfl))) .nil))) (by kernel_rfl) (by kernel_rfl) (Does.storeE H 5 (cGFrame ({ y130 with Pc := y242.1, Stack := y242.2.1, Locals := y242.2.2.1, Slots := y242.2.2.2.1, State := y242.2.2.2.2.1, Out := (⟨y242.2.2.2.2.2.1, (⟨y242.2.2.2.2.2.2.1, y242.2.2.2.2.2.2.2.1⟩ : GValue)⟩ : GOut) }) a243 c243 a245 c245 a247 c247) rfl (q := 0) (by kernel_rfl) (by kernel_rfl) (by kernel_rfl) fun w H => ?_)
                            refine WD.does 9 (by kernel_rfl) rfl (Floats.of [6, 5, 4] [7] (by kernel_rfl) (Floats.pure _ (by kernel_rfl) (by kernel_rfl)) (.cons (.tells rfl (by kernel_rfl) rfl (.loadV H 0 rfl 20 (by kernel_rfl) (by kernel_rfl))) .nil)) (by kernel_rfl) (by kernel_rfl) (Does.storeE H 4 (cGAct (⟨y242.2.2.2.2.2.2.2.2.1, y242.2.2.2.2.2.2.2.2.2.1, y242.2.2.2.2.2.2.2.2.2.2.1, y242.2.2.2.2.2.2.2.2.2.2.2.1, y242.2.2.2.2.2.2.2.2.2.2.2.2⟩ : GAct) a249 c249) rfl (q := 0) (by kernel_rfl) (by kernel_rfl) (by kernel_rfl) fun w H => ?_)
                            refine WD.fin (by kernel_rfl) (Floats.of [] [] (by kernel_rfl) .nil .nil) (by kernel_rfl) (by kernel_rfl) ?_
                            obtain ⟨h250, le250, f250, H⟩ := (H.front 1 rfl).rowFreeze (Gh.refl _)
                            obtain ⟨h251, le251, f251, H⟩ := (H.front 1 rfl).rowFreeze le250
                            obtain ⟨h252, le252, f252, H⟩ := (H.front 1 rfl).rowFreeze (le250.trans le251)
                            obtain rfl := Option.some.inj hr
                            exact WE.ret ⟨[.agg (cGFrame ({ y130 with Pc := y242.1, Stack := y242.2.1, Locals := y242.2.2.1, Slots := y242.2.2.2.1, State := y242.2.2.2.2.1, Out := (⟨y242.2.2.2.2.2.1, (⟨y242.2.2.2.2.2.2.1, y242.2.2.2.2.2.2.2.1⟩ : GValue)⟩ : GOut) }) a243 c243 a245 c245 a247 c247).toArray, .agg (cGAct (⟨y242.2.2.2.2.2.2.2.2.1, y242.2.2.2.2.2.2.2.2.2.1, y242.2.2.2.2.2.2.2.2.2.2.1, y242.2.2.2.2.2.2.2.2.2.2.2.1, y242.2.2.2.2.2.2.2.2.2.2.2.2⟩ : GAct) a249 c249).toArray], ⟨⟨(by kernel_rfl), ⟨b125, 0, none⟩, (by kernel_rfl), H.loadVar 2 rfl 0 (by kernel_rfl)⟩, ⟨(by kernel_rfl), ⟨b126, 0, none⟩, (by kernel_rfl), H.loadVar 1 rfl 0 (by kernel_rfl)⟩, trivial⟩, ⟨h252, a243, c243, a245, c245, a247, c247, a249, c249, rfl, ((((le130.trans le242).trans le250).trans le251).trans le252), ((f250.up le251).up le252), (f251.up le252), f252, (((f249.up le250).up le251).up le252), (H.keep 4)⟩⟩
                          · refine WE.no (by kernel_rfl) (b := y140.2.1 == 5) (by kernel_rfl) t241 ?_
                            refine WE.region ?_
                            obtain ⟨y253, q253, hr⟩ := bind_cases hr
                            refine WL.sg 1 (by kernel_rfl) ?_
                            refine WL.does (by kernel_rfl) (by kernel_rfl) (Does.call (c_frame_runner_plain K (⟨y130, x0, (⟨y140.2.1, y140.2.2.1, y140.2.2.2⟩ : GInstr), (⟨1, 0, 0, 0, []⟩ : GAct)⟩ : Grunner) (f1.up le130) (Sl.nil none 0 (Nat.zero_le _)) H q253) (by kernel_rfl) ?_)
                            rintro _ w ⟨h253, a254, c254, a256, c256, a258, c258, rfl, le253, H⟩
                            refine WL.fin 0 (by kernel_rfl) (by kernel_rfl) ?_
                            refine WE.seq ?_
                            refine WE.label ?_
                            refine WE.seq ?_
                            refine WE.draws mo [4, 5, 6] (ρ' := [(4, .pointer (some ⟨b125, 0, none⟩)), (5, .pointer (some ⟨b126, 0, none⟩)), (6, .pointer (some ⟨b137, 0, none⟩))]) (by kernel_rfl) fun w e1 e2 e3 e4 => ?_
                            have H := H.same e1 e2 e3 e4
                            clear e1 e2 e3 e4
                            refine WD.know [0] (by kernel_rfl) ?_
                            refine WD.know [1] (by kernel_rfl) ?_
                            refine WD.know [2] (by kernel_rfl) ?_
                            refine WD.told 3 91 (.agg (cGFrame ({ y130 with Pc := y253.1, Stack := y253.2.1, Locals := y253.2.2.1, Slots := y253.2.2.2.1, Draws := y253.2.2.2.2 }) a254 c254 a256 c256 a258 c258).toArray) (by kernel_rfl) (by kernel_rfl) ?_
                            refine WD.know [4] (by kernel_rfl) ?_
                            refine WD.know [5] (by kernel_rfl) ?_
                            refine WD.know [6] (by kernel_rfl) ?_
                            refine WD.told 7 95 (.agg (cGAct (⟨1, 0, 0, 0, []⟩ : GAct) none 0).toArray) (by kernel_rfl) (by kernel_rfl) ?_
                            refine WD.does 8 (by kernel_rfl) rfl (Floats.of [6, 5, 4, 2, 1, 0] [7, 3] (by kernel_rfl) (Floats.pure _ (by kernel_rfl) (by kernel_rfl)) (.cons (.tells rfl (by kernel_rfl) rfl (.loadV H 0 rfl 20 (by kernel_rfl) (by kernel_rfl))) (.cons (.tells rfl (by kernel_rfl) rfl (.loadV H 0 rfl 0 (by kernel_rfl) (by kernel_rfl))) .nil))) (by kernel_rfl) (by kernel_rfl) (Does.storeE H 5 (cGFrame ({ y130 with Pc := y253.1, Stack := y253.2.1, Locals := y253.2.2.1, Slots := y253.2.2.2.1, Draws := y253.2.2.2.2 }) a254 c254 a256 c256 a258 c258) rfl (q := 0) (by kernel_rfl) (by kernel_rfl) (by kernel_rfl) fun w H => ?_)
                            refine WD.does 9 (by kernel_rfl) rfl (Floats.of [6, 5, 4] [7] (by kernel_rfl) (Floats.pure _ (by kernel_rfl) (by kernel_rfl)) (.cons (.tells rfl (by kernel_rfl) rfl (.loadV H 0 rfl 20 (by kernel_rfl) (by kernel_rfl))) .nil)) (by kernel_rfl) (by kernel_rfl) (Does.storeE H 4 (cGAct (⟨1, 0, 0, 0, []⟩ : GAct) none 0) rfl (q := 0) (by kernel_rfl) (by kernel_rfl) (by kernel_rfl) fun w H => ?_)
                            refine WD.fin (by kernel_rfl) (Floats.of [] [] (by kernel_rfl) .nil .nil) (by kernel_rfl) (by kernel_rfl) ?_
                            obtain ⟨h260, le260, f260, H⟩ := (H.front 1 rfl).rowFreeze (Gh.refl _)
                            obtain ⟨h261, le261, f261, H⟩ := (H.front 1 rfl).rowFreeze le260
                            obtain ⟨h262, le262, f262, H⟩ := (H.front 1 rfl).rowFreeze (le260.trans le261)
                            obtain rfl := Option.some.inj hr
                            exact WE.ret ⟨[.agg (cGFrame ({ y130 with Pc := y253.1, Stack := y253.2.1, Locals := y253.2.2.1, Slots := y253.2.2.2.1, Draws := y253.2.2.2.2 }) a254 c254 a256 c256 a258 c258).toArray, .agg (cGAct (⟨1, 0, 0, 0, []⟩ : GAct) none 0).toArray], ⟨⟨(by kernel_rfl), ⟨b125, 0, none⟩, (by kernel_rfl), H.loadVar 2 rfl 0 (by kernel_rfl)⟩, ⟨(by kernel_rfl), ⟨b126, 0, none⟩, (by kernel_rfl), H.loadVar 1 rfl 0 (by kernel_rfl)⟩, trivial⟩, ⟨h262, a254, c254, a256, c256, a258, c258, none, 0, rfl, ((((le130.trans le253).trans le260).trans le261).trans le262), ((f260.up le261).up le262), (f261.up le262), f262, (Sl.nil _ _ (Nat.zero_le _)), (H.keep 4)⟩⟩
                        · refine WE.no (by kernel_rfl) (b := y140.2.1 == 5) (by kernel_rfl) t240 ?_
                          refine WE.region ?_
                          refine WL.fin 2 (by kernel_rfl) (by kernel_rfl) ?_
                          rcases ite_cases hr with ⟨t263, hr⟩ | ⟨t263, hr⟩
                          · refine WE.yes (by kernel_rfl) (b := y140.2.1 == 6) (by kernel_rfl) t263 ?_
                            refine WE.region ?_
                            obtain ⟨y264, q264, hr⟩ := bind_cases hr
                            refine WL.sg 1 (by kernel_rfl) ?_
                            refine WL.does (by kernel_rfl) (by kernel_rfl) (Does.call (c_frame_runner_two K (⟨y130, x0, (⟨y140.2.1, y140.2.2.1, y140.2.2.2⟩ : GInstr), (⟨1, 0, 0, 0, []⟩ : GAct)⟩ : Grunner) (f1.up le130) (Sl.nil none 0 (Nat.zero_le _)) H q264) (by kernel_rfl) ?_)
                            rintro _ w ⟨h264, a265, c265, a267, c267, a269, c269, a271, c271, rfl, le264, f271, H⟩
                            refine WL.fin 0 (by kernel_rfl) (by kernel_rfl) ?_
                            refine WE.seq ?_
                            refine WE.label ?_
                            refine WE.seq ?_
                            refine WE.draws mo [4, 5, 6] (ρ' := [(4, .pointer (some ⟨b125, 0, none⟩)), (5, .pointer (some ⟨b126, 0, none⟩)), (6, .pointer (some ⟨b137, 0, none⟩))]) (by kernel_rfl) fun w e1 e2 e3 e4 => ?_
                            have H := H.same e1 e2 e3 e4
                            clear e1 e2 e3 e4
                            refine WD.know [0] (by kernel_rfl) ?_
                            refine WD.know [1] (by kernel_rfl) ?_
                            refine WD.know [2] (by kernel_rfl) ?_
                            refine WD.told 3 91 (.agg (cGFrame ({ y130 with Pc := y264.1, Stack := y264.2.1, Locals := y264.2.2.1, Slots := y264.2.2.2.1, State := y264.2.2.2.2.1, Out := (⟨y264.2.2.2.2.2.1, (⟨y264.2.2.2.2.2.2.1, y264.2.2.2.2.2.2.2.1⟩ : GValue)⟩ : GOut) }) a265 c265 a267 c267 a269 c269).toArray) (by kernel_rfl) (by kernel_rfl) ?_
                            refine WD.know [4] (by kernel_rfl) ?_
                            refine WD.know [5] (by kernel_rfl) ?_
                            refine WD.know [6] (by kernel_rfl) ?_
                            refine WD.told 7 95 (.agg (cGAct (⟨y264.2.2.2.2.2.2.2.2.1, y264.2.2.2.2.2.2.2.2.2.1, y264.2.2.2.2.2.2.2.2.2.2.1, y264.2.2.2.2.2.2.2.2.2.2.2.1, y264.2.2.2.2.2.2.2.2.2.2.2.2⟩ : GAct) a271 c271).toArray) (by kernel_rfl) (by kernel_rfl) ?_
                            refine WD.does 8 (by kernel_rfl) rfl (Floats.of [6, 5, 4, 2, 1, 0] [7, 3] (by kernel_rfl) (Floats.pure _ (by kernel_rfl) (by kernel_rfl)) (.cons (.tells rfl (by kernel_rfl) rfl (.loadV H 0 rfl 20 (by kernel_rfl) (by kernel_rfl))) (.cons (.tells rfl (by kernel_rfl) rfl (.loadV H 0 rfl 0 (by kernel_rfl) (by kernel_rfl))) .nil))) (by kernel_rfl) (by kernel_rfl) (Does.storeE H 5 (cGFrame ({ y130 with Pc := y264.1, Stack := y264.2.1, Locals := y264.2.2.1, Slots := y264.2.2.2.1, State := y264.2.2.2.2.1, Out := (⟨y264.2.2.2.2.2.1, (⟨y264.2.2.2.2.2.2.1, y264.2.2.2.2.2.2.2.1⟩ : GValue)⟩ : GOut) }) a265 c265 a267 c267 a269 c269) rfl (q := 0) (by kernel_rfl) (by kernel_rfl) (by kernel_rfl) fun w H => ?_)
                            refine WD.does 9 (by kernel_rfl) rfl (Floats.of [6, 5, 4] [7] (by kernel_rfl) (Floats.pure _ (by kernel_rfl) (by kernel_rfl)) (.cons (.tells rfl (by kernel_rfl) rfl (.loadV H 0 rfl 20 (by kernel_rfl) (by kernel_rfl))) .nil)) (by kernel_rfl) (by kernel_rfl) (Does.storeE H 4 (cGAct (⟨y264.2.2.2.2.2.2.2.2.1, y264.2.2.2.2.2.2.2.2.2.1, y264.2.2.2.2.2.2.2.2.2.2.1, y264.2.2.2.2.2.2.2.2.2.2.2.1, y264.2.2.2.2.2.2.2.2.2.2.2.2⟩ : GAct) a271 c271) rfl (q := 0) (by kernel_rfl) (by kernel_rfl) (by kernel_rfl) fun w H => ?_)
                            refine WD.fin (by kernel_rfl) (Floats.of [] [] (by kernel_rfl) .nil .nil) (by kernel_rfl) (by kernel_rfl) ?_
                            obtain ⟨h272, le272, f272, H⟩ := (H.front 1 rfl).rowFreeze (Gh.refl _)
                            obtain ⟨h273, le273, f273, H⟩ := (H.front 1 rfl).rowFreeze le272
                            obtain ⟨h274, le274, f274, H⟩ := (H.front 1 rfl).rowFreeze (le272.trans le273)
                            obtain rfl := Option.some.inj hr
                            exact WE.ret ⟨[.agg (cGFrame ({ y130 with Pc := y264.1, Stack := y264.2.1, Locals := y264.2.2.1, Slots := y264.2.2.2.1, State := y264.2.2.2.2.1, Out := (⟨y264.2.2.2.2.2.1, (⟨y264.2.2.2.2.2.2.1, y264.2.2.2.2.2.2.2.1⟩ : GValue)⟩ : GOut) }) a265 c265 a267 c267 a269 c269).toArray, .agg (cGAct (⟨y264.2.2.2.2.2.2.2.2.1, y264.2.2.2.2.2.2.2.2.2.1, y264.2.2.2.2.2.2.2.2.2.2.1, y264.2.2.2.2.2.2.2.2.2.2.2.1, y264.2.2.2.2.2.2.2.2.2.2.2.2⟩ : GAct) a271 c271).toArray], ⟨⟨(by kernel_rfl), ⟨b125, 0, none⟩, (by kernel_rfl), H.loadVar 2 rfl 0 (by kernel_rfl)⟩, ⟨(by kernel_rfl), ⟨b126, 0, none⟩, (by kernel_rfl), H.loadVar 1 rfl 0 (by kernel_rfl)⟩, trivial⟩, ⟨h274, a265, c265, a267, c267, a269, c269, a271, c271, rfl, ((((le130.trans le264).trans le272).trans le273).trans le274), ((f272.up le273).up le274), (f273.up le274), f274, (((f271.up le272).up le273).up le274), (H.keep 4)⟩⟩
                          · refine WE.no (by kernel_rfl) (b := y140.2.1 == 6) (by kernel_rfl) t263 ?_
                            refine WE.region ?_
                            obtain ⟨y275, q275, hr⟩ := bind_cases hr
                            refine WL.sg 1 (by kernel_rfl) ?_
                            refine WL.does (by kernel_rfl) (by kernel_rfl) (Does.call (c_frame_runner_plain K (⟨y130, x0, (⟨y140.2.1, y140.2.2.1, y140.2.2.2⟩ : GInstr), (⟨1, 0, 0, 0, []⟩ : GAct)⟩ : Grunner) (f1.up le130) (Sl.nil none 0 (Nat.zero_le _)) H q275) (by kernel_rfl) ?_)
                            rintro _ w ⟨h275, a276, c276, a278, c278, a280, c280, rfl, le275, H⟩
                            refine WL.fin 0 (by kernel_rfl) (by kernel_rfl) ?_
                            refine WE.seq ?_
                            refine WE.label ?_
                            refine WE.seq ?_
                            refine WE.draws mo [4, 5, 6] (ρ' := [(4, .pointer (some ⟨b125, 0, none⟩)), (5, .pointer (some ⟨b126, 0, none⟩)), (6, .pointer (some ⟨b137, 0, none⟩))]) (by kernel_rfl) fun w e1 e2 e3 e4 => ?_
                            have H := H.same e1 e2 e3 e4
                            clear e1 e2 e3 e4
                            refine WD.know [0] (by kernel_rfl) ?_
                            refine WD.know [1] (by kernel_rfl) ?_
                            refine WD.know [2] (by kernel_rfl) ?_
                            refine WD.told 3 91 (.agg (cGFrame ({ y130 with Pc := y275.1, Stack := y275.2.1, Locals := y275.2.2.1, Slots := y275.2.2.2.1, Draws := y275.2.2.2.2 }) a276 c276 a278 c278 a280 c280).toArray) (by kernel_rfl) (by kernel_rfl) ?_
                            refine WD.know [4] (by kernel_rfl) ?_
                            refine WD.know [5] (by kernel_rfl) ?_
                            refine WD.know [6] (by kernel_rfl) ?_
                            refine WD.told 7 95 (.agg (cGAct (⟨1, 0, 0, 0, []⟩ : GAct) none 0).toArray) (by kernel_rfl) (by kernel_rfl) ?_
                            refine WD.does 8 (by kernel_rfl) rfl (Floats.of [6, 5, 4, 2, 1, 0] [7, 3] (by kernel_rfl) (Floats.pure _ (by kernel_rfl) (by kernel_rfl)) (.cons (.tells rfl (by kernel_rfl) rfl (.loadV H 0 rfl 20 (by kernel_rfl) (by kernel_rfl))) (.cons (.tells rfl (by kernel_rfl) rfl (.loadV H 0 rfl 0 (by kernel_rfl) (by kernel_rfl))) .nil))) (by kernel_rfl) (by kernel_rfl) (Does.storeE H 5 (cGFrame ({ y130 with Pc := y275.1, Stack := y275.2.1, Locals := y275.2.2.1, Slots := y275.2.2.2.1, Draws := y275.2.2.2.2 }) a276 c276 a278 c278 a280 c280) rfl (q := 0) (by kernel_rfl) (by kernel_rfl) (by kernel_rfl) fun w H => ?_)
                            refine WD.does 9 (by kernel_rfl) rfl (Floats.of [6, 5, 4] [7] (by kernel_rfl) (Floats.pure _ (by kernel_rfl) (by kernel_rfl)) (.cons (.tells rfl (by kernel_rfl) rfl (.loadV H 0 rfl 20 (by kernel_rfl) (by kernel_rfl))) .nil)) (by kernel_rfl) (by kernel_rfl) (Does.storeE H 4 (cGAct (⟨1, 0, 0, 0, []⟩ : GAct) none 0) rfl (q := 0) (by kernel_rfl) (by kernel_rfl) (by kernel_rfl) fun w H => ?_)
                            refine WD.fin (by kernel_rfl) (Floats.of [] [] (by kernel_rfl) .nil .nil) (by kernel_rfl) (by kernel_rfl) ?_
                            obtain ⟨h282, le282, f282, H⟩ := (H.front 1 rfl).rowFreeze (Gh.refl _)
                            obtain ⟨h283, le283, f283, H⟩ := (H.front 1 rfl).rowFreeze le282
                            obtain ⟨h284, le284, f284, H⟩ := (H.front 1 rfl).rowFreeze (le282.trans le283)
                            obtain rfl := Option.some.inj hr
                            exact WE.ret ⟨[.agg (cGFrame ({ y130 with Pc := y275.1, Stack := y275.2.1, Locals := y275.2.2.1, Slots := y275.2.2.2.1, Draws := y275.2.2.2.2 }) a276 c276 a278 c278 a280 c280).toArray, .agg (cGAct (⟨1, 0, 0, 0, []⟩ : GAct) none 0).toArray], ⟨⟨(by kernel_rfl), ⟨b125, 0, none⟩, (by kernel_rfl), H.loadVar 2 rfl 0 (by kernel_rfl)⟩, ⟨(by kernel_rfl), ⟨b126, 0, none⟩, (by kernel_rfl), H.loadVar 1 rfl 0 (by kernel_rfl)⟩, trivial⟩, ⟨h284, a276, c276, a278, c278, a280, c280, none, 0, rfl, ((((le130.trans le275).trans le282).trans le283).trans le284), ((f282.up le283).up le284), (f283.up le284), f284, (Sl.nil _ _ (Nat.zero_le _)), (H.keep 4)⟩⟩
    rcases ite_cases hy128 with ⟨ty128, hy128⟩ | ⟨ty128, hy128⟩
    · refine WL.known 15 ty128 (by kernel_rfl) (by kernel_rfl) ?_
      refine WL.sg 6 (by kernel_rfl) ?_
      obtain rfl := hy128
      exact WL.live [0, 3, 4, 5, 21] (by kernel_rfl) (hk_y128 () _ H)
    · refine WL.known 15 ty128 (by kernel_rfl) (by kernel_rfl) ?_
      refine WL.sg 1 (by kernel_rfl) ?_
      refine WL.does (by kernel_rfl) (by kernel_rfl) (Does.loadV H 2 rfl 0 (by kernel_rfl) (by kernel_rfl) ?_)
      refine WL.sg 4 (by kernel_rfl) ?_
      obtain rfl := hy128
      exact WL.live [0, 3, 4, 5, 21] (by kernel_rfl) (hk_y128 () _ H)
  rcases ite_cases hy127 with ⟨ty127, hy127⟩ | ⟨ty127, hy127⟩
  · refine WL.known 10 ty127 (by kernel_rfl) (by kernel_rfl) ?_
    refine WL.sg 4 (by kernel_rfl) ?_
    obtain rfl := hy127
    exact WL.live [0, 3, 4, 5, 14] (by kernel_rfl) (hk_y127 () _ H)
  · refine WL.known 10 ty127 (by kernel_rfl) (by kernel_rfl) ?_
    refine WL.sg 1 (by kernel_rfl) ?_
    refine WL.does (by kernel_rfl) (by kernel_rfl) (Does.loadV H 2 rfl 0 (by kernel_rfl) (by kernel_rfl) ?_)
    refine WL.sg 2 (by kernel_rfl) ?_
    obtain rfl := hy127
    exact WL.live [0, 3, 4, 5, 14] (by kernel_rfl) (hk_y127 () _ H)
def frame_Give (x0 : GFrame) (x1 : Int) (x2 : GOut) : Option (GFrame × Bool) :=
  bnd (
      if decide (x1 < 0) then
        true
      else
        decide (x1 ≥ (x0.Slots.length : Int))) fun y27 =>
  (
      if y27 then
        some true
      else
        if 0 ≤ x1 ∧ x1 < x0.Slots.length then
          some (((gd x0.Slots x1).State) != 1)
        else none).bind fun y28 =>
  if y28 then
    some (x0, false)
  else
    (frame_clone x0).bind fun y31 =>
    bnd frame_noRef fun y38 =>
    if 0 ≤ x1 ∧ x1 < y31.Slots.length then
      bnd (
          if y31.State == 1 then
            y31.Wait == x1
          else
            false) fun y41 =>
      if y41 then
        some ({ y31 with Slots := (y31.Slots.set x1.toNat (⟨2, y38, x2⟩ : GSlot)), State := 0, Wait := 0 }, true)
      else
        some ({ y31 with Slots := (y31.Slots.set x1.toNat (⟨2, y38, x2⟩ : GSlot)) }, true)
    else none
set_option maxRecDepth 100000 in
theorem c_frame_Give {w0 w : World} {h : Gh} {L : List Ent} (x0 : GFrame) {a1 : Option Addr} {c1 : Nat} {a2 : Option Addr} {c2 : Nat} {a3 : Option Addr} {c3 : Nat} (f1 : Sl rGValue 16 h a1 c1 x0.Stack) (f2 : Sl rGValue 16 h a2 c2 x0.Locals) (f3 : Sl rGSlot 48 h a3 c3 x0.Slots) (x1 : Int) (x2 : GOut) (H : St w0 h w L) {r : GFrame × Bool} (hr : frame_Give x0 x1 x2 = some r) : Calls Try.prog 16 #[.agg (cGFrame x0 a1 c1 a2 c2 a3 c3).toArray, .int .i64 x1, .agg #[.int .i64 x2.Trap, .int .i64 x2.V.Re, .int .i64 x2.V.Im]] w (fun e w' => ∃ v, e = .returned v ∧ ∃ (h' : Gh) (a901 : Option Addr) (c901 : Nat) (a902 : Option Addr) (c902 : Nat) (a903 : Option Addr) (c903 : Nat), v = .tuple #[.agg (cGFrame r.1 a901 c901 a902 c902 a903 c903).toArray, .bool r.2] ∧ h.le h' ∧ Sl rGValue 16 h' a901 c901 r.1.Stack ∧ Sl rGValue 16 h' a902 c902 r.1.Locals ∧ Sl rGSlot 48 h' a903 c903 r.1.Slots ∧ St w0 h' w' (L)) := by
  refine calls_of (args := [.agg (cGFrame x0 a1 c1 a2 c2 a3 c3).toArray, .int .i64 x1, .agg #[.int .i64 x2.Trap, .int .i64 x2.V.Re, .int .i64 x2.V.Im]]) (n := 48) (rs := [.cell 6 40, .tmp 7]) Try.func16 rfl rfl rfl rfl rfl ?_
  unfold frame_Give at hr
  refine WE.seq ?_
  refine WE.region ?_
  refine WL.does (by kernel_rfl) (by kernel_rfl) (Does.box H (cGFrame x0 a1 c1 a2 c2 a3 c3) (by kernel_rfl) fun b24 w H => ?_)
  refine WL.does (by kernel_rfl) (by kernel_rfl) (Does.box H [.int .i64 x2.Trap, .int .i64 x2.V.Re, .int .i64 x2.V.Im] (by kernel_rfl) fun b25 w H => ?_)
  refine WL.does (by kernel_rfl) (by kernel_rfl) (Does.alloc H (cGFrame (⟨0, 0, [], [], [], 0, 0, 0, 0, 0, (⟨0, (⟨0, 0⟩ : GValue)⟩ : GOut), (⟨0, 0⟩ : GRef), 0⟩ : GFrame) none 0 none 0 none 0) (by kernel_rfl) fun b26 w H => ?_)
  refine WL.fin 1 (by kernel_rfl) (by kernel_rfl) ?_
  refine WE.seq ?_
  refine WE.seq ?_
  refine WE.region ?_
  refine WL.sg 3 (by kernel_rfl) ?_
  obtain ⟨y27, hy27, hr⟩ := bnd_cases hr
  refine WL.join 6 (fun (_ : Unit) => [(1, .int .i64 x1), (3, .pointer (some ⟨b24, 0, none⟩)), (5, .pointer (some ⟨b25, 0, none⟩)), (6, .pointer (some ⟨b26, 0, none⟩)), (16, .bool y27)]) (fun (_ : Unit) w => St w0 h w (var b26 (cGFrame (⟨0, 0, [], [], [], 0, 0, 0, 0, 0, (⟨0, (⟨0, 0⟩ : GValue)⟩ : GOut), (⟨0, 0⟩ : GRef), 0⟩ : GFrame) none 0 none 0 none 0) 40 :: var b25 [.int .i64 x2.Trap, .int .i64 x2.V.Re, .int .i64 x2.V.Im] 36 :: var b24 (cGFrame x0 a1 c1 a2 c2 a3 c3) 40 :: L)) ?_ (fun hk_y27 => ?_)
  · rintro _ w H
    refine WL.sg 1 (by kernel_rfl) ?_
    obtain ⟨y28, hy28, hr⟩ := bind_cases hr
    refine WL.join 8 (fun (_ : Unit) => [(1, .int .i64 x1), (3, .pointer (some ⟨b24, 0, none⟩)), (5, .pointer (some ⟨b25, 0, none⟩)), (6, .pointer (some ⟨b26, 0, none⟩)), (25, .bool y28)]) (fun (_ : Unit) w => St w0 h w (var b26 (cGFrame (⟨0, 0, [], [], [], 0, 0, 0, 0, 0, (⟨0, (⟨0, 0⟩ : GValue)⟩ : GOut), (⟨0, 0⟩ : GRef), 0⟩ : GFrame) none 0 none 0 none 0) 40 :: var b25 [.int .i64 x2.Trap, .int .i64 x2.V.Re, .int .i64 x2.V.Im] 36 :: var b24 (cGFrame x0 a1 c1 a2 c2 a3 c3) 40 :: L)) ?_ (fun hk_y28 => ?_)
    · rintro _ w H
      refine WL.fin 0 (by kernel_rfl) (by kernel_rfl) ?_
      rcases ite_cases hr with ⟨t30, hr⟩ | ⟨t30, hr⟩
      · refine WE.yes (by kernel_rfl) (b := y28) (by kernel_rfl) t30 ?_
        refine WE.seq ?_
        refine WE.region ?_
        refine WL.does (by kernel_rfl) (by kernel_rfl) (Does.loadV H 2 rfl 0 (by kernel_rfl) (by kernel_rfl) ?_)
        refine WL.does (by kernel_rfl) (by kernel_rfl) (Does.storeE H 0 (cGFrame x0 a1 c1 a2 c2 a3 c3) rfl (q := 0) (by kernel_rfl) (by kernel_rfl) (by kernel_rfl) fun w H => ?_)
        refine WL.fin 1 (by kernel_rfl) (by kernel_rfl) ?_
        obtain rfl := Option.some.inj hr
        exact WE.ret ⟨[.agg (cGFrame x0 a1 c1 a2 c2 a3 c3).toArray, .bool false], ⟨⟨(by kernel_rfl), ⟨b26, 0, none⟩, (by kernel_rfl), H.loadVar 0 rfl 0 (by kernel_rfl)⟩, ⟨(by kernel_rfl), (by kernel_rfl)⟩, trivial⟩, ⟨h, a1, c1, a2, c2, a3, c3, rfl, (Gh.refl _), f1, f2, f3, (H.keep 3)⟩⟩
      · refine WE.no (by kernel_rfl) (b := y28) (by kernel_rfl) t30 ?_
        refine WE.skip ?_
        refine WE.seq ?_
        refine WE.region ?_
        refine WL.does (by kernel_rfl) (by kernel_rfl) (Does.loadV H 2 rfl 0 (by kernel_rfl) (by kernel_rfl) ?_)
        obtain ⟨y31, q31, hr⟩ := bind_cases hr
        refine WL.does (by kernel_rfl) (by kernel_rfl) (Does.call (c_frame_clone x0 f1 f2 f3 H q31) (by kernel_rfl) ?_)
        rintro _ w ⟨h31, a32, c32, a33, c33, a34, c34, rfl, le31, H⟩
        refine WL.does (by kernel_rfl) (by kernel_rfl) (Does.storeE H 5 (cGFrame y31 a32 c32 a33 c33 a34 c34) rfl (q := 0) (by kernel_rfl) (by kernel_rfl) (by kernel_rfl) fun w H => ?_)
        refine WL.fin 0 (by kernel_rfl) (by kernel_rfl) ?_
        refine WE.seq ?_
        refine WE.draws mo [1, 3, 5, 6] (ρ' := [(1, .int .i64 x1), (3, .pointer (some ⟨b24, 0, none⟩)), (5, .pointer (some ⟨b25, 0, none⟩)), (6, .pointer (some ⟨b26, 0, none⟩))]) (by kernel_rfl) fun w e1 e2 e3 e4 => ?_
        have H := H.same e1 e2 e3 e4
        clear e1 e2 e3 e4
        refine WD.know [0] (by kernel_rfl) ?_
        refine WD.told 1 30 (.slice a34 y31.Slots.length c34) (by kernel_rfl) (by kernel_rfl) ?_
        refine WD.know [2] (by kernel_rfl) ?_
        refine WD.told 4 33 (.agg #[.int .i64 x2.Trap, .int .i64 x2.V.Re, .int .i64 x2.V.Im]) (by kernel_rfl) (by kernel_rfl) ?_
        obtain ⟨y38, q38, hr⟩ := bnd_cases hr
        refine WD.does 3 (by kernel_rfl) rfl (Floats.of [2, 0] [4, 1] (by kernel_rfl) (Floats.pure _ (by kernel_rfl) (by kernel_rfl)) (.cons (.tells rfl (by kernel_rfl) rfl (.loadV H 4 rfl 0 (by kernel_rfl) (by kernel_rfl))) (.cons (.tells rfl (by kernel_rfl) rfl (.loadV H 5 rfl 4 (by kernel_rfl) (by kernel_rfl))) .nil))) (by kernel_rfl) (by kernel_rfl) (Does.call (c_frame_noRef H q38) (by kernel_rfl) ?_)
        rintro _ w ⟨rfl, H⟩
        refine WD.know [5] (by kernel_rfl) ?_
        obtain ⟨⟨g0_39, g1_39⟩, hr⟩ := grd_cases hr
        obtain ⟨b39, p39, rfl⟩ := H.rowSome 2 rfl g0_39 g1_39
        refine WD.told 6 35 (.pointer (some ⟨b39, p39 + x1.toNat * 6, none⟩)) (by kernel_rfl) (by kernel_rfl) ?_
        obtain ⟨C40, e40, _, hb40, hc40, rfl⟩ := H.rowAt2 2 rfl g0_39 g1_39
        refine WD.does 7 (by kernel_rfl) rfl (Floats.of [5, 2, 0] [6, 4, 1] (by kernel_rfl) (Floats.pure _ (by kernel_rfl) (by kernel_rfl)) (.cons (.tells rfl (by kernel_rfl) (by kernel_rfl) (.idx b39 (p39) y31.Slots.length c34 x1 6 (by kernel_rfl) (by kernel_rfl) g0_39 g1_39 (by kernel_rfl))) (.cons (.tells rfl (by kernel_rfl) rfl (.loadV H 4 rfl 0 (by kernel_rfl) (by kernel_rfl))) (.cons (.tells rfl (by kernel_rfl) rfl (.loadV H 5 rfl 4 (by kernel_rfl) (by kernel_rfl))) .nil)))) (by kernel_rfl) (by kernel_rfl) (Does.storeRow H 2 rfl (Gh.refl _) (j := x1.toNat) (by have h0 := g0_39; have h1 := g1_39; omega) hb40 hc40 0 (by kernel_rfl) (by kernel_rfl) (y' := (⟨2, y38, x2⟩ : GSlot)) (by show _ = _; kernel_rfl) fun w H => ?_)
        refine WD.spelt 30 (v := .slice (some ⟨b39, p39, none⟩) (y31.Slots.set x1.toNat (⟨2, y38, x2⟩ : GSlot)).length c34) (by kernel_rfl) (Eq.trans (b := .slice (some ⟨b39, p39, none⟩) y31.Slots.length c34) (by kernel_rfl) (sl_len (List.length_set ..).symm)) ?_
        have H := H.recell 5 (cGFrame ({ y31 with Slots := (y31.Slots.set x1.toNat (⟨2, y38, x2⟩ : GSlot)) }) a32 c32 a33 c33 (some ⟨b39, p39, none⟩) c34) rfl (by simp only [cGFrame, List.length_set, List.length_take, copied_len])
        refine WD.fin (by kernel_rfl) (Floats.of [] [] (by kernel_rfl) .nil .nil) (by kernel_rfl) (by kernel_rfl) ?_
        refine WE.seq ?_
        refine WE.seq ?_
        refine WE.region ?_
        refine WL.sg 1 (by kernel_rfl) ?_
        refine WL.does (by kernel_rfl) (by kernel_rfl) (Does.loadV H 5 rfl 8 (by kernel_rfl) (by kernel_rfl) ?_)
        refine WL.sg 2 (by kernel_rfl) ?_
        obtain ⟨y41, hy41, hr⟩ := bnd_cases hr
        refine WL.join 5 (fun (_ : Unit) => [(3, .pointer (some ⟨b24, 0, none⟩)), (6, .pointer (some ⟨b26, 0, none⟩)), (44, .bool y41)]) (fun (_ : Unit) w => St w0 h31 w (row rGValue 16 h31 a32 c32 y31.Stack :: row rGValue 16 h31 a33 c33 y31.Locals :: row rGSlot 48 h31 (some ⟨b39, p39, none⟩) c34 (y31.Slots.set x1.toNat (⟨2, y38, x2⟩ : GSlot)) :: var b26 (cGFrame (⟨0, 0, [], [], [], 0, 0, 0, 0, 0, (⟨0, (⟨0, 0⟩ : GValue)⟩ : GOut), (⟨0, 0⟩ : GRef), 0⟩ : GFrame) none 0 none 0 none 0) 40 :: var b25 [.int .i64 x2.Trap, .int .i64 x2.V.Re, .int .i64 x2.V.Im] 36 :: var b24 (cGFrame ({ y31 with Slots := (y31.Slots.set x1.toNat (⟨2, y38, x2⟩ : GSlot)) }) a32 c32 a33 c33 (some ⟨b39, p39, none⟩) c34) 40 :: L)) ?_ (fun hk_y41 => ?_)
        · rintro _ w H
          refine WL.fin 0 (by kernel_rfl) (by kernel_rfl) ?_
          rcases ite_cases hr with ⟨t42, hr⟩ | ⟨t42, hr⟩
          · refine WE.yes (by kernel_rfl) (b := y41) (by kernel_rfl) t42 ?_
            refine WE.region ?_
            refine WL.sg 1 (by kernel_rfl) ?_
            refine WL.does (by kernel_rfl) (by kernel_rfl) (Does.storeE H 5 (cGFrame ({ y31 with Slots := (y31.Slots.set x1.toNat (⟨2, y38, x2⟩ : GSlot)), State := 0 }) a32 c32 a33 c33 (some ⟨b39, p39, none⟩) c34) rfl (q := 8) (by kernel_rfl) (by kernel_rfl) (by kernel_rfl) fun w H => ?_)
            refine WL.sg 1 (by kernel_rfl) ?_
            refine WL.does (by kernel_rfl) (by kernel_rfl) (Does.storeE H 5 (cGFrame ({ y31 with Slots := (y31.Slots.set x1.toNat (⟨2, y38, x2⟩ : GSlot)), State := 0, Wait := 0 }) a32 c32 a33 c33 (some ⟨b39, p39, none⟩) c34) rfl (q := 9) (by kernel_rfl) (by kernel_rfl) (by kernel_rfl) fun w H => ?_)
            refine WL.fin 0 (by kernel_rfl) (by kernel_rfl) ?_
            refine WE.seq ?_
            refine WE.region ?_
            refine WL.does (by kernel_rfl) (by kernel_rfl) (Does.loadV H 5 rfl 0 (by kernel_rfl) (by kernel_rfl) ?_)
            refine WL.does (by kernel_rfl) (by kernel_rfl) (Does.storeE H 3 (cGFrame ({ y31 with Slots := (y31.Slots.set x1.toNat (⟨2, y38, x2⟩ : GSlot)), State := 0, Wait := 0 }) a32 c32 a33 c33 (some ⟨b39, p39, none⟩) c34) rfl (q := 0) (by kernel_rfl) (by kernel_rfl) (by kernel_rfl) fun w H => ?_)
            refine WL.fin 1 (by kernel_rfl) (by kernel_rfl) ?_
            obtain ⟨h43, le43, f43, H⟩ := (H).rowFreeze (Gh.refl _)
            obtain ⟨h44, le44, f44, H⟩ := (H).rowFreeze le43
            obtain ⟨h45, le45, f45, H⟩ := (H).rowFreeze (le43.trans le44)
            obtain rfl := Option.some.inj hr
            exact WE.ret ⟨[.agg (cGFrame ({ y31 with Slots := (y31.Slots.set x1.toNat (⟨2, y38, x2⟩ : GSlot)), State := 0, Wait := 0 }) a32 c32 a33 c33 (some ⟨b39, p39, none⟩) c34).toArray, .bool true], ⟨⟨(by kernel_rfl), ⟨b26, 0, none⟩, (by kernel_rfl), H.loadVar 0 rfl 0 (by kernel_rfl)⟩, ⟨(by kernel_rfl), (by kernel_rfl)⟩, trivial⟩, ⟨h45, a32, c32, a33, c33, (some ⟨b39, p39, none⟩), c34, rfl, (((le31.trans le43).trans le44).trans le45), ((f43.up le44).up le45), (f44.up le45), f45, (H.keep 3)⟩⟩
          · refine WE.no (by kernel_rfl) (b := y41) (by kernel_rfl) t42 ?_
            refine WE.skip ?_
            refine WE.seq ?_
            refine WE.region ?_
            refine WL.does (by kernel_rfl) (by kernel_rfl) (Does.loadV H 5 rfl 0 (by kernel_rfl) (by kernel_rfl) ?_)
            refine WL.does (by kernel_rfl) (by kernel_rfl) (Does.storeE H 3 (cGFrame ({ y31 with Slots := (y31.Slots.set x1.toNat (⟨2, y38, x2⟩ : GSlot)) }) a32 c32 a33 c33 (some ⟨b39, p39, none⟩) c34) rfl (q := 0) (by kernel_rfl) (by kernel_rfl) (by kernel_rfl) fun w H => ?_)
            refine WL.fin 1 (by kernel_rfl) (by kernel_rfl) ?_
            obtain ⟨h46, le46, f46, H⟩ := (H).rowFreeze (Gh.refl _)
            obtain ⟨h47, le47, f47, H⟩ := (H).rowFreeze le46
            obtain ⟨h48, le48, f48, H⟩ := (H).rowFreeze (le46.trans le47)
            obtain rfl := Option.some.inj hr
            exact WE.ret ⟨[.agg (cGFrame ({ y31 with Slots := (y31.Slots.set x1.toNat (⟨2, y38, x2⟩ : GSlot)) }) a32 c32 a33 c33 (some ⟨b39, p39, none⟩) c34).toArray, .bool true], ⟨⟨(by kernel_rfl), ⟨b26, 0, none⟩, (by kernel_rfl), H.loadVar 0 rfl 0 (by kernel_rfl)⟩, ⟨(by kernel_rfl), (by kernel_rfl)⟩, trivial⟩, ⟨h48, a32, c32, a33, c33, (some ⟨b39, p39, none⟩), c34, rfl, (((le31.trans le46).trans le47).trans le48), ((f46.up le47).up le48), (f47.up le48), f48, (H.keep 3)⟩⟩
        rcases ite_cases hy41 with ⟨ty41, hy41⟩ | ⟨ty41, hy41⟩
        · refine WL.known 39 ty41 (by kernel_rfl) (by kernel_rfl) ?_
          refine WL.sg 1 (by kernel_rfl) ?_
          refine WL.does (by kernel_rfl) (by kernel_rfl) (Does.loadV H 5 rfl 9 (by kernel_rfl) (by kernel_rfl) ?_)
          refine WL.sg 3 (by kernel_rfl) ?_
          obtain rfl := hy41
          exact WL.live [3, 6, 44] (by kernel_rfl) (hk_y41 () _ H)
        · refine WL.known 39 ty41 (by kernel_rfl) (by kernel_rfl) ?_
          refine WL.sg 5 (by kernel_rfl) ?_
          obtain rfl := hy41
          exact WL.live [3, 6, 44] (by kernel_rfl) (hk_y41 () _ H)
    rcases ite_cases hy28 with ⟨ty28, hy28⟩ | ⟨ty28, hy28⟩
    · refine WL.known 17 ty28 (by kernel_rfl) (by kernel_rfl) ?_
      refine WL.sg 8 (by kernel_rfl) ?_
      obtain rfl := Option.some.inj hy28
      exact WL.live [1, 3, 5, 6, 25] (by kernel_rfl) (hk_y28 () _ H)
    · refine WL.known 17 ty28 (by kernel_rfl) (by kernel_rfl) ?_
      refine WL.sg 1 (by kernel_rfl) ?_
      refine WL.does (by kernel_rfl) (by kernel_rfl) (Does.loadV H 2 rfl 4 (by kernel_rfl) (by kernel_rfl) ?_)
      obtain ⟨⟨g0_49, g1_49⟩, hy28⟩ := grd_cases hy28
      obtain ⟨b49, p49, C49, e49, fr49, cs49, rfl, hb49, hc49, rfl⟩ := f3.at g0_49 g1_49
      refine WL.sg 1 (by kernel_rfl) ?_
      refine WL.does (by kernel_rfl) (by kernel_rfl) (Does.tells (.idx b49 (p49) x0.Slots.length c3 x1 6 (by kernel_rfl) (by kernel_rfl) g0_49 g1_49 (by kernel_rfl)) ?_)
      refine WL.sg 1 (by kernel_rfl) ?_
      refine WL.does (by kernel_rfl) (by kernel_rfl) (Does.loadR H hb49 hc49 0 (by kernel_rfl) (by kernel_rfl) ?_)
      refine WL.sg 2 (by kernel_rfl) ?_
      obtain rfl := Option.some.inj hy28
      exact WL.live [1, 3, 5, 6, 25] (by kernel_rfl) (hk_y28 () _ H)
  rcases ite_cases hy27 with ⟨ty27, hy27⟩ | ⟨ty27, hy27⟩
  · refine WL.known 10 ty27 (by kernel_rfl) (by kernel_rfl) ?_
    refine WL.sg 6 (by kernel_rfl) ?_
    obtain rfl := hy27
    exact WL.live [1, 3, 5, 6, 16] (by kernel_rfl) (hk_y27 () _ H)
  · refine WL.known 10 ty27 (by kernel_rfl) (by kernel_rfl) ?_
    refine WL.sg 2 (by kernel_rfl) ?_
    refine WL.does (by kernel_rfl) (by kernel_rfl) (Does.loadV H 2 rfl 4 (by kernel_rfl) (by kernel_rfl) ?_)
    refine WL.sg 3 (by kernel_rfl) ?_
    obtain rfl := hy27
    exact WL.live [1, 3, 5, 6, 16] (by kernel_rfl) (hk_y27 () _ H)
def frame_Final_1 (x0 : GSlot) : Bool :=
  x0.State == 1
set_option maxRecDepth 100000 in
theorem c_frame_Final_1 {w0 w : World} {h : Gh} {L : List Ent} (x0 : GSlot) (H : St w0 h w L) {r : Bool} (hr : frame_Final_1 x0 = r) : Calls Try.prog 38 #[.agg (cGSlot x0).toArray] w (fun e w' => ∃ v, e = .returned v ∧ v = .bool r ∧ St w0 h w' (L)) := by
  refine calls_of (args := [.agg (cGSlot x0).toArray]) (n := 6) (rs := [.tmp 2]) Try.func38 rfl rfl rfl rfl rfl ?_
  unfold frame_Final_1 at hr
  refine WE.seq ?_
  refine WE.region ?_
  refine WL.does (by kernel_rfl) (by kernel_rfl) (Does.box H (cGSlot x0) (by kernel_rfl) fun b1 w H => ?_)
  refine WL.fin 1 (by kernel_rfl) (by kernel_rfl) ?_
  refine WE.seq ?_
  refine WE.region ?_
  refine WL.sg 1 (by kernel_rfl) ?_
  refine WL.does (by kernel_rfl) (by kernel_rfl) (Does.loadV H 0 rfl 0 (by kernel_rfl) (by kernel_rfl) ?_)
  refine WL.fin 2 (by kernel_rfl) (by kernel_rfl) ?_
  obtain rfl := hr
  exact WE.ret ⟨[.bool (x0.State == 1)], ⟨⟨(by kernel_rfl), (by kernel_rfl)⟩, trivial⟩, ⟨rfl, (H.keep 1)⟩⟩
def slices_IndexFunc_Slot_at38_l1 (K : Nat) (x0 : List GSlot) : Nat → Int → Option Int
  | 0, _ => none
  | k1 + 1, y11 =>
    if decide (y11 < (x0.length : Int)) then
      if 0 ≤ y11 ∧ y11 < x0.length then
        bnd (frame_Final_1 (⟨(gd x0 y11).State, (⟨(gd x0 y11).Kid.At, (gd x0 y11).Kid.Gen⟩ : GRef), (⟨(gd x0 y11).Out.Trap, (⟨(gd x0 y11).Out.V.Re, (gd x0 y11).Out.V.Im⟩ : GValue)⟩ : GOut)⟩ : GSlot)) fun y14 =>
        if y14 then
          some y11
        else
          slices_IndexFunc_Slot_at38_l1 K x0 k1 (w64 (y11 + 1))
      else none
    else
      some (-1)
def slices_IndexFunc_Slot_at38 (K : Nat) (x0 : List GSlot) : Option Int :=
  slices_IndexFunc_Slot_at38_l1 K x0 K 0
set_option maxRecDepth 100000 in
theorem c_slices_IndexFunc_Slot_at38 {w0 w : World} {h : Gh} {L : List Ent} (K : Nat) (x0 : List GSlot) {a1 : Option Addr} {c1 : Nat} (f1 : Sl rGSlot 48 h a1 c1 x0) (H : St w0 h w L) {r : Int} (hr : slices_IndexFunc_Slot_at38 K x0 = some r) : Calls Try.prog 69 #[.slice a1 x0.length c1, .func (.func 38) #[] #[]] w (fun e w' => ∃ v, e = .returned v ∧ v = .int .i64 r ∧ St w0 h w' (L)) := by
  refine calls_of (args := [.slice a1 x0.length c1, .func (.func 38) #[] #[]]) (n := 19) (rs := [.tmp 4]) Try.func69 rfl rfl rfl rfl rfl ?_
  unfold slices_IndexFunc_Slot_at38 at hr
  refine WE.seq ?_
  refine WE.region ?_
  refine WL.fin 1 (by kernel_rfl) (by kernel_rfl) ?_
  refine WE.seq ?_
  refine WE.seq ?_
  refine WE.region ?_
  refine WL.fin 3 (by kernel_rfl) (by kernel_rfl) ?_
  refine WE.block ?_
  refine WE.loop (LP.live [0, 1, 7, 8] (by kernel_rfl) (LP.rec (slices_IndexFunc_Slot_at38_l1 K x0) (fun (y11 : Int) (_ : Unit) => [(0, .slice a1 x0.length c1), (1, .func (.func 38) #[] #[]), (7, .int .i64 (x0.length : Int)), (8, .int .i64 y11)]) (fun (y11 : Int) (_ : Unit) => fun w => St w0 h w (L)) r (fun _ => rfl) ?_ K 0 () _ H hr))
  rintro k1 ih1 y11 _ w H hr
  simp only [slices_IndexFunc_Slot_at38_l1] at hr
  refine WE.seq ?_
  refine WE.region ?_
  refine WL.fin 1 (by kernel_rfl) (by kernel_rfl) ?_
  refine WE.seq ?_
  rcases ite_cases hr with ⟨t12, hr⟩ | ⟨t12, hr⟩
  · refine WE.yes (by kernel_rfl) (b := decide (y11 < (x0.length : Int))) (by kernel_rfl) t12 ?_
    refine WE.skip ?_
    refine WE.seq ?_
    refine WE.block ?_
    refine WE.seq ?_
    refine WE.region ?_
    refine WL.fin 2 (by kernel_rfl) (by kernel_rfl) ?_
    refine WE.seq ?_
    refine WE.region ?_
    obtain ⟨⟨g0_13, g1_13⟩, hr⟩ := grd_cases hr
    obtain ⟨b13, p13, C13, e13, fr13, cs13, rfl, hb13, hc13, rfl⟩ := f1.at g0_13 g1_13
    refine WL.sg 3 (by kernel_rfl) ?_
    refine WL.does (by kernel_rfl) (by kernel_rfl) (Does.tells (.idx b13 (p13) x0.length c1 y11 6 (by kernel_rfl) (by kernel_rfl) g0_13 g1_13 (by kernel_rfl)) ?_)
    refine WL.does (by kernel_rfl) (by kernel_rfl) (Does.loadR H hb13 hc13 0 (by kernel_rfl) (by kernel_rfl) ?_)
    obtain ⟨y14, q14, hr⟩ := bnd_cases hr
    refine WL.does (by kernel_rfl) (by kernel_rfl) (Does.call (c_frame_Final_1 (⟨(gd x0 y11).State, (⟨(gd x0 y11).Kid.At, (gd x0 y11).Kid.Gen⟩ : GRef), (⟨(gd x0 y11).Out.Trap, (⟨(gd x0 y11).Out.V.Re, (gd x0 y11).Out.V.Im⟩ : GValue)⟩ : GOut)⟩ : GSlot) H q14) (by kernel_rfl) ?_)
    rintro _ w ⟨rfl, H⟩
    refine WL.fin 0 (by kernel_rfl) (by kernel_rfl) ?_
    rcases ite_cases hr with ⟨t15, hr⟩ | ⟨t15, hr⟩
    · refine WE.yes (by kernel_rfl) (b := y14) (by kernel_rfl) t15 ?_
      refine WE.seq ?_
      refine WE.region ?_
      refine WL.fin 2 (by kernel_rfl) (by kernel_rfl) ?_
      obtain rfl := Option.some.inj hr
      exact WE.ret ⟨[.int .i64 y11], ⟨⟨(by kernel_rfl), (by kernel_rfl)⟩, trivial⟩, ⟨rfl, H⟩⟩
    · refine WE.no (by kernel_rfl) (b := y14) (by kernel_rfl) t15 ?_
      refine WE.skip ?_
      refine WE.region ?_
      refine WL.fin 2 (by kernel_rfl) (by kernel_rfl) ?_
      exact LP.live [0, 1, 7, 8] (by kernel_rfl) (ih1 (w64 (y11 + 1)) () _ H hr)
  · refine WE.no (by kernel_rfl) (b := decide (y11 < (x0.length : Int))) (by kernel_rfl) t12 ?_
    refine WE.exit ?_
    refine WE.seq ?_
    refine WE.region ?_
    refine WL.fin 1 (by kernel_rfl) (by kernel_rfl) ?_
    obtain rfl := Option.some.inj hr
    exact WE.ret ⟨[.int .i64 (-1)], ⟨⟨(by kernel_rfl), (by kernel_rfl)⟩, trivial⟩, ⟨rfl, H⟩⟩
def slices_ContainsFunc_Slot_at38 (K : Nat) (x0 : List GSlot) : Option Bool :=
  (slices_IndexFunc_Slot_at38 K x0).bind fun y2 =>
  some (decide (y2 ≥ 0))
set_option maxRecDepth 100000 in
theorem c_slices_ContainsFunc_Slot_at38 {w0 w : World} {h : Gh} {L : List Ent} (K : Nat) (x0 : List GSlot) {a1 : Option Addr} {c1 : Nat} (f1 : Sl rGSlot 48 h a1 c1 x0) (H : St w0 h w L) {r : Bool} (hr : slices_ContainsFunc_Slot_at38 K x0 = some r) : Calls Try.prog 39 #[.slice a1 x0.length c1, .func (.func 38) #[] #[]] w (fun e w' => ∃ v, e = .returned v ∧ v = .bool r ∧ St w0 h w' (L)) := by
  refine calls_of (args := [.slice a1 x0.length c1, .func (.func 38) #[] #[]]) (n := 9) (rs := [.tmp 4]) Try.func39 rfl rfl rfl rfl rfl ?_
  unfold slices_ContainsFunc_Slot_at38 at hr
  refine WE.seq ?_
  refine WE.region ?_
  refine WL.fin 1 (by kernel_rfl) (by kernel_rfl) ?_
  refine WE.seq ?_
  refine WE.region ?_
  obtain ⟨y2, q2, hr⟩ := bind_cases hr
  refine WL.sg 2 (by kernel_rfl) ?_
  refine WL.does (by kernel_rfl) (by kernel_rfl) (Does.call (c_slices_IndexFunc_Slot_at38 K x0 f1 H q2) (by kernel_rfl) ?_)
  rintro _ w ⟨rfl, H⟩
  refine WL.fin 2 (by kernel_rfl) (by kernel_rfl) ?_
  obtain rfl := Option.some.inj hr
  exact WE.ret ⟨[.bool (decide (y2 ≥ 0))], ⟨⟨(by kernel_rfl), (by kernel_rfl)⟩, trivial⟩, ⟨rfl, H⟩⟩
def frame_Final_l1 (K : Nat) (x0 : GFrame) : Nat → Int → Option (GOut × Bool)
  | 0, _ => none
  | k1 + 1, y21 =>
    if decide (y21 < (x0.Slots.length : Int)) then
      if 0 ≤ y21 ∧ y21 < x0.Slots.length then
        bnd (
            if ((gd x0.Slots y21).State) == 2 then
              ((gd x0.Slots y21).Out.Trap) != 0
            else
              false) fun y25 =>
        if y25 then
          some ((⟨(gd x0.Slots y21).Out.Trap, (⟨0, 0⟩ : GValue)⟩ : GOut), true)
        else
          frame_Final_l1 K x0 k1 (w64 (y21 + 1))
      else none
    else
      some (x0.Out, true)
def frame_Final (K : Nat) (x0 : GFrame) : Option (GOut × Bool) :=
  (
      if x0.State != 2 then
        some true
      else
        (slices_ContainsFunc_Slot_at38 K x0.Slots).bind fun y27 =>
        some y27).bind fun y6 =>
  if y6 then
    some ((⟨0, (⟨0, 0⟩ : GValue)⟩ : GOut), false)
  else
    if x0.Out.Trap != 0 then
      some (x0.Out, true)
    else
      frame_Final_l1 K x0 K 0
set_option maxRecDepth 100000 in
theorem c_frame_Final {w0 w : World} {h : Gh} {L : List Ent} (K : Nat) (x0 : GFrame) {a1 : Option Addr} {c1 : Nat} {a2 : Option Addr} {c2 : Nat} {a3 : Option Addr} {c3 : Nat} (f1 : Sl rGValue 16 h a1 c1 x0.Stack) (f2 : Sl rGValue 16 h a2 c2 x0.Locals) (f3 : Sl rGSlot 48 h a3 c3 x0.Slots) (H : St w0 h w L) {r : GOut × Bool} (hr : frame_Final K x0 = some r) : Calls Try.prog 17 #[.agg (cGFrame x0 a1 c1 a2 c2 a3 c3).toArray] w (fun e w' => ∃ v, e = .returned v ∧ v = .tuple #[.agg #[.int .i64 r.1.Trap, .int .i64 r.1.V.Re, .int .i64 r.1.V.Im], .bool r.2] ∧ St w0 h w' (L)) := by
  refine calls_of (args := [.agg (cGFrame x0 a1 c1 a2 c2 a3 c3).toArray]) (n := 46) (rs := [.cell 2 36, .tmp 3]) Try.func17 rfl rfl rfl rfl rfl ?_
  unfold frame_Final at hr
  refine WE.seq ?_
  refine WE.region ?_
  refine WL.does (by kernel_rfl) (by kernel_rfl) (Does.box H (cGFrame x0 a1 c1 a2 c2 a3 c3) (by kernel_rfl) fun b4 w H => ?_)
  refine WL.does (by kernel_rfl) (by kernel_rfl) (Does.alloc H [.int .i64 0, .int .i64 0, .int .i64 0] (by kernel_rfl) fun b5 w H => ?_)
  refine WL.fin 1 (by kernel_rfl) (by kernel_rfl) ?_
  refine WE.seq ?_
  refine WE.region ?_
  refine WL.fin 1 (by kernel_rfl) (by kernel_rfl) ?_
  refine WE.seq ?_
  refine WE.seq ?_
  refine WE.region ?_
  refine WL.sg 1 (by kernel_rfl) ?_
  refine WL.does (by kernel_rfl) (by kernel_rfl) (Does.loadV H 1 rfl 8 (by kernel_rfl) (by kernel_rfl) ?_)
  refine WL.sg 2 (by kernel_rfl) ?_
  obtain ⟨y6, hy6, hr⟩ := bind_cases hr
  refine WL.join 5 (fun (_ : Unit) => [(1, .pointer (some ⟨b4, 0, none⟩)), (2, .pointer (some ⟨b5, 0, none⟩)), (15, .bool y6)]) (fun (_ : Unit) w => St w0 h w (var b5 [.int .i64 0, .int .i64 0, .int .i64 0] 36 :: var b4 (cGFrame x0 a1 c1 a2 c2 a3 c3) 40 :: L)) ?_ (fun hk_y6 => ?_)
  · rintro _ w H
    refine WL.fin 0 (by kernel_rfl) (by kernel_rfl) ?_
    rcases ite_cases hr with ⟨t8, hr⟩ | ⟨t8, hr⟩
    · refine WE.yes (by kernel_rfl) (b := y6) (by kernel_rfl) t8 ?_
      refine WE.seq ?_
      refine WE.region ?_
      refine WL.sg 1 (by kernel_rfl) ?_
      refine WL.does (by kernel_rfl) (by kernel_rfl) (Does.storeE H 0 [.int .i64 0, .int .i64 0, .int .i64 0] rfl (q := 0) (by kernel_rfl) (by kernel_rfl) (by kernel_rfl) fun w H => ?_)
      refine WL.fin 1 (by kernel_rfl) (by kernel_rfl) ?_
      obtain rfl := Option.some.inj hr
      exact WE.ret ⟨[.agg #[.int .i64 0, .int .i64 0, .int .i64 0], .bool false], ⟨⟨(by kernel_rfl), ⟨b5, 0, none⟩, (by kernel_rfl), H.loadVar 0 rfl 0 (by kernel_rfl)⟩, ⟨(by kernel_rfl), (by kernel_rfl)⟩, trivial⟩, ⟨rfl, (H.keep 2)⟩⟩
    · refine WE.no (by kernel_rfl) (b := y6) (by kernel_rfl) t8 ?_
      refine WE.skip ?_
      refine WE.seq ?_
      refine WE.seq ?_
      refine WE.region ?_
      refine WL.sg 2 (by kernel_rfl) ?_
      refine WL.does (by kernel_rfl) (by kernel_rfl) (Does.loadV H 1 rfl 10 (by kernel_rfl) (by kernel_rfl) ?_)
      refine WL.fin 1 (by kernel_rfl) (by kernel_rfl) ?_
      rcases ite_cases hr with ⟨t9, hr⟩ | ⟨t9, hr⟩
      · refine WE.yes (by kernel_rfl) (b := x0.Out.Trap != 0) (by kernel_rfl) t9 ?_
        refine WE.seq ?_
        refine WE.region ?_
        refine WL.sg 1 (by kernel_rfl) ?_
        refine WL.does (by kernel_rfl) (by kernel_rfl) (Does.loadV H 1 rfl 10 (by kernel_rfl) (by kernel_rfl) ?_)
        refine WL.does (by kernel_rfl) (by kernel_rfl) (Does.storeE H 0 [.int .i64 x0.Out.Trap, .int .i64 x0.Out.V.Re, .int .i64 x0.Out.V.Im] rfl (q := 0) (by kernel_rfl) (by kernel_rfl) (by kernel_rfl) fun w H => ?_)
        refine WL.fin 1 (by kernel_rfl) (by kernel_rfl) ?_
        obtain rfl := Option.some.inj hr
        exact WE.ret ⟨[.agg #[.int .i64 x0.Out.Trap, .int .i64 x0.Out.V.Re, .int .i64 x0.Out.V.Im], .bool true], ⟨⟨(by kernel_rfl), ⟨b5, 0, none⟩, (by kernel_rfl), H.loadVar 0 rfl 0 (by kernel_rfl)⟩, ⟨(by kernel_rfl), (by kernel_rfl)⟩, trivial⟩, ⟨rfl, (H.keep 2)⟩⟩
      · refine WE.no (by kernel_rfl) (b := x0.Out.Trap != 0) (by kernel_rfl) t9 ?_
        refine WE.skip ?_
        refine WE.seq ?_
        refine WE.seq ?_
        refine WE.region ?_
        refine WL.sg 1 (by kernel_rfl) ?_
        refine WL.does (by kernel_rfl) (by kernel_rfl) (Does.loadV H 1 rfl 4 (by kernel_rfl) (by kernel_rfl) ?_)
        refine WL.fin 2 (by kernel_rfl) (by kernel_rfl) ?_
        refine WE.block ?_
        refine WE.loop (LP.live [1, 2, 24, 25, 26] (by kernel_rfl) (LP.rec (frame_Final_l1 K x0) (fun (y21 : Int) (_ : Unit) => [(1, .pointer (some ⟨b4, 0, none⟩)), (2, .pointer (some ⟨b5, 0, none⟩)), (24, .slice a3 x0.Slots.length c3), (25, .int .i64 (x0.Slots.length : Int)), (26, .int .i64 y21)]) (fun (y21 : Int) (_ : Unit) => fun w => St w0 h w (var b5 [.int .i64 0, .int .i64 0, .int .i64 0] 36 :: var b4 (cGFrame x0 a1 c1 a2 c2 a3 c3) 40 :: L)) r (fun _ => rfl) ?_ K 0 () _ H hr))
        rintro k1 ih1 y21 _ w H hr
        simp only [frame_Final_l1] at hr
        refine WE.seq ?_
        refine WE.region ?_
        refine WL.fin 1 (by kernel_rfl) (by kernel_rfl) ?_
        refine WE.seq ?_
        rcases ite_cases hr with ⟨t22, hr⟩ | ⟨t22, hr⟩
        · refine WE.yes (by kernel_rfl) (b := decide (y21 < (x0.Slots.length : Int))) (by kernel_rfl) t22 ?_
          refine WE.skip ?_
          refine WE.seq ?_
          refine WE.block ?_
          refine WE.seq ?_
          refine WE.region ?_
          obtain ⟨⟨g0_23, g1_23⟩, hr⟩ := grd_cases hr
          obtain ⟨b23, p23, C23, e23, fr23, cs23, rfl, hb23, hc23, rfl⟩ := f3.at g0_23 g1_23
          refine WL.does (by kernel_rfl) (by kernel_rfl) (Does.tells (.idx b23 (p23) x0.Slots.length c3 y21 6 (by kernel_rfl) (by kernel_rfl) g0_23 g1_23 (by kernel_rfl)) ?_)
          refine WL.does (by kernel_rfl) (by kernel_rfl) (Does.loadR H hb23 hc23 0 (by kernel_rfl) (by kernel_rfl) ?_)
          refine WL.does (by kernel_rfl) (by kernel_rfl) (Does.alloc H (cGSlot (⟨0, (⟨0, 0⟩ : GRef), (⟨0, (⟨0, 0⟩ : GValue)⟩ : GOut)⟩ : GSlot)) (by kernel_rfl) fun b24 w H => ?_)
          refine WL.does (by kernel_rfl) (by kernel_rfl) (Does.storeE H 0 (cGSlot (⟨(gd x0.Slots y21).State, (⟨(gd x0.Slots y21).Kid.At, (gd x0.Slots y21).Kid.Gen⟩ : GRef), (⟨(gd x0.Slots y21).Out.Trap, (⟨(gd x0.Slots y21).Out.V.Re, (gd x0.Slots y21).Out.V.Im⟩ : GValue)⟩ : GOut)⟩ : GSlot)) rfl (q := 0) (by kernel_rfl) (by kernel_rfl) (by kernel_rfl) fun w H => ?_)
          refine WL.fin 0 (by kernel_rfl) (by kernel_rfl) ?_
          refine WE.seq ?_
          refine WE.region ?_
          refine WL.sg 1 (by kernel_rfl) ?_
          refine WL.does (by kernel_rfl) (by kernel_rfl) (Does.loadV H 0 rfl 0 (by kernel_rfl) (by kernel_rfl) ?_)
          refine WL.sg 2 (by kernel_rfl) ?_
          obtain ⟨y25, hy25, hr⟩ := bnd_cases hr
          refine WL.join 5 (fun (_ : Unit) => [(1, .pointer (some ⟨b4, 0, none⟩)), (2, .pointer (some ⟨b5, 0, none⟩)), (6, .pointer (some ⟨b24, 0, none⟩)), (24, .slice (some ⟨b23, p23, none⟩) x0.Slots.length c3), (25, .int .i64 (x0.Slots.length : Int)), (26, .int .i64 y21), (38, .bool y25)]) (fun (_ : Unit) w => St w0 h w (var b24 (cGSlot (⟨(gd x0.Slots y21).State, (⟨(gd x0.Slots y21).Kid.At, (gd x0.Slots y21).Kid.Gen⟩ : GRef), (⟨(gd x0.Slots y21).Out.Trap, (⟨(gd x0.Slots y21).Out.V.Re, (gd x0.Slots y21).Out.V.Im⟩ : GValue)⟩ : GOut)⟩ : GSlot)) 80 :: var b5 [.int .i64 0, .int .i64 0, .int .i64 0] 36 :: var b4 (cGFrame x0 a1 c1 a2 c2 (some ⟨b23, p23, none⟩) c3) 40 :: L)) ?_ (fun hk_y25 => ?_)
          · rintro _ w H
            refine WL.fin 0 (by kernel_rfl) (by kernel_rfl) ?_
            rcases ite_cases hr with ⟨t26, hr⟩ | ⟨t26, hr⟩
            · refine WE.yes (by kernel_rfl) (b := y25) (by kernel_rfl) t26 ?_
              refine WE.seq ?_
              refine WE.region ?_
              refine WL.sg 2 (by kernel_rfl) ?_
              refine WL.does (by kernel_rfl) (by kernel_rfl) (Does.loadV H 0 rfl 3 (by kernel_rfl) (by kernel_rfl) ?_)
              refine WL.sg 1 (by kernel_rfl) ?_
              refine WL.does (by kernel_rfl) (by kernel_rfl) (Does.storeE H 1 [.int .i64 ((gd x0.Slots y21).Out.Trap), .int .i64 0, .int .i64 0] rfl (q := 0) (by kernel_rfl) (by kernel_rfl) (by kernel_rfl) fun w H => ?_)
              refine WL.fin 1 (by kernel_rfl) (by kernel_rfl) ?_
              obtain rfl := Option.some.inj hr
              exact WE.ret ⟨[.agg #[.int .i64 ((gd x0.Slots y21).Out.Trap), .int .i64 0, .int .i64 0], .bool true], ⟨⟨(by kernel_rfl), ⟨b5, 0, none⟩, (by kernel_rfl), H.loadVar 1 rfl 0 (by kernel_rfl)⟩, ⟨(by kernel_rfl), (by kernel_rfl)⟩, trivial⟩, ⟨rfl, (H.keep 3)⟩⟩
            · refine WE.no (by kernel_rfl) (b := y25) (by kernel_rfl) t26 ?_
              refine WE.skip ?_
              refine WE.region ?_
              refine WL.fin 2 (by kernel_rfl) (by kernel_rfl) ?_
              exact LP.live [1, 2, 24, 25, 26] (by kernel_rfl) (ih1 (w64 (y21 + 1)) () _ (H.keep 1) hr)
          rcases ite_cases hy25 with ⟨ty25, hy25⟩ | ⟨ty25, hy25⟩
          · refine WL.known 33 ty25 (by kernel_rfl) (by kernel_rfl) ?_
            refine WL.sg 2 (by kernel_rfl) ?_
            refine WL.does (by kernel_rfl) (by kernel_rfl) (Does.loadV H 0 rfl 3 (by kernel_rfl) (by kernel_rfl) ?_)
            refine WL.sg 2 (by kernel_rfl) ?_
            obtain rfl := hy25
            exact WL.live [1, 2, 6, 24, 25, 26, 38] (by kernel_rfl) (hk_y25 () _ H)
          · refine WL.known 33 ty25 (by kernel_rfl) (by kernel_rfl) ?_
            refine WL.sg 5 (by kernel_rfl) ?_
            obtain rfl := hy25
            exact WL.live [1, 2, 6, 24, 25, 26, 38] (by kernel_rfl) (hk_y25 () _ H)
        · refine WE.no (by kernel_rfl) (b := decide (y21 < (x0.Slots.length : Int))) (by kernel_rfl) t22 ?_
          refine WE.exit ?_
          refine WE.seq ?_
          refine WE.region ?_
          refine WL.sg 1 (by kernel_rfl) ?_
          refine WL.does (by kernel_rfl) (by kernel_rfl) (Does.loadV H 1 rfl 10 (by kernel_rfl) (by kernel_rfl) ?_)
          refine WL.does (by kernel_rfl) (by kernel_rfl) (Does.storeE H 0 [.int .i64 x0.Out.Trap, .int .i64 x0.Out.V.Re, .int .i64 x0.Out.V.Im] rfl (q := 0) (by kernel_rfl) (by kernel_rfl) (by kernel_rfl) fun w H => ?_)
          refine WL.fin 1 (by kernel_rfl) (by kernel_rfl) ?_
          obtain rfl := Option.some.inj hr
          exact WE.ret ⟨[.agg #[.int .i64 x0.Out.Trap, .int .i64 x0.Out.V.Re, .int .i64 x0.Out.V.Im], .bool true], ⟨⟨(by kernel_rfl), ⟨b5, 0, none⟩, (by kernel_rfl), H.loadVar 0 rfl 0 (by kernel_rfl)⟩, ⟨(by kernel_rfl), (by kernel_rfl)⟩, trivial⟩, ⟨rfl, (H.keep 2)⟩⟩
  rcases ite_cases hy6 with ⟨ty6, hy6⟩ | ⟨ty6, hy6⟩
  · refine WL.known 10 ty6 (by kernel_rfl) (by kernel_rfl) ?_
    refine WL.sg 5 (by kernel_rfl) ?_
    obtain rfl := Option.some.inj hy6
    exact WL.live [1, 2, 15] (by kernel_rfl) (hk_y6 () _ H)
  · refine WL.known 10 ty6 (by kernel_rfl) (by kernel_rfl) ?_
    refine WL.sg 1 (by kernel_rfl) ?_
    refine WL.does (by kernel_rfl) (by kernel_rfl) (Does.loadV H 1 rfl 4 (by kernel_rfl) (by kernel_rfl) ?_)
    obtain ⟨y27, q27, hy6⟩ := bind_cases hy6
    refine WL.sg 1 (by kernel_rfl) ?_
    refine WL.does (by kernel_rfl) (by kernel_rfl) (Does.call (c_slices_ContainsFunc_Slot_at38 K x0.Slots f3 H q27) (by kernel_rfl) ?_)
    rintro _ w ⟨rfl, H⟩
    refine WL.sg 1 (by kernel_rfl) ?_
    obtain rfl := Option.some.inj hy6
    exact WL.live [1, 2, 15] (by kernel_rfl) (hk_y6 () _ H)
def slices_Equal_Value_l1 (K : Nat) (x0 : List GValue) (x1 : List GValue) : Nat → Int → Option Bool
  | 0, _ => none
  | k1 + 1, y13 =>
    if decide (y13 < (x0.length : Int)) then
      if 0 ≤ y13 ∧ y13 < x0.length then
        if 0 ≤ y13 ∧ y13 < x1.length then
          if !((((gd x0 y13).Re) == ((gd x1 y13).Re)) && ((((gd x0 y13).Im) == ((gd x1 y13).Im)) && true)) then
            some false
          else
            slices_Equal_Value_l1 K x0 x1 k1 (w64 (y13 + 1))
        else none
      else none
    else
      some true
def slices_Equal_Value (K : Nat) (x0 : List GValue) (x1 : List GValue) : Option Bool :=
  if (x0.length : Int) != (x1.length : Int) then
    some false
  else
    slices_Equal_Value_l1 K x0 x1 K 0
set_option maxRecDepth 100000 in
theorem c_slices_Equal_Value {w0 w : World} {h : Gh} {L : List Ent} (K : Nat) (x0 : List GValue) {a1 : Option Addr} {c1 : Nat} (f1 : Sl rGValue 16 h a1 c1 x0) (x1 : List GValue) {a2 : Option Addr} {c2 : Nat} (f2 : Sl rGValue 16 h a2 c2 x1) (H : St w0 h w L) {r : Bool} (hr : slices_Equal_Value K x0 x1 = some r) : Calls Try.prog 40 #[.slice a1 x0.length c1, .slice a2 x1.length c2] w (fun e w' => ∃ v, e = .returned v ∧ v = .bool r ∧ St w0 h w' (L)) := by
  refine calls_of (args := [.slice a1 x0.length c1, .slice a2 x1.length c2]) (n := 26) (rs := [.tmp 4]) Try.func40 rfl rfl rfl rfl rfl ?_
  unfold slices_Equal_Value at hr
  refine WE.seq ?_
  refine WE.region ?_
  refine WL.fin 1 (by kernel_rfl) (by kernel_rfl) ?_
  refine WE.seq ?_
  refine WE.seq ?_
  refine WE.region ?_
  refine WL.fin 5 (by kernel_rfl) (by kernel_rfl) ?_
  rcases ite_cases hr with ⟨t3, hr⟩ | ⟨t3, hr⟩
  · refine WE.yes (by kernel_rfl) (b := (x0.length : Int) != (x1.length : Int)) (by kernel_rfl) t3 ?_
    refine WE.seq ?_
    refine WE.region ?_
    refine WL.fin 1 (by kernel_rfl) (by kernel_rfl) ?_
    obtain rfl := Option.some.inj hr
    exact WE.ret ⟨[.bool false], ⟨⟨(by kernel_rfl), (by kernel_rfl)⟩, trivial⟩, ⟨rfl, H⟩⟩
  · refine WE.no (by kernel_rfl) (b := (x0.length : Int) != (x1.length : Int)) (by kernel_rfl) t3 ?_
    refine WE.skip ?_
    refine WE.seq ?_
    refine WE.seq ?_
    refine WE.region ?_
    refine WL.fin 3 (by kernel_rfl) (by kernel_rfl) ?_
    refine WE.block ?_
    refine WE.loop (LP.live [0, 1, 12, 13] (by kernel_rfl) (LP.rec (slices_Equal_Value_l1 K x0 x1) (fun (y13 : Int) (_ : Unit) => [(0, .slice a1 x0.length c1), (1, .slice a2 x1.length c2), (12, .int .i64 (x0.length : Int)), (13, .int .i64 y13)]) (fun (y13 : Int) (_ : Unit) => fun w => St w0 h w (L)) r (fun _ => rfl) ?_ K 0 () _ H hr))
    rintro k1 ih1 y13 _ w H hr
    simp only [slices_Equal_Value_l1] at hr
    refine WE.seq ?_
    refine WE.region ?_
    refine WL.fin 1 (by kernel_rfl) (by kernel_rfl) ?_
    refine WE.seq ?_
    rcases ite_cases hr with ⟨t14, hr⟩ | ⟨t14, hr⟩
    · refine WE.yes (by kernel_rfl) (b := decide (y13 < (x0.length : Int))) (by kernel_rfl) t14 ?_
      refine WE.skip ?_
      refine WE.seq ?_
      refine WE.block ?_
      refine WE.seq ?_
      refine WE.region ?_
      refine WL.fin 2 (by kernel_rfl) (by kernel_rfl) ?_
      refine WE.seq ?_
      refine WE.draws mo [0, 1, 5, 12, 13] (ρ' := [(0, .slice a1 x0.length c1), (1, .slice a2 x1.length c2), (5, .int .i64 y13), (12, .int .i64 (x0.length : Int)), (13, .int .i64 y13)]) (by kernel_rfl) fun w e1 e2 e3 e4 => ?_
      have H := H.same e1 e2 e3 e4
      clear e1 e2 e3 e4
      refine WD.know [0] (by kernel_rfl) ?_
      refine WD.know [1] (by kernel_rfl) ?_
      obtain ⟨⟨g0_15, g1_15⟩, hr⟩ := grd_cases hr
      obtain ⟨b15, p15, C15, e15, fr15, cs15, rfl, hb15, hc15, rfl⟩ := f1.at g0_15 g1_15
      refine WD.told 2 18 (.pointer (some ⟨b15, p15 + y13.toNat * 2, none⟩)) (by kernel_rfl) (by kernel_rfl) ?_
      refine WD.told 3 19 (.agg #[.int .i64 ((gd x0 y13).Re), .int .i64 ((gd x0 y13).Im)]) (by kernel_rfl) (by kernel_rfl) ?_
      refine WD.know [4] (by kernel_rfl) ?_
      refine WD.know [5] (by kernel_rfl) ?_
      obtain ⟨⟨g0_16, g1_16⟩, hr⟩ := grd_cases hr
      obtain ⟨b16, p16, C16, e16, fr16, cs16, rfl, hb16, hc16, rfl⟩ := f2.at g0_16 g1_16
      refine WD.told 6 22 (.pointer (some ⟨b16, p16 + y13.toNat * 2, none⟩)) (by kernel_rfl) (by kernel_rfl) ?_
      refine WD.told 7 23 (.agg #[.int .i64 ((gd x1 y13).Re), .int .i64 ((gd x1 y13).Im)]) (by kernel_rfl) (by kernel_rfl) ?_
      refine WD.told 8 24 (.bool (!((((gd x0 y13).Re) == ((gd x1 y13).Re)) && ((((gd x0 y13).Im) == ((gd x1 y13).Im)) && true)))) (by kernel_rfl) (by kernel_rfl) ?_
      refine WD.fin (by kernel_rfl) (Floats.of [5, 4, 1, 0] [8, 7, 6, 3, 2] (by kernel_rfl) (Floats.pure _ (by kernel_rfl) (by kernel_rfl)) (.cons (.tells rfl (by kernel_rfl) (by kernel_rfl) (.neq ((((gd x0 y13).Re) == ((gd x1 y13).Re)) && ((((gd x0 y13).Im) == ((gd x1 y13).Im)) && true)) (by kernel_rfl) (by kernel_rfl) (by kernel_rfl))) (.cons (.tells rfl (by kernel_rfl) rfl (.loadR H hb16 hc16 0 (by kernel_rfl) (by kernel_rfl))) (.cons (.tells rfl (by kernel_rfl) (by kernel_rfl) (.idx b16 (p16) x1.length c2 y13 2 (by kernel_rfl) (by kernel_rfl) g0_16 g1_16 (by kernel_rfl))) (.cons (.tells rfl (by kernel_rfl) rfl (.loadR H hb15 hc15 0 (by kernel_rfl) (by kernel_rfl))) (.cons (.tells rfl (by kernel_rfl) (by kernel_rfl) (.idx b15 (p15) x0.length c1 y13 2 (by kernel_rfl) (by kernel_rfl) g0_15 g1_15 (by kernel_rfl))) .nil)))))) (by kernel_rfl) (by kernel_rfl) ?_
      rcases ite_cases hr with ⟨t17, hr⟩ | ⟨t17, hr⟩
      · refine WE.yes (by kernel_rfl) (b := !((((gd x0 y13).Re) == ((gd x1 y13).Re)) && ((((gd x0 y13).Im) == ((gd x1 y13).Im)) && true))) (by kernel_rfl) t17 ?_
        refine WE.seq ?_
        refine WE.region ?_
        refine WL.fin 1 (by kernel_rfl) (by kernel_rfl) ?_
        obtain rfl := Option.some.inj hr
        exact WE.ret ⟨[.bool false], ⟨⟨(by kernel_rfl), (by kernel_rfl)⟩, trivial⟩, ⟨rfl, H⟩⟩
      · refine WE.no (by kernel_rfl) (b := !((((gd x0 y13).Re) == ((gd x1 y13).Re)) && ((((gd x0 y13).Im) == ((gd x1 y13).Im)) && true))) (by kernel_rfl) t17 ?_
        refine WE.skip ?_
        refine WE.region ?_
        refine WL.fin 2 (by kernel_rfl) (by kernel_rfl) ?_
        exact LP.live [0, 1, 12, 13] (by kernel_rfl) (ih1 (w64 (y13 + 1)) () _ H hr)
    · refine WE.no (by kernel_rfl) (b := decide (y13 < (x0.length : Int))) (by kernel_rfl) t14 ?_
      refine WE.exit ?_
      refine WE.seq ?_
      refine WE.region ?_
      refine WL.fin 1 (by kernel_rfl) (by kernel_rfl) ?_
      obtain rfl := Option.some.inj hr
      exact WE.ret ⟨[.bool true], ⟨⟨(by kernel_rfl), (by kernel_rfl)⟩, trivial⟩, ⟨rfl, H⟩⟩
def slices_Equal_Slot_l1 (K : Nat) (x0 : List GSlot) (x1 : List GSlot) : Nat → Int → Option Bool
  | 0, _ => none
  | k1 + 1, y13 =>
    if decide (y13 < (x0.length : Int)) then
      if 0 ≤ y13 ∧ y13 < x0.length then
        if 0 ≤ y13 ∧ y13 < x1.length then
          if !((((gd x0 y13).State) == ((gd x1 y13).State)) && (((((gd x0 y13).Kid.At) == ((gd x1 y13).Kid.At)) && ((((gd x0 y13).Kid.Gen) == ((gd x1 y13).Kid.Gen)) && true)) && (((((gd x0 y13).Out.Trap) == ((gd x1 y13).Out.Trap)) && (((((gd x0 y13).Out.V.Re) == ((gd x1 y13).Out.V.Re)) && ((((gd x0 y13).Out.V.Im) == ((gd x1 y13).Out.V.Im)) && true)) && true)) && true))) then
            some false
          else
            slices_Equal_Slot_l1 K x0 x1 k1 (w64 (y13 + 1))
        else none
      else none
    else
      some true
def slices_Equal_Slot (K : Nat) (x0 : List GSlot) (x1 : List GSlot) : Option Bool :=
  if (x0.length : Int) != (x1.length : Int) then
    some false
  else
    slices_Equal_Slot_l1 K x0 x1 K 0
set_option maxRecDepth 100000 in
theorem c_slices_Equal_Slot {w0 w : World} {h : Gh} {L : List Ent} (K : Nat) (x0 : List GSlot) {a1 : Option Addr} {c1 : Nat} (f1 : Sl rGSlot 48 h a1 c1 x0) (x1 : List GSlot) {a2 : Option Addr} {c2 : Nat} (f2 : Sl rGSlot 48 h a2 c2 x1) (H : St w0 h w L) {r : Bool} (hr : slices_Equal_Slot K x0 x1 = some r) : Calls Try.prog 41 #[.slice a1 x0.length c1, .slice a2 x1.length c2] w (fun e w' => ∃ v, e = .returned v ∧ v = .bool r ∧ St w0 h w' (L)) := by
  refine calls_of (args := [.slice a1 x0.length c1, .slice a2 x1.length c2]) (n := 26) (rs := [.tmp 4]) Try.func41 rfl rfl rfl rfl rfl ?_
  unfold slices_Equal_Slot at hr
  refine WE.seq ?_
  refine WE.region ?_
  refine WL.fin 1 (by kernel_rfl) (by kernel_rfl) ?_
  refine WE.seq ?_
  refine WE.seq ?_
  refine WE.region ?_
  refine WL.fin 5 (by kernel_rfl) (by kernel_rfl) ?_
  rcases ite_cases hr with ⟨t3, hr⟩ | ⟨t3, hr⟩
  · refine WE.yes (by kernel_rfl) (b := (x0.length : Int) != (x1.length : Int)) (by kernel_rfl) t3 ?_
    refine WE.seq ?_
    refine WE.region ?_
    refine WL.fin 1 (by kernel_rfl) (by kernel_rfl) ?_
    obtain rfl := Option.some.inj hr
    exact WE.ret ⟨[.bool false], ⟨⟨(by kernel_rfl), (by kernel_rfl)⟩, trivial⟩, ⟨rfl, H⟩⟩
  · refine WE.no (by kernel_rfl) (b := (x0.length : Int) != (x1.length : Int)) (by kernel_rfl) t3 ?_
    refine WE.skip ?_
    refine WE.seq ?_
    refine WE.seq ?_
    refine WE.region ?_
    refine WL.fin 3 (by kernel_rfl) (by kernel_rfl) ?_
    refine WE.block ?_
    refine WE.loop (LP.live [0, 1, 12, 13] (by kernel_rfl) (LP.rec (slices_Equal_Slot_l1 K x0 x1) (fun (y13 : Int) (_ : Unit) => [(0, .slice a1 x0.length c1), (1, .slice a2 x1.length c2), (12, .int .i64 (x0.length : Int)), (13, .int .i64 y13)]) (fun (y13 : Int) (_ : Unit) => fun w => St w0 h w (L)) r (fun _ => rfl) ?_ K 0 () _ H hr))
    rintro k1 ih1 y13 _ w H hr
    simp only [slices_Equal_Slot_l1] at hr
    refine WE.seq ?_
    refine WE.region ?_
    refine WL.fin 1 (by kernel_rfl) (by kernel_rfl) ?_
    refine WE.seq ?_
    rcases ite_cases hr with ⟨t14, hr⟩ | ⟨t14, hr⟩
    · refine WE.yes (by kernel_rfl) (b := decide (y13 < (x0.length : Int))) (by kernel_rfl) t14 ?_
      refine WE.skip ?_
      refine WE.seq ?_
      refine WE.block ?_
      refine WE.seq ?_
      refine WE.region ?_
      refine WL.fin 2 (by kernel_rfl) (by kernel_rfl) ?_
      refine WE.seq ?_
      refine WE.draws mo [0, 1, 5, 12, 13] (ρ' := [(0, .slice a1 x0.length c1), (1, .slice a2 x1.length c2), (5, .int .i64 y13), (12, .int .i64 (x0.length : Int)), (13, .int .i64 y13)]) (by kernel_rfl) fun w e1 e2 e3 e4 => ?_
      have H := H.same e1 e2 e3 e4
      clear e1 e2 e3 e4
      refine WD.know [0] (by kernel_rfl) ?_
      refine WD.know [1] (by kernel_rfl) ?_
      obtain ⟨⟨g0_15, g1_15⟩, hr⟩ := grd_cases hr
      obtain ⟨b15, p15, C15, e15, fr15, cs15, rfl, hb15, hc15, rfl⟩ := f1.at g0_15 g1_15
      refine WD.told 2 18 (.pointer (some ⟨b15, p15 + y13.toNat * 6, none⟩)) (by kernel_rfl) (by kernel_rfl) ?_
      refine WD.told 3 19 (.agg (cGSlot (⟨(gd x0 y13).State, (⟨(gd x0 y13).Kid.At, (gd x0 y13).Kid.Gen⟩ : GRef), (⟨(gd x0 y13).Out.Trap, (⟨(gd x0 y13).Out.V.Re, (gd x0 y13).Out.V.Im⟩ : GValue)⟩ : GOut)⟩ : GSlot)).toArray) (by kernel_rfl) (by kernel_rfl) ?_
      refine WD.know [4] (by kernel_rfl) ?_
      refine WD.know [5] (by kernel_rfl) ?_
      obtain ⟨⟨g0_16, g1_16⟩, hr⟩ := grd_cases hr
      obtain ⟨b16, p16, C16, e16, fr16, cs16, rfl, hb16, hc16, rfl⟩ := f2.at g0_16 g1_16
      refine WD.told 6 22 (.pointer (some ⟨b16, p16 + y13.toNat * 6, none⟩)) (by kernel_rfl) (by kernel_rfl) ?_
      refine WD.told 7 23 (.agg (cGSlot (⟨(gd x1 y13).State, (⟨(gd x1 y13).Kid.At, (gd x1 y13).Kid.Gen⟩ : GRef), (⟨(gd x1 y13).Out.Trap, (⟨(gd x1 y13).Out.V.Re, (gd x1 y13).Out.V.Im⟩ : GValue)⟩ : GOut)⟩ : GSlot)).toArray) (by kernel_rfl) (by kernel_rfl) ?_
      refine WD.told 8 24 (.bool (!((((gd x0 y13).State) == ((gd x1 y13).State)) && (((((gd x0 y13).Kid.At) == ((gd x1 y13).Kid.At)) && ((((gd x0 y13).Kid.Gen) == ((gd x1 y13).Kid.Gen)) && true)) && (((((gd x0 y13).Out.Trap) == ((gd x1 y13).Out.Trap)) && (((((gd x0 y13).Out.V.Re) == ((gd x1 y13).Out.V.Re)) && ((((gd x0 y13).Out.V.Im) == ((gd x1 y13).Out.V.Im)) && true)) && true)) && true))))) (by kernel_rfl) (by kernel_rfl) ?_
      refine WD.fin (by kernel_rfl) (Floats.of [5, 4, 1, 0] [8, 7, 6, 3, 2] (by kernel_rfl) (Floats.pure _ (by kernel_rfl) (by kernel_rfl)) (.cons (.tells rfl (by kernel_rfl) (by kernel_rfl) (.neq ((((gd x0 y13).State) == ((gd x1 y13).State)) && (((((gd x0 y13).Kid.At) == ((gd x1 y13).Kid.At)) && ((((gd x0 y13).Kid.Gen) == ((gd x1 y13).Kid.Gen)) && true)) && (((((gd x0 y13).Out.Trap) == ((gd x1 y13).Out.Trap)) && (((((gd x0 y13).Out.V.Re) == ((gd x1 y13).Out.V.Re)) && ((((gd x0 y13).Out.V.Im) == ((gd x1 y13).Out.V.Im)) && true)) && true)) && true))) (by kernel_rfl) (by kernel_rfl) (by kernel_rfl))) (.cons (.tells rfl (by kernel_rfl) rfl (.loadR H hb16 hc16 0 (by kernel_rfl) (by kernel_rfl))) (.cons (.tells rfl (by kernel_rfl) (by kernel_rfl) (.idx b16 (p16) x1.length c2 y13 6 (by kernel_rfl) (by kernel_rfl) g0_16 g1_16 (by kernel_rfl))) (.cons (.tells rfl (by kernel_rfl) rfl (.loadR H hb15 hc15 0 (by kernel_rfl) (by kernel_rfl))) (.cons (.tells rfl (by kernel_rfl) (by kernel_rfl) (.idx b15 (p15) x0.length c1 y13 6 (by kernel_rfl) (by kernel_rfl) g0_15 g1_15 (by kernel_rfl))) .nil)))))) (by kernel_rfl) (by kernel_rfl) ?_
      rcases ite_cases hr with ⟨t17, hr⟩ | ⟨t17, hr⟩
      · refine WE.yes (by kernel_rfl) (b := !((((gd x0 y13).State) == ((gd x1 y13).State)) && (((((gd x0 y13).Kid.At) == ((gd x1 y13).Kid.At)) && ((((gd x0 y13).Kid.Gen) == ((gd x1 y13).Kid.Gen)) && true)) && (((((gd x0 y13).Out.Trap) == ((gd x1 y13).Out.Trap)) && (((((gd x0 y13).Out.V.Re) == ((gd x1 y13).Out.V.Re)) && ((((gd x0 y13).Out.V.Im) == ((gd x1 y13).Out.V.Im)) && true)) && true)) && true)))) (by kernel_rfl) t17 ?_
        refine WE.seq ?_
        refine WE.region ?_
        refine WL.fin 1 (by kernel_rfl) (by kernel_rfl) ?_
        obtain rfl := Option.some.inj hr
        exact WE.ret ⟨[.bool false], ⟨⟨(by kernel_rfl), (by kernel_rfl)⟩, trivial⟩, ⟨rfl, H⟩⟩
      · refine WE.no (by kernel_rfl) (b := !((((gd x0 y13).State) == ((gd x1 y13).State)) && (((((gd x0 y13).Kid.At) == ((gd x1 y13).Kid.At)) && ((((gd x0 y13).Kid.Gen) == ((gd x1 y13).Kid.Gen)) && true)) && (((((gd x0 y13).Out.Trap) == ((gd x1 y13).Out.Trap)) && (((((gd x0 y13).Out.V.Re) == ((gd x1 y13).Out.V.Re)) && ((((gd x0 y13).Out.V.Im) == ((gd x1 y13).Out.V.Im)) && true)) && true)) && true)))) (by kernel_rfl) t17 ?_
        refine WE.skip ?_
        refine WE.region ?_
        refine WL.fin 2 (by kernel_rfl) (by kernel_rfl) ?_
        exact LP.live [0, 1, 12, 13] (by kernel_rfl) (ih1 (w64 (y13 + 1)) () _ H hr)
    · refine WE.no (by kernel_rfl) (b := decide (y13 < (x0.length : Int))) (by kernel_rfl) t14 ?_
      refine WE.exit ?_
      refine WE.seq ?_
      refine WE.region ?_
      refine WL.fin 1 (by kernel_rfl) (by kernel_rfl) ?_
      obtain rfl := Option.some.inj hr
      exact WE.ret ⟨[.bool true], ⟨⟨(by kernel_rfl), (by kernel_rfl)⟩, trivial⟩, ⟨rfl, H⟩⟩
def frame_Same (K : Nat) (x0 : GFrame) (x1 : GFrame) : Option Bool :=
  (slices_Equal_Value K x0.Stack x1.Stack).bind fun y9 =>
  (
      if !y9 then
        some true
      else
        (slices_Equal_Value K x0.Locals x1.Locals).bind fun y25 =>
        some (!y25)).bind fun y10 =>
  (
      if y10 then
        some true
      else
        (slices_Equal_Slot K x0.Slots x1.Slots).bind fun y24 =>
        some (!y24)).bind fun y12 =>
  if y12 then
    some false
  else
    bnd (
        if x0.Fn == x1.Fn then
          x0.Pc == x1.Pc
        else
          false) fun y15 =>
    bnd (
        if y15 then
          x0.Seed == x1.Seed
        else
          false) fun y16 =>
    bnd (
        if y16 then
          x0.Spawned == x1.Spawned
        else
          false) fun y17 =>
    bnd (
        if y17 then
          x0.Draws == x1.Draws
        else
          false) fun y18 =>
    bnd (
        if y18 then
          x0.State == x1.State
        else
          false) fun y19 =>
    bnd (
        if y19 then
          x0.Wait == x1.Wait
        else
          false) fun y20 =>
    bnd (
        if y20 then
          (x0.Out.Trap == x1.Out.Trap) && (((x0.Out.V.Re == x1.Out.V.Re) && ((x0.Out.V.Im == x1.Out.V.Im) && true)) && true)
        else
          false) fun y21 =>
    bnd (
        if y21 then
          (x0.Up.At == x1.Up.At) && ((x0.Up.Gen == x1.Up.Gen) && true)
        else
          false) fun y22 =>
    bnd (
        if y22 then
          x0.UpSlot == x1.UpSlot
        else
          false) fun y23 =>
    some y23
set_option maxRecDepth 100000 in
theorem c_frame_Same {w0 w : World} {h : Gh} {L : List Ent} (K : Nat) (x0 : GFrame) {a1 : Option Addr} {c1 : Nat} {a2 : Option Addr} {c2 : Nat} {a3 : Option Addr} {c3 : Nat} (f1 : Sl rGValue 16 h a1 c1 x0.Stack) (f2 : Sl rGValue 16 h a2 c2 x0.Locals) (f3 : Sl rGSlot 48 h a3 c3 x0.Slots) (x1 : GFrame) {a4 : Option Addr} {c4 : Nat} {a5 : Option Addr} {c5 : Nat} {a6 : Option Addr} {c6 : Nat} (f4 : Sl rGValue 16 h a4 c4 x1.Stack) (f5 : Sl rGValue 16 h a5 c5 x1.Locals) (f6 : Sl rGSlot 48 h a6 c6 x1.Slots) (H : St w0 h w L) {r : Bool} (hr : frame_Same K x0 x1 = some r) : Calls Try.prog 18 #[.agg (cGFrame x0 a1 c1 a2 c2 a3 c3).toArray, .agg (cGFrame x1 a4 c4 a5 c5 a6 c6).toArray] w (fun e w' => ∃ v, e = .returned v ∧ v = .bool r ∧ St w0 h w' (L)) := by
  refine calls_of (args := [.agg (cGFrame x0 a1 c1 a2 c2 a3 c3).toArray, .agg (cGFrame x1 a4 c4 a5 c5 a6 c6).toArray]) (n := 95) (rs := [.tmp 4]) Try.func18 rfl rfl rfl rfl rfl ?_
  unfold frame_Same at hr
  refine WE.seq ?_
  refine WE.region ?_
  refine WL.does (by kernel_rfl) (by kernel_rfl) (Does.box H (cGFrame x0 a1 c1 a2 c2 a3 c3) (by kernel_rfl) fun b7 w H => ?_)
  refine WL.does (by kernel_rfl) (by kernel_rfl) (Does.box H (cGFrame x1 a4 c4 a5 c5 a6 c6) (by kernel_rfl) fun b8 w H => ?_)
  refine WL.fin 1 (by kernel_rfl) (by kernel_rfl) ?_
  refine WE.seq ?_
  refine WE.seq ?_
  refine WE.region ?_
  refine WL.sg 1 (by kernel_rfl) ?_
  refine WL.does (by kernel_rfl) (by kernel_rfl) (Does.loadV H 1 rfl 2 (by kernel_rfl) (by kernel_rfl) ?_)
  refine WL.sg 1 (by kernel_rfl) ?_
  refine WL.does (by kernel_rfl) (by kernel_rfl) (Does.loadV H 0 rfl 2 (by kernel_rfl) (by kernel_rfl) ?_)
  obtain ⟨y9, q9, hr⟩ := bind_cases hr
  refine WL.does (by kernel_rfl) (by kernel_rfl) (Does.call (c_slices_Equal_Value K x0.Stack f1 x1.Stack f4 H q9) (by kernel_rfl) ?_)
  rintro _ w ⟨rfl, H⟩
  refine WL.sg 2 (by kernel_rfl) ?_
  obtain ⟨y10, hy10, hr⟩ := bind_cases hr
  refine WL.join 7 (fun (_ : Unit) => [(2, .pointer (some ⟨b7, 0, none⟩)), (3, .pointer (some ⟨b8, 0, none⟩)), (18, .bool y10)]) (fun (_ : Unit) w => St w0 h w (var b8 (cGFrame x1 a4 c4 a5 c5 a6 c6) 40 :: var b7 (cGFrame x0 a1 c1 a2 c2 a3 c3) 40 :: L)) ?_ (fun hk_y10 => ?_)
  · rintro _ w H
    refine WL.sg 1 (by kernel_rfl) ?_
    obtain ⟨y12, hy12, hr⟩ := bind_cases hr
    refine WL.join 7 (fun (_ : Unit) => [(2, .pointer (some ⟨b7, 0, none⟩)), (3, .pointer (some ⟨b8, 0, none⟩)), (26, .bool y12)]) (fun (_ : Unit) w => St w0 h w (var b8 (cGFrame x1 a4 c4 a5 c5 a6 c6) 40 :: var b7 (cGFrame x0 a1 c1 a2 c2 a3 c3) 40 :: L)) ?_ (fun hk_y12 => ?_)
    · rintro _ w H
      refine WL.fin 0 (by kernel_rfl) (by kernel_rfl) ?_
      rcases ite_cases hr with ⟨t14, hr⟩ | ⟨t14, hr⟩
      · refine WE.yes (by kernel_rfl) (b := y12) (by kernel_rfl) t14 ?_
        refine WE.seq ?_
        refine WE.region ?_
        refine WL.fin 1 (by kernel_rfl) (by kernel_rfl) ?_
        obtain rfl := Option.some.inj hr
        exact WE.ret ⟨[.bool false], ⟨⟨(by kernel_rfl), (by kernel_rfl)⟩, trivial⟩, ⟨rfl, (H.keep 2)⟩⟩
      · refine WE.no (by kernel_rfl) (b := y12) (by kernel_rfl) t14 ?_
        refine WE.skip ?_
        refine WE.seq ?_
        refine WE.region ?_
        refine WL.sg 1 (by kernel_rfl) ?_
        refine WL.does (by kernel_rfl) (by kernel_rfl) (Does.loadV H 1 rfl 0 (by kernel_rfl) (by kernel_rfl) ?_)
        refine WL.sg 1 (by kernel_rfl) ?_
        refine WL.does (by kernel_rfl) (by kernel_rfl) (Does.loadV H 0 rfl 0 (by kernel_rfl) (by kernel_rfl) ?_)
        refine WL.sg 2 (by kernel_rfl) ?_
        obtain ⟨y15, hy15, hr⟩ := bnd_cases hr
        refine WL.join 6 (fun (_ : Unit) => [(2, .pointer (some ⟨b7, 0, none⟩)), (3, .pointer (some ⟨b8, 0, none⟩)), (38, .bool y15)]) (fun (_ : Unit) w => St w0 h w (var b8 (cGFrame x1 a4 c4 a5 c5 a6 c6) 40 :: var b7 (cGFrame x0 a1 c1 a2 c2 a3 c3) 40 :: L)) ?_ (fun hk_y15 => ?_)
        · rintro _ w H
          refine WL.sg 1 (by kernel_rfl) ?_
          obtain ⟨y16, hy16, hr⟩ := bnd_cases hr
          refine WL.join 6 (fun (_ : Unit) => [(2, .pointer (some ⟨b7, 0, none⟩)), (3, .pointer (some ⟨b8, 0, none⟩)), (45, .bool y16)]) (fun (_ : Unit) w => St w0 h w (var b8 (cGFrame x1 a4 c4 a5 c5 a6 c6) 40 :: var b7 (cGFrame x0 a1 c1 a2 c2 a3 c3) 40 :: L)) ?_ (fun hk_y16 => ?_)
          · rintro _ w H
            refine WL.sg 1 (by kernel_rfl) ?_
            obtain ⟨y17, hy17, hr⟩ := bnd_cases hr
            refine WL.join 6 (fun (_ : Unit) => [(2, .pointer (some ⟨b7, 0, none⟩)), (3, .pointer (some ⟨b8, 0, none⟩)), (52, .bool y17)]) (fun (_ : Unit) w => St w0 h w (var b8 (cGFrame x1 a4 c4 a5 c5 a6 c6) 40 :: var b7 (cGFrame x0 a1 c1 a2 c2 a3 c3) 40 :: L)) ?_ (fun hk_y17 => ?_)
            · rintro _ w H
              refine WL.sg 1 (by kernel_rfl) ?_
              obtain ⟨y18, hy18, hr⟩ := bnd_cases hr
              refine WL.join 6 (fun (_ : Unit) => [(2, .pointer (some ⟨b7, 0, none⟩)), (3, .pointer (some ⟨b8, 0, none⟩)), (59, .bool y18)]) (fun (_ : Unit) w => St w0 h w (var b8 (cGFrame x1 a4 c4 a5 c5 a6 c6) 40 :: var b7 (cGFrame x0 a1 c1 a2 c2 a3 c3) 40 :: L)) ?_ (fun hk_y18 => ?_)
              · rintro _ w H
                refine WL.sg 1 (by kernel_rfl) ?_
                obtain ⟨y19, hy19, hr⟩ := bnd_cases hr
                refine WL.join 6 (fun (_ : Unit) => [(2, .pointer (some ⟨b7, 0, none⟩)), (3, .pointer (some ⟨b8, 0, none⟩)), (66, .bool y19)]) (fun (_ : Unit) w => St w0 h w (var b8 (cGFrame x1 a4 c4 a5 c5 a6 c6) 40 :: var b7 (cGFrame x0 a1 c1 a2 c2 a3 c3) 40 :: L)) ?_ (fun hk_y19 => ?_)
                · rintro _ w H
                  refine WL.sg 1 (by kernel_rfl) ?_
                  obtain ⟨y20, hy20, hr⟩ := bnd_cases hr
                  refine WL.join 6 (fun (_ : Unit) => [(2, .pointer (some ⟨b7, 0, none⟩)), (3, .pointer (some ⟨b8, 0, none⟩)), (73, .bool y20)]) (fun (_ : Unit) w => St w0 h w (var b8 (cGFrame x1 a4 c4 a5 c5 a6 c6) 40 :: var b7 (cGFrame x0 a1 c1 a2 c2 a3 c3) 40 :: L)) ?_ (fun hk_y20 => ?_)
                  · rintro _ w H
                    refine WL.sg 1 (by kernel_rfl) ?_
                    obtain ⟨y21, hy21, hr⟩ := bnd_cases hr
                    refine WL.join 6 (fun (_ : Unit) => [(2, .pointer (some ⟨b7, 0, none⟩)), (3, .pointer (some ⟨b8, 0, none⟩)), (80, .bool y21)]) (fun (_ : Unit) w => St w0 h w (var b8 (cGFrame x1 a4 c4 a5 c5 a6 c6) 40 :: var b7 (cGFrame x0 a1 c1 a2 c2 a3 c3) 40 :: L)) ?_ (fun hk_y21 => ?_)
                    · rintro _ w H
                      refine WL.sg 1 (by kernel_rfl) ?_
                      obtain ⟨y22, hy22, hr⟩ := bnd_cases hr
                      refine WL.join 6 (fun (_ : Unit) => [(2, .pointer (some ⟨b7, 0, none⟩)), (3, .pointer (some ⟨b8, 0, none⟩)), (87, .bool y22)]) (fun (_ : Unit) w => St w0 h w (var b8 (cGFrame x1 a4 c4 a5 c5 a6 c6) 40 :: var b7 (cGFrame x0 a1 c1 a2 c2 a3 c3) 40 :: L)) ?_ (fun hk_y22 => ?_)
                      · rintro _ w H
                        refine WL.sg 1 (by kernel_rfl) ?_
                        obtain ⟨y23, hy23, hr⟩ := bnd_cases hr
                        refine WL.join 6 (fun (_ : Unit) => [(94, .bool y23)]) (fun (_ : Unit) w => St w0 h w (var b8 (cGFrame x1 a4 c4 a5 c5 a6 c6) 40 :: var b7 (cGFrame x0 a1 c1 a2 c2 a3 c3) 40 :: L)) ?_ (fun hk_y23 => ?_)
                        · rintro _ w H
                          refine WL.fin 1 (by kernel_rfl) (by kernel_rfl) ?_
                          obtain rfl := Option.some.inj hr
                          exact WE.ret ⟨[.bool y23], ⟨⟨(by kernel_rfl), (by kernel_rfl)⟩, trivial⟩, ⟨rfl, (H.keep 2)⟩⟩
                        rcases ite_cases hy23 with ⟨ty23, hy23⟩ | ⟨ty23, hy23⟩
                        · refine WL.known 88 ty23 (by kernel_rfl) (by kernel_rfl) ?_
                          refine WL.sg 1 (by kernel_rfl) ?_
                          refine WL.does (by kernel_rfl) (by kernel_rfl) (Does.loadV H 1 rfl 15 (by kernel_rfl) (by kernel_rfl) ?_)
                          refine WL.sg 1 (by kernel_rfl) ?_
                          refine WL.does (by kernel_rfl) (by kernel_rfl) (Does.loadV H 0 rfl 15 (by kernel_rfl) (by kernel_rfl) ?_)
                          refine WL.sg 2 (by kernel_rfl) ?_
                          obtain rfl := hy23
                          exact WL.live [94] (by kernel_rfl) (hk_y23 () _ H)
                        · refine WL.known 88 ty23 (by kernel_rfl) (by kernel_rfl) ?_
                          refine WL.sg 6 (by kernel_rfl) ?_
                          obtain rfl := hy23
                          exact WL.live [94] (by kernel_rfl) (hk_y23 () _ H)
                      rcases ite_cases hy22 with ⟨ty22, hy22⟩ | ⟨ty22, hy22⟩
                      · refine WL.known 81 ty22 (by kernel_rfl) (by kernel_rfl) ?_
                        refine WL.sg 1 (by kernel_rfl) ?_
                        refine WL.does (by kernel_rfl) (by kernel_rfl) (Does.loadV H 1 rfl 13 (by kernel_rfl) (by kernel_rfl) ?_)
                        refine WL.sg 1 (by kernel_rfl) ?_
                        refine WL.does (by kernel_rfl) (by kernel_rfl) (Does.loadV H 0 rfl 13 (by kernel_rfl) (by kernel_rfl) ?_)
                        refine WL.does (by kernel_rfl) (by kernel_rfl) (Does.tells (.eql ((x0.Up.At == x1.Up.At) && ((x0.Up.Gen == x1.Up.Gen) && true)) (by kernel_rfl) (by kernel_rfl) (by kernel_rfl)) ?_)
                        refine WL.sg 1 (by kernel_rfl) ?_
                        obtain rfl := hy22
                        exact WL.live [2, 3, 87] (by kernel_rfl) (hk_y22 () _ H)
                      · refine WL.known 81 ty22 (by kernel_rfl) (by kernel_rfl) ?_
                        refine WL.sg 6 (by kernel_rfl) ?_
                        obtain rfl := hy22
                        exact WL.live [2, 3, 87] (by kernel_rfl) (hk_y22 () _ H)
                    rcases ite_cases hy21 with ⟨ty21, hy21⟩ | ⟨ty21, hy21⟩
                    · refine WL.known 74 ty21 (by kernel_rfl) (by kernel_rfl) ?_
                      refine WL.sg 1 (by kernel_rfl) ?_
                      refine WL.does (by kernel_rfl) (by kernel_rfl) (Does.loadV H 1 rfl 10 (by kernel_rfl) (by kernel_rfl) ?_)
                      refine WL.sg 1 (by kernel_rfl) ?_
                      refine WL.does (by kernel_rfl) (by kernel_rfl) (Does.loadV H 0 rfl 10 (by kernel_rfl) (by kernel_rfl) ?_)
                      refine WL.does (by kernel_rfl) (by kernel_rfl) (Does.tells (.eql ((x0.Out.Trap == x1.Out.Trap) && (((x0.Out.V.Re == x1.Out.V.Re) && ((x0.Out.V.Im == x1.Out.V.Im) && true)) && true)) (by kernel_rfl) (by kernel_rfl) (by kernel_rfl)) ?_)
                      refine WL.sg 1 (by kernel_rfl) ?_
                      obtain rfl := hy21
                      exact WL.live [2, 3, 80] (by kernel_rfl) (hk_y21 () _ H)
                    · refine WL.known 74 ty21 (by kernel_rfl) (by kernel_rfl) ?_
                      refine WL.sg 6 (by kernel_rfl) ?_
                      obtain rfl := hy21
                      exact WL.live [2, 3, 80] (by kernel_rfl) (hk_y21 () _ H)
                  rcases ite_cases hy20 with ⟨ty20, hy20⟩ | ⟨ty20, hy20⟩
                  · refine WL.known 67 ty20 (by kernel_rfl) (by kernel_rfl) ?_
                    refine WL.sg 1 (by kernel_rfl) ?_
                    refine WL.does (by kernel_rfl) (by kernel_rfl) (Does.loadV H 1 rfl 9 (by kernel_rfl) (by kernel_rfl) ?_)
                    refine WL.sg 1 (by kernel_rfl) ?_
                    refine WL.does (by kernel_rfl) (by kernel_rfl) (Does.loadV H 0 rfl 9 (by kernel_rfl) (by kernel_rfl) ?_)
                    refine WL.sg 2 (by kernel_rfl) ?_
                    obtain rfl := hy20
                    exact WL.live [2, 3, 73] (by kernel_rfl) (hk_y20 () _ H)
                  · refine WL.known 67 ty20 (by kernel_rfl) (by kernel_rfl) ?_
                    refine WL.sg 6 (by kernel_rfl) ?_
                    obtain rfl := hy20
                    exact WL.live [2, 3, 73] (by kernel_rfl) (hk_y20 () _ H)
                rcases ite_cases hy19 with ⟨ty19, hy19⟩ | ⟨ty19, hy19⟩
                · refine WL.known 60 ty19 (by kernel_rfl) (by kernel_rfl) ?_
                  refine WL.sg 1 (by kernel_rfl) ?_
                  refine WL.does (by kernel_rfl) (by kernel_rfl) (Does.loadV H 1 rfl 8 (by kernel_rfl) (by kernel_rfl) ?_)
                  refine WL.sg 1 (by kernel_rfl) ?_
                  refine WL.does (by kernel_rfl) (by kernel_rfl) (Does.loadV H 0 rfl 8 (by kernel_rfl) (by kernel_rfl) ?_)
                  refine WL.sg 2 (by kernel_rfl) ?_
                  obtain rfl := hy19
                  exact WL.live [2, 3, 66] (by kernel_rfl) (hk_y19 () _ H)
                · refine WL.known 60 ty19 (by kernel_rfl) (by kernel_rfl) ?_
                  refine WL.sg 6 (by kernel_rfl) ?_
                  obtain rfl := hy19
                  exact WL.live [2, 3, 66] (by kernel_rfl) (hk_y19 () _ H)
              rcases ite_cases hy18 with ⟨ty18, hy18⟩ | ⟨ty18, hy18⟩
              · refine WL.known 53 ty18 (by kernel_rfl) (by kernel_rfl) ?_
                refine WL.sg 1 (by kernel_rfl) ?_
                refine WL.does (by kernel_rfl) (by kernel_rfl) (Does.loadV H 1 rfl 7 (by kernel_rfl) (by kernel_rfl) ?_)
                refine WL.sg 1 (by kernel_rfl) ?_
                refine WL.does (by kernel_rfl) (by kernel_rfl) (Does.loadV H 0 rfl 7 (by kernel_rfl) (by kernel_rfl) ?_)
                refine WL.sg 2 (by kernel_rfl) ?_
                obtain rfl := hy18
                exact WL.live [2, 3, 59] (by kernel_rfl) (hk_y18 () _ H)
              · refine WL.known 53 ty18 (by kernel_rfl) (by kernel_rfl) ?_
                refine WL.sg 6 (by kernel_rfl) ?_
                obtain rfl := hy18
                exact WL.live [2, 3, 59] (by kernel_rfl) (hk_y18 () _ H)
            rcases ite_cases hy17 with ⟨ty17, hy17⟩ | ⟨ty17, hy17⟩
            · refine WL.known 46 ty17 (by kernel_rfl) (by kernel_rfl) ?_
              refine WL.sg 1 (by kernel_rfl) ?_
              refine WL.does (by kernel_rfl) (by kernel_rfl) (Does.loadV H 1 rfl 6 (by kernel_rfl) (by kernel_rfl) ?_)
              refine WL.sg 1 (by kernel_rfl) ?_
              refine WL.does (by kernel_rfl) (by kernel_rfl) (Does.loadV H 0 rfl 6 (by kernel_rfl) (by kernel_rfl) ?_)
              refine WL.sg 2 (by kernel_rfl) ?_
              obtain rfl := hy17
              exact WL.live [2, 3, 52] (by kernel_rfl) (hk_y17 () _ H)
            · refine WL.known 46 ty17 (by kernel_rfl) (by kernel_rfl) ?_
              refine WL.sg 6 (by kernel_rfl) ?_
              obtain rfl := hy17
              exact WL.live [2, 3, 52] (by kernel_rfl) (hk_y17 () _ H)
          rcases ite_cases hy16 with ⟨ty16, hy16⟩ | ⟨ty16, hy16⟩
          · refine WL.known 39 ty16 (by kernel_rfl) (by kernel_rfl) ?_
            refine WL.sg 1 (by kernel_rfl) ?_
            refine WL.does (by kernel_rfl) (by kernel_rfl) (Does.loadV H 1 rfl 5 (by kernel_rfl) (by kernel_rfl) ?_)
            refine WL.sg 1 (by kernel_rfl) ?_
            refine WL.does (by kernel_rfl) (by kernel_rfl) (Does.loadV H 0 rfl 5 (by kernel_rfl) (by kernel_rfl) ?_)
            refine WL.sg 2 (by kernel_rfl) ?_
            obtain rfl := hy16
            exact WL.live [2, 3, 45] (by kernel_rfl) (hk_y16 () _ H)
          · refine WL.known 39 ty16 (by kernel_rfl) (by kernel_rfl) ?_
            refine WL.sg 6 (by kernel_rfl) ?_
            obtain rfl := hy16
            exact WL.live [2, 3, 45] (by kernel_rfl) (hk_y16 () _ H)
        rcases ite_cases hy15 with ⟨ty15, hy15⟩ | ⟨ty15, hy15⟩
        · refine WL.known 32 ty15 (by kernel_rfl) (by kernel_rfl) ?_
          refine WL.sg 1 (by kernel_rfl) ?_
          refine WL.does (by kernel_rfl) (by kernel_rfl) (Does.loadV H 1 rfl 1 (by kernel_rfl) (by kernel_rfl) ?_)
          refine WL.sg 1 (by kernel_rfl) ?_
          refine WL.does (by kernel_rfl) (by kernel_rfl) (Does.loadV H 0 rfl 1 (by kernel_rfl) (by kernel_rfl) ?_)
          refine WL.sg 2 (by kernel_rfl) ?_
          obtain rfl := hy15
          exact WL.live [2, 3, 38] (by kernel_rfl) (hk_y15 () _ H)
        · refine WL.known 32 ty15 (by kernel_rfl) (by kernel_rfl) ?_
          refine WL.sg 6 (by kernel_rfl) ?_
          obtain rfl := hy15
          exact WL.live [2, 3, 38] (by kernel_rfl) (hk_y15 () _ H)
    rcases ite_cases hy12 with ⟨ty12, hy12⟩ | ⟨ty12, hy12⟩
    · refine WL.known 19 ty12 (by kernel_rfl) (by kernel_rfl) ?_
      refine WL.sg 7 (by kernel_rfl) ?_
      obtain rfl := Option.some.inj hy12
      exact WL.live [2, 3, 26] (by kernel_rfl) (hk_y12 () _ H)
    · refine WL.known 19 ty12 (by kernel_rfl) (by kernel_rfl) ?_
      refine WL.sg 1 (by kernel_rfl) ?_
      refine WL.does (by kernel_rfl) (by kernel_rfl) (Does.loadV H 1 rfl 4 (by kernel_rfl) (by kernel_rfl) ?_)
      refine WL.sg 1 (by kernel_rfl) ?_
      refine WL.does (by kernel_rfl) (by kernel_rfl) (Does.loadV H 0 rfl 4 (by kernel_rfl) (by kernel_rfl) ?_)
      obtain ⟨y24, q24, hy12⟩ := bind_cases hy12
      refine WL.does (by kernel_rfl) (by kernel_rfl) (Does.call (c_slices_Equal_Slot K x0.Slots f3 x1.Slots f6 H q24) (by kernel_rfl) ?_)
      rintro _ w ⟨rfl, H⟩
      refine WL.sg 2 (by kernel_rfl) ?_
      obtain rfl := Option.some.inj hy12
      exact WL.live [2, 3, 26] (by kernel_rfl) (hk_y12 () _ H)
  rcases ite_cases hy10 with ⟨ty10, hy10⟩ | ⟨ty10, hy10⟩
  · refine WL.known 11 ty10 (by kernel_rfl) (by kernel_rfl) ?_
    refine WL.sg 7 (by kernel_rfl) ?_
    obtain rfl := Option.some.inj hy10
    exact WL.live [2, 3, 18] (by kernel_rfl) (hk_y10 () _ H)
  · refine WL.known 11 ty10 (by kernel_rfl) (by kernel_rfl) ?_
    refine WL.sg 1 (by kernel_rfl) ?_
    refine WL.does (by kernel_rfl) (by kernel_rfl) (Does.loadV H 1 rfl 3 (by kernel_rfl) (by kernel_rfl) ?_)
    refine WL.sg 1 (by kernel_rfl) ?_
    refine WL.does (by kernel_rfl) (by kernel_rfl) (Does.loadV H 0 rfl 3 (by kernel_rfl) (by kernel_rfl) ?_)
    obtain ⟨y25, q25, hy10⟩ := bind_cases hy10
    refine WL.does (by kernel_rfl) (by kernel_rfl) (Does.call (c_slices_Equal_Value K x0.Locals f2 x1.Locals f5 H q25) (by kernel_rfl) ?_)
    rintro _ w ⟨rfl, H⟩
    refine WL.sg 2 (by kernel_rfl) ?_
    obtain rfl := Option.some.inj hy10
    exact WL.live [2, 3, 18] (by kernel_rfl) (hk_y10 () _ H)
def law09_fixed (K : Nat) : Option Bool :=
  (law09_of K (⟨#[102, 117, 110, 99, 32, 49, 32, 49, 32, 50, 10, 108, 111, 97, 100, 32, 48, 10, 115, 112, 97, 119, 110, 32, 48, 32, 49, 10, 106, 111, 105, 110, 32, 49, 10, 106, 111, 105, 110, 32, 49, 10, 114, 101, 116, 10]⟩ : ByteArray)).bind fun y1 =>
  (frame_New K y1 0 [(⟨5, 0⟩ : GValue)] 9).bind fun y5 =>
  bnd (
      if !y5.2 then
        true
      else
        (y5.1.Locals.length : Int) != 1) fun y12 =>
  bnd (
      if y12 then
        true
      else
        (y5.1.Slots.length : Int) != 2) fun y13 =>
  if y13 then
    some false
  else
    (frame_Do K y1 y5.1).bind fun y17 =>
    (frame_Do K y1 y17.1).bind fun y23 =>
    (frame_Do K y1 y23.1).bind fun y29 =>
    (frame_Give y29.1 0 (⟨0, (⟨0, 0⟩ : GValue)⟩ : GOut)).bind fun y35 =>
    (frame_Give y29.1 1 (⟨0, (⟨0, 7⟩ : GValue)⟩ : GOut)).bind fun y40 =>
    (frame_Do K y1 y40.1).bind fun y45 =>
    bnd (
        if (y45.1.Stack.length : Int) != 1 then
          true
        else
          (y23.2.Args.length : Int) != 1) fun y51 =>
    if y51 then
      some false
    else
      (frame_Do K y1 y45.1).bind fun y53 =>
      (frame_Final K y53.1).bind fun y60 =>
      (frame_Final K y29.1).bind fun y62 =>
      (frame_New K y1 0 [] 9).bind fun y64 =>
      bnd (
          if y17.2.Kind == 1 then
            y23.2.Kind == 2
          else
            false) fun y71 =>
      bnd (
          if y71 then
            y23.2.Fn == 0
          else
            false) fun y72 =>
      bnd (
          if y72 then
            y23.2.Slot == 1
          else
            false) fun y73 =>
      (
          if y73 then
            if 0 ≤ (0 : Int) ∧ (0 : Int) < y23.2.Args.length then
              some ((((gd y23.2.Args (0 : Int)).Re) == 5) && ((((gd y23.2.Args (0 : Int)).Im) == 0) && true))
            else none
          else
            some false).bind fun y74 =>
      bnd (
          if y74 then
            y29.1.Spawned == 1
          else
            false) fun y76 =>
      bnd (
          if y76 then
            y29.2.Kind == 3
          else
            false) fun y77 =>
      bnd (
          if y77 then
            y29.1.State == 1
          else
            false) fun y78 =>
      bnd (
          if y78 then
            y29.1.Wait == 1
          else
            false) fun y79 =>
      bnd (
          if y79 then
            !y35.2
          else
            false) fun y80 =>
      (
          if y80 then
            (frame_Same K y29.1 y35.1).bind fun y96 =>
            some y96
          else
            some false).bind fun y81 =>
      bnd (
          if y81 then
            y40.2
          else
            false) fun y83 =>
      bnd (
          if y83 then
            y45.2.Kind == 1
          else
            false) fun y84 =>
      (
          if y84 then
            if 0 ≤ (0 : Int) ∧ (0 : Int) < y45.1.Stack.length then
              some ((((gd y45.1.Stack (0 : Int)).Re) == 0) && ((((gd y45.1.Stack (0 : Int)).Im) == 7) && true))
            else none
          else
            some false).bind fun y85 =>
      bnd (
          if y85 then
            y53.2.Kind == 4
          else
            false) fun y87 =>
      bnd (
          if y87 then
            y60.2
          else
            false) fun y88 =>
      bnd (
          if y88 then
            y60.1.Trap == 2
          else
            false) fun y89 =>
      bnd (
          if y89 then
            !y62.2
          else
            false) fun y90 =>
      bnd (
          if y90 then
            !y64.2
          else
            false) fun y91 =>
      (
          if y91 then
            (frame_Same K y29.1 y45.1).bind fun y94 =>
            some (!y94)
          else
            some false).bind fun y92 =>
      some y92
set_option maxRecDepth 100000 in
theorem c_law09_fixed {w0 w : World} {h : Gh} {L : List Ent} (K : Nat) (H : St w0 h w L) {r : Bool} (hr : law09_fixed K = some r) : Calls Try.prog 5 #[] w (fun e w' => ∃ v, e = .returned v ∧ v = .bool r ∧ St w0 h w' (L)) := by
  refine calls_of (args := []) (n := 208) (rs := [.tmp 0]) Try.func5 rfl rfl rfl rfl rfl ?_
  unfold law09_fixed at hr
  refine WE.seq ?_
  refine WE.region ?_
  refine WL.fin 1 (by kernel_rfl) (by kernel_rfl) ?_
  refine WE.seq ?_
  refine WE.region ?_
  obtain ⟨y1, q1, hr⟩ := bind_cases hr
  refine WL.does (by kernel_rfl) (by kernel_rfl) (Does.call (c_law09_of K (⟨#[102, 117, 110, 99, 32, 49, 32, 49, 32, 50, 10, 108, 111, 97, 100, 32, 48, 10, 115, 112, 97, 119, 110, 32, 48, 32, 49, 10, 106, 111, 105, 110, 32, 49, 10, 106, 111, 105, 110, 32, 49, 10, 114, 101, 116, 10]⟩ : ByteArray) H q1) (by kernel_rfl) ?_)
  rintro _ w ⟨h1, a2, c2, rfl, le1, f2, H⟩
  refine WL.fin 1 (by kernel_rfl) (by kernel_rfl) ?_
  refine WE.seq ?_
  refine WE.region ?_
  refine WL.sg 2 (by kernel_rfl) ?_
  refine WL.does (by kernel_rfl) (by kernel_rfl) (Does.lit (K := rGValue) (B := 16) (xs := [(⟨5, 0⟩ : GValue)]) (e := 33) H ([.int .i64 5, .int .i64 0] ++ []) (by kernel_rfl) (Rows.cons (C := [.int .i64 5, .int .i64 0]) (x := (⟨5, 0⟩ : GValue)) (by show _ = _; kernel_rfl) Rows.nil) (by kernel_rfl) (by kernel_rfl) (by kernel_rfl) (by kernel_rfl) fun b3 w H => ?_)
  obtain ⟨y5, q5, hr⟩ := bind_cases hr
  obtain ⟨h4, le4, f4, H⟩ := (H).rowFreeze (Gh.refl _)
  refine WL.does (by kernel_rfl) (by kernel_rfl) (Does.call (c_frame_New K y1 (f2.up le4) 0 [(⟨5, 0⟩ : GValue)] f4 9 H q5) (by kernel_rfl) ?_)
  rintro _ w ⟨h5, a6, c6, a7, c7, a8, c8, rfl, le5, f6, H⟩
  refine WL.sg 3 (by kernel_rfl) ?_
  refine WL.does (by kernel_rfl) (by kernel_rfl) (Does.alloc H (cGFrame (⟨0, 0, [], [], [], 0, 0, 0, 0, 0, (⟨0, (⟨0, 0⟩ : GValue)⟩ : GOut), (⟨0, 0⟩ : GRef), 0⟩ : GFrame) none 0 none 0 none 0) (by kernel_rfl) fun b11 w H => ?_)
  refine WL.does (by kernel_rfl) (by kernel_rfl) (Does.storeE H 0 (cGFrame y5.1 a6 c6 a7 c7 a8 c8) rfl (q := 0) (by kernel_rfl) (by kernel_rfl) (by kernel_rfl) fun w H => ?_)
  refine WL.fin 1 (by kernel_rfl) (by kernel_rfl) ?_
  refine WE.seq ?_
  refine WE.seq ?_
  refine WE.region ?_
  refine WL.sg 3 (by kernel_rfl) ?_
  obtain ⟨y12, hy12, hr⟩ := bnd_cases hr
  refine WL.join 5 (fun (_ : Unit) => [(1, .slice a2 y1.length c2), (2, .pointer (some ⟨b11, 0, none⟩)), (35, .bool y12)]) (fun (_ : Unit) w => St w0 h5 w (var b11 (cGFrame y5.1 a6 c6 a7 c7 a8 c8) 40 :: row rGValue 16 h5 a7 c7 y5.1.Locals :: row rGSlot 48 h5 a8 c8 y5.1.Slots :: L)) ?_ (fun hk_y12 => ?_)
  · rintro _ w H
    refine WL.sg 1 (by kernel_rfl) ?_
    obtain ⟨y13, hy13, hr⟩ := bnd_cases hr
    refine WL.join 5 (fun (_ : Unit) => [(1, .slice a2 y1.length c2), (2, .pointer (some ⟨b11, 0, none⟩)), (41, .bool y13)]) (fun (_ : Unit) w => St w0 h5 w (var b11 (cGFrame y5.1 a6 c6 a7 c7 a8 c8) 40 :: row rGValue 16 h5 a7 c7 y5.1.Locals :: row rGSlot 48 h5 a8 c8 y5.1.Slots :: L)) ?_ (fun hk_y13 => ?_)
    · rintro _ w H
      refine WL.fin 0 (by kernel_rfl) (by kernel_rfl) ?_
      rcases ite_cases hr with ⟨t14, hr⟩ | ⟨t14, hr⟩
      · refine WE.yes (by kernel_rfl) (b := y13) (by kernel_rfl) t14 ?_
        refine WE.seq ?_
        refine WE.region ?_
        refine WL.fin 1 (by kernel_rfl) (by kernel_rfl) ?_
        obtain rfl := Option.some.inj hr
        exact WE.ret ⟨[.bool false], ⟨⟨(by kernel_rfl), (by kernel_rfl)⟩, trivial⟩, ⟨rfl, ((H.keep 3).less ((le1.trans le4).trans le5))⟩⟩
      · refine WE.no (by kernel_rfl) (b := y13) (by kernel_rfl) t14 ?_
        refine WE.skip ?_
        refine WE.seq ?_
        refine WE.region ?_
        refine WL.sg 1 (by kernel_rfl) ?_
        refine WL.does (by kernel_rfl) (by kernel_rfl) (Does.loadV H 0 rfl 0 (by kernel_rfl) (by kernel_rfl) ?_)
        obtain ⟨y17, q17, hr⟩ := bind_cases hr
        obtain ⟨h15, le15, f15, H⟩ := (H.front 1 rfl).rowFreeze (Gh.refl _)
        obtain ⟨h16, le16, f16, H⟩ := (H.front 1 rfl).rowFreeze le15
        refine WL.does (by kernel_rfl) (by kernel_rfl) (Does.call (c_frame_Do K y1 ((((f2.up le4).up le5).up le15).up le16) y5.1 ((f6.up le15).up le16) (f15.up le16) f16 H q17) (by kernel_rfl) ?_)
        rintro _ w ⟨h17, a18, c18, a19, c19, a20, c20, a21, c21, rfl, le17, f18, f19, f20, f21, H⟩
        refine WL.sg 3 (by kernel_rfl) ?_
        refine WL.does (by kernel_rfl) (by kernel_rfl) (Does.alloc H (cGAct (⟨0, 0, 0, 0, []⟩ : GAct) none 0) (by kernel_rfl) fun b22 w H => ?_)
        refine WL.does (by kernel_rfl) (by kernel_rfl) (Does.storeE H 1 (cGFrame y17.1 a18 c18 a19 c19 a20 c20) rfl (q := 0) (by kernel_rfl) (by kernel_rfl) (by kernel_rfl) fun w H => ?_)
        refine WL.does (by kernel_rfl) (by kernel_rfl) (Does.storeE H 0 (cGAct y17.2 a21 c21) rfl (q := 0) (by kernel_rfl) (by kernel_rfl) (by kernel_rfl) fun w H => ?_)
        refine WL.fin 0 (by kernel_rfl) (by kernel_rfl) ?_
        refine WE.seq ?_
        refine WE.region ?_
        refine WL.sg 1 (by kernel_rfl) ?_
        refine WL.does (by kernel_rfl) (by kernel_rfl) (Does.loadV H 1 rfl 0 (by kernel_rfl) (by kernel_rfl) ?_)
        obtain ⟨y23, q23, hr⟩ := bind_cases hr
        refine WL.does (by kernel_rfl) (by kernel_rfl) (Does.call (c_frame_Do K y1 (((((f2.up le4).up le5).up le15).up le16).up le17) y17.1 f18 f19 f20 H q23) (by kernel_rfl) ?_)
        rintro _ w ⟨h23, a24, c24, a25, c25, a26, c26, a27, c27, rfl, le23, f24, f25, f26, f27, H⟩
        refine WL.sg 3 (by kernel_rfl) ?_
        refine WL.does (by kernel_rfl) (by kernel_rfl) (Does.alloc H (cGAct (⟨0, 0, 0, 0, []⟩ : GAct) none 0) (by kernel_rfl) fun b28 w H => ?_)
        refine WL.does (by kernel_rfl) (by kernel_rfl) (Does.storeE H 2 (cGFrame y23.1 a24 c24 a25 c25 a26 c26) rfl (q := 0) (by kernel_rfl) (by kernel_rfl) (by kernel_rfl) fun w H => ?_)
        refine WL.does (by kernel_rfl) (by kernel_rfl) (Does.storeE H 0 (cGAct y23.2 a27 c27) rfl (q := 0) (by kernel_rfl) (by kernel_rfl) (by kernel_rfl) fun w H => ?_)
        refine WL.fin 0 (by kernel_rfl) (by kernel_rfl) ?_
        refine WE.seq ?_
        refine WE.region ?_
        refine WL.sg 1 (by kernel_rfl) ?_
        refine WL.does (by kernel_rfl) (by kernel_rfl) (Does.loadV H 2 rfl 0 (by kernel_rfl) (by kernel_rfl) ?_)
        obtain ⟨y29, q29, hr⟩ := bind_cases hr
        refine WL.does (by kernel_rfl) (by kernel_rfl) (Does.call (c_frame_Do K y1 ((((((f2.up le4).up le5).up le15).up le16).up le17).up le23) y23.1 f24 f25 f26 H q29) (by kernel_rfl) ?_)
        rintro _ w ⟨h29, a30, c30, a31, c31, a32, c32, a33, c33, rfl, le29, f30, f31, f32, f33, H⟩
        refine WL.sg 3 (by kernel_rfl) ?_
        refine WL.does (by kernel_rfl) (by kernel_rfl) (Does.alloc H (cGAct (⟨0, 0, 0, 0, []⟩ : GAct) none 0) (by kernel_rfl) fun b34 w H => ?_)
        refine WL.does (by kernel_rfl) (by kernel_rfl) (Does.storeE H 3 (cGFrame y29.1 a30 c30 a31 c31 a32 c32) rfl (q := 0) (by kernel_rfl) (by kernel_rfl) (by kernel_rfl) fun w H => ?_)
        refine WL.does (by kernel_rfl) (by kernel_rfl) (Does.storeE H 0 (cGAct y29.2 a33 c33) rfl (q := 0) (by kernel_rfl) (by kernel_rfl) (by kernel_rfl) fun w H => ?_)
        refine WL.fin 0 (by kernel_rfl) (by kernel_rfl) ?_
        refine WE.seq ?_
        refine WE.region ?_
        refine WL.does (by kernel_rfl) (by kernel_rfl) (Does.loadV H 3 rfl 0 (by kernel_rfl) (by kernel_rfl) ?_)
        obtain ⟨y35, q35, hr⟩ := bind_cases hr
        refine WL.sg 1 (by kernel_rfl) ?_
        refine WL.does (by kernel_rfl) (by kernel_rfl) (Does.call (c_frame_Give y29.1 f30 f31 f32 0 (⟨0, (⟨0, 0⟩ : GValue)⟩ : GOut) H q35) (by kernel_rfl) ?_)
        rintro _ w ⟨h35, a36, c36, a37, c37, a38, c38, rfl, le35, f36, f37, f38, H⟩
        refine WL.sg 3 (by kernel_rfl) ?_
        refine WL.does (by kernel_rfl) (by kernel_rfl) (Does.alloc H (cGFrame (⟨0, 0, [], [], [], 0, 0, 0, 0, 0, (⟨0, (⟨0, 0⟩ : GValue)⟩ : GOut), (⟨0, 0⟩ : GRef), 0⟩ : GFrame) none 0 none 0 none 0) (by kernel_rfl) fun b39 w H => ?_)
        refine WL.does (by kernel_rfl) (by kernel_rfl) (Does.storeE H 0 (cGFrame y35.1 a36 c36 a37 c37 a38 c38) rfl (q := 0) (by kernel_rfl) (by kernel_rfl) (by kernel_rfl) fun w H => ?_)
        refine WL.fin 1 (by kernel_rfl) (by kernel_rfl) ?_
        refine WE.seq ?_
        refine WE.region ?_
        refine WL.does (by kernel_rfl) (by kernel_rfl) (Does.loadV H 4 rfl 0 (by kernel_rfl) (by kernel_rfl) ?_)
        obtain ⟨y40, q40, hr⟩ := bind_cases hr
        refine WL.sg 2 (by kernel_rfl) ?_
        refine WL.does (by kernel_rfl) (by kernel_rfl) (Does.call (c_frame_Give y29.1 (f30.up le35) (f31.up le35) (f32.up le35) 1 (⟨0, (⟨0, 7⟩ : GValue)⟩ : GOut) H q40) (by kernel_rfl) ?_)
        rintro _ w ⟨h40, a41, c41, a42, c42, a43, c43, rfl, le40, f41, f42, f43, H⟩
        refine WL.sg 3 (by kernel_rfl) ?_
        refine WL.does (by kernel_rfl) (by kernel_rfl) (Does.alloc H (cGFrame (⟨0, 0, [], [], [], 0, 0, 0, 0, 0, (⟨0, (⟨0, 0⟩ : GValue)⟩ : GOut), (⟨0, 0⟩ : GRef), 0⟩ : GFrame) none 0 none 0 none 0) (by kernel_rfl) fun b44 w H => ?_)
        refine WL.does (by kernel_rfl) (by kernel_rfl) (Does.storeE H 0 (cGFrame y40.1 a41 c41 a42 c42 a43 c43) rfl (q := 0) (by kernel_rfl) (by kernel_rfl) (by kernel_rfl) fun w H => ?_)
        refine WL.fin 1 (by kernel_rfl) (by kernel_rfl) ?_
        refine WE.seq ?_
        refine WE.region ?_
        refine WL.sg 1 (by kernel_rfl) ?_
        refine WL.does (by kernel_rfl) (by kernel_rfl) (Does.loadV H 0 rfl 0 (by kernel_rfl) (by kernel_rfl) ?_)
        obtain ⟨y45, q45, hr⟩ := bind_cases hr
        refine WL.does (by kernel_rfl) (by kernel_rfl) (Does.call (c_frame_Do K y1 (((((((((f2.up le4).up le5).up le15).up le16).up le17).up le23).up le29).up le35).up le40) y40.1 f41 f42 f43 H q45) (by kernel_rfl) ?_)
        rintro _ w ⟨h45, a46, c46, a47, c47, a48, c48, a49, c49, rfl, le45, f46, f47, f48, f49, H⟩
        refine WL.sg 3 (by kernel_rfl) ?_
        refine WL.does (by kernel_rfl) (by kernel_rfl) (Does.alloc H (cGAct (⟨0, 0, 0, 0, []⟩ : GAct) none 0) (by kernel_rfl) fun b50 w H => ?_)
        refine WL.does (by kernel_rfl) (by kernel_rfl) (Does.storeE H 1 (cGFrame y45.1 a46 c46 a47 c47 a48 c48) rfl (q := 0) (by kernel_rfl) (by kernel_rfl) (by kernel_rfl) fun w H => ?_)
        refine WL.does (by kernel_rfl) (by kernel_rfl) (Does.storeE H 0 (cGAct y45.2 a49 c49) rfl (q := 0) (by kernel_rfl) (by kernel_rfl) (by kernel_rfl) fun w H => ?_)
        refine WL.fin 0 (by kernel_rfl) (by kernel_rfl) ?_
        refine WE.seq ?_
        refine WE.seq ?_
        refine WE.region ?_
        refine WL.sg 1 (by kernel_rfl) ?_
        refine WL.does (by kernel_rfl) (by kernel_rfl) (Does.loadV H 1 rfl 2 (by kernel_rfl) (by kernel_rfl) ?_)
        refine WL.sg 3 (by kernel_rfl) ?_
        obtain ⟨y51, hy51, hr⟩ := bnd_cases hr
        refine WL.join 5 (fun (_ : Unit) => [(1, .slice a2 y1.length c2), (2, .pointer (some ⟨b11, 0, none⟩)), (4, .pointer (some ⟨b22, 0, none⟩)), (5, .pointer (some ⟨b28, 0, none⟩)), (6, .pointer (some ⟨b34, 0, none⟩)), (7, .pointer (some ⟨b39, 0, none⟩)), (8, .bool y35.2), (9, .pointer (some ⟨b44, 0, none⟩)), (10, .bool y40.2), (11, .pointer (some ⟨b50, 0, none⟩)), (88, .bool y51)]) (fun (_ : Unit) w => St w0 h45 w (var b50 (cGAct y45.2 a49 c49) 50 :: var b44 (cGFrame y45.1 a46 c46 a47 c47 a48 c48) 40 :: var b39 (cGFrame y35.1 a36 c36 a37 c37 a38 c38) 40 :: var b34 (cGAct y29.2 a33 c33) 50 :: var b28 (cGAct y23.2 a27 c27) 50 :: var b22 (cGAct y17.2 a21 c21) 50 :: var b11 (cGFrame y29.1 a30 c30 a31 c31 a32 c32) 40 :: L)) ?_ (fun hk_y51 => ?_)
        · rintro _ w H
          refine WL.fin 0 (by kernel_rfl) (by kernel_rfl) ?_
          rcases ite_cases hr with ⟨t52, hr⟩ | ⟨t52, hr⟩
          · refine WE.yes (by kernel_rfl) (b := y51) (by kernel_rfl) t52 ?_
            refine WE.seq ?_
            refine WE.region ?_
            refine WL.fin 1 (by kernel_rfl) (by kernel_rfl) ?_
            obtain rfl := Option.some.inj hr
            exact WE.ret ⟨[.bool false], ⟨⟨(by kernel_rfl), (by kernel_rfl)⟩, trivial⟩, ⟨rfl, ((H.keep 7).less ((((((((((le1.trans le4).trans le5).trans le15).trans le16).trans le17).trans le23).trans le29).trans le35).trans le40).trans le45))⟩⟩
          · refine WE.no (by kernel_rfl) (b := y51) (by kernel_rfl) t52 ?_
            refine WE.skip ?_
            refine WE.seq ?_
            refine WE.region ?_
            refine WL.sg 1 (by kernel_rfl) ?_
            refine WL.does (by kernel_rfl) (by kernel_rfl) (Does.loadV H 1 rfl 0 (by kernel_rfl) (by kernel_rfl) ?_)
            obtain ⟨y53, q53, hr⟩ := bind_cases hr
            refine WL.does (by kernel_rfl) (by kernel_rfl) (Does.call (c_frame_Do K y1 ((((((((((f2.up le4).up le5).up le15).up le16).up le17).up le23).up le29).up le35).up le40).up le45) y45.1 f46 f47 f48 H q53) (by kernel_rfl) ?_)
            rintro _ w ⟨h53, a54, c54, a55, c55, a56, c56, a57, c57, rfl, le53, f54, f55, f56, f57, H⟩
            refine WL.sg 3 (by kernel_rfl) ?_
            refine WL.does (by kernel_rfl) (by kernel_rfl) (Does.alloc H (cGFrame (⟨0, 0, [], [], [], 0, 0, 0, 0, 0, (⟨0, (⟨0, 0⟩ : GValue)⟩ : GOut), (⟨0, 0⟩ : GRef), 0⟩ : GFrame) none 0 none 0 none 0) (by kernel_rfl) fun b58 w H => ?_)
            refine WL.does (by kernel_rfl) (by kernel_rfl) (Does.alloc H (cGAct (⟨0, 0, 0, 0, []⟩ : GAct) none 0) (by kernel_rfl) fun b59 w H => ?_)
            refine WL.does (by kernel_rfl) (by kernel_rfl) (Does.storeE H 1 (cGFrame y53.1 a54 c54 a55 c55 a56 c56) rfl (q := 0) (by kernel_rfl) (by kernel_rfl) (by kernel_rfl) fun w H => ?_)
            refine WL.does (by kernel_rfl) (by kernel_rfl) (Does.storeE H 0 (cGAct y53.2 a57 c57) rfl (q := 0) (by kernel_rfl) (by kernel_rfl) (by kernel_rfl) fun w H => ?_)
            refine WL.fin 0 (by kernel_rfl) (by kernel_rfl) ?_
            refine WE.seq ?_
            refine WE.region ?_
            refine WL.does (by kernel_rfl) (by kernel_rfl) (Does.loadV H 1 rfl 0 (by kernel_rfl) (by kernel_rfl) ?_)
            obtain ⟨y60, q60, hr⟩ := bind_cases hr
            refine WL.does (by kernel_rfl) (by kernel_rfl) (Does.call (c_frame_Final K y53.1 f54 f55 f56 H q60) (by kernel_rfl) ?_)
            rintro _ w ⟨rfl, H⟩
            refine WL.sg 3 (by kernel_rfl) ?_
            refine WL.does (by kernel_rfl) (by kernel_rfl) (Does.alloc H [.int .i64 0, .int .i64 0, .int .i64 0] (by kernel_rfl) fun b61 w H => ?_)
            refine WL.does (by kernel_rfl) (by kernel_rfl) (Does.storeE H 0 [.int .i64 y60.1.Trap, .int .i64 y60.1.V.Re, .int .i64 y60.1.V.Im] rfl (q := 0) (by kernel_rfl) (by kernel_rfl) (by kernel_rfl) fun w H => ?_)
            refine WL.fin 1 (by kernel_rfl) (by kernel_rfl) ?_
            refine WE.seq ?_
            refine WE.region ?_
            refine WL.does (by kernel_rfl) (by kernel_rfl) (Does.loadV H 9 rfl 0 (by kernel_rfl) (by kernel_rfl) ?_)
            obtain ⟨y62, q62, hr⟩ := bind_cases hr
            refine WL.does (by kernel_rfl) (by kernel_rfl) (Does.call (c_frame_Final K y29.1 ((((f30.up le35).up le40).up le45).up le53) ((((f31.up le35).up le40).up le45).up le53) ((((f32.up le35).up le40).up le45).up le53) H q62) (by kernel_rfl) ?_)
            rintro _ w ⟨rfl, H⟩
            refine WL.sg 3 (by kernel_rfl) ?_
            refine WL.does (by kernel_rfl) (by kernel_rfl) (Does.alloc H [.int .i64 0, .int .i64 0, .int .i64 0] (by kernel_rfl) fun b63 w H => ?_)
            refine WL.does (by kernel_rfl) (by kernel_rfl) (Does.storeE H 0 [.int .i64 y62.1.Trap, .int .i64 y62.1.V.Re, .int .i64 y62.1.V.Im] rfl (q := 0) (by kernel_rfl) (by kernel_rfl) (by kernel_rfl) fun w H => ?_)
            refine WL.fin 1 (by kernel_rfl) (by kernel_rfl) ?_
            refine WE.seq ?_
            refine WE.region ?_
            obtain ⟨y64, q64, hr⟩ := bind_cases hr
            refine WL.sg 1 (by kernel_rfl) ?_
            refine WL.does (by kernel_rfl) (by kernel_rfl) (Does.call (c_frame_New K y1 (((((((((((f2.up le4).up le5).up le15).up le16).up le17).up le23).up le29).up le35).up le40).up le45).up le53) 0 [] (Sl.nil none 0 (Nat.zero_le _)) 9 H q64) (by kernel_rfl) ?_)
            rintro _ w ⟨h64, a65, c65, a66, c66, a67, c67, rfl, le64, f65, H⟩
            refine WL.sg 3 (by kernel_rfl) ?_
            refine WL.does (by kernel_rfl) (by kernel_rfl) (Does.alloc H (cGFrame (⟨0, 0, [], [], [], 0, 0, 0, 0, 0, (⟨0, (⟨0, 0⟩ : GValue)⟩ : GOut), (⟨0, 0⟩ : GRef), 0⟩ : GFrame) none 0 none 0 none 0) (by kernel_rfl) fun b70 w H => ?_)
            refine WL.does (by kernel_rfl) (by kernel_rfl) (Does.storeE H 0 (cGFrame y64.1 a65 c65 a66 c66 a67 c67) rfl (q := 0) (by kernel_rfl) (by kernel_rfl) (by kernel_rfl) fun w H => ?_)
            refine WL.fin 1 (by kernel_rfl) (by kernel_rfl) ?_
            refine WE.seq ?_
            refine WE.region ?_
            refine WL.sg 1 (by kernel_rfl) ?_
            refine WL.does (by kernel_rfl) (by kernel_rfl) (Does.loadV H 12 rfl 0 (by kernel_rfl) (by kernel_rfl) ?_)
            refine WL.sg 2 (by kernel_rfl) ?_
            obtain ⟨y71, hy71, hr⟩ := bnd_cases hr
            refine WL.join 4 (fun (_ : Unit) => [(2, .pointer (some ⟨b11, 0, none⟩)), (5, .pointer (some ⟨b28, 0, none⟩)), (6, .pointer (some ⟨b34, 0, none⟩)), (7, .pointer (some ⟨b39, 0, none⟩)), (8, .bool y35.2), (9, .pointer (some ⟨b44, 0, none⟩)), (10, .bool y40.2), (11, .pointer (some ⟨b50, 0, none⟩)), (13, .pointer (some ⟨b59, 0, none⟩)), (14, .pointer (some ⟨b61, 0, none⟩)), (15, .bool y60.2), (17, .bool y62.2), (19, .bool y64.2), (117, .bool y71)]) (fun (_ : Unit) w => St w0 h64 w (var b70 (cGFrame y64.1 a65 c65 a66 c66 a67 c67) 40 :: row rGValue 16 h64 a66 c66 y64.1.Locals :: row rGSlot 48 h64 a67 c67 y64.1.Slots :: var b63 [.int .i64 y62.1.Trap, .int .i64 y62.1.V.Re, .int .i64 y62.1.V.Im] 36 :: var b61 [.int .i64 y60.1.Trap, .int .i64 y60.1.V.Re, .int .i64 y60.1.V.Im] 36 :: var b59 (cGAct y53.2 a57 c57) 50 :: var b58 (cGFrame y53.1 a54 c54 a55 c55 a56 c56) 40 :: var b50 (cGAct y45.2 a49 c49) 50 :: var b44 (cGFrame y45.1 a46 c46 a47 c47 a48 c48) 40 :: var b39 (cGFrame y35.1 a36 c36 a37 c37 a38 c38) 40 :: var b34 (cGAct y29.2 a33 c33) 50 :: var b28 (cGAct y23.2 a27 c27) 50 :: var b22 (cGAct y17.2 a21 c21) 50 :: var b11 (cGFrame y29.1 a30 c30 a31 c31 a32 c32) 40 :: L)) ?_ (fun hk_y71 => ?_)
            · rintro _ w H
              refine WL.sg 1 (by kernel_rfl) ?_
              obtain ⟨y72, hy72, hr⟩ := bnd_cases hr
              refine WL.join 4 (fun (_ : Unit) => [(2, .pointer (some ⟨b11, 0, none⟩)), (5, .pointer (some ⟨b28, 0, none⟩)), (6, .pointer (some ⟨b34, 0, none⟩)), (7, .pointer (some ⟨b39, 0, none⟩)), (8, .bool y35.2), (9, .pointer (some ⟨b44, 0, none⟩)), (10, .bool y40.2), (11, .pointer (some ⟨b50, 0, none⟩)), (13, .pointer (some ⟨b59, 0, none⟩)), (14, .pointer (some ⟨b61, 0, none⟩)), (15, .bool y60.2), (17, .bool y62.2), (19, .bool y64.2), (122, .bool y72)]) (fun (_ : Unit) w => St w0 h64 w (var b70 (cGFrame y64.1 a65 c65 a66 c66 a67 c67) 40 :: row rGValue 16 h64 a66 c66 y64.1.Locals :: row rGSlot 48 h64 a67 c67 y64.1.Slots :: var b63 [.int .i64 y62.1.Trap, .int .i64 y62.1.V.Re, .int .i64 y62.1.V.Im] 36 :: var b61 [.int .i64 y60.1.Trap, .int .i64 y60.1.V.Re, .int .i64 y60.1.V.Im] 36 :: var b59 (cGAct y53.2 a57 c57) 50 :: var b58 (cGFrame y53.1 a54 c54 a55 c55 a56 c56) 40 :: var b50 (cGAct y45.2 a49 c49) 50 :: var b44 (cGFrame y45.1 a46 c46 a47 c47 a48 c48) 40 :: var b39 (cGFrame y35.1 a36 c36 a37 c37 a38 c38) 40 :: var b34 (cGAct y29.2 a33 c33) 50 :: var b28 (cGAct y23.2 a27 c27) 50 :: var b22 (cGAct y17.2 a21 c21) 50 :: var b11 (cGFrame y29.1 a30 c30 a31 c31 a32 c32) 40 :: L)) ?_ (fun hk_y72 => ?_)
              · rintro _ w H
                refine WL.sg 1 (by kernel_rfl) ?_
                obtain ⟨y73, hy73, hr⟩ := bnd_cases hr
                refine WL.join 4 (fun (_ : Unit) => [(2, .pointer (some ⟨b11, 0, none⟩)), (5, .pointer (some ⟨b28, 0, none⟩)), (6, .pointer (some ⟨b34, 0, none⟩)), (7, .pointer (some ⟨b39, 0, none⟩)), (8, .bool y35.2), (9, .pointer (some ⟨b44, 0, none⟩)), (10, .bool y40.2), (11, .pointer (some ⟨b50, 0, none⟩)), (13, .pointer (some ⟨b59, 0, none⟩)), (14, .pointer (some ⟨b61, 0, none⟩)), (15, .bool y60.2), (17, .bool y62.2), (19, .bool y64.2), (127, .bool y73)]) (fun (_ : Unit) w => St w0 h64 w (var b70 (cGFrame y64.1 a65 c65 a66 c66 a67 c67) 40 :: row rGValue 16 h64 a66 c66 y64.1.Locals :: row rGSlot 48 h64 a67 c67 y64.1.Slots :: var b63 [.int .i64 y62.1.Trap, .int .i64 y62.1.V.Re, .int .i64 y62.1.V.Im] 36 :: var b61 [.int .i64 y60.1.Trap, .int .i64 y60.1.V.Re, .int .i64 y60.1.V.Im] 36 :: var b59 (cGAct y53.2 a57 c57) 50 :: var b58 (cGFrame y53.1 a54 c54 a55 c55 a56 c56) 40 :: var b50 (cGAct y45.2 a49 c49) 50 :: var b44 (cGFrame y45.1 a46 c46 a47 c47 a48 c48) 40 :: var b39 (cGFrame y35.1 a36 c36 a37 c37 a38 c38) 40 :: var b34 (cGAct y29.2 a33 c33) 50 :: var b28 (cGAct y23.2 a27 c27) 50 :: var b22 (cGAct y17.2 a21 c21) 50 :: var b11 (cGFrame y29.1 a30 c30 a31 c31 a32 c32) 40 :: L)) ?_ (fun hk_y73 => ?_)
                · rintro _ w H
                  refine WL.sg 1 (by kernel_rfl) ?_
                  obtain ⟨y74, hy74, hr⟩ := bind_cases hr
                  refine WL.join 7 (fun (_ : Unit) => [(2, .pointer (some ⟨b11, 0, none⟩)), (6, .pointer (some ⟨b34, 0, none⟩)), (7, .pointer (some ⟨b39, 0, none⟩)), (8, .bool y35.2), (9, .pointer (some ⟨b44, 0, none⟩)), (10, .bool y40.2), (11, .pointer (some ⟨b50, 0, none⟩)), (13, .pointer (some ⟨b59, 0, none⟩)), (14, .pointer (some ⟨b61, 0, none⟩)), (15, .bool y60.2), (17, .bool y62.2), (19, .bool y64.2), (135, .bool y74)]) (fun (_ : Unit) w => St w0 h64 w (var b70 (cGFrame y64.1 a65 c65 a66 c66 a67 c67) 40 :: row rGValue 16 h64 a66 c66 y64.1.Locals :: row rGSlot 48 h64 a67 c67 y64.1.Slots :: var b63 [.int .i64 y62.1.Trap, .int .i64 y62.1.V.Re, .int .i64 y62.1.V.Im] 36 :: var b61 [.int .i64 y60.1.Trap, .int .i64 y60.1.V.Re, .int .i64 y60.1.V.Im] 36 :: var b59 (cGAct y53.2 a57 c57) 50 :: var b58 (cGFrame y53.1 a54 c54 a55 c55 a56 c56) 40 :: var b50 (cGAct y45.2 a49 c49) 50 :: var b44 (cGFrame y45.1 a46 c46 a47 c47 a48 c48) 40 :: var b39 (cGFrame y35.1 a36 c36 a37 c37 a38 c38) 40 :: var b34 (cGAct y29.2 a33 c33) 50 :: var b28 (cGAct y23.2 a27 c27) 50 :: var b22 (cGAct y17.2 a21 c21) 50 :: var b11 (cGFrame y29.1 a30 c30 a31 c31 a32 c32) 40 :: L)) ?_ (fun hk_y74 => ?_)
                  · rintro _ w H
                    refine WL.sg 1 (by kernel_rfl) ?_
                    obtain ⟨y76, hy76, hr⟩ := bnd_cases hr
                    refine WL.join 4 (fun (_ : Unit) => [(2, .pointer (some ⟨b11, 0, none⟩)), (6, .pointer (some ⟨b34, 0, none⟩)), (7, .pointer (some ⟨b39, 0, none⟩)), (8, .bool y35.2), (9, .pointer (some ⟨b44, 0, none⟩)), (10, .bool y40.2), (11, .pointer (some ⟨b50, 0, none⟩)), (13, .pointer (some ⟨b59, 0, none⟩)), (14, .pointer (some ⟨b61, 0, none⟩)), (15, .bool y60.2), (17, .bool y62.2), (19, .bool y64.2), (140, .bool y76)]) (fun (_ : Unit) w => St w0 h64 w (var b70 (cGFrame y64.1 a65 c65 a66 c66 a67 c67) 40 :: row rGValue 16 h64 a66 c66 y64.1.Locals :: row rGSlot 48 h64 a67 c67 y64.1.Slots :: var b63 [.int .i64 y62.1.Trap, .int .i64 y62.1.V.Re, .int .i64 y62.1.V.Im] 36 :: var b61 [.int .i64 y60.1.Trap, .int .i64 y60.1.V.Re, .int .i64 y60.1.V.Im] 36 :: var b59 (cGAct y53.2 a57 c57) 50 :: var b58 (cGFrame y53.1 a54 c54 a55 c55 a56 c56) 40 :: var b50 (cGAct y45.2 a49 c49) 50 :: var b44 (cGFrame y45.1 a46 c46 a47 c47 a48 c48) 40 :: var b39 (cGFrame y35.1 a36 c36 a37 c37 a38 c38) 40 :: var b34 (cGAct y29.2 a33 c33) 50 :: var b28 (cGAct y23.2 a27 c27) 50 :: var b22 (cGAct y17.2 a21 c21) 50 :: var b11 (cGFrame y29.1 a30 c30 a31 c31 a32 c32) 40 :: L)) ?_ (fun hk_y76 => ?_)
                    · rintro _ w H
                      refine WL.sg 1 (by kernel_rfl) ?_
                      obtain ⟨y77, hy77, hr⟩ := bnd_cases hr
                      refine WL.join 4 (fun (_ : Unit) => [(2, .pointer (some ⟨b11, 0, none⟩)), (7, .pointer (some ⟨b39, 0, none⟩)), (8, .bool y35.2), (9, .pointer (some ⟨b44, 0, none⟩)), (10, .bool y40.2), (11, .pointer (some ⟨b50, 0, none⟩)), (13, .pointer (some ⟨b59, 0, none⟩)), (14, .pointer (some ⟨b61, 0, none⟩)), (15, .bool y60.2), (17, .bool y62.2), (19, .bool y64.2), (145, .bool y77)]) (fun (_ : Unit) w => St w0 h64 w (var b70 (cGFrame y64.1 a65 c65 a66 c66 a67 c67) 40 :: row rGValue 16 h64 a66 c66 y64.1.Locals :: row rGSlot 48 h64 a67 c67 y64.1.Slots :: var b63 [.int .i64 y62.1.Trap, .int .i64 y62.1.V.Re, .int .i64 y62.1.V.Im] 36 :: var b61 [.int .i64 y60.1.Trap, .int .i64 y60.1.V.Re, .int .i64 y60.1.V.Im] 36 :: var b59 (cGAct y53.2 a57 c57) 50 :: var b58 (cGFrame y53.1 a54 c54 a55 c55 a56 c56) 40 :: var b50 (cGAct y45.2 a49 c49) 50 :: var b44 (cGFrame y45.1 a46 c46 a47 c47 a48 c48) 40 :: var b39 (cGFrame y35.1 a36 c36 a37 c37 a38 c38) 40 :: var b34 (cGAct y29.2 a33 c33) 50 :: var b28 (cGAct y23.2 a27 c27) 50 :: var b22 (cGAct y17.2 a21 c21) 50 :: var b11 (cGFrame y29.1 a30 c30 a31 c31 a32 c32) 40 :: L)) ?_ (fun hk_y77 => ?_)
                      · rintro _ w H
                        refine WL.sg 1 (by kernel_rfl) ?_
                        obtain ⟨y78, hy78, hr⟩ := bnd_cases hr
                        refine WL.join 4 (fun (_ : Unit) => [(2, .pointer (some ⟨b11, 0, none⟩)), (7, .pointer (some ⟨b39, 0, none⟩)), (8, .bool y35.2), (9, .pointer (some ⟨b44, 0, none⟩)), (10, .bool y40.2), (11, .pointer (some ⟨b50, 0, none⟩)), (13, .pointer (some ⟨b59, 0, none⟩)), (14, .pointer (some ⟨b61, 0, none⟩)), (15, .bool y60.2), (17, .bool y62.2), (19, .bool y64.2), (150, .bool y78)]) (fun (_ : Unit) w => St w0 h64 w (var b70 (cGFrame y64.1 a65 c65 a66 c66 a67 c67) 40 :: row rGValue 16 h64 a66 c66 y64.1.Locals :: row rGSlot 48 h64 a67 c67 y64.1.Slots :: var b63 [.int .i64 y62.1.Trap, .int .i64 y62.1.V.Re, .int .i64 y62.1.V.Im] 36 :: var b61 [.int .i64 y60.1.Trap, .int .i64 y60.1.V.Re, .int .i64 y60.1.V.Im] 36 :: var b59 (cGAct y53.2 a57 c57) 50 :: var b58 (cGFrame y53.1 a54 c54 a55 c55 a56 c56) 40 :: var b50 (cGAct y45.2 a49 c49) 50 :: var b44 (cGFrame y45.1 a46 c46 a47 c47 a48 c48) 40 :: var b39 (cGFrame y35.1 a36 c36 a37 c37 a38 c38) 40 :: var b34 (cGAct y29.2 a33 c33) 50 :: var b28 (cGAct y23.2 a27 c27) 50 :: var b22 (cGAct y17.2 a21 c21) 50 :: var b11 (cGFrame y29.1 a30 c30 a31 c31 a32 c32) 40 :: L)) ?_ (fun hk_y78 => ?_)
                        · rintro _ w H
                          refine WL.sg 1 (by kernel_rfl) ?_
                          obtain ⟨y79, hy79, hr⟩ := bnd_cases hr
                          refine WL.join 4 (fun (_ : Unit) => [(2, .pointer (some ⟨b11, 0, none⟩)), (7, .pointer (some ⟨b39, 0, none⟩)), (8, .bool y35.2), (9, .pointer (some ⟨b44, 0, none⟩)), (10, .bool y40.2), (11, .pointer (some ⟨b50, 0, none⟩)), (13, .pointer (some ⟨b59, 0, none⟩)), (14, .pointer (some ⟨b61, 0, none⟩)), (15, .bool y60.2), (17, .bool y62.2), (19, .bool y64.2), (155, .bool y79)]) (fun (_ : Unit) w => St w0 h64 w (var b70 (cGFrame y64.1 a65 c65 a66 c66 a67 c67) 40 :: row rGValue 16 h64 a66 c66 y64.1.Locals :: row rGSlot 48 h64 a67 c67 y64.1.Slots :: var b63 [.int .i64 y62.1.Trap, .int .i64 y62.1.V.Re, .int .i64 y62.1.V.Im] 36 :: var b61 [.int .i64 y60.1.Trap, .int .i64 y60.1.V.Re, .int .i64 y60.1.V.Im] 36 :: var b59 (cGAct y53.2 a57 c57) 50 :: var b58 (cGFrame y53.1 a54 c54 a55 c55 a56 c56) 40 :: var b50 (cGAct y45.2 a49 c49) 50 :: var b44 (cGFrame y45.1 a46 c46 a47 c47 a48 c48) 40 :: var b39 (cGFrame y35.1 a36 c36 a37 c37 a38 c38) 40 :: var b34 (cGAct y29.2 a33 c33) 50 :: var b28 (cGAct y23.2 a27 c27) 50 :: var b22 (cGAct y17.2 a21 c21) 50 :: var b11 (cGFrame y29.1 a30 c30 a31 c31 a32 c32) 40 :: L)) ?_ (fun hk_y79 => ?_)
                          · rintro _ w H
                            refine WL.sg 1 (by kernel_rfl) ?_
                            obtain ⟨y80, hy80, hr⟩ := bnd_cases hr
                            refine WL.join 3 (fun (_ : Unit) => [(2, .pointer (some ⟨b11, 0, none⟩)), (7, .pointer (some ⟨b39, 0, none⟩)), (9, .pointer (some ⟨b44, 0, none⟩)), (10, .bool y40.2), (11, .pointer (some ⟨b50, 0, none⟩)), (13, .pointer (some ⟨b59, 0, none⟩)), (14, .pointer (some ⟨b61, 0, none⟩)), (15, .bool y60.2), (17, .bool y62.2), (19, .bool y64.2), (159, .bool y80)]) (fun (_ : Unit) w => St w0 h64 w (var b70 (cGFrame y64.1 a65 c65 a66 c66 a67 c67) 40 :: row rGValue 16 h64 a66 c66 y64.1.Locals :: row rGSlot 48 h64 a67 c67 y64.1.Slots :: var b63 [.int .i64 y62.1.Trap, .int .i64 y62.1.V.Re, .int .i64 y62.1.V.Im] 36 :: var b61 [.int .i64 y60.1.Trap, .int .i64 y60.1.V.Re, .int .i64 y60.1.V.Im] 36 :: var b59 (cGAct y53.2 a57 c57) 50 :: var b58 (cGFrame y53.1 a54 c54 a55 c55 a56 c56) 40 :: var b50 (cGAct y45.2 a49 c49) 50 :: var b44 (cGFrame y45.1 a46 c46 a47 c47 a48 c48) 40 :: var b39 (cGFrame y35.1 a36 c36 a37 c37 a38 c38) 40 :: var b34 (cGAct y29.2 a33 c33) 50 :: var b28 (cGAct y23.2 a27 c27) 50 :: var b22 (cGAct y17.2 a21 c21) 50 :: var b11 (cGFrame y29.1 a30 c30 a31 c31 a32 c32) 40 :: L)) ?_ (fun hk_y80 => ?_)
                            · rintro _ w H
                              refine WL.sg 1 (by kernel_rfl) ?_
                              obtain ⟨y81, hy81, hr⟩ := bind_cases hr
                              refine WL.join 4 (fun (_ : Unit) => [(2, .pointer (some ⟨b11, 0, none⟩)), (9, .pointer (some ⟨b44, 0, none⟩)), (10, .bool y40.2), (11, .pointer (some ⟨b50, 0, none⟩)), (13, .pointer (some ⟨b59, 0, none⟩)), (14, .pointer (some ⟨b61, 0, none⟩)), (15, .bool y60.2), (17, .bool y62.2), (19, .bool y64.2), (164, .bool y81)]) (fun (_ : Unit) w => St w0 h64 w (var b70 (cGFrame y64.1 a65 c65 a66 c66 a67 c67) 40 :: row rGValue 16 h64 a66 c66 y64.1.Locals :: row rGSlot 48 h64 a67 c67 y64.1.Slots :: var b63 [.int .i64 y62.1.Trap, .int .i64 y62.1.V.Re, .int .i64 y62.1.V.Im] 36 :: var b61 [.int .i64 y60.1.Trap, .int .i64 y60.1.V.Re, .int .i64 y60.1.V.Im] 36 :: var b59 (cGAct y53.2 a57 c57) 50 :: var b58 (cGFrame y53.1 a54 c54 a55 c55 a56 c56) 40 :: var b50 (cGAct y45.2 a49 c49) 50 :: var b44 (cGFrame y45.1 a46 c46 a47 c47 a48 c48) 40 :: var b39 (cGFrame y35.1 a36 c36 a37 c37 a38 c38) 40 :: var b34 (cGAct y29.2 a33 c33) 50 :: var b28 (cGAct y23.2 a27 c27) 50 :: var b22 (cGAct y17.2 a21 c21) 50 :: var b11 (cGFrame y29.1 a30 c30 a31 c31 a32 c32) 40 :: L)) ?_ (fun hk_y81 => ?_)
                              · rintro _ w H
                                refine WL.sg 1 (by kernel_rfl) ?_
                                obtain ⟨y83, hy83, hr⟩ := bnd_cases hr
                                refine WL.join 2 (fun (_ : Unit) => [(2, .pointer (some ⟨b11, 0, none⟩)), (9, .pointer (some ⟨b44, 0, none⟩)), (11, .pointer (some ⟨b50, 0, none⟩)), (13, .pointer (some ⟨b59, 0, none⟩)), (14, .pointer (some ⟨b61, 0, none⟩)), (15, .bool y60.2), (17, .bool y62.2), (19, .bool y64.2), (167, .bool y83)]) (fun (_ : Unit) w => St w0 h64 w (var b70 (cGFrame y64.1 a65 c65 a66 c66 a67 c67) 40 :: row rGValue 16 h64 a66 c66 y64.1.Locals :: row rGSlot 48 h64 a67 c67 y64.1.Slots :: var b63 [.int .i64 y62.1.Trap, .int .i64 y62.1.V.Re, .int .i64 y62.1.V.Im] 36 :: var b61 [.int .i64 y60.1.Trap, .int .i64 y60.1.V.Re, .int .i64 y60.1.V.Im] 36 :: var b59 (cGAct y53.2 a57 c57) 50 :: var b58 (cGFrame y53.1 a54 c54 a55 c55 a56 c56) 40 :: var b50 (cGAct y45.2 a49 c49) 50 :: var b44 (cGFrame y45.1 a46 c46 a47 c47 a48 c48) 40 :: var b39 (cGFrame y35.1 a36 c36 a37 c37 a38 c38) 40 :: var b34 (cGAct y29.2 a33 c33) 50 :: var b28 (cGAct y23.2 a27 c27) 50 :: var b22 (cGAct y17.2 a21 c21) 50 :: var b11 (cGFrame y29.1 a30 c30 a31 c31 a32 c32) 40 :: L)) ?_ (fun hk_y83 => ?_)
                                · rintro _ w H
                                  refine WL.sg 1 (by kernel_rfl) ?_
                                  obtain ⟨y84, hy84, hr⟩ := bnd_cases hr
                                  refine WL.join 4 (fun (_ : Unit) => [(2, .pointer (some ⟨b11, 0, none⟩)), (9, .pointer (some ⟨b44, 0, none⟩)), (13, .pointer (some ⟨b59, 0, none⟩)), (14, .pointer (some ⟨b61, 0, none⟩)), (15, .bool y60.2), (17, .bool y62.2), (19, .bool y64.2), (172, .bool y84)]) (fun (_ : Unit) w => St w0 h64 w (var b70 (cGFrame y64.1 a65 c65 a66 c66 a67 c67) 40 :: row rGValue 16 h64 a66 c66 y64.1.Locals :: row rGSlot 48 h64 a67 c67 y64.1.Slots :: var b63 [.int .i64 y62.1.Trap, .int .i64 y62.1.V.Re, .int .i64 y62.1.V.Im] 36 :: var b61 [.int .i64 y60.1.Trap, .int .i64 y60.1.V.Re, .int .i64 y60.1.V.Im] 36 :: var b59 (cGAct y53.2 a57 c57) 50 :: var b58 (cGFrame y53.1 a54 c54 a55 c55 a56 c56) 40 :: var b50 (cGAct y45.2 a49 c49) 50 :: var b44 (cGFrame y45.1 a46 c46 a47 c47 a48 c48) 40 :: var b39 (cGFrame y35.1 a36 c36 a37 c37 a38 c38) 40 :: var b34 (cGAct y29.2 a33 c33) 50 :: var b28 (cGAct y23.2 a27 c27) 50 :: var b22 (cGAct y17.2 a21 c21) 50 :: var b11 (cGFrame y29.1 a30 c30 a31 c31 a32 c32) 40 :: L)) ?_ (fun hk_y84 => ?_)
                                  · rintro _ w H
                                    refine WL.sg 1 (by kernel_rfl) ?_
                                    obtain ⟨y85, hy85, hr⟩ := bind_cases hr
                                    refine WL.join 7 (fun (_ : Unit) => [(2, .pointer (some ⟨b11, 0, none⟩)), (9, .pointer (some ⟨b44, 0, none⟩)), (13, .pointer (some ⟨b59, 0, none⟩)), (14, .pointer (some ⟨b61, 0, none⟩)), (15, .bool y60.2), (17, .bool y62.2), (19, .bool y64.2), (180, .bool y85)]) (fun (_ : Unit) w => St w0 h64 w (var b70 (cGFrame y64.1 a65 c65 a66 c66 a67 c67) 40 :: row rGValue 16 h64 a66 c66 y64.1.Locals :: row rGSlot 48 h64 a67 c67 y64.1.Slots :: var b63 [.int .i64 y62.1.Trap, .int .i64 y62.1.V.Re, .int .i64 y62.1.V.Im] 36 :: var b61 [.int .i64 y60.1.Trap, .int .i64 y60.1.V.Re, .int .i64 y60.1.V.Im] 36 :: var b59 (cGAct y53.2 a57 c57) 50 :: var b58 (cGFrame y53.1 a54 c54 a55 c55 a56 c56) 40 :: var b50 (cGAct y45.2 a49 c49) 50 :: var b44 (cGFrame y45.1 a46 c46 a47 c47 a48 c48) 40 :: var b39 (cGFrame y35.1 a36 c36 a37 c37 a38 c38) 40 :: var b34 (cGAct y29.2 a33 c33) 50 :: var b28 (cGAct y23.2 a27 c27) 50 :: var b22 (cGAct y17.2 a21 c21) 50 :: var b11 (cGFrame y29.1 a30 c30 a31 c31 a32 c32) 40 :: L)) ?_ (fun hk_y85 => ?_)
                                    · rintro _ w H
                                      refine WL.sg 1 (by kernel_rfl) ?_
                                      obtain ⟨y87, hy87, hr⟩ := bnd_cases hr
                                      refine WL.join 4 (fun (_ : Unit) => [(2, .pointer (some ⟨b11, 0, none⟩)), (9, .pointer (some ⟨b44, 0, none⟩)), (14, .pointer (some ⟨b61, 0, none⟩)), (15, .bool y60.2), (17, .bool y62.2), (19, .bool y64.2), (185, .bool y87)]) (fun (_ : Unit) w => St w0 h64 w (var b70 (cGFrame y64.1 a65 c65 a66 c66 a67 c67) 40 :: row rGValue 16 h64 a66 c66 y64.1.Locals :: row rGSlot 48 h64 a67 c67 y64.1.Slots :: var b63 [.int .i64 y62.1.Trap, .int .i64 y62.1.V.Re, .int .i64 y62.1.V.Im] 36 :: var b61 [.int .i64 y60.1.Trap, .int .i64 y60.1.V.Re, .int .i64 y60.1.V.Im] 36 :: var b59 (cGAct y53.2 a57 c57) 50 :: var b58 (cGFrame y53.1 a54 c54 a55 c55 a56 c56) 40 :: var b50 (cGAct y45.2 a49 c49) 50 :: var b44 (cGFrame y45.1 a46 c46 a47 c47 a48 c48) 40 :: var b39 (cGFrame y35.1 a36 c36 a37 c37 a38 c38) 40 :: var b34 (cGAct y29.2 a33 c33) 50 :: var b28 (cGAct y23.2 a27 c27) 50 :: var b22 (cGAct y17.2 a21 c21) 50 :: var b11 (cGFrame y29.1 a30 c30 a31 c31 a32 c32) 40 :: L)) ?_ (fun hk_y87 => ?_)
                                      · rintro _ w H
                                        refine WL.sg 1 (by kernel_rfl) ?_
                                        obtain ⟨y88, hy88, hr⟩ := bnd_cases hr
                                        refine WL.join 2 (fun (_ : Unit) => [(2, .pointer (some ⟨b11, 0, none⟩)), (9, .pointer (some ⟨b44, 0, none⟩)), (14, .pointer (some ⟨b61, 0, none⟩)), (17, .bool y62.2), (19, .bool y64.2), (188, .bool y88)]) (fun (_ : Unit) w => St w0 h64 w (var b70 (cGFrame y64.1 a65 c65 a66 c66 a67 c67) 40 :: row rGValue 16 h64 a66 c66 y64.1.Locals :: row rGSlot 48 h64 a67 c67 y64.1.Slots :: var b63 [.int .i64 y62.1.Trap, .int .i64 y62.1.V.Re, .int .i64 y62.1.V.Im] 36 :: var b61 [.int .i64 y60.1.Trap, .int .i64 y60.1.V.Re, .int .i64 y60.1.V.Im] 36 :: var b59 (cGAct y53.2 a57 c57) 50 :: var b58 (cGFrame y53.1 a54 c54 a55 c55 a56 c56) 40 :: var b50 (cGAct y45.2 a49 c49) 50 :: var b44 (cGFrame y45.1 a46 c46 a47 c47 a48 c48) 40 :: var b39 (cGFrame y35.1 a36 c36 a37 c37 a38 c38) 40 :: var b34 (cGAct y29.2 a33 c33) 50 :: var b28 (cGAct y23.2 a27 c27) 50 :: var b22 (cGAct y17.2 a21 c21) 50 :: var b11 (cGFrame y29.1 a30 c30 a31 c31 a32 c32) 40 :: L)) ?_ (fun hk_y88 => ?_)
                                        · rintro _ w H
                                          refine WL.sg 1 (by kernel_rfl) ?_
                                          obtain ⟨y89, hy89, hr⟩ := bnd_cases hr
                                          refine WL.join 4 (fun (_ : Unit) => [(2, .pointer (some ⟨b11, 0, none⟩)), (9, .pointer (some ⟨b44, 0, none⟩)), (17, .bool y62.2), (19, .bool y64.2), (193, .bool y89)]) (fun (_ : Unit) w => St w0 h64 w (var b70 (cGFrame y64.1 a65 c65 a66 c66 a67 c67) 40 :: row rGValue 16 h64 a66 c66 y64.1.Locals :: row rGSlot 48 h64 a67 c67 y64.1.Slots :: var b63 [.int .i64 y62.1.Trap, .int .i64 y62.1.V.Re, .int .i64 y62.1.V.Im] 36 :: var b61 [.int .i64 y60.1.Trap, .int .i64 y60.1.V.Re, .int .i64 y60.1.V.Im] 36 :: var b59 (cGAct y53.2 a57 c57) 50 :: var b58 (cGFrame y53.1 a54 c54 a55 c55 a56 c56) 40 :: var b50 (cGAct y45.2 a49 c49) 50 :: var b44 (cGFrame y45.1 a46 c46 a47 c47 a48 c48) 40 :: var b39 (cGFrame y35.1 a36 c36 a37 c37 a38 c38) 40 :: var b34 (cGAct y29.2 a33 c33) 50 :: var b28 (cGAct y23.2 a27 c27) 50 :: var b22 (cGAct y17.2 a21 c21) 50 :: var b11 (cGFrame y29.1 a30 c30 a31 c31 a32 c32) 40 :: L)) ?_ (fun hk_y89 => ?_)
                                          · rintro _ w H
                                            refine WL.sg 1 (by kernel_rfl) ?_
                                            obtain ⟨y90, hy90, hr⟩ := bnd_cases hr
                                            refine WL.join 3 (fun (_ : Unit) => [(2, .pointer (some ⟨b11, 0, none⟩)), (9, .pointer (some ⟨b44, 0, none⟩)), (19, .bool y64.2), (197, .bool y90)]) (fun (_ : Unit) w => St w0 h64 w (var b70 (cGFrame y64.1 a65 c65 a66 c66 a67 c67) 40 :: row rGValue 16 h64 a66 c66 y64.1.Locals :: row rGSlot 48 h64 a67 c67 y64.1.Slots :: var b63 [.int .i64 y62.1.Trap, .int .i64 y62.1.V.Re, .int .i64 y62.1.V.Im] 36 :: var b61 [.int .i64 y60.1.Trap, .int .i64 y60.1.V.Re, .int .i64 y60.1.V.Im] 36 :: var b59 (cGAct y53.2 a57 c57) 50 :: var b58 (cGFrame y53.1 a54 c54 a55 c55 a56 c56) 40 :: var b50 (cGAct y45.2 a49 c49) 50 :: var b44 (cGFrame y45.1 a46 c46 a47 c47 a48 c48) 40 :: var b39 (cGFrame y35.1 a36 c36 a37 c37 a38 c38) 40 :: var b34 (cGAct y29.2 a33 c33) 50 :: var b28 (cGAct y23.2 a27 c27) 50 :: var b22 (cGAct y17.2 a21 c21) 50 :: var b11 (cGFrame y29.1 a30 c30 a31 c31 a32 c32) 40 :: L)) ?_ (fun hk_y90 => ?_)
                                            · rintro _ w H
                                              refine WL.sg 1 (by kernel_rfl) ?_
                                              obtain ⟨y91, hy91, hr⟩ := bnd_cases hr
                                              refine WL.join 3 (fun (_ : Unit) => [(2, .pointer (some ⟨b11, 0, none⟩)), (9, .pointer (some ⟨b44, 0, none⟩)), (201, .bool y91)]) (fun (_ : Unit) w => St w0 h64 w (var b70 (cGFrame y64.1 a65 c65 a66 c66 a67 c67) 40 :: row rGValue 16 h64 a66 c66 y64.1.Locals :: row rGSlot 48 h64 a67 c67 y64.1.Slots :: var b63 [.int .i64 y62.1.Trap, .int .i64 y62.1.V.Re, .int .i64 y62.1.V.Im] 36 :: var b61 [.int .i64 y60.1.Trap, .int .i64 y60.1.V.Re, .int .i64 y60.1.V.Im] 36 :: var b59 (cGAct y53.2 a57 c57) 50 :: var b58 (cGFrame y53.1 a54 c54 a55 c55 a56 c56) 40 :: var b50 (cGAct y45.2 a49 c49) 50 :: var b44 (cGFrame y45.1 a46 c46 a47 c47 a48 c48) 40 :: var b39 (cGFrame y35.1 a36 c36 a37 c37 a38 c38) 40 :: var b34 (cGAct y29.2 a33 c33) 50 :: var b28 (cGAct y23.2 a27 c27) 50 :: var b22 (cGAct y17.2 a21 c21) 50 :: var b11 (cGFrame y29.1 a30 c30 a31 c31 a32 c32) 40 :: L)) ?_ (fun hk_y91 => ?_)
                                              · rintro _ w H
                                                refine WL.sg 1 (by kernel_rfl) ?_
                                                obtain ⟨y92, hy92, hr⟩ := bind_cases hr
                                                refine WL.join 5 (fun (_ : Unit) => [(207, .bool y92)]) (fun (_ : Unit) w => St w0 h64 w (var b70 (cGFrame y64.1 a65 c65 a66 c66 a67 c67) 40 :: row rGValue 16 h64 a66 c66 y64.1.Locals :: row rGSlot 48 h64 a67 c67 y64.1.Slots :: var b63 [.int .i64 y62.1.Trap, .int .i64 y62.1.V.Re, .int .i64 y62.1.V.Im] 36 :: var b61 [.int .i64 y60.1.Trap, .int .i64 y60.1.V.Re, .int .i64 y60.1.V.Im] 36 :: var b59 (cGAct y53.2 a57 c57) 50 :: var b58 (cGFrame y53.1 a54 c54 a55 c55 a56 c56) 40 :: var b50 (cGAct y45.2 a49 c49) 50 :: var b44 (cGFrame y45.1 a46 c46 a47 c47 a48 c48) 40 :: var b39 (cGFrame y35.1 a36 c36 a37 c37 a38 c38) 40 :: var b34 (cGAct y29.2 a33 c33) 50 :: var b28 (cGAct y23.2 a27 c27) 50 :: var b22 (cGAct y17.2 a21 c21) 50 :: var b11 (cGFrame y29.1 a30 c30 a31 c31 a32 c32) 40 :: L)) ?_ (fun hk_y92 => ?_)
                                                · rintro _ w H
                                                  refine WL.fin 1 (by kernel_rfl) (by kernel_rfl) ?_
                                                  obtain rfl := Option.some.inj hr
                                                  exact WE.ret ⟨[.bool y92], ⟨⟨(by kernel_rfl), (by kernel_rfl)⟩, trivial⟩, ⟨rfl, ((H.keep 14).less ((((((((((((le1.trans le4).trans le5).trans le15).trans le16).trans le17).trans le23).trans le29).trans le35).trans le40).trans le45).trans le53).trans le64))⟩⟩
                                                rcases ite_cases hy92 with ⟨ty92, hy92⟩ | ⟨ty92, hy92⟩
                                                · refine WL.known 202 ty92 (by kernel_rfl) (by kernel_rfl) ?_
                                                  refine WL.does (by kernel_rfl) (by kernel_rfl) (Does.loadV H 13 rfl 0 (by kernel_rfl) (by kernel_rfl) ?_)
                                                  refine WL.does (by kernel_rfl) (by kernel_rfl) (Does.loadV H 8 rfl 0 (by kernel_rfl) (by kernel_rfl) ?_)
                                                  obtain ⟨y94, q94, hy92⟩ := bind_cases hy92
                                                  refine WL.does (by kernel_rfl) (by kernel_rfl) (Does.call (c_frame_Same K y29.1 (((((f30.up le35).up le40).up le45).up le53).up le64) (((((f31.up le35).up le40).up le45).up le53).up le64) (((((f32.up le35).up le40).up le45).up le53).up le64) y45.1 ((f46.up le53).up le64) ((f47.up le53).up le64) ((f48.up le53).up le64) H q94) (by kernel_rfl) ?_)
                                                  rintro _ w ⟨rfl, H⟩
                                                  refine WL.sg 2 (by kernel_rfl) ?_
                                                  obtain rfl := Option.some.inj hy92
                                                  exact WL.live [207] (by kernel_rfl) (hk_y92 () _ H)
                                                · refine WL.known 202 ty92 (by kernel_rfl) (by kernel_rfl) ?_
                                                  refine WL.sg 5 (by kernel_rfl) ?_
                                                  obtain rfl := Option.some.inj hy92
                                                  exact WL.live [207] (by kernel_rfl) (hk_y92 () _ H)
                                              rcases ite_cases hy91 with ⟨ty91, hy91⟩ | ⟨ty91, hy91⟩
                                              · refine WL.known 198 ty91 (by kernel_rfl) (by kernel_rfl) ?_
                                                refine WL.sg 3 (by kernel_rfl) ?_
                                                obtain rfl := hy91
                                                exact WL.live [2, 9, 201] (by kernel_rfl) (hk_y91 () _ H)
                                              · refine WL.known 198 ty91 (by kernel_rfl) (by kernel_rfl) ?_
                                                refine WL.sg 3 (by kernel_rfl) ?_
                                                obtain rfl := hy91
                                                exact WL.live [2, 9, 201] (by kernel_rfl) (hk_y91 () _ H)
                                            rcases ite_cases hy90 with ⟨ty90, hy90⟩ | ⟨ty90, hy90⟩
                                            · refine WL.known 194 ty90 (by kernel_rfl) (by kernel_rfl) ?_
                                              refine WL.sg 3 (by kernel_rfl) ?_
                                              obtain rfl := hy90
                                              exact WL.live [2, 9, 19, 197] (by kernel_rfl) (hk_y90 () _ H)
                                            · refine WL.known 194 ty90 (by kernel_rfl) (by kernel_rfl) ?_
                                              refine WL.sg 3 (by kernel_rfl) ?_
                                              obtain rfl := hy90
                                              exact WL.live [2, 9, 19, 197] (by kernel_rfl) (hk_y90 () _ H)
                                          rcases ite_cases hy89 with ⟨ty89, hy89⟩ | ⟨ty89, hy89⟩
                                          · refine WL.known 189 ty89 (by kernel_rfl) (by kernel_rfl) ?_
                                            refine WL.sg 1 (by kernel_rfl) ?_
                                            refine WL.does (by kernel_rfl) (by kernel_rfl) (Does.loadV H 4 rfl 0 (by kernel_rfl) (by kernel_rfl) ?_)
                                            refine WL.sg 2 (by kernel_rfl) ?_
                                            obtain rfl := hy89
                                            exact WL.live [2, 9, 17, 19, 193] (by kernel_rfl) (hk_y89 () _ H)
                                          · refine WL.known 189 ty89 (by kernel_rfl) (by kernel_rfl) ?_
                                            refine WL.sg 4 (by kernel_rfl) ?_
                                            obtain rfl := hy89
                                            exact WL.live [2, 9, 17, 19, 193] (by kernel_rfl) (hk_y89 () _ H)
                                        rcases ite_cases hy88 with ⟨ty88, hy88⟩ | ⟨ty88, hy88⟩
                                        · refine WL.known 186 ty88 (by kernel_rfl) (by kernel_rfl) ?_
                                          refine WL.sg 2 (by kernel_rfl) ?_
                                          obtain rfl := hy88
                                          exact WL.live [2, 9, 14, 17, 19, 188] (by kernel_rfl) (hk_y88 () _ H)
                                        · refine WL.known 186 ty88 (by kernel_rfl) (by kernel_rfl) ?_
                                          refine WL.sg 2 (by kernel_rfl) ?_
                                          obtain rfl := hy88
                                          exact WL.live [2, 9, 14, 17, 19, 188] (by kernel_rfl) (hk_y88 () _ H)
                                      rcases ite_cases hy87 with ⟨ty87, hy87⟩ | ⟨ty87, hy87⟩
                                      · refine WL.known 181 ty87 (by kernel_rfl) (by kernel_rfl) ?_
                                        refine WL.sg 1 (by kernel_rfl) ?_
                                        refine WL.does (by kernel_rfl) (by kernel_rfl) (Does.loadV H 5 rfl 0 (by kernel_rfl) (by kernel_rfl) ?_)
                                        refine WL.sg 2 (by kernel_rfl) ?_
                                        obtain rfl := hy87
                                        exact WL.live [2, 9, 14, 15, 17, 19, 185] (by kernel_rfl) (hk_y87 () _ H)
                                      · refine WL.known 181 ty87 (by kernel_rfl) (by kernel_rfl) ?_
                                        refine WL.sg 4 (by kernel_rfl) ?_
                                        obtain rfl := hy87
                                        exact WL.live [2, 9, 14, 15, 17, 19, 185] (by kernel_rfl) (hk_y87 () _ H)
                                    rcases ite_cases hy85 with ⟨ty85, hy85⟩ | ⟨ty85, hy85⟩
                                    · refine WL.known 173 ty85 (by kernel_rfl) (by kernel_rfl) ?_
                                      refine WL.sg 1 (by kernel_rfl) ?_
                                      refine WL.does (by kernel_rfl) (by kernel_rfl) (Does.loadV H 8 rfl 2 (by kernel_rfl) (by kernel_rfl) ?_)
                                      obtain ⟨⟨g0_95, g1_95⟩, hy85⟩ := grd_cases hy85
                                      obtain ⟨b95, p95, C95, e95, fr95, cs95, rfl, hb95, hc95, rfl⟩ := ((f46.up le53).up le64).at g0_95 g1_95
                                      refine WL.does (by kernel_rfl) (by kernel_rfl) (Does.tells (.idx b95 (p95) y45.1.Stack.length c46 (0 : Int) 2 (by kernel_rfl) (by kernel_rfl) g0_95 g1_95 (by kernel_rfl)) ?_)
                                      refine WL.does (by kernel_rfl) (by kernel_rfl) (Does.loadR H hb95 hc95 0 (by kernel_rfl) (by kernel_rfl) ?_)
                                      refine WL.sg 1 (by kernel_rfl) ?_
                                      refine WL.does (by kernel_rfl) (by kernel_rfl) (Does.tells (.eql ((((gd y45.1.Stack (0 : Int)).Re) == 0) && ((((gd y45.1.Stack (0 : Int)).Im) == 7) && true)) (by kernel_rfl) (by kernel_rfl) (by kernel_rfl)) ?_)
                                      refine WL.sg 1 (by kernel_rfl) ?_
                                      obtain rfl := Option.some.inj hy85
                                      exact WL.live [2, 9, 13, 14, 15, 17, 19, 180] (by kernel_rfl) (hk_y85 () _ H)
                                    · refine WL.known 173 ty85 (by kernel_rfl) (by kernel_rfl) ?_
                                      refine WL.sg 7 (by kernel_rfl) ?_
                                      obtain rfl := Option.some.inj hy85
                                      exact WL.live [2, 9, 13, 14, 15, 17, 19, 180] (by kernel_rfl) (hk_y85 () _ H)
                                  rcases ite_cases hy84 with ⟨ty84, hy84⟩ | ⟨ty84, hy84⟩
                                  · refine WL.known 168 ty84 (by kernel_rfl) (by kernel_rfl) ?_
                                    refine WL.sg 1 (by kernel_rfl) ?_
                                    refine WL.does (by kernel_rfl) (by kernel_rfl) (Does.loadV H 7 rfl 0 (by kernel_rfl) (by kernel_rfl) ?_)
                                    refine WL.sg 2 (by kernel_rfl) ?_
                                    obtain rfl := hy84
                                    exact WL.live [2, 9, 13, 14, 15, 17, 19, 172] (by kernel_rfl) (hk_y84 () _ H)
                                  · refine WL.known 168 ty84 (by kernel_rfl) (by kernel_rfl) ?_
                                    refine WL.sg 4 (by kernel_rfl) ?_
                                    obtain rfl := hy84
                                    exact WL.live [2, 9, 13, 14, 15, 17, 19, 172] (by kernel_rfl) (hk_y84 () _ H)
                                rcases ite_cases hy83 with ⟨ty83, hy83⟩ | ⟨ty83, hy83⟩
                                · refine WL.known 165 ty83 (by kernel_rfl) (by kernel_rfl) ?_
                                  refine WL.sg 2 (by kernel_rfl) ?_
                                  obtain rfl := hy83
                                  exact WL.live [2, 9, 11, 13, 14, 15, 17, 19, 167] (by kernel_rfl) (hk_y83 () _ H)
                                · refine WL.known 165 ty83 (by kernel_rfl) (by kernel_rfl) ?_
                                  refine WL.sg 2 (by kernel_rfl) ?_
                                  obtain rfl := hy83
                                  exact WL.live [2, 9, 11, 13, 14, 15, 17, 19, 167] (by kernel_rfl) (hk_y83 () _ H)
                              rcases ite_cases hy81 with ⟨ty81, hy81⟩ | ⟨ty81, hy81⟩
                              · refine WL.known 160 ty81 (by kernel_rfl) (by kernel_rfl) ?_
                                refine WL.does (by kernel_rfl) (by kernel_rfl) (Does.loadV H 13 rfl 0 (by kernel_rfl) (by kernel_rfl) ?_)
                                refine WL.does (by kernel_rfl) (by kernel_rfl) (Does.loadV H 9 rfl 0 (by kernel_rfl) (by kernel_rfl) ?_)
                                obtain ⟨y96, q96, hy81⟩ := bind_cases hy81
                                refine WL.does (by kernel_rfl) (by kernel_rfl) (Does.call (c_frame_Same K y29.1 (((((f30.up le35).up le40).up le45).up le53).up le64) (((((f31.up le35).up le40).up le45).up le53).up le64) (((((f32.up le35).up le40).up le45).up le53).up le64) y35.1 ((((f36.up le40).up le45).up le53).up le64) ((((f37.up le40).up le45).up le53).up le64) ((((f38.up le40).up le45).up le53).up le64) H q96) (by kernel_rfl) ?_)
                                rintro _ w ⟨rfl, H⟩
                                refine WL.sg 1 (by kernel_rfl) ?_
                                obtain rfl := Option.some.inj hy81
                                exact WL.live [2, 9, 10, 11, 13, 14, 15, 17, 19, 164] (by kernel_rfl) (hk_y81 () _ H)
                              · refine WL.known 160 ty81 (by kernel_rfl) (by kernel_rfl) ?_
                                refine WL.sg 4 (by kernel_rfl) ?_
                                obtain rfl := Option.some.inj hy81
                                exact WL.live [2, 9, 10, 11, 13, 14, 15, 17, 19, 164] (by kernel_rfl) (hk_y81 () _ H)
                            rcases ite_cases hy80 with ⟨ty80, hy80⟩ | ⟨ty80, hy80⟩
                            · refine WL.known 156 ty80 (by kernel_rfl) (by kernel_rfl) ?_
                              refine WL.sg 3 (by kernel_rfl) ?_
                              obtain rfl := hy80
                              exact WL.live [2, 7, 9, 10, 11, 13, 14, 15, 17, 19, 159] (by kernel_rfl) (hk_y80 () _ H)
                            · refine WL.known 156 ty80 (by kernel_rfl) (by kernel_rfl) ?_
                              refine WL.sg 3 (by kernel_rfl) ?_
                              obtain rfl := hy80
                              exact WL.live [2, 7, 9, 10, 11, 13, 14, 15, 17, 19, 159] (by kernel_rfl) (hk_y80 () _ H)
                          rcases ite_cases hy79 with ⟨ty79, hy79⟩ | ⟨ty79, hy79⟩
                          · refine WL.known 151 ty79 (by kernel_rfl) (by kernel_rfl) ?_
                            refine WL.sg 1 (by kernel_rfl) ?_
                            refine WL.does (by kernel_rfl) (by kernel_rfl) (Does.loadV H 13 rfl 9 (by kernel_rfl) (by kernel_rfl) ?_)
                            refine WL.sg 2 (by kernel_rfl) ?_
                            obtain rfl := hy79
                            exact WL.live [2, 7, 8, 9, 10, 11, 13, 14, 15, 17, 19, 155] (by kernel_rfl) (hk_y79 () _ H)
                          · refine WL.known 151 ty79 (by kernel_rfl) (by kernel_rfl) ?_
                            refine WL.sg 4 (by kernel_rfl) ?_
                            obtain rfl := hy79
                            exact WL.live [2, 7, 8, 9, 10, 11, 13, 14, 15, 17, 19, 155] (by kernel_rfl) (hk_y79 () _ H)
                        rcases ite_cases hy78 with ⟨ty78, hy78⟩ | ⟨ty78, hy78⟩
                        · refine WL.known 146 ty78 (by kernel_rfl) (by kernel_rfl) ?_
                          refine WL.sg 1 (by kernel_rfl) ?_
                          refine WL.does (by kernel_rfl) (by kernel_rfl) (Does.loadV H 13 rfl 8 (by kernel_rfl) (by kernel_rfl) ?_)
                          refine WL.sg 2 (by kernel_rfl) ?_
                          obtain rfl := hy78
                          exact WL.live [2, 7, 8, 9, 10, 11, 13, 14, 15, 17, 19, 150] (by kernel_rfl) (hk_y78 () _ H)
                        · refine WL.known 146 ty78 (by kernel_rfl) (by kernel_rfl) ?_
                          refine WL.sg 4 (by kernel_rfl) ?_
                          obtain rfl := hy78
                          exact WL.live [2, 7, 8, 9, 10, 11, 13, 14, 15, 17, 19, 150] (by kernel_rfl) (hk_y78 () _ H)
                      rcases ite_cases hy77 with ⟨ty77, hy77⟩ | ⟨ty77, hy77⟩
                      · refine WL.known 141 ty77 (by kernel_rfl) (by kernel_rfl) ?_
                        refine WL.sg 1 (by kernel_rfl) ?_
                        refine WL.does (by kernel_rfl) (by kernel_rfl) (Does.loadV H 10 rfl 0 (by kernel_rfl) (by kernel_rfl) ?_)
                        refine WL.sg 2 (by kernel_rfl) ?_
                        obtain rfl := hy77
                        exact WL.live [2, 7, 8, 9, 10, 11, 13, 14, 15, 17, 19, 145] (by kernel_rfl) (hk_y77 () _ H)
                      · refine WL.known 141 ty77 (by kernel_rfl) (by kernel_rfl) ?_
                        refine WL.sg 4 (by kernel_rfl) ?_
                        obtain rfl := hy77
                        exact WL.live [2, 7, 8, 9, 10, 11, 13, 14, 15, 17, 19, 145] (by kernel_rfl) (hk_y77 () _ H)
                    rcases ite_cases hy76 with ⟨ty76, hy76⟩ | ⟨ty76, hy76⟩
                    · refine WL.known 136 ty76 (by kernel_rfl) (by kernel_rfl) ?_
                      refine WL.sg 1 (by kernel_rfl) ?_
                      refine WL.does (by kernel_rfl) (by kernel_rfl) (Does.loadV H 13 rfl 6 (by kernel_rfl) (by kernel_rfl) ?_)
                      refine WL.sg 2 (by kernel_rfl) ?_
                      obtain rfl := hy76
                      exact WL.live [2, 6, 7, 8, 9, 10, 11, 13, 14, 15, 17, 19, 140] (by kernel_rfl) (hk_y76 () _ H)
                    · refine WL.known 136 ty76 (by kernel_rfl) (by kernel_rfl) ?_
                      refine WL.sg 4 (by kernel_rfl) ?_
                      obtain rfl := hy76
                      exact WL.live [2, 6, 7, 8, 9, 10, 11, 13, 14, 15, 17, 19, 140] (by kernel_rfl) (hk_y76 () _ H)
                  rcases ite_cases hy74 with ⟨ty74, hy74⟩ | ⟨ty74, hy74⟩
                  · refine WL.known 128 ty74 (by kernel_rfl) (by kernel_rfl) ?_
                    refine WL.sg 1 (by kernel_rfl) ?_
                    refine WL.does (by kernel_rfl) (by kernel_rfl) (Does.loadV H 11 rfl 4 (by kernel_rfl) (by kernel_rfl) ?_)
                    obtain ⟨⟨g0_97, g1_97⟩, hy74⟩ := grd_cases hy74
                    obtain ⟨b97, p97, C97, e97, fr97, cs97, rfl, hb97, hc97, rfl⟩ := ((((((f27.up le29).up le35).up le40).up le45).up le53).up le64).at g0_97 g1_97
                    refine WL.does (by kernel_rfl) (by kernel_rfl) (Does.tells (.idx b97 (p97) y23.2.Args.length c27 (0 : Int) 2 (by kernel_rfl) (by kernel_rfl) g0_97 g1_97 (by kernel_rfl)) ?_)
                    refine WL.does (by kernel_rfl) (by kernel_rfl) (Does.loadR H hb97 hc97 0 (by kernel_rfl) (by kernel_rfl) ?_)
                    refine WL.sg 1 (by kernel_rfl) ?_
                    refine WL.does (by kernel_rfl) (by kernel_rfl) (Does.tells (.eql ((((gd y23.2.Args (0 : Int)).Re) == 5) && ((((gd y23.2.Args (0 : Int)).Im) == 0) && true)) (by kernel_rfl) (by kernel_rfl) (by kernel_rfl)) ?_)
                    refine WL.sg 1 (by kernel_rfl) ?_
                    obtain rfl := Option.some.inj hy74
                    exact WL.live [2, 6, 7, 8, 9, 10, 11, 13, 14, 15, 17, 19, 135] (by kernel_rfl) (hk_y74 () _ H)
                  · refine WL.known 128 ty74 (by kernel_rfl) (by kernel_rfl) ?_
                    refine WL.sg 7 (by kernel_rfl) ?_
                    obtain rfl := Option.some.inj hy74
                    exact WL.live [2, 6, 7, 8, 9, 10, 11, 13, 14, 15, 17, 19, 135] (by kernel_rfl) (hk_y74 () _ H)
                rcases ite_cases hy73 with ⟨ty73, hy73⟩ | ⟨ty73, hy73⟩
                · refine WL.known 123 ty73 (by kernel_rfl) (by kernel_rfl) ?_
                  refine WL.sg 1 (by kernel_rfl) ?_
                  refine WL.does (by kernel_rfl) (by kernel_rfl) (Does.loadV H 11 rfl 2 (by kernel_rfl) (by kernel_rfl) ?_)
                  refine WL.sg 2 (by kernel_rfl) ?_
                  obtain rfl := hy73
                  exact WL.live [2, 5, 6, 7, 8, 9, 10, 11, 13, 14, 15, 17, 19, 127] (by kernel_rfl) (hk_y73 () _ H)
                · refine WL.known 123 ty73 (by kernel_rfl) (by kernel_rfl) ?_
                  refine WL.sg 4 (by kernel_rfl) ?_
                  obtain rfl := hy73
                  exact WL.live [2, 5, 6, 7, 8, 9, 10, 11, 13, 14, 15, 17, 19, 127] (by kernel_rfl) (hk_y73 () _ H)
              rcases ite_cases hy72 with ⟨ty72, hy72⟩ | ⟨ty72, hy72⟩
              · refine WL.known 118 ty72 (by kernel_rfl) (by kernel_rfl) ?_
                refine WL.sg 1 (by kernel_rfl) ?_
                refine WL.does (by kernel_rfl) (by kernel_rfl) (Does.loadV H 11 rfl 1 (by kernel_rfl) (by kernel_rfl) ?_)
                refine WL.sg 2 (by kernel_rfl) ?_
                obtain rfl := hy72
                exact WL.live [2, 5, 6, 7, 8, 9, 10, 11, 13, 14, 15, 17, 19, 122] (by kernel_rfl) (hk_y72 () _ H)
              · refine WL.known 118 ty72 (by kernel_rfl) (by kernel_rfl) ?_
                refine WL.sg 4 (by kernel_rfl) ?_
                obtain rfl := hy72
                exact WL.live [2, 5, 6, 7, 8, 9, 10, 11, 13, 14, 15, 17, 19, 122] (by kernel_rfl) (hk_y72 () _ H)
            rcases ite_cases hy71 with ⟨ty71, hy71⟩ | ⟨ty71, hy71⟩
            · refine WL.known 113 ty71 (by kernel_rfl) (by kernel_rfl) ?_
              refine WL.sg 1 (by kernel_rfl) ?_
              refine WL.does (by kernel_rfl) (by kernel_rfl) (Does.loadV H 11 rfl 0 (by kernel_rfl) (by kernel_rfl) ?_)
              refine WL.sg 2 (by kernel_rfl) ?_
              obtain rfl := hy71
              exact WL.live [2, 5, 6, 7, 8, 9, 10, 11, 13, 14, 15, 17, 19, 117] (by kernel_rfl) (hk_y71 () _ H)
            · refine WL.known 113 ty71 (by kernel_rfl) (by kernel_rfl) ?_
              refine WL.sg 4 (by kernel_rfl) ?_
              obtain rfl := hy71
              exact WL.live [2, 5, 6, 7, 8, 9, 10, 11, 13, 14, 15, 17, 19, 117] (by kernel_rfl) (hk_y71 () _ H)
        rcases ite_cases hy51 with ⟨ty51, hy51⟩ | ⟨ty51, hy51⟩
        · refine WL.known 83 ty51 (by kernel_rfl) (by kernel_rfl) ?_
          refine WL.sg 5 (by kernel_rfl) ?_
          obtain rfl := hy51
          exact WL.live [1, 2, 4, 5, 6, 7, 8, 9, 10, 11, 88] (by kernel_rfl) (hk_y51 () _ H)
        · refine WL.known 83 ty51 (by kernel_rfl) (by kernel_rfl) ?_
          refine WL.sg 1 (by kernel_rfl) ?_
          refine WL.does (by kernel_rfl) (by kernel_rfl) (Does.loadV H 4 rfl 4 (by kernel_rfl) (by kernel_rfl) ?_)
          refine WL.sg 3 (by kernel_rfl) ?_
          obtain rfl := hy51
          exact WL.live [1, 2, 4, 5, 6, 7, 8, 9, 10, 11, 88] (by kernel_rfl) (hk_y51 () _ H)
    rcases ite_cases hy13 with ⟨ty13, hy13⟩ | ⟨ty13, hy13⟩
    · refine WL.known 36 ty13 (by kernel_rfl) (by kernel_rfl) ?_
      refine WL.sg 5 (by kernel_rfl) ?_
      obtain rfl := hy13
      exact WL.live [1, 2, 41] (by kernel_rfl) (hk_y13 () _ H)
    · refine WL.known 36 ty13 (by kernel_rfl) (by kernel_rfl) ?_
      refine WL.sg 1 (by kernel_rfl) ?_
      refine WL.does (by kernel_rfl) (by kernel_rfl) (Does.loadV H 0 rfl 4 (by kernel_rfl) (by kernel_rfl) ?_)
      refine WL.sg 3 (by kernel_rfl) ?_
      obtain rfl := hy13
      exact WL.live [1, 2, 41] (by kernel_rfl) (hk_y13 () _ H)
  rcases ite_cases hy12 with ⟨ty12, hy12⟩ | ⟨ty12, hy12⟩
  · refine WL.known 30 ty12 (by kernel_rfl) (by kernel_rfl) ?_
    refine WL.sg 5 (by kernel_rfl) ?_
    obtain rfl := hy12
    exact WL.live [1, 2, 35] (by kernel_rfl) (hk_y12 () _ H)
  · refine WL.known 30 ty12 (by kernel_rfl) (by kernel_rfl) ?_
    refine WL.sg 1 (by kernel_rfl) ?_
    refine WL.does (by kernel_rfl) (by kernel_rfl) (Does.loadV H 0 rfl 3 (by kernel_rfl) (by kernel_rfl) ?_)
    refine WL.sg 3 (by kernel_rfl) ?_
    obtain rfl := hy12
    exact WL.live [1, 2, 35] (by kernel_rfl) (hk_y12 () _ H)
def r07_Small_l1 (K : Nat) (x0 : List GFunc) (x1 : Int) : Nat → (Int × Int) → Option Bool
  | 0, _ => none
  | k1 + 1, (y12, y13) =>
    bnd (
        if decide (y13 < (x0.length : Int)) then
          decide ((x0.length : Int) ≤ 20)
        else
          false) fun y14 =>
    if y14 then
      if 0 ≤ y13 ∧ y13 < x0.length then
        r07_Small_l1 K x0 x1 k1 (w64 (y12 + (((gd x0 y13).Code).length : Int)), w64 (y13 + 1))
      else none
    else
      bnd (
          if decide ((x0.length : Int) ≤ 20) then
            decide (y12 ≤ x1)
          else
            false) fun y18 =>
      some y18
def r07_Small (K : Nat) (x0 : List GFunc) (x1 : Int) : Option Bool :=
  r07_Small_l1 K x0 x1 K (0, 0)
set_option maxRecDepth 100000 in
theorem c_r07_Small {w0 w : World} {h : Gh} {L : List Ent} (K : Nat) (x0 : List GFunc) {a1 : Option Addr} {c1 : Nat} (f1 : Sl rGFunc 48 h a1 c1 x0) (x1 : Int) (H : St w0 h w L) {r : Bool} (hr : r07_Small K x0 x1 = some r) : Calls Try.prog 6 #[.slice a1 x0.length c1, .int .i64 x1] w (fun e w' => ∃ v, e = .returned v ∧ v = .bool r ∧ St w0 h w' (L)) := by
  refine calls_of (args := [.slice a1 x0.length c1, .int .i64 x1]) (n := 34) (rs := [.tmp 4]) Try.func6 rfl rfl rfl rfl rfl ?_
  unfold r07_Small at hr
  refine WE.seq ?_
  refine WE.region ?_
  refine WL.fin 1 (by kernel_rfl) (by kernel_rfl) ?_
  refine WE.seq ?_
  refine WE.region ?_
  refine WL.fin 1 (by kernel_rfl) (by kernel_rfl) ?_
  refine WE.seq ?_
  refine WE.seq ?_
  refine WE.region ?_
  refine WL.fin 1 (by kernel_rfl) (by kernel_rfl) ?_
  refine WE.block ?_
  refine WE.loop (LP.live [0, 1, 5, 6] (by kernel_rfl) (LP.rec (r07_Small_l1 K x0 x1) (fun (⟨y12, y13⟩ : Int × Int) (_ : Unit) => [(0, .slice a1 x0.length c1), (1, .int .i64 x1), (5, .int .i64 y12), (6, .int .i64 y13)]) (fun (⟨y12, y13⟩ : Int × Int) (_ : Unit) => fun w => St w0 h w (L)) r (fun _ => rfl) ?_ K (0, 0) () _ H hr))
  rintro k1 ih1 ⟨y12, y13⟩ _ w H hr
  simp only [r07_Small_l1] at hr
  refine WE.seq ?_
  refine WE.seq ?_
  refine WE.region ?_
  refine WL.sg 5 (by kernel_rfl) ?_
  obtain ⟨y14, hy14, hr⟩ := bnd_cases hr
  refine WL.join 4 (fun (_ : Unit) => [(0, .slice a1 x0.length c1), (1, .int .i64 x1), (5, .int .i64 y12), (6, .int .i64 y13), (15, .bool y14)]) (fun (_ : Unit) w => St w0 h w (L)) ?_ (fun hk_y14 => ?_)
  · rintro _ w H
    refine WL.fin 0 (by kernel_rfl) (by kernel_rfl) ?_
    rcases ite_cases hr with ⟨t15, hr⟩ | ⟨t15, hr⟩
    · refine WE.yes (by kernel_rfl) (b := y14) (by kernel_rfl) t15 ?_
      refine WE.skip ?_
      refine WE.seq ?_
      refine WE.block ?_
      refine WE.region ?_
      obtain ⟨⟨g0_16, g1_16⟩, hr⟩ := grd_cases hr
      obtain ⟨b16, p16, C16, e16, fr16, cs16, rfl, hb16, hc16, ⟨a17, c17, rfl, f17⟩⟩ := f1.at g0_16 g1_16
      refine WL.sg 3 (by kernel_rfl) ?_
      refine WL.does (by kernel_rfl) (by kernel_rfl) (Does.tells (.idx b16 (p16) x0.length c1 y13 4 (by kernel_rfl) (by kernel_rfl) g0_16 g1_16 (by kernel_rfl)) ?_)
      refine WL.sg 1 (by kernel_rfl) ?_
      refine WL.does (by kernel_rfl) (by kernel_rfl) (Does.loadR H hb16 hc16 3 (by kernel_rfl) (by kernel_rfl) ?_)
      refine WL.fin 3 (by kernel_rfl) (by kernel_rfl) ?_
      refine WE.region ?_
      refine WL.fin 3 (by kernel_rfl) (by kernel_rfl) ?_
      exact LP.live [0, 1, 5, 6] (by kernel_rfl) (ih1 (w64 (y12 + (((gd x0 y13).Code).length : Int)), w64 (y13 + 1)) () _ H hr)
    · refine WE.no (by kernel_rfl) (b := y14) (by kernel_rfl) t15 ?_
      refine WE.exit ?_
      refine WE.seq ?_
      refine WE.region ?_
      refine WL.sg 4 (by kernel_rfl) ?_
      obtain ⟨y18, hy18, hr⟩ := bnd_cases hr
      refine WL.join 4 (fun (_ : Unit) => [(33, .bool y18)]) (fun (_ : Unit) w => St w0 h w (L)) ?_ (fun hk_y18 => ?_)
      · rintro _ w H
        refine WL.fin 1 (by kernel_rfl) (by kernel_rfl) ?_
        obtain rfl := Option.some.inj hr
        exact WE.ret ⟨[.bool y18], ⟨⟨(by kernel_rfl), (by kernel_rfl)⟩, trivial⟩, ⟨rfl, H⟩⟩
      rcases ite_cases hy18 with ⟨ty18, hy18⟩ | ⟨ty18, hy18⟩
      · refine WL.known 29 ty18 (by kernel_rfl) (by kernel_rfl) ?_
        refine WL.sg 4 (by kernel_rfl) ?_
        obtain rfl := hy18
        exact WL.live [33] (by kernel_rfl) (hk_y18 () _ H)
      · refine WL.known 29 ty18 (by kernel_rfl) (by kernel_rfl) ?_
        refine WL.sg 4 (by kernel_rfl) ?_
        obtain rfl := hy18
        exact WL.live [33] (by kernel_rfl) (hk_y18 () _ H)
  rcases ite_cases hy14 with ⟨ty14, hy14⟩ | ⟨ty14, hy14⟩
  · refine WL.known 11 ty14 (by kernel_rfl) (by kernel_rfl) ?_
    refine WL.sg 4 (by kernel_rfl) ?_
    obtain rfl := hy14
    exact WL.live [0, 1, 5, 6, 15] (by kernel_rfl) (hk_y14 () _ H)
  · refine WL.known 11 ty14 (by kernel_rfl) (by kernel_rfl) ?_
    refine WL.sg 4 (by kernel_rfl) ?_
    obtain rfl := hy14
    exact WL.live [0, 1, 5, 6, 15] (by kernel_rfl) (hk_y14 () _ H)
def r09_Small (x0 : GFrame) : Bool :=
  bnd (
      if decide ((x0.Stack.length : Int) ≤ 40) then
        decide ((x0.Locals.length : Int) ≤ 40)
      else
        false) fun y5 =>
  bnd (
      if y5 then
        decide ((x0.Slots.length : Int) ≤ 40)
      else
        false) fun y6 =>
  y6
set_option maxRecDepth 100000 in
theorem c_r09_Small {w0 w : World} {h : Gh} {L : List Ent} (x0 : GFrame) {a1 : Option Addr} {c1 : Nat} {a2 : Option Addr} {c2 : Nat} {a3 : Option Addr} {c3 : Nat} (f1 : Sl rGValue 16 h a1 c1 x0.Stack) (f2 : Sl rGValue 16 h a2 c2 x0.Locals) (f3 : Sl rGSlot 48 h a3 c3 x0.Slots) (H : St w0 h w L) {r : Bool} (hr : r09_Small x0 = r) : Calls Try.prog 11 #[.agg (cGFrame x0 a1 c1 a2 c2 a3 c3).toArray] w (fun e w' => ∃ v, e = .returned v ∧ v = .bool r ∧ St w0 h w' (L)) := by
  refine calls_of (args := [.agg (cGFrame x0 a1 c1 a2 c2 a3 c3).toArray]) (n := 19) (rs := [.tmp 2]) Try.func11 rfl rfl rfl rfl rfl ?_
  unfold r09_Small at hr
  refine WE.seq ?_
  refine WE.region ?_
  refine WL.does (by kernel_rfl) (by kernel_rfl) (Does.box H (cGFrame x0 a1 c1 a2 c2 a3 c3) (by kernel_rfl) fun b4 w H => ?_)
  refine WL.fin 1 (by kernel_rfl) (by kernel_rfl) ?_
  refine WE.seq ?_
  refine WE.region ?_
  refine WL.sg 1 (by kernel_rfl) ?_
  refine WL.does (by kernel_rfl) (by kernel_rfl) (Does.loadV H 0 rfl 2 (by kernel_rfl) (by kernel_rfl) ?_)
  refine WL.sg 3 (by kernel_rfl) ?_
  obtain ⟨y5, hy5, hr⟩ := bnd_cases hr
  refine WL.join 5 (fun (_ : Unit) => [(1, .pointer (some ⟨b4, 0, none⟩)), (12, .bool y5)]) (fun (_ : Unit) w => St w0 h w (var b4 (cGFrame x0 a1 c1 a2 c2 a3 c3) 40 :: L)) ?_ (fun hk_y5 => ?_)
  · rintro _ w H
    refine WL.sg 1 (by kernel_rfl) ?_
    obtain ⟨y6, hy6, hr⟩ := bnd_cases hr
    refine WL.join 5 (fun (_ : Unit) => [(18, .bool y6)]) (fun (_ : Unit) w => St w0 h w (var b4 (cGFrame x0 a1 c1 a2 c2 a3 c3) 40 :: L)) ?_ (fun hk_y6 => ?_)
    · rintro _ w H
      refine WL.fin 1 (by kernel_rfl) (by kernel_rfl) ?_
      obtain rfl := hr
      exact WE.ret ⟨[.bool y6], ⟨⟨(by kernel_rfl), (by kernel_rfl)⟩, trivial⟩, ⟨rfl, (H.keep 1)⟩⟩
    rcases ite_cases hy6 with ⟨ty6, hy6⟩ | ⟨ty6, hy6⟩
    · refine WL.known 13 ty6 (by kernel_rfl) (by kernel_rfl) ?_
      refine WL.sg 1 (by kernel_rfl) ?_
      refine WL.does (by kernel_rfl) (by kernel_rfl) (Does.loadV H 0 rfl 4 (by kernel_rfl) (by kernel_rfl) ?_)
      refine WL.sg 3 (by kernel_rfl) ?_
      obtain rfl := hy6
      exact WL.live [18] (by kernel_rfl) (hk_y6 () _ H)
    · refine WL.known 13 ty6 (by kernel_rfl) (by kernel_rfl) ?_
      refine WL.sg 5 (by kernel_rfl) ?_
      obtain rfl := hy6
      exact WL.live [18] (by kernel_rfl) (hk_y6 () _ H)
  rcases ite_cases hy5 with ⟨ty5, hy5⟩ | ⟨ty5, hy5⟩
  · refine WL.known 7 ty5 (by kernel_rfl) (by kernel_rfl) ?_
    refine WL.sg 1 (by kernel_rfl) ?_
    refine WL.does (by kernel_rfl) (by kernel_rfl) (Does.loadV H 0 rfl 3 (by kernel_rfl) (by kernel_rfl) ?_)
    refine WL.sg 3 (by kernel_rfl) ?_
    obtain rfl := hy5
    exact WL.live [1, 12] (by kernel_rfl) (hk_y5 () _ H)
  · refine WL.known 7 ty5 (by kernel_rfl) (by kernel_rfl) ?_
    refine WL.sg 5 (by kernel_rfl) ?_
    obtain rfl := hy5
    exact WL.live [1, 12] (by kernel_rfl) (hk_y5 () _ H)
def r09_Values_l1 (K : Nat) (x0 : List GValue) (x1 : List GValue) : Nat → Int → Option Bool
  | 0, _ => none
  | k1 + 1, y13 =>
    if decide (y13 < (x0.length : Int)) then
      if 0 ≤ y13 ∧ y13 < x0.length then
        if 0 ≤ y13 ∧ y13 < x1.length then
          if !((((gd x0 y13).Re) == ((gd x1 y13).Re)) && ((((gd x0 y13).Im) == ((gd x1 y13).Im)) && true)) then
            some false
          else
            r09_Values_l1 K x0 x1 k1 (w64 (y13 + 1))
        else none
      else none
    else
      some true
def r09_Values (K : Nat) (x0 : List GValue) (x1 : List GValue) : Option Bool :=
  if (x0.length : Int) != (x1.length : Int) then
    some false
  else
    r09_Values_l1 K x0 x1 K 0
set_option maxRecDepth 100000 in
theorem c_r09_Values {w0 w : World} {h : Gh} {L : List Ent} (K : Nat) (x0 : List GValue) {a1 : Option Addr} {c1 : Nat} (f1 : Sl rGValue 16 h a1 c1 x0) (x1 : List GValue) {a2 : Option Addr} {c2 : Nat} (f2 : Sl rGValue 16 h a2 c2 x1) (H : St w0 h w L) {r : Bool} (hr : r09_Values K x0 x1 = some r) : Calls Try.prog 36 #[.slice a1 x0.length c1, .slice a2 x1.length c2] w (fun e w' => ∃ v, e = .returned v ∧ v = .bool r ∧ St w0 h w' (L)) := by
  refine calls_of (args := [.slice a1 x0.length c1, .slice a2 x1.length c2]) (n := 26) (rs := [.tmp 4]) Try.func36 rfl rfl rfl rfl rfl ?_
  unfold r09_Values at hr
  refine WE.seq ?_
  refine WE.region ?_
  refine WL.fin 1 (by kernel_rfl) (by kernel_rfl) ?_
  refine WE.seq ?_
  refine WE.seq ?_
  refine WE.region ?_
  refine WL.fin 5 (by kernel_rfl) (by kernel_rfl) ?_
  rcases ite_cases hr with ⟨t3, hr⟩ | ⟨t3, hr⟩
  · refine WE.yes (by kernel_rfl) (b := (x0.length : Int) != (x1.length : Int)) (by kernel_rfl) t3 ?_
    refine WE.seq ?_
    refine WE.region ?_
    refine WL.fin 1 (by kernel_rfl) (by kernel_rfl) ?_
    obtain rfl := Option.some.inj hr
    exact WE.ret ⟨[.bool false], ⟨⟨(by kernel_rfl), (by kernel_rfl)⟩, trivial⟩, ⟨rfl, H⟩⟩
  · refine WE.no (by kernel_rfl) (b := (x0.length : Int) != (x1.length : Int)) (by kernel_rfl) t3 ?_
    refine WE.skip ?_
    refine WE.seq ?_
    refine WE.seq ?_
    refine WE.region ?_
    refine WL.fin 1 (by kernel_rfl) (by kernel_rfl) ?_
    refine WE.block ?_
    refine WE.loop (LP.live [0, 1, 5] (by kernel_rfl) (LP.rec (r09_Values_l1 K x0 x1) (fun (y13 : Int) (_ : Unit) => [(0, .slice a1 x0.length c1), (1, .slice a2 x1.length c2), (5, .int .i64 y13)]) (fun (y13 : Int) (_ : Unit) => fun w => St w0 h w (L)) r (fun _ => rfl) ?_ K 0 () _ H hr))
    rintro k1 ih1 y13 _ w H hr
    simp only [r09_Values_l1] at hr
    refine WE.seq ?_
    refine WE.seq ?_
    refine WE.region ?_
    refine WL.fin 4 (by kernel_rfl) (by kernel_rfl) ?_
    rcases ite_cases hr with ⟨t14, hr⟩ | ⟨t14, hr⟩
    · refine WE.yes (by kernel_rfl) (b := decide (y13 < (x0.length : Int))) (by kernel_rfl) t14 ?_
      refine WE.skip ?_
      refine WE.seq ?_
      refine WE.block ?_
      refine WE.seq ?_
      refine WE.draws mo [0, 1, 5] (ρ' := [(0, .slice a1 x0.length c1), (1, .slice a2 x1.length c2), (5, .int .i64 y13)]) (by kernel_rfl) fun w e1 e2 e3 e4 => ?_
      have H := H.same e1 e2 e3 e4
      clear e1 e2 e3 e4
      refine WD.know [0] (by kernel_rfl) ?_
      refine WD.know [1] (by kernel_rfl) ?_
      obtain ⟨⟨g0_15, g1_15⟩, hr⟩ := grd_cases hr
      obtain ⟨b15, p15, C15, e15, fr15, cs15, rfl, hb15, hc15, rfl⟩ := f1.at g0_15 g1_15
      refine WD.told 2 19 (.pointer (some ⟨b15, p15 + y13.toNat * 2, none⟩)) (by kernel_rfl) (by kernel_rfl) ?_
      refine WD.told 3 20 (.agg #[.int .i64 ((gd x0 y13).Re), .int .i64 ((gd x0 y13).Im)]) (by kernel_rfl) (by kernel_rfl) ?_
      refine WD.know [4] (by kernel_rfl) ?_
      refine WD.know [5] (by kernel_rfl) ?_
      obtain ⟨⟨g0_16, g1_16⟩, hr⟩ := grd_cases hr
      obtain ⟨b16, p16, C16, e16, fr16, cs16, rfl, hb16, hc16, rfl⟩ := f2.at g0_16 g1_16
      refine WD.told 6 23 (.pointer (some ⟨b16, p16 + y13.toNat * 2, none⟩)) (by kernel_rfl) (by kernel_rfl) ?_
      refine WD.told 7 24 (.agg #[.int .i64 ((gd x1 y13).Re), .int .i64 ((gd x1 y13).Im)]) (by kernel_rfl) (by kernel_rfl) ?_
      refine WD.told 8 25 (.bool (!((((gd x0 y13).Re) == ((gd x1 y13).Re)) && ((((gd x0 y13).Im) == ((gd x1 y13).Im)) && true)))) (by kernel_rfl) (by kernel_rfl) ?_
      refine WD.fin (by kernel_rfl) (Floats.of [5, 4, 1, 0] [8, 7, 6, 3, 2] (by kernel_rfl) (Floats.pure _ (by kernel_rfl) (by kernel_rfl)) (.cons (.tells rfl (by kernel_rfl) (by kernel_rfl) (.neq ((((gd x0 y13).Re) == ((gd x1 y13).Re)) && ((((gd x0 y13).Im) == ((gd x1 y13).Im)) && true)) (by kernel_rfl) (by kernel_rfl) (by kernel_rfl))) (.cons (.tells rfl (by kernel_rfl) rfl (.loadR H hb16 hc16 0 (by kernel_rfl) (by kernel_rfl))) (.cons (.tells rfl (by kernel_rfl) (by kernel_rfl) (.idx b16 (p16) x1.length c2 y13 2 (by kernel_rfl) (by kernel_rfl) g0_16 g1_16 (by kernel_rfl))) (.cons (.tells rfl (by kernel_rfl) rfl (.loadR H hb15 hc15 0 (by kernel_rfl) (by kernel_rfl))) (.cons (.tells rfl (by kernel_rfl) (by kernel_rfl) (.idx b15 (p15) x0.length c1 y13 2 (by kernel_rfl) (by kernel_rfl) g0_15 g1_15 (by kernel_rfl))) .nil)))))) (by kernel_rfl) (by kernel_rfl) ?_
      rcases ite_cases hr with ⟨t17, hr⟩ | ⟨t17, hr⟩
      · refine WE.yes (by kernel_rfl) (b := !((((gd x0 y13).Re) == ((gd x1 y13).Re)) && ((((gd x0 y13).Im) == ((gd x1 y13).Im)) && true))) (by kernel_rfl) t17 ?_
        refine WE.seq ?_
        refine WE.region ?_
        refine WL.fin 1 (by kernel_rfl) (by kernel_rfl) ?_
        obtain rfl := Option.some.inj hr
        exact WE.ret ⟨[.bool false], ⟨⟨(by kernel_rfl), (by kernel_rfl)⟩, trivial⟩, ⟨rfl, H⟩⟩
      · refine WE.no (by kernel_rfl) (b := !((((gd x0 y13).Re) == ((gd x1 y13).Re)) && ((((gd x0 y13).Im) == ((gd x1 y13).Im)) && true))) (by kernel_rfl) t17 ?_
        refine WE.skip ?_
        refine WE.region ?_
        refine WL.fin 3 (by kernel_rfl) (by kernel_rfl) ?_
        exact LP.live [0, 1, 5] (by kernel_rfl) (ih1 (w64 (y13 + 1)) () _ H hr)
    · refine WE.no (by kernel_rfl) (b := decide (y13 < (x0.length : Int))) (by kernel_rfl) t14 ?_
      refine WE.exit ?_
      refine WE.seq ?_
      refine WE.region ?_
      refine WL.fin 1 (by kernel_rfl) (by kernel_rfl) ?_
      obtain rfl := Option.some.inj hr
      exact WE.ret ⟨[.bool true], ⟨⟨(by kernel_rfl), (by kernel_rfl)⟩, trivial⟩, ⟨rfl, H⟩⟩
def r09_Same_l1 (K : Nat) (x0 : GFrame) (x1 : GFrame) : Nat → Int → Option Bool
  | 0, _ => none
  | k1 + 1, y23 =>
    if decide (y23 < (x0.Slots.length : Int)) then
      if 0 ≤ y23 ∧ y23 < x0.Slots.length then
        if 0 ≤ y23 ∧ y23 < x1.Slots.length then
          if !((((gd x0.Slots y23).State) == ((gd x1.Slots y23).State)) && (((((gd x0.Slots y23).Kid.At) == ((gd x1.Slots y23).Kid.At)) && ((((gd x0.Slots y23).Kid.Gen) == ((gd x1.Slots y23).Kid.Gen)) && true)) && (((((gd x0.Slots y23).Out.Trap) == ((gd x1.Slots y23).Out.Trap)) && (((((gd x0.Slots y23).Out.V.Re) == ((gd x1.Slots y23).Out.V.Re)) && ((((gd x0.Slots y23).Out.V.Im) == ((gd x1.Slots y23).Out.V.Im)) && true)) && true)) && true))) then
            some false
          else
            r09_Same_l1 K x0 x1 k1 (w64 (y23 + 1))
        else none
      else none
    else
      bnd (
          if x0.Fn == x1.Fn then
            x0.Pc == x1.Pc
          else
            false) fun y28 =>
      bnd (
          if y28 then
            x0.Seed == x1.Seed
          else
            false) fun y29 =>
      bnd (
          if y29 then
            x0.Spawned == x1.Spawned
          else
            false) fun y30 =>
      bnd (
          if y30 then
            x0.Draws == x1.Draws
          else
            false) fun y31 =>
      bnd (
          if y31 then
            x0.State == x1.State
          else
            false) fun y32 =>
      bnd (
          if y32 then
            x0.Wait == x1.Wait
          else
            false) fun y33 =>
      bnd (
          if y33 then
            (x0.Out.Trap == x1.Out.Trap) && (((x0.Out.V.Re == x1.Out.V.Re) && ((x0.Out.V.Im == x1.Out.V.Im) && true)) && true)
          else
            false) fun y34 =>
      bnd (
          if y34 then
            (x0.Up.At == x1.Up.At) && ((x0.Up.Gen == x1.Up.Gen) && true)
          else
            false) fun y35 =>
      bnd (
          if y35 then
            x0.UpSlot == x1.UpSlot
          else
            false) fun y36 =>
      some y36
def r09_Same (K : Nat) (x0 : GFrame) (x1 : GFrame) : Option Bool :=
  (
      if (x0.Slots.length : Int) != (x1.Slots.length : Int) then
        some true
      else
        (r09_Values K x0.Stack x1.Stack).bind fun y38 =>
        some (!y38)).bind fun y9 =>
  (
      if y9 then
        some true
      else
        (r09_Values K x0.Locals x1.Locals).bind fun y37 =>
        some (!y37)).bind fun y11 =>
  if y11 then
    some false
  else
    r09_Same_l1 K x0 x1 K 0
set_option maxRecDepth 100000 in
theorem c_r09_Same {w0 w : World} {h : Gh} {L : List Ent} (K : Nat) (x0 : GFrame) {a1 : Option Addr} {c1 : Nat} {a2 : Option Addr} {c2 : Nat} {a3 : Option Addr} {c3 : Nat} (f1 : Sl rGValue 16 h a1 c1 x0.Stack) (f2 : Sl rGValue 16 h a2 c2 x0.Locals) (f3 : Sl rGSlot 48 h a3 c3 x0.Slots) (x1 : GFrame) {a4 : Option Addr} {c4 : Nat} {a5 : Option Addr} {c5 : Nat} {a6 : Option Addr} {c6 : Nat} (f4 : Sl rGValue 16 h a4 c4 x1.Stack) (f5 : Sl rGValue 16 h a5 c5 x1.Locals) (f6 : Sl rGSlot 48 h a6 c6 x1.Slots) (H : St w0 h w L) {r : Bool} (hr : r09_Same K x0 x1 = some r) : Calls Try.prog 13 #[.agg (cGFrame x0 a1 c1 a2 c2 a3 c3).toArray, .agg (cGFrame x1 a4 c4 a5 c5 a6 c6).toArray] w (fun e w' => ∃ v, e = .returned v ∧ v = .bool r ∧ St w0 h w' (L)) := by
  refine calls_of (args := [.agg (cGFrame x0 a1 c1 a2 c2 a3 c3).toArray, .agg (cGFrame x1 a4 c4 a5 c5 a6 c6).toArray]) (n := 115) (rs := [.tmp 4]) Try.func13 rfl rfl rfl rfl rfl ?_
  unfold r09_Same at hr
  refine WE.seq ?_
  refine WE.region ?_
  refine WL.does (by kernel_rfl) (by kernel_rfl) (Does.box H (cGFrame x0 a1 c1 a2 c2 a3 c3) (by kernel_rfl) fun b7 w H => ?_)
  refine WL.does (by kernel_rfl) (by kernel_rfl) (Does.box H (cGFrame x1 a4 c4 a5 c5 a6 c6) (by kernel_rfl) fun b8 w H => ?_)
  refine WL.fin 1 (by kernel_rfl) (by kernel_rfl) ?_
  refine WE.seq ?_
  refine WE.seq ?_
  refine WE.region ?_
  refine WL.sg 1 (by kernel_rfl) ?_
  refine WL.does (by kernel_rfl) (by kernel_rfl) (Does.loadV H 1 rfl 4 (by kernel_rfl) (by kernel_rfl) ?_)
  refine WL.sg 2 (by kernel_rfl) ?_
  refine WL.does (by kernel_rfl) (by kernel_rfl) (Does.loadV H 0 rfl 4 (by kernel_rfl) (by kernel_rfl) ?_)
  refine WL.sg 3 (by kernel_rfl) ?_
  obtain ⟨y9, hy9, hr⟩ := bind_cases hr
  refine WL.join 7 (fun (_ : Unit) => [(2, .pointer (some ⟨b7, 0, none⟩)), (3, .pointer (some ⟨b8, 0, none⟩)), (20, .bool y9)]) (fun (_ : Unit) w => St w0 h w (var b8 (cGFrame x1 a4 c4 a5 c5 a6 c6) 40 :: var b7 (cGFrame x0 a1 c1 a2 c2 a3 c3) 40 :: L)) ?_ (fun hk_y9 => ?_)
  · rintro _ w H
    refine WL.sg 1 (by kernel_rfl) ?_
    obtain ⟨y11, hy11, hr⟩ := bind_cases hr
    refine WL.join 7 (fun (_ : Unit) => [(2, .pointer (some ⟨b7, 0, none⟩)), (3, .pointer (some ⟨b8, 0, none⟩)), (28, .bool y11)]) (fun (_ : Unit) w => St w0 h w (var b8 (cGFrame x1 a4 c4 a5 c5 a6 c6) 40 :: var b7 (cGFrame x0 a1 c1 a2 c2 a3 c3) 40 :: L)) ?_ (fun hk_y11 => ?_)
    · rintro _ w H
      refine WL.fin 0 (by kernel_rfl) (by kernel_rfl) ?_
      rcases ite_cases hr with ⟨t13, hr⟩ | ⟨t13, hr⟩
      · refine WE.yes (by kernel_rfl) (b := y11) (by kernel_rfl) t13 ?_
        refine WE.seq ?_
        refine WE.region ?_
        refine WL.fin 1 (by kernel_rfl) (by kernel_rfl) ?_
        obtain rfl := Option.some.inj hr
        exact WE.ret ⟨[.bool false], ⟨⟨(by kernel_rfl), (by kernel_rfl)⟩, trivial⟩, ⟨rfl, (H.keep 2)⟩⟩
      · refine WE.no (by kernel_rfl) (b := y11) (by kernel_rfl) t13 ?_
        refine WE.skip ?_
        refine WE.seq ?_
        refine WE.seq ?_
        refine WE.region ?_
        refine WL.fin 1 (by kernel_rfl) (by kernel_rfl) ?_
        refine WE.block ?_
        refine WE.loop (LP.live [2, 3, 5] (by kernel_rfl) (LP.rec (r09_Same_l1 K x0 x1) (fun (y23 : Int) (_ : Unit) => [(2, .pointer (some ⟨b7, 0, none⟩)), (3, .pointer (some ⟨b8, 0, none⟩)), (5, .int .i64 y23)]) (fun (y23 : Int) (_ : Unit) => fun w => St w0 h w (var b8 (cGFrame x1 a4 c4 a5 c5 a6 c6) 40 :: var b7 (cGFrame x0 a1 c1 a2 c2 a3 c3) 40 :: L)) r (fun _ => rfl) ?_ K 0 () _ H hr))
        rintro k1 ih1 y23 _ w H hr
        simp only [r09_Same_l1] at hr
        refine WE.seq ?_
        refine WE.seq ?_
        refine WE.region ?_
        refine WL.sg 2 (by kernel_rfl) ?_
        refine WL.does (by kernel_rfl) (by kernel_rfl) (Does.loadV H 1 rfl 4 (by kernel_rfl) (by kernel_rfl) ?_)
        refine WL.fin 2 (by kernel_rfl) (by kernel_rfl) ?_
        rcases ite_cases hr with ⟨t24, hr⟩ | ⟨t24, hr⟩
        · refine WE.yes (by kernel_rfl) (b := decide (y23 < (x0.Slots.length : Int))) (by kernel_rfl) t24 ?_
          refine WE.skip ?_
          refine WE.seq ?_
          refine WE.block ?_
          refine WE.seq ?_
          refine WE.draws mo [2, 3, 5] (ρ' := [(2, .pointer (some ⟨b7, 0, none⟩)), (3, .pointer (some ⟨b8, 0, none⟩)), (5, .int .i64 y23)]) (by kernel_rfl) fun w e1 e2 e3 e4 => ?_
          have H := H.same e1 e2 e3 e4
          clear e1 e2 e3 e4
          refine WD.know [0] (by kernel_rfl) ?_
          refine WD.told 1 37 (.slice a3 x0.Slots.length c3) (by kernel_rfl) (by kernel_rfl) ?_
          refine WD.know [2] (by kernel_rfl) ?_
          obtain ⟨⟨g0_25, g1_25⟩, hr⟩ := grd_cases hr
          obtain ⟨b25, p25, C25, e25, fr25, cs25, rfl, hb25, hc25, rfl⟩ := f3.at g0_25 g1_25
          refine WD.told 3 39 (.pointer (some ⟨b25, p25 + y23.toNat * 6, none⟩)) (by kernel_rfl) (by kernel_rfl) ?_
          refine WD.told 4 40 (.agg (cGSlot (⟨(gd x0.Slots y23).State, (⟨(gd x0.Slots y23).Kid.At, (gd x0.Slots y23).Kid.Gen⟩ : GRef), (⟨(gd x0.Slots y23).Out.Trap, (⟨(gd x0.Slots y23).Out.V.Re, (gd x0.Slots y23).Out.V.Im⟩ : GValue)⟩ : GOut)⟩ : GSlot)).toArray) (by kernel_rfl) (by kernel_rfl) ?_
          refine WD.know [5] (by kernel_rfl) ?_
          refine WD.told 6 42 (.slice a6 x1.Slots.length c6) (by kernel_rfl) (by kernel_rfl) ?_
          refine WD.know [7] (by kernel_rfl) ?_
          obtain ⟨⟨g0_26, g1_26⟩, hr⟩ := grd_cases hr
          obtain ⟨b26, p26, C26, e26, fr26, cs26, rfl, hb26, hc26, rfl⟩ := f6.at g0_26 g1_26
          refine WD.told 8 44 (.pointer (some ⟨b26, p26 + y23.toNat * 6, none⟩)) (by kernel_rfl) (by kernel_rfl) ?_
          refine WD.told 9 45 (.agg (cGSlot (⟨(gd x1.Slots y23).State, (⟨(gd x1.Slots y23).Kid.At, (gd x1.Slots y23).Kid.Gen⟩ : GRef), (⟨(gd x1.Slots y23).Out.Trap, (⟨(gd x1.Slots y23).Out.V.Re, (gd x1.Slots y23).Out.V.Im⟩ : GValue)⟩ : GOut)⟩ : GSlot)).toArray) (by kernel_rfl) (by kernel_rfl) ?_
          refine WD.told 10 46 (.bool (!((((gd x0.Slots y23).State) == ((gd x1.Slots y23).State)) && (((((gd x0.Slots y23).Kid.At) == ((gd x1.Slots y23).Kid.At)) && ((((gd x0.Slots y23).Kid.Gen) == ((gd x1.Slots y23).Kid.Gen)) && true)) && (((((gd x0.Slots y23).Out.Trap) == ((gd x1.Slots y23).Out.Trap)) && (((((gd x0.Slots y23).Out.V.Re) == ((gd x1.Slots y23).Out.V.Re)) && ((((gd x0.Slots y23).Out.V.Im) == ((gd x1.Slots y23).Out.V.Im)) && true)) && true)) && true))))) (by kernel_rfl) (by kernel_rfl) ?_
          refine WD.fin (by kernel_rfl) (Floats.of [7, 5, 2, 0] [10, 9, 8, 6, 4, 3, 1] (by kernel_rfl) (Floats.pure _ (by kernel_rfl) (by kernel_rfl)) (.cons (.tells rfl (by kernel_rfl) (by kernel_rfl) (.neq ((((gd x0.Slots y23).State) == ((gd x1.Slots y23).State)) && (((((gd x0.Slots y23).Kid.At) == ((gd x1.Slots y23).Kid.At)) && ((((gd x0.Slots y23).Kid.Gen) == ((gd x1.Slots y23).Kid.Gen)) && true)) && (((((gd x0.Slots y23).Out.Trap) == ((gd x1.Slots y23).Out.Trap)) && (((((gd x0.Slots y23).Out.V.Re) == ((gd x1.Slots y23).Out.V.Re)) && ((((gd x0.Slots y23).Out.V.Im) == ((gd x1.Slots y23).Out.V.Im)) && true)) && true)) && true))) (by kernel_rfl) (by kernel_rfl) (by kernel_rfl))) (.cons (.tells rfl (by kernel_rfl) rfl (.loadR H hb26 hc26 0 (by kernel_rfl) (by kernel_rfl))) (.cons (.tells rfl (by kernel_rfl) (by kernel_rfl) (.idx b26 (p26) x1.Slots.length c6 y23 6 (by kernel_rfl) (by kernel_rfl) g0_26 g1_26 (by kernel_rfl))) (.cons (.tells rfl (by kernel_rfl) rfl (.loadV H 0 rfl 4 (by kernel_rfl) (by kernel_rfl))) (.cons (.tells rfl (by kernel_rfl) rfl (.loadR H hb25 hc25 0 (by kernel_rfl) (by kernel_rfl))) (.cons (.tells rfl (by kernel_rfl) (by kernel_rfl) (.idx b25 (p25) x0.Slots.length c3 y23 6 (by kernel_rfl) (by kernel_rfl) g0_25 g1_25 (by kernel_rfl))) (.cons (.tells rfl (by kernel_rfl) rfl (.loadV H 1 rfl 4 (by kernel_rfl) (by kernel_rfl))) .nil)))))))) (by kernel_rfl) (by kernel_rfl) ?_
          rcases ite_cases hr with ⟨t27, hr⟩ | ⟨t27, hr⟩
          · refine WE.yes (by kernel_rfl) (b := !((((gd x0.Slots y23).State) == ((gd x1.Slots y23).State)) && (((((gd x0.Slots y23).Kid.At) == ((gd x1.Slots y23).Kid.At)) && ((((gd x0.Slots y23).Kid.Gen) == ((gd x1.Slots y23).Kid.Gen)) && true)) && (((((gd x0.Slots y23).Out.Trap) == ((gd x1.Slots y23).Out.Trap)) && (((((gd x0.Slots y23).Out.V.Re) == ((gd x1.Slots y23).Out.V.Re)) && ((((gd x0.Slots y23).Out.V.Im) == ((gd x1.Slots y23).Out.V.Im)) && true)) && true)) && true)))) (by kernel_rfl) t27 ?_
            refine WE.seq ?_
            refine WE.region ?_
            refine WL.fin 1 (by kernel_rfl) (by kernel_rfl) ?_
            obtain rfl := Option.some.inj hr
            exact WE.ret ⟨[.bool false], ⟨⟨(by kernel_rfl), (by kernel_rfl)⟩, trivial⟩, ⟨rfl, (H.keep 2)⟩⟩
          · refine WE.no (by kernel_rfl) (b := !((((gd x0.Slots y23).State) == ((gd x1.Slots y23).State)) && (((((gd x0.Slots y23).Kid.At) == ((gd x1.Slots y23).Kid.At)) && ((((gd x0.Slots y23).Kid.Gen) == ((gd x1.Slots y23).Kid.Gen)) && true)) && (((((gd x0.Slots y23).Out.Trap) == ((gd x1.Slots y23).Out.Trap)) && (((((gd x0.Slots y23).Out.V.Re) == ((gd x1.Slots y23).Out.V.Re)) && ((((gd x0.Slots y23).Out.V.Im) == ((gd x1.Slots y23).Out.V.Im)) && true)) && true)) && true)))) (by kernel_rfl) t27 ?_
            refine WE.skip ?_
            refine WE.region ?_
            refine WL.fin 3 (by kernel_rfl) (by kernel_rfl) ?_
            exact LP.live [2, 3, 5] (by kernel_rfl) (ih1 (w64 (y23 + 1)) () _ H hr)
        · refine WE.no (by kernel_rfl) (b := decide (y23 < (x0.Slots.length : Int))) (by kernel_rfl) t24 ?_
          refine WE.exit ?_
          refine WE.seq ?_
          refine WE.region ?_
          refine WL.sg 1 (by kernel_rfl) ?_
          refine WL.does (by kernel_rfl) (by kernel_rfl) (Does.loadV H 1 rfl 0 (by kernel_rfl) (by kernel_rfl) ?_)
          refine WL.sg 1 (by kernel_rfl) ?_
          refine WL.does (by kernel_rfl) (by kernel_rfl) (Does.loadV H 0 rfl 0 (by kernel_rfl) (by kernel_rfl) ?_)
          refine WL.sg 2 (by kernel_rfl) ?_
          obtain ⟨y28, hy28, hr⟩ := bnd_cases hr
          refine WL.join 6 (fun (_ : Unit) => [(2, .pointer (some ⟨b7, 0, none⟩)), (3, .pointer (some ⟨b8, 0, none⟩)), (58, .bool y28)]) (fun (_ : Unit) w => St w0 h w (var b8 (cGFrame x1 a4 c4 a5 c5 a6 c6) 40 :: var b7 (cGFrame x0 a1 c1 a2 c2 a3 c3) 40 :: L)) ?_ (fun hk_y28 => ?_)
          · rintro _ w H
            refine WL.sg 1 (by kernel_rfl) ?_
            obtain ⟨y29, hy29, hr⟩ := bnd_cases hr
            refine WL.join 6 (fun (_ : Unit) => [(2, .pointer (some ⟨b7, 0, none⟩)), (3, .pointer (some ⟨b8, 0, none⟩)), (65, .bool y29)]) (fun (_ : Unit) w => St w0 h w (var b8 (cGFrame x1 a4 c4 a5 c5 a6 c6) 40 :: var b7 (cGFrame x0 a1 c1 a2 c2 a3 c3) 40 :: L)) ?_ (fun hk_y29 => ?_)
            · rintro _ w H
              refine WL.sg 1 (by kernel_rfl) ?_
              obtain ⟨y30, hy30, hr⟩ := bnd_cases hr
              refine WL.join 6 (fun (_ : Unit) => [(2, .pointer (some ⟨b7, 0, none⟩)), (3, .pointer (some ⟨b8, 0, none⟩)), (72, .bool y30)]) (fun (_ : Unit) w => St w0 h w (var b8 (cGFrame x1 a4 c4 a5 c5 a6 c6) 40 :: var b7 (cGFrame x0 a1 c1 a2 c2 a3 c3) 40 :: L)) ?_ (fun hk_y30 => ?_)
              · rintro _ w H
                refine WL.sg 1 (by kernel_rfl) ?_
                obtain ⟨y31, hy31, hr⟩ := bnd_cases hr
                refine WL.join 6 (fun (_ : Unit) => [(2, .pointer (some ⟨b7, 0, none⟩)), (3, .pointer (some ⟨b8, 0, none⟩)), (79, .bool y31)]) (fun (_ : Unit) w => St w0 h w (var b8 (cGFrame x1 a4 c4 a5 c5 a6 c6) 40 :: var b7 (cGFrame x0 a1 c1 a2 c2 a3 c3) 40 :: L)) ?_ (fun hk_y31 => ?_)
                · rintro _ w H
                  refine WL.sg 1 (by kernel_rfl) ?_
                  obtain ⟨y32, hy32, hr⟩ := bnd_cases hr
                  refine WL.join 6 (fun (_ : Unit) => [(2, .pointer (some ⟨b7, 0, none⟩)), (3, .pointer (some ⟨b8, 0, none⟩)), (86, .bool y32)]) (fun (_ : Unit) w => St w0 h w (var b8 (cGFrame x1 a4 c4 a5 c5 a6 c6) 40 :: var b7 (cGFrame x0 a1 c1 a2 c2 a3 c3) 40 :: L)) ?_ (fun hk_y32 => ?_)
                  · rintro _ w H
                    refine WL.sg 1 (by kernel_rfl) ?_
                    obtain ⟨y33, hy33, hr⟩ := bnd_cases hr
                    refine WL.join 6 (fun (_ : Unit) => [(2, .pointer (some ⟨b7, 0, none⟩)), (3, .pointer (some ⟨b8, 0, none⟩)), (93, .bool y33)]) (fun (_ : Unit) w => St w0 h w (var b8 (cGFrame x1 a4 c4 a5 c5 a6 c6) 40 :: var b7 (cGFrame x0 a1 c1 a2 c2 a3 c3) 40 :: L)) ?_ (fun hk_y33 => ?_)
                    · rintro _ w H
                      refine WL.sg 1 (by kernel_rfl) ?_
                      obtain ⟨y34, hy34, hr⟩ := bnd_cases hr
                      refine WL.join 6 (fun (_ : Unit) => [(2, .pointer (some ⟨b7, 0, none⟩)), (3, .pointer (some ⟨b8, 0, none⟩)), (100, .bool y34)]) (fun (_ : Unit) w => St w0 h w (var b8 (cGFrame x1 a4 c4 a5 c5 a6 c6) 40 :: var b7 (cGFrame x0 a1 c1 a2 c2 a3 c3) 40 :: L)) ?_ (fun hk_y34 => ?_)
                      · rintro _ w H
                        refine WL.sg 1 (by kernel_rfl) ?_
                        obtain ⟨y35, hy35, hr⟩ := bnd_cases hr
                        refine WL.join 6 (fun (_ : Unit) => [(2, .pointer (some ⟨b7, 0, none⟩)), (3, .pointer (some ⟨b8, 0, none⟩)), (107, .bool y35)]) (fun (_ : Unit) w => St w0 h w (var b8 (cGFrame x1 a4 c4 a5 c5 a6 c6) 40 :: var b7 (cGFrame x0 a1 c1 a2 c2 a3 c3) 40 :: L)) ?_ (fun hk_y35 => ?_)
                        · rintro _ w H
                          refine WL.sg 1 (by kernel_rfl) ?_
                          obtain ⟨y36, hy36, hr⟩ := bnd_cases hr
                          refine WL.join 6 (fun (_ : Unit) => [(114, .bool y36)]) (fun (_ : Unit) w => St w0 h w (var b8 (cGFrame x1 a4 c4 a5 c5 a6 c6) 40 :: var b7 (cGFrame x0 a1 c1 a2 c2 a3 c3) 40 :: L)) ?_ (fun hk_y36 => ?_)
                          · rintro _ w H
                            refine WL.fin 1 (by kernel_rfl) (by kernel_rfl) ?_
                            obtain rfl := Option.some.inj hr
                            exact WE.ret ⟨[.bool y36], ⟨⟨(by kernel_rfl), (by kernel_rfl)⟩, trivial⟩, ⟨rfl, (H.keep 2)⟩⟩
                          rcases ite_cases hy36 with ⟨ty36, hy36⟩ | ⟨ty36, hy36⟩
                          · refine WL.known 108 ty36 (by kernel_rfl) (by kernel_rfl) ?_
                            refine WL.sg 1 (by kernel_rfl) ?_
                            refine WL.does (by kernel_rfl) (by kernel_rfl) (Does.loadV H 1 rfl 15 (by kernel_rfl) (by kernel_rfl) ?_)
                            refine WL.sg 1 (by kernel_rfl) ?_
                            refine WL.does (by kernel_rfl) (by kernel_rfl) (Does.loadV H 0 rfl 15 (by kernel_rfl) (by kernel_rfl) ?_)
                            refine WL.sg 2 (by kernel_rfl) ?_
                            obtain rfl := hy36
                            exact WL.live [114] (by kernel_rfl) (hk_y36 () _ H)
                          · refine WL.known 108 ty36 (by kernel_rfl) (by kernel_rfl) ?_
                            refine WL.sg 6 (by kernel_rfl) ?_
                            obtain rfl := hy36
                            exact WL.live [114] (by kernel_rfl) (hk_y36 () _ H)
                        rcases ite_cases hy35 with ⟨ty35, hy35⟩ | ⟨ty35, hy35⟩
                        · refine WL.known 101 ty35 (by kernel_rfl) (by kernel_rfl) ?_
                          refine WL.sg 1 (by kernel_rfl) ?_
                          refine WL.does (by kernel_rfl) (by kernel_rfl) (Does.loadV H 1 rfl 13 (by kernel_rfl) (by kernel_rfl) ?_)
                          refine WL.sg 1 (by kernel_rfl) ?_
                          refine WL.does (by kernel_rfl) (by kernel_rfl) (Does.loadV H 0 rfl 13 (by kernel_rfl) (by kernel_rfl) ?_)
                          refine WL.does (by kernel_rfl) (by kernel_rfl) (Does.tells (.eql ((x0.Up.At == x1.Up.At) && ((x0.Up.Gen == x1.Up.Gen) && true)) (by kernel_rfl) (by kernel_rfl) (by kernel_rfl)) ?_)
                          refine WL.sg 1 (by kernel_rfl) ?_
                          obtain rfl := hy35
                          exact WL.live [2, 3, 107] (by kernel_rfl) (hk_y35 () _ H)
                        · refine WL.known 101 ty35 (by kernel_rfl) (by kernel_rfl) ?_
                          refine WL.sg 6 (by kernel_rfl) ?_
                          obtain rfl := hy35
                          exact WL.live [2, 3, 107] (by kernel_rfl) (hk_y35 () _ H)
                      rcases ite_cases hy34 with ⟨ty34, hy34⟩ | ⟨ty34, hy34⟩
                      · refine WL.known 94 ty34 (by kernel_rfl) (by kernel_rfl) ?_
                        refine WL.sg 1 (by kernel_rfl) ?_
                        refine WL.does (by kernel_rfl) (by kernel_rfl) (Does.loadV H 1 rfl 10 (by kernel_rfl) (by kernel_rfl) ?_)
                        refine WL.sg 1 (by kernel_rfl) ?_
                        refine WL.does (by kernel_rfl) (by kernel_rfl) (Does.loadV H 0 rfl 10 (by kernel_rfl) (by kernel_rfl) ?_)
                        refine WL.does (by kernel_rfl) (by kernel_rfl) (Does.tells (.eql ((x0.Out.Trap == x1.Out.Trap) && (((x0.Out.V.Re == x1.Out.V.Re) && ((x0.Out.V.Im == x1.Out.V.Im) && true)) && true)) (by kernel_rfl) (by kernel_rfl) (by kernel_rfl)) ?_)
                        refine WL.sg 1 (by kernel_rfl) ?_
                        obtain rfl := hy34
                        exact WL.live [2, 3, 100] (by kernel_rfl) (hk_y34 () _ H)
                      · refine WL.known 94 ty34 (by kernel_rfl) (by kernel_rfl) ?_
                        refine WL.sg 6 (by kernel_rfl) ?_
                        obtain rfl := hy34
                        exact WL.live [2, 3, 100] (by kernel_rfl) (hk_y34 () _ H)
                    rcases ite_cases hy33 with ⟨ty33, hy33⟩ | ⟨ty33, hy33⟩
                    · refine WL.known 87 ty33 (by kernel_rfl) (by kernel_rfl) ?_
                      refine WL.sg 1 (by kernel_rfl) ?_
                      refine WL.does (by kernel_rfl) (by kernel_rfl) (Does.loadV H 1 rfl 9 (by kernel_rfl) (by kernel_rfl) ?_)
                      refine WL.sg 1 (by kernel_rfl) ?_
                      refine WL.does (by kernel_rfl) (by kernel_rfl) (Does.loadV H 0 rfl 9 (by kernel_rfl) (by kernel_rfl) ?_)
                      refine WL.sg 2 (by kernel_rfl) ?_
                      obtain rfl := hy33
                      exact WL.live [2, 3, 93] (by kernel_rfl) (hk_y33 () _ H)
                    · refine WL.known 87 ty33 (by kernel_rfl) (by kernel_rfl) ?_
                      refine WL.sg 6 (by kernel_rfl) ?_
                      obtain rfl := hy33
                      exact WL.live [2, 3, 93] (by kernel_rfl) (hk_y33 () _ H)
                  rcases ite_cases hy32 with ⟨ty32, hy32⟩ | ⟨ty32, hy32⟩
                  · refine WL.known 80 ty32 (by kernel_rfl) (by kernel_rfl) ?_
                    refine WL.sg 1 (by kernel_rfl) ?_
                    refine WL.does (by kernel_rfl) (by kernel_rfl) (Does.loadV H 1 rfl 8 (by kernel_rfl) (by kernel_rfl) ?_)
                    refine WL.sg 1 (by kernel_rfl) ?_
                    refine WL.does (by kernel_rfl) (by kernel_rfl) (Does.loadV H 0 rfl 8 (by kernel_rfl) (by kernel_rfl) ?_)
                    refine WL.sg 2 (by kernel_rfl) ?_
                    obtain rfl := hy32
                    exact WL.live [2, 3, 86] (by kernel_rfl) (hk_y32 () _ H)
                  · refine WL.known 80 ty32 (by kernel_rfl) (by kernel_rfl) ?_
                    refine WL.sg 6 (by kernel_rfl) ?_
                    obtain rfl := hy32
                    exact WL.live [2, 3, 86] (by kernel_rfl) (hk_y32 () _ H)
                rcases ite_cases hy31 with ⟨ty31, hy31⟩ | ⟨ty31, hy31⟩
                · refine WL.known 73 ty31 (by kernel_rfl) (by kernel_rfl) ?_
                  refine WL.sg 1 (by kernel_rfl) ?_
                  refine WL.does (by kernel_rfl) (by kernel_rfl) (Does.loadV H 1 rfl 7 (by kernel_rfl) (by kernel_rfl) ?_)
                  refine WL.sg 1 (by kernel_rfl) ?_
                  refine WL.does (by kernel_rfl) (by kernel_rfl) (Does.loadV H 0 rfl 7 (by kernel_rfl) (by kernel_rfl) ?_)
                  refine WL.sg 2 (by kernel_rfl) ?_
                  obtain rfl := hy31
                  exact WL.live [2, 3, 79] (by kernel_rfl) (hk_y31 () _ H)
                · refine WL.known 73 ty31 (by kernel_rfl) (by kernel_rfl) ?_
                  refine WL.sg 6 (by kernel_rfl) ?_
                  obtain rfl := hy31
                  exact WL.live [2, 3, 79] (by kernel_rfl) (hk_y31 () _ H)
              rcases ite_cases hy30 with ⟨ty30, hy30⟩ | ⟨ty30, hy30⟩
              · refine WL.known 66 ty30 (by kernel_rfl) (by kernel_rfl) ?_
                refine WL.sg 1 (by kernel_rfl) ?_
                refine WL.does (by kernel_rfl) (by kernel_rfl) (Does.loadV H 1 rfl 6 (by kernel_rfl) (by kernel_rfl) ?_)
                refine WL.sg 1 (by kernel_rfl) ?_
                refine WL.does (by kernel_rfl) (by kernel_rfl) (Does.loadV H 0 rfl 6 (by kernel_rfl) (by kernel_rfl) ?_)
                refine WL.sg 2 (by kernel_rfl) ?_
                obtain rfl := hy30
                exact WL.live [2, 3, 72] (by kernel_rfl) (hk_y30 () _ H)
              · refine WL.known 66 ty30 (by kernel_rfl) (by kernel_rfl) ?_
                refine WL.sg 6 (by kernel_rfl) ?_
                obtain rfl := hy30
                exact WL.live [2, 3, 72] (by kernel_rfl) (hk_y30 () _ H)
            rcases ite_cases hy29 with ⟨ty29, hy29⟩ | ⟨ty29, hy29⟩
            · refine WL.known 59 ty29 (by kernel_rfl) (by kernel_rfl) ?_
              refine WL.sg 1 (by kernel_rfl) ?_
              refine WL.does (by kernel_rfl) (by kernel_rfl) (Does.loadV H 1 rfl 5 (by kernel_rfl) (by kernel_rfl) ?_)
              refine WL.sg 1 (by kernel_rfl) ?_
              refine WL.does (by kernel_rfl) (by kernel_rfl) (Does.loadV H 0 rfl 5 (by kernel_rfl) (by kernel_rfl) ?_)
              refine WL.sg 2 (by kernel_rfl) ?_
              obtain rfl := hy29
              exact WL.live [2, 3, 65] (by kernel_rfl) (hk_y29 () _ H)
            · refine WL.known 59 ty29 (by kernel_rfl) (by kernel_rfl) ?_
              refine WL.sg 6 (by kernel_rfl) ?_
              obtain rfl := hy29
              exact WL.live [2, 3, 65] (by kernel_rfl) (hk_y29 () _ H)
          rcases ite_cases hy28 with ⟨ty28, hy28⟩ | ⟨ty28, hy28⟩
          · refine WL.known 52 ty28 (by kernel_rfl) (by kernel_rfl) ?_
            refine WL.sg 1 (by kernel_rfl) ?_
            refine WL.does (by kernel_rfl) (by kernel_rfl) (Does.loadV H 1 rfl 1 (by kernel_rfl) (by kernel_rfl) ?_)
            refine WL.sg 1 (by kernel_rfl) ?_
            refine WL.does (by kernel_rfl) (by kernel_rfl) (Does.loadV H 0 rfl 1 (by kernel_rfl) (by kernel_rfl) ?_)
            refine WL.sg 2 (by kernel_rfl) ?_
            obtain rfl := hy28
            exact WL.live [2, 3, 58] (by kernel_rfl) (hk_y28 () _ H)
          · refine WL.known 52 ty28 (by kernel_rfl) (by kernel_rfl) ?_
            refine WL.sg 6 (by kernel_rfl) ?_
            obtain rfl := hy28
            exact WL.live [2, 3, 58] (by kernel_rfl) (hk_y28 () _ H)
    rcases ite_cases hy11 with ⟨ty11, hy11⟩ | ⟨ty11, hy11⟩
    · refine WL.known 21 ty11 (by kernel_rfl) (by kernel_rfl) ?_
      refine WL.sg 7 (by kernel_rfl) ?_
      obtain rfl := Option.some.inj hy11
      exact WL.live [2, 3, 28] (by kernel_rfl) (hk_y11 () _ H)
    · refine WL.known 21 ty11 (by kernel_rfl) (by kernel_rfl) ?_
      refine WL.sg 1 (by kernel_rfl) ?_
      refine WL.does (by kernel_rfl) (by kernel_rfl) (Does.loadV H 1 rfl 3 (by kernel_rfl) (by kernel_rfl) ?_)
      refine WL.sg 1 (by kernel_rfl) ?_
      refine WL.does (by kernel_rfl) (by kernel_rfl) (Does.loadV H 0 rfl 3 (by kernel_rfl) (by kernel_rfl) ?_)
      obtain ⟨y37, q37, hy11⟩ := bind_cases hy11
      refine WL.does (by kernel_rfl) (by kernel_rfl) (Does.call (c_r09_Values K x0.Locals f2 x1.Locals f5 H q37) (by kernel_rfl) ?_)
      rintro _ w ⟨rfl, H⟩
      refine WL.sg 2 (by kernel_rfl) ?_
      obtain rfl := Option.some.inj hy11
      exact WL.live [2, 3, 28] (by kernel_rfl) (hk_y11 () _ H)
  rcases ite_cases hy9 with ⟨ty9, hy9⟩ | ⟨ty9, hy9⟩
  · refine WL.known 13 ty9 (by kernel_rfl) (by kernel_rfl) ?_
    refine WL.sg 7 (by kernel_rfl) ?_
    obtain rfl := Option.some.inj hy9
    exact WL.live [2, 3, 20] (by kernel_rfl) (hk_y9 () _ H)
  · refine WL.known 13 ty9 (by kernel_rfl) (by kernel_rfl) ?_
    refine WL.sg 1 (by kernel_rfl) ?_
    refine WL.does (by kernel_rfl) (by kernel_rfl) (Does.loadV H 1 rfl 2 (by kernel_rfl) (by kernel_rfl) ?_)
    refine WL.sg 1 (by kernel_rfl) ?_
    refine WL.does (by kernel_rfl) (by kernel_rfl) (Does.loadV H 0 rfl 2 (by kernel_rfl) (by kernel_rfl) ?_)
    obtain ⟨y38, q38, hy9⟩ := bind_cases hy9
    refine WL.does (by kernel_rfl) (by kernel_rfl) (Does.call (c_r09_Values K x0.Stack f1 x1.Stack f4 H q38) (by kernel_rfl) ?_)
    rintro _ w ⟨rfl, H⟩
    refine WL.sg 2 (by kernel_rfl) ?_
    obtain rfl := Option.some.inj hy9
    exact WL.live [2, 3, 20] (by kernel_rfl) (hk_y9 () _ H)
def r09_SameAct (K : Nat) (x0 : GAct) (x1 : GAct) : Option Bool :=
  bnd (
      if x0.Kind == x1.Kind then
        x0.Fn == x1.Fn
      else
        false) fun y5 =>
  bnd (
      if y5 then
        x0.Slot == x1.Slot
      else
        false) fun y6 =>
  bnd (
      if y6 then
        x0.Seed == x1.Seed
      else
        false) fun y7 =>
  (
      if y7 then
        (r09_Values K x0.Args x1.Args).bind fun y10 =>
        some y10
      else
        some false).bind fun y8 =>
  some y8
set_option maxRecDepth 100000 in
theorem c_r09_SameAct {w0 w : World} {h : Gh} {L : List Ent} (K : Nat) (x0 : GAct) {a1 : Option Addr} {c1 : Nat} (f1 : Sl rGValue 16 h a1 c1 x0.Args) (x1 : GAct) {a2 : Option Addr} {c2 : Nat} (f2 : Sl rGValue 16 h a2 c2 x1.Args) (H : St w0 h w L) {r : Bool} (hr : r09_SameAct K x0 x1 = some r) : Calls Try.prog 14 #[.agg (cGAct x0 a1 c1).toArray, .agg (cGAct x1 a2 c2).toArray] w (fun e w' => ∃ v, e = .returned v ∧ v = .bool r ∧ St w0 h w' (L)) := by
  refine calls_of (args := [.agg (cGAct x0 a1 c1).toArray, .agg (cGAct x1 a2 c2).toArray]) (n := 38) (rs := [.tmp 4]) Try.func14 rfl rfl rfl rfl rfl ?_
  unfold r09_SameAct at hr
  refine WE.seq ?_
  refine WE.region ?_
  refine WL.does (by kernel_rfl) (by kernel_rfl) (Does.box H (cGAct x0 a1 c1) (by kernel_rfl) fun b3 w H => ?_)
  refine WL.does (by kernel_rfl) (by kernel_rfl) (Does.box H (cGAct x1 a2 c2) (by kernel_rfl) fun b4 w H => ?_)
  refine WL.fin 1 (by kernel_rfl) (by kernel_rfl) ?_
  refine WE.seq ?_
  refine WE.region ?_
  refine WL.sg 1 (by kernel_rfl) ?_
  refine WL.does (by kernel_rfl) (by kernel_rfl) (Does.loadV H 1 rfl 0 (by kernel_rfl) (by kernel_rfl) ?_)
  refine WL.sg 1 (by kernel_rfl) ?_
  refine WL.does (by kernel_rfl) (by kernel_rfl) (Does.loadV H 0 rfl 0 (by kernel_rfl) (by kernel_rfl) ?_)
  refine WL.sg 2 (by kernel_rfl) ?_
  obtain ⟨y5, hy5, hr⟩ := bnd_cases hr
  refine WL.join 6 (fun (_ : Unit) => [(2, .pointer (some ⟨b3, 0, none⟩)), (3, .pointer (some ⟨b4, 0, none⟩)), (16, .bool y5)]) (fun (_ : Unit) w => St w0 h w (var b4 (cGAct x1 a2 c2) 50 :: var b3 (cGAct x0 a1 c1) 50 :: L)) ?_ (fun hk_y5 => ?_)
  · rintro _ w H
    refine WL.sg 1 (by kernel_rfl) ?_
    obtain ⟨y6, hy6, hr⟩ := bnd_cases hr
    refine WL.join 6 (fun (_ : Unit) => [(2, .pointer (some ⟨b3, 0, none⟩)), (3, .pointer (some ⟨b4, 0, none⟩)), (23, .bool y6)]) (fun (_ : Unit) w => St w0 h w (var b4 (cGAct x1 a2 c2) 50 :: var b3 (cGAct x0 a1 c1) 50 :: L)) ?_ (fun hk_y6 => ?_)
    · rintro _ w H
      refine WL.sg 1 (by kernel_rfl) ?_
      obtain ⟨y7, hy7, hr⟩ := bnd_cases hr
      refine WL.join 6 (fun (_ : Unit) => [(2, .pointer (some ⟨b3, 0, none⟩)), (3, .pointer (some ⟨b4, 0, none⟩)), (30, .bool y7)]) (fun (_ : Unit) w => St w0 h w (var b4 (cGAct x1 a2 c2) 50 :: var b3 (cGAct x0 a1 c1) 50 :: L)) ?_ (fun hk_y7 => ?_)
      · rintro _ w H
        refine WL.sg 1 (by kernel_rfl) ?_
        obtain ⟨y8, hy8, hr⟩ := bind_cases hr
        refine WL.join 6 (fun (_ : Unit) => [(37, .bool y8)]) (fun (_ : Unit) w => St w0 h w (var b4 (cGAct x1 a2 c2) 50 :: var b3 (cGAct x0 a1 c1) 50 :: L)) ?_ (fun hk_y8 => ?_)
        · rintro _ w H
          refine WL.fin 1 (by kernel_rfl) (by kernel_rfl) ?_
          obtain rfl := Option.some.inj hr
          exact WE.ret ⟨[.bool y8], ⟨⟨(by kernel_rfl), (by kernel_rfl)⟩, trivial⟩, ⟨rfl, (H.keep 2)⟩⟩
        rcases ite_cases hy8 with ⟨ty8, hy8⟩ | ⟨ty8, hy8⟩
        · refine WL.known 31 ty8 (by kernel_rfl) (by kernel_rfl) ?_
          refine WL.sg 1 (by kernel_rfl) ?_
          refine WL.does (by kernel_rfl) (by kernel_rfl) (Does.loadV H 1 rfl 4 (by kernel_rfl) (by kernel_rfl) ?_)
          refine WL.sg 1 (by kernel_rfl) ?_
          refine WL.does (by kernel_rfl) (by kernel_rfl) (Does.loadV H 0 rfl 4 (by kernel_rfl) (by kernel_rfl) ?_)
          obtain ⟨y10, q10, hy8⟩ := bind_cases hy8
          refine WL.does (by kernel_rfl) (by kernel_rfl) (Does.call (c_r09_Values K x0.Args f1 x1.Args f2 H q10) (by kernel_rfl) ?_)
          rintro _ w ⟨rfl, H⟩
          refine WL.sg 1 (by kernel_rfl) ?_
          obtain rfl := Option.some.inj hy8
          exact WL.live [37] (by kernel_rfl) (hk_y8 () _ H)
        · refine WL.known 31 ty8 (by kernel_rfl) (by kernel_rfl) ?_
          refine WL.sg 6 (by kernel_rfl) ?_
          obtain rfl := Option.some.inj hy8
          exact WL.live [37] (by kernel_rfl) (hk_y8 () _ H)
      rcases ite_cases hy7 with ⟨ty7, hy7⟩ | ⟨ty7, hy7⟩
      · refine WL.known 24 ty7 (by kernel_rfl) (by kernel_rfl) ?_
        refine WL.sg 1 (by kernel_rfl) ?_
        refine WL.does (by kernel_rfl) (by kernel_rfl) (Does.loadV H 1 rfl 3 (by kernel_rfl) (by kernel_rfl) ?_)
        refine WL.sg 1 (by kernel_rfl) ?_
        refine WL.does (by kernel_rfl) (by kernel_rfl) (Does.loadV H 0 rfl 3 (by kernel_rfl) (by kernel_rfl) ?_)
        refine WL.sg 2 (by kernel_rfl) ?_
        obtain rfl := hy7
        exact WL.live [2, 3, 30] (by kernel_rfl) (hk_y7 () _ H)
      · refine WL.known 24 ty7 (by kernel_rfl) (by kernel_rfl) ?_
        refine WL.sg 6 (by kernel_rfl) ?_
        obtain rfl := hy7
        exact WL.live [2, 3, 30] (by kernel_rfl) (hk_y7 () _ H)
    rcases ite_cases hy6 with ⟨ty6, hy6⟩ | ⟨ty6, hy6⟩
    · refine WL.known 17 ty6 (by kernel_rfl) (by kernel_rfl) ?_
      refine WL.sg 1 (by kernel_rfl) ?_
      refine WL.does (by kernel_rfl) (by kernel_rfl) (Does.loadV H 1 rfl 2 (by kernel_rfl) (by kernel_rfl) ?_)
      refine WL.sg 1 (by kernel_rfl) ?_
      refine WL.does (by kernel_rfl) (by kernel_rfl) (Does.loadV H 0 rfl 2 (by kernel_rfl) (by kernel_rfl) ?_)
      refine WL.sg 2 (by kernel_rfl) ?_
      obtain rfl := hy6
      exact WL.live [2, 3, 23] (by kernel_rfl) (hk_y6 () _ H)
    · refine WL.known 17 ty6 (by kernel_rfl) (by kernel_rfl) ?_
      refine WL.sg 6 (by kernel_rfl) ?_
      obtain rfl := hy6
      exact WL.live [2, 3, 23] (by kernel_rfl) (hk_y6 () _ H)
  rcases ite_cases hy5 with ⟨ty5, hy5⟩ | ⟨ty5, hy5⟩
  · refine WL.known 10 ty5 (by kernel_rfl) (by kernel_rfl) ?_
    refine WL.sg 1 (by kernel_rfl) ?_
    refine WL.does (by kernel_rfl) (by kernel_rfl) (Does.loadV H 1 rfl 1 (by kernel_rfl) (by kernel_rfl) ?_)
    refine WL.sg 1 (by kernel_rfl) ?_
    refine WL.does (by kernel_rfl) (by kernel_rfl) (Does.loadV H 0 rfl 1 (by kernel_rfl) (by kernel_rfl) ?_)
    refine WL.sg 2 (by kernel_rfl) ?_
    obtain rfl := hy5
    exact WL.live [2, 3, 16] (by kernel_rfl) (hk_y5 () _ H)
  · refine WL.known 10 ty5 (by kernel_rfl) (by kernel_rfl) ?_
    refine WL.sg 6 (by kernel_rfl) ?_
    obtain rfl := hy5
    exact WL.live [2, 3, 16] (by kernel_rfl) (hk_y5 () _ H)
end Go.Proofs.Ytcoepljalekglaa.FrameStill.W
