/- The walk of FrameTells and of what it calls, part 4: printed by a program of this work. -/
import Derived.Test.YtcoepljalekglaaGreatFrameTellsW3
set_option linter.unusedVariables false
set_option linter.unusedSimpArgs false
namespace Go.Proofs.YtcoepljalekglaaGreat.FrameTells.W
open Go.Proofs.YtcoepljalekglaaGreat.G2 Go.Proofs
attribute [local irreducible] WE WL LP WD Does Tells
def r09_Do_j3 (x0 : List GFunc) (y260 : GFrame) (y336 : Int) (y425 : (List GValue)) (y433 : List GValue) (y435 : Int) : Option (GFrame × GAct) :=
  if ((gd ((gd x0 y260.Fn).Code) y260.Pc).Op) == 10 then
    some ({ y260 with Pc := (gd ((gd x0 y260.Fn).Code) y260.Pc).A, Stack := ((y260.Stack.take (w64 ((y260.Stack.length : Int) - y336)).toNat) ++ y425), Locals := y433, Draws := y435 }, (⟨1, 0, 0, 0, []⟩ : GAct))
  else
    if ((gd ((gd x0 y260.Fn).Code) y260.Pc).Op) == 11 then
      if 0 ≤ (0 : Int) ∧ (0 : Int) < (([] : List GValue) ++ (lcut y260.Stack (w64 ((y260.Stack.length : Int) - y336)) (y260.Stack.length : Int))).length then
        if 0 ≤ (0 : Int) ∧ (0 : Int) < (([] : List GValue) ++ (lcut y260.Stack (w64 ((y260.Stack.length : Int) - y336)) (y260.Stack.length : Int))).length then
          bnd (r04_Of ((gd (([] : List GValue) ++ (lcut y260.Stack (w64 ((y260.Stack.length : Int) - y336)) (y260.Stack.length : Int))) (0 : Int)).Re) ((gd (([] : List GValue) ++ (lcut y260.Stack (w64 ((y260.Stack.length : Int) - y336)) (y260.Stack.length : Int))) (0 : Int)).Im)) fun y443 =>
          if (y443.Re == 0) && ((y443.Im == 0) && true) then
            some ({ y260 with Pc := (gd ((gd x0 y260.Fn).Code) y260.Pc).A, Stack := ((y260.Stack.take (w64 ((y260.Stack.length : Int) - y336)).toNat) ++ y425), Locals := y433, Draws := y435 }, (⟨1, 0, 0, 0, []⟩ : GAct))
          else
            some ({ y260 with Pc := w64 (y260.Pc + 1), Stack := ((y260.Stack.take (w64 ((y260.Stack.length : Int) - y336)).toNat) ++ y425), Locals := y433, Draws := y435 }, (⟨1, 0, 0, 0, []⟩ : GAct))
        else none
      else none
    else
      some ({ y260 with Pc := w64 (y260.Pc + 1), Stack := ((y260.Stack.take (w64 ((y260.Stack.length : Int) - y336)).toNat) ++ y425), Locals := y433, Draws := y435 }, (⟨1, 0, 0, 0, []⟩ : GAct))
def r09_Do_j2 (x0 : List GFunc) (y260 : GFrame) (y336 : Int) (y425 : (List GValue)) (y433 : List GValue) : Option (GFrame × GAct) :=
  if ((gd ((gd x0 y260.Fn).Code) y260.Pc).Op) == 12 then
    r09_Do_j3 x0 y260 y336 y425 y433 (w64 (y260.Draws + 1))
  else
    r09_Do_j3 x0 y260 y336 y425 y433 y260.Draws
def r09_Do_j1 (K : Nat) (x0 : List GFunc) (y260 : GFrame) (y336 : Int) : Option (GFrame × GAct) :=
  if 0 ≤ (w64 ((y260.Stack.length : Int) - y336)) ∧ (w64 ((y260.Stack.length : Int) - y336)) ≤ (y260.Stack.length : Int) then
    (r09_lays K y260 (⟨(gd ((gd x0 y260.Fn).Code) y260.Pc).Op, (gd ((gd x0 y260.Fn).Code) y260.Pc).A, (gd ((gd x0 y260.Fn).Code) y260.Pc).B⟩ : GInstr) (([] : List GValue) ++ (lcut y260.Stack (w64 ((y260.Stack.length : Int) - y336)) (y260.Stack.length : Int)))).bind fun y425 =>
    if ((y260.Stack.take (w64 ((y260.Stack.length : Int) - y336)).toNat).length + y425.length) * 16 ≤ LIM then
      if ((gd ((gd x0 y260.Fn).Code) y260.Pc).Op) == 2 then
        if 0 ≤ (0 : Int) ∧ (0 : Int) < (([] : List GValue) ++ (lcut y260.Stack (w64 ((y260.Stack.length : Int) - y336)) (y260.Stack.length : Int))).length then
          if 0 ≤ ((gd ((gd x0 y260.Fn).Code) y260.Pc).A) ∧ ((gd ((gd x0 y260.Fn).Code) y260.Pc).A) < y260.Locals.length then
            r09_Do_j2 x0 y260 y336 y425 (y260.Locals.set ((gd ((gd x0 y260.Fn).Code) y260.Pc).A).toNat (⟨(gd (([] : List GValue) ++ (lcut y260.Stack (w64 ((y260.Stack.length : Int) - y336)) (y260.Stack.length : Int))) (0 : Int)).Re, (gd (([] : List GValue) ++ (lcut y260.Stack (w64 ((y260.Stack.length : Int) - y336)) (y260.Stack.length : Int))) (0 : Int)).Im⟩ : GValue))
          else none
        else none
      else
        r09_Do_j2 x0 y260 y336 y425 y260.Locals
    else none
  else none
def r09_Do (K : Nat) (x0 : List GFunc) (x1 : GFrame) : Option (GFrame × GAct) :=
  bnd (
      if x1.State != 0 then
        true
      else
        decide (x1.Fn < 0)) fun y257 =>
  bnd (
      if y257 then
        true
      else
        decide (x1.Fn ≥ (x0.length : Int))) fun y258 =>
  if y258 then
    some (x1, (⟨0, 0, 0, 0, []⟩ : GAct))
  else
    (r09_Copy x1).bind fun y260 =>
    if 0 ≤ y260.Fn ∧ y260.Fn < x0.length then
      if decide (y260.Pc < 0) then
        bnd (r09_trap y260 4) fun y306 =>
        some (y306.1, y306.2)
      else
        if decide (y260.Pc ≥ (((gd x0 y260.Fn).Code).length : Int)) then
          bnd (r09_trap y260 4) fun y315 =>
          some (y315.1, y315.2)
        else
          if 0 ≤ (gmax y260.Pc 0) ∧ (gmax y260.Pc 0) < ((gd x0 y260.Fn).Code).length then
            bnd (r09_there x0 y260 (⟨(gd ((gd x0 y260.Fn).Code) (gmax y260.Pc 0)).Op, (gd ((gd x0 y260.Fn).Code) (gmax y260.Pc 0)).A, (gd ((gd x0 y260.Fn).Code) (gmax y260.Pc 0)).B⟩ : GInstr)) fun y324 =>
            if !y324 then
              bnd (r09_trap y260 4) fun y329 =>
              some (y329.1, y329.2)
            else
              if 0 ≤ y260.Pc ∧ y260.Pc < ((gd x0 y260.Fn).Code).length then
                (r09_Off x0 (⟨(gd ((gd x0 y260.Fn).Code) y260.Pc).Op, (gd ((gd x0 y260.Fn).Code) y260.Pc).A, (gd ((gd x0 y260.Fn).Code) y260.Pc).B⟩ : GInstr)).bind fun y336 =>
                bnd (
                    if decide (y336 < 0) then
                      true
                    else
                      decide ((w64 ((y260.Stack.length : Int) - y336)) < 0)) fun y356 =>
                bnd (
                    if y356 then
                      true
                    else
                      bnd (r06_On ((gd ((gd x0 y260.Fn).Code) y260.Pc).Op)) fun y505 =>
                      bnd (
                          if decide (y505 > 0) then
                            bnd (r06_On ((gd ((gd x0 y260.Fn).Code) y260.Pc).Op)) fun y508 =>
                            decide ((w64 ((w64 ((y260.Stack.length : Int) - y336)) + y508)) > 16)
                          else
                            false) fun y506 =>
                      y506) fun y357 =>
                if y357 then
                  bnd (r09_trap y260 3) fun y366 =>
                  some (y366.1, y366.2)
                else
                  if 0 ≤ (w64 ((y260.Stack.length : Int) - y336)) ∧ (w64 ((y260.Stack.length : Int) - y336)) ≤ (y260.Stack.length : Int) then
                    if (([] : List GValue).length + (lcut y260.Stack (w64 ((y260.Stack.length : Int) - y336)) (y260.Stack.length : Int)).length) * 16 ≤ LIM then
                      if ((gd ((gd x0 y260.Fn).Code) y260.Pc).Op) == 13 then
                        (r09_spawn y260 (⟨(gd ((gd x0 y260.Fn).Code) y260.Pc).Op, (gd ((gd x0 y260.Fn).Code) y260.Pc).A, (gd ((gd x0 y260.Fn).Code) y260.Pc).B⟩ : GInstr) (([] : List GValue) ++ (lcut y260.Stack (w64 ((y260.Stack.length : Int) - y336)) (y260.Stack.length : Int)))).bind fun y460 =>
                        some (y460.1, y460.2)
                      else
                        if ((gd ((gd x0 y260.Fn).Code) y260.Pc).Op) == 14 then
                          (r09_join y260 (⟨(gd ((gd x0 y260.Fn).Code) y260.Pc).Op, (gd ((gd x0 y260.Fn).Code) y260.Pc).A, (gd ((gd x0 y260.Fn).Code) y260.Pc).B⟩ : GInstr)).bind fun y466 =>
                          some (y466.1, y466.2)
                        else
                          if ((gd ((gd x0 y260.Fn).Code) y260.Pc).Op) == 15 then
                            if 0 ≤ (w64 ((y260.Stack.length : Int) - y336)) ∧ (w64 ((y260.Stack.length : Int) - y336)) ≤ (y260.Stack.length : Int) then
                              if 0 ≤ (0 : Int) ∧ (0 : Int) < (([] : List GValue) ++ (lcut y260.Stack (w64 ((y260.Stack.length : Int) - y336)) (y260.Stack.length : Int))).length then
                                bnd (r09_end ({ y260 with Stack := (y260.Stack.take (w64 ((y260.Stack.length : Int) - y336)).toNat) }) (⟨0, (⟨(gd (([] : List GValue) ++ (lcut y260.Stack (w64 ((y260.Stack.length : Int) - y336)) (y260.Stack.length : Int))) (0 : Int)).Re, (gd (([] : List GValue) ++ (lcut y260.Stack (w64 ((y260.Stack.length : Int) - y336)) (y260.Stack.length : Int))) (0 : Int)).Im⟩ : GValue)⟩ : GOut)) fun y477 =>
                                some (y477.1, y477.2)
                              else none
                            else none
                          else
                            if ((gd ((gd x0 y260.Fn).Code) y260.Pc).Op) == 16 then
                              bnd (r09_trap y260 ((gd ((gd x0 y260.Fn).Code) y260.Pc).A)) fun y486 =>
                              some (y486.1, y486.2)
                            else
                              if ((gd ((gd x0 y260.Fn).Code) y260.Pc).Op) == 6 then
                                if 0 ≤ (0 : Int) ∧ (0 : Int) < (([] : List GValue) ++ (lcut y260.Stack (w64 ((y260.Stack.length : Int) - y336)) (y260.Stack.length : Int))).length then
                                  if 0 ≤ (1 : Int) ∧ (1 : Int) < (([] : List GValue) ++ (lcut y260.Stack (w64 ((y260.Stack.length : Int) - y336)) (y260.Stack.length : Int))).length then
                                    (r04_Div K (⟨(gd (([] : List GValue) ++ (lcut y260.Stack (w64 ((y260.Stack.length : Int) - y336)) (y260.Stack.length : Int))) (0 : Int)).Re, (gd (([] : List GValue) ++ (lcut y260.Stack (w64 ((y260.Stack.length : Int) - y336)) (y260.Stack.length : Int))) (0 : Int)).Im⟩ : GValue) (⟨(gd (([] : List GValue) ++ (lcut y260.Stack (w64 ((y260.Stack.length : Int) - y336)) (y260.Stack.length : Int))) (1 : Int)).Re, (gd (([] : List GValue) ++ (lcut y260.Stack (w64 ((y260.Stack.length : Int) - y336)) (y260.Stack.length : Int))) (1 : Int)).Im⟩ : GValue)).bind fun y494 =>
                                    if !y494.2 then
                                      bnd (r09_trap y260 1) fun y500 =>
                                      some (y500.1, y500.2)
                                    else
                                      r09_Do_j1 K x0 y260 y336
                                  else none
                                else none
                              else
                                r09_Do_j1 K x0 y260 y336
                    else none
                  else none
              else none
          else none
    else none
set_option maxRecDepth 100000 in
set_option maxHeartbeats 4000000 in
theorem c_r09_Do {w0 w : World} {h : Gh} {L : List Ent} (K : Nat) (x0 : List GFunc) {a1 : Option Addr} {c1 : Nat} (f1 : Sl rGFunc 48 h a1 c1 x0) (x1 : GFrame) {a2 : Option Addr} {c2 : Nat} {a3 : Option Addr} {c3 : Nat} {a4 : Option Addr} {c4 : Nat} (f2 : Sl rGValue 16 h a2 c2 x1.Stack) (f3 : Sl rGValue 16 h a3 c3 x1.Locals) (f4 : Sl rGSlot 48 h a4 c4 x1.Slots) (H : St w0 h w L) {r : GFrame × GAct} (hr : r09_Do K x0 x1 = some r) : Calls Tryz.prog 8 #[.slice a1 x0.length c1, .agg (cGFrame x1 a2 c2 a3 c3 a4 c4).toArray] w (fun e w' => ∃ v, e = .returned v ∧ ∃ (h' : Gh) (a901 : Option Addr) (c901 : Nat) (a902 : Option Addr) (c902 : Nat) (a903 : Option Addr) (c903 : Nat) (a904 : Option Addr) (c904 : Nat), v = .tuple #[.agg (cGFrame r.1 a901 c901 a902 c902 a903 c903).toArray, .agg (cGAct r.2 a904 c904).toArray] ∧ h.le h' ∧ Sl rGValue 16 h' a901 c901 r.1.Stack ∧ Sl rGValue 16 h' a902 c902 r.1.Locals ∧ Sl rGSlot 48 h' a903 c903 r.1.Slots ∧ Sl rGValue 16 h' a904 c904 r.2.Args ∧ St w0 h' w' (L)) := by
  refine calls_of (args := [.slice a1 x0.length c1, .agg (cGFrame x1 a2 c2 a3 c3 a4 c4).toArray]) (n := 224) (rs := [.cell 4 33, .cell 5 40]) Tryz.func8 rfl rfl rfl rfl rfl ?_
  unfold r09_Do at hr
  refine WE.seq ?_
  refine WE.region ?_
  refine WL.does kr kr (Does.box H (cGFrame x1 a2 c2 a3 c3 a4 c4) kr fun b251 w H => ?_)
  refine WL.does kr kr (Does.alloc H (cGFrame (⟨0, 0, [], [], [], 0, 0, 0, 0, 0, (⟨0, (⟨0, 0⟩ : GValue)⟩ : GOut), (⟨0, 0⟩ : GRef), 0⟩ : GFrame) none 0 none 0 none 0) kr fun b252 w H => ?_)
  refine WL.does kr kr (Does.alloc H (cGAct (⟨0, 0, 0, 0, []⟩ : GAct) none 0) kr fun b253 w H => ?_)
  refine WL.fin 0 kr kr ?_
  refine WE.seq ?_
  refine WE.seq ?_
  refine WE.region ?_
  refine WL.sg 1 kr ?_
  refine WL.does kr kr (Does.loadV H 2 rfl 8 kr kr ?_)
  refine WL.sg 2 kr ?_
  obtain ⟨y257, hy257, hr⟩ := bnd_cases hr
  refine WL.join 4 (fun (_ : Unit) => [(0, .slice a1 x0.length c1), (3, .pointer (some ⟨b251, 0, none⟩)), (4, .pointer (some ⟨b252, 0, none⟩)), (5, .pointer (some ⟨b253, 0, none⟩)), (21, .bool y257)]) (fun (_ : Unit) w => St w0 h w (var b253 (cGAct (⟨0, 0, 0, 0, []⟩ : GAct) none 0) 40 :: var b252 (cGFrame (⟨0, 0, [], [], [], 0, 0, 0, 0, 0, (⟨0, (⟨0, 0⟩ : GValue)⟩ : GOut), (⟨0, 0⟩ : GRef), 0⟩ : GFrame) none 0 none 0 none 0) 33 :: var b251 (cGFrame x1 a2 c2 a3 c3 a4 c4) 33 :: L)) ?_ (fun hk_y257 => ?_)
  {
  rintro _ w H
  refine WL.sg 1 kr ?_
  obtain ⟨y258, hy258, hr⟩ := bnd_cases hr
  refine WL.join 6 (fun (_ : Unit) => [(0, .slice a1 x0.length c1), (3, .pointer (some ⟨b251, 0, none⟩)), (4, .pointer (some ⟨b252, 0, none⟩)), (5, .pointer (some ⟨b253, 0, none⟩)), (28, .bool y258)]) (fun (_ : Unit) w => St w0 h w (var b253 (cGAct (⟨0, 0, 0, 0, []⟩ : GAct) none 0) 40 :: var b252 (cGFrame (⟨0, 0, [], [], [], 0, 0, 0, 0, 0, (⟨0, (⟨0, 0⟩ : GValue)⟩ : GOut), (⟨0, 0⟩ : GRef), 0⟩ : GFrame) none 0 none 0 none 0) 33 :: var b251 (cGFrame x1 a2 c2 a3 c3 a4 c4) 33 :: L)) ?_ (fun hk_y258 => ?_)
  {
  rintro _ w H
  refine WL.fin 0 kr kr ?_
  rcases ite_cases hr with ⟨t259, hr⟩ | ⟨t259, hr⟩
  {
  refine WE.yes kr (b := y258) kr t259 ?_
  refine WE.seq ?_
  refine WE.region ?_
  refine WL.does kr kr (Does.loadV H 2 rfl 0 kr kr ?_)
  refine WL.sg 1 kr ?_
  refine WL.does kr kr (Does.storeE H 1 (cGFrame x1 a2 c2 a3 c3 a4 c4) rfl (q := 0) kr kr kr fun w H => ?_)
  refine WL.does kr kr (Does.storeE H 0 (cGAct (⟨0, 0, 0, 0, []⟩ : GAct) none 0) rfl (q := 0) kr kr kr fun w H => ?_)
  refine WL.fin 0 kr kr ?_
  obtain rfl := Option.some.inj hr
  exact WE.ret ⟨[.agg (cGFrame x1 a2 c2 a3 c3 a4 c4).toArray, .agg (cGAct (⟨0, 0, 0, 0, []⟩ : GAct) none 0).toArray], ⟨⟨kr, ⟨b252, 0, none⟩, kr, H.loadVar 1 rfl 0 kr⟩, ⟨kr, ⟨b253, 0, none⟩, kr, H.loadVar 0 rfl 0 kr⟩, trivial⟩, ⟨h, a2, c2, a3, c3, a4, c4, none, 0, rfl, (Gh.refl _), f2, f3, f4, (Sl.nil _ _ (Nat.zero_le _)), (H.keep 3)⟩⟩
  }
  {
  refine WE.no kr (b := y258) kr t259 ?_
  refine WE.skip ?_
  refine WE.seq ?_
  refine WE.region ?_
  refine WL.does kr kr (Does.loadV H 2 rfl 0 kr kr ?_)
  obtain ⟨y260, q260, hr⟩ := bind_cases hr
  refine WL.does kr kr (Does.call (c_r09_Copy x1 f2 f3 f4 H q260) kr ?_)
  rintro _ w ⟨h260, a261, c261, a262, c262, a263, c263, rfl, le260, H⟩
  refine WL.does kr kr (Does.alloc H (cGFrame (⟨0, 0, [], [], [], 0, 0, 0, 0, 0, (⟨0, (⟨0, 0⟩ : GValue)⟩ : GOut), (⟨0, 0⟩ : GRef), 0⟩ : GFrame) none 0 none 0 none 0) kr fun b267 w H => ?_)
  refine WL.does kr kr (Does.storeE H 0 (cGFrame y260 a261 c261 a262 c262 a263 c263) rfl (q := 0) kr kr kr fun w H => ?_)
  refine WL.fin 0 kr kr ?_
  refine WE.seq ?_
  refine WE.region ?_
  refine WL.sg 2 kr ?_
  refine WL.does kr kr (Does.loadV H 0 rfl 0 kr kr ?_)
  obtain ⟨⟨g0_268, g1_268⟩, hr⟩ := grd_cases hr
  obtain ⟨b268, p268, C268, e268, fr268, cs268, rfl, hb268, hc268, ⟨a269, c269, rfl, f269⟩⟩ := (f1.up le260).at g0_268 g1_268
  refine WL.does kr kr (Does.tells (.idx b268 (p268) x0.length c1 y260.Fn 4 kr kr g0_268 g1_268 kr) ?_)
  refine WL.sg 1 kr ?_
  refine WL.does kr kr (Does.loadR H hb268 hc268 3 kr kr ?_)
  refine WL.fin 1 kr kr ?_
  refine WE.seq ?_
  refine WE.seq ?_
  refine WE.draws mo [0, 4, 5, 6, 7] (ρ' := [(0, .slice (some ⟨b268, p268, none⟩) x0.length c1), (4, .pointer (some ⟨b252, 0, none⟩)), (5, .pointer (some ⟨b253, 0, none⟩)), (6, .pointer (some ⟨b267, 0, none⟩)), (7, .slice a269 ((gd x0 y260.Fn).Code).length c269)]) kr fun w e1 e2 e3 e4 => ?_
  have H := H.same e1 e2 e3 e4
  clear e1 e2 e3 e4
  refine WD.know [0] kr ?_
  refine WD.told 1 40 (.int .i64 y260.Pc) kr kr ?_
  refine WD.know [2] kr ?_
  refine WD.know [3] kr ?_
  rcases ite_cases hr with ⟨t302, hr⟩ | ⟨t302, hr⟩
  {
  refine WD.known 42 t302 kr kr ?_
  refine WD.know [4] kr ?_
  refine WD.know [5] kr ?_
  refine WD.know [6] kr ?_
  refine WD.know [7] kr ?_
  refine WD.know [8] kr ?_
  refine WD.know [9] kr ?_
  refine WD.know [10] kr ?_
  refine WD.know [11] kr ?_
  refine WD.know [12] kr ?_
  refine WD.know [13] kr ?_
  refine WD.know [14] kr ?_
  refine WD.know [15] kr ?_
  refine WD.know [16] kr ?_
  refine WD.know [17] kr ?_
  refine WD.know [18] kr ?_
  refine WD.skipped 19 kr rfl (Floats.of [18, 17, 16, 15, 14, 13, 12, 11, 10, 9, 8, 7, 6, 5, 4, 2, 0] [3, 1] kr (Floats.pure _ kr kr) (.cons (.tells rfl kr kr (.calmB t302 kr)) (.cons (.tells rfl kr rfl (.loadV H 0 rfl 1 kr kr)) .nil))) kr kr ?_
  refine WD.know [20] kr ?_
  refine WD.know [21] kr ?_
  refine WD.fin kr (Floats.of [21, 20, 17, 16, 15, 14, 13, 9, 8, 7, 6, 5, 4, 2, 0] [3, 1] kr (Floats.pure _ kr kr) (.cons (.tells rfl kr kr (.calmB t302 kr)) (.cons (.tells rfl kr rfl (.loadV H 0 rfl 1 kr kr)) .nil))) kr kr ?_
  refine WE.yes kr (b := true) kr rfl ?_
  refine WE.seq ?_
  refine WE.region ?_
  refine WL.does kr kr (Does.loadV H 0 rfl 0 kr kr ?_)
  obtain ⟨y306, q306, hr⟩ := bnd_cases hr
  obtain ⟨h303, le303, f303, H⟩ := (H.front 1 rfl).rowFreeze (Gh.refl _)
  obtain ⟨h304, le304, f304, H⟩ := (H.front 1 rfl).rowFreeze le303
  obtain ⟨h305, le305, f305, H⟩ := (H.front 1 rfl).rowFreeze (le303.trans le304)
  refine WL.does kr kr (Does.call (c_r09_trap y260 ((f303.up le304).up le305) (f304.up le305) f305 4 H q306) kr ?_)
  rintro _ w ⟨h306, a307, c307, a308, c308, a309, c309, a310, c310, rfl, le306, f307, f308, f309, f310, H⟩
  refine WL.sg 2 kr ?_
  refine WL.does kr kr (Does.storeE H 2 (cGFrame y306.1 a307 c307 a308 c308 a309 c309) rfl (q := 0) kr kr kr fun w H => ?_)
  refine WL.does kr kr (Does.storeE H 1 (cGAct y306.2 a310 c310) rfl (q := 0) kr kr kr fun w H => ?_)
  refine WL.fin 0 kr kr ?_
  obtain rfl := Option.some.inj hr
  exact WE.ret ⟨[.agg (cGFrame y306.1 a307 c307 a308 c308 a309 c309).toArray, .agg (cGAct y306.2 a310 c310).toArray], ⟨⟨kr, ⟨b252, 0, none⟩, kr, H.loadVar 2 rfl 0 kr⟩, ⟨kr, ⟨b253, 0, none⟩, kr, H.loadVar 1 rfl 0 kr⟩, trivial⟩, ⟨h306, a307, c307, a308, c308, a309, c309, a310, c310, rfl, ((((le260.trans le303).trans le304).trans le305).trans le306), f307, f308, f309, f310, (H.keep 4)⟩⟩
  }
  {
  refine WD.known 42 t302 kr kr ?_
  refine WD.know [4] kr ?_
  refine WD.told 5 44 (.int .i64 y260.Pc) kr kr ?_
  refine WD.know [6] kr ?_
  refine WD.know [7] kr ?_
  refine WD.know [8] kr ?_
  refine WD.know [9] kr ?_
  refine WD.know [10] kr ?_
  rcases ite_cases hr with ⟨t311, hr⟩ | ⟨t311, hr⟩
  {
  refine WD.known 49 t311 kr kr ?_
  refine WD.know [11] kr ?_
  refine WD.know [12] kr ?_
  refine WD.know [13] kr ?_
  refine WD.know [14] kr ?_
  refine WD.know [15] kr ?_
  refine WD.know [16] kr ?_
  refine WD.know [17] kr ?_
  refine WD.know [18] kr ?_
  refine WD.skipped 19 kr rfl (Floats.of [18, 17, 16, 15, 14, 13, 12, 11, 9, 8, 7, 6, 4, 2, 0] [10, 5, 3, 1] kr (Floats.pure _ kr kr) (.cons (.tells rfl kr kr (.calmB t311 kr)) (.cons (.tells rfl kr rfl (.loadV H 0 rfl 1 kr kr)) (.cons (.tells rfl kr kr (.calmB t302 kr)) (.cons (.tells rfl kr rfl (.loadV H 0 rfl 1 kr kr)) .nil))))) kr kr ?_
  refine WD.know [20] kr ?_
  refine WD.know [21] kr ?_
  refine WD.fin kr (Floats.of [21, 20, 17, 16, 15, 14, 13, 9, 8, 7, 6, 4, 2, 0] [5, 3, 1] kr (Floats.pure _ kr kr) (.cons (.tells rfl kr rfl (.loadV H 0 rfl 1 kr kr)) (.cons (.tells rfl kr kr (.calmB t302 kr)) (.cons (.tells rfl kr rfl (.loadV H 0 rfl 1 kr kr)) .nil)))) kr kr ?_
  refine WE.yes kr (b := true) kr rfl ?_
  refine WE.seq ?_
  refine WE.region ?_
  refine WL.does kr kr (Does.loadV H 0 rfl 0 kr kr ?_)
  obtain ⟨y315, q315, hr⟩ := bnd_cases hr
  obtain ⟨h312, le312, f312, H⟩ := (H.front 1 rfl).rowFreeze (Gh.refl _)
  obtain ⟨h313, le313, f313, H⟩ := (H.front 1 rfl).rowFreeze le312
  obtain ⟨h314, le314, f314, H⟩ := (H.front 1 rfl).rowFreeze (le312.trans le313)
  refine WL.does kr kr (Does.call (c_r09_trap y260 ((f312.up le313).up le314) (f313.up le314) f314 4 H q315) kr ?_)
  rintro _ w ⟨h315, a316, c316, a317, c317, a318, c318, a319, c319, rfl, le315, f316, f317, f318, f319, H⟩
  refine WL.sg 2 kr ?_
  refine WL.does kr kr (Does.storeE H 2 (cGFrame y315.1 a316 c316 a317 c317 a318 c318) rfl (q := 0) kr kr kr fun w H => ?_)
  refine WL.does kr kr (Does.storeE H 1 (cGAct y315.2 a319 c319) rfl (q := 0) kr kr kr fun w H => ?_)
  refine WL.fin 0 kr kr ?_
  obtain rfl := Option.some.inj hr
  exact WE.ret ⟨[.agg (cGFrame y315.1 a316 c316 a317 c317 a318 c318).toArray, .agg (cGAct y315.2 a319 c319).toArray], ⟨⟨kr, ⟨b252, 0, none⟩, kr, H.loadVar 2 rfl 0 kr⟩, ⟨kr, ⟨b253, 0, none⟩, kr, H.loadVar 1 rfl 0 kr⟩, trivial⟩, ⟨h315, a316, c316, a317, c317, a318, c318, a319, c319, rfl, ((((le260.trans le312).trans le313).trans le314).trans le315), f316, f317, f318, f319, (H.keep 4)⟩⟩
  }
  {
  refine WD.known 49 t311 kr kr ?_
  refine WD.know [11] kr ?_
  refine WD.told 12 51 (.agg (cGFrame y260 a261 c261 a262 c262 a263 c263).toArray) kr kr ?_
  refine WD.know [13] kr ?_
  refine WD.know [14] kr ?_
  refine WD.told 15 54 (.int .i64 y260.Pc) kr kr ?_
  refine WD.know [16] kr ?_
  obtain ⟨⟨g0_320, g1_320⟩, hr⟩ := grd_cases hr
  obtain ⟨b320, p320, C320, e320, fr320, cs320, rfl, hb320, hc320, rfl⟩ := f269.at g0_320 g1_320
  refine WD.told 17 56 (.pointer (some ⟨b320, p320 + (gmax y260.Pc 0).toNat * 3, none⟩)) kr kr ?_
  refine WD.told 18 57 (.agg #[.int .i64 ((gd ((gd x0 y260.Fn).Code) (gmax y260.Pc 0)).Op), .int .i64 ((gd ((gd x0 y260.Fn).Code) (gmax y260.Pc 0)).A), .int .i64 ((gd ((gd x0 y260.Fn).Code) (gmax y260.Pc 0)).B)]) kr kr ?_
  obtain ⟨y324, q324, hr⟩ := bnd_cases hr
  refine WD.does 19 kr rfl (Floats.of [16, 14, 13, 11, 9, 8, 7, 6, 4, 2, 0] [18, 17, 15, 12, 10, 5, 3, 1] kr (Floats.pure _ kr kr) (.cons (.tells rfl kr rfl (.loadR H hb320 hc320 0 kr kr)) (.cons (.tells rfl kr kr (.idx b320 (p320) ((gd x0 y260.Fn).Code).length c269 (gmax y260.Pc 0) 3 kr kr g0_320 g1_320 kr)) (.cons (.tells rfl kr rfl (.loadV H 0 rfl 1 kr kr)) (.cons (.tells rfl kr rfl (.loadV H 0 rfl 0 kr kr)) (.cons (.tells rfl kr kr (.calmB t311 kr)) (.cons (.tells rfl kr rfl (.loadV H 0 rfl 1 kr kr)) (.cons (.tells rfl kr kr (.calmB t302 kr)) (.cons (.tells rfl kr rfl (.loadV H 0 rfl 1 kr kr)) .nil))))))))) kr kr ?_
  have H := (((((((H.front 6 rfl).front 6 rfl).front 6 rfl).front 3 rfl).front 6 rfl).front 6 rfl).front 6 rfl)
  obtain ⟨h321, le321, f321, H, bk321⟩ := (H).rowLendX (Gh.refl _)
  obtain ⟨h322, le322, f322, H, bk322⟩ := (H).rowLendX le321
  obtain ⟨h323, le323, f323, H, bk323⟩ := (H).rowLendX (le321.trans le322)
  refine Does.call (c_r09_there x0 ((((f1.up le260).up le321).up le322).up le323) y260 ((f321.up le322).up le323) (f322.up le323) f323 (⟨(gd ((gd x0 y260.Fn).Code) (gmax y260.Pc 0)).Op, (gd ((gd x0 y260.Fn).Code) (gmax y260.Pc 0)).A, (gd ((gd x0 y260.Fn).Code) (gmax y260.Pc 0)).B⟩ : GInstr) H q324) kr ?_
  rintro _ w ⟨rfl, H⟩
  have H := bk323 _ H
  have H := bk322 _ H
  have H := bk321 _ H
  refine WD.know [20] kr ?_
  refine WD.know [21] kr ?_
  refine WD.fin kr (Floats.of [21, 20, 16, 14, 13, 9, 8, 7, 6, 4, 2, 0] [17, 15, 5, 3, 1] kr (Floats.pure _ kr kr) (.cons (.tells rfl kr kr (.idx b320 (p320) ((gd x0 y260.Fn).Code).length c269 (gmax y260.Pc 0) 3 kr kr g0_320 g1_320 kr)) (.cons (.tells rfl kr rfl (.loadV H 3 rfl 1 kr kr)) (.cons (.tells rfl kr rfl (.loadV H 3 rfl 1 kr kr)) (.cons (.tells rfl kr kr (.calmB t302 kr)) (.cons (.tells rfl kr rfl (.loadV H 3 rfl 1 kr kr)) .nil)))))) kr kr ?_
  rcases ite_cases hr with ⟨t325, hr⟩ | ⟨t325, hr⟩
  {
  refine WE.yes kr (b := !y324) kr t325 ?_
  refine WE.seq ?_
  refine WE.region ?_
  refine WL.does kr kr (Does.loadV H 3 rfl 0 kr kr ?_)
  obtain ⟨y329, q329, hr⟩ := bnd_cases hr
  obtain ⟨h326, le326, f326, H⟩ := (H).rowFreeze (Gh.refl _)
  obtain ⟨h327, le327, f327, H⟩ := (H).rowFreeze le326
  obtain ⟨h328, le328, f328, H⟩ := (H).rowFreeze (le326.trans le327)
  refine WL.does kr kr (Does.call (c_r09_trap y260 ((f326.up le327).up le328) (f327.up le328) f328 4 H q329) kr ?_)
  rintro _ w ⟨h329, a330, c330, a331, c331, a332, c332, a333, c333, rfl, le329, f330, f331, f332, f333, H⟩
  refine WL.sg 2 kr ?_
  refine WL.does kr kr (Does.storeE H 2 (cGFrame y329.1 a330 c330 a331 c331 a332 c332) rfl (q := 0) kr kr kr fun w H => ?_)
  refine WL.does kr kr (Does.storeE H 1 (cGAct y329.2 a333 c333) rfl (q := 0) kr kr kr fun w H => ?_)
  refine WL.fin 0 kr kr ?_
  obtain rfl := Option.some.inj hr
  exact WE.ret ⟨[.agg (cGFrame y329.1 a330 c330 a331 c331 a332 c332).toArray, .agg (cGAct y329.2 a333 c333).toArray], ⟨⟨kr, ⟨b252, 0, none⟩, kr, H.loadVar 2 rfl 0 kr⟩, ⟨kr, ⟨b253, 0, none⟩, kr, H.loadVar 1 rfl 0 kr⟩, trivial⟩, ⟨h329, a330, c330, a331, c331, a332, c332, a333, c333, rfl, ((((le260.trans le326).trans le327).trans le328).trans le329), f330, f331, f332, f333, (H.keep 4)⟩⟩
  }
  {
  refine WE.no kr (b := !y324) kr t325 ?_
  refine WE.skip ?_
  refine WE.seq ?_
  refine WE.region ?_
  refine WL.sg 2 kr ?_
  refine WL.does kr kr (Does.loadV H 3 rfl 1 kr kr ?_)
  obtain ⟨⟨g0_334, g1_334⟩, hr⟩ := grd_cases hr
  obtain ⟨C334, e334, fr334, cs334, hb334, hc334, rfl⟩ := f269.at2 g0_334 g1_334
  refine WL.does kr kr (Does.tells (.idx b320 (p320) ((gd x0 y260.Fn).Code).length c269 y260.Pc 3 kr kr g0_334 g1_334 kr) ?_)
  refine WL.does kr kr (Does.loadR H hb334 hc334 0 kr kr ?_)
  refine WL.does kr kr (Does.alloc H [.int .i64 0, .int .i64 0, .int .i64 0] kr fun b335 w H => ?_)
  refine WL.does kr kr (Does.storeE H 0 [.int .i64 ((gd ((gd x0 y260.Fn).Code) y260.Pc).Op), .int .i64 ((gd ((gd x0 y260.Fn).Code) y260.Pc).A), .int .i64 ((gd ((gd x0 y260.Fn).Code) y260.Pc).B)] rfl (q := 0) kr kr kr fun w H => ?_)
  refine WL.fin 0 kr kr ?_
  refine WE.seq ?_
  refine WE.region ?_
  refine WL.sg 1 kr ?_
  refine WL.does kr kr (Does.loadV H 0 rfl 0 kr kr ?_)
  obtain ⟨y336, q336, hr⟩ := bind_cases hr
  refine WL.does kr kr (Does.call (c_r09_Off x0 (f1.up le260) (⟨(gd ((gd x0 y260.Fn).Code) y260.Pc).Op, (gd ((gd x0 y260.Fn).Code) y260.Pc).A, (gd ((gd x0 y260.Fn).Code) y260.Pc).B⟩ : GInstr) H q336) kr ?_)
  rintro _ w ⟨rfl, H⟩
  refine WL.fin 1 kr kr ?_
  refine WE.seq ?_
  refine WE.region ?_
  refine WL.sg 1 kr ?_
  refine WL.does kr kr (Does.loadV H 4 rfl 2 kr kr ?_)
  refine WL.fin 4 kr kr ?_
  refine WE.seq ?_
  refine WE.seq ?_
  refine WE.region ?_
  refine WL.sg 3 kr ?_
  obtain ⟨y356, hy356, hr⟩ := bnd_cases hr
  refine WL.join 3 (fun (_ : Unit) => [(4, .pointer (some ⟨b252, 0, none⟩)), (5, .pointer (some ⟨b253, 0, none⟩)), (6, .pointer (some ⟨b267, 0, none⟩)), (8, .pointer (some ⟨b335, 0, none⟩)), (10, .int .i64 (w64 ((y260.Stack.length : Int) - y336))), (83, .bool y356)]) (fun (_ : Unit) w => St w0 h260 w (var b335 [.int .i64 ((gd ((gd x0 y260.Fn).Code) y260.Pc).Op), .int .i64 ((gd ((gd x0 y260.Fn).Code) y260.Pc).A), .int .i64 ((gd ((gd x0 y260.Fn).Code) y260.Pc).B)] 58 :: row rGValue 16 h260 a261 c261 y260.Stack :: row rGValue 16 h260 a262 c262 y260.Locals :: row rGSlot 48 h260 a263 c263 y260.Slots :: var b267 (cGFrame y260 a261 c261 a262 c262 a263 c263) 33 :: var b253 (cGAct (⟨0, 0, 0, 0, []⟩ : GAct) none 0) 40 :: var b252 (cGFrame (⟨0, 0, [], [], [], 0, 0, 0, 0, 0, (⟨0, (⟨0, 0⟩ : GValue)⟩ : GOut), (⟨0, 0⟩ : GRef), 0⟩ : GFrame) none 0 none 0 none 0) 33 :: var b251 (cGFrame x1 a2 c2 a3 c3 a4 c4) 33 :: L)) ?_ (fun hk_y356 => ?_)
  {
  rintro _ w H
  refine WL.sg 1 kr ?_
  obtain ⟨y357, hy357, hr⟩ := bnd_cases hr
  refine WL.join 13 (fun (_ : Unit) => [(4, .pointer (some ⟨b252, 0, none⟩)), (5, .pointer (some ⟨b253, 0, none⟩)), (6, .pointer (some ⟨b267, 0, none⟩)), (8, .pointer (some ⟨b335, 0, none⟩)), (10, .int .i64 (w64 ((y260.Stack.length : Int) - y336))), (97, .bool y357)]) (fun (_ : Unit) w => St w0 h260 w (var b335 [.int .i64 ((gd ((gd x0 y260.Fn).Code) y260.Pc).Op), .int .i64 ((gd ((gd x0 y260.Fn).Code) y260.Pc).A), .int .i64 ((gd ((gd x0 y260.Fn).Code) y260.Pc).B)] 58 :: row rGValue 16 h260 a261 c261 y260.Stack :: row rGValue 16 h260 a262 c262 y260.Locals :: row rGSlot 48 h260 a263 c263 y260.Slots :: var b267 (cGFrame y260 a261 c261 a262 c262 a263 c263) 33 :: var b253 (cGAct (⟨0, 0, 0, 0, []⟩ : GAct) none 0) 40 :: var b252 (cGFrame (⟨0, 0, [], [], [], 0, 0, 0, 0, 0, (⟨0, (⟨0, 0⟩ : GValue)⟩ : GOut), (⟨0, 0⟩ : GRef), 0⟩ : GFrame) none 0 none 0 none 0) 33 :: var b251 (cGFrame x1 a2 c2 a3 c3 a4 c4) 33 :: L)) ?_ (fun hk_y357 => ?_)
  {
  rintro _ w H
  refine WL.fin 0 kr kr ?_
  rcases ite_cases hr with ⟨t362, hr⟩ | ⟨t362, hr⟩
  {
  refine WE.yes kr (b := y357) kr t362 ?_
  refine WE.seq ?_
  refine WE.region ?_
  refine WL.does kr kr (Does.loadV H 4 rfl 0 kr kr ?_)
  obtain ⟨y366, q366, hr⟩ := bnd_cases hr
  obtain ⟨h363, le363, f363, H⟩ := (H.front 1 rfl).rowFreeze (Gh.refl _)
  obtain ⟨h364, le364, f364, H⟩ := (H.front 1 rfl).rowFreeze le363
  obtain ⟨h365, le365, f365, H⟩ := (H.front 1 rfl).rowFreeze (le363.trans le364)
  refine WL.does kr kr (Does.call (c_r09_trap y260 ((f363.up le364).up le365) (f364.up le365) f365 3 H q366) kr ?_)
  rintro _ w ⟨h366, a367, c367, a368, c368, a369, c369, a370, c370, rfl, le366, f367, f368, f369, f370, H⟩
  refine WL.sg 2 kr ?_
  refine WL.does kr kr (Does.storeE H 3 (cGFrame y366.1 a367 c367 a368 c368 a369 c369) rfl (q := 0) kr kr kr fun w H => ?_)
  refine WL.does kr kr (Does.storeE H 2 (cGAct y366.2 a370 c370) rfl (q := 0) kr kr kr fun w H => ?_)
  refine WL.fin 0 kr kr ?_
  obtain rfl := Option.some.inj hr
  exact WE.ret ⟨[.agg (cGFrame y366.1 a367 c367 a368 c368 a369 c369).toArray, .agg (cGAct y366.2 a370 c370).toArray], ⟨⟨kr, ⟨b252, 0, none⟩, kr, H.loadVar 3 rfl 0 kr⟩, ⟨kr, ⟨b253, 0, none⟩, kr, H.loadVar 2 rfl 0 kr⟩, trivial⟩, ⟨h366, a367, c367, a368, c368, a369, c369, a370, c370, rfl, ((((le260.trans le363).trans le364).trans le365).trans le366), f367, f368, f369, f370, (H.keep 5)⟩⟩
  }
  {
  refine WE.no kr (b := y357) kr t362 ?_
  refine WE.skip ?_
  refine WE.seq ?_
  refine WE.region ?_
  refine WL.does kr kr (Does.lit (K := rGValue) (B := 16) (xs := []) (e := 27) H [] kr Rows.nil kr kr kr kr fun b371 w H => ?_)
  refine WL.sg 1 kr ?_
  refine WL.does kr kr (Does.loadV H 5 rfl 2 kr kr ?_)
  obtain ⟨⟨g0_372, g1_372⟩, hr⟩ := grd_cases hr
  refine WL.sg 1 kr ?_
  refine WL.does kr kr (Does.tells (.cutR (a := a261) (c := c261) (xs := y260.Stack) (some (w64 ((y260.Stack.length : Int) - y336))) none 2 (w64 ((y260.Stack.length : Int) - y336)) (y260.Stack.length : Int) kr kr kr kr rfl rfl g0_372 g1_372 (Int.le_refl _) (H.rowLen 2 rfl).1) ?_)
  obtain ⟨g373, hr⟩ := grd_cases hr
  refine WL.does kr kr (Does.append (t := 24) (xt := 24) (ty := 24) (e := 27) (e2 := 27) (z := .agg #[.int .i64 0, .int .i64 0]) H 0 rfl (Gh.refl _) (ys := (lcut y260.Stack (w64 ((y260.Stack.length : Int) - y336)) (y260.Stack.length : Int))) (c2 := (c261 - (w64 ((y260.Stack.length : Int) - y336)).toNat)) (Src.lcut (H.rowSrc 2 rfl (Gh.refl _)) (H.rowLen 2 rfl).1 g0_372 g1_372 (Int.le_refl _)) g373 kr kr kr kr fun a373 c373 w H => ?_)
  refine WL.fin 1 kr kr ?_
  refine WE.join (fun (_ : Unit) => [(4, .pointer (some ⟨b252, 0, none⟩)), (5, .pointer (some ⟨b253, 0, none⟩)), (6, .pointer (some ⟨b267, 0, none⟩)), (8, .pointer (some ⟨b335, 0, none⟩)), (10, .int .i64 (w64 ((y260.Stack.length : Int) - y336))), (11, .slice a373 (([] : List GValue) ++ (lcut y260.Stack (w64 ((y260.Stack.length : Int) - y336)) (y260.Stack.length : Int))).length c373)]) (fun (_ : Unit) => fun w => St w0 h260 w (row rGValue 16 h260 a373 c373 (([] : List GValue) ++ (lcut y260.Stack (w64 ((y260.Stack.length : Int) - y336)) (y260.Stack.length : Int))) :: var b335 [.int .i64 ((gd ((gd x0 y260.Fn).Code) y260.Pc).Op), .int .i64 ((gd ((gd x0 y260.Fn).Code) y260.Pc).A), .int .i64 ((gd ((gd x0 y260.Fn).Code) y260.Pc).B)] 58 :: row rGValue 16 h260 a261 c261 y260.Stack :: row rGValue 16 h260 a262 c262 y260.Locals :: row rGSlot 48 h260 a263 c263 y260.Slots :: var b267 (cGFrame y260 a261 c261 a262 c262 a263 c263) 33 :: var b253 (cGAct (⟨0, 0, 0, 0, []⟩ : GAct) none 0) 40 :: var b252 (cGFrame (⟨0, 0, [], [], [], 0, 0, 0, 0, 0, (⟨0, (⟨0, 0⟩ : GValue)⟩ : GOut), (⟨0, 0⟩ : GRef), 0⟩ : GFrame) none 0 none 0 none 0) 33 :: var b251 (cGFrame x1 a2 c2 a3 c3 a4 c4) 33 :: L) ∧ r09_Do_j1 K x0 y260 y336 = some r) ?_ (fun hk_r09_Do_j1 => ?_)
  {
  rintro _ w ⟨H, hr⟩
  unfold r09_Do_j1 at hr
  refine WE.seq ?_
  refine WE.draws mo [4, 5, 6, 8, 10, 11] (ρ' := [(4, .pointer (some ⟨b252, 0, none⟩)), (5, .pointer (some ⟨b253, 0, none⟩)), (6, .pointer (some ⟨b267, 0, none⟩)), (8, .pointer (some ⟨b335, 0, none⟩)), (10, .int .i64 (w64 ((y260.Stack.length : Int) - y336))), (11, .slice a373 (([] : List GValue) ++ (lcut y260.Stack (w64 ((y260.Stack.length : Int) - y336)) (y260.Stack.length : Int))).length c373)]) kr fun w e1 e2 e3 e4 => ?_
  have H := H.same e1 e2 e3 e4
  clear e1 e2 e3 e4
  refine WD.know [0] kr ?_
  refine WD.told 1 167 (.slice a261 y260.Stack.length c261) kr kr ?_
  refine WD.know [2] kr ?_
  obtain ⟨⟨g1_420, g2_420⟩, hr⟩ := grd_cases hr
  refine WD.told 3 169 (.slice a261 (y260.Stack.take (w64 ((y260.Stack.length : Int) - y336)).toNat).length c261) kr kr ?_
  refine WD.told 4 170 (.agg (cGFrame y260 a261 c261 a262 c262 a263 c263).toArray) kr kr ?_
  refine WD.told 5 171 (.agg #[.int .i64 ((gd ((gd x0 y260.Fn).Code) y260.Pc).Op), .int .i64 ((gd ((gd x0 y260.Fn).Code) y260.Pc).A), .int .i64 ((gd ((gd x0 y260.Fn).Code) y260.Pc).B)]) kr kr ?_
  refine WD.know [6] kr ?_
  obtain ⟨y425, q425, hr⟩ := bind_cases hr
  refine WD.does 7 kr rfl (Floats.of [6, 2, 0] [5, 4, 3, 1] kr (Floats.pure _ kr kr) (.cons (.tells rfl kr rfl (.loadV H 1 rfl 0 kr kr)) (.cons (.tells rfl kr rfl (.loadV H 5 rfl 0 kr kr)) (.cons (.tells rfl kr kr (.cutO H 2 rfl none (some (w64 ((y260.Stack.length : Int) - y336))) 2 (w64 ((y260.Stack.length : Int) - y336)) kr kr kr kr rfl rfl g1_420 g2_420 (Nat.le_refl _))) (.cons (.tells rfl kr rfl (.loadV H 5 rfl 2 kr kr)) .nil))))) kr kr ?_
  have H := (((((((((H.front 8 rfl).front 8 rfl).front 8 rfl).front 8 rfl).front 5 rfl).front 5 rfl).front 8 rfl).front 8 rfl).front 8 rfl)
  obtain ⟨h421, le421, f421, H, bk421⟩ := (H).rowLend (Gh.refl _)
  obtain ⟨h422, le422, f422, H, bk422⟩ := (H).rowLend le421
  obtain ⟨h423, le423, f423, H, bk423⟩ := (H).rowLend (le421.trans le422)
  obtain ⟨h424, le424, f424, H, bk424⟩ := (H).rowLend ((le421.trans le422).trans le423)
  refine Does.call (c_r09_lays K y260 (((f421.up le422).up le423).up le424) ((f422.up le423).up le424) (f423.up le424) (⟨(gd ((gd x0 y260.Fn).Code) y260.Pc).Op, (gd ((gd x0 y260.Fn).Code) y260.Pc).A, (gd ((gd x0 y260.Fn).Code) y260.Pc).B⟩ : GInstr) (([] : List GValue) ++ (lcut y260.Stack (w64 ((y260.Stack.length : Int) - y336)) (y260.Stack.length : Int))) f424 H q425) kr ?_
  rintro _ w ⟨h425, a426, c426, rfl, le425, H⟩
  obtain ⟨h424', le424', H⟩ := bk424 _ _ _ le425 H
  obtain ⟨h423', le423', H⟩ := bk423 _ _ _ le424' H
  obtain ⟨h422', le422', H⟩ := bk422 _ _ _ le423' H
  obtain ⟨h421', le421', H⟩ := bk421 _ _ _ le422' H
  have H := H.rowFlat (h' := h421') 4 rfl (fun _ _ e => e)
  obtain ⟨g428, hr⟩ := grd_cases hr
  refine WD.does 8 kr rfl (Floats.of [2, 0] [3, 1] kr (Floats.pure _ kr kr) (.cons (.tells rfl kr kr (.cutO H 0 rfl none (some (w64 ((y260.Stack.length : Int) - y336))) 2 (w64 ((y260.Stack.length : Int) - y336)) kr kr kr kr rfl rfl g1_420 g2_420 (Nat.le_refl _))) (.cons (.tells rfl kr rfl (.loadV H 6 rfl 2 kr kr)) .nil))) kr kr ?_
  have H := H.rowTake 0 rfl (w64 ((y260.Stack.length : Int) - y336)).toNat
  refine Does.append (t := 24) (xt := 24) (ty := 24) (e := 27) (e2 := 27) (z := .agg #[.int .i64 0, .int .i64 0]) H 0 rfl le421' (ys := y425) (c2 := c426) (H.rowSrc 4 rfl (Gh.refl _)) g428 kr kr kr kr fun a428 c428 w H => ?_
  refine WD.know [9] kr ?_
  refine WD.does 10 kr rfl (Floats.of [9, 2, 0] [1] kr (Floats.pure _ kr kr) (.cons (.tells rfl kr rfl (.loadV H 6 rfl 2 kr kr)) .nil)) kr kr (Does.storeE H 6 (cGFrame ({ y260 with Stack := ((y260.Stack.take (w64 ((y260.Stack.length : Int) - y336)).toNat) ++ y425) }) a428 c428 a262 c262 a263 c263) rfl (q := 2) kr kr kr fun w H => ?_)
  refine WD.fin kr (Floats.of [] [] kr .nil .nil) kr kr ?_
  refine WE.join (fun (⟨y433, a433, c433⟩ : List GValue × Option Addr × Nat) => [(4, .pointer (some ⟨b252, 0, none⟩)), (5, .pointer (some ⟨b253, 0, none⟩)), (6, .pointer (some ⟨b267, 0, none⟩)), (8, .pointer (some ⟨b335, 0, none⟩)), (11, .slice a373 (([] : List GValue) ++ (lcut y260.Stack (w64 ((y260.Stack.length : Int) - y336)) (y260.Stack.length : Int))).length c373)]) (fun (⟨y433, a433, c433⟩ : List GValue × Option Addr × Nat) => fun w => St w0 h421' w (row rGValue 16 h421' a428 c428 ((y260.Stack.take (w64 ((y260.Stack.length : Int) - y336)).toNat) ++ y425) :: row rGValue 16 h421' a433 c433 y433 :: row rGSlot 48 h260 a263 c263 y260.Slots :: row rGValue 16 h260 a373 c373 (([] : List GValue) ++ (lcut y260.Stack (w64 ((y260.Stack.length : Int) - y336)) (y260.Stack.length : Int))) :: var b335 [.int .i64 ((gd ((gd x0 y260.Fn).Code) y260.Pc).Op), .int .i64 ((gd ((gd x0 y260.Fn).Code) y260.Pc).A), .int .i64 ((gd ((gd x0 y260.Fn).Code) y260.Pc).B)] 58 :: var b267 (cGFrame ({ y260 with Stack := ((y260.Stack.take (w64 ((y260.Stack.length : Int) - y336)).toNat) ++ y425), Locals := y433 }) a428 c428 a433 c433 a263 c263) 33 :: var b253 (cGAct (⟨0, 0, 0, 0, []⟩ : GAct) none 0) 40 :: var b252 (cGFrame (⟨0, 0, [], [], [], 0, 0, 0, 0, 0, (⟨0, (⟨0, 0⟩ : GValue)⟩ : GOut), (⟨0, 0⟩ : GRef), 0⟩ : GFrame) none 0 none 0 none 0) 33 :: var b251 (cGFrame x1 a2 c2 a3 c3 a4 c4) 33 :: L) ∧ r09_Do_j2 x0 y260 y336 y425 y433 = some r) ?_ (fun hk_r09_Do_j2 => ?_)
  {
  rintro ⟨y433, a433, c433⟩ w ⟨H, hr⟩
  unfold r09_Do_j2 at hr
  refine WE.join (fun (y435 : Int) => [(4, .pointer (some ⟨b252, 0, none⟩)), (5, .pointer (some ⟨b253, 0, none⟩)), (6, .pointer (some ⟨b267, 0, none⟩)), (8, .pointer (some ⟨b335, 0, none⟩)), (11, .slice a373 (([] : List GValue) ++ (lcut y260.Stack (w64 ((y260.Stack.length : Int) - y336)) (y260.Stack.length : Int))).length c373)]) (fun (y435 : Int) => fun w => St w0 h421' w (row rGValue 16 h421' a428 c428 ((y260.Stack.take (w64 ((y260.Stack.length : Int) - y336)).toNat) ++ y425) :: row rGValue 16 h421' a433 c433 y433 :: row rGSlot 48 h260 a263 c263 y260.Slots :: row rGValue 16 h260 a373 c373 (([] : List GValue) ++ (lcut y260.Stack (w64 ((y260.Stack.length : Int) - y336)) (y260.Stack.length : Int))) :: var b335 [.int .i64 ((gd ((gd x0 y260.Fn).Code) y260.Pc).Op), .int .i64 ((gd ((gd x0 y260.Fn).Code) y260.Pc).A), .int .i64 ((gd ((gd x0 y260.Fn).Code) y260.Pc).B)] 58 :: var b267 (cGFrame ({ y260 with Stack := ((y260.Stack.take (w64 ((y260.Stack.length : Int) - y336)).toNat) ++ y425), Locals := y433, Draws := y435 }) a428 c428 a433 c433 a263 c263) 33 :: var b253 (cGAct (⟨0, 0, 0, 0, []⟩ : GAct) none 0) 40 :: var b252 (cGFrame (⟨0, 0, [], [], [], 0, 0, 0, 0, 0, (⟨0, (⟨0, 0⟩ : GValue)⟩ : GOut), (⟨0, 0⟩ : GRef), 0⟩ : GFrame) none 0 none 0 none 0) 33 :: var b251 (cGFrame x1 a2 c2 a3 c3 a4 c4) 33 :: L) ∧ r09_Do_j3 x0 y260 y336 y425 y433 y435 = some r) ?_ (fun hk_r09_Do_j3 => ?_)
  {
  rintro y435 w ⟨H, hr⟩
  unfold r09_Do_j3 at hr
  refine WE.seq ?_
  refine WE.region ?_
  refine WL.sg 1 kr ?_
  refine WL.does kr kr (Does.loadV H 5 rfl 1 kr kr ?_)
  refine WL.sg 2 kr ?_
  refine WL.does kr kr (Does.storeE H 5 (cGFrame ({ y260 with Pc := w64 (y260.Pc + 1), Stack := ((y260.Stack.take (w64 ((y260.Stack.length : Int) - y336)).toNat) ++ y425), Locals := y433, Draws := y435 }) a428 c428 a433 c433 a263 c263) rfl (q := 1) kr kr kr fun w H => ?_)
  refine WL.fin 0 kr kr ?_
  refine WE.seq ?_
  refine WE.seq ?_
  refine WE.draws mo [4, 5, 6, 8, 11] (ρ' := [(4, .pointer (some ⟨b252, 0, none⟩)), (5, .pointer (some ⟨b253, 0, none⟩)), (6, .pointer (some ⟨b267, 0, none⟩)), (8, .pointer (some ⟨b335, 0, none⟩)), (11, .slice a373 (([] : List GValue) ++ (lcut y260.Stack (w64 ((y260.Stack.length : Int) - y336)) (y260.Stack.length : Int))).length c373)]) kr fun w e1 e2 e3 e4 => ?_
  have H := H.same e1 e2 e3 e4
  clear e1 e2 e3 e4
  refine WD.know [0] kr ?_
  refine WD.told 1 199 (.int .i64 ((gd ((gd x0 y260.Fn).Code) y260.Pc).Op)) kr kr ?_
  refine WD.know [2] kr ?_
  refine WD.know [3] kr ?_
  rcases ite_cases hr with ⟨t436, hr⟩ | ⟨t436, hr⟩
  {
  refine WD.known 201 t436 kr kr ?_
  refine WD.know [4] kr ?_
  refine WD.know [5] kr ?_
  refine WD.know [6] kr ?_
  refine WD.know [7] kr ?_
  refine WD.know [8] kr ?_
  refine WD.know [9] kr ?_
  refine WD.know [10] kr ?_
  refine WD.know [11] kr ?_
  refine WD.know [12] kr ?_
  refine WD.know [13] kr ?_
  refine WD.know [14] kr ?_
  refine WD.know [15] kr ?_
  refine WD.know [17] kr ?_
  refine WD.skipped 16 kr rfl (Floats.of [17, 15, 14, 13, 12, 11, 10, 9, 8, 7, 6, 5, 4, 2, 0] [3, 1] kr (Floats.pure _ kr kr) (.cons (.tells rfl kr kr (.calmB t436 kr)) (.cons (.tells rfl kr rfl (.loadV H 4 rfl 0 kr kr)) .nil))) kr kr ?_
  refine WD.know [18] kr ?_
  refine WD.know [19] kr ?_
  refine WD.know [20] kr ?_
  refine WD.fin kr (Floats.of [20, 19, 18, 17, 14, 13, 12, 10, 9, 8, 6, 5, 4, 2, 0] [3, 1] kr (Floats.pure _ kr kr) (.cons (.tells rfl kr kr (.calmB t436 kr)) (.cons (.tells rfl kr rfl (.loadV H 4 rfl 0 kr kr)) .nil))) kr kr ?_
  refine WE.yes kr (b := true) kr rfl ?_
  refine WE.region ?_
  refine WL.sg 1 kr ?_
  refine WL.does kr kr (Does.loadV H 4 rfl 1 kr kr ?_)
  refine WL.sg 1 kr ?_
  refine WL.does kr kr (Does.storeE H 5 (cGFrame ({ y260 with Pc := (gd ((gd x0 y260.Fn).Code) y260.Pc).A, Stack := ((y260.Stack.take (w64 ((y260.Stack.length : Int) - y336)).toNat) ++ y425), Locals := y433, Draws := y435 }) a428 c428 a433 c433 a263 c263) rfl (q := 1) kr kr kr fun w H => ?_)
  refine WL.fin 0 kr kr ?_
  refine WE.seq ?_
  refine WE.region ?_
  refine WL.does kr kr (Does.loadV H 5 rfl 0 kr kr ?_)
  refine WL.sg 1 kr ?_
  refine WL.does kr kr (Does.storeE H 7 (cGFrame ({ y260 with Pc := (gd ((gd x0 y260.Fn).Code) y260.Pc).A, Stack := ((y260.Stack.take (w64 ((y260.Stack.length : Int) - y336)).toNat) ++ y425), Locals := y433, Draws := y435 }) a428 c428 a433 c433 a263 c263) rfl (q := 0) kr kr kr fun w H => ?_)
  refine WL.does kr kr (Does.storeE H 6 (cGAct (⟨1, 0, 0, 0, []⟩ : GAct) none 0) rfl (q := 0) kr kr kr fun w H => ?_)
  refine WL.fin 0 kr kr ?_
  obtain ⟨h437, le437, f437, H⟩ := (H).rowFreeze (Gh.refl _)
  obtain ⟨h438, le438, f438, H⟩ := (H).rowFreeze le437
  obtain ⟨h439, le439, f439, H⟩ := (H).rowFreeze ((le421'.trans le437).trans le438)
  obtain rfl := Option.some.inj hr
  exact WE.ret ⟨[.agg (cGFrame ({ y260 with Pc := (gd ((gd x0 y260.Fn).Code) y260.Pc).A, Stack := ((y260.Stack.take (w64 ((y260.Stack.length : Int) - y336)).toNat) ++ y425), Locals := y433, Draws := y435 }) a428 c428 a433 c433 a263 c263).toArray, .agg (cGAct (⟨1, 0, 0, 0, []⟩ : GAct) none 0).toArray], ⟨⟨kr, ⟨b252, 0, none⟩, kr, H.loadVar 4 rfl 0 kr⟩, ⟨kr, ⟨b253, 0, none⟩, kr, H.loadVar 3 rfl 0 kr⟩, trivial⟩, ⟨h439, a428, c428, a433, c433, a263, c263, none, 0, rfl, ((((le260.trans le421').trans le437).trans le438).trans le439), ((f437.up le438).up le439), (f438.up le439), f439, (Sl.nil _ _ (Nat.zero_le _)), (H.keep 6)⟩⟩
  }
  {
  refine WD.known 201 t436 kr kr ?_
  refine WD.know [4] kr ?_
  refine WD.told 5 203 (.int .i64 ((gd ((gd x0 y260.Fn).Code) y260.Pc).Op)) kr kr ?_
  refine WD.know [6] kr ?_
  refine WD.know [7] kr ?_
  rcases ite_cases hr with ⟨t440, hr⟩ | ⟨t440, hr⟩
  {
  refine WD.known 205 t440 kr kr ?_
  refine WD.know [8] kr ?_
  obtain ⟨⟨g0_441, g1_441⟩, hr⟩ := grd_cases hr
  obtain ⟨b441, p441, rfl⟩ := H.rowSome 3 rfl g0_441 g1_441
  refine WD.told 9 207 (.pointer (some ⟨b441, p441 + (0 : Int).toNat * 2, none⟩)) kr kr ?_
  refine WD.know [10] kr ?_
  refine WD.told 11 209 (.int .i64 ((gd (([] : List GValue) ++ (lcut y260.Stack (w64 ((y260.Stack.length : Int) - y336)) (y260.Stack.length : Int))) (0 : Int)).Re)) kr kr ?_
  refine WD.know [12] kr ?_
  obtain ⟨⟨g0_442, g1_442⟩, hr⟩ := grd_cases hr
  refine WD.told 13 211 (.pointer (some ⟨b441, p441 + (0 : Int).toNat * 2, none⟩)) kr kr ?_
  refine WD.know [14] kr ?_
  refine WD.told 15 213 (.int .i64 ((gd (([] : List GValue) ++ (lcut y260.Stack (w64 ((y260.Stack.length : Int) - y336)) (y260.Stack.length : Int))) (0 : Int)).Im)) kr kr ?_
  refine WD.know [17] kr ?_
  obtain ⟨y443, q443, hr⟩ := bnd_cases hr
  refine WD.does 16 kr rfl (Floats.of [17, 14, 12, 10, 8, 6, 4, 2, 0] [15, 13, 11, 9, 7, 5, 3, 1] kr (Floats.pure _ kr kr) (.cons (.tells rfl kr kr (.loadRow (v := .int .i64 ((gd (([] : List GValue) ++ (lcut y260.Stack (w64 ((y260.Stack.length : Int) - y336)) (y260.Stack.length : Int))) (0 : Int)).Im)) H 3 rfl g0_442 g1_442 1 2 rfl (fun _ e => by rcases e with rfl; kernel_rfl) kr)) (.cons (.tells rfl kr kr (.idx b441 (p441) (([] : List GValue) ++ (lcut y260.Stack (w64 ((y260.Stack.length : Int) - y336)) (y260.Stack.length : Int))).length c373 (0 : Int) 2 kr kr g0_442 g1_442 kr)) (.cons (.tells rfl kr kr (.loadRow (v := .int .i64 ((gd (([] : List GValue) ++ (lcut y260.Stack (w64 ((y260.Stack.length : Int) - y336)) (y260.Stack.length : Int))) (0 : Int)).Re)) H 3 rfl g0_441 g1_441 0 2 rfl (fun _ e => by rcases e with rfl; kernel_rfl) kr)) (.cons (.tells rfl kr kr (.idx b441 (p441) (([] : List GValue) ++ (lcut y260.Stack (w64 ((y260.Stack.length : Int) - y336)) (y260.Stack.length : Int))).length c373 (0 : Int) 2 kr kr g0_441 g1_441 kr)) (.cons (.tells rfl kr kr (.calmB t440 kr)) (.cons (.tells rfl kr rfl (.loadV H 4 rfl 0 kr kr)) (.cons (.tells rfl kr kr (.calmB t436 kr)) (.cons (.tells rfl kr rfl (.loadV H 4 rfl 0 kr kr)) .nil))))))))) kr kr (Does.call (c_r04_Of ((gd (([] : List GValue) ++ (lcut y260.Stack (w64 ((y260.Stack.length : Int) - y336)) (y260.Stack.length : Int))) (0 : Int)).Re) ((gd (([] : List GValue) ++ (lcut y260.Stack (w64 ((y260.Stack.length : Int) - y336)) (y260.Stack.length : Int))) (0 : Int)).Im) H q443) kr ?_)
  rintro _ w ⟨rfl, H⟩
  refine WD.told 18 216 (.bool ((y443.Re == 0) && ((y443.Im == 0) && true))) kr kr ?_
  refine WD.know [19] kr ?_
  refine WD.know [20] kr ?_
  refine WD.fin kr (Floats.of [20, 19, 17, 14, 12, 10, 8, 6, 4, 2, 0] [18, 13, 9, 5, 3, 1] kr (Floats.pure _ kr kr) (.cons (.tells rfl kr kr (.eql ((y443.Re == 0) && ((y443.Im == 0) && true)) kr kr kr)) (.cons (.tells rfl kr kr (.idx b441 (p441) (([] : List GValue) ++ (lcut y260.Stack (w64 ((y260.Stack.length : Int) - y336)) (y260.Stack.length : Int))).length c373 (0 : Int) 2 kr kr g0_442 g1_442 kr)) (.cons (.tells rfl kr kr (.idx b441 (p441) (([] : List GValue) ++ (lcut y260.Stack (w64 ((y260.Stack.length : Int) - y336)) (y260.Stack.length : Int))).length c373 (0 : Int) 2 kr kr g0_441 g1_441 kr)) (.cons (.tells rfl kr rfl (.loadV H 4 rfl 0 kr kr)) (.cons (.tells rfl kr kr (.calmB t436 kr)) (.cons (.tells rfl kr rfl (.loadV H 4 rfl 0 kr kr)) .nil))))))) kr kr ?_
  rcases ite_cases hr with ⟨t444, hr⟩ | ⟨t444, hr⟩
  {
  refine WE.yes kr (b := (y443.Re == 0) && ((y443.Im == 0) && true)) kr t444 ?_
  refine WE.region ?_
  refine WL.sg 1 kr ?_
  refine WL.does kr kr (Does.loadV H 4 rfl 1 kr kr ?_)
  refine WL.sg 1 kr ?_
  refine WL.does kr kr (Does.storeE H 5 (cGFrame ({ y260 with Pc := (gd ((gd x0 y260.Fn).Code) y260.Pc).A, Stack := ((y260.Stack.take (w64 ((y260.Stack.length : Int) - y336)).toNat) ++ y425), Locals := y433, Draws := y435 }) a428 c428 a433 c433 a263 c263) rfl (q := 1) kr kr kr fun w H => ?_)
  refine WL.fin 0 kr kr ?_
  refine WE.seq ?_
  refine WE.region ?_
  refine WL.does kr kr (Does.loadV H 5 rfl 0 kr kr ?_)
  refine WL.sg 1 kr ?_
  refine WL.does kr kr (Does.storeE H 7 (cGFrame ({ y260 with Pc := (gd ((gd x0 y260.Fn).Code) y260.Pc).A, Stack := ((y260.Stack.take (w64 ((y260.Stack.length : Int) - y336)).toNat) ++ y425), Locals := y433, Draws := y435 }) a428 c428 a433 c433 a263 c263) rfl (q := 0) kr kr kr fun w H => ?_)
  refine WL.does kr kr (Does.storeE H 6 (cGAct (⟨1, 0, 0, 0, []⟩ : GAct) none 0) rfl (q := 0) kr kr kr fun w H => ?_)
  refine WL.fin 0 kr kr ?_
  obtain ⟨h445, le445, f445, H⟩ := (H).rowFreeze (Gh.refl _)
  obtain ⟨h446, le446, f446, H⟩ := (H).rowFreeze le445
  obtain ⟨h447, le447, f447, H⟩ := (H).rowFreeze ((le421'.trans le445).trans le446)
  obtain rfl := Option.some.inj hr
  exact WE.ret ⟨[.agg (cGFrame ({ y260 with Pc := (gd ((gd x0 y260.Fn).Code) y260.Pc).A, Stack := ((y260.Stack.take (w64 ((y260.Stack.length : Int) - y336)).toNat) ++ y425), Locals := y433, Draws := y435 }) a428 c428 a433 c433 a263 c263).toArray, .agg (cGAct (⟨1, 0, 0, 0, []⟩ : GAct) none 0).toArray], ⟨⟨kr, ⟨b252, 0, none⟩, kr, H.loadVar 4 rfl 0 kr⟩, ⟨kr, ⟨b253, 0, none⟩, kr, H.loadVar 3 rfl 0 kr⟩, trivial⟩, ⟨h447, a428, c428, a433, c433, a263, c263, none, 0, rfl, ((((le260.trans le421').trans le445).trans le446).trans le447), ((f445.up le446).up le447), (f446.up le447), f447, (Sl.nil _ _ (Nat.zero_le _)), (H.keep 6)⟩⟩
  }
  {
  refine WE.no kr (b := (y443.Re == 0) && ((y443.Im == 0) && true)) kr t444 ?_
  refine WE.skip ?_
  refine WE.seq ?_
  refine WE.region ?_
  refine WL.does kr kr (Does.loadV H 5 rfl 0 kr kr ?_)
  refine WL.sg 1 kr ?_
  refine WL.does kr kr (Does.storeE H 7 (cGFrame ({ y260 with Pc := w64 (y260.Pc + 1), Stack := ((y260.Stack.take (w64 ((y260.Stack.length : Int) - y336)).toNat) ++ y425), Locals := y433, Draws := y435 }) a428 c428 a433 c433 a263 c263) rfl (q := 0) kr kr kr fun w H => ?_)
  refine WL.does kr kr (Does.storeE H 6 (cGAct (⟨1, 0, 0, 0, []⟩ : GAct) none 0) rfl (q := 0) kr kr kr fun w H => ?_)
  refine WL.fin 0 kr kr ?_
  obtain ⟨h448, le448, f448, H⟩ := (H).rowFreeze (Gh.refl _)
  obtain ⟨h449, le449, f449, H⟩ := (H).rowFreeze le448
  obtain ⟨h450, le450, f450, H⟩ := (H).rowFreeze ((le421'.trans le448).trans le449)
  obtain rfl := Option.some.inj hr
  exact WE.ret ⟨[.agg (cGFrame ({ y260 with Pc := w64 (y260.Pc + 1), Stack := ((y260.Stack.take (w64 ((y260.Stack.length : Int) - y336)).toNat) ++ y425), Locals := y433, Draws := y435 }) a428 c428 a433 c433 a263 c263).toArray, .agg (cGAct (⟨1, 0, 0, 0, []⟩ : GAct) none 0).toArray], ⟨⟨kr, ⟨b252, 0, none⟩, kr, H.loadVar 4 rfl 0 kr⟩, ⟨kr, ⟨b253, 0, none⟩, kr, H.loadVar 3 rfl 0 kr⟩, trivial⟩, ⟨h450, a428, c428, a433, c433, a263, c263, none, 0, rfl, ((((le260.trans le421').trans le448).trans le449).trans le450), ((f448.up le449).up le450), (f449.up le450), f450, (Sl.nil _ _ (Nat.zero_le _)), (H.keep 6)⟩⟩
  }
  }
  {
  refine WD.known 205 t440 kr kr ?_
  refine WD.know [8] kr ?_
  refine WD.know [9] kr ?_
  refine WD.know [10] kr ?_
  refine WD.know [11] kr ?_
  refine WD.know [12] kr ?_
  refine WD.know [13] kr ?_
  refine WD.know [14] kr ?_
  refine WD.know [15] kr ?_
  refine WD.know [17] kr ?_
  refine WD.skipped 16 kr rfl (Floats.of [17, 15, 14, 13, 12, 11, 10, 9, 8, 6, 4, 2, 0] [7, 5, 3, 1] kr (Floats.pure _ kr kr) (.cons (.tells rfl kr kr (.calmB t440 kr)) (.cons (.tells rfl kr rfl (.loadV H 4 rfl 0 kr kr)) (.cons (.tells rfl kr kr (.calmB t436 kr)) (.cons (.tells rfl kr rfl (.loadV H 4 rfl 0 kr kr)) .nil))))) kr kr ?_
  refine WD.know [18] kr ?_
  refine WD.know [19] kr ?_
  refine WD.know [20] kr ?_
  refine WD.fin kr (Floats.of [20, 19, 18, 17, 14, 13, 12, 10, 9, 8, 6, 4, 2, 0] [5, 3, 1] kr (Floats.pure _ kr kr) (.cons (.tells rfl kr rfl (.loadV H 4 rfl 0 kr kr)) (.cons (.tells rfl kr kr (.calmB t436 kr)) (.cons (.tells rfl kr rfl (.loadV H 4 rfl 0 kr kr)) .nil)))) kr kr ?_
  refine WE.no kr (b := false) kr rfl ?_
  refine WE.skip ?_
  refine WE.seq ?_
  refine WE.region ?_
  refine WL.does kr kr (Does.loadV H 5 rfl 0 kr kr ?_)
  refine WL.sg 1 kr ?_
  refine WL.does kr kr (Does.storeE H 7 (cGFrame ({ y260 with Pc := w64 (y260.Pc + 1), Stack := ((y260.Stack.take (w64 ((y260.Stack.length : Int) - y336)).toNat) ++ y425), Locals := y433, Draws := y435 }) a428 c428 a433 c433 a263 c263) rfl (q := 0) kr kr kr fun w H => ?_)
  refine WL.does kr kr (Does.storeE H 6 (cGAct (⟨1, 0, 0, 0, []⟩ : GAct) none 0) rfl (q := 0) kr kr kr fun w H => ?_)
  refine WL.fin 0 kr kr ?_
  obtain ⟨h451, le451, f451, H⟩ := (H).rowFreeze (Gh.refl _)
  obtain ⟨h452, le452, f452, H⟩ := (H).rowFreeze le451
  obtain ⟨h453, le453, f453, H⟩ := (H).rowFreeze ((le421'.trans le451).trans le452)
  obtain rfl := Option.some.inj hr
  exact WE.ret ⟨[.agg (cGFrame ({ y260 with Pc := w64 (y260.Pc + 1), Stack := ((y260.Stack.take (w64 ((y260.Stack.length : Int) - y336)).toNat) ++ y425), Locals := y433, Draws := y435 }) a428 c428 a433 c433 a263 c263).toArray, .agg (cGAct (⟨1, 0, 0, 0, []⟩ : GAct) none 0).toArray], ⟨⟨kr, ⟨b252, 0, none⟩, kr, H.loadVar 4 rfl 0 kr⟩, ⟨kr, ⟨b253, 0, none⟩, kr, H.loadVar 3 rfl 0 kr⟩, trivial⟩, ⟨h453, a428, c428, a433, c433, a263, c263, none, 0, rfl, ((((le260.trans le421').trans le451).trans le452).trans le453), ((f451.up le452).up le453), (f452.up le453), f453, (Sl.nil _ _ (Nat.zero_le _)), (H.keep 6)⟩⟩
  }
  }
  }
  refine WE.seq ?_
  refine WE.region ?_
  refine WL.sg 1 kr ?_
  refine WL.does kr kr (Does.loadV H 4 rfl 0 kr kr ?_)
  refine WL.fin 1 kr kr ?_
  rcases ite_cases hr with ⟨t454, hr⟩ | ⟨t454, hr⟩
  {
  refine WE.yes kr (b := ((gd ((gd x0 y260.Fn).Code) y260.Pc).Op) == 12) kr t454 ?_
  refine WE.region ?_
  refine WL.sg 1 kr ?_
  refine WL.does kr kr (Does.loadV H 5 rfl 7 kr kr ?_)
  refine WL.sg 2 kr ?_
  refine WL.does kr kr (Does.storeE H 5 (cGFrame ({ y260 with Stack := ((y260.Stack.take (w64 ((y260.Stack.length : Int) - y336)).toNat) ++ y425), Locals := y433, Draws := w64 (y260.Draws + 1) }) a428 c428 a433 c433 a263 c263) rfl (q := 7) kr kr kr fun w H => ?_)
  refine WL.fin 0 kr kr ?_
  exact WE.live [4, 5, 6, 8, 11] kr (hk_r09_Do_j3 (w64 (y260.Draws + 1)) _ ⟨H, hr⟩)
  }
  {
  refine WE.no kr (b := ((gd ((gd x0 y260.Fn).Code) y260.Pc).Op) == 12) kr t454 ?_
  refine WE.skip ?_
  exact WE.live [4, 5, 6, 8, 11] kr (hk_r09_Do_j3 y260.Draws _ ⟨H, hr⟩)
  }
  }
  refine WE.seq ?_
  refine WE.region ?_
  refine WL.sg 1 kr ?_
  refine WL.does kr kr (Does.loadV H 5 rfl 0 kr kr ?_)
  refine WL.fin 1 kr kr ?_
  rcases ite_cases hr with ⟨t455, hr⟩ | ⟨t455, hr⟩
  {
  refine WE.yes kr (b := ((gd ((gd x0 y260.Fn).Code) y260.Pc).Op) == 2) kr t455 ?_
  refine WE.draws mo [4, 5, 6, 8, 11] (ρ' := [(4, .pointer (some ⟨b252, 0, none⟩)), (5, .pointer (some ⟨b253, 0, none⟩)), (6, .pointer (some ⟨b267, 0, none⟩)), (8, .pointer (some ⟨b335, 0, none⟩)), (11, .slice a373 (([] : List GValue) ++ (lcut y260.Stack (w64 ((y260.Stack.length : Int) - y336)) (y260.Stack.length : Int))).length c373)]) kr fun w e1 e2 e3 e4 => ?_
  have H := H.same e1 e2 e3 e4
  clear e1 e2 e3 e4
  refine WD.know [0] kr ?_
  refine WD.told 1 180 (.slice a262 y260.Locals.length c262) kr kr ?_
  refine WD.know [2] kr ?_
  refine WD.told 3 182 (.int .i64 ((gd ((gd x0 y260.Fn).Code) y260.Pc).A)) kr kr ?_
  refine WD.know [4] kr ?_
  obtain ⟨⟨g0_456, g1_456⟩, hr⟩ := grd_cases hr
  obtain ⟨b456, p456, rfl⟩ := H.rowSome 3 rfl g0_456 g1_456
  refine WD.told 5 184 (.pointer (some ⟨b456, p456 + (0 : Int).toNat * 2, none⟩)) kr kr ?_
  refine WD.told 6 185 (.agg #[.int .i64 ((gd (([] : List GValue) ++ (lcut y260.Stack (w64 ((y260.Stack.length : Int) - y336)) (y260.Stack.length : Int))) (0 : Int)).Re), .int .i64 ((gd (([] : List GValue) ++ (lcut y260.Stack (w64 ((y260.Stack.length : Int) - y336)) (y260.Stack.length : Int))) (0 : Int)).Im)]) kr kr ?_
  obtain ⟨⟨g0_457, g1_457⟩, hr⟩ := grd_cases hr
  obtain ⟨b457, p457, rfl⟩ := H.rowSome 1 rfl g0_457 g1_457
  refine WD.told 7 186 (.pointer (some ⟨b457, p457 + ((gd ((gd x0 y260.Fn).Code) y260.Pc).A).toNat * 2, none⟩)) kr kr ?_
  refine WD.does 8 kr rfl (Floats.of [4, 2, 0] [7, 6, 5, 3, 1] kr (Floats.pure _ kr kr) (.cons (.tells rfl kr kr (.idx b457 (p457) y260.Locals.length c262 ((gd ((gd x0 y260.Fn).Code) y260.Pc).A) 2 kr kr g0_457 g1_457 kr)) (.cons (.tells rfl kr kr (.loadRow (v := .agg #[.int .i64 ((gd (([] : List GValue) ++ (lcut y260.Stack (w64 ((y260.Stack.length : Int) - y336)) (y260.Stack.length : Int))) (0 : Int)).Re), .int .i64 ((gd (([] : List GValue) ++ (lcut y260.Stack (w64 ((y260.Stack.length : Int) - y336)) (y260.Stack.length : Int))) (0 : Int)).Im)]) H 3 rfl g0_456 g1_456 0 2 rfl (fun _ e => by rcases e with rfl; kernel_rfl) kr)) (.cons (.tells rfl kr kr (.idx b456 (p456) (([] : List GValue) ++ (lcut y260.Stack (w64 ((y260.Stack.length : Int) - y336)) (y260.Stack.length : Int))).length c373 (0 : Int) 2 kr kr g0_456 g1_456 kr)) (.cons (.tells rfl kr rfl (.loadV H 5 rfl 1 kr kr)) (.cons (.tells rfl kr rfl (.loadV H 6 rfl 3 kr kr)) .nil)))))) kr kr ?_
  obtain ⟨C458, e458, _, hb458, hc458, rfl⟩ := H.rowAt2 1 rfl g0_457 g1_457
  refine Does.storeRow H 1 rfl le421' (j := ((gd ((gd x0 y260.Fn).Code) y260.Pc).A).toNat) (by have h0 := g0_457; have h1 := g1_457; omega) hb458 hc458 0 kr kr (y' := (⟨(gd (([] : List GValue) ++ (lcut y260.Stack (w64 ((y260.Stack.length : Int) - y336)) (y260.Stack.length : Int))) (0 : Int)).Re, (gd (([] : List GValue) ++ (lcut y260.Stack (w64 ((y260.Stack.length : Int) - y336)) (y260.Stack.length : Int))) (0 : Int)).Im⟩ : GValue)) (by show _ = _; kernel_rfl) fun w H => ?_
  refine WD.spelt 180 (v := .slice (some ⟨b457, p457, none⟩) (y260.Locals.set ((gd ((gd x0 y260.Fn).Code) y260.Pc).A).toNat (⟨(gd (([] : List GValue) ++ (lcut y260.Stack (w64 ((y260.Stack.length : Int) - y336)) (y260.Stack.length : Int))) (0 : Int)).Re, (gd (([] : List GValue) ++ (lcut y260.Stack (w64 ((y260.Stack.length : Int) - y336)) (y260.Stack.length : Int))) (0 : Int)).Im⟩ : GValue)).length c262) kr (Eq.trans (b := .slice (some ⟨b457, p457, none⟩) y260.Locals.length c262) kr (sl_len (List.length_set ..).symm)) ?_
  have H := H.recell 6 (cGFrame ({ y260 with Stack := ((y260.Stack.take (w64 ((y260.Stack.length : Int) - y336)).toNat) ++ y425), Locals := (y260.Locals.set ((gd ((gd x0 y260.Fn).Code) y260.Pc).A).toNat (⟨(gd (([] : List GValue) ++ (lcut y260.Stack (w64 ((y260.Stack.length : Int) - y336)) (y260.Stack.length : Int))) (0 : Int)).Re, (gd (([] : List GValue) ++ (lcut y260.Stack (w64 ((y260.Stack.length : Int) - y336)) (y260.Stack.length : Int))) (0 : Int)).Im⟩ : GValue)) }) a428 c428 (some ⟨b457, p457, none⟩) c262 a263 c263) rfl (by simp only [cGFrame, List.length_set, List.length_take, copied_len])
  refine WD.fin kr (Floats.of [] [] kr .nil .nil) kr kr ?_
  exact WE.live [4, 5, 6, 8, 11] kr (hk_r09_Do_j2 ((y260.Locals.set ((gd ((gd x0 y260.Fn).Code) y260.Pc).A).toNat (⟨(gd (([] : List GValue) ++ (lcut y260.Stack (w64 ((y260.Stack.length : Int) - y336)) (y260.Stack.length : Int))) (0 : Int)).Re, (gd (([] : List GValue) ++ (lcut y260.Stack (w64 ((y260.Stack.length : Int) - y336)) (y260.Stack.length : Int))) (0 : Int)).Im⟩ : GValue)), (some ⟨b457, p457, none⟩), c262) _ ⟨((((((((((H.front 9 rfl).front 9 rfl).front 9 rfl).front 9 rfl).front 9 rfl).front 8 rfl).front 8 rfl).front 8 rfl).front 8 rfl).mid 9 1), hr⟩)
  }
  {
  refine WE.no kr (b := ((gd ((gd x0 y260.Fn).Code) y260.Pc).Op) == 2) kr t455 ?_
  refine WE.skip ?_
  have H := H.rowUp 1 rfl le421'
  exact WE.live [4, 5, 6, 8, 11] kr (hk_r09_Do_j2 (y260.Locals, a262, c262) _ ⟨((((((((((H.front 9 rfl).front 9 rfl).front 9 rfl).front 9 rfl).front 9 rfl).front 8 rfl).front 8 rfl).front 8 rfl).front 8 rfl).mid 9 1), hr⟩)
  }
  }
  refine WE.seq ?_
  refine WE.region ?_
  refine WL.sg 1 kr ?_
  refine WL.does kr kr (Does.loadV H 1 rfl 0 kr kr ?_)
  refine WL.fin 0 kr kr ?_
  refine WE.block ?_
  refine WE.seq ?_
  refine WE.region ?_
  refine WL.fin 2 kr kr ?_
  rcases ite_cases hr with ⟨t459, hr⟩ | ⟨t459, hr⟩
  {
  refine WE.yes kr (b := ((gd ((gd x0 y260.Fn).Code) y260.Pc).Op) == 13) kr t459 ?_
  refine WE.seq ?_
  refine WE.region ?_
  refine WL.does kr kr (Does.loadV H 5 rfl 0 kr kr ?_)
  refine WL.does kr kr (Does.loadV H 1 rfl 0 kr kr ?_)
  obtain ⟨y460, q460, hr⟩ := bind_cases hr
  refine WL.sg 1 kr ?_
  refine WL.does kr kr (Does.call (c_r09_spawn y260 (⟨(gd ((gd x0 y260.Fn).Code) y260.Pc).Op, (gd ((gd x0 y260.Fn).Code) y260.Pc).A, (gd ((gd x0 y260.Fn).Code) y260.Pc).B⟩ : GInstr) (([] : List GValue) ++ (lcut y260.Stack (w64 ((y260.Stack.length : Int) - y336)) (y260.Stack.length : Int))) (((((((((H.front 8 rfl).front 8 rfl).front 8 rfl).front 8 rfl).front 5 rfl).front 5 rfl).front 8 rfl).front 8 rfl).front 8 rfl) q460) kr ?_)
  rintro _ w ⟨h460, a461, c461, a462, c462, a463, c463, a464, c464, rfl, le460, f461, f462, f463, f464, H⟩
  refine WL.sg 2 kr ?_
  refine WL.does kr kr (Does.storeE H 3 (cGFrame y460.1 a461 c461 a462 c462 a463 c463) rfl (q := 0) kr kr kr fun w H => ?_)
  refine WL.does kr kr (Does.storeE H 2 (cGAct y460.2 a464 c464) rfl (q := 0) kr kr kr fun w H => ?_)
  refine WL.fin 0 kr kr ?_
  obtain rfl := Option.some.inj hr
  exact WE.ret ⟨[.agg (cGFrame y460.1 a461 c461 a462 c462 a463 c463).toArray, .agg (cGAct y460.2 a464 c464).toArray], ⟨⟨kr, ⟨b252, 0, none⟩, kr, H.loadVar 3 rfl 0 kr⟩, ⟨kr, ⟨b253, 0, none⟩, kr, H.loadVar 2 rfl 0 kr⟩, trivial⟩, ⟨h460, a461, c461, a462, c462, a463, c463, a464, c464, rfl, (le260.trans le460), f461, f462, f463, f464, (H.keep 5)⟩⟩
  }
  {
  refine WE.no kr (b := ((gd ((gd x0 y260.Fn).Code) y260.Pc).Op) == 13) kr t459 ?_
  refine WE.seq ?_
  refine WE.region ?_
  refine WL.fin 2 kr kr ?_
  rcases ite_cases hr with ⟨t465, hr⟩ | ⟨t465, hr⟩
  {
  refine WE.yes kr (b := ((gd ((gd x0 y260.Fn).Code) y260.Pc).Op) == 14) kr t465 ?_
  refine WE.seq ?_
  refine WE.region ?_
  refine WL.does kr kr (Does.loadV H 5 rfl 0 kr kr ?_)
  refine WL.does kr kr (Does.loadV H 1 rfl 0 kr kr ?_)
  obtain ⟨y466, q466, hr⟩ := bind_cases hr
  refine WL.does kr kr (Does.call (c_r09_join y260 (⟨(gd ((gd x0 y260.Fn).Code) y260.Pc).Op, (gd ((gd x0 y260.Fn).Code) y260.Pc).A, (gd ((gd x0 y260.Fn).Code) y260.Pc).B⟩ : GInstr) (((((((((H.front 8 rfl).front 8 rfl).front 8 rfl).front 8 rfl).front 5 rfl).front 5 rfl).front 8 rfl).front 8 rfl).front 8 rfl) q466) kr ?_)
  rintro _ w ⟨h466, a467, c467, a468, c468, a469, c469, a470, c470, rfl, le466, f467, f468, f469, f470, H⟩
  refine WL.sg 2 kr ?_
  refine WL.does kr kr (Does.storeE H 4 (cGFrame y466.1 a467 c467 a468 c468 a469 c469) rfl (q := 0) kr kr kr fun w H => ?_)
  refine WL.does kr kr (Does.storeE H 3 (cGAct y466.2 a470 c470) rfl (q := 0) kr kr kr fun w H => ?_)
  refine WL.fin 0 kr kr ?_
  obtain rfl := Option.some.inj hr
  exact WE.ret ⟨[.agg (cGFrame y466.1 a467 c467 a468 c468 a469 c469).toArray, .agg (cGAct y466.2 a470 c470).toArray], ⟨⟨kr, ⟨b252, 0, none⟩, kr, H.loadVar 4 rfl 0 kr⟩, ⟨kr, ⟨b253, 0, none⟩, kr, H.loadVar 3 rfl 0 kr⟩, trivial⟩, ⟨h466, a467, c467, a468, c468, a469, c469, a470, c470, rfl, (le260.trans le466), f467, f468, f469, f470, (H.keep 6)⟩⟩
  }
  {
  refine WE.no kr (b := ((gd ((gd x0 y260.Fn).Code) y260.Pc).Op) == 14) kr t465 ?_
  refine WE.seq ?_
  refine WE.region ?_
  refine WL.fin 2 kr kr ?_
  rcases ite_cases hr with ⟨t471, hr⟩ | ⟨t471, hr⟩
  {
  refine WE.yes kr (b := ((gd ((gd x0 y260.Fn).Code) y260.Pc).Op) == 15) kr t471 ?_
  refine WE.seq ?_
  refine WE.region ?_
  refine WL.sg 1 kr ?_
  refine WL.does kr kr (Does.loadV H 5 rfl 2 kr kr ?_)
  obtain ⟨⟨g1_472, g2_472⟩, hr⟩ := grd_cases hr
  refine WL.sg 1 kr ?_
  refine WL.does kr kr (Does.tells (.cutO H 2 rfl none (some (w64 ((y260.Stack.length : Int) - y336))) 2 (w64 ((y260.Stack.length : Int) - y336)) kr kr kr kr rfl rfl g1_472 g2_472 (Nat.le_refl _)) ?_)
  refine WL.sg 1 kr ?_
  refine WL.does kr kr (Does.storeE H 5 (cGFrame ({ y260 with Stack := (y260.Stack.take (w64 ((y260.Stack.length : Int) - y336)).toNat) }) a261 c261 a262 c262 a263 c263) rfl (q := 2) kr kr kr fun w H => ?_)
  refine WL.fin 0 kr kr ?_
  refine WE.seq ?_
  refine WE.draws mo [4, 5, 6, 11] (ρ' := [(4, .pointer (some ⟨b252, 0, none⟩)), (5, .pointer (some ⟨b253, 0, none⟩)), (6, .pointer (some ⟨b267, 0, none⟩)), (11, .slice a373 (([] : List GValue) ++ (lcut y260.Stack (w64 ((y260.Stack.length : Int) - y336)) (y260.Stack.length : Int))).length c373)]) kr fun w e1 e2 e3 e4 => ?_
  have H := H.same e1 e2 e3 e4
  clear e1 e2 e3 e4
  refine WD.told 0 132 (.agg (cGFrame ({ y260 with Stack := (y260.Stack.take (w64 ((y260.Stack.length : Int) - y336)).toNat) }) a261 c261 a262 c262 a263 c263).toArray) kr kr ?_
  refine WD.know [1] kr ?_
  obtain ⟨⟨g0_473, g1_473⟩, hr⟩ := grd_cases hr
  obtain ⟨b473, p473, rfl⟩ := H.rowSome 0 rfl g0_473 g1_473
  refine WD.told 2 134 (.pointer (some ⟨b473, p473 + (0 : Int).toNat * 2, none⟩)) kr kr ?_
  refine WD.told 3 135 (.agg #[.int .i64 ((gd (([] : List GValue) ++ (lcut y260.Stack (w64 ((y260.Stack.length : Int) - y336)) (y260.Stack.length : Int))) (0 : Int)).Re), .int .i64 ((gd (([] : List GValue) ++ (lcut y260.Stack (w64 ((y260.Stack.length : Int) - y336)) (y260.Stack.length : Int))) (0 : Int)).Im)]) kr kr ?_
  refine WD.know [4] kr ?_
  obtain ⟨y477, q477, hr⟩ := bnd_cases hr
  refine WD.does 5 kr rfl (Floats.of [4, 1] [3, 2, 0] kr (Floats.pure _ kr kr) (.cons (.tells rfl kr kr (.loadRow (v := .agg #[.int .i64 ((gd (([] : List GValue) ++ (lcut y260.Stack (w64 ((y260.Stack.length : Int) - y336)) (y260.Stack.length : Int))) (0 : Int)).Re), .int .i64 ((gd (([] : List GValue) ++ (lcut y260.Stack (w64 ((y260.Stack.length : Int) - y336)) (y260.Stack.length : Int))) (0 : Int)).Im)]) H 0 rfl g0_473 g1_473 0 2 rfl (fun _ e => by rcases e with rfl; kernel_rfl) kr)) (.cons (.tells rfl kr kr (.idx b473 (p473) (([] : List GValue) ++ (lcut y260.Stack (w64 ((y260.Stack.length : Int) - y336)) (y260.Stack.length : Int))).length c373 (0 : Int) 2 kr kr g0_473 g1_473 kr)) (.cons (.tells rfl kr rfl (.loadV H 5 rfl 0 kr kr)) .nil)))) kr kr ?_
  obtain ⟨h474, le474, f474, H⟩ := (H.front 2 rfl).rowFreeze (Gh.refl _)
  obtain ⟨h475, le475, f475, H⟩ := (H.front 2 rfl).rowFreeze le474
  obtain ⟨h476, le476, f476, H⟩ := (H.front 2 rfl).rowFreeze (le474.trans le475)
  refine Does.call (c_r09_end ({ y260 with Stack := (y260.Stack.take (w64 ((y260.Stack.length : Int) - y336)).toNat) }) (((f474.take (w64 ((y260.Stack.length : Int) - y336)).toNat).up le475).up le476) (f475.up le476) f476 (⟨0, (⟨(gd (([] : List GValue) ++ (lcut y260.Stack (w64 ((y260.Stack.length : Int) - y336)) (y260.Stack.length : Int))) (0 : Int)).Re, (gd (([] : List GValue) ++ (lcut y260.Stack (w64 ((y260.Stack.length : Int) - y336)) (y260.Stack.length : Int))) (0 : Int)).Im⟩ : GValue)⟩ : GOut) H q477) kr ?_
  rintro _ w ⟨h477, a478, c478, a479, c479, a480, c480, a481, c481, rfl, le477, f478, f479, f480, f481, H⟩
  refine WD.know [6] kr ?_
  refine WD.know [7] kr ?_
  refine WD.does 8 kr rfl (Floats.of [7, 6, 1] [3, 2] kr (Floats.pure _ kr kr) (.cons (.tells rfl kr kr (.loadRow (v := .agg #[.int .i64 ((gd (([] : List GValue) ++ (lcut y260.Stack (w64 ((y260.Stack.length : Int) - y336)) (y260.Stack.length : Int))) (0 : Int)).Re), .int .i64 ((gd (([] : List GValue) ++ (lcut y260.Stack (w64 ((y260.Stack.length : Int) - y336)) (y260.Stack.length : Int))) (0 : Int)).Im)]) H 0 rfl g0_473 g1_473 0 2 rfl (fun _ e => by rcases e with rfl; kernel_rfl) kr)) (.cons (.tells rfl kr kr (.idx b473 (p473) (([] : List GValue) ++ (lcut y260.Stack (w64 ((y260.Stack.length : Int) - y336)) (y260.Stack.length : Int))).length c373 (0 : Int) 2 kr kr g0_473 g1_473 kr)) .nil))) kr kr (Does.storeE H 4 (cGFrame y477.1 a478 c478 a479 c479 a480 c480) rfl (q := 0) kr kr kr fun w H => ?_)
  refine WD.does 9 kr rfl (Floats.of [] [] kr .nil .nil) kr kr (Does.storeE H 3 (cGAct y477.2 a481 c481) rfl (q := 0) kr kr kr fun w H => ?_)
  refine WD.fin kr (Floats.of [] [] kr .nil .nil) kr kr ?_
  obtain rfl := Option.some.inj hr
  exact WE.ret ⟨[.agg (cGFrame y477.1 a478 c478 a479 c479 a480 c480).toArray, .agg (cGAct y477.2 a481 c481).toArray], ⟨⟨kr, ⟨b252, 0, none⟩, kr, H.loadVar 4 rfl 0 kr⟩, ⟨kr, ⟨b253, 0, none⟩, kr, H.loadVar 3 rfl 0 kr⟩, trivial⟩, ⟨h477, a478, c478, a479, c479, a480, c480, a481, c481, rfl, ((((le260.trans le474).trans le475).trans le476).trans le477), f478, f479, f480, f481, (H.keep 6)⟩⟩
  }
  {
  refine WE.no kr (b := ((gd ((gd x0 y260.Fn).Code) y260.Pc).Op) == 15) kr t471 ?_
  refine WE.seq ?_
  refine WE.region ?_
  refine WL.fin 2 kr kr ?_
  rcases ite_cases hr with ⟨t482, hr⟩ | ⟨t482, hr⟩
  {
  refine WE.yes kr (b := ((gd ((gd x0 y260.Fn).Code) y260.Pc).Op) == 16) kr t482 ?_
  refine WE.seq ?_
  refine WE.region ?_
  refine WL.does kr kr (Does.loadV H 5 rfl 0 kr kr ?_)
  refine WL.sg 1 kr ?_
  refine WL.does kr kr (Does.loadV H 1 rfl 1 kr kr ?_)
  obtain ⟨y486, q486, hr⟩ := bnd_cases hr
  obtain ⟨h483, le483, f483, H⟩ := (H.front 2 rfl).rowFreeze (Gh.refl _)
  obtain ⟨h484, le484, f484, H⟩ := (H.front 2 rfl).rowFreeze le483
  obtain ⟨h485, le485, f485, H⟩ := (H.front 2 rfl).rowFreeze (le483.trans le484)
  refine WL.does kr kr (Does.call (c_r09_trap y260 ((f483.up le484).up le485) (f484.up le485) f485 ((gd ((gd x0 y260.Fn).Code) y260.Pc).A) H q486) kr ?_)
  rintro _ w ⟨h486, a487, c487, a488, c488, a489, c489, a490, c490, rfl, le486, f487, f488, f489, f490, H⟩
  refine WL.sg 2 kr ?_
  refine WL.does kr kr (Does.storeE H 4 (cGFrame y486.1 a487 c487 a488 c488 a489 c489) rfl (q := 0) kr kr kr fun w H => ?_)
  refine WL.does kr kr (Does.storeE H 3 (cGAct y486.2 a490 c490) rfl (q := 0) kr kr kr fun w H => ?_)
  refine WL.fin 0 kr kr ?_
  obtain rfl := Option.some.inj hr
  exact WE.ret ⟨[.agg (cGFrame y486.1 a487 c487 a488 c488 a489 c489).toArray, .agg (cGAct y486.2 a490 c490).toArray], ⟨⟨kr, ⟨b252, 0, none⟩, kr, H.loadVar 4 rfl 0 kr⟩, ⟨kr, ⟨b253, 0, none⟩, kr, H.loadVar 3 rfl 0 kr⟩, trivial⟩, ⟨h486, a487, c487, a488, c488, a489, c489, a490, c490, rfl, ((((le260.trans le483).trans le484).trans le485).trans le486), f487, f488, f489, f490, (H.keep 6)⟩⟩
  }
  {
  refine WE.no kr (b := ((gd ((gd x0 y260.Fn).Code) y260.Pc).Op) == 16) kr t482 ?_
  refine WE.seq ?_
  refine WE.region ?_
  refine WL.fin 2 kr kr ?_
  rcases ite_cases hr with ⟨t491, hr⟩ | ⟨t491, hr⟩
  {
  refine WE.yes kr (b := ((gd ((gd x0 y260.Fn).Code) y260.Pc).Op) == 6) kr t491 ?_
  refine WE.seq ?_
  refine WE.draws mo [4, 5, 6, 8, 10, 11] (ρ' := [(4, .pointer (some ⟨b252, 0, none⟩)), (5, .pointer (some ⟨b253, 0, none⟩)), (6, .pointer (some ⟨b267, 0, none⟩)), (8, .pointer (some ⟨b335, 0, none⟩)), (10, .int .i64 (w64 ((y260.Stack.length : Int) - y336))), (11, .slice a373 (([] : List GValue) ++ (lcut y260.Stack (w64 ((y260.Stack.length : Int) - y336)) (y260.Stack.length : Int))).length c373)]) kr fun w e1 e2 e3 e4 => ?_
  have H := H.same e1 e2 e3 e4
  clear e1 e2 e3 e4
  refine WD.know [0] kr ?_
  obtain ⟨⟨g0_492, g1_492⟩, hr⟩ := grd_cases hr
  obtain ⟨b492, p492, rfl⟩ := H.rowSome 0 rfl g0_492 g1_492
  refine WD.told 1 152 (.pointer (some ⟨b492, p492 + (0 : Int).toNat * 2, none⟩)) kr kr ?_
  refine WD.told 2 153 (.agg #[.int .i64 ((gd (([] : List GValue) ++ (lcut y260.Stack (w64 ((y260.Stack.length : Int) - y336)) (y260.Stack.length : Int))) (0 : Int)).Re), .int .i64 ((gd (([] : List GValue) ++ (lcut y260.Stack (w64 ((y260.Stack.length : Int) - y336)) (y260.Stack.length : Int))) (0 : Int)).Im)]) kr kr ?_
  refine WD.know [3] kr ?_
  obtain ⟨⟨g0_493, g1_493⟩, hr⟩ := grd_cases hr
  refine WD.told 4 155 (.pointer (some ⟨b492, p492 + (1 : Int).toNat * 2, none⟩)) kr kr ?_
  refine WD.told 5 156 (.agg #[.int .i64 ((gd (([] : List GValue) ++ (lcut y260.Stack (w64 ((y260.Stack.length : Int) - y336)) (y260.Stack.length : Int))) (1 : Int)).Re), .int .i64 ((gd (([] : List GValue) ++ (lcut y260.Stack (w64 ((y260.Stack.length : Int) - y336)) (y260.Stack.length : Int))) (1 : Int)).Im)]) kr kr ?_
  obtain ⟨y494, q494, hr⟩ := bind_cases hr
  refine WD.among 6 [10] kr (Floats.of [3, 0] [5, 4, 2, 1] kr (Floats.pure _ kr kr) (.cons (.tells rfl kr kr (.loadRow (v := .agg #[.int .i64 ((gd (([] : List GValue) ++ (lcut y260.Stack (w64 ((y260.Stack.length : Int) - y336)) (y260.Stack.length : Int))) (1 : Int)).Re), .int .i64 ((gd (([] : List GValue) ++ (lcut y260.Stack (w64 ((y260.Stack.length : Int) - y336)) (y260.Stack.length : Int))) (1 : Int)).Im)]) H 0 rfl g0_493 g1_493 0 2 rfl (fun _ e => by rcases e with rfl; kernel_rfl) kr)) (.cons (.tells rfl kr kr (.idx b492 (p492) (([] : List GValue) ++ (lcut y260.Stack (w64 ((y260.Stack.length : Int) - y336)) (y260.Stack.length : Int))).length c373 (1 : Int) 2 kr kr g0_493 g1_493 kr)) (.cons (.tells rfl kr kr (.loadRow (v := .agg #[.int .i64 ((gd (([] : List GValue) ++ (lcut y260.Stack (w64 ((y260.Stack.length : Int) - y336)) (y260.Stack.length : Int))) (0 : Int)).Re), .int .i64 ((gd (([] : List GValue) ++ (lcut y260.Stack (w64 ((y260.Stack.length : Int) - y336)) (y260.Stack.length : Int))) (0 : Int)).Im)]) H 0 rfl g0_492 g1_492 0 2 rfl (fun _ e => by rcases e with rfl; kernel_rfl) kr)) (.cons (.tells rfl kr kr (.idx b492 (p492) (([] : List GValue) ++ (lcut y260.Stack (w64 ((y260.Stack.length : Int) - y336)) (y260.Stack.length : Int))).length c373 (0 : Int) 2 kr kr g0_492 g1_492 kr)) .nil))))) ⟨?_, ?_, trivial⟩
  {
  refine WT.does 6 kr rfl kr kr (Does.call (c_r04_Div K (⟨(gd (([] : List GValue) ++ (lcut y260.Stack (w64 ((y260.Stack.length : Int) - y336)) (y260.Stack.length : Int))) (0 : Int)).Re, (gd (([] : List GValue) ++ (lcut y260.Stack (w64 ((y260.Stack.length : Int) - y336)) (y260.Stack.length : Int))) (0 : Int)).Im⟩ : GValue) (⟨(gd (([] : List GValue) ++ (lcut y260.Stack (w64 ((y260.Stack.length : Int) - y336)) (y260.Stack.length : Int))) (1 : Int)).Re, (gd (([] : List GValue) ++ (lcut y260.Stack (w64 ((y260.Stack.length : Int) - y336)) (y260.Stack.length : Int))) (1 : Int)).Im⟩ : GValue) H q494) kr ?_)
  rintro _ w ⟨rfl, H⟩
  refine WD.know [7] kr ?_
  refine WD.know [8] kr ?_
  refine WD.know [9] kr ?_
  refine WD.does 10 kr rfl (Floats.of [9, 8, 7, 3, 0] [4, 1] kr (Floats.pure _ kr kr) (.cons (.tells rfl kr kr (.idx b492 (p492) (([] : List GValue) ++ (lcut y260.Stack (w64 ((y260.Stack.length : Int) - y336)) (y260.Stack.length : Int))).length c373 (1 : Int) 2 kr kr g0_493 g1_493 kr)) (.cons (.tells rfl kr kr (.idx b492 (p492) (([] : List GValue) ++ (lcut y260.Stack (w64 ((y260.Stack.length : Int) - y336)) (y260.Stack.length : Int))).length c373 (0 : Int) 2 kr kr g0_492 g1_492 kr)) .nil))) kr kr (Does.alloc H [.int .i64 0, .int .i64 0] kr fun b495 w H => ?_)
  refine WD.does 11 kr rfl (Floats.of [9, 8, 7, 3, 0] [4, 1] kr (Floats.pure _ kr kr) (.cons (.tells rfl kr kr (.idx b492 (p492) (([] : List GValue) ++ (lcut y260.Stack (w64 ((y260.Stack.length : Int) - y336)) (y260.Stack.length : Int))).length c373 (1 : Int) 2 kr kr g0_493 g1_493 kr)) (.cons (.tells rfl kr kr (.idx b492 (p492) (([] : List GValue) ++ (lcut y260.Stack (w64 ((y260.Stack.length : Int) - y336)) (y260.Stack.length : Int))).length c373 (0 : Int) 2 kr kr g0_492 g1_492 kr)) .nil))) kr kr (Does.storeE H 0 [.int .i64 y494.1.Re, .int .i64 y494.1.Im] rfl (q := 0) kr kr kr fun w H => ?_)
  refine WD.does 12 kr rfl (Floats.of [9] [] kr (Floats.pure _ kr kr) .nil) kr kr (Does.reck kr ?_)
  refine WD.fin kr (Floats.of [] [] kr .nil .nil) kr kr ?_
  refine WE.seq ?_
  refine WE.region ?_
  refine WL.fin 2 kr kr ?_
  rcases ite_cases hr with ⟨t496, hr⟩ | ⟨t496, hr⟩
  {
  refine WE.yes kr (b := !y494.2) kr t496 ?_
  refine WE.seq ?_
  refine WE.region ?_
  refine WL.does kr kr (Does.loadV H 6 rfl 0 kr kr ?_)
  obtain ⟨y500, q500, hr⟩ := bnd_cases hr
  obtain ⟨h497, le497, f497, H⟩ := (H.front 3 rfl).rowFreeze (Gh.refl _)
  obtain ⟨h498, le498, f498, H⟩ := (H.front 3 rfl).rowFreeze le497
  obtain ⟨h499, le499, f499, H⟩ := (H.front 3 rfl).rowFreeze (le497.trans le498)
  refine WL.does kr kr (Does.call (c_r09_trap y260 ((f497.up le498).up le499) (f498.up le499) f499 1 H q500) kr ?_)
  rintro _ w ⟨h500, a501, c501, a502, c502, a503, c503, a504, c504, rfl, le500, f501, f502, f503, f504, H⟩
  refine WL.sg 2 kr ?_
  refine WL.does kr kr (Does.storeE H 5 (cGFrame y500.1 a501 c501 a502 c502 a503 c503) rfl (q := 0) kr kr kr fun w H => ?_)
  refine WL.does kr kr (Does.storeE H 4 (cGAct y500.2 a504 c504) rfl (q := 0) kr kr kr fun w H => ?_)
  refine WL.fin 0 kr kr ?_
  obtain rfl := Option.some.inj hr
  exact WE.ret ⟨[.agg (cGFrame y500.1 a501 c501 a502 c502 a503 c503).toArray, .agg (cGAct y500.2 a504 c504).toArray], ⟨⟨kr, ⟨b252, 0, none⟩, kr, H.loadVar 5 rfl 0 kr⟩, ⟨kr, ⟨b253, 0, none⟩, kr, H.loadVar 4 rfl 0 kr⟩, trivial⟩, ⟨h500, a501, c501, a502, c502, a503, c503, a504, c504, rfl, ((((le260.trans le497).trans le498).trans le499).trans le500), f501, f502, f503, f504, (H.keep 7)⟩⟩
  }
  {
  refine WE.no kr (b := !y494.2) kr t496 ?_
  refine WE.skip ?_
  exact WE.live [4, 5, 6, 8, 10, 11] kr (hk_r09_Do_j1 () _ ⟨(H.keep 1), hr⟩)
  }
  }
  {
  refine WT.does 10 kr rfl kr kr (Does.alloc H [.int .i64 0, .int .i64 0] kr fun b495 w H => ?_)
  refine WD.does 6 kr rfl (Floats.of [3, 0] [5, 4, 2, 1] kr (Floats.pure _ kr kr) (.cons (.tells rfl kr kr (.loadRow (v := .agg #[.int .i64 ((gd (([] : List GValue) ++ (lcut y260.Stack (w64 ((y260.Stack.length : Int) - y336)) (y260.Stack.length : Int))) (1 : Int)).Re), .int .i64 ((gd (([] : List GValue) ++ (lcut y260.Stack (w64 ((y260.Stack.length : Int) - y336)) (y260.Stack.length : Int))) (1 : Int)).Im)]) H 1 rfl g0_493 g1_493 0 2 rfl (fun _ e => by rcases e with rfl; kernel_rfl) kr)) (.cons (.tells rfl kr kr (.idx b492 (p492) (([] : List GValue) ++ (lcut y260.Stack (w64 ((y260.Stack.length : Int) - y336)) (y260.Stack.length : Int))).length c373 (1 : Int) 2 kr kr g0_493 g1_493 kr)) (.cons (.tells rfl kr kr (.loadRow (v := .agg #[.int .i64 ((gd (([] : List GValue) ++ (lcut y260.Stack (w64 ((y260.Stack.length : Int) - y336)) (y260.Stack.length : Int))) (0 : Int)).Re), .int .i64 ((gd (([] : List GValue) ++ (lcut y260.Stack (w64 ((y260.Stack.length : Int) - y336)) (y260.Stack.length : Int))) (0 : Int)).Im)]) H 1 rfl g0_492 g1_492 0 2 rfl (fun _ e => by rcases e with rfl; kernel_rfl) kr)) (.cons (.tells rfl kr kr (.idx b492 (p492) (([] : List GValue) ++ (lcut y260.Stack (w64 ((y260.Stack.length : Int) - y336)) (y260.Stack.length : Int))).length c373 (0 : Int) 2 kr kr g0_492 g1_492 kr)) .nil))))) kr kr (Does.call (c_r04_Div K (⟨(gd (([] : List GValue) ++ (lcut y260.Stack (w64 ((y260.Stack.length : Int) - y336)) (y260.Stack.length : Int))) (0 : Int)).Re, (gd (([] : List GValue) ++ (lcut y260.Stack (w64 ((y260.Stack.length : Int) - y336)) (y260.Stack.length : Int))) (0 : Int)).Im⟩ : GValue) (⟨(gd (([] : List GValue) ++ (lcut y260.Stack (w64 ((y260.Stack.length : Int) - y336)) (y260.Stack.length : Int))) (1 : Int)).Re, (gd (([] : List GValue) ++ (lcut y260.Stack (w64 ((y260.Stack.length : Int) - y336)) (y260.Stack.length : Int))) (1 : Int)).Im⟩ : GValue) H q494) kr ?_)
  rintro _ w ⟨rfl, H⟩
  refine WD.know [7] kr ?_
  refine WD.know [8] kr ?_
  refine WD.know [9] kr ?_
  refine WD.does 11 kr rfl (Floats.of [9, 8, 7, 3, 0] [4, 1] kr (Floats.pure _ kr kr) (.cons (.tells rfl kr kr (.idx b492 (p492) (([] : List GValue) ++ (lcut y260.Stack (w64 ((y260.Stack.length : Int) - y336)) (y260.Stack.length : Int))).length c373 (1 : Int) 2 kr kr g0_493 g1_493 kr)) (.cons (.tells rfl kr kr (.idx b492 (p492) (([] : List GValue) ++ (lcut y260.Stack (w64 ((y260.Stack.length : Int) - y336)) (y260.Stack.length : Int))).length c373 (0 : Int) 2 kr kr g0_492 g1_492 kr)) .nil))) kr kr (Does.storeE H 0 [.int .i64 y494.1.Re, .int .i64 y494.1.Im] rfl (q := 0) kr kr kr fun w H => ?_)
  refine WD.does 12 kr rfl (Floats.of [9] [] kr (Floats.pure _ kr kr) .nil) kr kr (Does.reck kr ?_)
  refine WD.fin kr (Floats.of [] [] kr .nil .nil) kr kr ?_
  refine WE.seq ?_
  refine WE.region ?_
  refine WL.fin 2 kr kr ?_
  rcases ite_cases hr with ⟨t496, hr⟩ | ⟨t496, hr⟩
  {
  refine WE.yes kr (b := !y494.2) kr t496 ?_
  refine WE.seq ?_
  refine WE.region ?_
  refine WL.does kr kr (Does.loadV H 6 rfl 0 kr kr ?_)
  obtain ⟨y500, q500, hr⟩ := bnd_cases hr
  obtain ⟨h497, le497, f497, H⟩ := (H.front 3 rfl).rowFreeze (Gh.refl _)
  obtain ⟨h498, le498, f498, H⟩ := (H.front 3 rfl).rowFreeze le497
  obtain ⟨h499, le499, f499, H⟩ := (H.front 3 rfl).rowFreeze (le497.trans le498)
  refine WL.does kr kr (Does.call (c_r09_trap y260 ((f497.up le498).up le499) (f498.up le499) f499 1 H q500) kr ?_)
  rintro _ w ⟨h500, a501, c501, a502, c502, a503, c503, a504, c504, rfl, le500, f501, f502, f503, f504, H⟩
  refine WL.sg 2 kr ?_
  refine WL.does kr kr (Does.storeE H 5 (cGFrame y500.1 a501 c501 a502 c502 a503 c503) rfl (q := 0) kr kr kr fun w H => ?_)
  refine WL.does kr kr (Does.storeE H 4 (cGAct y500.2 a504 c504) rfl (q := 0) kr kr kr fun w H => ?_)
  refine WL.fin 0 kr kr ?_
  obtain rfl := Option.some.inj hr
  exact WE.ret ⟨[.agg (cGFrame y500.1 a501 c501 a502 c502 a503 c503).toArray, .agg (cGAct y500.2 a504 c504).toArray], ⟨⟨kr, ⟨b252, 0, none⟩, kr, H.loadVar 5 rfl 0 kr⟩, ⟨kr, ⟨b253, 0, none⟩, kr, H.loadVar 4 rfl 0 kr⟩, trivial⟩, ⟨h500, a501, c501, a502, c502, a503, c503, a504, c504, rfl, ((((le260.trans le497).trans le498).trans le499).trans le500), f501, f502, f503, f504, (H.keep 7)⟩⟩
  }
  {
  refine WE.no kr (b := !y494.2) kr t496 ?_
  refine WE.skip ?_
  exact WE.live [4, 5, 6, 8, 10, 11] kr (hk_r09_Do_j1 () _ ⟨(H.keep 1), hr⟩)
  }
  }
  }
  {
  refine WE.no kr (b := ((gd ((gd x0 y260.Fn).Code) y260.Pc).Op) == 6) kr t491 ?_
  refine WE.skip ?_
  exact WE.live [4, 5, 6, 8, 10, 11] kr (hk_r09_Do_j1 () _ ⟨H, hr⟩)
  }
  }
  }
  }
  }
  }
  }
  rcases ite_cases hy357 with ⟨ty357, hy357⟩ | ⟨ty357, hy357⟩
  {
  refine WL.known 84 ty357 kr kr ?_
  refine WL.sg 13 kr ?_
  obtain rfl := hy357
  exact WL.live [4, 5, 6, 8, 10, 97] kr (hk_y357 () _ H)
  }
  {
  refine WL.known 84 ty357 kr kr ?_
  refine WL.sg 1 kr ?_
  refine WL.does kr kr (Does.loadV H 0 rfl 0 kr kr ?_)
  obtain ⟨y505, q505, hy357⟩ := bnd_cases hy357
  refine WL.does kr kr (Does.call (c_r06_On ((gd ((gd x0 y260.Fn).Code) y260.Pc).Op) H q505) kr ?_)
  rintro _ w ⟨rfl, H⟩
  refine WL.sg 2 kr ?_
  obtain ⟨y506, hy506, hy357⟩ := bnd_cases hy357
  refine WL.join 7 (fun (_ : Unit) => [(4, .pointer (some ⟨b252, 0, none⟩)), (5, .pointer (some ⟨b253, 0, none⟩)), (6, .pointer (some ⟨b267, 0, none⟩)), (8, .pointer (some ⟨b335, 0, none⟩)), (10, .int .i64 (w64 ((y260.Stack.length : Int) - y336))), (84, .bool false), (96, .bool y506)]) (fun (_ : Unit) w => St w0 h260 w (var b335 [.int .i64 ((gd ((gd x0 y260.Fn).Code) y260.Pc).Op), .int .i64 ((gd ((gd x0 y260.Fn).Code) y260.Pc).A), .int .i64 ((gd ((gd x0 y260.Fn).Code) y260.Pc).B)] 58 :: row rGValue 16 h260 a261 c261 y260.Stack :: row rGValue 16 h260 a262 c262 y260.Locals :: row rGSlot 48 h260 a263 c263 y260.Slots :: var b267 (cGFrame y260 a261 c261 a262 c262 a263 c263) 33 :: var b253 (cGAct (⟨0, 0, 0, 0, []⟩ : GAct) none 0) 40 :: var b252 (cGFrame (⟨0, 0, [], [], [], 0, 0, 0, 0, 0, (⟨0, (⟨0, 0⟩ : GValue)⟩ : GOut), (⟨0, 0⟩ : GRef), 0⟩ : GFrame) none 0 none 0 none 0) 33 :: var b251 (cGFrame x1 a2 c2 a3 c3 a4 c4) 33 :: L)) ?_ (fun hk_y506 => ?_)
  {
  rintro _ w H
  refine WL.sg 1 kr ?_
  obtain rfl := hy357
  exact WL.live [4, 5, 6, 8, 10, 97] kr (hk_y357 () _ H)
  }
  rcases ite_cases hy506 with ⟨ty506, hy506⟩ | ⟨ty506, hy506⟩
  {
  refine WL.known 89 ty506 kr kr ?_
  refine WL.sg 2 kr ?_
  refine WL.does kr kr (Does.loadV H 0 rfl 0 kr kr ?_)
  obtain ⟨y508, q508, hy506⟩ := bnd_cases hy506
  refine WL.does kr kr (Does.call (c_r06_On ((gd ((gd x0 y260.Fn).Code) y260.Pc).Op) H q508) kr ?_)
  rintro _ w ⟨rfl, H⟩
  refine WL.sg 3 kr ?_
  obtain rfl := hy506
  exact WL.live [4, 5, 6, 8, 10, 84, 96] kr (hk_y506 () _ H)
  }
  {
  refine WL.known 89 ty506 kr kr ?_
  refine WL.sg 7 kr ?_
  obtain rfl := hy506
  exact WL.live [4, 5, 6, 8, 10, 84, 96] kr (hk_y506 () _ H)
  }
  }
  }
  rcases ite_cases hy356 with ⟨ty356, hy356⟩ | ⟨ty356, hy356⟩
  {
  refine WL.known 80 ty356 kr kr ?_
  refine WL.sg 3 kr ?_
  obtain rfl := hy356
  exact WL.live [4, 5, 6, 8, 10, 83] kr (hk_y356 () _ H)
  }
  {
  refine WL.known 80 ty356 kr kr ?_
  refine WL.sg 3 kr ?_
  obtain rfl := hy356
  exact WL.live [4, 5, 6, 8, 10, 83] kr (hk_y356 () _ H)
  }
  }
  }
  }
  }
  }
  rcases ite_cases hy258 with ⟨ty258, hy258⟩ | ⟨ty258, hy258⟩
  {
  refine WL.known 22 ty258 kr kr ?_
  refine WL.sg 6 kr ?_
  obtain rfl := hy258
  exact WL.live [0, 3, 4, 5, 28] kr (hk_y258 () _ H)
  }
  {
  refine WL.known 22 ty258 kr kr ?_
  refine WL.sg 1 kr ?_
  refine WL.does kr kr (Does.loadV H 2 rfl 0 kr kr ?_)
  refine WL.sg 4 kr ?_
  obtain rfl := hy258
  exact WL.live [0, 3, 4, 5, 28] kr (hk_y258 () _ H)
  }
  }
  rcases ite_cases hy257 with ⟨ty257, hy257⟩ | ⟨ty257, hy257⟩
  {
  refine WL.known 17 ty257 kr kr ?_
  refine WL.sg 4 kr ?_
  obtain rfl := hy257
  exact WL.live [0, 3, 4, 5, 21] kr (hk_y257 () _ H)
  }
  {
  refine WL.known 17 ty257 kr kr ?_
  refine WL.sg 1 kr ?_
  refine WL.does kr kr (Does.loadV H 2 rfl 0 kr kr ?_)
  refine WL.sg 2 kr ?_
  obtain rfl := hy257
  exact WL.live [0, 3, 4, 5, 21] kr (hk_y257 () _ H)
  }
def r09_Give (x0 : GFrame) (x1 : Int) (x2 : GOut) : Option (GFrame × Bool) :=
  bnd (
      if decide (x1 < 0) then
        true
      else
        decide (x1 ≥ (x0.Slots.length : Int))) fun y27 =>
  (
      if y27 then
        some true
      else
        if 0 ≤ (gmax x1 0) ∧ (gmax x1 0) < x0.Slots.length then
          some (((gd x0.Slots (gmax x1 0)).State) != 1)
        else none).bind fun y28 =>
  if y28 then
    some (x0, false)
  else
    (r09_Copy x0).bind fun y31 =>
    if 0 ≤ x1 ∧ x1 < y31.Slots.length then
      bnd (
          if y31.State == 1 then
            y31.Wait == x1
          else
            false) fun y41 =>
      if y41 then
        some ({ y31 with Slots := (y31.Slots.set x1.toNat (⟨2, (⟨(-1), 0⟩ : GRef), x2⟩ : GSlot)), State := 0, Wait := 0 }, true)
      else
        some ({ y31 with Slots := (y31.Slots.set x1.toNat (⟨2, (⟨(-1), 0⟩ : GRef), x2⟩ : GSlot)) }, true)
    else none
set_option maxRecDepth 100000 in
set_option maxHeartbeats 4000000 in
theorem c_r09_Give {w0 w : World} {h : Gh} {L : List Ent} (x0 : GFrame) {a1 : Option Addr} {c1 : Nat} {a2 : Option Addr} {c2 : Nat} {a3 : Option Addr} {c3 : Nat} (f1 : Sl rGValue 16 h a1 c1 x0.Stack) (f2 : Sl rGValue 16 h a2 c2 x0.Locals) (f3 : Sl rGSlot 48 h a3 c3 x0.Slots) (x1 : Int) (x2 : GOut) (H : St w0 h w L) {r : GFrame × Bool} (hr : r09_Give x0 x1 x2 = some r) : Calls Tryz.prog 10 #[.agg (cGFrame x0 a1 c1 a2 c2 a3 c3).toArray, .int .i64 x1, .agg #[.int .i64 x2.Trap, .int .i64 x2.V.Re, .int .i64 x2.V.Im]] w (fun e w' => ∃ v, e = .returned v ∧ ∃ (h' : Gh) (a901 : Option Addr) (c901 : Nat) (a902 : Option Addr) (c902 : Nat) (a903 : Option Addr) (c903 : Nat), v = .tuple #[.agg (cGFrame r.1 a901 c901 a902 c902 a903 c903).toArray, .bool r.2] ∧ h.le h' ∧ Sl rGValue 16 h' a901 c901 r.1.Stack ∧ Sl rGValue 16 h' a902 c902 r.1.Locals ∧ Sl rGSlot 48 h' a903 c903 r.1.Slots ∧ St w0 h' w' (L)) := by
  refine calls_of (args := [.agg (cGFrame x0 a1 c1 a2 c2 a3 c3).toArray, .int .i64 x1, .agg #[.int .i64 x2.Trap, .int .i64 x2.V.Re, .int .i64 x2.V.Im]]) (n := 50) (rs := [.cell 6 33, .tmp 7]) Tryz.func10 rfl rfl rfl rfl rfl ?_
  unfold r09_Give at hr
  refine WE.seq ?_
  refine WE.region ?_
  refine WL.does kr kr (Does.box H (cGFrame x0 a1 c1 a2 c2 a3 c3) kr fun b24 w H => ?_)
  refine WL.does kr kr (Does.box H [.int .i64 x2.Trap, .int .i64 x2.V.Re, .int .i64 x2.V.Im] kr fun b25 w H => ?_)
  refine WL.does kr kr (Does.alloc H (cGFrame (⟨0, 0, [], [], [], 0, 0, 0, 0, 0, (⟨0, (⟨0, 0⟩ : GValue)⟩ : GOut), (⟨0, 0⟩ : GRef), 0⟩ : GFrame) none 0 none 0 none 0) kr fun b26 w H => ?_)
  refine WL.fin 1 kr kr ?_
  refine WE.seq ?_
  refine WE.seq ?_
  refine WE.region ?_
  refine WL.sg 3 kr ?_
  obtain ⟨y27, hy27, hr⟩ := bnd_cases hr
  refine WL.join 6 (fun (_ : Unit) => [(1, .int .i64 x1), (3, .pointer (some ⟨b24, 0, none⟩)), (5, .pointer (some ⟨b25, 0, none⟩)), (6, .pointer (some ⟨b26, 0, none⟩)), (17, .bool y27)]) (fun (_ : Unit) w => St w0 h w (var b26 (cGFrame (⟨0, 0, [], [], [], 0, 0, 0, 0, 0, (⟨0, (⟨0, 0⟩ : GValue)⟩ : GOut), (⟨0, 0⟩ : GRef), 0⟩ : GFrame) none 0 none 0 none 0) 33 :: var b25 [.int .i64 x2.Trap, .int .i64 x2.V.Re, .int .i64 x2.V.Im] 29 :: var b24 (cGFrame x0 a1 c1 a2 c2 a3 c3) 33 :: L)) ?_ (fun hk_y27 => ?_)
  {
  rintro _ w H
  refine WL.sg 1 kr ?_
  obtain ⟨y28, hy28, hr⟩ := bind_cases hr
  refine WL.join 9 (fun (_ : Unit) => [(1, .int .i64 x1), (3, .pointer (some ⟨b24, 0, none⟩)), (5, .pointer (some ⟨b25, 0, none⟩)), (6, .pointer (some ⟨b26, 0, none⟩)), (27, .bool y28)]) (fun (_ : Unit) w => St w0 h w (var b26 (cGFrame (⟨0, 0, [], [], [], 0, 0, 0, 0, 0, (⟨0, (⟨0, 0⟩ : GValue)⟩ : GOut), (⟨0, 0⟩ : GRef), 0⟩ : GFrame) none 0 none 0 none 0) 33 :: var b25 [.int .i64 x2.Trap, .int .i64 x2.V.Re, .int .i64 x2.V.Im] 29 :: var b24 (cGFrame x0 a1 c1 a2 c2 a3 c3) 33 :: L)) ?_ (fun hk_y28 => ?_)
  {
  rintro _ w H
  refine WL.fin 0 kr kr ?_
  rcases ite_cases hr with ⟨t30, hr⟩ | ⟨t30, hr⟩
  {
  refine WE.yes kr (b := y28) kr t30 ?_
  refine WE.seq ?_
  refine WE.region ?_
  refine WL.does kr kr (Does.loadV H 2 rfl 0 kr kr ?_)
  refine WL.does kr kr (Does.storeE H 0 (cGFrame x0 a1 c1 a2 c2 a3 c3) rfl (q := 0) kr kr kr fun w H => ?_)
  refine WL.fin 1 kr kr ?_
  obtain rfl := Option.some.inj hr
  exact WE.ret ⟨[.agg (cGFrame x0 a1 c1 a2 c2 a3 c3).toArray, .bool false], ⟨⟨kr, ⟨b26, 0, none⟩, kr, H.loadVar 0 rfl 0 kr⟩, ⟨kr, kr⟩, trivial⟩, ⟨h, a1, c1, a2, c2, a3, c3, rfl, (Gh.refl _), f1, f2, f3, (H.keep 3)⟩⟩
  }
  {
  refine WE.no kr (b := y28) kr t30 ?_
  refine WE.skip ?_
  refine WE.seq ?_
  refine WE.region ?_
  refine WL.does kr kr (Does.loadV H 2 rfl 0 kr kr ?_)
  obtain ⟨y31, q31, hr⟩ := bind_cases hr
  refine WL.does kr kr (Does.call (c_r09_Copy x0 f1 f2 f3 H q31) kr ?_)
  rintro _ w ⟨h31, a32, c32, a33, c33, a34, c34, rfl, le31, H⟩
  refine WL.does kr kr (Does.alloc H (cGFrame (⟨0, 0, [], [], [], 0, 0, 0, 0, 0, (⟨0, (⟨0, 0⟩ : GValue)⟩ : GOut), (⟨0, 0⟩ : GRef), 0⟩ : GFrame) none 0 none 0 none 0) kr fun b38 w H => ?_)
  refine WL.does kr kr (Does.storeE H 0 (cGFrame y31 a32 c32 a33 c33 a34 c34) rfl (q := 0) kr kr kr fun w H => ?_)
  refine WL.fin 0 kr kr ?_
  refine WE.seq ?_
  refine WE.region ?_
  refine WL.sg 1 kr ?_
  refine WL.does kr kr (Does.loadV H 0 rfl 4 kr kr ?_)
  refine WL.sg 2 kr ?_
  refine WL.does kr kr (Does.loadV H 5 rfl 0 kr kr ?_)
  obtain ⟨⟨g0_39, g1_39⟩, hr⟩ := grd_cases hr
  obtain ⟨b39, p39, rfl⟩ := H.rowSome 3 rfl g0_39 g1_39
  refine WL.sg 1 kr ?_
  refine WL.does kr kr (Does.tells (.idx b39 (p39) y31.Slots.length c34 x1 6 kr kr g0_39 g1_39 kr) ?_)
  obtain ⟨C40, e40, _, hb40, hc40, rfl⟩ := H.rowAt2 3 rfl g0_39 g1_39
  refine WL.does kr kr (Does.storeRow H 3 rfl (Gh.refl _) (j := x1.toNat) (by have h0 := g0_39; have h1 := g1_39; omega) hb40 hc40 0 kr kr (y' := (⟨2, (⟨(-1), 0⟩ : GRef), x2⟩ : GSlot)) (by show _ = _; kernel_rfl) fun w H => ?_)
  have H := H.recell 0 (cGFrame ({ y31 with Slots := (y31.Slots.set x1.toNat (⟨2, (⟨(-1), 0⟩ : GRef), x2⟩ : GSlot)) }) a32 c32 a33 c33 (some ⟨b39, p39, none⟩) c34) rfl (by simp only [cGFrame, List.length_set, List.length_take, copied_len])
  refine WL.fin 0 kr kr ?_
  refine WE.seq ?_
  refine WE.seq ?_
  refine WE.region ?_
  refine WL.sg 1 kr ?_
  refine WL.does kr kr (Does.loadV H 0 rfl 8 kr kr ?_)
  refine WL.sg 2 kr ?_
  obtain ⟨y41, hy41, hr⟩ := bnd_cases hr
  refine WL.join 5 (fun (_ : Unit) => [(6, .pointer (some ⟨b26, 0, none⟩)), (8, .pointer (some ⟨b38, 0, none⟩)), (46, .bool y41)]) (fun (_ : Unit) w => St w0 h31 w (var b38 (cGFrame ({ y31 with Slots := (y31.Slots.set x1.toNat (⟨2, (⟨(-1), 0⟩ : GRef), x2⟩ : GSlot)) }) a32 c32 a33 c33 (some ⟨b39, p39, none⟩) c34) 33 :: row rGValue 16 h31 a32 c32 y31.Stack :: row rGValue 16 h31 a33 c33 y31.Locals :: row rGSlot 48 h31 (some ⟨b39, p39, none⟩) c34 (y31.Slots.set x1.toNat (⟨2, (⟨(-1), 0⟩ : GRef), x2⟩ : GSlot)) :: var b26 (cGFrame (⟨0, 0, [], [], [], 0, 0, 0, 0, 0, (⟨0, (⟨0, 0⟩ : GValue)⟩ : GOut), (⟨0, 0⟩ : GRef), 0⟩ : GFrame) none 0 none 0 none 0) 33 :: var b25 [.int .i64 x2.Trap, .int .i64 x2.V.Re, .int .i64 x2.V.Im] 29 :: var b24 (cGFrame x0 a1 c1 a2 c2 a3 c3) 33 :: L)) ?_ (fun hk_y41 => ?_)
  {
  rintro _ w H
  refine WL.fin 0 kr kr ?_
  rcases ite_cases hr with ⟨t42, hr⟩ | ⟨t42, hr⟩
  {
  refine WE.yes kr (b := y41) kr t42 ?_
  refine WE.seq ?_
  refine WE.region ?_
  refine WL.sg 1 kr ?_
  refine WL.does kr kr (Does.storeE H 0 (cGFrame ({ y31 with Slots := (y31.Slots.set x1.toNat (⟨2, (⟨(-1), 0⟩ : GRef), x2⟩ : GSlot)), State := 0 }) a32 c32 a33 c33 (some ⟨b39, p39, none⟩) c34) rfl (q := 8) kr kr kr fun w H => ?_)
  refine WL.fin 0 kr kr ?_
  refine WE.region ?_
  refine WL.sg 1 kr ?_
  refine WL.does kr kr (Does.storeE H 0 (cGFrame ({ y31 with Slots := (y31.Slots.set x1.toNat (⟨2, (⟨(-1), 0⟩ : GRef), x2⟩ : GSlot)), State := 0, Wait := 0 }) a32 c32 a33 c33 (some ⟨b39, p39, none⟩) c34) rfl (q := 9) kr kr kr fun w H => ?_)
  refine WL.fin 0 kr kr ?_
  refine WE.seq ?_
  refine WE.region ?_
  refine WL.does kr kr (Does.loadV H 0 rfl 0 kr kr ?_)
  refine WL.does kr kr (Does.storeE H 4 (cGFrame ({ y31 with Slots := (y31.Slots.set x1.toNat (⟨2, (⟨(-1), 0⟩ : GRef), x2⟩ : GSlot)), State := 0, Wait := 0 }) a32 c32 a33 c33 (some ⟨b39, p39, none⟩) c34) rfl (q := 0) kr kr kr fun w H => ?_)
  refine WL.fin 1 kr kr ?_
  obtain ⟨h43, le43, f43, H⟩ := (H.front 1 rfl).rowFreeze (Gh.refl _)
  obtain ⟨h44, le44, f44, H⟩ := (H.front 1 rfl).rowFreeze le43
  obtain ⟨h45, le45, f45, H⟩ := (H.front 1 rfl).rowFreeze (le43.trans le44)
  obtain rfl := Option.some.inj hr
  exact WE.ret ⟨[.agg (cGFrame ({ y31 with Slots := (y31.Slots.set x1.toNat (⟨2, (⟨(-1), 0⟩ : GRef), x2⟩ : GSlot)), State := 0, Wait := 0 }) a32 c32 a33 c33 (some ⟨b39, p39, none⟩) c34).toArray, .bool true], ⟨⟨kr, ⟨b26, 0, none⟩, kr, H.loadVar 1 rfl 0 kr⟩, ⟨kr, kr⟩, trivial⟩, ⟨h45, a32, c32, a33, c33, (some ⟨b39, p39, none⟩), c34, rfl, (((le31.trans le43).trans le44).trans le45), ((f43.up le44).up le45), (f44.up le45), f45, (H.keep 4)⟩⟩
  }
  {
  refine WE.no kr (b := y41) kr t42 ?_
  refine WE.skip ?_
  refine WE.seq ?_
  refine WE.region ?_
  refine WL.does kr kr (Does.loadV H 0 rfl 0 kr kr ?_)
  refine WL.does kr kr (Does.storeE H 4 (cGFrame ({ y31 with Slots := (y31.Slots.set x1.toNat (⟨2, (⟨(-1), 0⟩ : GRef), x2⟩ : GSlot)) }) a32 c32 a33 c33 (some ⟨b39, p39, none⟩) c34) rfl (q := 0) kr kr kr fun w H => ?_)
  refine WL.fin 1 kr kr ?_
  obtain ⟨h46, le46, f46, H⟩ := (H.front 1 rfl).rowFreeze (Gh.refl _)
  obtain ⟨h47, le47, f47, H⟩ := (H.front 1 rfl).rowFreeze le46
  obtain ⟨h48, le48, f48, H⟩ := (H.front 1 rfl).rowFreeze (le46.trans le47)
  obtain rfl := Option.some.inj hr
  exact WE.ret ⟨[.agg (cGFrame ({ y31 with Slots := (y31.Slots.set x1.toNat (⟨2, (⟨(-1), 0⟩ : GRef), x2⟩ : GSlot)) }) a32 c32 a33 c33 (some ⟨b39, p39, none⟩) c34).toArray, .bool true], ⟨⟨kr, ⟨b26, 0, none⟩, kr, H.loadVar 1 rfl 0 kr⟩, ⟨kr, kr⟩, trivial⟩, ⟨h48, a32, c32, a33, c33, (some ⟨b39, p39, none⟩), c34, rfl, (((le31.trans le46).trans le47).trans le48), ((f46.up le47).up le48), (f47.up le48), f48, (H.keep 4)⟩⟩
  }
  }
  rcases ite_cases hy41 with ⟨ty41, hy41⟩ | ⟨ty41, hy41⟩
  {
  refine WL.known 41 ty41 kr kr ?_
  refine WL.sg 1 kr ?_
  refine WL.does kr kr (Does.loadV H 0 rfl 9 kr kr ?_)
  refine WL.sg 3 kr ?_
  obtain rfl := hy41
  exact WL.live [6, 8, 46] kr (hk_y41 () _ H)
  }
  {
  refine WL.known 41 ty41 kr kr ?_
  refine WL.sg 5 kr ?_
  obtain rfl := hy41
  exact WL.live [6, 8, 46] kr (hk_y41 () _ H)
  }
  }
  }
  rcases ite_cases hy28 with ⟨ty28, hy28⟩ | ⟨ty28, hy28⟩
  {
  refine WL.known 18 ty28 kr kr ?_
  refine WL.sg 9 kr ?_
  obtain rfl := Option.some.inj hy28
  exact WL.live [1, 3, 5, 6, 27] kr (hk_y28 () _ H)
  }
  {
  refine WL.known 18 ty28 kr kr ?_
  refine WL.sg 1 kr ?_
  refine WL.does kr kr (Does.loadV H 2 rfl 4 kr kr ?_)
  obtain ⟨⟨g0_49, g1_49⟩, hy28⟩ := grd_cases hy28
  obtain ⟨b49, p49, C49, e49, fr49, cs49, rfl, hb49, hc49, rfl⟩ := f3.at g0_49 g1_49
  refine WL.sg 2 kr ?_
  refine WL.does kr kr (Does.tells (.idx b49 (p49) x0.Slots.length c3 (gmax x1 0) 6 kr kr g0_49 g1_49 kr) ?_)
  refine WL.sg 1 kr ?_
  refine WL.does kr kr (Does.loadR H hb49 hc49 0 kr kr ?_)
  refine WL.sg 2 kr ?_
  obtain rfl := Option.some.inj hy28
  exact WL.live [1, 3, 5, 6, 27] kr (hk_y28 () _ H)
  }
  }
  rcases ite_cases hy27 with ⟨ty27, hy27⟩ | ⟨ty27, hy27⟩
  {
  refine WL.known 11 ty27 kr kr ?_
  refine WL.sg 6 kr ?_
  obtain rfl := hy27
  exact WL.live [1, 3, 5, 6, 17] kr (hk_y27 () _ H)
  }
  {
  refine WL.known 11 ty27 kr kr ?_
  refine WL.sg 2 kr ?_
  refine WL.does kr kr (Does.loadV H 2 rfl 4 kr kr ?_)
  refine WL.sg 3 kr ?_
  obtain rfl := hy27
  exact WL.live [1, 3, 5, 6, 17] kr (hk_y27 () _ H)
  }
def r09_Final_l1 (K : Nat) (x0 : GFrame) : Nat → (Int × Int × Int × Int) → Option (GOut × Bool)
  | 0, _ => none
  | k1 + 1, (y32, y33, y34, y35) =>
    if decide (y35 ≥ 0) then
      if 0 ≤ y35 ∧ y35 < x0.Slots.length then
        if ((gd x0.Slots y35).State) == 1 then
          some ((⟨0, (⟨0, 0⟩ : GValue)⟩ : GOut), false)
        else
          if 0 ≤ y35 ∧ y35 < x0.Slots.length then
            (
                if ((gd x0.Slots y35).State) == 2 then
                  if 0 ≤ y35 ∧ y35 < x0.Slots.length then
                    some (((gd x0.Slots y35).Out.Trap) != 0)
                  else none
                else
                  some false).bind fun y40 =>
            bnd (
                if y40 then
                  x0.Out.Trap == 0
                else
                  false) fun y42 =>
            if y42 then
              if 0 ≤ y35 ∧ y35 < x0.Slots.length then
                r09_Final_l1 K x0 k1 ((gd x0.Slots y35).Out.Trap, 0, 0, w64 (y35 - 1))
              else none
            else
              r09_Final_l1 K x0 k1 (y32, y33, y34, w64 (y35 - 1))
          else none
      else none
    else
      some ((⟨y32, (⟨y33, y34⟩ : GValue)⟩ : GOut), true)
def r09_Final (K : Nat) (x0 : GFrame) : Option (GOut × Bool) :=
  if x0.State != 2 then
    some ((⟨0, (⟨0, 0⟩ : GValue)⟩ : GOut), false)
  else
    r09_Final_l1 K x0 K (x0.Out.Trap, x0.Out.V.Re, x0.Out.V.Im, w64 ((x0.Slots.length : Int) - 1))
set_option maxRecDepth 100000 in
set_option maxHeartbeats 4000000 in
theorem c_r09_Final {w0 w : World} {h : Gh} {L : List Ent} (K : Nat) (x0 : GFrame) {a1 : Option Addr} {c1 : Nat} {a2 : Option Addr} {c2 : Nat} {a3 : Option Addr} {c3 : Nat} (f1 : Sl rGValue 16 h a1 c1 x0.Stack) (f2 : Sl rGValue 16 h a2 c2 x0.Locals) (f3 : Sl rGSlot 48 h a3 c3 x0.Slots) (H : St w0 h w L) {r : GOut × Bool} (hr : r09_Final K x0 = some r) : Calls Tryz.prog 12 #[.agg (cGFrame x0 a1 c1 a2 c2 a3 c3).toArray] w (fun e w' => ∃ v, e = .returned v ∧ v = .tuple #[.agg #[.int .i64 r.1.Trap, .int .i64 r.1.V.Re, .int .i64 r.1.V.Im], .bool r.2] ∧ St w0 h w' (L)) := by
  refine calls_of (args := [.agg (cGFrame x0 a1 c1 a2 c2 a3 c3).toArray]) (n := 60) (rs := [.cell 2 29, .tmp 3]) Tryz.func12 rfl rfl rfl rfl rfl ?_
  unfold r09_Final at hr
  refine WE.seq ?_
  refine WE.region ?_
  refine WL.does kr kr (Does.box H (cGFrame x0 a1 c1 a2 c2 a3 c3) kr fun b4 w H => ?_)
  refine WL.does kr kr (Does.alloc H [.int .i64 0, .int .i64 0, .int .i64 0] kr fun b5 w H => ?_)
  refine WL.fin 1 kr kr ?_
  refine WE.seq ?_
  refine WE.seq ?_
  refine WE.region ?_
  refine WL.sg 1 kr ?_
  refine WL.does kr kr (Does.loadV H 1 rfl 8 kr kr ?_)
  refine WL.fin 1 kr kr ?_
  rcases ite_cases hr with ⟨t6, hr⟩ | ⟨t6, hr⟩
  {
  refine WE.yes kr (b := x0.State != 2) kr t6 ?_
  refine WE.seq ?_
  refine WE.region ?_
  refine WL.sg 1 kr ?_
  refine WL.does kr kr (Does.storeE H 0 [.int .i64 0, .int .i64 0, .int .i64 0] rfl (q := 0) kr kr kr fun w H => ?_)
  refine WL.fin 1 kr kr ?_
  obtain rfl := Option.some.inj hr
  exact WE.ret ⟨[.agg #[.int .i64 0, .int .i64 0, .int .i64 0], .bool false], ⟨⟨kr, ⟨b5, 0, none⟩, kr, H.loadVar 0 rfl 0 kr⟩, ⟨kr, kr⟩, trivial⟩, ⟨rfl, (H.keep 2)⟩⟩
  }
  {
  refine WE.no kr (b := x0.State != 2) kr t6 ?_
  refine WE.skip ?_
  refine WE.seq ?_
  refine WE.region ?_
  refine WL.sg 1 kr ?_
  refine WL.does kr kr (Does.loadV H 1 rfl 10 kr kr ?_)
  refine WL.does kr kr (Does.alloc H [.int .i64 0, .int .i64 0, .int .i64 0] kr fun b7 w H => ?_)
  refine WL.does kr kr (Does.storeE H 0 [.int .i64 x0.Out.Trap, .int .i64 x0.Out.V.Re, .int .i64 x0.Out.V.Im] rfl (q := 0) kr kr kr fun w H => ?_)
  refine WL.fin 0 kr kr ?_
  refine WE.seq ?_
  refine WE.seq ?_
  refine WE.region ?_
  refine WL.sg 1 kr ?_
  refine WL.does kr kr (Does.loadV H 2 rfl 4 kr kr ?_)
  refine WL.fin 3 kr kr ?_
  refine WE.block ?_
  refine WE.loop (LP.live [1, 2, 4, 5] kr (LP.rec (r09_Final_l1 K x0) (fun (⟨y32, y33, y34, y35⟩ : Int × Int × Int × Int) (_ : Unit) => [(1, .pointer (some ⟨b4, 0, none⟩)), (2, .pointer (some ⟨b5, 0, none⟩)), (4, .pointer (some ⟨b7, 0, none⟩)), (5, .int .i64 y35)]) (fun (⟨y32, y33, y34, y35⟩ : Int × Int × Int × Int) (_ : Unit) => fun w => St w0 h w (var b7 [.int .i64 y32, .int .i64 y33, .int .i64 y34] 29 :: var b5 [.int .i64 0, .int .i64 0, .int .i64 0] 29 :: var b4 (cGFrame x0 a1 c1 a2 c2 a3 c3) 33 :: L)) r (fun _ => rfl) ?_ K (x0.Out.Trap, x0.Out.V.Re, x0.Out.V.Im, w64 ((x0.Slots.length : Int) - 1)) () _ H hr))
  rintro k1 ih1 ⟨y32, y33, y34, y35⟩ _ w H hr
  simp only [r09_Final_l1] at hr
  refine WE.seq ?_
  refine WE.seq ?_
  refine WE.region ?_
  refine WL.fin 2 kr kr ?_
  rcases ite_cases hr with ⟨t36, hr⟩ | ⟨t36, hr⟩
  {
  refine WE.yes kr (b := decide (y35 ≥ 0)) kr t36 ?_
  refine WE.skip ?_
  refine WE.seq ?_
  refine WE.block ?_
  refine WE.seq ?_
  refine WE.seq ?_
  refine WE.region ?_
  refine WL.sg 1 kr ?_
  refine WL.does kr kr (Does.loadV H 2 rfl 4 kr kr ?_)
  obtain ⟨⟨g0_37, g1_37⟩, hr⟩ := grd_cases hr
  obtain ⟨b37, p37, C37, e37, fr37, cs37, rfl, hb37, hc37, rfl⟩ := f3.at g0_37 g1_37
  refine WL.sg 1 kr ?_
  refine WL.does kr kr (Does.tells (.idx b37 (p37) x0.Slots.length c3 y35 6 kr kr g0_37 g1_37 kr) ?_)
  refine WL.sg 1 kr ?_
  refine WL.does kr kr (Does.loadR H hb37 hc37 0 kr kr ?_)
  refine WL.fin 1 kr kr ?_
  rcases ite_cases hr with ⟨t38, hr⟩ | ⟨t38, hr⟩
  {
  refine WE.yes kr (b := ((gd x0.Slots y35).State) == 1) kr t38 ?_
  refine WE.seq ?_
  refine WE.region ?_
  refine WL.sg 1 kr ?_
  refine WL.does kr kr (Does.storeE H 1 [.int .i64 0, .int .i64 0, .int .i64 0] rfl (q := 0) kr kr kr fun w H => ?_)
  refine WL.fin 1 kr kr ?_
  obtain rfl := Option.some.inj hr
  exact WE.ret ⟨[.agg #[.int .i64 0, .int .i64 0, .int .i64 0], .bool false], ⟨⟨kr, ⟨b5, 0, none⟩, kr, H.loadVar 1 rfl 0 kr⟩, ⟨kr, kr⟩, trivial⟩, ⟨rfl, (H.keep 3)⟩⟩
  }
  {
  refine WE.no kr (b := ((gd x0.Slots y35).State) == 1) kr t38 ?_
  refine WE.skip ?_
  refine WE.seq ?_
  refine WE.region ?_
  refine WL.sg 1 kr ?_
  refine WL.does kr kr (Does.loadV H 2 rfl 4 kr kr ?_)
  obtain ⟨⟨g0_39, g1_39⟩, hr⟩ := grd_cases hr
  obtain ⟨C39, e39, fr39, cs39, hb39, hc39, rfl⟩ := f3.at2 g0_39 g1_39
  refine WL.sg 1 kr ?_
  refine WL.does kr kr (Does.tells (.idx b37 (p37) x0.Slots.length c3 y35 6 kr kr g0_39 g1_39 kr) ?_)
  refine WL.sg 1 kr ?_
  refine WL.does kr kr (Does.loadR H hb39 hc39 0 kr kr ?_)
  refine WL.sg 2 kr ?_
  obtain ⟨y40, hy40, hr⟩ := bind_cases hr
  refine WL.join 9 (fun (_ : Unit) => [(1, .pointer (some ⟨b4, 0, none⟩)), (2, .pointer (some ⟨b5, 0, none⟩)), (4, .pointer (some ⟨b7, 0, none⟩)), (5, .int .i64 y35), (44, .bool y40)]) (fun (_ : Unit) w => St w0 h w (var b7 [.int .i64 y32, .int .i64 y33, .int .i64 y34] 29 :: var b5 [.int .i64 0, .int .i64 0, .int .i64 0] 29 :: var b4 (cGFrame x0 a1 c1 a2 c2 (some ⟨b37, p37, none⟩) c3) 33 :: L)) ?_ (fun hk_y40 => ?_)
  {
  rintro _ w H
  refine WL.sg 1 kr ?_
  obtain ⟨y42, hy42, hr⟩ := bnd_cases hr
  refine WL.join 5 (fun (_ : Unit) => [(1, .pointer (some ⟨b4, 0, none⟩)), (2, .pointer (some ⟨b5, 0, none⟩)), (4, .pointer (some ⟨b7, 0, none⟩)), (5, .int .i64 y35), (50, .bool y42)]) (fun (_ : Unit) w => St w0 h w (var b7 [.int .i64 y32, .int .i64 y33, .int .i64 y34] 29 :: var b5 [.int .i64 0, .int .i64 0, .int .i64 0] 29 :: var b4 (cGFrame x0 a1 c1 a2 c2 (some ⟨b37, p37, none⟩) c3) 33 :: L)) ?_ (fun hk_y42 => ?_)
  {
  rintro _ w H
  refine WL.fin 0 kr kr ?_
  rcases ite_cases hr with ⟨t43, hr⟩ | ⟨t43, hr⟩
  {
  refine WE.yes kr (b := y42) kr t43 ?_
  refine WE.region ?_
  refine WL.sg 1 kr ?_
  refine WL.does kr kr (Does.loadV H 2 rfl 4 kr kr ?_)
  obtain ⟨⟨g0_44, g1_44⟩, hr⟩ := grd_cases hr
  obtain ⟨C44, e44, fr44, cs44, hb44, hc44, rfl⟩ := f3.at2 g0_44 g1_44
  refine WL.sg 1 kr ?_
  refine WL.does kr kr (Does.tells (.idx b37 (p37) x0.Slots.length c3 y35 6 kr kr g0_44 g1_44 kr) ?_)
  refine WL.sg 2 kr ?_
  refine WL.does kr kr (Does.loadR H hb44 hc44 3 kr kr ?_)
  refine WL.sg 1 kr ?_
  refine WL.does kr kr (Does.storeE H 0 [.int .i64 ((gd x0.Slots y35).Out.Trap), .int .i64 0, .int .i64 0] rfl (q := 0) kr kr kr fun w H => ?_)
  refine WL.fin 0 kr kr ?_
  refine WE.region ?_
  refine WL.fin 3 kr kr ?_
  exact LP.live [1, 2, 4, 5] kr (ih1 ((gd x0.Slots y35).Out.Trap, 0, 0, w64 (y35 - 1)) () _ H hr)
  }
  {
  refine WE.no kr (b := y42) kr t43 ?_
  refine WE.skip ?_
  refine WE.region ?_
  refine WL.fin 3 kr kr ?_
  exact LP.live [1, 2, 4, 5] kr (ih1 (y32, y33, y34, w64 (y35 - 1)) () _ H hr)
  }
  }
  rcases ite_cases hy42 with ⟨ty42, hy42⟩ | ⟨ty42, hy42⟩
  {
  refine WL.known 45 ty42 kr kr ?_
  refine WL.sg 2 kr ?_
  refine WL.does kr kr (Does.loadV H 2 rfl 10 kr kr ?_)
  refine WL.sg 2 kr ?_
  obtain rfl := hy42
  exact WL.live [1, 2, 4, 5, 50] kr (hk_y42 () _ H)
  }
  {
  refine WL.known 45 ty42 kr kr ?_
  refine WL.sg 5 kr ?_
  obtain rfl := hy42
  exact WL.live [1, 2, 4, 5, 50] kr (hk_y42 () _ H)
  }
  }
  rcases ite_cases hy40 with ⟨ty40, hy40⟩ | ⟨ty40, hy40⟩
  {
  refine WL.known 35 ty40 kr kr ?_
  refine WL.sg 1 kr ?_
  refine WL.does kr kr (Does.loadV H 2 rfl 4 kr kr ?_)
  obtain ⟨⟨g0_45, g1_45⟩, hy40⟩ := grd_cases hy40
  obtain ⟨C45, e45, fr45, cs45, hb45, hc45, rfl⟩ := f3.at2 g0_45 g1_45
  refine WL.sg 1 kr ?_
  refine WL.does kr kr (Does.tells (.idx b37 (p37) x0.Slots.length c3 y35 6 kr kr g0_45 g1_45 kr) ?_)
  refine WL.sg 2 kr ?_
  refine WL.does kr kr (Does.loadR H hb45 hc45 3 kr kr ?_)
  refine WL.sg 2 kr ?_
  obtain rfl := Option.some.inj hy40
  exact WL.live [1, 2, 4, 5, 44] kr (hk_y40 () _ H)
  }
  {
  refine WL.known 35 ty40 kr kr ?_
  refine WL.sg 9 kr ?_
  obtain rfl := Option.some.inj hy40
  exact WL.live [1, 2, 4, 5, 44] kr (hk_y40 () _ H)
  }
  }
  }
  {
  refine WE.no kr (b := decide (y35 ≥ 0)) kr t36 ?_
  refine WE.exit ?_
  refine WE.seq ?_
  refine WE.region ?_
  refine WL.does kr kr (Does.loadV H 0 rfl 0 kr kr ?_)
  refine WL.does kr kr (Does.storeE H 1 [.int .i64 y32, .int .i64 y33, .int .i64 y34] rfl (q := 0) kr kr kr fun w H => ?_)
  refine WL.fin 1 kr kr ?_
  obtain rfl := Option.some.inj hr
  exact WE.ret ⟨[.agg #[.int .i64 y32, .int .i64 y33, .int .i64 y34], .bool true], ⟨⟨kr, ⟨b5, 0, none⟩, kr, H.loadVar 1 rfl 0 kr⟩, ⟨kr, kr⟩, trivial⟩, ⟨rfl, (H.keep 3)⟩⟩
  }
  }
def r04_May (x0 : GValue) : Bool :=
  bnd (
      if decide (x0.Re ≥ 0) then
        decide (x0.Re < 251)
      else
        false) fun y2 =>
  bnd (
      if y2 then
        decide (x0.Im ≥ 0)
      else
        false) fun y3 =>
  bnd (
      if y3 then
        decide (x0.Im < 251)
      else
        false) fun y4 =>
  y4
set_option maxRecDepth 100000 in
set_option maxHeartbeats 4000000 in
theorem c_r04_May {w0 w : World} {h : Gh} {L : List Ent} (x0 : GValue) (H : St w0 h w L) {r : Bool} (hr : r04_May x0 = r) : Calls Tryz.prog 49 #[.agg #[.int .i64 x0.Re, .int .i64 x0.Im]] w (fun e w' => ∃ v, e = .returned v ∧ v = .bool r ∧ St w0 h w' (L)) := by
  refine calls_of (args := [.agg #[.int .i64 x0.Re, .int .i64 x0.Im]]) (n := 21) (rs := [.tmp 2]) Tryz.func49 rfl rfl rfl rfl rfl ?_
  unfold r04_May at hr
  refine WE.seq ?_
  refine WE.region ?_
  refine WL.does kr kr (Does.box H [.int .i64 x0.Re, .int .i64 x0.Im] kr fun b1 w H => ?_)
  refine WL.fin 1 kr kr ?_
  refine WE.seq ?_
  refine WE.region ?_
  refine WL.sg 1 kr ?_
  refine WL.does kr kr (Does.loadV H 0 rfl 0 kr kr ?_)
  refine WL.sg 2 kr ?_
  obtain ⟨y2, hy2, hr⟩ := bnd_cases hr
  refine WL.join 4 (fun (_ : Unit) => [(1, .pointer (some ⟨b1, 0, none⟩)), (10, .bool y2)]) (fun (_ : Unit) w => St w0 h w (var b1 [.int .i64 x0.Re, .int .i64 x0.Im] 27 :: L)) ?_ (fun hk_y2 => ?_)
  {
  rintro _ w H
  refine WL.sg 1 kr ?_
  obtain ⟨y3, hy3, hr⟩ := bnd_cases hr
  refine WL.join 4 (fun (_ : Unit) => [(1, .pointer (some ⟨b1, 0, none⟩)), (15, .bool y3)]) (fun (_ : Unit) w => St w0 h w (var b1 [.int .i64 x0.Re, .int .i64 x0.Im] 27 :: L)) ?_ (fun hk_y3 => ?_)
  {
  rintro _ w H
  refine WL.sg 1 kr ?_
  obtain ⟨y4, hy4, hr⟩ := bnd_cases hr
  refine WL.join 4 (fun (_ : Unit) => [(20, .bool y4)]) (fun (_ : Unit) w => St w0 h w (var b1 [.int .i64 x0.Re, .int .i64 x0.Im] 27 :: L)) ?_ (fun hk_y4 => ?_)
  {
  rintro _ w H
  refine WL.fin 1 kr kr ?_
  obtain rfl := hr
  exact WE.ret ⟨[.bool y4], ⟨⟨kr, kr⟩, trivial⟩, ⟨rfl, (H.keep 1)⟩⟩
  }
  rcases ite_cases hy4 with ⟨ty4, hy4⟩ | ⟨ty4, hy4⟩
  {
  refine WL.known 16 ty4 kr kr ?_
  refine WL.sg 1 kr ?_
  refine WL.does kr kr (Does.loadV H 0 rfl 1 kr kr ?_)
  refine WL.sg 2 kr ?_
  obtain rfl := hy4
  exact WL.live [20] kr (hk_y4 () _ H)
  }
  {
  refine WL.known 16 ty4 kr kr ?_
  refine WL.sg 4 kr ?_
  obtain rfl := hy4
  exact WL.live [20] kr (hk_y4 () _ H)
  }
  }
  rcases ite_cases hy3 with ⟨ty3, hy3⟩ | ⟨ty3, hy3⟩
  {
  refine WL.known 11 ty3 kr kr ?_
  refine WL.sg 1 kr ?_
  refine WL.does kr kr (Does.loadV H 0 rfl 1 kr kr ?_)
  refine WL.sg 2 kr ?_
  obtain rfl := hy3
  exact WL.live [1, 15] kr (hk_y3 () _ H)
  }
  {
  refine WL.known 11 ty3 kr kr ?_
  refine WL.sg 4 kr ?_
  obtain rfl := hy3
  exact WL.live [1, 15] kr (hk_y3 () _ H)
  }
  }
  rcases ite_cases hy2 with ⟨ty2, hy2⟩ | ⟨ty2, hy2⟩
  {
  refine WL.known 6 ty2 kr kr ?_
  refine WL.sg 1 kr ?_
  refine WL.does kr kr (Does.loadV H 0 rfl 0 kr kr ?_)
  refine WL.sg 2 kr ?_
  obtain rfl := hy2
  exact WL.live [1, 10] kr (hk_y2 () _ H)
  }
  {
  refine WL.known 6 ty2 kr kr ?_
  refine WL.sg 4 kr ?_
  obtain rfl := hy2
  exact WL.live [1, 10] kr (hk_y2 () _ H)
  }
def r09_New_l2 (K : Nat) (x0 : List GFunc) (x1 : Int) (x3 : Int) (y120 : List GValue) : Nat → (List GSlot × Int) → Option (GFrame × Bool)
  | 0, _ => none
  | k2 + 1, (y147, y148) =>
    if decide (y148 < ((gd x0 x1).Slots)) then
      if (y147.length + [(⟨0, (⟨0, 0⟩ : GRef), (⟨0, (⟨0, 0⟩ : GValue)⟩ : GOut)⟩ : GSlot)].length) * 48 ≤ LIM then
        r09_New_l2 K x0 x1 x3 y120 k2 ((y147 ++ [(⟨0, (⟨0, 0⟩ : GRef), (⟨0, (⟨0, 0⟩ : GValue)⟩ : GOut)⟩ : GSlot)]), w64 (y148 + 1))
      else none
    else
      some ((⟨x1, 0, [], y120, y147, x3, 0, 0, 0, 0, (⟨0, (⟨0, 0⟩ : GValue)⟩ : GOut), (⟨(-1), 0⟩ : GRef), 0⟩ : GFrame), true)
def r09_New_l1 (K : Nat) (x0 : List GFunc) (x1 : Int) (x2 : List GValue) (x3 : Int) : Nat → (List GValue × Int) → Option (GFrame × Bool)
  | 0, _ => none
  | k1 + 1, (y120, y121) =>
    if decide (y121 < ((gd x0 x1).Locals)) then
      if decide (y121 < (x2.length : Int)) then
        if 0 ≤ y121 ∧ y121 < x2.length then
          bnd (r04_May (⟨(gd x2 y121).Re, (gd x2 y121).Im⟩ : GValue)) fun y126 =>
          if !y126 then
            some ((⟨0, 0, [], [], [], 0, 0, 0, 0, 0, (⟨0, (⟨0, 0⟩ : GValue)⟩ : GOut), (⟨0, 0⟩ : GRef), 0⟩ : GFrame), false)
          else
            if (y120.length + [(⟨(gd x2 y121).Re, (gd x2 y121).Im⟩ : GValue)].length) * 16 ≤ LIM then
              r09_New_l1 K x0 x1 x2 x3 k1 ((y120 ++ [(⟨(gd x2 y121).Re, (gd x2 y121).Im⟩ : GValue)]), w64 (y121 + 1))
            else none
        else none
      else
        bnd (r04_May (⟨0, 0⟩ : GValue)) fun y132 =>
        if !y132 then
          some ((⟨0, 0, [], [], [], 0, 0, 0, 0, 0, (⟨0, (⟨0, 0⟩ : GValue)⟩ : GOut), (⟨0, 0⟩ : GRef), 0⟩ : GFrame), false)
        else
          if (y120.length + [(⟨0, 0⟩ : GValue)].length) * 16 ≤ LIM then
            r09_New_l1 K x0 x1 x2 x3 k1 ((y120 ++ [(⟨0, 0⟩ : GValue)]), w64 (y121 + 1))
          else none
    else
      r09_New_l2 K x0 x1 x3 y120 K ([], 0)
def r09_New (K : Nat) (x0 : List GFunc) (x1 : Int) (x2 : List GValue) (x3 : Int) : Option (GFrame × Bool) :=
  (r07_May K x0).bind fun y76 =>
  bnd (
      if !y76 then
        true
      else
        decide (x1 < 0)) fun y77 =>
  bnd (
      if y77 then
        true
      else
        decide (x1 ≥ (x0.length : Int))) fun y78 =>
  bnd (
      if y78 then
        true
      else
        bnd (r05_Is x3) fun y154 =>
        !y154) fun y79 =>
  if y79 then
    some ((⟨0, 0, [], [], [], 0, 0, 0, 0, 0, (⟨0, (⟨0, 0⟩ : GValue)⟩ : GOut), (⟨0, 0⟩ : GRef), 0⟩ : GFrame), false)
  else
    if 0 ≤ x1 ∧ x1 < x0.length then
      bnd (
          if decide (((gd x0 x1).Arity) > ((gd x0 x1).Locals)) then
            true
          else
            (x2.length : Int) != ((gd x0 x1).Arity)) fun y87 =>
      if y87 then
        some ((⟨0, 0, [], [], [], 0, 0, 0, 0, 0, (⟨0, (⟨0, 0⟩ : GValue)⟩ : GOut), (⟨0, 0⟩ : GRef), 0⟩ : GFrame), false)
      else
        r09_New_l1 K x0 x1 x2 x3 K ([], 0)
    else none
set_option maxRecDepth 100000 in
set_option maxHeartbeats 4000000 in
theorem c_r09_New {w0 w : World} {h : Gh} {L : List Ent} (K : Nat) (x0 : List GFunc) {a1 : Option Addr} {c1 : Nat} (f1 : Sl rGFunc 48 h a1 c1 x0) (x1 : Int) (x2 : List GValue) {a2 : Option Addr} {c2 : Nat} (f2 : Sl rGValue 16 h a2 c2 x2) (x3 : Int) (H : St w0 h w L) {r : GFrame × Bool} (hr : r09_New K x0 x1 x2 x3 = some r) : Calls Tryz.prog 14 #[.slice a1 x0.length c1, .int .i64 x1, .slice a2 x2.length c2, .int .i64 x3] w (fun e w' => ∃ v, e = .returned v ∧ ∃ (h' : Gh) (a901 : Option Addr) (c901 : Nat) (a902 : Option Addr) (c902 : Nat) (a903 : Option Addr) (c903 : Nat), v = .tuple #[.agg (cGFrame r.1 a901 c901 a902 c902 a903 c903).toArray, .bool r.2] ∧ h.le h' ∧ Sl rGValue 16 h' a901 c901 r.1.Stack ∧ St w0 h' w' (row rGValue 16 h' a902 c902 r.1.Locals :: row rGSlot 48 h' a903 c903 r.1.Slots :: L)) := by
  refine calls_of (args := [.slice a1 x0.length c1, .int .i64 x1, .slice a2 x2.length c2, .int .i64 x3]) (n := 93) (rs := [.cell 8 33, .tmp 9]) Tryz.func14 rfl rfl rfl rfl rfl ?_
  unfold r09_New at hr
  refine WE.seq ?_
  refine WE.region ?_
  refine WL.does kr kr (Does.alloc H (cGFrame (⟨0, 0, [], [], [], 0, 0, 0, 0, 0, (⟨0, (⟨0, 0⟩ : GValue)⟩ : GOut), (⟨0, 0⟩ : GRef), 0⟩ : GFrame) none 0 none 0 none 0) kr fun b75 w H => ?_)
  refine WL.fin 1 kr kr ?_
  refine WE.seq ?_
  refine WE.seq ?_
  refine WE.region ?_
  obtain ⟨y76, q76, hr⟩ := bind_cases hr
  refine WL.sg 1 kr ?_
  refine WL.does kr kr (Does.call (c_r07_May K x0 f1 H q76) kr ?_)
  rintro _ w ⟨rfl, H⟩
  refine WL.sg 2 kr ?_
  obtain ⟨y77, hy77, hr⟩ := bnd_cases hr
  refine WL.join 3 (fun (_ : Unit) => [(0, .slice a1 x0.length c1), (1, .int .i64 x1), (2, .slice a2 x2.length c2), (3, .int .i64 x3), (8, .pointer (some ⟨b75, 0, none⟩)), (21, .bool y77)]) (fun (_ : Unit) w => St w0 h w (var b75 (cGFrame (⟨0, 0, [], [], [], 0, 0, 0, 0, 0, (⟨0, (⟨0, 0⟩ : GValue)⟩ : GOut), (⟨0, 0⟩ : GRef), 0⟩ : GFrame) none 0 none 0 none 0) 33 :: L)) ?_ (fun hk_y77 => ?_)
  {
  rintro _ w H
  refine WL.sg 1 kr ?_
  obtain ⟨y78, hy78, hr⟩ := bnd_cases hr
  refine WL.join 5 (fun (_ : Unit) => [(0, .slice a1 x0.length c1), (1, .int .i64 x1), (2, .slice a2 x2.length c2), (3, .int .i64 x3), (8, .pointer (some ⟨b75, 0, none⟩)), (27, .bool y78)]) (fun (_ : Unit) w => St w0 h w (var b75 (cGFrame (⟨0, 0, [], [], [], 0, 0, 0, 0, 0, (⟨0, (⟨0, 0⟩ : GValue)⟩ : GOut), (⟨0, 0⟩ : GRef), 0⟩ : GFrame) none 0 none 0 none 0) 33 :: L)) ?_ (fun hk_y78 => ?_)
  {
  rintro _ w H
  refine WL.sg 1 kr ?_
  obtain ⟨y79, hy79, hr⟩ := bnd_cases hr
  refine WL.join 4 (fun (_ : Unit) => [(0, .slice a1 x0.length c1), (1, .int .i64 x1), (2, .slice a2 x2.length c2), (3, .int .i64 x3), (8, .pointer (some ⟨b75, 0, none⟩)), (32, .bool y79)]) (fun (_ : Unit) w => St w0 h w (var b75 (cGFrame (⟨0, 0, [], [], [], 0, 0, 0, 0, 0, (⟨0, (⟨0, 0⟩ : GValue)⟩ : GOut), (⟨0, 0⟩ : GRef), 0⟩ : GFrame) none 0 none 0 none 0) 33 :: L)) ?_ (fun hk_y79 => ?_)
  {
  rintro _ w H
  refine WL.fin 0 kr kr ?_
  rcases ite_cases hr with ⟨t81, hr⟩ | ⟨t81, hr⟩
  {
  refine WE.yes kr (b := y79) kr t81 ?_
  refine WE.seq ?_
  refine WE.region ?_
  refine WL.sg 1 kr ?_
  refine WL.does kr kr (Does.storeE H 0 (cGFrame (⟨0, 0, [], [], [], 0, 0, 0, 0, 0, (⟨0, (⟨0, 0⟩ : GValue)⟩ : GOut), (⟨0, 0⟩ : GRef), 0⟩ : GFrame) none 0 none 0 none 0) rfl (q := 0) kr kr kr fun w H => ?_)
  refine WL.fin 1 kr kr ?_
  have H := H.rowNil rGValue 16
  have H := H.rowNil rGSlot 48
  obtain rfl := Option.some.inj hr
  exact WE.ret ⟨[.agg (cGFrame (⟨0, 0, [], [], [], 0, 0, 0, 0, 0, (⟨0, (⟨0, 0⟩ : GValue)⟩ : GOut), (⟨0, 0⟩ : GRef), 0⟩ : GFrame) none 0 none 0 none 0).toArray, .bool false], ⟨⟨kr, ⟨b75, 0, none⟩, kr, H.loadVar 2 rfl 0 kr⟩, ⟨kr, kr⟩, trivial⟩, ⟨h, none, 0, none, 0, none, 0, rfl, (Gh.refl _), (Sl.nil _ _ (Nat.zero_le _)), ((H.front 1 rfl).mid 2 1)⟩⟩
  }
  {
  refine WE.no kr (b := y79) kr t81 ?_
  refine WE.skip ?_
  refine WE.seq ?_
  refine WE.region ?_
  obtain ⟨⟨g0_84, g1_84⟩, hr⟩ := grd_cases hr
  obtain ⟨b84, p84, C84, e84, fr84, cs84, rfl, hb84, hc84, ⟨a85, c85, rfl, f85⟩⟩ := f1.at g0_84 g1_84
  refine WL.sg 2 kr ?_
  refine WL.does kr kr (Does.tells (.idx b84 (p84) x0.length c1 x1 4 kr kr g0_84 g1_84 kr) ?_)
  refine WL.does kr kr (Does.loadR H hb84 hc84 0 kr kr ?_)
  refine WL.does kr kr (Does.alloc H (cGFunc (⟨0, 0, 0, []⟩ : GFunc) none 0) kr fun b86 w H => ?_)
  refine WL.does kr kr (Does.storeE H 0 (cGFunc (⟨(gd x0 x1).Arity, (gd x0 x1).Locals, (gd x0 x1).Slots, (gd x0 x1).Code⟩ : GFunc) a85 c85) rfl (q := 0) kr kr kr fun w H => ?_)
  refine WL.fin 0 kr kr ?_
  refine WE.seq ?_
  refine WE.seq ?_
  refine WE.region ?_
  refine WL.sg 1 kr ?_
  refine WL.does kr kr (Does.loadV H 0 rfl 0 kr kr ?_)
  refine WL.sg 1 kr ?_
  refine WL.does kr kr (Does.loadV H 0 rfl 1 kr kr ?_)
  refine WL.sg 2 kr ?_
  obtain ⟨y87, hy87, hr⟩ := bnd_cases hr
  refine WL.join 6 (fun (_ : Unit) => [(1, .int .i64 x1), (2, .slice a2 x2.length c2), (3, .int .i64 x3), (8, .pointer (some ⟨b75, 0, none⟩)), (10, .pointer (some ⟨b86, 0, none⟩)), (49, .bool y87)]) (fun (_ : Unit) w => St w0 h w (var b86 (cGFunc (⟨(gd x0 x1).Arity, (gd x0 x1).Locals, (gd x0 x1).Slots, (gd x0 x1).Code⟩ : GFunc) a85 c85) 53 :: var b75 (cGFrame (⟨0, 0, [], [], [], 0, 0, 0, 0, 0, (⟨0, (⟨0, 0⟩ : GValue)⟩ : GOut), (⟨0, 0⟩ : GRef), 0⟩ : GFrame) none 0 none 0 none 0) 33 :: L)) ?_ (fun hk_y87 => ?_)
  {
  rintro _ w H
  refine WL.fin 0 kr kr ?_
  rcases ite_cases hr with ⟨t88, hr⟩ | ⟨t88, hr⟩
  {
  refine WE.yes kr (b := y87) kr t88 ?_
  refine WE.seq ?_
  refine WE.region ?_
  refine WL.sg 1 kr ?_
  refine WL.does kr kr (Does.storeE H 1 (cGFrame (⟨0, 0, [], [], [], 0, 0, 0, 0, 0, (⟨0, (⟨0, 0⟩ : GValue)⟩ : GOut), (⟨0, 0⟩ : GRef), 0⟩ : GFrame) none 0 none 0 none 0) rfl (q := 0) kr kr kr fun w H => ?_)
  refine WL.fin 1 kr kr ?_
  have H := H.rowNil rGValue 16
  have H := H.rowNil rGSlot 48
  obtain rfl := Option.some.inj hr
  exact WE.ret ⟨[.agg (cGFrame (⟨0, 0, [], [], [], 0, 0, 0, 0, 0, (⟨0, (⟨0, 0⟩ : GValue)⟩ : GOut), (⟨0, 0⟩ : GRef), 0⟩ : GFrame) none 0 none 0 none 0).toArray, .bool false], ⟨⟨kr, ⟨b75, 0, none⟩, kr, H.loadVar 3 rfl 0 kr⟩, ⟨kr, kr⟩, trivial⟩, ⟨h, none, 0, none, 0, none, 0, rfl, (Gh.refl _), (Sl.nil _ _ (Nat.zero_le _)), ((H.front 1 rfl).mid 2 2)⟩⟩
  }
  {
  refine WE.no kr (b := y87) kr t88 ?_
  refine WE.skip ?_
  refine WE.seq ?_
  refine WE.region ?_
  refine WL.sg 4 kr ?_
  refine WL.does kr kr (Does.alloc H (cGFrame (⟨0, 0, [], [], [], 0, 0, 0, 0, 0, (⟨0, (⟨0, 0⟩ : GValue)⟩ : GOut), (⟨0, 0⟩ : GRef), 0⟩ : GFrame) none 0 none 0 none 0) kr fun b91 w H => ?_)
  refine WL.does kr kr (Does.storeE H 0 (cGFrame (⟨x1, 0, [], [], [], x3, 0, 0, 0, 0, (⟨0, (⟨0, 0⟩ : GValue)⟩ : GOut), (⟨(-1), 0⟩ : GRef), 0⟩ : GFrame) none 0 none 0 none 0) rfl (q := 0) kr kr kr fun w H => ?_)
  refine WL.fin 0 kr kr ?_
  refine WE.seq ?_
  refine WE.seq ?_
  refine WE.region ?_
  refine WL.fin 1 kr kr ?_
  refine WE.block ?_
  have H := H.rowNil rGValue 16
  refine WE.loop (LP.live [2, 8, 10, 11, 12] kr (LP.rec (r09_New_l1 K x0 x1 x2 x3) (fun (⟨y120, y121⟩ : List GValue × Int) (⟨a120, c120⟩ : Option Addr × Nat) => [(2, .slice a2 x2.length c2), (8, .pointer (some ⟨b75, 0, none⟩)), (10, .pointer (some ⟨b86, 0, none⟩)), (11, .pointer (some ⟨b91, 0, none⟩)), (12, .int .i64 y121)]) (fun (⟨y120, y121⟩ : List GValue × Int) (⟨a120, c120⟩ : Option Addr × Nat) => fun w => St w0 h w (row rGValue 16 h a120 c120 y120 :: var b91 (cGFrame (⟨x1, 0, [], y120, [], x3, 0, 0, 0, 0, (⟨0, (⟨0, 0⟩ : GValue)⟩ : GOut), (⟨(-1), 0⟩ : GRef), 0⟩ : GFrame) none 0 a120 c120 none 0) 33 :: var b86 (cGFunc (⟨(gd x0 x1).Arity, (gd x0 x1).Locals, (gd x0 x1).Slots, (gd x0 x1).Code⟩ : GFunc) a85 c85) 53 :: var b75 (cGFrame (⟨0, 0, [], [], [], 0, 0, 0, 0, 0, (⟨0, (⟨0, 0⟩ : GValue)⟩ : GOut), (⟨0, 0⟩ : GRef), 0⟩ : GFrame) none 0 none 0 none 0) 33 :: L)) r (fun _ => rfl) ?_ K ([], 0) (none, 0) _ H hr))
  rintro k1 ih1 ⟨y120, y121⟩ ⟨a120, c120⟩ w H hr
  simp only [r09_New_l1] at hr
  refine WE.seq ?_
  refine WE.seq ?_
  refine WE.region ?_
  refine WL.sg 2 kr ?_
  refine WL.does kr kr (Does.loadV H 2 rfl 1 kr kr ?_)
  refine WL.fin 1 kr kr ?_
  rcases ite_cases hr with ⟨t122, hr⟩ | ⟨t122, hr⟩
  {
  refine WE.yes kr (b := decide (y121 < ((gd x0 x1).Locals))) kr t122 ?_
  refine WE.skip ?_
  refine WE.seq ?_
  refine WE.block ?_
  refine WE.seq ?_
  refine WE.region ?_
  refine WL.sg 1 kr ?_
  refine WL.does kr kr (Does.alloc H [.int .i64 0, .int .i64 0] kr fun b123 w H => ?_)
  refine WL.does kr kr (Does.storeE H 0 [.int .i64 0, .int .i64 0] rfl (q := 0) kr kr kr fun w H => ?_)
  refine WL.fin 0 kr kr ?_
  refine WE.seq ?_
  refine WE.seq ?_
  refine WE.region ?_
  refine WL.fin 4 kr kr ?_
  rcases ite_cases hr with ⟨t124, hr⟩ | ⟨t124, hr⟩
  {
  refine WE.yes kr (b := decide (y121 < (x2.length : Int))) kr t124 ?_
  refine WE.region ?_
  obtain ⟨⟨g0_125, g1_125⟩, hr⟩ := grd_cases hr
  obtain ⟨b125, p125, C125, e125, fr125, cs125, rfl, hb125, hc125, rfl⟩ := f2.at g0_125 g1_125
  refine WL.sg 2 kr ?_
  refine WL.does kr kr (Does.tells (.idx b125 (p125) x2.length c2 y121 2 kr kr g0_125 g1_125 kr) ?_)
  refine WL.does kr kr (Does.loadR H hb125 hc125 0 kr kr ?_)
  refine WL.does kr kr (Does.storeE H 0 [.int .i64 ((gd x2 y121).Re), .int .i64 ((gd x2 y121).Im)] rfl (q := 0) kr kr kr fun w H => ?_)
  refine WL.fin 0 kr kr ?_
  refine WE.seq ?_
  refine WE.seq ?_
  refine WE.region ?_
  refine WL.does kr kr (Does.loadV H 0 rfl 0 kr kr ?_)
  obtain ⟨y126, q126, hr⟩ := bnd_cases hr
  refine WL.does kr kr (Does.call (c_r04_May (⟨(gd x2 y121).Re, (gd x2 y121).Im⟩ : GValue) H q126) kr ?_)
  rintro _ w ⟨rfl, H⟩
  refine WL.fin 1 kr kr ?_
  rcases ite_cases hr with ⟨t127, hr⟩ | ⟨t127, hr⟩
  {
  refine WE.yes kr (b := !y126) kr t127 ?_
  refine WE.seq ?_
  refine WE.region ?_
  refine WL.sg 1 kr ?_
  refine WL.does kr kr (Does.storeE H 4 (cGFrame (⟨0, 0, [], [], [], 0, 0, 0, 0, 0, (⟨0, (⟨0, 0⟩ : GValue)⟩ : GOut), (⟨0, 0⟩ : GRef), 0⟩ : GFrame) none 0 none 0 none 0) rfl (q := 0) kr kr kr fun w H => ?_)
  refine WL.fin 1 kr kr ?_
  have H := H.rowNil rGValue 16
  have H := H.rowNil rGSlot 48
  obtain rfl := Option.some.inj hr
  exact WE.ret ⟨[.agg (cGFrame (⟨0, 0, [], [], [], 0, 0, 0, 0, 0, (⟨0, (⟨0, 0⟩ : GValue)⟩ : GOut), (⟨0, 0⟩ : GRef), 0⟩ : GFrame) none 0 none 0 none 0).toArray, .bool false], ⟨⟨kr, ⟨b75, 0, none⟩, kr, H.loadVar 6 rfl 0 kr⟩, ⟨kr, kr⟩, trivial⟩, ⟨h, none, 0, none, 0, none, 0, rfl, (Gh.refl _), (Sl.nil _ _ (Nat.zero_le _)), ((H.front 1 rfl).mid 2 5)⟩⟩
  }
  {
  refine WE.no kr (b := !y126) kr t127 ?_
  refine WE.skip ?_
  refine WE.region ?_
  refine WL.sg 1 kr ?_
  refine WL.does kr kr (Does.loadV H 2 rfl 3 kr kr ?_)
  refine WL.does kr kr (Does.loadV H 0 rfl 0 kr kr ?_)
  refine WL.does kr kr (Does.lit (K := rGValue) (B := 16) (xs := [(⟨(gd x2 y121).Re, (gd x2 y121).Im⟩ : GValue)]) (e := 27) H ([.int .i64 ((gd x2 y121).Re), .int .i64 ((gd x2 y121).Im)] ++ []) kr (Rows.cons (C := [.int .i64 ((gd x2 y121).Re), .int .i64 ((gd x2 y121).Im)]) (x := (⟨(gd x2 y121).Re, (gd x2 y121).Im⟩ : GValue)) (by show _ = _; kernel_rfl) Rows.nil) kr kr kr kr fun b130 w H => ?_)
  obtain ⟨g131, hr⟩ := grd_cases hr
  refine WL.does kr kr (Does.append (t := 24) (xt := 24) (ty := 24) (e := 27) (e2 := 27) (z := .agg #[.int .i64 0, .int .i64 0]) H 2 rfl (Gh.refl _) (ys := [(⟨(gd x2 y121).Re, (gd x2 y121).Im⟩ : GValue)]) (c2 := 1) (H.rowSrc 0 rfl (Gh.refl _)) g131 kr kr kr kr fun a131 c131 w H => ?_)
  refine WL.sg 1 kr ?_
  refine WL.does kr kr (Does.storeE H 3 (cGFrame (⟨x1, 0, [], (y120 ++ [(⟨(gd x2 y121).Re, (gd x2 y121).Im⟩ : GValue)]), [], x3, 0, 0, 0, 0, (⟨0, (⟨0, 0⟩ : GValue)⟩ : GOut), (⟨(-1), 0⟩ : GRef), 0⟩ : GFrame) none 0 a131 c131 none 0) rfl (q := 3) kr kr kr fun w H => ?_)
  refine WL.fin 0 kr kr ?_
  refine WE.region ?_
  refine WL.fin 3 kr kr ?_
  exact LP.live [2, 8, 10, 11, 12] kr (ih1 ((y120 ++ [(⟨(gd x2 y121).Re, (gd x2 y121).Im⟩ : GValue)]), w64 (y121 + 1)) (a131, c131) _ (H.keep 2) hr)
  }
  }
  {
  refine WE.no kr (b := decide (y121 < (x2.length : Int))) kr t124 ?_
  refine WE.skip ?_
  refine WE.seq ?_
  refine WE.seq ?_
  refine WE.region ?_
  refine WL.does kr kr (Does.loadV H 0 rfl 0 kr kr ?_)
  obtain ⟨y132, q132, hr⟩ := bnd_cases hr
  refine WL.does kr kr (Does.call (c_r04_May (⟨0, 0⟩ : GValue) H q132) kr ?_)
  rintro _ w ⟨rfl, H⟩
  refine WL.fin 1 kr kr ?_
  rcases ite_cases hr with ⟨t133, hr⟩ | ⟨t133, hr⟩
  {
  refine WE.yes kr (b := !y132) kr t133 ?_
  refine WE.seq ?_
  refine WE.region ?_
  refine WL.sg 1 kr ?_
  refine WL.does kr kr (Does.storeE H 4 (cGFrame (⟨0, 0, [], [], [], 0, 0, 0, 0, 0, (⟨0, (⟨0, 0⟩ : GValue)⟩ : GOut), (⟨0, 0⟩ : GRef), 0⟩ : GFrame) none 0 none 0 none 0) rfl (q := 0) kr kr kr fun w H => ?_)
  refine WL.fin 1 kr kr ?_
  have H := H.rowNil rGValue 16
  have H := H.rowNil rGSlot 48
  obtain rfl := Option.some.inj hr
  exact WE.ret ⟨[.agg (cGFrame (⟨0, 0, [], [], [], 0, 0, 0, 0, 0, (⟨0, (⟨0, 0⟩ : GValue)⟩ : GOut), (⟨0, 0⟩ : GRef), 0⟩ : GFrame) none 0 none 0 none 0).toArray, .bool false], ⟨⟨kr, ⟨b75, 0, none⟩, kr, H.loadVar 6 rfl 0 kr⟩, ⟨kr, kr⟩, trivial⟩, ⟨h, none, 0, none, 0, none, 0, rfl, (Gh.refl _), (Sl.nil _ _ (Nat.zero_le _)), ((H.front 1 rfl).mid 2 5)⟩⟩
  }
  {
  refine WE.no kr (b := !y132) kr t133 ?_
  refine WE.skip ?_
  refine WE.region ?_
  refine WL.sg 1 kr ?_
  refine WL.does kr kr (Does.loadV H 2 rfl 3 kr kr ?_)
  refine WL.does kr kr (Does.loadV H 0 rfl 0 kr kr ?_)
  refine WL.does kr kr (Does.lit (K := rGValue) (B := 16) (xs := [(⟨0, 0⟩ : GValue)]) (e := 27) H ([.int .i64 0, .int .i64 0] ++ []) kr (Rows.cons (C := [.int .i64 0, .int .i64 0]) (x := (⟨0, 0⟩ : GValue)) (by show _ = _; kernel_rfl) Rows.nil) kr kr kr kr fun b136 w H => ?_)
  obtain ⟨g137, hr⟩ := grd_cases hr
  refine WL.does kr kr (Does.append (t := 24) (xt := 24) (ty := 24) (e := 27) (e2 := 27) (z := .agg #[.int .i64 0, .int .i64 0]) H 2 rfl (Gh.refl _) (ys := [(⟨0, 0⟩ : GValue)]) (c2 := 1) (H.rowSrc 0 rfl (Gh.refl _)) g137 kr kr kr kr fun a137 c137 w H => ?_)
  refine WL.sg 1 kr ?_
  refine WL.does kr kr (Does.storeE H 3 (cGFrame (⟨x1, 0, [], (y120 ++ [(⟨0, 0⟩ : GValue)]), [], x3, 0, 0, 0, 0, (⟨0, (⟨0, 0⟩ : GValue)⟩ : GOut), (⟨(-1), 0⟩ : GRef), 0⟩ : GFrame) none 0 a137 c137 none 0) rfl (q := 3) kr kr kr fun w H => ?_)
  refine WL.fin 0 kr kr ?_
  refine WE.region ?_
  refine WL.fin 3 kr kr ?_
  exact LP.live [2, 8, 10, 11, 12] kr (ih1 ((y120 ++ [(⟨0, 0⟩ : GValue)]), w64 (y121 + 1)) (a137, c137) _ (H.keep 2) hr)
  }
  }
  }
  {
  refine WE.no kr (b := decide (y121 < ((gd x0 x1).Locals))) kr t122 ?_
  refine WE.exit ?_
  refine WE.seq ?_
  refine WE.seq ?_
  refine WE.region ?_
  refine WL.fin 1 kr kr ?_
  refine WE.block ?_
  have H := H.rowNil rGSlot 48
  refine WE.loop (LP.live [8, 10, 11, 14] kr (LP.rec (r09_New_l2 K x0 x1 x3 y120) (fun (⟨y147, y148⟩ : List GSlot × Int) (⟨a147, c147⟩ : Option Addr × Nat) => [(8, .pointer (some ⟨b75, 0, none⟩)), (10, .pointer (some ⟨b86, 0, none⟩)), (11, .pointer (some ⟨b91, 0, none⟩)), (14, .int .i64 y148)]) (fun (⟨y147, y148⟩ : List GSlot × Int) (⟨a147, c147⟩ : Option Addr × Nat) => fun w => St w0 h w (row rGSlot 48 h a147 c147 y147 :: row rGValue 16 h a120 c120 y120 :: var b91 (cGFrame (⟨x1, 0, [], y120, y147, x3, 0, 0, 0, 0, (⟨0, (⟨0, 0⟩ : GValue)⟩ : GOut), (⟨(-1), 0⟩ : GRef), 0⟩ : GFrame) none 0 a120 c120 a147 c147) 33 :: var b86 (cGFunc (⟨(gd x0 x1).Arity, (gd x0 x1).Locals, (gd x0 x1).Slots, (gd x0 x1).Code⟩ : GFunc) a85 c85) 53 :: var b75 (cGFrame (⟨0, 0, [], [], [], 0, 0, 0, 0, 0, (⟨0, (⟨0, 0⟩ : GValue)⟩ : GOut), (⟨0, 0⟩ : GRef), 0⟩ : GFrame) none 0 none 0 none 0) 33 :: L)) r (fun _ => rfl) ?_ K ([], 0) (none, 0) _ H hr))
  rintro k2 ih2 ⟨y147, y148⟩ ⟨a147, c147⟩ w H hr
  simp only [r09_New_l2] at hr
  refine WE.seq ?_
  refine WE.seq ?_
  refine WE.region ?_
  refine WL.sg 2 kr ?_
  refine WL.does kr kr (Does.loadV H 3 rfl 2 kr kr ?_)
  refine WL.fin 1 kr kr ?_
  rcases ite_cases hr with ⟨t149, hr⟩ | ⟨t149, hr⟩
  {
  refine WE.yes kr (b := decide (y148 < ((gd x0 x1).Slots))) kr t149 ?_
  refine WE.skip ?_
  refine WE.seq ?_
  refine WE.block ?_
  refine WE.region ?_
  refine WL.sg 1 kr ?_
  refine WL.does kr kr (Does.loadV H 2 rfl 4 kr kr ?_)
  refine WL.sg 1 kr ?_
  refine WL.does kr kr (Does.lit (K := rGSlot) (B := 48) (xs := [(⟨0, (⟨0, 0⟩ : GRef), (⟨0, (⟨0, 0⟩ : GValue)⟩ : GOut)⟩ : GSlot)]) (e := 77) H ((cGSlot (⟨0, (⟨0, 0⟩ : GRef), (⟨0, (⟨0, 0⟩ : GValue)⟩ : GOut)⟩ : GSlot)) ++ []) kr (Rows.cons (C := cGSlot (⟨0, (⟨0, 0⟩ : GRef), (⟨0, (⟨0, 0⟩ : GValue)⟩ : GOut)⟩ : GSlot)) (x := (⟨0, (⟨0, 0⟩ : GRef), (⟨0, (⟨0, 0⟩ : GValue)⟩ : GOut)⟩ : GSlot)) (by show _ = _; kernel_rfl) Rows.nil) kr kr kr kr fun b150 w H => ?_)
  obtain ⟨g151, hr⟩ := grd_cases hr
  refine WL.does kr kr (Does.append (t := 25) (xt := 25) (ty := 25) (e := 77) (e2 := 77) (z := .agg (cGSlot (⟨0, (⟨0, 0⟩ : GRef), (⟨0, (⟨0, 0⟩ : GValue)⟩ : GOut)⟩ : GSlot)).toArray) H 1 rfl (Gh.refl _) (ys := [(⟨0, (⟨0, 0⟩ : GRef), (⟨0, (⟨0, 0⟩ : GValue)⟩ : GOut)⟩ : GSlot)]) (c2 := 1) (H.rowSrc 0 rfl (Gh.refl _)) g151 kr kr kr kr fun a151 c151 w H => ?_)
  refine WL.sg 1 kr ?_
  refine WL.does kr kr (Does.storeE H 3 (cGFrame (⟨x1, 0, [], y120, (y147 ++ [(⟨0, (⟨0, 0⟩ : GRef), (⟨0, (⟨0, 0⟩ : GValue)⟩ : GOut)⟩ : GSlot)]), x3, 0, 0, 0, 0, (⟨0, (⟨0, 0⟩ : GValue)⟩ : GOut), (⟨(-1), 0⟩ : GRef), 0⟩ : GFrame) none 0 a120 c120 a151 c151) rfl (q := 4) kr kr kr fun w H => ?_)
  refine WL.fin 0 kr kr ?_
  refine WE.region ?_
  refine WL.fin 3 kr kr ?_
  exact LP.live [8, 10, 11, 14] kr (ih2 ((y147 ++ [(⟨0, (⟨0, 0⟩ : GRef), (⟨0, (⟨0, 0⟩ : GValue)⟩ : GOut)⟩ : GSlot)]), w64 (y148 + 1)) (a151, c151) _ (H.keep 1) hr)
  }
  {
  refine WE.no kr (b := decide (y148 < ((gd x0 x1).Slots))) kr t149 ?_
  refine WE.exit ?_
  refine WE.seq ?_
  refine WE.region ?_
  refine WL.does kr kr (Does.loadV H 2 rfl 0 kr kr ?_)
  refine WL.does kr kr (Does.storeE H 4 (cGFrame (⟨x1, 0, [], y120, y147, x3, 0, 0, 0, 0, (⟨0, (⟨0, 0⟩ : GValue)⟩ : GOut), (⟨(-1), 0⟩ : GRef), 0⟩ : GFrame) none 0 a120 c120 a147 c147) rfl (q := 0) kr kr kr fun w H => ?_)
  refine WL.fin 1 kr kr ?_
  obtain rfl := Option.some.inj hr
  exact WE.ret ⟨[.agg (cGFrame (⟨x1, 0, [], y120, y147, x3, 0, 0, 0, 0, (⟨0, (⟨0, 0⟩ : GValue)⟩ : GOut), (⟨(-1), 0⟩ : GRef), 0⟩ : GFrame) none 0 a120 c120 a147 c147).toArray, .bool true], ⟨⟨kr, ⟨b75, 0, none⟩, kr, H.loadVar 4 rfl 0 kr⟩, ⟨kr, kr⟩, trivial⟩, ⟨h, none, 0, a120, c120, a147, c147, rfl, (Gh.refl _), (Sl.nil _ _ (Nat.zero_le _)), ((H.front 1 rfl).mid 2 3)⟩⟩
  }
  }
  }
  }
  rcases ite_cases hy87 with ⟨ty87, hy87⟩ | ⟨ty87, hy87⟩
  {
  refine WL.known 43 ty87 kr kr ?_
  refine WL.sg 6 kr ?_
  obtain rfl := hy87
  exact WL.live [1, 2, 3, 8, 10, 49] kr (hk_y87 () _ H)
  }
  {
  refine WL.known 43 ty87 kr kr ?_
  refine WL.sg 3 kr ?_
  refine WL.does kr kr (Does.loadV H 0 rfl 0 kr kr ?_)
  refine WL.sg 2 kr ?_
  obtain rfl := hy87
  exact WL.live [1, 2, 3, 8, 10, 49] kr (hk_y87 () _ H)
  }
  }
  }
  rcases ite_cases hy79 with ⟨ty79, hy79⟩ | ⟨ty79, hy79⟩
  {
  refine WL.known 28 ty79 kr kr ?_
  refine WL.sg 4 kr ?_
  obtain rfl := hy79
  exact WL.live [0, 1, 2, 3, 8, 32] kr (hk_y79 () _ H)
  }
  {
  refine WL.known 28 ty79 kr kr ?_
  obtain ⟨y154, q154, hy79⟩ := bnd_cases hy79
  refine WL.sg 1 kr ?_
  refine WL.does kr kr (Does.call (c_r05_Is x3 H q154) kr ?_)
  rintro _ w ⟨rfl, H⟩
  refine WL.sg 2 kr ?_
  obtain rfl := hy79
  exact WL.live [0, 1, 2, 3, 8, 32] kr (hk_y79 () _ H)
  }
  }
  rcases ite_cases hy78 with ⟨ty78, hy78⟩ | ⟨ty78, hy78⟩
  {
  refine WL.known 22 ty78 kr kr ?_
  refine WL.sg 5 kr ?_
  obtain rfl := hy78
  exact WL.live [0, 1, 2, 3, 8, 27] kr (hk_y78 () _ H)
  }
  {
  refine WL.known 22 ty78 kr kr ?_
  refine WL.sg 5 kr ?_
  obtain rfl := hy78
  exact WL.live [0, 1, 2, 3, 8, 27] kr (hk_y78 () _ H)
  }
  }
  rcases ite_cases hy77 with ⟨ty77, hy77⟩ | ⟨ty77, hy77⟩
  {
  refine WL.known 18 ty77 kr kr ?_
  refine WL.sg 3 kr ?_
  obtain rfl := hy77
  exact WL.live [0, 1, 2, 3, 8, 21] kr (hk_y77 () _ H)
  }
  {
  refine WL.known 18 ty77 kr kr ?_
  refine WL.sg 3 kr ?_
  obtain rfl := hy77
  exact WL.live [0, 1, 2, 3, 8, 21] kr (hk_y77 () _ H)
  }
def r09_Values_l1 (K : Nat) (x0 : List GValue) (x1 : List GValue) : Nat → Int → Option Bool
  | 0, _ => none
  | k1 + 1, y13 =>
    if decide (y13 < (x0.length : Int)) then
      if 0 ≤ y13 ∧ y13 < x0.length then
        if 0 ≤ y13 ∧ y13 < x1.length then
          if !((((gd x0 y13).Re) == ((gd x1 y13).Re)) && ((((gd x0 y13).Im) == ((gd x1 y13).Im)) && true)) then
            some false
          else
            r09_Values_l1 K x0 x1 k1 (w64 (y13 + 1))
        else none
      else none
    else
      some true
def r09_Values (K : Nat) (x0 : List GValue) (x1 : List GValue) : Option Bool :=
  if (x0.length : Int) != (x1.length : Int) then
    some false
  else
    r09_Values_l1 K x0 x1 K 0
set_option maxRecDepth 100000 in
set_option maxHeartbeats 4000000 in
theorem c_r09_Values {w0 w : World} {h : Gh} {L : List Ent} (K : Nat) (x0 : List GValue) {a1 : Option Addr} {c1 : Nat} (f1 : Sl rGValue 16 h a1 c1 x0) (x1 : List GValue) {a2 : Option Addr} {c2 : Nat} (f2 : Sl rGValue 16 h a2 c2 x1) (H : St w0 h w L) {r : Bool} (hr : r09_Values K x0 x1 = some r) : Calls Tryz.prog 50 #[.slice a1 x0.length c1, .slice a2 x1.length c2] w (fun e w' => ∃ v, e = .returned v ∧ v = .bool r ∧ St w0 h w' (L)) := by
  refine calls_of (args := [.slice a1 x0.length c1, .slice a2 x1.length c2]) (n := 26) (rs := [.tmp 4]) Tryz.func50 rfl rfl rfl rfl rfl ?_
  unfold r09_Values at hr
  refine WE.seq ?_
  refine WE.region ?_
  refine WL.fin 1 kr kr ?_
  refine WE.seq ?_
  refine WE.seq ?_
  refine WE.region ?_
  refine WL.fin 5 kr kr ?_
  rcases ite_cases hr with ⟨t3, hr⟩ | ⟨t3, hr⟩
  {
  refine WE.yes kr (b := (x0.length : Int) != (x1.length : Int)) kr t3 ?_
  refine WE.seq ?_
  refine WE.region ?_
  refine WL.fin 1 kr kr ?_
  obtain rfl := Option.some.inj hr
  exact WE.ret ⟨[.bool false], ⟨⟨kr, kr⟩, trivial⟩, ⟨rfl, H⟩⟩
  }
  {
  refine WE.no kr (b := (x0.length : Int) != (x1.length : Int)) kr t3 ?_
  refine WE.skip ?_
  refine WE.seq ?_
  refine WE.seq ?_
  refine WE.region ?_
  refine WL.fin 1 kr kr ?_
  refine WE.block ?_
  refine WE.loop (LP.live [0, 1, 5] kr (LP.rec (r09_Values_l1 K x0 x1) (fun (y13 : Int) (_ : Unit) => [(0, .slice a1 x0.length c1), (1, .slice a2 x1.length c2), (5, .int .i64 y13)]) (fun (y13 : Int) (_ : Unit) => fun w => St w0 h w (L)) r (fun _ => rfl) ?_ K 0 () _ H hr))
  rintro k1 ih1 y13 _ w H hr
  simp only [r09_Values_l1] at hr
  refine WE.seq ?_
  refine WE.seq ?_
  refine WE.region ?_
  refine WL.fin 4 kr kr ?_
  rcases ite_cases hr with ⟨t14, hr⟩ | ⟨t14, hr⟩
  {
  refine WE.yes kr (b := decide (y13 < (x0.length : Int))) kr t14 ?_
  refine WE.skip ?_
  refine WE.seq ?_
  refine WE.block ?_
  refine WE.seq ?_
  refine WE.draws mo [0, 1, 5] (ρ' := [(0, .slice a1 x0.length c1), (1, .slice a2 x1.length c2), (5, .int .i64 y13)]) kr fun w e1 e2 e3 e4 => ?_
  have H := H.same e1 e2 e3 e4
  clear e1 e2 e3 e4
  refine WD.know [0] kr ?_
  refine WD.know [1] kr ?_
  obtain ⟨⟨g0_15, g1_15⟩, hr⟩ := grd_cases hr
  obtain ⟨b15, p15, C15, e15, fr15, cs15, rfl, hb15, hc15, rfl⟩ := f1.at g0_15 g1_15
  refine WD.told 2 19 (.pointer (some ⟨b15, p15 + y13.toNat * 2, none⟩)) kr kr ?_
  refine WD.told 3 20 (.agg #[.int .i64 ((gd x0 y13).Re), .int .i64 ((gd x0 y13).Im)]) kr kr ?_
  refine WD.know [4] kr ?_
  refine WD.know [5] kr ?_
  obtain ⟨⟨g0_16, g1_16⟩, hr⟩ := grd_cases hr
  obtain ⟨b16, p16, C16, e16, fr16, cs16, rfl, hb16, hc16, rfl⟩ := f2.at g0_16 g1_16
  refine WD.told 6 23 (.pointer (some ⟨b16, p16 + y13.toNat * 2, none⟩)) kr kr ?_
  refine WD.told 7 24 (.agg #[.int .i64 ((gd x1 y13).Re), .int .i64 ((gd x1 y13).Im)]) kr kr ?_
  refine WD.told 8 25 (.bool (!((((gd x0 y13).Re) == ((gd x1 y13).Re)) && ((((gd x0 y13).Im) == ((gd x1 y13).Im)) && true)))) kr kr ?_
  refine WD.fin kr (Floats.of [5, 4, 1, 0] [8, 7, 6, 3, 2] kr (Floats.pure _ kr kr) (.cons (.tells rfl kr kr (.neq ((((gd x0 y13).Re) == ((gd x1 y13).Re)) && ((((gd x0 y13).Im) == ((gd x1 y13).Im)) && true)) kr kr kr)) (.cons (.tells rfl kr rfl (.loadR H hb16 hc16 0 kr kr)) (.cons (.tells rfl kr kr (.idx b16 (p16) x1.length c2 y13 2 kr kr g0_16 g1_16 kr)) (.cons (.tells rfl kr rfl (.loadR H hb15 hc15 0 kr kr)) (.cons (.tells rfl kr kr (.idx b15 (p15) x0.length c1 y13 2 kr kr g0_15 g1_15 kr)) .nil)))))) kr kr ?_
  rcases ite_cases hr with ⟨t17, hr⟩ | ⟨t17, hr⟩
  {
  refine WE.yes kr (b := !((((gd x0 y13).Re) == ((gd x1 y13).Re)) && ((((gd x0 y13).Im) == ((gd x1 y13).Im)) && true))) kr t17 ?_
  refine WE.seq ?_
  refine WE.region ?_
  refine WL.fin 1 kr kr ?_
  obtain rfl := Option.some.inj hr
  exact WE.ret ⟨[.bool false], ⟨⟨kr, kr⟩, trivial⟩, ⟨rfl, H⟩⟩
  }
  {
  refine WE.no kr (b := !((((gd x0 y13).Re) == ((gd x1 y13).Re)) && ((((gd x0 y13).Im) == ((gd x1 y13).Im)) && true))) kr t17 ?_
  refine WE.skip ?_
  refine WE.region ?_
  refine WL.fin 3 kr kr ?_
  exact LP.live [0, 1, 5] kr (ih1 (w64 (y13 + 1)) () _ H hr)
  }
  }
  {
  refine WE.no kr (b := decide (y13 < (x0.length : Int))) kr t14 ?_
  refine WE.exit ?_
  refine WE.seq ?_
  refine WE.region ?_
  refine WL.fin 1 kr kr ?_
  obtain rfl := Option.some.inj hr
  exact WE.ret ⟨[.bool true], ⟨⟨kr, kr⟩, trivial⟩, ⟨rfl, H⟩⟩
  }
  }
def r09_Same_l1 (K : Nat) (x0 : GFrame) (x1 : GFrame) : Nat → Int → Option Bool
  | 0, _ => none
  | k1 + 1, y23 =>
    if decide (y23 < (x0.Slots.length : Int)) then
      if 0 ≤ y23 ∧ y23 < x0.Slots.length then
        if 0 ≤ y23 ∧ y23 < x1.Slots.length then
          if !((((gd x0.Slots y23).State) == ((gd x1.Slots y23).State)) && (((((gd x0.Slots y23).Kid.At) == ((gd x1.Slots y23).Kid.At)) && ((((gd x0.Slots y23).Kid.Gen) == ((gd x1.Slots y23).Kid.Gen)) && true)) && (((((gd x0.Slots y23).Out.Trap) == ((gd x1.Slots y23).Out.Trap)) && (((((gd x0.Slots y23).Out.V.Re) == ((gd x1.Slots y23).Out.V.Re)) && ((((gd x0.Slots y23).Out.V.Im) == ((gd x1.Slots y23).Out.V.Im)) && true)) && true)) && true))) then
            some false
          else
            r09_Same_l1 K x0 x1 k1 (w64 (y23 + 1))
        else none
      else none
    else
      bnd (
          if x0.Fn == x1.Fn then
            x0.Pc == x1.Pc
          else
            false) fun y28 =>
      bnd (
          if y28 then
            x0.Seed == x1.Seed
          else
            false) fun y29 =>
      bnd (
          if y29 then
            x0.Spawned == x1.Spawned
          else
            false) fun y30 =>
      bnd (
          if y30 then
            x0.Draws == x1.Draws
          else
            false) fun y31 =>
      bnd (
          if y31 then
            x0.State == x1.State
          else
            false) fun y32 =>
      bnd (
          if y32 then
            x0.Wait == x1.Wait
          else
            false) fun y33 =>
      bnd (
          if y33 then
            (x0.Out.Trap == x1.Out.Trap) && (((x0.Out.V.Re == x1.Out.V.Re) && ((x0.Out.V.Im == x1.Out.V.Im) && true)) && true)
          else
            false) fun y34 =>
      bnd (
          if y34 then
            (x0.Up.At == x1.Up.At) && ((x0.Up.Gen == x1.Up.Gen) && true)
          else
            false) fun y35 =>
      bnd (
          if y35 then
            x0.UpSlot == x1.UpSlot
          else
            false) fun y36 =>
      some y36
def r09_Same (K : Nat) (x0 : GFrame) (x1 : GFrame) : Option Bool :=
  (
      if (x0.Slots.length : Int) != (x1.Slots.length : Int) then
        some true
      else
        (r09_Values K x0.Stack x1.Stack).bind fun y38 =>
        some (!y38)).bind fun y9 =>
  (
      if y9 then
        some true
      else
        (r09_Values K x0.Locals x1.Locals).bind fun y37 =>
        some (!y37)).bind fun y11 =>
  if y11 then
    some false
  else
    r09_Same_l1 K x0 x1 K 0
set_option maxRecDepth 100000 in
set_option maxHeartbeats 4000000 in
theorem c_r09_Same {w0 w : World} {h : Gh} {L : List Ent} (K : Nat) (x0 : GFrame) {a1 : Option Addr} {c1 : Nat} {a2 : Option Addr} {c2 : Nat} {a3 : Option Addr} {c3 : Nat} (f1 : Sl rGValue 16 h a1 c1 x0.Stack) (f2 : Sl rGValue 16 h a2 c2 x0.Locals) (f3 : Sl rGSlot 48 h a3 c3 x0.Slots) (x1 : GFrame) {a4 : Option Addr} {c4 : Nat} {a5 : Option Addr} {c5 : Nat} {a6 : Option Addr} {c6 : Nat} (f4 : Sl rGValue 16 h a4 c4 x1.Stack) (f5 : Sl rGValue 16 h a5 c5 x1.Locals) (f6 : Sl rGSlot 48 h a6 c6 x1.Slots) (H : St w0 h w L) {r : Bool} (hr : r09_Same K x0 x1 = some r) : Calls Tryz.prog 15 #[.agg (cGFrame x0 a1 c1 a2 c2 a3 c3).toArray, .agg (cGFrame x1 a4 c4 a5 c5 a6 c6).toArray] w (fun e w' => ∃ v, e = .returned v ∧ v = .bool r ∧ St w0 h w' (L)) := by
  refine calls_of (args := [.agg (cGFrame x0 a1 c1 a2 c2 a3 c3).toArray, .agg (cGFrame x1 a4 c4 a5 c5 a6 c6).toArray]) (n := 115) (rs := [.tmp 4]) Tryz.func15 rfl rfl rfl rfl rfl ?_
  unfold r09_Same at hr
  refine WE.seq ?_
  refine WE.region ?_
  refine WL.does kr kr (Does.box H (cGFrame x0 a1 c1 a2 c2 a3 c3) kr fun b7 w H => ?_)
  refine WL.does kr kr (Does.box H (cGFrame x1 a4 c4 a5 c5 a6 c6) kr fun b8 w H => ?_)
  refine WL.fin 1 kr kr ?_
  refine WE.seq ?_
  refine WE.seq ?_
  refine WE.region ?_
  refine WL.sg 1 kr ?_
  refine WL.does kr kr (Does.loadV H 1 rfl 4 kr kr ?_)
  refine WL.sg 2 kr ?_
  refine WL.does kr kr (Does.loadV H 0 rfl 4 kr kr ?_)
  refine WL.sg 3 kr ?_
  obtain ⟨y9, hy9, hr⟩ := bind_cases hr
  refine WL.join 7 (fun (_ : Unit) => [(2, .pointer (some ⟨b7, 0, none⟩)), (3, .pointer (some ⟨b8, 0, none⟩)), (20, .bool y9)]) (fun (_ : Unit) w => St w0 h w (var b8 (cGFrame x1 a4 c4 a5 c5 a6 c6) 33 :: var b7 (cGFrame x0 a1 c1 a2 c2 a3 c3) 33 :: L)) ?_ (fun hk_y9 => ?_)
  {
  rintro _ w H
  refine WL.sg 1 kr ?_
  obtain ⟨y11, hy11, hr⟩ := bind_cases hr
  refine WL.join 7 (fun (_ : Unit) => [(2, .pointer (some ⟨b7, 0, none⟩)), (3, .pointer (some ⟨b8, 0, none⟩)), (28, .bool y11)]) (fun (_ : Unit) w => St w0 h w (var b8 (cGFrame x1 a4 c4 a5 c5 a6 c6) 33 :: var b7 (cGFrame x0 a1 c1 a2 c2 a3 c3) 33 :: L)) ?_ (fun hk_y11 => ?_)
  {
  rintro _ w H
  refine WL.fin 0 kr kr ?_
  rcases ite_cases hr with ⟨t13, hr⟩ | ⟨t13, hr⟩
  {
  refine WE.yes kr (b := y11) kr t13 ?_
  refine WE.seq ?_
  refine WE.region ?_
  refine WL.fin 1 kr kr ?_
  obtain rfl := Option.some.inj hr
  exact WE.ret ⟨[.bool false], ⟨⟨kr, kr⟩, trivial⟩, ⟨rfl, (H.keep 2)⟩⟩
  }
  {
  refine WE.no kr (b := y11) kr t13 ?_
  refine WE.skip ?_
  refine WE.seq ?_
  refine WE.seq ?_
  refine WE.region ?_
  refine WL.fin 1 kr kr ?_
  refine WE.block ?_
  refine WE.loop (LP.live [2, 3, 5] kr (LP.rec (r09_Same_l1 K x0 x1) (fun (y23 : Int) (_ : Unit) => [(2, .pointer (some ⟨b7, 0, none⟩)), (3, .pointer (some ⟨b8, 0, none⟩)), (5, .int .i64 y23)]) (fun (y23 : Int) (_ : Unit) => fun w => St w0 h w (var b8 (cGFrame x1 a4 c4 a5 c5 a6 c6) 33 :: var b7 (cGFrame x0 a1 c1 a2 c2 a3 c3) 33 :: L)) r (fun _ => rfl) ?_ K 0 () _ H hr))
  rintro k1 ih1 y23 _ w H hr
  simp only [r09_Same_l1] at hr
  refine WE.seq ?_
  refine WE.seq ?_
  refine WE.region ?_
  refine WL.sg 2 kr ?_
  refine WL.does kr kr (Does.loadV H 1 rfl 4 kr kr ?_)
  refine WL.fin 2 kr kr ?_
  rcases ite_cases hr with ⟨t24, hr⟩ | ⟨t24, hr⟩
  {
  refine WE.yes kr (b := decide (y23 < (x0.Slots.length : Int))) kr t24 ?_
  refine WE.skip ?_
  refine WE.seq ?_
  refine WE.block ?_
  refine WE.seq ?_
  refine WE.draws mo [2, 3, 5] (ρ' := [(2, .pointer (some ⟨b7, 0, none⟩)), (3, .pointer (some ⟨b8, 0, none⟩)), (5, .int .i64 y23)]) kr fun w e1 e2 e3 e4 => ?_
  have H := H.same e1 e2 e3 e4
  clear e1 e2 e3 e4
  refine WD.know [0] kr ?_
  refine WD.told 1 37 (.slice a3 x0.Slots.length c3) kr kr ?_
  refine WD.know [2] kr ?_
  obtain ⟨⟨g0_25, g1_25⟩, hr⟩ := grd_cases hr
  obtain ⟨b25, p25, C25, e25, fr25, cs25, rfl, hb25, hc25, rfl⟩ := f3.at g0_25 g1_25
  refine WD.told 3 39 (.pointer (some ⟨b25, p25 + y23.toNat * 6, none⟩)) kr kr ?_
  refine WD.told 4 40 (.agg (cGSlot (⟨(gd x0.Slots y23).State, (⟨(gd x0.Slots y23).Kid.At, (gd x0.Slots y23).Kid.Gen⟩ : GRef), (⟨(gd x0.Slots y23).Out.Trap, (⟨(gd x0.Slots y23).Out.V.Re, (gd x0.Slots y23).Out.V.Im⟩ : GValue)⟩ : GOut)⟩ : GSlot)).toArray) kr kr ?_
  refine WD.know [5] kr ?_
  refine WD.told 6 42 (.slice a6 x1.Slots.length c6) kr kr ?_
  refine WD.know [7] kr ?_
  obtain ⟨⟨g0_26, g1_26⟩, hr⟩ := grd_cases hr
  obtain ⟨b26, p26, C26, e26, fr26, cs26, rfl, hb26, hc26, rfl⟩ := f6.at g0_26 g1_26
  refine WD.told 8 44 (.pointer (some ⟨b26, p26 + y23.toNat * 6, none⟩)) kr kr ?_
  refine WD.told 9 45 (.agg (cGSlot (⟨(gd x1.Slots y23).State, (⟨(gd x1.Slots y23).Kid.At, (gd x1.Slots y23).Kid.Gen⟩ : GRef), (⟨(gd x1.Slots y23).Out.Trap, (⟨(gd x1.Slots y23).Out.V.Re, (gd x1.Slots y23).Out.V.Im⟩ : GValue)⟩ : GOut)⟩ : GSlot)).toArray) kr kr ?_
  refine WD.told 10 46 (.bool (!((((gd x0.Slots y23).State) == ((gd x1.Slots y23).State)) && (((((gd x0.Slots y23).Kid.At) == ((gd x1.Slots y23).Kid.At)) && ((((gd x0.Slots y23).Kid.Gen) == ((gd x1.Slots y23).Kid.Gen)) && true)) && (((((gd x0.Slots y23).Out.Trap) == ((gd x1.Slots y23).Out.Trap)) && (((((gd x0.Slots y23).Out.V.Re) == ((gd x1.Slots y23).Out.V.Re)) && ((((gd x0.Slots y23).Out.V.Im) == ((gd x1.Slots y23).Out.V.Im)) && true)) && true)) && true))))) kr kr ?_
  refine WD.fin kr (Floats.of [7, 5, 2, 0] [10, 9, 8, 6, 4, 3, 1] kr (Floats.pure _ kr kr) (.cons (.tells rfl kr kr (.neq ((((gd x0.Slots y23).State) == ((gd x1.Slots y23).State)) && (((((gd x0.Slots y23).Kid.At) == ((gd x1.Slots y23).Kid.At)) && ((((gd x0.Slots y23).Kid.Gen) == ((gd x1.Slots y23).Kid.Gen)) && true)) && (((((gd x0.Slots y23).Out.Trap) == ((gd x1.Slots y23).Out.Trap)) && (((((gd x0.Slots y23).Out.V.Re) == ((gd x1.Slots y23).Out.V.Re)) && ((((gd x0.Slots y23).Out.V.Im) == ((gd x1.Slots y23).Out.V.Im)) && true)) && true)) && true))) kr kr kr)) (.cons (.tells rfl kr rfl (.loadR H hb26 hc26 0 kr kr)) (.cons (.tells rfl kr kr (.idx b26 (p26) x1.Slots.length c6 y23 6 kr kr g0_26 g1_26 kr)) (.cons (.tells rfl kr rfl (.loadV H 0 rfl 4 kr kr)) (.cons (.tells rfl kr rfl (.loadR H hb25 hc25 0 kr kr)) (.cons (.tells rfl kr kr (.idx b25 (p25) x0.Slots.length c3 y23 6 kr kr g0_25 g1_25 kr)) (.cons (.tells rfl kr rfl (.loadV H 1 rfl 4 kr kr)) .nil)))))))) kr kr ?_
  rcases ite_cases hr with ⟨t27, hr⟩ | ⟨t27, hr⟩
  {
  refine WE.yes kr (b := !((((gd x0.Slots y23).State) == ((gd x1.Slots y23).State)) && (((((gd x0.Slots y23).Kid.At) == ((gd x1.Slots y23).Kid.At)) && ((((gd x0.Slots y23).Kid.Gen) == ((gd x1.Slots y23).Kid.Gen)) && true)) && (((((gd x0.Slots y23).Out.Trap) == ((gd x1.Slots y23).Out.Trap)) && (((((gd x0.Slots y23).Out.V.Re) == ((gd x1.Slots y23).Out.V.Re)) && ((((gd x0.Slots y23).Out.V.Im) == ((gd x1.Slots y23).Out.V.Im)) && true)) && true)) && true)))) kr t27 ?_
  refine WE.seq ?_
  refine WE.region ?_
  refine WL.fin 1 kr kr ?_
  obtain rfl := Option.some.inj hr
  exact WE.ret ⟨[.bool false], ⟨⟨kr, kr⟩, trivial⟩, ⟨rfl, (H.keep 2)⟩⟩
  }
  {
  refine WE.no kr (b := !((((gd x0.Slots y23).State) == ((gd x1.Slots y23).State)) && (((((gd x0.Slots y23).Kid.At) == ((gd x1.Slots y23).Kid.At)) && ((((gd x0.Slots y23).Kid.Gen) == ((gd x1.Slots y23).Kid.Gen)) && true)) && (((((gd x0.Slots y23).Out.Trap) == ((gd x1.Slots y23).Out.Trap)) && (((((gd x0.Slots y23).Out.V.Re) == ((gd x1.Slots y23).Out.V.Re)) && ((((gd x0.Slots y23).Out.V.Im) == ((gd x1.Slots y23).Out.V.Im)) && true)) && true)) && true)))) kr t27 ?_
  refine WE.skip ?_
  refine WE.region ?_
  refine WL.fin 3 kr kr ?_
  exact LP.live [2, 3, 5] kr (ih1 (w64 (y23 + 1)) () _ H hr)
  }
  }
  {
  refine WE.no kr (b := decide (y23 < (x0.Slots.length : Int))) kr t24 ?_
  refine WE.exit ?_
  refine WE.seq ?_
  refine WE.region ?_
  refine WL.sg 1 kr ?_
  refine WL.does kr kr (Does.loadV H 1 rfl 0 kr kr ?_)
  refine WL.sg 1 kr ?_
  refine WL.does kr kr (Does.loadV H 0 rfl 0 kr kr ?_)
  refine WL.sg 2 kr ?_
  obtain ⟨y28, hy28, hr⟩ := bnd_cases hr
  refine WL.join 6 (fun (_ : Unit) => [(2, .pointer (some ⟨b7, 0, none⟩)), (3, .pointer (some ⟨b8, 0, none⟩)), (58, .bool y28)]) (fun (_ : Unit) w => St w0 h w (var b8 (cGFrame x1 a4 c4 a5 c5 a6 c6) 33 :: var b7 (cGFrame x0 a1 c1 a2 c2 a3 c3) 33 :: L)) ?_ (fun hk_y28 => ?_)
  {
  rintro _ w H
  refine WL.sg 1 kr ?_
  obtain ⟨y29, hy29, hr⟩ := bnd_cases hr
  refine WL.join 6 (fun (_ : Unit) => [(2, .pointer (some ⟨b7, 0, none⟩)), (3, .pointer (some ⟨b8, 0, none⟩)), (65, .bool y29)]) (fun (_ : Unit) w => St w0 h w (var b8 (cGFrame x1 a4 c4 a5 c5 a6 c6) 33 :: var b7 (cGFrame x0 a1 c1 a2 c2 a3 c3) 33 :: L)) ?_ (fun hk_y29 => ?_)
  {
  rintro _ w H
  refine WL.sg 1 kr ?_
  obtain ⟨y30, hy30, hr⟩ := bnd_cases hr
  refine WL.join 6 (fun (_ : Unit) => [(2, .pointer (some ⟨b7, 0, none⟩)), (3, .pointer (some ⟨b8, 0, none⟩)), (72, .bool y30)]) (fun (_ : Unit) w => St w0 h w (var b8 (cGFrame x1 a4 c4 a5 c5 a6 c6) 33 :: var b7 (cGFrame x0 a1 c1 a2 c2 a3 c3) 33 :: L)) ?_ (fun hk_y30 => ?_)
  {
  rintro _ w H
  refine WL.sg 1 kr ?_
  obtain ⟨y31, hy31, hr⟩ := bnd_cases hr
  refine WL.join 6 (fun (_ : Unit) => [(2, .pointer (some ⟨b7, 0, none⟩)), (3, .pointer (some ⟨b8, 0, none⟩)), (79, .bool y31)]) (fun (_ : Unit) w => St w0 h w (var b8 (cGFrame x1 a4 c4 a5 c5 a6 c6) 33 :: var b7 (cGFrame x0 a1 c1 a2 c2 a3 c3) 33 :: L)) ?_ (fun hk_y31 => ?_)
  {
  rintro _ w H
  refine WL.sg 1 kr ?_
  obtain ⟨y32, hy32, hr⟩ := bnd_cases hr
  refine WL.join 6 (fun (_ : Unit) => [(2, .pointer (some ⟨b7, 0, none⟩)), (3, .pointer (some ⟨b8, 0, none⟩)), (86, .bool y32)]) (fun (_ : Unit) w => St w0 h w (var b8 (cGFrame x1 a4 c4 a5 c5 a6 c6) 33 :: var b7 (cGFrame x0 a1 c1 a2 c2 a3 c3) 33 :: L)) ?_ (fun hk_y32 => ?_)
  {
  rintro _ w H
  refine WL.sg 1 kr ?_
  obtain ⟨y33, hy33, hr⟩ := bnd_cases hr
  refine WL.join 6 (fun (_ : Unit) => [(2, .pointer (some ⟨b7, 0, none⟩)), (3, .pointer (some ⟨b8, 0, none⟩)), (93, .bool y33)]) (fun (_ : Unit) w => St w0 h w (var b8 (cGFrame x1 a4 c4 a5 c5 a6 c6) 33 :: var b7 (cGFrame x0 a1 c1 a2 c2 a3 c3) 33 :: L)) ?_ (fun hk_y33 => ?_)
  {
  rintro _ w H
  refine WL.sg 1 kr ?_
  obtain ⟨y34, hy34, hr⟩ := bnd_cases hr
  refine WL.join 6 (fun (_ : Unit) => [(2, .pointer (some ⟨b7, 0, none⟩)), (3, .pointer (some ⟨b8, 0, none⟩)), (100, .bool y34)]) (fun (_ : Unit) w => St w0 h w (var b8 (cGFrame x1 a4 c4 a5 c5 a6 c6) 33 :: var b7 (cGFrame x0 a1 c1 a2 c2 a3 c3) 33 :: L)) ?_ (fun hk_y34 => ?_)
  {
  rintro _ w H
  refine WL.sg 1 kr ?_
  obtain ⟨y35, hy35, hr⟩ := bnd_cases hr
  refine WL.join 6 (fun (_ : Unit) => [(2, .pointer (some ⟨b7, 0, none⟩)), (3, .pointer (some ⟨b8, 0, none⟩)), (107, .bool y35)]) (fun (_ : Unit) w => St w0 h w (var b8 (cGFrame x1 a4 c4 a5 c5 a6 c6) 33 :: var b7 (cGFrame x0 a1 c1 a2 c2 a3 c3) 33 :: L)) ?_ (fun hk_y35 => ?_)
  {
  rintro _ w H
  refine WL.sg 1 kr ?_
  obtain ⟨y36, hy36, hr⟩ := bnd_cases hr
  refine WL.join 6 (fun (_ : Unit) => [(114, .bool y36)]) (fun (_ : Unit) w => St w0 h w (var b8 (cGFrame x1 a4 c4 a5 c5 a6 c6) 33 :: var b7 (cGFrame x0 a1 c1 a2 c2 a3 c3) 33 :: L)) ?_ (fun hk_y36 => ?_)
  {
  rintro _ w H
  refine WL.fin 1 kr kr ?_
  obtain rfl := Option.some.inj hr
  exact WE.ret ⟨[.bool y36], ⟨⟨kr, kr⟩, trivial⟩, ⟨rfl, (H.keep 2)⟩⟩
  }
  rcases ite_cases hy36 with ⟨ty36, hy36⟩ | ⟨ty36, hy36⟩
  {
  refine WL.known 108 ty36 kr kr ?_
  refine WL.sg 1 kr ?_
  refine WL.does kr kr (Does.loadV H 1 rfl 15 kr kr ?_)
  refine WL.sg 1 kr ?_
  refine WL.does kr kr (Does.loadV H 0 rfl 15 kr kr ?_)
  refine WL.sg 2 kr ?_
  obtain rfl := hy36
  exact WL.live [114] kr (hk_y36 () _ H)
  }
  {
  refine WL.known 108 ty36 kr kr ?_
  refine WL.sg 6 kr ?_
  obtain rfl := hy36
  exact WL.live [114] kr (hk_y36 () _ H)
  }
  }
  rcases ite_cases hy35 with ⟨ty35, hy35⟩ | ⟨ty35, hy35⟩
  {
  refine WL.known 101 ty35 kr kr ?_
  refine WL.sg 1 kr ?_
  refine WL.does kr kr (Does.loadV H 1 rfl 13 kr kr ?_)
  refine WL.sg 1 kr ?_
  refine WL.does kr kr (Does.loadV H 0 rfl 13 kr kr ?_)
  refine WL.does kr kr (Does.tells (.eql ((x0.Up.At == x1.Up.At) && ((x0.Up.Gen == x1.Up.Gen) && true)) kr kr kr) ?_)
  refine WL.sg 1 kr ?_
  obtain rfl := hy35
  exact WL.live [2, 3, 107] kr (hk_y35 () _ H)
  }
  {
  refine WL.known 101 ty35 kr kr ?_
  refine WL.sg 6 kr ?_
  obtain rfl := hy35
  exact WL.live [2, 3, 107] kr (hk_y35 () _ H)
  }
  }
  rcases ite_cases hy34 with ⟨ty34, hy34⟩ | ⟨ty34, hy34⟩
  {
  refine WL.known 94 ty34 kr kr ?_
  refine WL.sg 1 kr ?_
  refine WL.does kr kr (Does.loadV H 1 rfl 10 kr kr ?_)
  refine WL.sg 1 kr ?_
  refine WL.does kr kr (Does.loadV H 0 rfl 10 kr kr ?_)
  refine WL.does kr kr (Does.tells (.eql ((x0.Out.Trap == x1.Out.Trap) && (((x0.Out.V.Re == x1.Out.V.Re) && ((x0.Out.V.Im == x1.Out.V.Im) && true)) && true)) kr kr kr) ?_)
  refine WL.sg 1 kr ?_
  obtain rfl := hy34
  exact WL.live [2, 3, 100] kr (hk_y34 () _ H)
  }
  {
  refine WL.known 94 ty34 kr kr ?_
  refine WL.sg 6 kr ?_
  obtain rfl := hy34
  exact WL.live [2, 3, 100] kr (hk_y34 () _ H)
  }
  }
  rcases ite_cases hy33 with ⟨ty33, hy33⟩ | ⟨ty33, hy33⟩
  {
  refine WL.known 87 ty33 kr kr ?_
  refine WL.sg 1 kr ?_
  refine WL.does kr kr (Does.loadV H 1 rfl 9 kr kr ?_)
  refine WL.sg 1 kr ?_
  refine WL.does kr kr (Does.loadV H 0 rfl 9 kr kr ?_)
  refine WL.sg 2 kr ?_
  obtain rfl := hy33
  exact WL.live [2, 3, 93] kr (hk_y33 () _ H)
  }
  {
  refine WL.known 87 ty33 kr kr ?_
  refine WL.sg 6 kr ?_
  obtain rfl := hy33
  exact WL.live [2, 3, 93] kr (hk_y33 () _ H)
  }
  }
  rcases ite_cases hy32 with ⟨ty32, hy32⟩ | ⟨ty32, hy32⟩
  {
  refine WL.known 80 ty32 kr kr ?_
  refine WL.sg 1 kr ?_
  refine WL.does kr kr (Does.loadV H 1 rfl 8 kr kr ?_)
  refine WL.sg 1 kr ?_
  refine WL.does kr kr (Does.loadV H 0 rfl 8 kr kr ?_)
  refine WL.sg 2 kr ?_
  obtain rfl := hy32
  exact WL.live [2, 3, 86] kr (hk_y32 () _ H)
  }
  {
  refine WL.known 80 ty32 kr kr ?_
  refine WL.sg 6 kr ?_
  obtain rfl := hy32
  exact WL.live [2, 3, 86] kr (hk_y32 () _ H)
  }
  }
  rcases ite_cases hy31 with ⟨ty31, hy31⟩ | ⟨ty31, hy31⟩
  {
  refine WL.known 73 ty31 kr kr ?_
  refine WL.sg 1 kr ?_
  refine WL.does kr kr (Does.loadV H 1 rfl 7 kr kr ?_)
  refine WL.sg 1 kr ?_
  refine WL.does kr kr (Does.loadV H 0 rfl 7 kr kr ?_)
  refine WL.sg 2 kr ?_
  obtain rfl := hy31
  exact WL.live [2, 3, 79] kr (hk_y31 () _ H)
  }
  {
  refine WL.known 73 ty31 kr kr ?_
  refine WL.sg 6 kr ?_
  obtain rfl := hy31
  exact WL.live [2, 3, 79] kr (hk_y31 () _ H)
  }
  }
  rcases ite_cases hy30 with ⟨ty30, hy30⟩ | ⟨ty30, hy30⟩
  {
  refine WL.known 66 ty30 kr kr ?_
  refine WL.sg 1 kr ?_
  refine WL.does kr kr (Does.loadV H 1 rfl 6 kr kr ?_)
  refine WL.sg 1 kr ?_
  refine WL.does kr kr (Does.loadV H 0 rfl 6 kr kr ?_)
  refine WL.sg 2 kr ?_
  obtain rfl := hy30
  exact WL.live [2, 3, 72] kr (hk_y30 () _ H)
  }
  {
  refine WL.known 66 ty30 kr kr ?_
  refine WL.sg 6 kr ?_
  obtain rfl := hy30
  exact WL.live [2, 3, 72] kr (hk_y30 () _ H)
  }
  }
  rcases ite_cases hy29 with ⟨ty29, hy29⟩ | ⟨ty29, hy29⟩
  {
  refine WL.known 59 ty29 kr kr ?_
  refine WL.sg 1 kr ?_
  refine WL.does kr kr (Does.loadV H 1 rfl 5 kr kr ?_)
  refine WL.sg 1 kr ?_
  refine WL.does kr kr (Does.loadV H 0 rfl 5 kr kr ?_)
  refine WL.sg 2 kr ?_
  obtain rfl := hy29
  exact WL.live [2, 3, 65] kr (hk_y29 () _ H)
  }
  {
  refine WL.known 59 ty29 kr kr ?_
  refine WL.sg 6 kr ?_
  obtain rfl := hy29
  exact WL.live [2, 3, 65] kr (hk_y29 () _ H)
  }
  }
  rcases ite_cases hy28 with ⟨ty28, hy28⟩ | ⟨ty28, hy28⟩
  {
  refine WL.known 52 ty28 kr kr ?_
  refine WL.sg 1 kr ?_
  refine WL.does kr kr (Does.loadV H 1 rfl 1 kr kr ?_)
  refine WL.sg 1 kr ?_
  refine WL.does kr kr (Does.loadV H 0 rfl 1 kr kr ?_)
  refine WL.sg 2 kr ?_
  obtain rfl := hy28
  exact WL.live [2, 3, 58] kr (hk_y28 () _ H)
  }
  {
  refine WL.known 52 ty28 kr kr ?_
  refine WL.sg 6 kr ?_
  obtain rfl := hy28
  exact WL.live [2, 3, 58] kr (hk_y28 () _ H)
  }
  }
  }
  }
  rcases ite_cases hy11 with ⟨ty11, hy11⟩ | ⟨ty11, hy11⟩
  {
  refine WL.known 21 ty11 kr kr ?_
  refine WL.sg 7 kr ?_
  obtain rfl := Option.some.inj hy11
  exact WL.live [2, 3, 28] kr (hk_y11 () _ H)
  }
  {
  refine WL.known 21 ty11 kr kr ?_
  refine WL.sg 1 kr ?_
  refine WL.does kr kr (Does.loadV H 1 rfl 3 kr kr ?_)
  refine WL.sg 1 kr ?_
  refine WL.does kr kr (Does.loadV H 0 rfl 3 kr kr ?_)
  obtain ⟨y37, q37, hy11⟩ := bind_cases hy11
  refine WL.does kr kr (Does.call (c_r09_Values K x0.Locals f2 x1.Locals f5 H q37) kr ?_)
  rintro _ w ⟨rfl, H⟩
  refine WL.sg 2 kr ?_
  obtain rfl := Option.some.inj hy11
  exact WL.live [2, 3, 28] kr (hk_y11 () _ H)
  }
  }
  rcases ite_cases hy9 with ⟨ty9, hy9⟩ | ⟨ty9, hy9⟩
  {
  refine WL.known 13 ty9 kr kr ?_
  refine WL.sg 7 kr ?_
  obtain rfl := Option.some.inj hy9
  exact WL.live [2, 3, 20] kr (hk_y9 () _ H)
  }
  {
  refine WL.known 13 ty9 kr kr ?_
  refine WL.sg 1 kr ?_
  refine WL.does kr kr (Does.loadV H 1 rfl 2 kr kr ?_)
  refine WL.sg 1 kr ?_
  refine WL.does kr kr (Does.loadV H 0 rfl 2 kr kr ?_)
  obtain ⟨y38, q38, hy9⟩ := bind_cases hy9
  refine WL.does kr kr (Does.call (c_r09_Values K x0.Stack f1 x1.Stack f4 H q38) kr ?_)
  rintro _ w ⟨rfl, H⟩
  refine WL.sg 2 kr ?_
  obtain rfl := Option.some.inj hy9
  exact WL.live [2, 3, 20] kr (hk_y9 () _ H)
  }
def r09_SameAct (K : Nat) (x0 : GAct) (x1 : GAct) : Option Bool :=
  bnd (
      if x0.Kind == x1.Kind then
        x0.Fn == x1.Fn
      else
        false) fun y5 =>
  bnd (
      if y5 then
        x0.Slot == x1.Slot
      else
        false) fun y6 =>
  bnd (
      if y6 then
        x0.Seed == x1.Seed
      else
        false) fun y7 =>
  (
      if y7 then
        (r09_Values K x0.Args x1.Args).bind fun y10 =>
        some y10
      else
        some false).bind fun y8 =>
  some y8
set_option maxRecDepth 100000 in
set_option maxHeartbeats 4000000 in
theorem c_r09_SameAct {w0 w : World} {h : Gh} {L : List Ent} (K : Nat) (x0 : GAct) {a1 : Option Addr} {c1 : Nat} (f1 : Sl rGValue 16 h a1 c1 x0.Args) (x1 : GAct) {a2 : Option Addr} {c2 : Nat} (f2 : Sl rGValue 16 h a2 c2 x1.Args) (H : St w0 h w L) {r : Bool} (hr : r09_SameAct K x0 x1 = some r) : Calls Tryz.prog 16 #[.agg (cGAct x0 a1 c1).toArray, .agg (cGAct x1 a2 c2).toArray] w (fun e w' => ∃ v, e = .returned v ∧ v = .bool r ∧ St w0 h w' (L)) := by
  refine calls_of (args := [.agg (cGAct x0 a1 c1).toArray, .agg (cGAct x1 a2 c2).toArray]) (n := 38) (rs := [.tmp 4]) Tryz.func16 rfl rfl rfl rfl rfl ?_
  unfold r09_SameAct at hr
  refine WE.seq ?_
  refine WE.region ?_
  refine WL.does kr kr (Does.box H (cGAct x0 a1 c1) kr fun b3 w H => ?_)
  refine WL.does kr kr (Does.box H (cGAct x1 a2 c2) kr fun b4 w H => ?_)
  refine WL.fin 1 kr kr ?_
  refine WE.seq ?_
  refine WE.region ?_
  refine WL.sg 1 kr ?_
  refine WL.does kr kr (Does.loadV H 1 rfl 0 kr kr ?_)
  refine WL.sg 1 kr ?_
  refine WL.does kr kr (Does.loadV H 0 rfl 0 kr kr ?_)
  refine WL.sg 2 kr ?_
  obtain ⟨y5, hy5, hr⟩ := bnd_cases hr
  refine WL.join 6 (fun (_ : Unit) => [(2, .pointer (some ⟨b3, 0, none⟩)), (3, .pointer (some ⟨b4, 0, none⟩)), (16, .bool y5)]) (fun (_ : Unit) w => St w0 h w (var b4 (cGAct x1 a2 c2) 40 :: var b3 (cGAct x0 a1 c1) 40 :: L)) ?_ (fun hk_y5 => ?_)
  {
  rintro _ w H
  refine WL.sg 1 kr ?_
  obtain ⟨y6, hy6, hr⟩ := bnd_cases hr
  refine WL.join 6 (fun (_ : Unit) => [(2, .pointer (some ⟨b3, 0, none⟩)), (3, .pointer (some ⟨b4, 0, none⟩)), (23, .bool y6)]) (fun (_ : Unit) w => St w0 h w (var b4 (cGAct x1 a2 c2) 40 :: var b3 (cGAct x0 a1 c1) 40 :: L)) ?_ (fun hk_y6 => ?_)
  {
  rintro _ w H
  refine WL.sg 1 kr ?_
  obtain ⟨y7, hy7, hr⟩ := bnd_cases hr
  refine WL.join 6 (fun (_ : Unit) => [(2, .pointer (some ⟨b3, 0, none⟩)), (3, .pointer (some ⟨b4, 0, none⟩)), (30, .bool y7)]) (fun (_ : Unit) w => St w0 h w (var b4 (cGAct x1 a2 c2) 40 :: var b3 (cGAct x0 a1 c1) 40 :: L)) ?_ (fun hk_y7 => ?_)
  {
  rintro _ w H
  refine WL.sg 1 kr ?_
  obtain ⟨y8, hy8, hr⟩ := bind_cases hr
  refine WL.join 6 (fun (_ : Unit) => [(37, .bool y8)]) (fun (_ : Unit) w => St w0 h w (var b4 (cGAct x1 a2 c2) 40 :: var b3 (cGAct x0 a1 c1) 40 :: L)) ?_ (fun hk_y8 => ?_)
  {
  rintro _ w H
  refine WL.fin 1 kr kr ?_
  obtain rfl := Option.some.inj hr
  exact WE.ret ⟨[.bool y8], ⟨⟨kr, kr⟩, trivial⟩, ⟨rfl, (H.keep 2)⟩⟩
  }
  rcases ite_cases hy8 with ⟨ty8, hy8⟩ | ⟨ty8, hy8⟩
  {
  refine WL.known 31 ty8 kr kr ?_
  refine WL.sg 1 kr ?_
  refine WL.does kr kr (Does.loadV H 1 rfl 4 kr kr ?_)
  refine WL.sg 1 kr ?_
  refine WL.does kr kr (Does.loadV H 0 rfl 4 kr kr ?_)
  obtain ⟨y10, q10, hy8⟩ := bind_cases hy8
  refine WL.does kr kr (Does.call (c_r09_Values K x0.Args f1 x1.Args f2 H q10) kr ?_)
  rintro _ w ⟨rfl, H⟩
  refine WL.sg 1 kr ?_
  obtain rfl := Option.some.inj hy8
  exact WL.live [37] kr (hk_y8 () _ H)
  }
  {
  refine WL.known 31 ty8 kr kr ?_
  refine WL.sg 6 kr ?_
  obtain rfl := Option.some.inj hy8
  exact WL.live [37] kr (hk_y8 () _ H)
  }
  }
  rcases ite_cases hy7 with ⟨ty7, hy7⟩ | ⟨ty7, hy7⟩
  {
  refine WL.known 24 ty7 kr kr ?_
  refine WL.sg 1 kr ?_
  refine WL.does kr kr (Does.loadV H 1 rfl 3 kr kr ?_)
  refine WL.sg 1 kr ?_
  refine WL.does kr kr (Does.loadV H 0 rfl 3 kr kr ?_)
  refine WL.sg 2 kr ?_
  obtain rfl := hy7
  exact WL.live [2, 3, 30] kr (hk_y7 () _ H)
  }
  {
  refine WL.known 24 ty7 kr kr ?_
  refine WL.sg 6 kr ?_
  obtain rfl := hy7
  exact WL.live [2, 3, 30] kr (hk_y7 () _ H)
  }
  }
  rcases ite_cases hy6 with ⟨ty6, hy6⟩ | ⟨ty6, hy6⟩
  {
  refine WL.known 17 ty6 kr kr ?_
  refine WL.sg 1 kr ?_
  refine WL.does kr kr (Does.loadV H 1 rfl 2 kr kr ?_)
  refine WL.sg 1 kr ?_
  refine WL.does kr kr (Does.loadV H 0 rfl 2 kr kr ?_)
  refine WL.sg 2 kr ?_
  obtain rfl := hy6
  exact WL.live [2, 3, 23] kr (hk_y6 () _ H)
  }
  {
  refine WL.known 17 ty6 kr kr ?_
  refine WL.sg 6 kr ?_
  obtain rfl := hy6
  exact WL.live [2, 3, 23] kr (hk_y6 () _ H)
  }
  }
  rcases ite_cases hy5 with ⟨ty5, hy5⟩ | ⟨ty5, hy5⟩
  {
  refine WL.known 10 ty5 kr kr ?_
  refine WL.sg 1 kr ?_
  refine WL.does kr kr (Does.loadV H 1 rfl 1 kr kr ?_)
  refine WL.sg 1 kr ?_
  refine WL.does kr kr (Does.loadV H 0 rfl 1 kr kr ?_)
  refine WL.sg 2 kr ?_
  obtain rfl := hy5
  exact WL.live [2, 3, 16] kr (hk_y5 () _ H)
  }
  {
  refine WL.known 10 ty5 kr kr ?_
  refine WL.sg 6 kr ?_
  obtain rfl := hy5
  exact WL.live [2, 3, 16] kr (hk_y5 () _ H)
  }
def law09_FrameTells (K : Nat) (x0 : List GFunc) (x1 : GFrame) (x2 : GTold) : Option Bool :=
  (r07_Small K x0 300).bind fun y8 =>
  bnd (
      if !y8 then
        true
      else
        bnd (r09_Small x1) fun y78 =>
        !y78) fun y9 =>
  bnd (
      if y9 then
        true
      else
        decide ((x2.Args.length : Int) > 40)) fun y11 =>
  if y11 then
    (law09_fixed K).bind fun y13 =>
    some y13
  else
    (frame_Do K x0 x1).bind fun y14 =>
    (r09_Do K x0 x1).bind fun y21 =>
    (frame_Give x1 x2.Slot x2.Out).bind fun y28 =>
    (r09_Give x1 x2.Slot x2.Out).bind fun y33 =>
    (frame_Final K x1).bind fun y38 =>
    (r09_Final K x1).bind fun y40 =>
    (frame_New K x0 x2.Fn x2.Args x2.Seed).bind fun y42 =>
    (r09_New K x0 x2.Fn x2.Args x2.Seed).bind fun y49 =>
    (law09_fixed K).bind fun y56 =>
    if y56 then
      (r09_Same K y14.1 y21.1).bind fun y58 =>
      if y58 then
        (r09_SameAct K y14.2 y21.2).bind fun y60 =>
        if y60 then
          (r09_Same K y28.1 y33.1).bind fun y62 =>
          if y62 then
            if y28.2 == y33.2 then
              if (y38.1.Trap == y40.1.Trap) && (((y38.1.V.Re == y40.1.V.Re) && ((y38.1.V.Im == y40.1.V.Im) && true)) && true) then
                if y38.2 == y40.2 then
                  (r09_Same K y42.1 y49.1).bind fun y71 =>
                  if y71 then
                    if y42.2 == y49.2 then
                      (frame_Same K x1 y14.1).bind fun y74 =>
                      (r09_Same K x1 y14.1).bind fun y75 =>
                      if y74 == y75 then
                        (frame_Same K x1 x1).bind fun y77 =>
                        some y77
                      else
                        some false
                    else
                      some false
                  else
                    some false
                else
                  some false
              else
                some false
            else
              some false
          else
            some false
        else
          some false
      else
        some false
    else
      some false
set_option maxRecDepth 100000 in
set_option maxHeartbeats 4000000 in
theorem c_law09_FrameTells {w0 w : World} {h : Gh} {L : List Ent} (K : Nat) (x0 : List GFunc) {a1 : Option Addr} {c1 : Nat} (f1 : Sl rGFunc 48 h a1 c1 x0) (x1 : GFrame) {a2 : Option Addr} {c2 : Nat} {a3 : Option Addr} {c3 : Nat} {a4 : Option Addr} {c4 : Nat} (f2 : Sl rGValue 16 h a2 c2 x1.Stack) (f3 : Sl rGValue 16 h a3 c3 x1.Locals) (f4 : Sl rGSlot 48 h a4 c4 x1.Slots) (x2 : GTold) {a5 : Option Addr} {c5 : Nat} (f5 : Sl rGValue 16 h a5 c5 x2.Args) (H : St w0 h w L) {r : Bool} (hr : law09_FrameTells K x0 x1 x2 = some r) : Calls Tryz.prog 3 #[.slice a1 x0.length c1, .agg (cGFrame x1 a2 c2 a3 c3 a4 c4).toArray, .agg (cGTold x2 a5 c5).toArray] w (fun e w' => ∃ v, e = .returned v ∧ v = .bool r ∧ St w0 h w' (L)) := by
  refine calls_of (args := [.slice a1 x0.length c1, .agg (cGFrame x1 a2 c2 a3 c3 a4 c4).toArray, .agg (cGTold x2 a5 c5).toArray]) (n := 155) (rs := [.tmp 6]) Tryz.func3 rfl rfl rfl rfl rfl ?_
  unfold law09_FrameTells at hr
  refine WE.seq ?_
  refine WE.region ?_
  refine WL.does kr kr (Does.box H (cGFrame x1 a2 c2 a3 c3 a4 c4) kr fun b6 w H => ?_)
  refine WL.does kr kr (Does.box H (cGTold x2 a5 c5) kr fun b7 w H => ?_)
  refine WL.fin 1 kr kr ?_
  refine WE.seq ?_
  refine WE.seq ?_
  refine WE.region ?_
  obtain ⟨y8, q8, hr⟩ := bind_cases hr
  refine WL.sg 1 kr ?_
  refine WL.does kr kr (Does.call (c_r07_Small K x0 f1 300 H q8) kr ?_)
  rintro _ w ⟨rfl, H⟩
  refine WL.sg 2 kr ?_
  obtain ⟨y9, hy9, hr⟩ := bnd_cases hr
  refine WL.join 4 (fun (_ : Unit) => [(0, .slice a1 x0.length c1), (4, .pointer (some ⟨b6, 0, none⟩)), (5, .pointer (some ⟨b7, 0, none⟩)), (30, .bool y9)]) (fun (_ : Unit) w => St w0 h w (var b7 (cGTold x2 a5 c5) 35 :: var b6 (cGFrame x1 a2 c2 a3 c3 a4 c4) 33 :: L)) ?_ (fun hk_y9 => ?_)
  {
  rintro _ w H
  refine WL.sg 1 kr ?_
  obtain ⟨y11, hy11, hr⟩ := bnd_cases hr
  refine WL.join 5 (fun (_ : Unit) => [(0, .slice a1 x0.length c1), (4, .pointer (some ⟨b6, 0, none⟩)), (5, .pointer (some ⟨b7, 0, none⟩)), (36, .bool y11)]) (fun (_ : Unit) w => St w0 h w (var b7 (cGTold x2 a5 c5) 35 :: var b6 (cGFrame x1 a2 c2 a3 c3 a4 c4) 33 :: L)) ?_ (fun hk_y11 => ?_)
  {
  rintro _ w H
  refine WL.fin 0 kr kr ?_
  rcases ite_cases hr with ⟨t12, hr⟩ | ⟨t12, hr⟩
  {
  refine WE.yes kr (b := y11) kr t12 ?_
  refine WE.seq ?_
  refine WE.region ?_
  obtain ⟨y13, q13, hr⟩ := bind_cases hr
  refine WL.does kr kr (Does.call (c_law09_fixed K H q13) kr ?_)
  rintro _ w ⟨rfl, H⟩
  refine WL.fin 1 kr kr ?_
  obtain rfl := Option.some.inj hr
  exact WE.ret ⟨[.bool y13], ⟨⟨kr, kr⟩, trivial⟩, ⟨rfl, (H.keep 2)⟩⟩
  }
  {
  refine WE.no kr (b := y11) kr t12 ?_
  refine WE.skip ?_
  refine WE.seq ?_
  refine WE.region ?_
  refine WL.sg 1 kr ?_
  refine WL.does kr kr (Does.loadV H 1 rfl 0 kr kr ?_)
  obtain ⟨y14, q14, hr⟩ := bind_cases hr
  refine WL.does kr kr (Does.call (c_frame_Do K x0 f1 x1 f2 f3 f4 H q14) kr ?_)
  rintro _ w ⟨h14, a15, c15, a16, c16, a17, c17, a18, c18, rfl, le14, f15, f16, f17, f18, H⟩
  refine WL.sg 3 kr ?_
  refine WL.does kr kr (Does.alloc H (cGFrame (⟨0, 0, [], [], [], 0, 0, 0, 0, 0, (⟨0, (⟨0, 0⟩ : GValue)⟩ : GOut), (⟨0, 0⟩ : GRef), 0⟩ : GFrame) none 0 none 0 none 0) kr fun b19 w H => ?_)
  refine WL.does kr kr (Does.alloc H (cGAct (⟨0, 0, 0, 0, []⟩ : GAct) none 0) kr fun b20 w H => ?_)
  refine WL.does kr kr (Does.storeE H 1 (cGFrame y14.1 a15 c15 a16 c16 a17 c17) rfl (q := 0) kr kr kr fun w H => ?_)
  refine WL.does kr kr (Does.storeE H 0 (cGAct y14.2 a18 c18) rfl (q := 0) kr kr kr fun w H => ?_)
  refine WL.fin 0 kr kr ?_
  refine WE.seq ?_
  refine WE.region ?_
  refine WL.sg 1 kr ?_
  refine WL.does kr kr (Does.loadV H 3 rfl 0 kr kr ?_)
  obtain ⟨y21, q21, hr⟩ := bind_cases hr
  refine WL.does kr kr (Does.call (c_r09_Do K x0 (f1.up le14) x1 (f2.up le14) (f3.up le14) (f4.up le14) H q21) kr ?_)
  rintro _ w ⟨h21, a22, c22, a23, c23, a24, c24, a25, c25, rfl, le21, f22, f23, f24, f25, H⟩
  refine WL.sg 3 kr ?_
  refine WL.does kr kr (Does.alloc H (cGFrame (⟨0, 0, [], [], [], 0, 0, 0, 0, 0, (⟨0, (⟨0, 0⟩ : GValue)⟩ : GOut), (⟨0, 0⟩ : GRef), 0⟩ : GFrame) none 0 none 0 none 0) kr fun b26 w H => ?_)
  refine WL.does kr kr (Does.alloc H (cGAct (⟨0, 0, 0, 0, []⟩ : GAct) none 0) kr fun b27 w H => ?_)
  refine WL.does kr kr (Does.storeE H 1 (cGFrame y21.1 a22 c22 a23 c23 a24 c24) rfl (q := 0) kr kr kr fun w H => ?_)
  refine WL.does kr kr (Does.storeE H 0 (cGAct y21.2 a25 c25) rfl (q := 0) kr kr kr fun w H => ?_)
  refine WL.fin 0 kr kr ?_
  refine WE.seq ?_
  refine WE.region ?_
  refine WL.does kr kr (Does.loadV H 5 rfl 0 kr kr ?_)
  refine WL.sg 1 kr ?_
  refine WL.does kr kr (Does.loadV H 4 rfl 0 kr kr ?_)
  refine WL.sg 1 kr ?_
  refine WL.does kr kr (Does.loadV H 4 rfl 1 kr kr ?_)
  obtain ⟨y28, q28, hr⟩ := bind_cases hr
  refine WL.does kr kr (Does.call (c_frame_Give x1 ((f2.up le14).up le21) ((f3.up le14).up le21) ((f4.up le14).up le21) x2.Slot x2.Out H q28) kr ?_)
  rintro _ w ⟨h28, a29, c29, a30, c30, a31, c31, rfl, le28, f29, f30, f31, H⟩
  refine WL.sg 3 kr ?_
  refine WL.does kr kr (Does.alloc H (cGFrame (⟨0, 0, [], [], [], 0, 0, 0, 0, 0, (⟨0, (⟨0, 0⟩ : GValue)⟩ : GOut), (⟨0, 0⟩ : GRef), 0⟩ : GFrame) none 0 none 0 none 0) kr fun b32 w H => ?_)
  refine WL.does kr kr (Does.storeE H 0 (cGFrame y28.1 a29 c29 a30 c30 a31 c31) rfl (q := 0) kr kr kr fun w H => ?_)
  refine WL.fin 1 kr kr ?_
  refine WE.seq ?_
  refine WE.region ?_
  refine WL.does kr kr (Does.loadV H 6 rfl 0 kr kr ?_)
  refine WL.sg 1 kr ?_
  refine WL.does kr kr (Does.loadV H 5 rfl 0 kr kr ?_)
  refine WL.sg 1 kr ?_
  refine WL.does kr kr (Does.loadV H 5 rfl 1 kr kr ?_)
  obtain ⟨y33, q33, hr⟩ := bind_cases hr
  refine WL.does kr kr (Does.call (c_r09_Give x1 (((f2.up le14).up le21).up le28) (((f3.up le14).up le21).up le28) (((f4.up le14).up le21).up le28) x2.Slot x2.Out H q33) kr ?_)
  rintro _ w ⟨h33, a34, c34, a35, c35, a36, c36, rfl, le33, f34, f35, f36, H⟩
  refine WL.sg 3 kr ?_
  refine WL.does kr kr (Does.alloc H (cGFrame (⟨0, 0, [], [], [], 0, 0, 0, 0, 0, (⟨0, (⟨0, 0⟩ : GValue)⟩ : GOut), (⟨0, 0⟩ : GRef), 0⟩ : GFrame) none 0 none 0 none 0) kr fun b37 w H => ?_)
  refine WL.does kr kr (Does.storeE H 0 (cGFrame y33.1 a34 c34 a35 c35 a36 c36) rfl (q := 0) kr kr kr fun w H => ?_)
  refine WL.fin 1 kr kr ?_
  refine WE.seq ?_
  refine WE.region ?_
  refine WL.does kr kr (Does.loadV H 7 rfl 0 kr kr ?_)
  obtain ⟨y38, q38, hr⟩ := bind_cases hr
  refine WL.does kr kr (Does.call (c_frame_Final K x1 ((((f2.up le14).up le21).up le28).up le33) ((((f3.up le14).up le21).up le28).up le33) ((((f4.up le14).up le21).up le28).up le33) H q38) kr ?_)
  rintro _ w ⟨rfl, H⟩
  refine WL.sg 3 kr ?_
  refine WL.does kr kr (Does.alloc H [.int .i64 0, .int .i64 0, .int .i64 0] kr fun b39 w H => ?_)
  refine WL.does kr kr (Does.storeE H 0 [.int .i64 y38.1.Trap, .int .i64 y38.1.V.Re, .int .i64 y38.1.V.Im] rfl (q := 0) kr kr kr fun w H => ?_)
  refine WL.fin 1 kr kr ?_
  refine WE.seq ?_
  refine WE.region ?_
  refine WL.does kr kr (Does.loadV H 8 rfl 0 kr kr ?_)
  obtain ⟨y40, q40, hr⟩ := bind_cases hr
  refine WL.does kr kr (Does.call (c_r09_Final K x1 ((((f2.up le14).up le21).up le28).up le33) ((((f3.up le14).up le21).up le28).up le33) ((((f4.up le14).up le21).up le28).up le33) H q40) kr ?_)
  rintro _ w ⟨rfl, H⟩
  refine WL.sg 3 kr ?_
  refine WL.does kr kr (Does.alloc H [.int .i64 0, .int .i64 0, .int .i64 0] kr fun b41 w H => ?_)
  refine WL.does kr kr (Does.storeE H 0 [.int .i64 y40.1.Trap, .int .i64 y40.1.V.Re, .int .i64 y40.1.V.Im] rfl (q := 0) kr kr kr fun w H => ?_)
  refine WL.fin 1 kr kr ?_
  refine WE.seq ?_
  refine WE.region ?_
  refine WL.sg 2 kr ?_
  refine WL.does kr kr (Does.loadV H 8 rfl 4 kr kr ?_)
  refine WL.sg 1 kr ?_
  refine WL.does kr kr (Does.loadV H 8 rfl 5 kr kr ?_)
  refine WL.sg 1 kr ?_
  refine WL.does kr kr (Does.loadV H 8 rfl 6 kr kr ?_)
  obtain ⟨y42, q42, hr⟩ := bind_cases hr
  refine WL.does kr kr (Does.call (c_frame_New K x0 ((((f1.up le14).up le21).up le28).up le33) x2.Fn x2.Args ((((f5.up le14).up le21).up le28).up le33) x2.Seed H q42) kr ?_)
  rintro _ w ⟨h42, a43, c43, a44, c44, a45, c45, rfl, le42, f43, H⟩
  refine WL.sg 3 kr ?_
  refine WL.does kr kr (Does.alloc H (cGFrame (⟨0, 0, [], [], [], 0, 0, 0, 0, 0, (⟨0, (⟨0, 0⟩ : GValue)⟩ : GOut), (⟨0, 0⟩ : GRef), 0⟩ : GFrame) none 0 none 0 none 0) kr fun b48 w H => ?_)
  refine WL.does kr kr (Does.storeE H 0 (cGFrame y42.1 a43 c43 a44 c44 a45 c45) rfl (q := 0) kr kr kr fun w H => ?_)
  refine WL.fin 1 kr kr ?_
  refine WE.seq ?_
  refine WE.region ?_
  refine WL.sg 2 kr ?_
  refine WL.does kr kr (Does.loadV H 11 rfl 4 kr kr ?_)
  refine WL.sg 1 kr ?_
  refine WL.does kr kr (Does.loadV H 11 rfl 5 kr kr ?_)
  refine WL.sg 1 kr ?_
  refine WL.does kr kr (Does.loadV H 11 rfl 6 kr kr ?_)
  obtain ⟨y49, q49, hr⟩ := bind_cases hr
  refine WL.does kr kr (Does.call (c_r09_New K x0 (((((f1.up le14).up le21).up le28).up le33).up le42) x2.Fn x2.Args (((((f5.up le14).up le21).up le28).up le33).up le42) x2.Seed H q49) kr ?_)
  rintro _ w ⟨h49, a50, c50, a51, c51, a52, c52, rfl, le49, f50, H⟩
  refine WL.sg 3 kr ?_
  refine WL.does kr kr (Does.alloc H (cGFrame (⟨0, 0, [], [], [], 0, 0, 0, 0, 0, (⟨0, (⟨0, 0⟩ : GValue)⟩ : GOut), (⟨0, 0⟩ : GRef), 0⟩ : GFrame) none 0 none 0 none 0) kr fun b55 w H => ?_)
  refine WL.does kr kr (Does.storeE H 0 (cGFrame y49.1 a50 c50 a51 c51 a52 c52) rfl (q := 0) kr kr kr fun w H => ?_)
  refine WL.fin 1 kr kr ?_
  refine WE.seq ?_
  refine WE.draws mo [4, 7, 8, 9, 10, 11, 12, 13, 14, 15, 16, 17, 18, 19, 20, 21, 22] (ρ' := [(4, .pointer (some ⟨b6, 0, none⟩)), (7, .pointer (some ⟨b19, 0, none⟩)), (8, .pointer (some ⟨b20, 0, none⟩)), (9, .pointer (some ⟨b26, 0, none⟩)), (10, .pointer (some ⟨b27, 0, none⟩)), (11, .pointer (some ⟨b32, 0, none⟩)), (12, .bool y28.2), (13, .pointer (some ⟨b37, 0, none⟩)), (14, .bool y33.2), (15, .pointer (some ⟨b39, 0, none⟩)), (16, .bool y38.2), (17, .pointer (some ⟨b41, 0, none⟩)), (18, .bool y40.2), (19, .pointer (some ⟨b48, 0, none⟩)), (20, .bool y42.2), (21, .pointer (some ⟨b55, 0, none⟩)), (22, .bool y49.2)]) kr fun w e1 e2 e3 e4 => ?_
  have H := H.same e1 e2 e3 e4
  clear e1 e2 e3 e4
  obtain ⟨y56, q56, hr⟩ := bind_cases hr
  refine WD.does 0 kr rfl (Floats.of [] [] kr .nil .nil) kr kr (Does.call (c_law09_fixed K H q56) kr ?_)
  rintro _ w ⟨rfl, H⟩
  refine WD.know [1] kr ?_
  rcases ite_cases hr with ⟨t57, hr⟩ | ⟨t57, hr⟩
  {
  refine WD.known 101 t57 kr kr ?_
  refine WD.told 2 102 (.agg (cGFrame y14.1 a15 c15 a16 c16 a17 c17).toArray) kr kr ?_
  refine WD.told 3 103 (.agg (cGFrame y21.1 a22 c22 a23 c23 a24 c24).toArray) kr kr ?_
  obtain ⟨y58, q58, hr⟩ := bind_cases hr
  refine WD.does 4 kr rfl (Floats.of [] [3, 2, 1] kr .nil (.cons (.tells rfl kr rfl (.loadV H 11 rfl 0 kr kr)) (.cons (.tells rfl kr rfl (.loadV H 13 rfl 0 kr kr)) (.cons (.tells rfl kr kr (.calmB t57 kr)) .nil)))) kr kr (Does.call (c_r09_Same K y14.1 (((((f15.up le21).up le28).up le33).up le42).up le49) (((((f16.up le21).up le28).up le33).up le42).up le49) (((((f17.up le21).up le28).up le33).up le42).up le49) y21.1 ((((f22.up le28).up le33).up le42).up le49) ((((f23.up le28).up le33).up le42).up le49) ((((f24.up le28).up le33).up le42).up le49) H q58) kr ?_)
  rintro _ w ⟨rfl, H⟩
  refine WD.know [5] kr ?_
  refine WD.know [6] kr ?_
  rcases ite_cases hr with ⟨t59, hr⟩ | ⟨t59, hr⟩
  {
  refine WD.known 106 t59 kr kr ?_
  refine WD.told 7 107 (.agg (cGAct y14.2 a18 c18).toArray) kr kr ?_
  refine WD.told 8 108 (.agg (cGAct y21.2 a25 c25).toArray) kr kr ?_
  obtain ⟨y60, q60, hr⟩ := bind_cases hr
  refine WD.does 9 kr rfl (Floats.of [5] [8, 7, 6] kr (Floats.pure _ kr kr) (.cons (.tells rfl kr rfl (.loadV H 10 rfl 0 kr kr)) (.cons (.tells rfl kr rfl (.loadV H 12 rfl 0 kr kr)) (.cons (.tells rfl kr kr (.calmB t59 kr)) .nil)))) kr kr (Does.call (c_r09_SameAct K y14.2 (((((f18.up le21).up le28).up le33).up le42).up le49) y21.2 ((((f25.up le28).up le33).up le42).up le49) H q60) kr ?_)
  rintro _ w ⟨rfl, H⟩
  refine WD.know [10] kr ?_
  refine WD.know [11] kr ?_
  rcases ite_cases hr with ⟨t61, hr⟩ | ⟨t61, hr⟩
  {
  refine WD.known 111 t61 kr kr ?_
  refine WD.told 12 112 (.agg (cGFrame y28.1 a29 c29 a30 c30 a31 c31).toArray) kr kr ?_
  refine WD.told 13 113 (.agg (cGFrame y33.1 a34 c34 a35 c35 a36 c36).toArray) kr kr ?_
  obtain ⟨y62, q62, hr⟩ := bind_cases hr
  refine WD.does 14 kr rfl (Floats.of [10, 5] [13, 12, 11] kr (Floats.pure _ kr kr) (.cons (.tells rfl kr rfl (.loadV H 8 rfl 0 kr kr)) (.cons (.tells rfl kr rfl (.loadV H 9 rfl 0 kr kr)) (.cons (.tells rfl kr kr (.calmB t61 kr)) .nil)))) kr kr (Does.call (c_r09_Same K y28.1 (((f29.up le33).up le42).up le49) (((f30.up le33).up le42).up le49) (((f31.up le33).up le42).up le49) y33.1 ((f34.up le42).up le49) ((f35.up le42).up le49) ((f36.up le42).up le49) H q62) kr ?_)
  rintro _ w ⟨rfl, H⟩
  refine WD.know [15] kr ?_
  refine WD.know [16] kr ?_
  rcases ite_cases hr with ⟨t63, hr⟩ | ⟨t63, hr⟩
  {
  refine WD.known 116 t63 kr kr ?_
  refine WD.know [17] kr ?_
  refine WD.know [18] kr ?_
  refine WD.know [19] kr ?_
  refine WD.know [20] kr ?_
  refine WD.know [21] kr ?_
  rcases ite_cases hr with ⟨t64, hr⟩ | ⟨t64, hr⟩
  {
  refine WD.known 121 t64 kr kr ?_
  refine WD.told 22 122 (.agg #[.int .i64 y38.1.Trap, .int .i64 y38.1.V.Re, .int .i64 y38.1.V.Im]) kr kr ?_
  refine WD.told 23 123 (.agg #[.int .i64 y40.1.Trap, .int .i64 y40.1.V.Re, .int .i64 y40.1.V.Im]) kr kr ?_
  refine WD.told 24 124 (.bool ((y38.1.Trap == y40.1.Trap) && (((y38.1.V.Re == y40.1.V.Re) && ((y38.1.V.Im == y40.1.V.Im) && true)) && true))) kr kr ?_
  refine WD.know [25] kr ?_
  refine WD.know [26] kr ?_
  rcases ite_cases hr with ⟨t65, hr⟩ | ⟨t65, hr⟩
  {
  refine WD.known 126 t65 kr kr ?_
  refine WD.know [27] kr ?_
  refine WD.know [28] kr ?_
  refine WD.know [29] kr ?_
  refine WD.know [30] kr ?_
  refine WD.know [31] kr ?_
  rcases ite_cases hr with ⟨t66, hr⟩ | ⟨t66, hr⟩
  {
  refine WD.known 131 t66 kr kr ?_
  refine WD.told 32 132 (.agg (cGFrame y42.1 a43 c43 a44 c44 a45 c45).toArray) kr kr ?_
  refine WD.told 33 133 (.agg (cGFrame y49.1 a50 c50 a51 c51 a52 c52).toArray) kr kr ?_
  obtain ⟨y71, q71, hr⟩ := bind_cases hr
  refine WD.does 34 kr rfl (Floats.of [30, 29, 28, 27, 25, 20, 19, 18, 17, 15, 10, 5] [33, 32, 31, 26, 24, 23, 22, 21, 16] kr (Floats.pure _ kr kr) (.cons (.tells rfl kr rfl (.loadV H 0 rfl 0 kr kr)) (.cons (.tells rfl kr rfl (.loadV H 3 rfl 0 kr kr)) (.cons (.tells rfl kr kr (.calmB t66 kr)) (.cons (.tells rfl kr kr (.calmB t65 kr)) (.cons (.tells rfl kr kr (.eql ((y38.1.Trap == y40.1.Trap) && (((y38.1.V.Re == y40.1.V.Re) && ((y38.1.V.Im == y40.1.V.Im) && true)) && true)) kr kr kr)) (.cons (.tells rfl kr rfl (.loadV H 6 rfl 0 kr kr)) (.cons (.tells rfl kr rfl (.loadV H 7 rfl 0 kr kr)) (.cons (.tells rfl kr kr (.calmB t64 kr)) (.cons (.tells rfl kr kr (.calmB t63 kr)) .nil)))))))))) kr kr ?_
  have H := ((((((((((((((((H.front 15 rfl).front 15 rfl).front 15 rfl).front 15 rfl).front 15 rfl).front 15 rfl).front 15 rfl).front 15 rfl).front 15 rfl).front 15 rfl).front 13 rfl).front 11 rfl).front 13 rfl).front 13 rfl).front 15 rfl).front 15 rfl)
  obtain ⟨h67, le67, f67, H, bk67⟩ := (H).rowLendX le49
  obtain ⟨h68, le68, f68, H, bk68⟩ := (H).rowLendX (le49.trans le67)
  obtain ⟨h69, le69, f69, H, bk69⟩ := (H).rowLendX (le67.trans le68)
  obtain ⟨h70, le70, f70, H, bk70⟩ := (H).rowLendX ((le67.trans le68).trans le69)
  refine Does.call (c_r09_Same K y42.1 (((((f43.up le49).up le67).up le68).up le69).up le70) (((f67.up le68).up le69).up le70) ((f68.up le69).up le70) y49.1 ((((f50.up le67).up le68).up le69).up le70) (f69.up le70) f70 H q71) kr ?_
  rintro _ w ⟨rfl, H⟩
  have H := bk70 _ H
  have H := bk69 _ H
  have H := bk68 _ H
  have H := bk67 _ H
  refine WD.know [35] kr ?_
  refine WD.know [36] kr ?_
  rcases ite_cases hr with ⟨t72, hr⟩ | ⟨t72, hr⟩
  {
  refine WD.known 136 t72 kr kr ?_
  refine WD.know [37] kr ?_
  refine WD.know [38] kr ?_
  refine WD.know [39] kr ?_
  refine WD.know [40] kr ?_
  refine WD.know [41] kr ?_
  rcases ite_cases hr with ⟨t73, hr⟩ | ⟨t73, hr⟩
  {
  refine WD.known 141 t73 kr kr ?_
  refine WD.told 42 142 (.agg (cGFrame x1 a2 c2 a3 c3 a4 c4).toArray) kr kr ?_
  refine WD.told 43 143 (.agg (cGFrame y14.1 a15 c15 a16 c16 a17 c17).toArray) kr kr ?_
  refine WD.told 45 145 (.agg (cGFrame x1 a2 c2 a3 c3 a4 c4).toArray) kr kr ?_
  refine WD.told 46 146 (.agg (cGFrame y14.1 a15 c15 a16 c16 a17 c17).toArray) kr kr ?_
  obtain ⟨y74, q74, hr⟩ := bind_cases hr
  refine WD.does 44 kr rfl (Floats.of [40, 39, 38, 37, 35, 30, 29, 28, 27, 25, 20, 19, 18, 17, 15, 10, 5] [46, 45, 43, 42, 41, 36, 26, 24, 23, 22, 21, 16] kr (Floats.pure _ kr kr) (.cons (.tells rfl kr rfl (.loadV H 13 rfl 0 kr kr)) (.cons (.tells rfl kr rfl (.loadV H 15 rfl 0 kr kr)) (.cons (.tells rfl kr rfl (.loadV H 13 rfl 0 kr kr)) (.cons (.tells rfl kr rfl (.loadV H 15 rfl 0 kr kr)) (.cons (.tells rfl kr kr (.calmB t73 kr)) (.cons (.tells rfl kr kr (.calmB t72 kr)) (.cons (.tells rfl kr kr (.calmB t65 kr)) (.cons (.tells rfl kr kr (.eql ((y38.1.Trap == y40.1.Trap) && (((y38.1.V.Re == y40.1.V.Re) && ((y38.1.V.Im == y40.1.V.Im) && true)) && true)) kr kr kr)) (.cons (.tells rfl kr rfl (.loadV H 6 rfl 0 kr kr)) (.cons (.tells rfl kr rfl (.loadV H 7 rfl 0 kr kr)) (.cons (.tells rfl kr kr (.calmB t64 kr)) (.cons (.tells rfl kr kr (.calmB t63 kr)) .nil))))))))))))) kr kr (Does.call (c_frame_Same K x1 ((((((f2.up le14).up le21).up le28).up le33).up le42).up le49) ((((((f3.up le14).up le21).up le28).up le33).up le42).up le49) ((((((f4.up le14).up le21).up le28).up le33).up le42).up le49) y14.1 (((((f15.up le21).up le28).up le33).up le42).up le49) (((((f16.up le21).up le28).up le33).up le42).up le49) (((((f17.up le21).up le28).up le33).up le42).up le49) H q74) kr ?_)
  rintro _ w ⟨rfl, H⟩
  obtain ⟨y75, q75, hr⟩ := bind_cases hr
  refine WD.does 47 kr rfl (Floats.of [40, 39, 38, 37, 35, 30, 29, 28, 27, 25, 20, 19, 18, 17, 15, 10, 5] [46, 45, 36, 26, 24, 23, 22, 21, 16] kr (Floats.pure _ kr kr) (.cons (.tells rfl kr rfl (.loadV H 13 rfl 0 kr kr)) (.cons (.tells rfl kr rfl (.loadV H 15 rfl 0 kr kr)) (.cons (.tells rfl kr kr (.calmB t72 kr)) (.cons (.tells rfl kr kr (.calmB t65 kr)) (.cons (.tells rfl kr kr (.eql ((y38.1.Trap == y40.1.Trap) && (((y38.1.V.Re == y40.1.V.Re) && ((y38.1.V.Im == y40.1.V.Im) && true)) && true)) kr kr kr)) (.cons (.tells rfl kr rfl (.loadV H 6 rfl 0 kr kr)) (.cons (.tells rfl kr rfl (.loadV H 7 rfl 0 kr kr)) (.cons (.tells rfl kr kr (.calmB t64 kr)) (.cons (.tells rfl kr kr (.calmB t63 kr)) .nil)))))))))) kr kr (Does.call (c_r09_Same K x1 ((((((f2.up le14).up le21).up le28).up le33).up le42).up le49) ((((((f3.up le14).up le21).up le28).up le33).up le42).up le49) ((((((f4.up le14).up le21).up le28).up le33).up le42).up le49) y14.1 (((((f15.up le21).up le28).up le33).up le42).up le49) (((((f16.up le21).up le28).up le33).up le42).up le49) (((((f17.up le21).up le28).up le33).up le42).up le49) H q75) kr ?_)
  rintro _ w ⟨rfl, H⟩
  refine WD.know [48] kr ?_
  refine WD.know [49] kr ?_
  refine WD.know [50] kr ?_
  rcases ite_cases hr with ⟨t76, hr⟩ | ⟨t76, hr⟩
  {
  refine WD.known 150 t76 kr kr ?_
  refine WD.told 51 151 (.agg (cGFrame x1 a2 c2 a3 c3 a4 c4).toArray) kr kr ?_
  refine WD.told 52 152 (.agg (cGFrame x1 a2 c2 a3 c3 a4 c4).toArray) kr kr ?_
  obtain ⟨y77, q77, hr⟩ := bind_cases hr
  refine WD.does 53 kr rfl (Floats.of [49, 48, 40, 39, 38, 37, 35, 30, 29, 28, 27, 25, 20, 19, 18, 17, 15, 10, 5] [52, 51, 50, 36, 26, 24, 23, 22, 21, 16] kr (Floats.pure _ kr kr) (.cons (.tells rfl kr rfl (.loadV H 15 rfl 0 kr kr)) (.cons (.tells rfl kr rfl (.loadV H 15 rfl 0 kr kr)) (.cons (.tells rfl kr kr (.calmB t76 kr)) (.cons (.tells rfl kr kr (.calmB t72 kr)) (.cons (.tells rfl kr kr (.calmB t65 kr)) (.cons (.tells rfl kr kr (.eql ((y38.1.Trap == y40.1.Trap) && (((y38.1.V.Re == y40.1.V.Re) && ((y38.1.V.Im == y40.1.V.Im) && true)) && true)) kr kr kr)) (.cons (.tells rfl kr rfl (.loadV H 6 rfl 0 kr kr)) (.cons (.tells rfl kr rfl (.loadV H 7 rfl 0 kr kr)) (.cons (.tells rfl kr kr (.calmB t64 kr)) (.cons (.tells rfl kr kr (.calmB t63 kr)) .nil))))))))))) kr kr (Does.call (c_frame_Same K x1 ((((((f2.up le14).up le21).up le28).up le33).up le42).up le49) ((((((f3.up le14).up le21).up le28).up le33).up le42).up le49) ((((((f4.up le14).up le21).up le28).up le33).up le42).up le49) x1 ((((((f2.up le14).up le21).up le28).up le33).up le42).up le49) ((((((f3.up le14).up le21).up le28).up le33).up le42).up le49) ((((((f4.up le14).up le21).up le28).up le33).up le42).up le49) H q77) kr ?_)
  rintro _ w ⟨rfl, H⟩
  refine WD.know [54] kr ?_
  refine WD.does 55 kr rfl (Floats.of [54, 49, 48, 40, 39, 38, 37, 35, 30, 29, 28, 27, 25, 20, 19, 18, 17, 15, 10, 5] [36, 26, 24, 23, 22, 21, 16] kr (Floats.pure _ kr kr) (.cons (.tells rfl kr kr (.calmB t72 kr)) (.cons (.tells rfl kr kr (.calmB t65 kr)) (.cons (.tells rfl kr kr (.eql ((y38.1.Trap == y40.1.Trap) && (((y38.1.V.Re == y40.1.V.Re) && ((y38.1.V.Im == y40.1.V.Im) && true)) && true)) kr kr kr)) (.cons (.tells rfl kr rfl (.loadV H 6 rfl 0 kr kr)) (.cons (.tells rfl kr rfl (.loadV H 7 rfl 0 kr kr)) (.cons (.tells rfl kr kr (.calmB t64 kr)) (.cons (.tells rfl kr kr (.calmB t63 kr)) .nil)))))))) kr kr (Does.reck kr ?_)
  refine WD.fin kr (Floats.of [] [] kr .nil .nil) kr kr ?_
  obtain rfl := Option.some.inj hr
  exact WE.ret ⟨[.bool y77], ⟨⟨kr, kr⟩, trivial⟩, ⟨rfl, ((H.keep 16).less (((((le14.trans le21).trans le28).trans le33).trans le42).trans le49))⟩⟩
  }
  {
  refine WD.known 150 t76 kr kr ?_
  refine WD.know [51] kr ?_
  refine WD.know [52] kr ?_
  refine WD.skipped 53 kr rfl (Floats.of [52, 51, 49, 48, 40, 39, 38, 37, 35, 30, 29, 28, 27, 25, 20, 19, 18, 17, 15, 10, 5] [50, 36, 26, 24, 23, 22, 21, 16] kr (Floats.pure _ kr kr) (.cons (.tells rfl kr kr (.calmB t76 kr)) (.cons (.tells rfl kr kr (.calmB t72 kr)) (.cons (.tells rfl kr kr (.calmB t65 kr)) (.cons (.tells rfl kr kr (.eql ((y38.1.Trap == y40.1.Trap) && (((y38.1.V.Re == y40.1.V.Re) && ((y38.1.V.Im == y40.1.V.Im) && true)) && true)) kr kr kr)) (.cons (.tells rfl kr rfl (.loadV H 6 rfl 0 kr kr)) (.cons (.tells rfl kr rfl (.loadV H 7 rfl 0 kr kr)) (.cons (.tells rfl kr kr (.calmB t64 kr)) (.cons (.tells rfl kr kr (.calmB t63 kr)) .nil))))))))) kr kr ?_
  refine WD.know [54] kr ?_
  refine WD.does 55 kr rfl (Floats.of [54, 49, 48, 40, 39, 38, 37, 35, 30, 29, 28, 27, 25, 20, 19, 18, 17, 15, 10, 5] [36, 26, 24, 23, 22, 21, 16] kr (Floats.pure _ kr kr) (.cons (.tells rfl kr kr (.calmB t72 kr)) (.cons (.tells rfl kr kr (.calmB t65 kr)) (.cons (.tells rfl kr kr (.eql ((y38.1.Trap == y40.1.Trap) && (((y38.1.V.Re == y40.1.V.Re) && ((y38.1.V.Im == y40.1.V.Im) && true)) && true)) kr kr kr)) (.cons (.tells rfl kr rfl (.loadV H 6 rfl 0 kr kr)) (.cons (.tells rfl kr rfl (.loadV H 7 rfl 0 kr kr)) (.cons (.tells rfl kr kr (.calmB t64 kr)) (.cons (.tells rfl kr kr (.calmB t63 kr)) .nil)))))))) kr kr (Does.reck kr ?_)
  refine WD.fin kr (Floats.of [] [] kr .nil .nil) kr kr ?_
  obtain rfl := Option.some.inj hr
  exact WE.ret ⟨[.bool false], ⟨⟨kr, kr⟩, trivial⟩, ⟨rfl, ((H.keep 16).less (((((le14.trans le21).trans le28).trans le33).trans le42).trans le49))⟩⟩
  }
  }
  {
  refine WD.known 141 t73 kr kr ?_
  refine WD.know [42] kr ?_
  refine WD.know [43] kr ?_
  refine WD.know [45] kr ?_
  refine WD.know [46] kr ?_
  refine WD.skipped 44 kr rfl (Floats.of [46, 45, 43, 42, 40, 39, 38, 37, 35, 30, 29, 28, 27, 25, 20, 19, 18, 17, 15, 10, 5] [41, 36, 26, 24, 23, 22, 21, 16] kr (Floats.pure _ kr kr) (.cons (.tells rfl kr kr (.calmB t73 kr)) (.cons (.tells rfl kr kr (.calmB t72 kr)) (.cons (.tells rfl kr kr (.calmB t65 kr)) (.cons (.tells rfl kr kr (.eql ((y38.1.Trap == y40.1.Trap) && (((y38.1.V.Re == y40.1.V.Re) && ((y38.1.V.Im == y40.1.V.Im) && true)) && true)) kr kr kr)) (.cons (.tells rfl kr rfl (.loadV H 6 rfl 0 kr kr)) (.cons (.tells rfl kr rfl (.loadV H 7 rfl 0 kr kr)) (.cons (.tells rfl kr kr (.calmB t64 kr)) (.cons (.tells rfl kr kr (.calmB t63 kr)) .nil))))))))) kr kr ?_
  refine WD.skipped 47 kr rfl (Floats.of [46, 45, 40, 39, 38, 37, 35, 30, 29, 28, 27, 25, 20, 19, 18, 17, 15, 10, 5] [36, 26, 24, 23, 22, 21, 16] kr (Floats.pure _ kr kr) (.cons (.tells rfl kr kr (.calmB t72 kr)) (.cons (.tells rfl kr kr (.calmB t65 kr)) (.cons (.tells rfl kr kr (.eql ((y38.1.Trap == y40.1.Trap) && (((y38.1.V.Re == y40.1.V.Re) && ((y38.1.V.Im == y40.1.V.Im) && true)) && true)) kr kr kr)) (.cons (.tells rfl kr rfl (.loadV H 6 rfl 0 kr kr)) (.cons (.tells rfl kr rfl (.loadV H 7 rfl 0 kr kr)) (.cons (.tells rfl kr kr (.calmB t64 kr)) (.cons (.tells rfl kr kr (.calmB t63 kr)) .nil)))))))) kr kr ?_
  refine WD.know [48] kr ?_
  refine WD.know [49] kr ?_
  refine WD.know [50] kr ?_
  refine WD.know [51] kr ?_
  refine WD.know [52] kr ?_
  refine WD.skipped 53 kr rfl (Floats.of [52, 51, 50, 49, 48, 40, 39, 38, 37, 35, 30, 29, 28, 27, 25, 20, 19, 18, 17, 15, 10, 5] [36, 26, 24, 23, 22, 21, 16] kr (Floats.pure _ kr kr) (.cons (.tells rfl kr kr (.calmB t72 kr)) (.cons (.tells rfl kr kr (.calmB t65 kr)) (.cons (.tells rfl kr kr (.eql ((y38.1.Trap == y40.1.Trap) && (((y38.1.V.Re == y40.1.V.Re) && ((y38.1.V.Im == y40.1.V.Im) && true)) && true)) kr kr kr)) (.cons (.tells rfl kr rfl (.loadV H 6 rfl 0 kr kr)) (.cons (.tells rfl kr rfl (.loadV H 7 rfl 0 kr kr)) (.cons (.tells rfl kr kr (.calmB t64 kr)) (.cons (.tells rfl kr kr (.calmB t63 kr)) .nil)))))))) kr kr ?_
  refine WD.know [54] kr ?_
  refine WD.does 55 kr rfl (Floats.of [54, 49, 48, 40, 39, 38, 37, 35, 30, 29, 28, 27, 25, 20, 19, 18, 17, 15, 10, 5] [36, 26, 24, 23, 22, 21, 16] kr (Floats.pure _ kr kr) (.cons (.tells rfl kr kr (.calmB t72 kr)) (.cons (.tells rfl kr kr (.calmB t65 kr)) (.cons (.tells rfl kr kr (.eql ((y38.1.Trap == y40.1.Trap) && (((y38.1.V.Re == y40.1.V.Re) && ((y38.1.V.Im == y40.1.V.Im) && true)) && true)) kr kr kr)) (.cons (.tells rfl kr rfl (.loadV H 6 rfl 0 kr kr)) (.cons (.tells rfl kr rfl (.loadV H 7 rfl 0 kr kr)) (.cons (.tells rfl kr kr (.calmB t64 kr)) (.cons (.tells rfl kr kr (.calmB t63 kr)) .nil)))))))) kr kr (Does.reck kr ?_)
  refine WD.fin kr (Floats.of [] [] kr .nil .nil) kr kr ?_
  obtain rfl := Option.some.inj hr
  exact WE.ret ⟨[.bool false], ⟨⟨kr, kr⟩, trivial⟩, ⟨rfl, ((H.keep 16).less (((((le14.trans le21).trans le28).trans le33).trans le42).trans le49))⟩⟩
  }
  }
  {
  refine WD.known 136 t72 kr kr ?_
  refine WD.know [37] kr ?_
  refine WD.know [38] kr ?_
  refine WD.know [39] kr ?_
  refine WD.know [40] kr ?_
  refine WD.know [41] kr ?_
  refine WD.know [42] kr ?_
  refine WD.know [43] kr ?_
  refine WD.know [45] kr ?_
  refine WD.know [46] kr ?_
  refine WD.skipped 44 kr rfl (Floats.of [46, 45, 43, 42, 41, 40, 39, 38, 37, 35, 30, 29, 28, 27, 25, 20, 19, 18, 17, 15, 10, 5] [36, 26, 24, 23, 22, 21, 16] kr (Floats.pure _ kr kr) (.cons (.tells rfl kr kr (.calmB t72 kr)) (.cons (.tells rfl kr kr (.calmB t65 kr)) (.cons (.tells rfl kr kr (.eql ((y38.1.Trap == y40.1.Trap) && (((y38.1.V.Re == y40.1.V.Re) && ((y38.1.V.Im == y40.1.V.Im) && true)) && true)) kr kr kr)) (.cons (.tells rfl kr rfl (.loadV H 6 rfl 0 kr kr)) (.cons (.tells rfl kr rfl (.loadV H 7 rfl 0 kr kr)) (.cons (.tells rfl kr kr (.calmB t64 kr)) (.cons (.tells rfl kr kr (.calmB t63 kr)) .nil)))))))) kr kr ?_
  refine WD.skipped 47 kr rfl (Floats.of [46, 45, 40, 39, 38, 37, 35, 30, 29, 28, 27, 25, 20, 19, 18, 17, 15, 10, 5] [36, 26, 24, 23, 22, 21, 16] kr (Floats.pure _ kr kr) (.cons (.tells rfl kr kr (.calmB t72 kr)) (.cons (.tells rfl kr kr (.calmB t65 kr)) (.cons (.tells rfl kr kr (.eql ((y38.1.Trap == y40.1.Trap) && (((y38.1.V.Re == y40.1.V.Re) && ((y38.1.V.Im == y40.1.V.Im) && true)) && true)) kr kr kr)) (.cons (.tells rfl kr rfl (.loadV H 6 rfl 0 kr kr)) (.cons (.tells rfl kr rfl (.loadV H 7 rfl 0 kr kr)) (.cons (.tells rfl kr kr (.calmB t64 kr)) (.cons (.tells rfl kr kr (.calmB t63 kr)) .nil)))))))) kr kr ?_
  refine WD.know [48] kr ?_
  refine WD.know [49] kr ?_
  refine WD.know [50] kr ?_
  refine WD.know [51] kr ?_
  refine WD.know [52] kr ?_
  refine WD.skipped 53 kr rfl (Floats.of [52, 51, 50, 49, 48, 40, 39, 38, 37, 35, 30, 29, 28, 27, 25, 20, 19, 18, 17, 15, 10, 5] [36, 26, 24, 23, 22, 21, 16] kr (Floats.pure _ kr kr) (.cons (.tells rfl kr kr (.calmB t72 kr)) (.cons (.tells rfl kr kr (.calmB t65 kr)) (.cons (.tells rfl kr kr (.eql ((y38.1.Trap == y40.1.Trap) && (((y38.1.V.Re == y40.1.V.Re) && ((y38.1.V.Im == y40.1.V.Im) && true)) && true)) kr kr kr)) (.cons (.tells rfl kr rfl (.loadV H 6 rfl 0 kr kr)) (.cons (.tells rfl kr rfl (.loadV H 7 rfl 0 kr kr)) (.cons (.tells rfl kr kr (.calmB t64 kr)) (.cons (.tells rfl kr kr (.calmB t63 kr)) .nil)))))))) kr kr ?_
  refine WD.know [54] kr ?_
  refine WD.does 55 kr rfl (Floats.of [54, 49, 48, 40, 39, 38, 37, 35, 30, 29, 28, 27, 25, 20, 19, 18, 17, 15, 10, 5] [36, 26, 24, 23, 22, 21, 16] kr (Floats.pure _ kr kr) (.cons (.tells rfl kr kr (.calmB t72 kr)) (.cons (.tells rfl kr kr (.calmB t65 kr)) (.cons (.tells rfl kr kr (.eql ((y38.1.Trap == y40.1.Trap) && (((y38.1.V.Re == y40.1.V.Re) && ((y38.1.V.Im == y40.1.V.Im) && true)) && true)) kr kr kr)) (.cons (.tells rfl kr rfl (.loadV H 6 rfl 0 kr kr)) (.cons (.tells rfl kr rfl (.loadV H 7 rfl 0 kr kr)) (.cons (.tells rfl kr kr (.calmB t64 kr)) (.cons (.tells rfl kr kr (.calmB t63 kr)) .nil)))))))) kr kr (Does.reck kr ?_)
  refine WD.fin kr (Floats.of [] [] kr .nil .nil) kr kr ?_
  obtain rfl := Option.some.inj hr
  exact WE.ret ⟨[.bool false], ⟨⟨kr, kr⟩, trivial⟩, ⟨rfl, ((H.keep 16).less (((((le14.trans le21).trans le28).trans le33).trans le42).trans le49))⟩⟩
  }
  }
  {
  refine WD.known 131 t66 kr kr ?_
  refine WD.know [32] kr ?_
  refine WD.know [33] kr ?_
  refine WD.skipped 34 kr rfl (Floats.of [33, 32, 30, 29, 28, 27, 25, 20, 19, 18, 17, 15, 10, 5] [31, 26, 24, 23, 22, 21, 16] kr (Floats.pure _ kr kr) (.cons (.tells rfl kr kr (.calmB t66 kr)) (.cons (.tells rfl kr kr (.calmB t65 kr)) (.cons (.tells rfl kr kr (.eql ((y38.1.Trap == y40.1.Trap) && (((y38.1.V.Re == y40.1.V.Re) && ((y38.1.V.Im == y40.1.V.Im) && true)) && true)) kr kr kr)) (.cons (.tells rfl kr rfl (.loadV H 6 rfl 0 kr kr)) (.cons (.tells rfl kr rfl (.loadV H 7 rfl 0 kr kr)) (.cons (.tells rfl kr kr (.calmB t64 kr)) (.cons (.tells rfl kr kr (.calmB t63 kr)) .nil)))))))) kr kr ?_
  refine WD.know [35] kr ?_
  refine WD.know [36] kr ?_
  refine WD.know [37] kr ?_
  refine WD.know [38] kr ?_
  refine WD.know [39] kr ?_
  refine WD.know [40] kr ?_
  refine WD.know [41] kr ?_
  refine WD.know [42] kr ?_
  refine WD.know [43] kr ?_
  refine WD.know [45] kr ?_
  refine WD.know [46] kr ?_
  refine WD.skipped 44 kr rfl (Floats.of [46, 45, 43, 42, 41, 40, 39, 38, 37, 36, 35, 30, 29, 28, 27, 25, 20, 19, 18, 17, 15, 10, 5] [26, 24, 23, 22, 21, 16] kr (Floats.pure _ kr kr) (.cons (.tells rfl kr kr (.calmB t65 kr)) (.cons (.tells rfl kr kr (.eql ((y38.1.Trap == y40.1.Trap) && (((y38.1.V.Re == y40.1.V.Re) && ((y38.1.V.Im == y40.1.V.Im) && true)) && true)) kr kr kr)) (.cons (.tells rfl kr rfl (.loadV H 6 rfl 0 kr kr)) (.cons (.tells rfl kr rfl (.loadV H 7 rfl 0 kr kr)) (.cons (.tells rfl kr kr (.calmB t64 kr)) (.cons (.tells rfl kr kr (.calmB t63 kr)) .nil))))))) kr kr ?_
  refine WD.skipped 47 kr rfl (Floats.of [46, 45, 40, 39, 38, 37, 36, 35, 30, 29, 28, 27, 25, 20, 19, 18, 17, 15, 10, 5] [26, 24, 23, 22, 21, 16] kr (Floats.pure _ kr kr) (.cons (.tells rfl kr kr (.calmB t65 kr)) (.cons (.tells rfl kr kr (.eql ((y38.1.Trap == y40.1.Trap) && (((y38.1.V.Re == y40.1.V.Re) && ((y38.1.V.Im == y40.1.V.Im) && true)) && true)) kr kr kr)) (.cons (.tells rfl kr rfl (.loadV H 6 rfl 0 kr kr)) (.cons (.tells rfl kr rfl (.loadV H 7 rfl 0 kr kr)) (.cons (.tells rfl kr kr (.calmB t64 kr)) (.cons (.tells rfl kr kr (.calmB t63 kr)) .nil))))))) kr kr ?_
  refine WD.know [48] kr ?_
  refine WD.know [49] kr ?_
  refine WD.know [50] kr ?_
  refine WD.know [51] kr ?_
  refine WD.know [52] kr ?_
  refine WD.skipped 53 kr rfl (Floats.of [52, 51, 50, 49, 48, 40, 39, 38, 37, 36, 35, 30, 29, 28, 27, 25, 20, 19, 18, 17, 15, 10, 5] [26, 24, 23, 22, 21, 16] kr (Floats.pure _ kr kr) (.cons (.tells rfl kr kr (.calmB t65 kr)) (.cons (.tells rfl kr kr (.eql ((y38.1.Trap == y40.1.Trap) && (((y38.1.V.Re == y40.1.V.Re) && ((y38.1.V.Im == y40.1.V.Im) && true)) && true)) kr kr kr)) (.cons (.tells rfl kr rfl (.loadV H 6 rfl 0 kr kr)) (.cons (.tells rfl kr rfl (.loadV H 7 rfl 0 kr kr)) (.cons (.tells rfl kr kr (.calmB t64 kr)) (.cons (.tells rfl kr kr (.calmB t63 kr)) .nil))))))) kr kr ?_
  refine WD.know [54] kr ?_
  refine WD.does 55 kr rfl (Floats.of [54, 49, 48, 40, 39, 38, 37, 36, 35, 30, 29, 28, 27, 25, 20, 19, 18, 17, 15, 10, 5] [26, 24, 23, 22, 21, 16] kr (Floats.pure _ kr kr) (.cons (.tells rfl kr kr (.calmB t65 kr)) (.cons (.tells rfl kr kr (.eql ((y38.1.Trap == y40.1.Trap) && (((y38.1.V.Re == y40.1.V.Re) && ((y38.1.V.Im == y40.1.V.Im) && true)) && true)) kr kr kr)) (.cons (.tells rfl kr rfl (.loadV H 6 rfl 0 kr kr)) (.cons (.tells rfl kr rfl (.loadV H 7 rfl 0 kr kr)) (.cons (.tells rfl kr kr (.calmB t64 kr)) (.cons (.tells rfl kr kr (.calmB t63 kr)) .nil))))))) kr kr (Does.reck kr ?_)
  refine WD.fin kr (Floats.of [] [] kr .nil .nil) kr kr ?_
  obtain rfl := Option.some.inj hr
  exact WE.ret ⟨[.bool false], ⟨⟨kr, kr⟩, trivial⟩, ⟨rfl, ((H.keep 16).less (((((le14.trans le21).trans le28).trans le33).trans le42).trans le49))⟩⟩
  }
  }
  {
  refine WD.known 126 t65 kr kr ?_
  refine WD.know [27] kr ?_
  refine WD.know [28] kr ?_
  refine WD.know [29] kr ?_
  refine WD.know [30] kr ?_
  refine WD.know [31] kr ?_
  refine WD.know [32] kr ?_
  refine WD.know [33] kr ?_
  refine WD.skipped 34 kr rfl (Floats.of [33, 32, 31, 30, 29, 28, 27, 25, 20, 19, 18, 17, 15, 10, 5] [26, 24, 23, 22, 21, 16] kr (Floats.pure _ kr kr) (.cons (.tells rfl kr kr (.calmB t65 kr)) (.cons (.tells rfl kr kr (.eql ((y38.1.Trap == y40.1.Trap) && (((y38.1.V.Re == y40.1.V.Re) && ((y38.1.V.Im == y40.1.V.Im) && true)) && true)) kr kr kr)) (.cons (.tells rfl kr rfl (.loadV H 6 rfl 0 kr kr)) (.cons (.tells rfl kr rfl (.loadV H 7 rfl 0 kr kr)) (.cons (.tells rfl kr kr (.calmB t64 kr)) (.cons (.tells rfl kr kr (.calmB t63 kr)) .nil))))))) kr kr ?_
  refine WD.know [35] kr ?_
  refine WD.know [36] kr ?_
  refine WD.know [37] kr ?_
  refine WD.know [38] kr ?_
  refine WD.know [39] kr ?_
  refine WD.know [40] kr ?_
  refine WD.know [41] kr ?_
  refine WD.know [42] kr ?_
  refine WD.know [43] kr ?_
  refine WD.know [45] kr ?_
  refine WD.know [46] kr ?_
  refine WD.skipped 44 kr rfl (Floats.of [46, 45, 43, 42, 41, 40, 39, 38, 37, 36, 35, 30, 29, 28, 27, 25, 20, 19, 18, 17, 15, 10, 5] [26, 24, 23, 22, 21, 16] kr (Floats.pure _ kr kr) (.cons (.tells rfl kr kr (.calmB t65 kr)) (.cons (.tells rfl kr kr (.eql ((y38.1.Trap == y40.1.Trap) && (((y38.1.V.Re == y40.1.V.Re) && ((y38.1.V.Im == y40.1.V.Im) && true)) && true)) kr kr kr)) (.cons (.tells rfl kr rfl (.loadV H 6 rfl 0 kr kr)) (.cons (.tells rfl kr rfl (.loadV H 7 rfl 0 kr kr)) (.cons (.tells rfl kr kr (.calmB t64 kr)) (.cons (.tells rfl kr kr (.calmB t63 kr)) .nil))))))) kr kr ?_
  refine WD.skipped 47 kr rfl (Floats.of [46, 45, 40, 39, 38, 37, 36, 35, 30, 29, 28, 27, 25, 20, 19, 18, 17, 15, 10, 5] [26, 24, 23, 22, 21, 16] kr (Floats.pure _ kr kr) (.cons (.tells rfl kr kr (.calmB t65 kr)) (.cons (.tells rfl kr kr (.eql ((y38.1.Trap == y40.1.Trap) && (((y38.1.V.Re == y40.1.V.Re) && ((y38.1.V.Im == y40.1.V.Im) && true)) && true)) kr kr kr)) (.cons (.tells rfl kr rfl (.loadV H 6 rfl 0 kr kr)) (.cons (.tells rfl kr rfl (.loadV H 7 rfl 0 kr kr)) (.cons (.tells rfl kr kr (.calmB t64 kr)) (.cons (.tells rfl kr kr (.calmB t63 kr)) .nil))))))) kr kr ?_
  refine WD.know [48] kr ?_
  refine WD.know [49] kr ?_
  refine WD.know [50] kr ?_
  refine WD.know [51] kr ?_
  refine WD.know [52] kr ?_
  refine WD.skipped 53 kr rfl (Floats.of [52, 51, 50, 49, 48, 40, 39, 38, 37, 36, 35, 30, 29, 28, 27, 25, 20, 19, 18, 17, 15, 10, 5] [26, 24, 23, 22, 21, 16] kr (Floats.pure _ kr kr) (.cons (.tells rfl kr kr (.calmB t65 kr)) (.cons (.tells rfl kr kr (.eql ((y38.1.Trap == y40.1.Trap) && (((y38.1.V.Re == y40.1.V.Re) && ((y38.1.V.Im == y40.1.V.Im) && true)) && true)) kr kr kr)) (.cons (.tells rfl kr rfl (.loadV H 6 rfl 0 kr kr)) (.cons (.tells rfl kr rfl (.loadV H 7 rfl 0 kr kr)) (.cons (.tells rfl kr kr (.calmB t64 kr)) (.cons (.tells rfl kr kr (.calmB t63 kr)) .nil))))))) kr kr ?_
  refine WD.know [54] kr ?_
  refine WD.does 55 kr rfl (Floats.of [54, 49, 48, 40, 39, 38, 37, 36, 35, 30, 29, 28, 27, 25, 20, 19, 18, 17, 15, 10, 5] [26, 24, 23, 22, 21, 16] kr (Floats.pure _ kr kr) (.cons (.tells rfl kr kr (.calmB t65 kr)) (.cons (.tells rfl kr kr (.eql ((y38.1.Trap == y40.1.Trap) && (((y38.1.V.Re == y40.1.V.Re) && ((y38.1.V.Im == y40.1.V.Im) && true)) && true)) kr kr kr)) (.cons (.tells rfl kr rfl (.loadV H 6 rfl 0 kr kr)) (.cons (.tells rfl kr rfl (.loadV H 7 rfl 0 kr kr)) (.cons (.tells rfl kr kr (.calmB t64 kr)) (.cons (.tells rfl kr kr (.calmB t63 kr)) .nil))))))) kr kr (Does.reck kr ?_)
  refine WD.fin kr (Floats.of [] [] kr .nil .nil) kr kr ?_
  obtain rfl := Option.some.inj hr
  exact WE.ret ⟨[.bool false], ⟨⟨kr, kr⟩, trivial⟩, ⟨rfl, ((H.keep 16).less (((((le14.trans le21).trans le28).trans le33).trans le42).trans le49))⟩⟩
  }
  }
  {
  refine WD.known 121 t64 kr kr ?_
  refine WD.know [22] kr ?_
  refine WD.know [23] kr ?_
  refine WD.know [24] kr ?_
  refine WD.know [25] kr ?_
  refine WD.know [26] kr ?_
  refine WD.know [27] kr ?_
  refine WD.know [28] kr ?_
  refine WD.know [29] kr ?_
  refine WD.know [30] kr ?_
  refine WD.know [31] kr ?_
  refine WD.know [32] kr ?_
  refine WD.know [33] kr ?_
  refine WD.skipped 34 kr rfl (Floats.of [33, 32, 31, 30, 29, 28, 27, 26, 25, 24, 23, 22, 20, 19, 18, 17, 15, 10, 5] [21, 16] kr (Floats.pure _ kr kr) (.cons (.tells rfl kr kr (.calmB t64 kr)) (.cons (.tells rfl kr kr (.calmB t63 kr)) .nil))) kr kr ?_
  refine WD.know [35] kr ?_
  refine WD.know [36] kr ?_
  refine WD.know [37] kr ?_
  refine WD.know [38] kr ?_
  refine WD.know [39] kr ?_
  refine WD.know [40] kr ?_
  refine WD.know [41] kr ?_
  refine WD.know [42] kr ?_
  refine WD.know [43] kr ?_
  refine WD.know [45] kr ?_
  refine WD.know [46] kr ?_
  refine WD.skipped 44 kr rfl (Floats.of [46, 45, 43, 42, 41, 40, 39, 38, 37, 36, 35, 30, 29, 28, 27, 26, 25, 24, 23, 22, 20, 19, 18, 17, 15, 10, 5] [21, 16] kr (Floats.pure _ kr kr) (.cons (.tells rfl kr kr (.calmB t64 kr)) (.cons (.tells rfl kr kr (.calmB t63 kr)) .nil))) kr kr ?_
  refine WD.skipped 47 kr rfl (Floats.of [46, 45, 40, 39, 38, 37, 36, 35, 30, 29, 28, 27, 26, 25, 24, 23, 22, 20, 19, 18, 17, 15, 10, 5] [21, 16] kr (Floats.pure _ kr kr) (.cons (.tells rfl kr kr (.calmB t64 kr)) (.cons (.tells rfl kr kr (.calmB t63 kr)) .nil))) kr kr ?_
  refine WD.know [48] kr ?_
  refine WD.know [49] kr ?_
  refine WD.know [50] kr ?_
  refine WD.know [51] kr ?_
  refine WD.know [52] kr ?_
  refine WD.skipped 53 kr rfl (Floats.of [52, 51, 50, 49, 48, 40, 39, 38, 37, 36, 35, 30, 29, 28, 27, 26, 25, 24, 23, 22, 20, 19, 18, 17, 15, 10, 5] [21, 16] kr (Floats.pure _ kr kr) (.cons (.tells rfl kr kr (.calmB t64 kr)) (.cons (.tells rfl kr kr (.calmB t63 kr)) .nil))) kr kr ?_
  refine WD.know [54] kr ?_
  refine WD.does 55 kr rfl (Floats.of [54, 49, 48, 40, 39, 38, 37, 36, 35, 30, 29, 28, 27, 26, 25, 24, 23, 22, 20, 19, 18, 17, 15, 10, 5] [21, 16] kr (Floats.pure _ kr kr) (.cons (.tells rfl kr kr (.calmB t64 kr)) (.cons (.tells rfl kr kr (.calmB t63 kr)) .nil))) kr kr (Does.reck kr ?_)
  refine WD.fin kr (Floats.of [] [] kr .nil .nil) kr kr ?_
  obtain rfl := Option.some.inj hr
  exact WE.ret ⟨[.bool false], ⟨⟨kr, kr⟩, trivial⟩, ⟨rfl, ((H.keep 16).less (((((le14.trans le21).trans le28).trans le33).trans le42).trans le49))⟩⟩
  }
  }
  {
  refine WD.known 116 t63 kr kr ?_
  refine WD.know [17] kr ?_
  refine WD.know [18] kr ?_
  refine WD.know [19] kr ?_
  refine WD.know [20] kr ?_
  refine WD.know [21] kr ?_
  refine WD.know [22] kr ?_
  refine WD.know [23] kr ?_
  refine WD.know [24] kr ?_
  refine WD.know [25] kr ?_
  refine WD.know [26] kr ?_
  refine WD.know [27] kr ?_
  refine WD.know [28] kr ?_
  refine WD.know [29] kr ?_
  refine WD.know [30] kr ?_
  refine WD.know [31] kr ?_
  refine WD.know [32] kr ?_
  refine WD.know [33] kr ?_
  refine WD.skipped 34 kr rfl (Floats.of [33, 32, 31, 30, 29, 28, 27, 26, 25, 24, 23, 22, 21, 20, 19, 18, 17, 15, 10, 5] [16] kr (Floats.pure _ kr kr) (.cons (.tells rfl kr kr (.calmB t63 kr)) .nil)) kr kr ?_
  refine WD.know [35] kr ?_
  refine WD.know [36] kr ?_
  refine WD.know [37] kr ?_
  refine WD.know [38] kr ?_
  refine WD.know [39] kr ?_
  refine WD.know [40] kr ?_
  refine WD.know [41] kr ?_
  refine WD.know [42] kr ?_
  refine WD.know [43] kr ?_
  refine WD.know [45] kr ?_
  refine WD.know [46] kr ?_
  refine WD.skipped 44 kr rfl (Floats.of [46, 45, 43, 42, 41, 40, 39, 38, 37, 36, 35, 30, 29, 28, 27, 26, 25, 24, 23, 22, 21, 20, 19, 18, 17, 15, 10, 5] [16] kr (Floats.pure _ kr kr) (.cons (.tells rfl kr kr (.calmB t63 kr)) .nil)) kr kr ?_
  refine WD.skipped 47 kr rfl (Floats.of [46, 45, 40, 39, 38, 37, 36, 35, 30, 29, 28, 27, 26, 25, 24, 23, 22, 21, 20, 19, 18, 17, 15, 10, 5] [16] kr (Floats.pure _ kr kr) (.cons (.tells rfl kr kr (.calmB t63 kr)) .nil)) kr kr ?_
  refine WD.know [48] kr ?_
  refine WD.know [49] kr ?_
  refine WD.know [50] kr ?_
  refine WD.know [51] kr ?_
  refine WD.know [52] kr ?_
  refine WD.skipped 53 kr rfl (Floats.of [52, 51, 50, 49, 48, 40, 39, 38, 37, 36, 35, 30, 29, 28, 27, 26, 25, 24, 23, 22, 21, 20, 19, 18, 17, 15, 10, 5] [16] kr (Floats.pure _ kr kr) (.cons (.tells rfl kr kr (.calmB t63 kr)) .nil)) kr kr ?_
  refine WD.know [54] kr ?_
  refine WD.does 55 kr rfl (Floats.of [54, 49, 48, 40, 39, 38, 37, 36, 35, 30, 29, 28, 27, 26, 25, 24, 23, 22, 21, 20, 19, 18, 17, 15, 10, 5] [16] kr (Floats.pure _ kr kr) (.cons (.tells rfl kr kr (.calmB t63 kr)) .nil)) kr kr (Does.reck kr ?_)
  refine WD.fin kr (Floats.of [] [] kr .nil .nil) kr kr ?_
  obtain rfl := Option.some.inj hr
  exact WE.ret ⟨[.bool false], ⟨⟨kr, kr⟩, trivial⟩, ⟨rfl, ((H.keep 16).less (((((le14.trans le21).trans le28).trans le33).trans le42).trans le49))⟩⟩
  }
  }
  {
  refine WD.known 111 t61 kr kr ?_
  refine WD.know [12] kr ?_
  refine WD.know [13] kr ?_
  refine WD.skipped 14 kr rfl (Floats.of [13, 12, 10, 5] [11] kr (Floats.pure _ kr kr) (.cons (.tells rfl kr kr (.calmB t61 kr)) .nil)) kr kr ?_
  refine WD.know [15] kr ?_
  refine WD.know [16] kr ?_
  refine WD.know [17] kr ?_
  refine WD.know [18] kr ?_
  refine WD.know [19] kr ?_
  refine WD.know [20] kr ?_
  refine WD.know [21] kr ?_
  refine WD.know [22] kr ?_
  refine WD.know [23] kr ?_
  refine WD.know [24] kr ?_
  refine WD.know [25] kr ?_
  refine WD.know [26] kr ?_
  refine WD.know [27] kr ?_
  refine WD.know [28] kr ?_
  refine WD.know [29] kr ?_
  refine WD.know [30] kr ?_
  refine WD.know [31] kr ?_
  refine WD.know [32] kr ?_
  refine WD.know [33] kr ?_
  refine WD.skipped 34 kr rfl (Floats.of [33, 32, 31, 30, 29, 28, 27, 26, 25, 24, 23, 22, 21, 20, 19, 18, 17, 16, 15, 10, 5] [] kr (Floats.pure _ kr kr) .nil) kr kr ?_
  refine WD.know [35] kr ?_
  refine WD.know [36] kr ?_
  refine WD.know [37] kr ?_
  refine WD.know [38] kr ?_
  refine WD.know [39] kr ?_
  refine WD.know [40] kr ?_
  refine WD.know [41] kr ?_
  refine WD.know [42] kr ?_
  refine WD.know [43] kr ?_
  refine WD.know [45] kr ?_
  refine WD.know [46] kr ?_
  refine WD.skipped 44 kr rfl (Floats.of [46, 45, 43, 42, 41, 40, 39, 38, 37, 36, 35, 30, 29, 28, 27, 26, 25, 24, 23, 22, 21, 20, 19, 18, 17, 16, 15, 10, 5] [] kr (Floats.pure _ kr kr) .nil) kr kr ?_
  refine WD.skipped 47 kr rfl (Floats.of [46, 45, 40, 39, 38, 37, 36, 35, 30, 29, 28, 27, 26, 25, 24, 23, 22, 21, 20, 19, 18, 17, 16, 15, 10, 5] [] kr (Floats.pure _ kr kr) .nil) kr kr ?_
  refine WD.know [48] kr ?_
  refine WD.know [49] kr ?_
  refine WD.know [50] kr ?_
  refine WD.know [51] kr ?_
  refine WD.know [52] kr ?_
  refine WD.skipped 53 kr rfl (Floats.of [52, 51, 50, 49, 48, 40, 39, 38, 37, 36, 35, 30, 29, 28, 27, 26, 25, 24, 23, 22, 21, 20, 19, 18, 17, 16, 15, 10, 5] [] kr (Floats.pure _ kr kr) .nil) kr kr ?_
  refine WD.know [54] kr ?_
  refine WD.does 55 kr rfl (Floats.of [54, 49, 48, 40, 39, 38, 37, 36, 35, 30, 29, 28, 27, 26, 25, 24, 23, 22, 21, 20, 19, 18, 17, 16, 15, 10, 5] [] kr (Floats.pure _ kr kr) .nil) kr kr (Does.reck kr ?_)
  refine WD.fin kr (Floats.of [] [] kr .nil .nil) kr kr ?_
  obtain rfl := Option.some.inj hr
  exact WE.ret ⟨[.bool false], ⟨⟨kr, kr⟩, trivial⟩, ⟨rfl, ((H.keep 16).less (((((le14.trans le21).trans le28).trans le33).trans le42).trans le49))⟩⟩
  }
  }
  {
  refine WD.known 106 t59 kr kr ?_
  refine WD.know [7] kr ?_
  refine WD.know [8] kr ?_
  refine WD.skipped 9 kr rfl (Floats.of [8, 7, 5] [6] kr (Floats.pure _ kr kr) (.cons (.tells rfl kr kr (.calmB t59 kr)) .nil)) kr kr ?_
  refine WD.know [10] kr ?_
  refine WD.know [11] kr ?_
  refine WD.know [12] kr ?_
  refine WD.know [13] kr ?_
  refine WD.skipped 14 kr rfl (Floats.of [13, 12, 11, 10, 5] [] kr (Floats.pure _ kr kr) .nil) kr kr ?_
  refine WD.know [15] kr ?_
  refine WD.know [16] kr ?_
  refine WD.know [17] kr ?_
  refine WD.know [18] kr ?_
  refine WD.know [19] kr ?_
  refine WD.know [20] kr ?_
  refine WD.know [21] kr ?_
  refine WD.know [22] kr ?_
  refine WD.know [23] kr ?_
  refine WD.know [24] kr ?_
  refine WD.know [25] kr ?_
  refine WD.know [26] kr ?_
  refine WD.know [27] kr ?_
  refine WD.know [28] kr ?_
  refine WD.know [29] kr ?_
  refine WD.know [30] kr ?_
  refine WD.know [31] kr ?_
  refine WD.know [32] kr ?_
  refine WD.know [33] kr ?_
  refine WD.skipped 34 kr rfl (Floats.of [33, 32, 31, 30, 29, 28, 27, 26, 25, 24, 23, 22, 21, 20, 19, 18, 17, 16, 15, 10, 5] [] kr (Floats.pure _ kr kr) .nil) kr kr ?_
  refine WD.know [35] kr ?_
  refine WD.know [36] kr ?_
  refine WD.know [37] kr ?_
  refine WD.know [38] kr ?_
  refine WD.know [39] kr ?_
  refine WD.know [40] kr ?_
  refine WD.know [41] kr ?_
  refine WD.know [42] kr ?_
  refine WD.know [43] kr ?_
  refine WD.know [45] kr ?_
  refine WD.know [46] kr ?_
  refine WD.skipped 44 kr rfl (Floats.of [46, 45, 43, 42, 41, 40, 39, 38, 37, 36, 35, 30, 29, 28, 27, 26, 25, 24, 23, 22, 21, 20, 19, 18, 17, 16, 15, 10, 5] [] kr (Floats.pure _ kr kr) .nil) kr kr ?_
  refine WD.skipped 47 kr rfl (Floats.of [46, 45, 40, 39, 38, 37, 36, 35, 30, 29, 28, 27, 26, 25, 24, 23, 22, 21, 20, 19, 18, 17, 16, 15, 10, 5] [] kr (Floats.pure _ kr kr) .nil) kr kr ?_
  refine WD.know [48] kr ?_
  refine WD.know [49] kr ?_
  refine WD.know [50] kr ?_
  refine WD.know [51] kr ?_
  refine WD.know [52] kr ?_
  refine WD.skipped 53 kr rfl (Floats.of [52, 51, 50, 49, 48, 40, 39, 38, 37, 36, 35, 30, 29, 28, 27, 26, 25, 24, 23, 22, 21, 20, 19, 18, 17, 16, 15, 10, 5] [] kr (Floats.pure _ kr kr) .nil) kr kr ?_
  refine WD.know [54] kr ?_
  refine WD.does 55 kr rfl (Floats.of [54, 49, 48, 40, 39, 38, 37, 36, 35, 30, 29, 28, 27, 26, 25, 24, 23, 22, 21, 20, 19, 18, 17, 16, 15, 10, 5] [] kr (Floats.pure _ kr kr) .nil) kr kr (Does.reck kr ?_)
  refine WD.fin kr (Floats.of [] [] kr .nil .nil) kr kr ?_
  obtain rfl := Option.some.inj hr
  exact WE.ret ⟨[.bool false], ⟨⟨kr, kr⟩, trivial⟩, ⟨rfl, ((H.keep 16).less (((((le14.trans le21).trans le28).trans le33).trans le42).trans le49))⟩⟩
  }
  }
  {
  refine WD.known 101 t57 kr kr ?_
  refine WD.know [2] kr ?_
  refine WD.know [3] kr ?_
  refine WD.skipped 4 kr rfl (Floats.of [3, 2] [1] kr (Floats.pure _ kr kr) (.cons (.tells rfl kr kr (.calmB t57 kr)) .nil)) kr kr ?_
  refine WD.know [5] kr ?_
  refine WD.know [6] kr ?_
  refine WD.know [7] kr ?_
  refine WD.know [8] kr ?_
  refine WD.skipped 9 kr rfl (Floats.of [8, 7, 6, 5] [] kr (Floats.pure _ kr kr) .nil) kr kr ?_
  refine WD.know [10] kr ?_
  refine WD.know [11] kr ?_
  refine WD.know [12] kr ?_
  refine WD.know [13] kr ?_
  refine WD.skipped 14 kr rfl (Floats.of [13, 12, 11, 10, 5] [] kr (Floats.pure _ kr kr) .nil) kr kr ?_
  refine WD.know [15] kr ?_
  refine WD.know [16] kr ?_
  refine WD.know [17] kr ?_
  refine WD.know [18] kr ?_
  refine WD.know [19] kr ?_
  refine WD.know [20] kr ?_
  refine WD.know [21] kr ?_
  refine WD.know [22] kr ?_
  refine WD.know [23] kr ?_
  refine WD.know [24] kr ?_
  refine WD.know [25] kr ?_
  refine WD.know [26] kr ?_
  refine WD.know [27] kr ?_
  refine WD.know [28] kr ?_
  refine WD.know [29] kr ?_
  refine WD.know [30] kr ?_
  refine WD.know [31] kr ?_
  refine WD.know [32] kr ?_
  refine WD.know [33] kr ?_
  refine WD.skipped 34 kr rfl (Floats.of [33, 32, 31, 30, 29, 28, 27, 26, 25, 24, 23, 22, 21, 20, 19, 18, 17, 16, 15, 10, 5] [] kr (Floats.pure _ kr kr) .nil) kr kr ?_
  refine WD.know [35] kr ?_
  refine WD.know [36] kr ?_
  refine WD.know [37] kr ?_
  refine WD.know [38] kr ?_
  refine WD.know [39] kr ?_
  refine WD.know [40] kr ?_
  refine WD.know [41] kr ?_
  refine WD.know [42] kr ?_
  refine WD.know [43] kr ?_
  refine WD.know [45] kr ?_
  refine WD.know [46] kr ?_
  refine WD.skipped 44 kr rfl (Floats.of [46, 45, 43, 42, 41, 40, 39, 38, 37, 36, 35, 30, 29, 28, 27, 26, 25, 24, 23, 22, 21, 20, 19, 18, 17, 16, 15, 10, 5] [] kr (Floats.pure _ kr kr) .nil) kr kr ?_
  refine WD.skipped 47 kr rfl (Floats.of [46, 45, 40, 39, 38, 37, 36, 35, 30, 29, 28, 27, 26, 25, 24, 23, 22, 21, 20, 19, 18, 17, 16, 15, 10, 5] [] kr (Floats.pure _ kr kr) .nil) kr kr ?_
  refine WD.know [48] kr ?_
  refine WD.know [49] kr ?_
  refine WD.know [50] kr ?_
  refine WD.know [51] kr ?_
  refine WD.know [52] kr ?_
  refine WD.skipped 53 kr rfl (Floats.of [52, 51, 50, 49, 48, 40, 39, 38, 37, 36, 35, 30, 29, 28, 27, 26, 25, 24, 23, 22, 21, 20, 19, 18, 17, 16, 15, 10, 5] [] kr (Floats.pure _ kr kr) .nil) kr kr ?_
  refine WD.know [54] kr ?_
  refine WD.does 55 kr rfl (Floats.of [54, 49, 48, 40, 39, 38, 37, 36, 35, 30, 29, 28, 27, 26, 25, 24, 23, 22, 21, 20, 19, 18, 17, 16, 15, 10, 5] [] kr (Floats.pure _ kr kr) .nil) kr kr (Does.reck kr ?_)
  refine WD.fin kr (Floats.of [] [] kr .nil .nil) kr kr ?_
  obtain rfl := Option.some.inj hr
  exact WE.ret ⟨[.bool false], ⟨⟨kr, kr⟩, trivial⟩, ⟨rfl, ((H.keep 16).less (((((le14.trans le21).trans le28).trans le33).trans le42).trans le49))⟩⟩
  }
  }
  }
  rcases ite_cases hy11 with ⟨ty11, hy11⟩ | ⟨ty11, hy11⟩
  {
  refine WL.known 31 ty11 kr kr ?_
  refine WL.sg 5 kr ?_
  obtain rfl := hy11
  exact WL.live [0, 4, 5, 36] kr (hk_y11 () _ H)
  }
  {
  refine WL.known 31 ty11 kr kr ?_
  refine WL.sg 1 kr ?_
  refine WL.does kr kr (Does.loadV H 0 rfl 5 kr kr ?_)
  refine WL.sg 3 kr ?_
  obtain rfl := hy11
  exact WL.live [0, 4, 5, 36] kr (hk_y11 () _ H)
  }
  }
  rcases ite_cases hy9 with ⟨ty9, hy9⟩ | ⟨ty9, hy9⟩
  {
  refine WL.known 26 ty9 kr kr ?_
  refine WL.sg 4 kr ?_
  obtain rfl := hy9
  exact WL.live [0, 4, 5, 30] kr (hk_y9 () _ H)
  }
  {
  refine WL.known 26 ty9 kr kr ?_
  refine WL.does kr kr (Does.loadV H 1 rfl 0 kr kr ?_)
  obtain ⟨y78, q78, hy9⟩ := bnd_cases hy9
  refine WL.does kr kr (Does.call (c_r09_Small x1 f2 f3 f4 H q78) kr ?_)
  rintro _ w ⟨rfl, H⟩
  refine WL.sg 2 kr ?_
  obtain rfl := hy9
  exact WL.live [0, 4, 5, 30] kr (hk_y9 () _ H)
  }
end Go.Proofs.YtcoepljalekglaaGreat.FrameTells.W
