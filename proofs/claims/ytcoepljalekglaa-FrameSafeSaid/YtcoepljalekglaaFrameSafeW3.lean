/- The walk of FrameSafe and of what it calls, part 3: printed by a program of this work. -/
import Derived.Test.YtcoepljalekglaaFrameSafeW2
set_option linter.unusedVariables false
set_option linter.unusedSimpArgs false
namespace Go.Proofs.Ytcoepljalekglaa.FrameSafe.W
open Go.Proofs.Ytcoepljalekglaa.G2 Go.Proofs
attribute [local irreducible] WE WL LP WD Does Tells
def law09_fixed (K : Nat) : Option Bool :=
  (law09_of K (⟨#[102, 117, 110, 99, 32, 49, 32, 49, 32, 50, 10, 108, 111, 97, 100, 32, 48, 10, 115, 112, 97, 119, 110, 32, 48, 32, 49, 10, 106, 111, 105, 110, 32, 49, 10, 106, 111, 105, 110, 32, 49, 10, 114, 101, 116, 10]⟩ : ByteArray)).bind fun y1 =>
  (frame_New K y1 0 [(⟨5, 0⟩ : GValue)] 9).bind fun y5 =>
  bnd (
      if !y5.2 then
        true
      else
        (y5.1.Locals.length : Int) != 1) fun y12 =>
  bnd (
      if y12 then
        true
      else
        (y5.1.Slots.length : Int) != 2) fun y13 =>
  if y13 then
    some false
  else
    (frame_Do K y1 y5.1).bind fun y17 =>
    (frame_Do K y1 y17.1).bind fun y23 =>
    (frame_Do K y1 y23.1).bind fun y29 =>
    (frame_Give y29.1 0 (⟨0, (⟨0, 0⟩ : GValue)⟩ : GOut)).bind fun y35 =>
    (frame_Give y29.1 1 (⟨0, (⟨0, 7⟩ : GValue)⟩ : GOut)).bind fun y40 =>
    (frame_Do K y1 y40.1).bind fun y45 =>
    bnd (
        if (y45.1.Stack.length : Int) != 1 then
          true
        else
          (y23.2.Args.length : Int) != 1) fun y51 =>
    if y51 then
      some false
    else
      (frame_Do K y1 y45.1).bind fun y53 =>
      (frame_Final K y53.1).bind fun y60 =>
      (frame_Final K y29.1).bind fun y62 =>
      (frame_New K y1 0 [] 9).bind fun y64 =>
      bnd (
          if y17.2.Kind == 1 then
            y23.2.Kind == 2
          else
            false) fun y71 =>
      bnd (
          if y71 then
            y23.2.Fn == 0
          else
            false) fun y72 =>
      bnd (
          if y72 then
            y23.2.Slot == 1
          else
            false) fun y73 =>
      (
          if y73 then
            if 0 ≤ (0 : Int) ∧ (0 : Int) < y23.2.Args.length then
              some ((((gd y23.2.Args (0 : Int)).Re) == 5) && ((((gd y23.2.Args (0 : Int)).Im) == 0) && true))
            else none
          else
            some false).bind fun y74 =>
      bnd (
          if y74 then
            y29.1.Spawned == 1
          else
            false) fun y76 =>
      bnd (
          if y76 then
            y29.2.Kind == 3
          else
            false) fun y77 =>
      bnd (
          if y77 then
            y29.1.State == 1
          else
            false) fun y78 =>
      bnd (
          if y78 then
            y29.1.Wait == 1
          else
            false) fun y79 =>
      bnd (
          if y79 then
            !y35.2
          else
            false) fun y80 =>
      (
          if y80 then
            (frame_Same K y29.1 y35.1).bind fun y96 =>
            some y96
          else
            some false).bind fun y81 =>
      bnd (
          if y81 then
            y40.2
          else
            false) fun y83 =>
      bnd (
          if y83 then
            y45.2.Kind == 1
          else
            false) fun y84 =>
      (
          if y84 then
            if 0 ≤ (0 : Int) ∧ (0 : Int) < y45.1.Stack.length then
              some ((((gd y45.1.Stack (0 : Int)).Re) == 0) && ((((gd y45.1.Stack (0 : Int)).Im) == 7) && true))
            else none
          else
            some false).bind fun y85 =>
      bnd (
          if y85 then
            y53.2.Kind == 4
          else
            false) fun y87 =>
      bnd (
          if y87 then
            y60.2
          else
            false) fun y88 =>
      bnd (
          if y88 then
            y60.1.Trap == 2
          else
            false) fun y89 =>
      bnd (
          if y89 then
            !y62.2
          else
            false) fun y90 =>
      bnd (
          if y90 then
            !y64.2
          else
            false) fun y91 =>
      (
          if y91 then
            (frame_Same K y29.1 y45.1).bind fun y94 =>
            some (!y94)
          else
            some false).bind fun y92 =>
      some y92
set_option maxRecDepth 100000 in
set_option maxHeartbeats 4000000 in
theorem c_law09_fixed {w0 w : World} {h : Gh} {L : List Ent} (K : Nat) (H : St w0 h w L) {r : Bool} (hr : law09_fixed K = some r) : Calls Try.prog 5 #[] w (fun e w' => ∃ v, e = .returned v ∧ v = .bool r ∧ St w0 h w' (L)) := by
  refine calls_of (args := []) (n := 208) (rs := [.tmp 0]) Try.func5 rfl rfl rfl rfl rfl ?_
  unfold law09_fixed at hr
  refine WE.seq ?_
  refine WE.region ?_
  refine WL.fin 1 kr kr ?_
  refine WE.seq ?_
  refine WE.region ?_
  obtain ⟨y1, q1, hr⟩ := bind_cases hr
  refine WL.does kr kr (Does.call (c_law09_of K (⟨#[102, 117, 110, 99, 32, 49, 32, 49, 32, 50, 10, 108, 111, 97, 100, 32, 48, 10, 115, 112, 97, 119, 110, 32, 48, 32, 49, 10, 106, 111, 105, 110, 32, 49, 10, 106, 111, 105, 110, 32, 49, 10, 114, 101, 116, 10]⟩ : ByteArray) H q1) kr ?_)
  rintro _ w ⟨h1, a2, c2, rfl, le1, f2, H⟩
  refine WL.fin 1 kr kr ?_
  refine WE.seq ?_
  refine WE.region ?_
  refine WL.sg 2 kr ?_
  refine WL.does kr kr (Does.lit (K := rGValue) (B := 16) (xs := [(⟨5, 0⟩ : GValue)]) (e := 33) H ([.int .i64 5, .int .i64 0] ++ []) kr (Rows.cons (C := [.int .i64 5, .int .i64 0]) (x := (⟨5, 0⟩ : GValue)) (by show _ = _; kernel_rfl) Rows.nil) kr kr kr kr fun b3 w H => ?_)
  obtain ⟨y5, q5, hr⟩ := bind_cases hr
  obtain ⟨h4, le4, f4, H⟩ := (H).rowFreeze (Gh.refl _)
  refine WL.does kr kr (Does.call (c_frame_New K y1 (f2.up le4) 0 [(⟨5, 0⟩ : GValue)] f4 9 H q5) kr ?_)
  rintro _ w ⟨h5, a6, c6, a7, c7, a8, c8, rfl, le5, f6, H⟩
  refine WL.sg 3 kr ?_
  refine WL.does kr kr (Does.alloc H (cGFrame (⟨0, 0, [], [], [], 0, 0, 0, 0, 0, (⟨0, (⟨0, 0⟩ : GValue)⟩ : GOut), (⟨0, 0⟩ : GRef), 0⟩ : GFrame) none 0 none 0 none 0) kr fun b11 w H => ?_)
  refine WL.does kr kr (Does.storeE H 0 (cGFrame y5.1 a6 c6 a7 c7 a8 c8) rfl (q := 0) kr kr kr fun w H => ?_)
  refine WL.fin 1 kr kr ?_
  refine WE.seq ?_
  refine WE.seq ?_
  refine WE.region ?_
  refine WL.sg 3 kr ?_
  obtain ⟨y12, hy12, hr⟩ := bnd_cases hr
  refine WL.join 5 (fun (_ : Unit) => [(1, .slice a2 y1.length c2), (2, .pointer (some ⟨b11, 0, none⟩)), (35, .bool y12)]) (fun (_ : Unit) w => St w0 h5 w (var b11 (cGFrame y5.1 a6 c6 a7 c7 a8 c8) 40 :: row rGValue 16 h5 a7 c7 y5.1.Locals :: row rGSlot 48 h5 a8 c8 y5.1.Slots :: L)) ?_ (fun hk_y12 => ?_)
  {
  rintro _ w H
  refine WL.sg 1 kr ?_
  obtain ⟨y13, hy13, hr⟩ := bnd_cases hr
  refine WL.join 5 (fun (_ : Unit) => [(1, .slice a2 y1.length c2), (2, .pointer (some ⟨b11, 0, none⟩)), (41, .bool y13)]) (fun (_ : Unit) w => St w0 h5 w (var b11 (cGFrame y5.1 a6 c6 a7 c7 a8 c8) 40 :: row rGValue 16 h5 a7 c7 y5.1.Locals :: row rGSlot 48 h5 a8 c8 y5.1.Slots :: L)) ?_ (fun hk_y13 => ?_)
  {
  rintro _ w H
  refine WL.fin 0 kr kr ?_
  rcases ite_cases hr with ⟨t14, hr⟩ | ⟨t14, hr⟩
  {
  refine WE.yes kr (b := y13) kr t14 ?_
  refine WE.seq ?_
  refine WE.region ?_
  refine WL.fin 1 kr kr ?_
  obtain rfl := Option.some.inj hr
  exact WE.ret ⟨[.bool false], ⟨⟨kr, kr⟩, trivial⟩, ⟨rfl, ((H.keep 3).less ((le1.trans le4).trans le5))⟩⟩
  }
  {
  refine WE.no kr (b := y13) kr t14 ?_
  refine WE.skip ?_
  refine WE.seq ?_
  refine WE.region ?_
  refine WL.sg 1 kr ?_
  refine WL.does kr kr (Does.loadV H 0 rfl 0 kr kr ?_)
  obtain ⟨y17, q17, hr⟩ := bind_cases hr
  obtain ⟨h15, le15, f15, H⟩ := (H.front 1 rfl).rowFreeze (Gh.refl _)
  obtain ⟨h16, le16, f16, H⟩ := (H.front 1 rfl).rowFreeze le15
  refine WL.does kr kr (Does.call (c_frame_Do K y1 ((((f2.up le4).up le5).up le15).up le16) y5.1 ((f6.up le15).up le16) (f15.up le16) f16 H q17) kr ?_)
  rintro _ w ⟨h17, a18, c18, a19, c19, a20, c20, a21, c21, rfl, le17, f18, f19, f20, f21, H⟩
  refine WL.sg 3 kr ?_
  refine WL.does kr kr (Does.alloc H (cGAct (⟨0, 0, 0, 0, []⟩ : GAct) none 0) kr fun b22 w H => ?_)
  refine WL.does kr kr (Does.storeE H 1 (cGFrame y17.1 a18 c18 a19 c19 a20 c20) rfl (q := 0) kr kr kr fun w H => ?_)
  refine WL.does kr kr (Does.storeE H 0 (cGAct y17.2 a21 c21) rfl (q := 0) kr kr kr fun w H => ?_)
  refine WL.fin 0 kr kr ?_
  refine WE.seq ?_
  refine WE.region ?_
  refine WL.sg 1 kr ?_
  refine WL.does kr kr (Does.loadV H 1 rfl 0 kr kr ?_)
  obtain ⟨y23, q23, hr⟩ := bind_cases hr
  refine WL.does kr kr (Does.call (c_frame_Do K y1 (((((f2.up le4).up le5).up le15).up le16).up le17) y17.1 f18 f19 f20 H q23) kr ?_)
  rintro _ w ⟨h23, a24, c24, a25, c25, a26, c26, a27, c27, rfl, le23, f24, f25, f26, f27, H⟩
  refine WL.sg 3 kr ?_
  refine WL.does kr kr (Does.alloc H (cGAct (⟨0, 0, 0, 0, []⟩ : GAct) none 0) kr fun b28 w H => ?_)
  refine WL.does kr kr (Does.storeE H 2 (cGFrame y23.1 a24 c24 a25 c25 a26 c26) rfl (q := 0) kr kr kr fun w H => ?_)
  refine WL.does kr kr (Does.storeE H 0 (cGAct y23.2 a27 c27) rfl (q := 0) kr kr kr fun w H => ?_)
  refine WL.fin 0 kr kr ?_
  refine WE.seq ?_
  refine WE.region ?_
  refine WL.sg 1 kr ?_
  refine WL.does kr kr (Does.loadV H 2 rfl 0 kr kr ?_)
  obtain ⟨y29, q29, hr⟩ := bind_cases hr
  refine WL.does kr kr (Does.call (c_frame_Do K y1 ((((((f2.up le4).up le5).up le15).up le16).up le17).up le23) y23.1 f24 f25 f26 H q29) kr ?_)
  rintro _ w ⟨h29, a30, c30, a31, c31, a32, c32, a33, c33, rfl, le29, f30, f31, f32, f33, H⟩
  refine WL.sg 3 kr ?_
  refine WL.does kr kr (Does.alloc H (cGAct (⟨0, 0, 0, 0, []⟩ : GAct) none 0) kr fun b34 w H => ?_)
  refine WL.does kr kr (Does.storeE H 3 (cGFrame y29.1 a30 c30 a31 c31 a32 c32) rfl (q := 0) kr kr kr fun w H => ?_)
  refine WL.does kr kr (Does.storeE H 0 (cGAct y29.2 a33 c33) rfl (q := 0) kr kr kr fun w H => ?_)
  refine WL.fin 0 kr kr ?_
  refine WE.seq ?_
  refine WE.region ?_
  refine WL.does kr kr (Does.loadV H 3 rfl 0 kr kr ?_)
  obtain ⟨y35, q35, hr⟩ := bind_cases hr
  refine WL.sg 1 kr ?_
  refine WL.does kr kr (Does.call (c_frame_Give y29.1 f30 f31 f32 0 (⟨0, (⟨0, 0⟩ : GValue)⟩ : GOut) H q35) kr ?_)
  rintro _ w ⟨h35, a36, c36, a37, c37, a38, c38, rfl, le35, f36, f37, f38, H⟩
  refine WL.sg 3 kr ?_
  refine WL.does kr kr (Does.alloc H (cGFrame (⟨0, 0, [], [], [], 0, 0, 0, 0, 0, (⟨0, (⟨0, 0⟩ : GValue)⟩ : GOut), (⟨0, 0⟩ : GRef), 0⟩ : GFrame) none 0 none 0 none 0) kr fun b39 w H => ?_)
  refine WL.does kr kr (Does.storeE H 0 (cGFrame y35.1 a36 c36 a37 c37 a38 c38) rfl (q := 0) kr kr kr fun w H => ?_)
  refine WL.fin 1 kr kr ?_
  refine WE.seq ?_
  refine WE.region ?_
  refine WL.does kr kr (Does.loadV H 4 rfl 0 kr kr ?_)
  obtain ⟨y40, q40, hr⟩ := bind_cases hr
  refine WL.sg 2 kr ?_
  refine WL.does kr kr (Does.call (c_frame_Give y29.1 (f30.up le35) (f31.up le35) (f32.up le35) 1 (⟨0, (⟨0, 7⟩ : GValue)⟩ : GOut) H q40) kr ?_)
  rintro _ w ⟨h40, a41, c41, a42, c42, a43, c43, rfl, le40, f41, f42, f43, H⟩
  refine WL.sg 3 kr ?_
  refine WL.does kr kr (Does.alloc H (cGFrame (⟨0, 0, [], [], [], 0, 0, 0, 0, 0, (⟨0, (⟨0, 0⟩ : GValue)⟩ : GOut), (⟨0, 0⟩ : GRef), 0⟩ : GFrame) none 0 none 0 none 0) kr fun b44 w H => ?_)
  refine WL.does kr kr (Does.storeE H 0 (cGFrame y40.1 a41 c41 a42 c42 a43 c43) rfl (q := 0) kr kr kr fun w H => ?_)
  refine WL.fin 1 kr kr ?_
  refine WE.seq ?_
  refine WE.region ?_
  refine WL.sg 1 kr ?_
  refine WL.does kr kr (Does.loadV H 0 rfl 0 kr kr ?_)
  obtain ⟨y45, q45, hr⟩ := bind_cases hr
  refine WL.does kr kr (Does.call (c_frame_Do K y1 (((((((((f2.up le4).up le5).up le15).up le16).up le17).up le23).up le29).up le35).up le40) y40.1 f41 f42 f43 H q45) kr ?_)
  rintro _ w ⟨h45, a46, c46, a47, c47, a48, c48, a49, c49, rfl, le45, f46, f47, f48, f49, H⟩
  refine WL.sg 3 kr ?_
  refine WL.does kr kr (Does.alloc H (cGAct (⟨0, 0, 0, 0, []⟩ : GAct) none 0) kr fun b50 w H => ?_)
  refine WL.does kr kr (Does.storeE H 1 (cGFrame y45.1 a46 c46 a47 c47 a48 c48) rfl (q := 0) kr kr kr fun w H => ?_)
  refine WL.does kr kr (Does.storeE H 0 (cGAct y45.2 a49 c49) rfl (q := 0) kr kr kr fun w H => ?_)
  refine WL.fin 0 kr kr ?_
  refine WE.seq ?_
  refine WE.seq ?_
  refine WE.region ?_
  refine WL.sg 1 kr ?_
  refine WL.does kr kr (Does.loadV H 1 rfl 2 kr kr ?_)
  refine WL.sg 3 kr ?_
  obtain ⟨y51, hy51, hr⟩ := bnd_cases hr
  refine WL.join 5 (fun (_ : Unit) => [(1, .slice a2 y1.length c2), (2, .pointer (some ⟨b11, 0, none⟩)), (4, .pointer (some ⟨b22, 0, none⟩)), (5, .pointer (some ⟨b28, 0, none⟩)), (6, .pointer (some ⟨b34, 0, none⟩)), (7, .pointer (some ⟨b39, 0, none⟩)), (8, .bool y35.2), (9, .pointer (some ⟨b44, 0, none⟩)), (10, .bool y40.2), (11, .pointer (some ⟨b50, 0, none⟩)), (88, .bool y51)]) (fun (_ : Unit) w => St w0 h45 w (var b50 (cGAct y45.2 a49 c49) 50 :: var b44 (cGFrame y45.1 a46 c46 a47 c47 a48 c48) 40 :: var b39 (cGFrame y35.1 a36 c36 a37 c37 a38 c38) 40 :: var b34 (cGAct y29.2 a33 c33) 50 :: var b28 (cGAct y23.2 a27 c27) 50 :: var b22 (cGAct y17.2 a21 c21) 50 :: var b11 (cGFrame y29.1 a30 c30 a31 c31 a32 c32) 40 :: L)) ?_ (fun hk_y51 => ?_)
  {
  rintro _ w H
  refine WL.fin 0 kr kr ?_
  rcases ite_cases hr with ⟨t52, hr⟩ | ⟨t52, hr⟩
  {
  refine WE.yes kr (b := y51) kr t52 ?_
  refine WE.seq ?_
  refine WE.region ?_
  refine WL.fin 1 kr kr ?_
  obtain rfl := Option.some.inj hr
  exact WE.ret ⟨[.bool false], ⟨⟨kr, kr⟩, trivial⟩, ⟨rfl, ((H.keep 7).less ((((((((((le1.trans le4).trans le5).trans le15).trans le16).trans le17).trans le23).trans le29).trans le35).trans le40).trans le45))⟩⟩
  }
  {
  refine WE.no kr (b := y51) kr t52 ?_
  refine WE.skip ?_
  refine WE.seq ?_
  refine WE.region ?_
  refine WL.sg 1 kr ?_
  refine WL.does kr kr (Does.loadV H 1 rfl 0 kr kr ?_)
  obtain ⟨y53, q53, hr⟩ := bind_cases hr
  refine WL.does kr kr (Does.call (c_frame_Do K y1 ((((((((((f2.up le4).up le5).up le15).up le16).up le17).up le23).up le29).up le35).up le40).up le45) y45.1 f46 f47 f48 H q53) kr ?_)
  rintro _ w ⟨h53, a54, c54, a55, c55, a56, c56, a57, c57, rfl, le53, f54, f55, f56, f57, H⟩
  refine WL.sg 3 kr ?_
  refine WL.does kr kr (Does.alloc H (cGFrame (⟨0, 0, [], [], [], 0, 0, 0, 0, 0, (⟨0, (⟨0, 0⟩ : GValue)⟩ : GOut), (⟨0, 0⟩ : GRef), 0⟩ : GFrame) none 0 none 0 none 0) kr fun b58 w H => ?_)
  refine WL.does kr kr (Does.alloc H (cGAct (⟨0, 0, 0, 0, []⟩ : GAct) none 0) kr fun b59 w H => ?_)
  refine WL.does kr kr (Does.storeE H 1 (cGFrame y53.1 a54 c54 a55 c55 a56 c56) rfl (q := 0) kr kr kr fun w H => ?_)
  refine WL.does kr kr (Does.storeE H 0 (cGAct y53.2 a57 c57) rfl (q := 0) kr kr kr fun w H => ?_)
  refine WL.fin 0 kr kr ?_
  refine WE.seq ?_
  refine WE.region ?_
  refine WL.does kr kr (Does.loadV H 1 rfl 0 kr kr ?_)
  obtain ⟨y60, q60, hr⟩ := bind_cases hr
  refine WL.does kr kr (Does.call (c_frame_Final K y53.1 f54 f55 f56 H q60) kr ?_)
  rintro _ w ⟨rfl, H⟩
  refine WL.sg 3 kr ?_
  refine WL.does kr kr (Does.alloc H [.int .i64 0, .int .i64 0, .int .i64 0] kr fun b61 w H => ?_)
  refine WL.does kr kr (Does.storeE H 0 [.int .i64 y60.1.Trap, .int .i64 y60.1.V.Re, .int .i64 y60.1.V.Im] rfl (q := 0) kr kr kr fun w H => ?_)
  refine WL.fin 1 kr kr ?_
  refine WE.seq ?_
  refine WE.region ?_
  refine WL.does kr kr (Does.loadV H 9 rfl 0 kr kr ?_)
  obtain ⟨y62, q62, hr⟩ := bind_cases hr
  refine WL.does kr kr (Does.call (c_frame_Final K y29.1 ((((f30.up le35).up le40).up le45).up le53) ((((f31.up le35).up le40).up le45).up le53) ((((f32.up le35).up le40).up le45).up le53) H q62) kr ?_)
  rintro _ w ⟨rfl, H⟩
  refine WL.sg 3 kr ?_
  refine WL.does kr kr (Does.alloc H [.int .i64 0, .int .i64 0, .int .i64 0] kr fun b63 w H => ?_)
  refine WL.does kr kr (Does.storeE H 0 [.int .i64 y62.1.Trap, .int .i64 y62.1.V.Re, .int .i64 y62.1.V.Im] rfl (q := 0) kr kr kr fun w H => ?_)
  refine WL.fin 1 kr kr ?_
  refine WE.seq ?_
  refine WE.region ?_
  obtain ⟨y64, q64, hr⟩ := bind_cases hr
  refine WL.sg 1 kr ?_
  refine WL.does kr kr (Does.call (c_frame_New K y1 (((((((((((f2.up le4).up le5).up le15).up le16).up le17).up le23).up le29).up le35).up le40).up le45).up le53) 0 [] (Sl.nil none 0 (Nat.zero_le _)) 9 H q64) kr ?_)
  rintro _ w ⟨h64, a65, c65, a66, c66, a67, c67, rfl, le64, f65, H⟩
  refine WL.sg 3 kr ?_
  refine WL.does kr kr (Does.alloc H (cGFrame (⟨0, 0, [], [], [], 0, 0, 0, 0, 0, (⟨0, (⟨0, 0⟩ : GValue)⟩ : GOut), (⟨0, 0⟩ : GRef), 0⟩ : GFrame) none 0 none 0 none 0) kr fun b70 w H => ?_)
  refine WL.does kr kr (Does.storeE H 0 (cGFrame y64.1 a65 c65 a66 c66 a67 c67) rfl (q := 0) kr kr kr fun w H => ?_)
  refine WL.fin 1 kr kr ?_
  refine WE.seq ?_
  refine WE.region ?_
  refine WL.sg 1 kr ?_
  refine WL.does kr kr (Does.loadV H 12 rfl 0 kr kr ?_)
  refine WL.sg 2 kr ?_
  obtain ⟨y71, hy71, hr⟩ := bnd_cases hr
  refine WL.join 4 (fun (_ : Unit) => [(2, .pointer (some ⟨b11, 0, none⟩)), (5, .pointer (some ⟨b28, 0, none⟩)), (6, .pointer (some ⟨b34, 0, none⟩)), (7, .pointer (some ⟨b39, 0, none⟩)), (8, .bool y35.2), (9, .pointer (some ⟨b44, 0, none⟩)), (10, .bool y40.2), (11, .pointer (some ⟨b50, 0, none⟩)), (13, .pointer (some ⟨b59, 0, none⟩)), (14, .pointer (some ⟨b61, 0, none⟩)), (15, .bool y60.2), (17, .bool y62.2), (19, .bool y64.2), (117, .bool y71)]) (fun (_ : Unit) w => St w0 h64 w (var b70 (cGFrame y64.1 a65 c65 a66 c66 a67 c67) 40 :: row rGValue 16 h64 a66 c66 y64.1.Locals :: row rGSlot 48 h64 a67 c67 y64.1.Slots :: var b63 [.int .i64 y62.1.Trap, .int .i64 y62.1.V.Re, .int .i64 y62.1.V.Im] 36 :: var b61 [.int .i64 y60.1.Trap, .int .i64 y60.1.V.Re, .int .i64 y60.1.V.Im] 36 :: var b59 (cGAct y53.2 a57 c57) 50 :: var b58 (cGFrame y53.1 a54 c54 a55 c55 a56 c56) 40 :: var b50 (cGAct y45.2 a49 c49) 50 :: var b44 (cGFrame y45.1 a46 c46 a47 c47 a48 c48) 40 :: var b39 (cGFrame y35.1 a36 c36 a37 c37 a38 c38) 40 :: var b34 (cGAct y29.2 a33 c33) 50 :: var b28 (cGAct y23.2 a27 c27) 50 :: var b22 (cGAct y17.2 a21 c21) 50 :: var b11 (cGFrame y29.1 a30 c30 a31 c31 a32 c32) 40 :: L)) ?_ (fun hk_y71 => ?_)
  {
  rintro _ w H
  refine WL.sg 1 kr ?_
  obtain ⟨y72, hy72, hr⟩ := bnd_cases hr
  refine WL.join 4 (fun (_ : Unit) => [(2, .pointer (some ⟨b11, 0, none⟩)), (5, .pointer (some ⟨b28, 0, none⟩)), (6, .pointer (some ⟨b34, 0, none⟩)), (7, .pointer (some ⟨b39, 0, none⟩)), (8, .bool y35.2), (9, .pointer (some ⟨b44, 0, none⟩)), (10, .bool y40.2), (11, .pointer (some ⟨b50, 0, none⟩)), (13, .pointer (some ⟨b59, 0, none⟩)), (14, .pointer (some ⟨b61, 0, none⟩)), (15, .bool y60.2), (17, .bool y62.2), (19, .bool y64.2), (122, .bool y72)]) (fun (_ : Unit) w => St w0 h64 w (var b70 (cGFrame y64.1 a65 c65 a66 c66 a67 c67) 40 :: row rGValue 16 h64 a66 c66 y64.1.Locals :: row rGSlot 48 h64 a67 c67 y64.1.Slots :: var b63 [.int .i64 y62.1.Trap, .int .i64 y62.1.V.Re, .int .i64 y62.1.V.Im] 36 :: var b61 [.int .i64 y60.1.Trap, .int .i64 y60.1.V.Re, .int .i64 y60.1.V.Im] 36 :: var b59 (cGAct y53.2 a57 c57) 50 :: var b58 (cGFrame y53.1 a54 c54 a55 c55 a56 c56) 40 :: var b50 (cGAct y45.2 a49 c49) 50 :: var b44 (cGFrame y45.1 a46 c46 a47 c47 a48 c48) 40 :: var b39 (cGFrame y35.1 a36 c36 a37 c37 a38 c38) 40 :: var b34 (cGAct y29.2 a33 c33) 50 :: var b28 (cGAct y23.2 a27 c27) 50 :: var b22 (cGAct y17.2 a21 c21) 50 :: var b11 (cGFrame y29.1 a30 c30 a31 c31 a32 c32) 40 :: L)) ?_ (fun hk_y72 => ?_)
  {
  rintro _ w H
  refine WL.sg 1 kr ?_
  obtain ⟨y73, hy73, hr⟩ := bnd_cases hr
  refine WL.join 4 (fun (_ : Unit) => [(2, .pointer (some ⟨b11, 0, none⟩)), (5, .pointer (some ⟨b28, 0, none⟩)), (6, .pointer (some ⟨b34, 0, none⟩)), (7, .pointer (some ⟨b39, 0, none⟩)), (8, .bool y35.2), (9, .pointer (some ⟨b44, 0, none⟩)), (10, .bool y40.2), (11, .pointer (some ⟨b50, 0, none⟩)), (13, .pointer (some ⟨b59, 0, none⟩)), (14, .pointer (some ⟨b61, 0, none⟩)), (15, .bool y60.2), (17, .bool y62.2), (19, .bool y64.2), (127, .bool y73)]) (fun (_ : Unit) w => St w0 h64 w (var b70 (cGFrame y64.1 a65 c65 a66 c66 a67 c67) 40 :: row rGValue 16 h64 a66 c66 y64.1.Locals :: row rGSlot 48 h64 a67 c67 y64.1.Slots :: var b63 [.int .i64 y62.1.Trap, .int .i64 y62.1.V.Re, .int .i64 y62.1.V.Im] 36 :: var b61 [.int .i64 y60.1.Trap, .int .i64 y60.1.V.Re, .int .i64 y60.1.V.Im] 36 :: var b59 (cGAct y53.2 a57 c57) 50 :: var b58 (cGFrame y53.1 a54 c54 a55 c55 a56 c56) 40 :: var b50 (cGAct y45.2 a49 c49) 50 :: var b44 (cGFrame y45.1 a46 c46 a47 c47 a48 c48) 40 :: var b39 (cGFrame y35.1 a36 c36 a37 c37 a38 c38) 40 :: var b34 (cGAct y29.2 a33 c33) 50 :: var b28 (cGAct y23.2 a27 c27) 50 :: var b22 (cGAct y17.2 a21 c21) 50 :: var b11 (cGFrame y29.1 a30 c30 a31 c31 a32 c32) 40 :: L)) ?_ (fun hk_y73 => ?_)
  {
  rintro _ w H
  refine WL.sg 1 kr ?_
  obtain ⟨y74, hy74, hr⟩ := bind_cases hr
  refine WL.join 7 (fun (_ : Unit) => [(2, .pointer (some ⟨b11, 0, none⟩)), (6, .pointer (some ⟨b34, 0, none⟩)), (7, .pointer (some ⟨b39, 0, none⟩)), (8, .bool y35.2), (9, .pointer (some ⟨b44, 0, none⟩)), (10, .bool y40.2), (11, .pointer (some ⟨b50, 0, none⟩)), (13, .pointer (some ⟨b59, 0, none⟩)), (14, .pointer (some ⟨b61, 0, none⟩)), (15, .bool y60.2), (17, .bool y62.2), (19, .bool y64.2), (135, .bool y74)]) (fun (_ : Unit) w => St w0 h64 w (var b70 (cGFrame y64.1 a65 c65 a66 c66 a67 c67) 40 :: row rGValue 16 h64 a66 c66 y64.1.Locals :: row rGSlot 48 h64 a67 c67 y64.1.Slots :: var b63 [.int .i64 y62.1.Trap, .int .i64 y62.1.V.Re, .int .i64 y62.1.V.Im] 36 :: var b61 [.int .i64 y60.1.Trap, .int .i64 y60.1.V.Re, .int .i64 y60.1.V.Im] 36 :: var b59 (cGAct y53.2 a57 c57) 50 :: var b58 (cGFrame y53.1 a54 c54 a55 c55 a56 c56) 40 :: var b50 (cGAct y45.2 a49 c49) 50 :: var b44 (cGFrame y45.1 a46 c46 a47 c47 a48 c48) 40 :: var b39 (cGFrame y35.1 a36 c36 a37 c37 a38 c38) 40 :: var b34 (cGAct y29.2 a33 c33) 50 :: var b28 (cGAct y23.2 a27 c27) 50 :: var b22 (cGAct y17.2 a21 c21) 50 :: var b11 (cGFrame y29.1 a30 c30 a31 c31 a32 c32) 40 :: L)) ?_ (fun hk_y74 => ?_)
  {
  rintro _ w H
  refine WL.sg 1 kr ?_
  obtain ⟨y76, hy76, hr⟩ := bnd_cases hr
  refine WL.join 4 (fun (_ : Unit) => [(2, .pointer (some ⟨b11, 0, none⟩)), (6, .pointer (some ⟨b34, 0, none⟩)), (7, .pointer (some ⟨b39, 0, none⟩)), (8, .bool y35.2), (9, .pointer (some ⟨b44, 0, none⟩)), (10, .bool y40.2), (11, .pointer (some ⟨b50, 0, none⟩)), (13, .pointer (some ⟨b59, 0, none⟩)), (14, .pointer (some ⟨b61, 0, none⟩)), (15, .bool y60.2), (17, .bool y62.2), (19, .bool y64.2), (140, .bool y76)]) (fun (_ : Unit) w => St w0 h64 w (var b70 (cGFrame y64.1 a65 c65 a66 c66 a67 c67) 40 :: row rGValue 16 h64 a66 c66 y64.1.Locals :: row rGSlot 48 h64 a67 c67 y64.1.Slots :: var b63 [.int .i64 y62.1.Trap, .int .i64 y62.1.V.Re, .int .i64 y62.1.V.Im] 36 :: var b61 [.int .i64 y60.1.Trap, .int .i64 y60.1.V.Re, .int .i64 y60.1.V.Im] 36 :: var b59 (cGAct y53.2 a57 c57) 50 :: var b58 (cGFrame y53.1 a54 c54 a55 c55 a56 c56) 40 :: var b50 (cGAct y45.2 a49 c49) 50 :: var b44 (cGFrame y45.1 a46 c46 a47 c47 a48 c48) 40 :: var b39 (cGFrame y35.1 a36 c36 a37 c37 a38 c38) 40 :: var b34 (cGAct y29.2 a33 c33) 50 :: var b28 (cGAct y23.2 a27 c27) 50 :: var b22 (cGAct y17.2 a21 c21) 50 :: var b11 (cGFrame y29.1 a30 c30 a31 c31 a32 c32) 40 :: L)) ?_ (fun hk_y76 => ?_)
  {
  rintro _ w H
  refine WL.sg 1 kr ?_
  obtain ⟨y77, hy77, hr⟩ := bnd_cases hr
  refine WL.join 4 (fun (_ : Unit) => [(2, .pointer (some ⟨b11, 0, none⟩)), (7, .pointer (some ⟨b39, 0, none⟩)), (8, .bool y35.2), (9, .pointer (some ⟨b44, 0, none⟩)), (10, .bool y40.2), (11, .pointer (some ⟨b50, 0, none⟩)), (13, .pointer (some ⟨b59, 0, none⟩)), (14, .pointer (some ⟨b61, 0, none⟩)), (15, .bool y60.2), (17, .bool y62.2), (19, .bool y64.2), (145, .bool y77)]) (fun (_ : Unit) w => St w0 h64 w (var b70 (cGFrame y64.1 a65 c65 a66 c66 a67 c67) 40 :: row rGValue 16 h64 a66 c66 y64.1.Locals :: row rGSlot 48 h64 a67 c67 y64.1.Slots :: var b63 [.int .i64 y62.1.Trap, .int .i64 y62.1.V.Re, .int .i64 y62.1.V.Im] 36 :: var b61 [.int .i64 y60.1.Trap, .int .i64 y60.1.V.Re, .int .i64 y60.1.V.Im] 36 :: var b59 (cGAct y53.2 a57 c57) 50 :: var b58 (cGFrame y53.1 a54 c54 a55 c55 a56 c56) 40 :: var b50 (cGAct y45.2 a49 c49) 50 :: var b44 (cGFrame y45.1 a46 c46 a47 c47 a48 c48) 40 :: var b39 (cGFrame y35.1 a36 c36 a37 c37 a38 c38) 40 :: var b34 (cGAct y29.2 a33 c33) 50 :: var b28 (cGAct y23.2 a27 c27) 50 :: var b22 (cGAct y17.2 a21 c21) 50 :: var b11 (cGFrame y29.1 a30 c30 a31 c31 a32 c32) 40 :: L)) ?_ (fun hk_y77 => ?_)
  {
  rintro _ w H
  refine WL.sg 1 kr ?_
  obtain ⟨y78, hy78, hr⟩ := bnd_cases hr
  refine WL.join 4 (fun (_ : Unit) => [(2, .pointer (some ⟨b11, 0, none⟩)), (7, .pointer (some ⟨b39, 0, none⟩)), (8, .bool y35.2), (9, .pointer (some ⟨b44, 0, none⟩)), (10, .bool y40.2), (11, .pointer (some ⟨b50, 0, none⟩)), (13, .pointer (some ⟨b59, 0, none⟩)), (14, .pointer (some ⟨b61, 0, none⟩)), (15, .bool y60.2), (17, .bool y62.2), (19, .bool y64.2), (150, .bool y78)]) (fun (_ : Unit) w => St w0 h64 w (var b70 (cGFrame y64.1 a65 c65 a66 c66 a67 c67) 40 :: row rGValue 16 h64 a66 c66 y64.1.Locals :: row rGSlot 48 h64 a67 c67 y64.1.Slots :: var b63 [.int .i64 y62.1.Trap, .int .i64 y62.1.V.Re, .int .i64 y62.1.V.Im] 36 :: var b61 [.int .i64 y60.1.Trap, .int .i64 y60.1.V.Re, .int .i64 y60.1.V.Im] 36 :: var b59 (cGAct y53.2 a57 c57) 50 :: var b58 (cGFrame y53.1 a54 c54 a55 c55 a56 c56) 40 :: var b50 (cGAct y45.2 a49 c49) 50 :: var b44 (cGFrame y45.1 a46 c46 a47 c47 a48 c48) 40 :: var b39 (cGFrame y35.1 a36 c36 a37 c37 a38 c38) 40 :: var b34 (cGAct y29.2 a33 c33) 50 :: var b28 (cGAct y23.2 a27 c27) 50 :: var b22 (cGAct y17.2 a21 c21) 50 :: var b11 (cGFrame y29.1 a30 c30 a31 c31 a32 c32) 40 :: L)) ?_ (fun hk_y78 => ?_)
  {
  rintro _ w H
  refine WL.sg 1 kr ?_
  obtain ⟨y79, hy79, hr⟩ := bnd_cases hr
  refine WL.join 4 (fun (_ : Unit) => [(2, .pointer (some ⟨b11, 0, none⟩)), (7, .pointer (some ⟨b39, 0, none⟩)), (8, .bool y35.2), (9, .pointer (some ⟨b44, 0, none⟩)), (10, .bool y40.2), (11, .pointer (some ⟨b50, 0, none⟩)), (13, .pointer (some ⟨b59, 0, none⟩)), (14, .pointer (some ⟨b61, 0, none⟩)), (15, .bool y60.2), (17, .bool y62.2), (19, .bool y64.2), (155, .bool y79)]) (fun (_ : Unit) w => St w0 h64 w (var b70 (cGFrame y64.1 a65 c65 a66 c66 a67 c67) 40 :: row rGValue 16 h64 a66 c66 y64.1.Locals :: row rGSlot 48 h64 a67 c67 y64.1.Slots :: var b63 [.int .i64 y62.1.Trap, .int .i64 y62.1.V.Re, .int .i64 y62.1.V.Im] 36 :: var b61 [.int .i64 y60.1.Trap, .int .i64 y60.1.V.Re, .int .i64 y60.1.V.Im] 36 :: var b59 (cGAct y53.2 a57 c57) 50 :: var b58 (cGFrame y53.1 a54 c54 a55 c55 a56 c56) 40 :: var b50 (cGAct y45.2 a49 c49) 50 :: var b44 (cGFrame y45.1 a46 c46 a47 c47 a48 c48) 40 :: var b39 (cGFrame y35.1 a36 c36 a37 c37 a38 c38) 40 :: var b34 (cGAct y29.2 a33 c33) 50 :: var b28 (cGAct y23.2 a27 c27) 50 :: var b22 (cGAct y17.2 a21 c21) 50 :: var b11 (cGFrame y29.1 a30 c30 a31 c31 a32 c32) 40 :: L)) ?_ (fun hk_y79 => ?_)
  {
  rintro _ w H
  refine WL.sg 1 kr ?_
  obtain ⟨y80, hy80, hr⟩ := bnd_cases hr
  refine WL.join 3 (fun (_ : Unit) => [(2, .pointer (some ⟨b11, 0, none⟩)), (7, .pointer (some ⟨b39, 0, none⟩)), (9, .pointer (some ⟨b44, 0, none⟩)), (10, .bool y40.2), (11, .pointer (some ⟨b50, 0, none⟩)), (13, .pointer (some ⟨b59, 0, none⟩)), (14, .pointer (some ⟨b61, 0, none⟩)), (15, .bool y60.2), (17, .bool y62.2), (19, .bool y64.2), (159, .bool y80)]) (fun (_ : Unit) w => St w0 h64 w (var b70 (cGFrame y64.1 a65 c65 a66 c66 a67 c67) 40 :: row rGValue 16 h64 a66 c66 y64.1.Locals :: row rGSlot 48 h64 a67 c67 y64.1.Slots :: var b63 [.int .i64 y62.1.Trap, .int .i64 y62.1.V.Re, .int .i64 y62.1.V.Im] 36 :: var b61 [.int .i64 y60.1.Trap, .int .i64 y60.1.V.Re, .int .i64 y60.1.V.Im] 36 :: var b59 (cGAct y53.2 a57 c57) 50 :: var b58 (cGFrame y53.1 a54 c54 a55 c55 a56 c56) 40 :: var b50 (cGAct y45.2 a49 c49) 50 :: var b44 (cGFrame y45.1 a46 c46 a47 c47 a48 c48) 40 :: var b39 (cGFrame y35.1 a36 c36 a37 c37 a38 c38) 40 :: var b34 (cGAct y29.2 a33 c33) 50 :: var b28 (cGAct y23.2 a27 c27) 50 :: var b22 (cGAct y17.2 a21 c21) 50 :: var b11 (cGFrame y29.1 a30 c30 a31 c31 a32 c32) 40 :: L)) ?_ (fun hk_y80 => ?_)
  {
  rintro _ w H
  refine WL.sg 1 kr ?_
  obtain ⟨y81, hy81, hr⟩ := bind_cases hr
  refine WL.join 4 (fun (_ : Unit) => [(2, .pointer (some ⟨b11, 0, none⟩)), (9, .pointer (some ⟨b44, 0, none⟩)), (10, .bool y40.2), (11, .pointer (some ⟨b50, 0, none⟩)), (13, .pointer (some ⟨b59, 0, none⟩)), (14, .pointer (some ⟨b61, 0, none⟩)), (15, .bool y60.2), (17, .bool y62.2), (19, .bool y64.2), (164, .bool y81)]) (fun (_ : Unit) w => St w0 h64 w (var b70 (cGFrame y64.1 a65 c65 a66 c66 a67 c67) 40 :: row rGValue 16 h64 a66 c66 y64.1.Locals :: row rGSlot 48 h64 a67 c67 y64.1.Slots :: var b63 [.int .i64 y62.1.Trap, .int .i64 y62.1.V.Re, .int .i64 y62.1.V.Im] 36 :: var b61 [.int .i64 y60.1.Trap, .int .i64 y60.1.V.Re, .int .i64 y60.1.V.Im] 36 :: var b59 (cGAct y53.2 a57 c57) 50 :: var b58 (cGFrame y53.1 a54 c54 a55 c55 a56 c56) 40 :: var b50 (cGAct y45.2 a49 c49) 50 :: var b44 (cGFrame y45.1 a46 c46 a47 c47 a48 c48) 40 :: var b39 (cGFrame y35.1 a36 c36 a37 c37 a38 c38) 40 :: var b34 (cGAct y29.2 a33 c33) 50 :: var b28 (cGAct y23.2 a27 c27) 50 :: var b22 (cGAct y17.2 a21 c21) 50 :: var b11 (cGFrame y29.1 a30 c30 a31 c31 a32 c32) 40 :: L)) ?_ (fun hk_y81 => ?_)
  {
  rintro _ w H
  refine WL.sg 1 kr ?_
  obtain ⟨y83, hy83, hr⟩ := bnd_cases hr
  refine WL.join 2 (fun (_ : Unit) => [(2, .pointer (some ⟨b11, 0, none⟩)), (9, .pointer (some ⟨b44, 0, none⟩)), (11, .pointer (some ⟨b50, 0, none⟩)), (13, .pointer (some ⟨b59, 0, none⟩)), (14, .pointer (some ⟨b61, 0, none⟩)), (15, .bool y60.2), (17, .bool y62.2), (19, .bool y64.2), (167, .bool y83)]) (fun (_ : Unit) w => St w0 h64 w (var b70 (cGFrame y64.1 a65 c65 a66 c66 a67 c67) 40 :: row rGValue 16 h64 a66 c66 y64.1.Locals :: row rGSlot 48 h64 a67 c67 y64.1.Slots :: var b63 [.int .i64 y62.1.Trap, .int .i64 y62.1.V.Re, .int .i64 y62.1.V.Im] 36 :: var b61 [.int .i64 y60.1.Trap, .int .i64 y60.1.V.Re, .int .i64 y60.1.V.Im] 36 :: var b59 (cGAct y53.2 a57 c57) 50 :: var b58 (cGFrame y53.1 a54 c54 a55 c55 a56 c56) 40 :: var b50 (cGAct y45.2 a49 c49) 50 :: var b44 (cGFrame y45.1 a46 c46 a47 c47 a48 c48) 40 :: var b39 (cGFrame y35.1 a36 c36 a37 c37 a38 c38) 40 :: var b34 (cGAct y29.2 a33 c33) 50 :: var b28 (cGAct y23.2 a27 c27) 50 :: var b22 (cGAct y17.2 a21 c21) 50 :: var b11 (cGFrame y29.1 a30 c30 a31 c31 a32 c32) 40 :: L)) ?_ (fun hk_y83 => ?_)
  {
  rintro _ w H
  refine WL.sg 1 kr ?_
  obtain ⟨y84, hy84, hr⟩ := bnd_cases hr
  refine WL.join 4 (fun (_ : Unit) => [(2, .pointer (some ⟨b11, 0, none⟩)), (9, .pointer (some ⟨b44, 0, none⟩)), (13, .pointer (some ⟨b59, 0, none⟩)), (14, .pointer (some ⟨b61, 0, none⟩)), (15, .bool y60.2), (17, .bool y62.2), (19, .bool y64.2), (172, .bool y84)]) (fun (_ : Unit) w => St w0 h64 w (var b70 (cGFrame y64.1 a65 c65 a66 c66 a67 c67) 40 :: row rGValue 16 h64 a66 c66 y64.1.Locals :: row rGSlot 48 h64 a67 c67 y64.1.Slots :: var b63 [.int .i64 y62.1.Trap, .int .i64 y62.1.V.Re, .int .i64 y62.1.V.Im] 36 :: var b61 [.int .i64 y60.1.Trap, .int .i64 y60.1.V.Re, .int .i64 y60.1.V.Im] 36 :: var b59 (cGAct y53.2 a57 c57) 50 :: var b58 (cGFrame y53.1 a54 c54 a55 c55 a56 c56) 40 :: var b50 (cGAct y45.2 a49 c49) 50 :: var b44 (cGFrame y45.1 a46 c46 a47 c47 a48 c48) 40 :: var b39 (cGFrame y35.1 a36 c36 a37 c37 a38 c38) 40 :: var b34 (cGAct y29.2 a33 c33) 50 :: var b28 (cGAct y23.2 a27 c27) 50 :: var b22 (cGAct y17.2 a21 c21) 50 :: var b11 (cGFrame y29.1 a30 c30 a31 c31 a32 c32) 40 :: L)) ?_ (fun hk_y84 => ?_)
  {
  rintro _ w H
  refine WL.sg 1 kr ?_
  obtain ⟨y85, hy85, hr⟩ := bind_cases hr
  refine WL.join 7 (fun (_ : Unit) => [(2, .pointer (some ⟨b11, 0, none⟩)), (9, .pointer (some ⟨b44, 0, none⟩)), (13, .pointer (some ⟨b59, 0, none⟩)), (14, .pointer (some ⟨b61, 0, none⟩)), (15, .bool y60.2), (17, .bool y62.2), (19, .bool y64.2), (180, .bool y85)]) (fun (_ : Unit) w => St w0 h64 w (var b70 (cGFrame y64.1 a65 c65 a66 c66 a67 c67) 40 :: row rGValue 16 h64 a66 c66 y64.1.Locals :: row rGSlot 48 h64 a67 c67 y64.1.Slots :: var b63 [.int .i64 y62.1.Trap, .int .i64 y62.1.V.Re, .int .i64 y62.1.V.Im] 36 :: var b61 [.int .i64 y60.1.Trap, .int .i64 y60.1.V.Re, .int .i64 y60.1.V.Im] 36 :: var b59 (cGAct y53.2 a57 c57) 50 :: var b58 (cGFrame y53.1 a54 c54 a55 c55 a56 c56) 40 :: var b50 (cGAct y45.2 a49 c49) 50 :: var b44 (cGFrame y45.1 a46 c46 a47 c47 a48 c48) 40 :: var b39 (cGFrame y35.1 a36 c36 a37 c37 a38 c38) 40 :: var b34 (cGAct y29.2 a33 c33) 50 :: var b28 (cGAct y23.2 a27 c27) 50 :: var b22 (cGAct y17.2 a21 c21) 50 :: var b11 (cGFrame y29.1 a30 c30 a31 c31 a32 c32) 40 :: L)) ?_ (fun hk_y85 => ?_)
  {
  rintro _ w H
  refine WL.sg 1 kr ?_
  obtain ⟨y87, hy87, hr⟩ := bnd_cases hr
  refine WL.join 4 (fun (_ : Unit) => [(2, .pointer (some ⟨b11, 0, none⟩)), (9, .pointer (some ⟨b44, 0, none⟩)), (14, .pointer (some ⟨b61, 0, none⟩)), (15, .bool y60.2), (17, .bool y62.2), (19, .bool y64.2), (185, .bool y87)]) (fun (_ : Unit) w => St w0 h64 w (var b70 (cGFrame y64.1 a65 c65 a66 c66 a67 c67) 40 :: row rGValue 16 h64 a66 c66 y64.1.Locals :: row rGSlot 48 h64 a67 c67 y64.1.Slots :: var b63 [.int .i64 y62.1.Trap, .int .i64 y62.1.V.Re, .int .i64 y62.1.V.Im] 36 :: var b61 [.int .i64 y60.1.Trap, .int .i64 y60.1.V.Re, .int .i64 y60.1.V.Im] 36 :: var b59 (cGAct y53.2 a57 c57) 50 :: var b58 (cGFrame y53.1 a54 c54 a55 c55 a56 c56) 40 :: var b50 (cGAct y45.2 a49 c49) 50 :: var b44 (cGFrame y45.1 a46 c46 a47 c47 a48 c48) 40 :: var b39 (cGFrame y35.1 a36 c36 a37 c37 a38 c38) 40 :: var b34 (cGAct y29.2 a33 c33) 50 :: var b28 (cGAct y23.2 a27 c27) 50 :: var b22 (cGAct y17.2 a21 c21) 50 :: var b11 (cGFrame y29.1 a30 c30 a31 c31 a32 c32) 40 :: L)) ?_ (fun hk_y87 => ?_)
  {
  rintro _ w H
  refine WL.sg 1 kr ?_
  obtain ⟨y88, hy88, hr⟩ := bnd_cases hr
  refine WL.join 2 (fun (_ : Unit) => [(2, .pointer (some ⟨b11, 0, none⟩)), (9, .pointer (some ⟨b44, 0, none⟩)), (14, .pointer (some ⟨b61, 0, none⟩)), (17, .bool y62.2), (19, .bool y64.2), (188, .bool y88)]) (fun (_ : Unit) w => St w0 h64 w (var b70 (cGFrame y64.1 a65 c65 a66 c66 a67 c67) 40 :: row rGValue 16 h64 a66 c66 y64.1.Locals :: row rGSlot 48 h64 a67 c67 y64.1.Slots :: var b63 [.int .i64 y62.1.Trap, .int .i64 y62.1.V.Re, .int .i64 y62.1.V.Im] 36 :: var b61 [.int .i64 y60.1.Trap, .int .i64 y60.1.V.Re, .int .i64 y60.1.V.Im] 36 :: var b59 (cGAct y53.2 a57 c57) 50 :: var b58 (cGFrame y53.1 a54 c54 a55 c55 a56 c56) 40 :: var b50 (cGAct y45.2 a49 c49) 50 :: var b44 (cGFrame y45.1 a46 c46 a47 c47 a48 c48) 40 :: var b39 (cGFrame y35.1 a36 c36 a37 c37 a38 c38) 40 :: var b34 (cGAct y29.2 a33 c33) 50 :: var b28 (cGAct y23.2 a27 c27) 50 :: var b22 (cGAct y17.2 a21 c21) 50 :: var b11 (cGFrame y29.1 a30 c30 a31 c31 a32 c32) 40 :: L)) ?_ (fun hk_y88 => ?_)
  {
  rintro _ w H
  refine WL.sg 1 kr ?_
  obtain ⟨y89, hy89, hr⟩ := bnd_cases hr
  refine WL.join 4 (fun (_ : Unit) => [(2, .pointer (some ⟨b11, 0, none⟩)), (9, .pointer (some ⟨b44, 0, none⟩)), (17, .bool y62.2), (19, .bool y64.2), (193, .bool y89)]) (fun (_ : Unit) w => St w0 h64 w (var b70 (cGFrame y64.1 a65 c65 a66 c66 a67 c67) 40 :: row rGValue 16 h64 a66 c66 y64.1.Locals :: row rGSlot 48 h64 a67 c67 y64.1.Slots :: var b63 [.int .i64 y62.1.Trap, .int .i64 y62.1.V.Re, .int .i64 y62.1.V.Im] 36 :: var b61 [.int .i64 y60.1.Trap, .int .i64 y60.1.V.Re, .int .i64 y60.1.V.Im] 36 :: var b59 (cGAct y53.2 a57 c57) 50 :: var b58 (cGFrame y53.1 a54 c54 a55 c55 a56 c56) 40 :: var b50 (cGAct y45.2 a49 c49) 50 :: var b44 (cGFrame y45.1 a46 c46 a47 c47 a48 c48) 40 :: var b39 (cGFrame y35.1 a36 c36 a37 c37 a38 c38) 40 :: var b34 (cGAct y29.2 a33 c33) 50 :: var b28 (cGAct y23.2 a27 c27) 50 :: var b22 (cGAct y17.2 a21 c21) 50 :: var b11 (cGFrame y29.1 a30 c30 a31 c31 a32 c32) 40 :: L)) ?_ (fun hk_y89 => ?_)
  {
  rintro _ w H
  refine WL.sg 1 kr ?_
  obtain ⟨y90, hy90, hr⟩ := bnd_cases hr
  refine WL.join 3 (fun (_ : Unit) => [(2, .pointer (some ⟨b11, 0, none⟩)), (9, .pointer (some ⟨b44, 0, none⟩)), (19, .bool y64.2), (197, .bool y90)]) (fun (_ : Unit) w => St w0 h64 w (var b70 (cGFrame y64.1 a65 c65 a66 c66 a67 c67) 40 :: row rGValue 16 h64 a66 c66 y64.1.Locals :: row rGSlot 48 h64 a67 c67 y64.1.Slots :: var b63 [.int .i64 y62.1.Trap, .int .i64 y62.1.V.Re, .int .i64 y62.1.V.Im] 36 :: var b61 [.int .i64 y60.1.Trap, .int .i64 y60.1.V.Re, .int .i64 y60.1.V.Im] 36 :: var b59 (cGAct y53.2 a57 c57) 50 :: var b58 (cGFrame y53.1 a54 c54 a55 c55 a56 c56) 40 :: var b50 (cGAct y45.2 a49 c49) 50 :: var b44 (cGFrame y45.1 a46 c46 a47 c47 a48 c48) 40 :: var b39 (cGFrame y35.1 a36 c36 a37 c37 a38 c38) 40 :: var b34 (cGAct y29.2 a33 c33) 50 :: var b28 (cGAct y23.2 a27 c27) 50 :: var b22 (cGAct y17.2 a21 c21) 50 :: var b11 (cGFrame y29.1 a30 c30 a31 c31 a32 c32) 40 :: L)) ?_ (fun hk_y90 => ?_)
  {
  rintro _ w H
  refine WL.sg 1 kr ?_
  obtain ⟨y91, hy91, hr⟩ := bnd_cases hr
  refine WL.join 3 (fun (_ : Unit) => [(2, .pointer (some ⟨b11, 0, none⟩)), (9, .pointer (some ⟨b44, 0, none⟩)), (201, .bool y91)]) (fun (_ : Unit) w => St w0 h64 w (var b70 (cGFrame y64.1 a65 c65 a66 c66 a67 c67) 40 :: row rGValue 16 h64 a66 c66 y64.1.Locals :: row rGSlot 48 h64 a67 c67 y64.1.Slots :: var b63 [.int .i64 y62.1.Trap, .int .i64 y62.1.V.Re, .int .i64 y62.1.V.Im] 36 :: var b61 [.int .i64 y60.1.Trap, .int .i64 y60.1.V.Re, .int .i64 y60.1.V.Im] 36 :: var b59 (cGAct y53.2 a57 c57) 50 :: var b58 (cGFrame y53.1 a54 c54 a55 c55 a56 c56) 40 :: var b50 (cGAct y45.2 a49 c49) 50 :: var b44 (cGFrame y45.1 a46 c46 a47 c47 a48 c48) 40 :: var b39 (cGFrame y35.1 a36 c36 a37 c37 a38 c38) 40 :: var b34 (cGAct y29.2 a33 c33) 50 :: var b28 (cGAct y23.2 a27 c27) 50 :: var b22 (cGAct y17.2 a21 c21) 50 :: var b11 (cGFrame y29.1 a30 c30 a31 c31 a32 c32) 40 :: L)) ?_ (fun hk_y91 => ?_)
  {
  rintro _ w H
  refine WL.sg 1 kr ?_
  obtain ⟨y92, hy92, hr⟩ := bind_cases hr
  refine WL.join 5 (fun (_ : Unit) => [(207, .bool y92)]) (fun (_ : Unit) w => St w0 h64 w (var b70 (cGFrame y64.1 a65 c65 a66 c66 a67 c67) 40 :: row rGValue 16 h64 a66 c66 y64.1.Locals :: row rGSlot 48 h64 a67 c67 y64.1.Slots :: var b63 [.int .i64 y62.1.Trap, .int .i64 y62.1.V.Re, .int .i64 y62.1.V.Im] 36 :: var b61 [.int .i64 y60.1.Trap, .int .i64 y60.1.V.Re, .int .i64 y60.1.V.Im] 36 :: var b59 (cGAct y53.2 a57 c57) 50 :: var b58 (cGFrame y53.1 a54 c54 a55 c55 a56 c56) 40 :: var b50 (cGAct y45.2 a49 c49) 50 :: var b44 (cGFrame y45.1 a46 c46 a47 c47 a48 c48) 40 :: var b39 (cGFrame y35.1 a36 c36 a37 c37 a38 c38) 40 :: var b34 (cGAct y29.2 a33 c33) 50 :: var b28 (cGAct y23.2 a27 c27) 50 :: var b22 (cGAct y17.2 a21 c21) 50 :: var b11 (cGFrame y29.1 a30 c30 a31 c31 a32 c32) 40 :: L)) ?_ (fun hk_y92 => ?_)
  {
  rintro _ w H
  refine WL.fin 1 kr kr ?_
  obtain rfl := Option.some.inj hr
  exact WE.ret ⟨[.bool y92], ⟨⟨kr, kr⟩, trivial⟩, ⟨rfl, ((H.keep 14).less ((((((((((((le1.trans le4).trans le5).trans le15).trans le16).trans le17).trans le23).trans le29).trans le35).trans le40).trans le45).trans le53).trans le64))⟩⟩
  }
  rcases ite_cases hy92 with ⟨ty92, hy92⟩ | ⟨ty92, hy92⟩
  {
  refine WL.known 202 ty92 kr kr ?_
  refine WL.does kr kr (Does.loadV H 13 rfl 0 kr kr ?_)
  refine WL.does kr kr (Does.loadV H 8 rfl 0 kr kr ?_)
  obtain ⟨y94, q94, hy92⟩ := bind_cases hy92
  refine WL.does kr kr (Does.call (c_frame_Same K y29.1 (((((f30.up le35).up le40).up le45).up le53).up le64) (((((f31.up le35).up le40).up le45).up le53).up le64) (((((f32.up le35).up le40).up le45).up le53).up le64) y45.1 ((f46.up le53).up le64) ((f47.up le53).up le64) ((f48.up le53).up le64) H q94) kr ?_)
  rintro _ w ⟨rfl, H⟩
  refine WL.sg 2 kr ?_
  obtain rfl := Option.some.inj hy92
  exact WL.live [207] kr (hk_y92 () _ H)
  }
  {
  refine WL.known 202 ty92 kr kr ?_
  refine WL.sg 5 kr ?_
  obtain rfl := Option.some.inj hy92
  exact WL.live [207] kr (hk_y92 () _ H)
  }
  }
  rcases ite_cases hy91 with ⟨ty91, hy91⟩ | ⟨ty91, hy91⟩
  {
  refine WL.known 198 ty91 kr kr ?_
  refine WL.sg 3 kr ?_
  obtain rfl := hy91
  exact WL.live [2, 9, 201] kr (hk_y91 () _ H)
  }
  {
  refine WL.known 198 ty91 kr kr ?_
  refine WL.sg 3 kr ?_
  obtain rfl := hy91
  exact WL.live [2, 9, 201] kr (hk_y91 () _ H)
  }
  }
  rcases ite_cases hy90 with ⟨ty90, hy90⟩ | ⟨ty90, hy90⟩
  {
  refine WL.known 194 ty90 kr kr ?_
  refine WL.sg 3 kr ?_
  obtain rfl := hy90
  exact WL.live [2, 9, 19, 197] kr (hk_y90 () _ H)
  }
  {
  refine WL.known 194 ty90 kr kr ?_
  refine WL.sg 3 kr ?_
  obtain rfl := hy90
  exact WL.live [2, 9, 19, 197] kr (hk_y90 () _ H)
  }
  }
  rcases ite_cases hy89 with ⟨ty89, hy89⟩ | ⟨ty89, hy89⟩
  {
  refine WL.known 189 ty89 kr kr ?_
  refine WL.sg 1 kr ?_
  refine WL.does kr kr (Does.loadV H 4 rfl 0 kr kr ?_)
  refine WL.sg 2 kr ?_
  obtain rfl := hy89
  exact WL.live [2, 9, 17, 19, 193] kr (hk_y89 () _ H)
  }
  {
  refine WL.known 189 ty89 kr kr ?_
  refine WL.sg 4 kr ?_
  obtain rfl := hy89
  exact WL.live [2, 9, 17, 19, 193] kr (hk_y89 () _ H)
  }
  }
  rcases ite_cases hy88 with ⟨ty88, hy88⟩ | ⟨ty88, hy88⟩
  {
  refine WL.known 186 ty88 kr kr ?_
  refine WL.sg 2 kr ?_
  obtain rfl := hy88
  exact WL.live [2, 9, 14, 17, 19, 188] kr (hk_y88 () _ H)
  }
  {
  refine WL.known 186 ty88 kr kr ?_
  refine WL.sg 2 kr ?_
  obtain rfl := hy88
  exact WL.live [2, 9, 14, 17, 19, 188] kr (hk_y88 () _ H)
  }
  }
  rcases ite_cases hy87 with ⟨ty87, hy87⟩ | ⟨ty87, hy87⟩
  {
  refine WL.known 181 ty87 kr kr ?_
  refine WL.sg 1 kr ?_
  refine WL.does kr kr (Does.loadV H 5 rfl 0 kr kr ?_)
  refine WL.sg 2 kr ?_
  obtain rfl := hy87
  exact WL.live [2, 9, 14, 15, 17, 19, 185] kr (hk_y87 () _ H)
  }
  {
  refine WL.known 181 ty87 kr kr ?_
  refine WL.sg 4 kr ?_
  obtain rfl := hy87
  exact WL.live [2, 9, 14, 15, 17, 19, 185] kr (hk_y87 () _ H)
  }
  }
  rcases ite_cases hy85 with ⟨ty85, hy85⟩ | ⟨ty85, hy85⟩
  {
  refine WL.known 173 ty85 kr kr ?_
  refine WL.sg 1 kr ?_
  refine WL.does kr kr (Does.loadV H 8 rfl 2 kr kr ?_)
  obtain ⟨⟨g0_95, g1_95⟩, hy85⟩ := grd_cases hy85
  obtain ⟨b95, p95, C95, e95, fr95, cs95, rfl, hb95, hc95, rfl⟩ := ((f46.up le53).up le64).at g0_95 g1_95
  refine WL.does kr kr (Does.tells (.idx b95 (p95) y45.1.Stack.length c46 (0 : Int) 2 kr kr g0_95 g1_95 kr) ?_)
  refine WL.does kr kr (Does.loadR H hb95 hc95 0 kr kr ?_)
  refine WL.sg 1 kr ?_
  refine WL.does kr kr (Does.tells (.eql ((((gd y45.1.Stack (0 : Int)).Re) == 0) && ((((gd y45.1.Stack (0 : Int)).Im) == 7) && true)) kr kr kr) ?_)
  refine WL.sg 1 kr ?_
  obtain rfl := Option.some.inj hy85
  exact WL.live [2, 9, 13, 14, 15, 17, 19, 180] kr (hk_y85 () _ H)
  }
  {
  refine WL.known 173 ty85 kr kr ?_
  refine WL.sg 7 kr ?_
  obtain rfl := Option.some.inj hy85
  exact WL.live [2, 9, 13, 14, 15, 17, 19, 180] kr (hk_y85 () _ H)
  }
  }
  rcases ite_cases hy84 with ⟨ty84, hy84⟩ | ⟨ty84, hy84⟩
  {
  refine WL.known 168 ty84 kr kr ?_
  refine WL.sg 1 kr ?_
  refine WL.does kr kr (Does.loadV H 7 rfl 0 kr kr ?_)
  refine WL.sg 2 kr ?_
  obtain rfl := hy84
  exact WL.live [2, 9, 13, 14, 15, 17, 19, 172] kr (hk_y84 () _ H)
  }
  {
  refine WL.known 168 ty84 kr kr ?_
  refine WL.sg 4 kr ?_
  obtain rfl := hy84
  exact WL.live [2, 9, 13, 14, 15, 17, 19, 172] kr (hk_y84 () _ H)
  }
  }
  rcases ite_cases hy83 with ⟨ty83, hy83⟩ | ⟨ty83, hy83⟩
  {
  refine WL.known 165 ty83 kr kr ?_
  refine WL.sg 2 kr ?_
  obtain rfl := hy83
  exact WL.live [2, 9, 11, 13, 14, 15, 17, 19, 167] kr (hk_y83 () _ H)
  }
  {
  refine WL.known 165 ty83 kr kr ?_
  refine WL.sg 2 kr ?_
  obtain rfl := hy83
  exact WL.live [2, 9, 11, 13, 14, 15, 17, 19, 167] kr (hk_y83 () _ H)
  }
  }
  rcases ite_cases hy81 with ⟨ty81, hy81⟩ | ⟨ty81, hy81⟩
  {
  refine WL.known 160 ty81 kr kr ?_
  refine WL.does kr kr (Does.loadV H 13 rfl 0 kr kr ?_)
  refine WL.does kr kr (Does.loadV H 9 rfl 0 kr kr ?_)
  obtain ⟨y96, q96, hy81⟩ := bind_cases hy81
  refine WL.does kr kr (Does.call (c_frame_Same K y29.1 (((((f30.up le35).up le40).up le45).up le53).up le64) (((((f31.up le35).up le40).up le45).up le53).up le64) (((((f32.up le35).up le40).up le45).up le53).up le64) y35.1 ((((f36.up le40).up le45).up le53).up le64) ((((f37.up le40).up le45).up le53).up le64) ((((f38.up le40).up le45).up le53).up le64) H q96) kr ?_)
  rintro _ w ⟨rfl, H⟩
  refine WL.sg 1 kr ?_
  obtain rfl := Option.some.inj hy81
  exact WL.live [2, 9, 10, 11, 13, 14, 15, 17, 19, 164] kr (hk_y81 () _ H)
  }
  {
  refine WL.known 160 ty81 kr kr ?_
  refine WL.sg 4 kr ?_
  obtain rfl := Option.some.inj hy81
  exact WL.live [2, 9, 10, 11, 13, 14, 15, 17, 19, 164] kr (hk_y81 () _ H)
  }
  }
  rcases ite_cases hy80 with ⟨ty80, hy80⟩ | ⟨ty80, hy80⟩
  {
  refine WL.known 156 ty80 kr kr ?_
  refine WL.sg 3 kr ?_
  obtain rfl := hy80
  exact WL.live [2, 7, 9, 10, 11, 13, 14, 15, 17, 19, 159] kr (hk_y80 () _ H)
  }
  {
  refine WL.known 156 ty80 kr kr ?_
  refine WL.sg 3 kr ?_
  obtain rfl := hy80
  exact WL.live [2, 7, 9, 10, 11, 13, 14, 15, 17, 19, 159] kr (hk_y80 () _ H)
  }
  }
  rcases ite_cases hy79 with ⟨ty79, hy79⟩ | ⟨ty79, hy79⟩
  {
  refine WL.known 151 ty79 kr kr ?_
  refine WL.sg 1 kr ?_
  refine WL.does kr kr (Does.loadV H 13 rfl 9 kr kr ?_)
  refine WL.sg 2 kr ?_
  obtain rfl := hy79
  exact WL.live [2, 7, 8, 9, 10, 11, 13, 14, 15, 17, 19, 155] kr (hk_y79 () _ H)
  }
  {
  refine WL.known 151 ty79 kr kr ?_
  refine WL.sg 4 kr ?_
  obtain rfl := hy79
  exact WL.live [2, 7, 8, 9, 10, 11, 13, 14, 15, 17, 19, 155] kr (hk_y79 () _ H)
  }
  }
  rcases ite_cases hy78 with ⟨ty78, hy78⟩ | ⟨ty78, hy78⟩
  {
  refine WL.known 146 ty78 kr kr ?_
  refine WL.sg 1 kr ?_
  refine WL.does kr kr (Does.loadV H 13 rfl 8 kr kr ?_)
  refine WL.sg 2 kr ?_
  obtain rfl := hy78
  exact WL.live [2, 7, 8, 9, 10, 11, 13, 14, 15, 17, 19, 150] kr (hk_y78 () _ H)
  }
  {
  refine WL.known 146 ty78 kr kr ?_
  refine WL.sg 4 kr ?_
  obtain rfl := hy78
  exact WL.live [2, 7, 8, 9, 10, 11, 13, 14, 15, 17, 19, 150] kr (hk_y78 () _ H)
  }
  }
  rcases ite_cases hy77 with ⟨ty77, hy77⟩ | ⟨ty77, hy77⟩
  {
  refine WL.known 141 ty77 kr kr ?_
  refine WL.sg 1 kr ?_
  refine WL.does kr kr (Does.loadV H 10 rfl 0 kr kr ?_)
  refine WL.sg 2 kr ?_
  obtain rfl := hy77
  exact WL.live [2, 7, 8, 9, 10, 11, 13, 14, 15, 17, 19, 145] kr (hk_y77 () _ H)
  }
  {
  refine WL.known 141 ty77 kr kr ?_
  refine WL.sg 4 kr ?_
  obtain rfl := hy77
  exact WL.live [2, 7, 8, 9, 10, 11, 13, 14, 15, 17, 19, 145] kr (hk_y77 () _ H)
  }
  }
  rcases ite_cases hy76 with ⟨ty76, hy76⟩ | ⟨ty76, hy76⟩
  {
  refine WL.known 136 ty76 kr kr ?_
  refine WL.sg 1 kr ?_
  refine WL.does kr kr (Does.loadV H 13 rfl 6 kr kr ?_)
  refine WL.sg 2 kr ?_
  obtain rfl := hy76
  exact WL.live [2, 6, 7, 8, 9, 10, 11, 13, 14, 15, 17, 19, 140] kr (hk_y76 () _ H)
  }
  {
  refine WL.known 136 ty76 kr kr ?_
  refine WL.sg 4 kr ?_
  obtain rfl := hy76
  exact WL.live [2, 6, 7, 8, 9, 10, 11, 13, 14, 15, 17, 19, 140] kr (hk_y76 () _ H)
  }
  }
  rcases ite_cases hy74 with ⟨ty74, hy74⟩ | ⟨ty74, hy74⟩
  {
  refine WL.known 128 ty74 kr kr ?_
  refine WL.sg 1 kr ?_
  refine WL.does kr kr (Does.loadV H 11 rfl 4 kr kr ?_)
  obtain ⟨⟨g0_97, g1_97⟩, hy74⟩ := grd_cases hy74
  obtain ⟨b97, p97, C97, e97, fr97, cs97, rfl, hb97, hc97, rfl⟩ := ((((((f27.up le29).up le35).up le40).up le45).up le53).up le64).at g0_97 g1_97
  refine WL.does kr kr (Does.tells (.idx b97 (p97) y23.2.Args.length c27 (0 : Int) 2 kr kr g0_97 g1_97 kr) ?_)
  refine WL.does kr kr (Does.loadR H hb97 hc97 0 kr kr ?_)
  refine WL.sg 1 kr ?_
  refine WL.does kr kr (Does.tells (.eql ((((gd y23.2.Args (0 : Int)).Re) == 5) && ((((gd y23.2.Args (0 : Int)).Im) == 0) && true)) kr kr kr) ?_)
  refine WL.sg 1 kr ?_
  obtain rfl := Option.some.inj hy74
  exact WL.live [2, 6, 7, 8, 9, 10, 11, 13, 14, 15, 17, 19, 135] kr (hk_y74 () _ H)
  }
  {
  refine WL.known 128 ty74 kr kr ?_
  refine WL.sg 7 kr ?_
  obtain rfl := Option.some.inj hy74
  exact WL.live [2, 6, 7, 8, 9, 10, 11, 13, 14, 15, 17, 19, 135] kr (hk_y74 () _ H)
  }
  }
  rcases ite_cases hy73 with ⟨ty73, hy73⟩ | ⟨ty73, hy73⟩
  {
  refine WL.known 123 ty73 kr kr ?_
  refine WL.sg 1 kr ?_
  refine WL.does kr kr (Does.loadV H 11 rfl 2 kr kr ?_)
  refine WL.sg 2 kr ?_
  obtain rfl := hy73
  exact WL.live [2, 5, 6, 7, 8, 9, 10, 11, 13, 14, 15, 17, 19, 127] kr (hk_y73 () _ H)
  }
  {
  refine WL.known 123 ty73 kr kr ?_
  refine WL.sg 4 kr ?_
  obtain rfl := hy73
  exact WL.live [2, 5, 6, 7, 8, 9, 10, 11, 13, 14, 15, 17, 19, 127] kr (hk_y73 () _ H)
  }
  }
  rcases ite_cases hy72 with ⟨ty72, hy72⟩ | ⟨ty72, hy72⟩
  {
  refine WL.known 118 ty72 kr kr ?_
  refine WL.sg 1 kr ?_
  refine WL.does kr kr (Does.loadV H 11 rfl 1 kr kr ?_)
  refine WL.sg 2 kr ?_
  obtain rfl := hy72
  exact WL.live [2, 5, 6, 7, 8, 9, 10, 11, 13, 14, 15, 17, 19, 122] kr (hk_y72 () _ H)
  }
  {
  refine WL.known 118 ty72 kr kr ?_
  refine WL.sg 4 kr ?_
  obtain rfl := hy72
  exact WL.live [2, 5, 6, 7, 8, 9, 10, 11, 13, 14, 15, 17, 19, 122] kr (hk_y72 () _ H)
  }
  }
  rcases ite_cases hy71 with ⟨ty71, hy71⟩ | ⟨ty71, hy71⟩
  {
  refine WL.known 113 ty71 kr kr ?_
  refine WL.sg 1 kr ?_
  refine WL.does kr kr (Does.loadV H 11 rfl 0 kr kr ?_)
  refine WL.sg 2 kr ?_
  obtain rfl := hy71
  exact WL.live [2, 5, 6, 7, 8, 9, 10, 11, 13, 14, 15, 17, 19, 117] kr (hk_y71 () _ H)
  }
  {
  refine WL.known 113 ty71 kr kr ?_
  refine WL.sg 4 kr ?_
  obtain rfl := hy71
  exact WL.live [2, 5, 6, 7, 8, 9, 10, 11, 13, 14, 15, 17, 19, 117] kr (hk_y71 () _ H)
  }
  }
  }
  rcases ite_cases hy51 with ⟨ty51, hy51⟩ | ⟨ty51, hy51⟩
  {
  refine WL.known 83 ty51 kr kr ?_
  refine WL.sg 5 kr ?_
  obtain rfl := hy51
  exact WL.live [1, 2, 4, 5, 6, 7, 8, 9, 10, 11, 88] kr (hk_y51 () _ H)
  }
  {
  refine WL.known 83 ty51 kr kr ?_
  refine WL.sg 1 kr ?_
  refine WL.does kr kr (Does.loadV H 4 rfl 4 kr kr ?_)
  refine WL.sg 3 kr ?_
  obtain rfl := hy51
  exact WL.live [1, 2, 4, 5, 6, 7, 8, 9, 10, 11, 88] kr (hk_y51 () _ H)
  }
  }
  }
  rcases ite_cases hy13 with ⟨ty13, hy13⟩ | ⟨ty13, hy13⟩
  {
  refine WL.known 36 ty13 kr kr ?_
  refine WL.sg 5 kr ?_
  obtain rfl := hy13
  exact WL.live [1, 2, 41] kr (hk_y13 () _ H)
  }
  {
  refine WL.known 36 ty13 kr kr ?_
  refine WL.sg 1 kr ?_
  refine WL.does kr kr (Does.loadV H 0 rfl 4 kr kr ?_)
  refine WL.sg 3 kr ?_
  obtain rfl := hy13
  exact WL.live [1, 2, 41] kr (hk_y13 () _ H)
  }
  }
  rcases ite_cases hy12 with ⟨ty12, hy12⟩ | ⟨ty12, hy12⟩
  {
  refine WL.known 30 ty12 kr kr ?_
  refine WL.sg 5 kr ?_
  obtain rfl := hy12
  exact WL.live [1, 2, 35] kr (hk_y12 () _ H)
  }
  {
  refine WL.known 30 ty12 kr kr ?_
  refine WL.sg 1 kr ?_
  refine WL.does kr kr (Does.loadV H 0 rfl 3 kr kr ?_)
  refine WL.sg 3 kr ?_
  obtain rfl := hy12
  exact WL.live [1, 2, 35] kr (hk_y12 () _ H)
  }
def r07_Small_l1 (K : Nat) (x0 : List GFunc) (x1 : Int) : Nat → (Int × Int) → Option Bool
  | 0, _ => none
  | k1 + 1, (y12, y13) =>
    bnd (
        if decide (y13 < (x0.length : Int)) then
          decide ((x0.length : Int) ≤ 20)
        else
          false) fun y14 =>
    if y14 then
      if 0 ≤ y13 ∧ y13 < x0.length then
        r07_Small_l1 K x0 x1 k1 (w64 (y12 + (((gd x0 y13).Code).length : Int)), w64 (y13 + 1))
      else none
    else
      bnd (
          if decide ((x0.length : Int) ≤ 20) then
            decide (y12 ≤ x1)
          else
            false) fun y18 =>
      some y18
def r07_Small (K : Nat) (x0 : List GFunc) (x1 : Int) : Option Bool :=
  r07_Small_l1 K x0 x1 K (0, 0)
set_option maxRecDepth 100000 in
set_option maxHeartbeats 4000000 in
theorem c_r07_Small {w0 w : World} {h : Gh} {L : List Ent} (K : Nat) (x0 : List GFunc) {a1 : Option Addr} {c1 : Nat} (f1 : Sl rGFunc 48 h a1 c1 x0) (x1 : Int) (H : St w0 h w L) {r : Bool} (hr : r07_Small K x0 x1 = some r) : Calls Try.prog 6 #[.slice a1 x0.length c1, .int .i64 x1] w (fun e w' => ∃ v, e = .returned v ∧ v = .bool r ∧ St w0 h w' (L)) := by
  refine calls_of (args := [.slice a1 x0.length c1, .int .i64 x1]) (n := 34) (rs := [.tmp 4]) Try.func6 rfl rfl rfl rfl rfl ?_
  unfold r07_Small at hr
  refine WE.seq ?_
  refine WE.region ?_
  refine WL.fin 1 kr kr ?_
  refine WE.seq ?_
  refine WE.region ?_
  refine WL.fin 1 kr kr ?_
  refine WE.seq ?_
  refine WE.seq ?_
  refine WE.region ?_
  refine WL.fin 1 kr kr ?_
  refine WE.block ?_
  refine WE.loop (LP.live [0, 1, 5, 6] kr (LP.rec (r07_Small_l1 K x0 x1) (fun (⟨y12, y13⟩ : Int × Int) (_ : Unit) => [(0, .slice a1 x0.length c1), (1, .int .i64 x1), (5, .int .i64 y12), (6, .int .i64 y13)]) (fun (⟨y12, y13⟩ : Int × Int) (_ : Unit) => fun w => St w0 h w (L)) r (fun _ => rfl) ?_ K (0, 0) () _ H hr))
  rintro k1 ih1 ⟨y12, y13⟩ _ w H hr
  simp only [r07_Small_l1] at hr
  refine WE.seq ?_
  refine WE.seq ?_
  refine WE.region ?_
  refine WL.sg 5 kr ?_
  obtain ⟨y14, hy14, hr⟩ := bnd_cases hr
  refine WL.join 4 (fun (_ : Unit) => [(0, .slice a1 x0.length c1), (1, .int .i64 x1), (5, .int .i64 y12), (6, .int .i64 y13), (15, .bool y14)]) (fun (_ : Unit) w => St w0 h w (L)) ?_ (fun hk_y14 => ?_)
  {
  rintro _ w H
  refine WL.fin 0 kr kr ?_
  rcases ite_cases hr with ⟨t15, hr⟩ | ⟨t15, hr⟩
  {
  refine WE.yes kr (b := y14) kr t15 ?_
  refine WE.skip ?_
  refine WE.seq ?_
  refine WE.block ?_
  refine WE.region ?_
  obtain ⟨⟨g0_16, g1_16⟩, hr⟩ := grd_cases hr
  obtain ⟨b16, p16, C16, e16, fr16, cs16, rfl, hb16, hc16, ⟨a17, c17, rfl, f17⟩⟩ := f1.at g0_16 g1_16
  refine WL.sg 3 kr ?_
  refine WL.does kr kr (Does.tells (.idx b16 (p16) x0.length c1 y13 4 kr kr g0_16 g1_16 kr) ?_)
  refine WL.sg 1 kr ?_
  refine WL.does kr kr (Does.loadR H hb16 hc16 3 kr kr ?_)
  refine WL.fin 3 kr kr ?_
  refine WE.region ?_
  refine WL.fin 3 kr kr ?_
  exact LP.live [0, 1, 5, 6] kr (ih1 (w64 (y12 + (((gd x0 y13).Code).length : Int)), w64 (y13 + 1)) () _ H hr)
  }
  {
  refine WE.no kr (b := y14) kr t15 ?_
  refine WE.exit ?_
  refine WE.seq ?_
  refine WE.region ?_
  refine WL.sg 4 kr ?_
  obtain ⟨y18, hy18, hr⟩ := bnd_cases hr
  refine WL.join 4 (fun (_ : Unit) => [(33, .bool y18)]) (fun (_ : Unit) w => St w0 h w (L)) ?_ (fun hk_y18 => ?_)
  {
  rintro _ w H
  refine WL.fin 1 kr kr ?_
  obtain rfl := Option.some.inj hr
  exact WE.ret ⟨[.bool y18], ⟨⟨kr, kr⟩, trivial⟩, ⟨rfl, H⟩⟩
  }
  rcases ite_cases hy18 with ⟨ty18, hy18⟩ | ⟨ty18, hy18⟩
  {
  refine WL.known 29 ty18 kr kr ?_
  refine WL.sg 4 kr ?_
  obtain rfl := hy18
  exact WL.live [33] kr (hk_y18 () _ H)
  }
  {
  refine WL.known 29 ty18 kr kr ?_
  refine WL.sg 4 kr ?_
  obtain rfl := hy18
  exact WL.live [33] kr (hk_y18 () _ H)
  }
  }
  }
  rcases ite_cases hy14 with ⟨ty14, hy14⟩ | ⟨ty14, hy14⟩
  {
  refine WL.known 11 ty14 kr kr ?_
  refine WL.sg 4 kr ?_
  obtain rfl := hy14
  exact WL.live [0, 1, 5, 6, 15] kr (hk_y14 () _ H)
  }
  {
  refine WL.known 11 ty14 kr kr ?_
  refine WL.sg 4 kr ?_
  obtain rfl := hy14
  exact WL.live [0, 1, 5, 6, 15] kr (hk_y14 () _ H)
  }
def r08_field (x0 : List GFunc) (x1 : GFunc) (x2 : GInstr) : Int :=
  bnd (
      if x2.Op == 1 then
        true
      else
        x2.Op == 2) fun y5 =>
  bnd (
      if y5 then
        decide (x2.A ≥ x1.Locals)
      else
        false) fun y6 =>
  bnd (
      if x2.Op == 14 then
        decide (x2.A ≥ x1.Slots)
      else
        false) fun y7 =>
  bnd (
      if y7 then
        true
      else
        bnd (
            if x2.Op == 13 then
              decide (x2.B ≥ x1.Slots)
            else
              false) fun y18 =>
        y18) fun y8 =>
  bnd (
      if y6 then
        true
      else
        y8) fun y10 =>
  bnd (
      if y10 then
        true
      else
        bnd (
            if x2.Op == 13 then
              decide (x2.A ≥ (x0.length : Int))
            else
              false) fun y17 =>
        y17) fun y11 =>
  if y11 then
    82
  else
    bnd (
        if x2.Op == 10 then
          true
        else
          x2.Op == 11) fun y14 =>
    bnd (
        if y14 then
          decide (x2.A ≥ (x1.Code.length : Int))
        else
          false) fun y15 =>
    if y15 then
      83
    else
      0
set_option maxRecDepth 100000 in
set_option maxHeartbeats 4000000 in
theorem c_r08_field {w0 w : World} {h : Gh} {L : List Ent} (x0 : List GFunc) {a1 : Option Addr} {c1 : Nat} (f1 : Sl rGFunc 48 h a1 c1 x0) (x1 : GFunc) {a2 : Option Addr} {c2 : Nat} (f2 : Sl rGInstr 24 h a2 c2 x1.Code) (x2 : GInstr) (H : St w0 h w L) {r : Int} (hr : r08_field x0 x1 x2 = r) : Calls Try.prog 72 #[.slice a1 x0.length c1, .agg (cGFunc x1 a2 c2).toArray, .agg #[.int .i64 x2.Op, .int .i64 x2.A, .int .i64 x2.B]] w (fun e w' => ∃ v, e = .returned v ∧ v = .int .i64 r ∧ St w0 h w' (L)) := by
  refine calls_of (args := [.slice a1 x0.length c1, .agg (cGFunc x1 a2 c2).toArray, .agg #[.int .i64 x2.Op, .int .i64 x2.A, .int .i64 x2.B]]) (n := 78) (rs := [.tmp 6]) Try.func72 rfl rfl rfl rfl rfl ?_
  unfold r08_field at hr
  refine WE.seq ?_
  refine WE.region ?_
  refine WL.does kr kr (Does.box H (cGFunc x1 a2 c2) kr fun b3 w H => ?_)
  refine WL.does kr kr (Does.box H [.int .i64 x2.Op, .int .i64 x2.A, .int .i64 x2.B] kr fun b4 w H => ?_)
  refine WL.fin 1 kr kr ?_
  refine WE.seq ?_
  refine WE.region ?_
  refine WL.sg 1 kr ?_
  refine WL.does kr kr (Does.loadV H 0 rfl 0 kr kr ?_)
  refine WL.sg 2 kr ?_
  obtain ⟨y5, hy5, hr⟩ := bnd_cases hr
  refine WL.join 4 (fun (_ : Unit) => [(0, .slice a1 x0.length c1), (4, .pointer (some ⟨b3, 0, none⟩)), (5, .pointer (some ⟨b4, 0, none⟩)), (16, .bool y5)]) (fun (_ : Unit) w => St w0 h w (var b4 [.int .i64 x2.Op, .int .i64 x2.A, .int .i64 x2.B] 71 :: var b3 (cGFunc x1 a2 c2) 31 :: L)) ?_ (fun hk_y5 => ?_)
  {
  rintro _ w H
  refine WL.sg 1 kr ?_
  obtain ⟨y6, hy6, hr⟩ := bnd_cases hr
  refine WL.join 6 (fun (_ : Unit) => [(0, .slice a1 x0.length c1), (4, .pointer (some ⟨b3, 0, none⟩)), (5, .pointer (some ⟨b4, 0, none⟩)), (23, .bool y6)]) (fun (_ : Unit) w => St w0 h w (var b4 [.int .i64 x2.Op, .int .i64 x2.A, .int .i64 x2.B] 71 :: var b3 (cGFunc x1 a2 c2) 31 :: L)) ?_ (fun hk_y6 => ?_)
  {
  rintro _ w H
  refine WL.fin 1 kr kr ?_
  refine WE.seq ?_
  refine WE.region ?_
  refine WL.sg 1 kr ?_
  refine WL.does kr kr (Does.loadV H 0 rfl 0 kr kr ?_)
  refine WL.sg 2 kr ?_
  obtain ⟨y7, hy7, hr⟩ := bnd_cases hr
  refine WL.join 6 (fun (_ : Unit) => [(0, .slice a1 x0.length c1), (4, .pointer (some ⟨b3, 0, none⟩)), (5, .pointer (some ⟨b4, 0, none⟩)), (7, .bool y6), (33, .bool y7)]) (fun (_ : Unit) w => St w0 h w (var b4 [.int .i64 x2.Op, .int .i64 x2.A, .int .i64 x2.B] 71 :: var b3 (cGFunc x1 a2 c2) 31 :: L)) ?_ (fun hk_y7 => ?_)
  {
  rintro _ w H
  refine WL.sg 1 kr ?_
  obtain ⟨y8, hy8, hr⟩ := bnd_cases hr
  refine WL.join 11 (fun (_ : Unit) => [(0, .slice a1 x0.length c1), (4, .pointer (some ⟨b3, 0, none⟩)), (5, .pointer (some ⟨b4, 0, none⟩)), (7, .bool y6), (45, .bool y8)]) (fun (_ : Unit) w => St w0 h w (var b4 [.int .i64 x2.Op, .int .i64 x2.A, .int .i64 x2.B] 71 :: var b3 (cGFunc x1 a2 c2) 31 :: L)) ?_ (fun hk_y8 => ?_)
  {
  rintro _ w H
  refine WL.fin 1 kr kr ?_
  refine WE.seq ?_
  refine WE.seq ?_
  refine WE.region ?_
  refine WL.sg 2 kr ?_
  obtain ⟨y10, hy10, hr⟩ := bnd_cases hr
  refine WL.join 2 (fun (_ : Unit) => [(0, .slice a1 x0.length c1), (4, .pointer (some ⟨b3, 0, none⟩)), (5, .pointer (some ⟨b4, 0, none⟩)), (49, .bool y10)]) (fun (_ : Unit) w => St w0 h w (var b4 [.int .i64 x2.Op, .int .i64 x2.A, .int .i64 x2.B] 71 :: var b3 (cGFunc x1 a2 c2) 31 :: L)) ?_ (fun hk_y10 => ?_)
  {
  rintro _ w H
  refine WL.sg 1 kr ?_
  obtain ⟨y11, hy11, hr⟩ := bnd_cases hr
  refine WL.join 11 (fun (_ : Unit) => [(4, .pointer (some ⟨b3, 0, none⟩)), (5, .pointer (some ⟨b4, 0, none⟩)), (61, .bool y11)]) (fun (_ : Unit) w => St w0 h w (var b4 [.int .i64 x2.Op, .int .i64 x2.A, .int .i64 x2.B] 71 :: var b3 (cGFunc x1 a2 c2) 31 :: L)) ?_ (fun hk_y11 => ?_)
  {
  rintro _ w H
  refine WL.fin 0 kr kr ?_
  rcases ite_cases hr with ⟨t13, hr⟩ | ⟨t13, hr⟩
  {
  refine WE.yes kr (b := y11) kr t13 ?_
  refine WE.seq ?_
  refine WE.region ?_
  refine WL.fin 1 kr kr ?_
  obtain rfl := hr
  exact WE.ret ⟨[.int .i64 82], ⟨⟨kr, kr⟩, trivial⟩, ⟨rfl, (H.keep 2)⟩⟩
  }
  {
  refine WE.no kr (b := y11) kr t13 ?_
  refine WE.skip ?_
  refine WE.seq ?_
  refine WE.seq ?_
  refine WE.region ?_
  refine WL.sg 1 kr ?_
  refine WL.does kr kr (Does.loadV H 0 rfl 0 kr kr ?_)
  refine WL.sg 2 kr ?_
  obtain ⟨y14, hy14, hr⟩ := bnd_cases hr
  refine WL.join 4 (fun (_ : Unit) => [(4, .pointer (some ⟨b3, 0, none⟩)), (5, .pointer (some ⟨b4, 0, none⟩)), (69, .bool y14)]) (fun (_ : Unit) w => St w0 h w (var b4 [.int .i64 x2.Op, .int .i64 x2.A, .int .i64 x2.B] 71 :: var b3 (cGFunc x1 a2 c2) 31 :: L)) ?_ (fun hk_y14 => ?_)
  {
  rintro _ w H
  refine WL.sg 1 kr ?_
  obtain ⟨y15, hy15, hr⟩ := bnd_cases hr
  refine WL.join 7 (fun (_ : Unit) => [(77, .bool y15)]) (fun (_ : Unit) w => St w0 h w (var b4 [.int .i64 x2.Op, .int .i64 x2.A, .int .i64 x2.B] 71 :: var b3 (cGFunc x1 a2 c2) 31 :: L)) ?_ (fun hk_y15 => ?_)
  {
  rintro _ w H
  refine WL.fin 0 kr kr ?_
  rcases ite_cases hr with ⟨t16, hr⟩ | ⟨t16, hr⟩
  {
  refine WE.yes kr (b := y15) kr t16 ?_
  refine WE.seq ?_
  refine WE.region ?_
  refine WL.fin 1 kr kr ?_
  obtain rfl := hr
  exact WE.ret ⟨[.int .i64 83], ⟨⟨kr, kr⟩, trivial⟩, ⟨rfl, (H.keep 2)⟩⟩
  }
  {
  refine WE.no kr (b := y15) kr t16 ?_
  refine WE.skip ?_
  refine WE.seq ?_
  refine WE.region ?_
  refine WL.fin 1 kr kr ?_
  obtain rfl := hr
  exact WE.ret ⟨[.int .i64 0], ⟨⟨kr, kr⟩, trivial⟩, ⟨rfl, (H.keep 2)⟩⟩
  }
  }
  rcases ite_cases hy15 with ⟨ty15, hy15⟩ | ⟨ty15, hy15⟩
  {
  refine WL.known 70 ty15 kr kr ?_
  refine WL.sg 1 kr ?_
  refine WL.does kr kr (Does.loadV H 0 rfl 1 kr kr ?_)
  refine WL.sg 1 kr ?_
  refine WL.does kr kr (Does.loadV H 1 rfl 3 kr kr ?_)
  refine WL.sg 3 kr ?_
  obtain rfl := hy15
  exact WL.live [77] kr (hk_y15 () _ H)
  }
  {
  refine WL.known 70 ty15 kr kr ?_
  refine WL.sg 7 kr ?_
  obtain rfl := hy15
  exact WL.live [77] kr (hk_y15 () _ H)
  }
  }
  rcases ite_cases hy14 with ⟨ty14, hy14⟩ | ⟨ty14, hy14⟩
  {
  refine WL.known 65 ty14 kr kr ?_
  refine WL.sg 4 kr ?_
  obtain rfl := hy14
  exact WL.live [4, 5, 69] kr (hk_y14 () _ H)
  }
  {
  refine WL.known 65 ty14 kr kr ?_
  refine WL.sg 1 kr ?_
  refine WL.does kr kr (Does.loadV H 0 rfl 0 kr kr ?_)
  refine WL.sg 2 kr ?_
  obtain rfl := hy14
  exact WL.live [4, 5, 69] kr (hk_y14 () _ H)
  }
  }
  }
  rcases ite_cases hy11 with ⟨ty11, hy11⟩ | ⟨ty11, hy11⟩
  {
  refine WL.known 50 ty11 kr kr ?_
  refine WL.sg 11 kr ?_
  obtain rfl := hy11
  exact WL.live [4, 5, 61] kr (hk_y11 () _ H)
  }
  {
  refine WL.known 50 ty11 kr kr ?_
  refine WL.sg 1 kr ?_
  refine WL.does kr kr (Does.loadV H 0 rfl 0 kr kr ?_)
  refine WL.sg 2 kr ?_
  obtain ⟨y17, hy17, hy11⟩ := bnd_cases hy11
  refine WL.join 6 (fun (_ : Unit) => [(4, .pointer (some ⟨b3, 0, none⟩)), (5, .pointer (some ⟨b4, 0, none⟩)), (50, .bool false), (60, .bool y17)]) (fun (_ : Unit) w => St w0 h w (var b4 [.int .i64 x2.Op, .int .i64 x2.A, .int .i64 x2.B] 71 :: var b3 (cGFunc x1 a2 c2) 31 :: L)) ?_ (fun hk_y17 => ?_)
  {
  rintro _ w H
  refine WL.sg 1 kr ?_
  obtain rfl := hy11
  exact WL.live [4, 5, 61] kr (hk_y11 () _ H)
  }
  rcases ite_cases hy17 with ⟨ty17, hy17⟩ | ⟨ty17, hy17⟩
  {
  refine WL.known 54 ty17 kr kr ?_
  refine WL.sg 1 kr ?_
  refine WL.does kr kr (Does.loadV H 0 rfl 1 kr kr ?_)
  refine WL.sg 4 kr ?_
  obtain rfl := hy17
  exact WL.live [4, 5, 50, 60] kr (hk_y17 () _ H)
  }
  {
  refine WL.known 54 ty17 kr kr ?_
  refine WL.sg 6 kr ?_
  obtain rfl := hy17
  exact WL.live [4, 5, 50, 60] kr (hk_y17 () _ H)
  }
  }
  }
  rcases ite_cases hy10 with ⟨ty10, hy10⟩ | ⟨ty10, hy10⟩
  {
  refine WL.known 47 ty10 kr kr ?_
  refine WL.sg 2 kr ?_
  obtain rfl := hy10
  exact WL.live [0, 4, 5, 49] kr (hk_y10 () _ H)
  }
  {
  refine WL.known 47 ty10 kr kr ?_
  refine WL.sg 2 kr ?_
  obtain rfl := hy10
  exact WL.live [0, 4, 5, 49] kr (hk_y10 () _ H)
  }
  }
  rcases ite_cases hy8 with ⟨ty8, hy8⟩ | ⟨ty8, hy8⟩
  {
  refine WL.known 34 ty8 kr kr ?_
  refine WL.sg 11 kr ?_
  obtain rfl := hy8
  exact WL.live [0, 4, 5, 7, 45] kr (hk_y8 () _ H)
  }
  {
  refine WL.known 34 ty8 kr kr ?_
  refine WL.sg 1 kr ?_
  refine WL.does kr kr (Does.loadV H 0 rfl 0 kr kr ?_)
  refine WL.sg 2 kr ?_
  obtain ⟨y18, hy18, hy8⟩ := bnd_cases hy8
  refine WL.join 6 (fun (_ : Unit) => [(0, .slice a1 x0.length c1), (4, .pointer (some ⟨b3, 0, none⟩)), (5, .pointer (some ⟨b4, 0, none⟩)), (7, .bool y6), (34, .bool false), (44, .bool y18)]) (fun (_ : Unit) w => St w0 h w (var b4 [.int .i64 x2.Op, .int .i64 x2.A, .int .i64 x2.B] 71 :: var b3 (cGFunc x1 a2 c2) 31 :: L)) ?_ (fun hk_y18 => ?_)
  {
  rintro _ w H
  refine WL.sg 1 kr ?_
  obtain rfl := hy8
  exact WL.live [0, 4, 5, 7, 45] kr (hk_y8 () _ H)
  }
  rcases ite_cases hy18 with ⟨ty18, hy18⟩ | ⟨ty18, hy18⟩
  {
  refine WL.known 38 ty18 kr kr ?_
  refine WL.sg 1 kr ?_
  refine WL.does kr kr (Does.loadV H 0 rfl 2 kr kr ?_)
  refine WL.sg 1 kr ?_
  refine WL.does kr kr (Does.loadV H 1 rfl 2 kr kr ?_)
  refine WL.sg 2 kr ?_
  obtain rfl := hy18
  exact WL.live [0, 4, 5, 7, 34, 44] kr (hk_y18 () _ H)
  }
  {
  refine WL.known 38 ty18 kr kr ?_
  refine WL.sg 6 kr ?_
  obtain rfl := hy18
  exact WL.live [0, 4, 5, 7, 34, 44] kr (hk_y18 () _ H)
  }
  }
  }
  rcases ite_cases hy7 with ⟨ty7, hy7⟩ | ⟨ty7, hy7⟩
  {
  refine WL.known 27 ty7 kr kr ?_
  refine WL.sg 1 kr ?_
  refine WL.does kr kr (Does.loadV H 0 rfl 1 kr kr ?_)
  refine WL.sg 1 kr ?_
  refine WL.does kr kr (Does.loadV H 1 rfl 2 kr kr ?_)
  refine WL.sg 2 kr ?_
  obtain rfl := hy7
  exact WL.live [0, 4, 5, 7, 33] kr (hk_y7 () _ H)
  }
  {
  refine WL.known 27 ty7 kr kr ?_
  refine WL.sg 6 kr ?_
  obtain rfl := hy7
  exact WL.live [0, 4, 5, 7, 33] kr (hk_y7 () _ H)
  }
  }
  rcases ite_cases hy6 with ⟨ty6, hy6⟩ | ⟨ty6, hy6⟩
  {
  refine WL.known 17 ty6 kr kr ?_
  refine WL.sg 1 kr ?_
  refine WL.does kr kr (Does.loadV H 0 rfl 1 kr kr ?_)
  refine WL.sg 1 kr ?_
  refine WL.does kr kr (Does.loadV H 1 rfl 1 kr kr ?_)
  refine WL.sg 2 kr ?_
  obtain rfl := hy6
  exact WL.live [0, 4, 5, 23] kr (hk_y6 () _ H)
  }
  {
  refine WL.known 17 ty6 kr kr ?_
  refine WL.sg 6 kr ?_
  obtain rfl := hy6
  exact WL.live [0, 4, 5, 23] kr (hk_y6 () _ H)
  }
  }
  rcases ite_cases hy5 with ⟨ty5, hy5⟩ | ⟨ty5, hy5⟩
  {
  refine WL.known 12 ty5 kr kr ?_
  refine WL.sg 4 kr ?_
  obtain rfl := hy5
  exact WL.live [0, 4, 5, 16] kr (hk_y5 () _ H)
  }
  {
  refine WL.known 12 ty5 kr kr ?_
  refine WL.sg 1 kr ?_
  refine WL.does kr kr (Does.loadV H 0 rfl 0 kr kr ?_)
  refine WL.sg 2 kr ?_
  obtain rfl := hy5
  exact WL.live [0, 4, 5, 16] kr (hk_y5 () _ H)
  }
def r08_open_l1 (K : Nat) (x0 : List Int) (x1 : List Bool) : Nat → Int → Option Int
  | 0, _ => none
  | k1 + 1, y16 =>
    if decide (y16 < (x0.length : Int)) then
      if 0 ≤ y16 ∧ y16 < x0.length then
        (
            if decide ((gd x0 y16) ≥ 0) then
              if 0 ≤ y16 ∧ y16 < x1.length then
                some (!(gd x1 y16))
              else none
            else
              some false).bind fun y19 =>
        if y19 then
          some y16
        else
          r08_open_l1 K x0 x1 k1 (w64 (y16 + 1))
      else none
    else
      some (-1)
def r08_open (K : Nat) (x0 : List Int) (x1 : List Bool) : Option Int :=
  r08_open_l1 K x0 x1 K 0
set_option maxRecDepth 100000 in
set_option maxHeartbeats 4000000 in
theorem c_r08_open {w0 w : World} {h : Gh} {L : List Ent} (K : Nat) (x0 : List Int) {a1 : Option Addr} {c1 : Nat} (f1 : Sl (Rep.int .i64) 8 h a1 c1 x0) (x1 : List Bool) {a2 : Option Addr} {c2 : Nat} (f2 : Sl Rep.bool 1 h a2 c2 x1) (H : St w0 h w L) {r : Int} (hr : r08_open K x0 x1 = some r) : Calls Try.prog 51 #[.slice a1 x0.length c1, .slice a2 x1.length c2] w (fun e w' => ∃ v, e = .returned v ∧ v = .int .i64 r ∧ St w0 h w' (L)) := by
  refine calls_of (args := [.slice a1 x0.length c1, .slice a2 x1.length c2]) (n := 25) (rs := [.tmp 4]) Try.func51 rfl rfl rfl rfl rfl ?_
  unfold r08_open at hr
  refine WE.seq ?_
  refine WE.region ?_
  refine WL.fin 1 kr kr ?_
  refine WE.seq ?_
  refine WE.seq ?_
  refine WE.region ?_
  refine WL.fin 1 kr kr ?_
  refine WE.block ?_
  refine WE.loop (LP.live [0, 1, 5] kr (LP.rec (r08_open_l1 K x0 x1) (fun (y16 : Int) (_ : Unit) => [(0, .slice a1 x0.length c1), (1, .slice a2 x1.length c2), (5, .int .i64 y16)]) (fun (y16 : Int) (_ : Unit) => fun w => St w0 h w (L)) r (fun _ => rfl) ?_ K 0 () _ H hr))
  rintro k1 ih1 y16 _ w H hr
  simp only [r08_open_l1] at hr
  refine WE.seq ?_
  refine WE.seq ?_
  refine WE.region ?_
  refine WL.fin 4 kr kr ?_
  rcases ite_cases hr with ⟨t17, hr⟩ | ⟨t17, hr⟩
  {
  refine WE.yes kr (b := decide (y16 < (x0.length : Int))) kr t17 ?_
  refine WE.skip ?_
  refine WE.seq ?_
  refine WE.block ?_
  refine WE.seq ?_
  refine WE.region ?_
  obtain ⟨⟨g0_18, g1_18⟩, hr⟩ := grd_cases hr
  obtain ⟨b18, p18, C18, e18, fr18, cs18, rfl, hb18, hc18, rfl⟩ := f1.at g0_18 g1_18
  refine WL.sg 2 kr ?_
  refine WL.does kr kr (Does.tells (.idx b18 (p18) x0.length c1 y16 1 kr kr g0_18 g1_18 kr) ?_)
  refine WL.does kr kr (Does.loadR H hb18 hc18 0 kr kr ?_)
  refine WL.sg 2 kr ?_
  obtain ⟨y19, hy19, hr⟩ := bind_cases hr
  refine WL.join 6 (fun (_ : Unit) => [(0, .slice (some ⟨b18, p18, none⟩) x0.length c1), (1, .slice a2 x1.length c2), (5, .int .i64 y16), (23, .bool y19)]) (fun (_ : Unit) w => St w0 h w (L)) ?_ (fun hk_y19 => ?_)
  {
  rintro _ w H
  refine WL.fin 0 kr kr ?_
  rcases ite_cases hr with ⟨t21, hr⟩ | ⟨t21, hr⟩
  {
  refine WE.yes kr (b := y19) kr t21 ?_
  refine WE.seq ?_
  refine WE.region ?_
  refine WL.fin 2 kr kr ?_
  obtain rfl := Option.some.inj hr
  exact WE.ret ⟨[.int .i64 y16], ⟨⟨kr, kr⟩, trivial⟩, ⟨rfl, H⟩⟩
  }
  {
  refine WE.no kr (b := y19) kr t21 ?_
  refine WE.skip ?_
  refine WE.region ?_
  refine WL.fin 3 kr kr ?_
  exact LP.live [0, 1, 5] kr (ih1 (w64 (y16 + 1)) () _ H hr)
  }
  }
  rcases ite_cases hy19 with ⟨ty19, hy19⟩ | ⟨ty19, hy19⟩
  {
  refine WL.known 17 ty19 kr kr ?_
  obtain ⟨⟨g0_22, g1_22⟩, hy19⟩ := grd_cases hy19
  obtain ⟨b22, p22, C22, e22, fr22, cs22, rfl, hb22, hc22, rfl⟩ := f2.at g0_22 g1_22
  refine WL.sg 2 kr ?_
  refine WL.does kr kr (Does.tells (.idx b22 (p22) x1.length c2 y16 1 kr kr g0_22 g1_22 kr) ?_)
  refine WL.does kr kr (Does.loadR H hb22 hc22 0 kr kr ?_)
  refine WL.sg 2 kr ?_
  obtain rfl := Option.some.inj hy19
  exact WL.live [0, 1, 5, 23] kr (hk_y19 () _ H)
  }
  {
  refine WL.known 17 ty19 kr kr ?_
  refine WL.sg 6 kr ?_
  obtain rfl := Option.some.inj hy19
  exact WL.live [0, 1, 5, 23] kr (hk_y19 () _ H)
  }
  }
  {
  refine WE.no kr (b := decide (y16 < (x0.length : Int))) kr t17 ?_
  refine WE.exit ?_
  refine WE.seq ?_
  refine WE.region ?_
  refine WL.fin 1 kr kr ?_
  obtain rfl := Option.some.inj hr
  exact WE.ret ⟨[.int .i64 (-1)], ⟨⟨kr, kr⟩, trivial⟩, ⟨rfl, H⟩⟩
  }
def r06_Off (x0 : Int) : Int :=
  if x0 == 3 then
    if x0 == 3 then
      2
    else
      if x0 == 2 then
        if x0 == 2 then
          1
        else
          0
      else
        if x0 == 7 then
          if x0 == 7 then
            1
          else
            0
        else
          if x0 == 8 then
            if x0 == 8 then
              1
            else
              0
          else
            if x0 == 9 then
              if x0 == 9 then
                1
              else
                0
            else
              if x0 == 11 then
                if x0 == 11 then
                  1
                else
                  0
              else
                if x0 == 15 then
                  1
                else
                  0
  else
    if x0 == 4 then
      if x0 == 4 then
        2
      else
        if x0 == 2 then
          if x0 == 2 then
            1
          else
            0
        else
          if x0 == 7 then
            if x0 == 7 then
              1
            else
              0
          else
            if x0 == 8 then
              if x0 == 8 then
                1
              else
                0
            else
              if x0 == 9 then
                if x0 == 9 then
                  1
                else
                  0
              else
                if x0 == 11 then
                  if x0 == 11 then
                    1
                  else
                    0
                else
                  if x0 == 15 then
                    1
                  else
                    0
    else
      if x0 == 5 then
        if x0 == 5 then
          2
        else
          if x0 == 2 then
            if x0 == 2 then
              1
            else
              0
          else
            if x0 == 7 then
              if x0 == 7 then
                1
              else
                0
            else
              if x0 == 8 then
                if x0 == 8 then
                  1
                else
                  0
              else
                if x0 == 9 then
                  if x0 == 9 then
                    1
                  else
                    0
                else
                  if x0 == 11 then
                    if x0 == 11 then
                      1
                    else
                      0
                  else
                    if x0 == 15 then
                      1
                    else
                      0
      else
        if x0 == 6 then
          2
        else
          if x0 == 2 then
            if x0 == 2 then
              1
            else
              0
          else
            if x0 == 7 then
              if x0 == 7 then
                1
              else
                0
            else
              if x0 == 8 then
                if x0 == 8 then
                  1
                else
                  0
              else
                if x0 == 9 then
                  if x0 == 9 then
                    1
                  else
                    0
                else
                  if x0 == 11 then
                    if x0 == 11 then
                      1
                    else
                      0
                  else
                    if x0 == 15 then
                      1
                    else
                      0
set_option maxRecDepth 100000 in
set_option maxHeartbeats 4000000 in
theorem c_r06_Off {w0 w : World} {h : Gh} {L : List Ent} (x0 : Int) (H : St w0 h w L) {r : Int} (hr : r06_Off x0 = r) : Calls Try.prog 87 #[.int .i64 x0] w (fun e w' => ∃ v, e = .returned v ∧ v = .int .i64 r ∧ St w0 h w' (L)) := by
  refine calls_of (args := [.int .i64 x0]) (n := 16) (rs := [.tmp 2]) Try.func87 rfl rfl rfl rfl rfl ?_
  unfold r06_Off at hr
  refine WE.seq ?_
  refine WE.region ?_
  refine WL.fin 1 kr kr ?_
  refine WE.seq ?_
  refine WE.seq ?_
  refine WE.region ?_
  refine WL.fin 1 kr kr ?_
  refine WE.block ?_
  refine WE.seq ?_
  refine WE.seq ?_
  refine WE.region ?_
  refine WL.fin 2 kr kr ?_
  rcases ite_cases hr with ⟨t1, hr⟩ | ⟨t1, hr⟩
  {
  refine WE.yes kr (b := x0 == 3) kr t1 ?_
  refine WE.skip ?_
  rcases ite_cases hr with ⟨t2, hr⟩ | ⟨t2, hr⟩
  {
  refine WE.yes kr (b := x0 == 3) kr t2 ?_
  refine WE.seq ?_
  refine WE.region ?_
  refine WL.fin 1 kr kr ?_
  obtain rfl := hr
  exact WE.ret ⟨[.int .i64 2], ⟨⟨kr, kr⟩, trivial⟩, ⟨rfl, H⟩⟩
  }
  {
  refine WE.no kr (b := x0 == 3) kr t2 ?_
  refine WE.seq ?_
  refine WE.seq ?_
  refine WE.region ?_
  refine WL.fin 2 kr kr ?_
  rcases ite_cases hr with ⟨t3, hr⟩ | ⟨t3, hr⟩
  {
  refine WE.yes kr (b := x0 == 2) kr t3 ?_
  refine WE.skip ?_
  rcases ite_cases hr with ⟨t4, hr⟩ | ⟨t4, hr⟩
  {
  refine WE.yes kr (b := x0 == 2) kr t4 ?_
  refine WE.seq ?_
  refine WE.region ?_
  refine WL.fin 1 kr kr ?_
  obtain rfl := hr
  exact WE.ret ⟨[.int .i64 1], ⟨⟨kr, kr⟩, trivial⟩, ⟨rfl, H⟩⟩
  }
  {
  refine WE.no kr (b := x0 == 2) kr t4 ?_
  refine WE.skip ?_
  refine WE.seq ?_
  refine WE.region ?_
  refine WL.fin 1 kr kr ?_
  obtain rfl := hr
  exact WE.ret ⟨[.int .i64 0], ⟨⟨kr, kr⟩, trivial⟩, ⟨rfl, H⟩⟩
  }
  }
  {
  refine WE.no kr (b := x0 == 2) kr t3 ?_
  refine WE.seq ?_
  refine WE.region ?_
  refine WL.fin 2 kr kr ?_
  rcases ite_cases hr with ⟨t5, hr⟩ | ⟨t5, hr⟩
  {
  refine WE.yes kr (b := x0 == 7) kr t5 ?_
  refine WE.skip ?_
  rcases ite_cases hr with ⟨t6, hr⟩ | ⟨t6, hr⟩
  {
  refine WE.yes kr (b := x0 == 7) kr t6 ?_
  refine WE.seq ?_
  refine WE.region ?_
  refine WL.fin 1 kr kr ?_
  obtain rfl := hr
  exact WE.ret ⟨[.int .i64 1], ⟨⟨kr, kr⟩, trivial⟩, ⟨rfl, H⟩⟩
  }
  {
  refine WE.no kr (b := x0 == 7) kr t6 ?_
  refine WE.skip ?_
  refine WE.seq ?_
  refine WE.region ?_
  refine WL.fin 1 kr kr ?_
  obtain rfl := hr
  exact WE.ret ⟨[.int .i64 0], ⟨⟨kr, kr⟩, trivial⟩, ⟨rfl, H⟩⟩
  }
  }
  {
  refine WE.no kr (b := x0 == 7) kr t5 ?_
  refine WE.seq ?_
  refine WE.region ?_
  refine WL.fin 2 kr kr ?_
  rcases ite_cases hr with ⟨t7, hr⟩ | ⟨t7, hr⟩
  {
  refine WE.yes kr (b := x0 == 8) kr t7 ?_
  refine WE.skip ?_
  rcases ite_cases hr with ⟨t8, hr⟩ | ⟨t8, hr⟩
  {
  refine WE.yes kr (b := x0 == 8) kr t8 ?_
  refine WE.seq ?_
  refine WE.region ?_
  refine WL.fin 1 kr kr ?_
  obtain rfl := hr
  exact WE.ret ⟨[.int .i64 1], ⟨⟨kr, kr⟩, trivial⟩, ⟨rfl, H⟩⟩
  }
  {
  refine WE.no kr (b := x0 == 8) kr t8 ?_
  refine WE.skip ?_
  refine WE.seq ?_
  refine WE.region ?_
  refine WL.fin 1 kr kr ?_
  obtain rfl := hr
  exact WE.ret ⟨[.int .i64 0], ⟨⟨kr, kr⟩, trivial⟩, ⟨rfl, H⟩⟩
  }
  }
  {
  refine WE.no kr (b := x0 == 8) kr t7 ?_
  refine WE.seq ?_
  refine WE.region ?_
  refine WL.fin 2 kr kr ?_
  rcases ite_cases hr with ⟨t9, hr⟩ | ⟨t9, hr⟩
  {
  refine WE.yes kr (b := x0 == 9) kr t9 ?_
  refine WE.skip ?_
  rcases ite_cases hr with ⟨t10, hr⟩ | ⟨t10, hr⟩
  {
  refine WE.yes kr (b := x0 == 9) kr t10 ?_
  refine WE.seq ?_
  refine WE.region ?_
  refine WL.fin 1 kr kr ?_
  obtain rfl := hr
  exact WE.ret ⟨[.int .i64 1], ⟨⟨kr, kr⟩, trivial⟩, ⟨rfl, H⟩⟩
  }
  {
  refine WE.no kr (b := x0 == 9) kr t10 ?_
  refine WE.skip ?_
  refine WE.seq ?_
  refine WE.region ?_
  refine WL.fin 1 kr kr ?_
  obtain rfl := hr
  exact WE.ret ⟨[.int .i64 0], ⟨⟨kr, kr⟩, trivial⟩, ⟨rfl, H⟩⟩
  }
  }
  {
  refine WE.no kr (b := x0 == 9) kr t9 ?_
  refine WE.seq ?_
  refine WE.region ?_
  refine WL.fin 2 kr kr ?_
  rcases ite_cases hr with ⟨t11, hr⟩ | ⟨t11, hr⟩
  {
  refine WE.yes kr (b := x0 == 11) kr t11 ?_
  refine WE.skip ?_
  rcases ite_cases hr with ⟨t12, hr⟩ | ⟨t12, hr⟩
  {
  refine WE.yes kr (b := x0 == 11) kr t12 ?_
  refine WE.seq ?_
  refine WE.region ?_
  refine WL.fin 1 kr kr ?_
  obtain rfl := hr
  exact WE.ret ⟨[.int .i64 1], ⟨⟨kr, kr⟩, trivial⟩, ⟨rfl, H⟩⟩
  }
  {
  refine WE.no kr (b := x0 == 11) kr t12 ?_
  refine WE.skip ?_
  refine WE.seq ?_
  refine WE.region ?_
  refine WL.fin 1 kr kr ?_
  obtain rfl := hr
  exact WE.ret ⟨[.int .i64 0], ⟨⟨kr, kr⟩, trivial⟩, ⟨rfl, H⟩⟩
  }
  }
  {
  refine WE.no kr (b := x0 == 11) kr t11 ?_
  refine WE.region ?_
  refine WL.fin 2 kr kr ?_
  rcases ite_cases hr with ⟨t13, hr⟩ | ⟨t13, hr⟩
  {
  refine WE.yes kr (b := x0 == 15) kr t13 ?_
  refine WE.seq ?_
  refine WE.region ?_
  refine WL.fin 1 kr kr ?_
  obtain rfl := hr
  exact WE.ret ⟨[.int .i64 1], ⟨⟨kr, kr⟩, trivial⟩, ⟨rfl, H⟩⟩
  }
  {
  refine WE.no kr (b := x0 == 15) kr t13 ?_
  refine WE.skip ?_
  refine WE.seq ?_
  refine WE.region ?_
  refine WL.fin 1 kr kr ?_
  obtain rfl := hr
  exact WE.ret ⟨[.int .i64 0], ⟨⟨kr, kr⟩, trivial⟩, ⟨rfl, H⟩⟩
  }
  }
  }
  }
  }
  }
  }
  }
  {
  refine WE.no kr (b := x0 == 3) kr t1 ?_
  refine WE.seq ?_
  refine WE.region ?_
  refine WL.fin 2 kr kr ?_
  rcases ite_cases hr with ⟨t14, hr⟩ | ⟨t14, hr⟩
  {
  refine WE.yes kr (b := x0 == 4) kr t14 ?_
  refine WE.skip ?_
  rcases ite_cases hr with ⟨t15, hr⟩ | ⟨t15, hr⟩
  {
  refine WE.yes kr (b := x0 == 4) kr t15 ?_
  refine WE.seq ?_
  refine WE.region ?_
  refine WL.fin 1 kr kr ?_
  obtain rfl := hr
  exact WE.ret ⟨[.int .i64 2], ⟨⟨kr, kr⟩, trivial⟩, ⟨rfl, H⟩⟩
  }
  {
  refine WE.no kr (b := x0 == 4) kr t15 ?_
  refine WE.seq ?_
  refine WE.seq ?_
  refine WE.region ?_
  refine WL.fin 2 kr kr ?_
  rcases ite_cases hr with ⟨t16, hr⟩ | ⟨t16, hr⟩
  {
  refine WE.yes kr (b := x0 == 2) kr t16 ?_
  refine WE.skip ?_
  rcases ite_cases hr with ⟨t17, hr⟩ | ⟨t17, hr⟩
  {
  refine WE.yes kr (b := x0 == 2) kr t17 ?_
  refine WE.seq ?_
  refine WE.region ?_
  refine WL.fin 1 kr kr ?_
  obtain rfl := hr
  exact WE.ret ⟨[.int .i64 1], ⟨⟨kr, kr⟩, trivial⟩, ⟨rfl, H⟩⟩
  }
  {
  refine WE.no kr (b := x0 == 2) kr t17 ?_
  refine WE.skip ?_
  refine WE.seq ?_
  refine WE.region ?_
  refine WL.fin 1 kr kr ?_
  obtain rfl := hr
  exact WE.ret ⟨[.int .i64 0], ⟨⟨kr, kr⟩, trivial⟩, ⟨rfl, H⟩⟩
  }
  }
  {
  refine WE.no kr (b := x0 == 2) kr t16 ?_
  refine WE.seq ?_
  refine WE.region ?_
  refine WL.fin 2 kr kr ?_
  rcases ite_cases hr with ⟨t18, hr⟩ | ⟨t18, hr⟩
  {
  refine WE.yes kr (b := x0 == 7) kr t18 ?_
  refine WE.skip ?_
  rcases ite_cases hr with ⟨t19, hr⟩ | ⟨t19, hr⟩
  {
  refine WE.yes kr (b := x0 == 7) kr t19 ?_
  refine WE.seq ?_
  refine WE.region ?_
  refine WL.fin 1 kr kr ?_
  obtain rfl := hr
  exact WE.ret ⟨[.int .i64 1], ⟨⟨kr, kr⟩, trivial⟩, ⟨rfl, H⟩⟩
  }
  {
  refine WE.no kr (b := x0 == 7) kr t19 ?_
  refine WE.skip ?_
  refine WE.seq ?_
  refine WE.region ?_
  refine WL.fin 1 kr kr ?_
  obtain rfl := hr
  exact WE.ret ⟨[.int .i64 0], ⟨⟨kr, kr⟩, trivial⟩, ⟨rfl, H⟩⟩
  }
  }
  {
  refine WE.no kr (b := x0 == 7) kr t18 ?_
  refine WE.seq ?_
  refine WE.region ?_
  refine WL.fin 2 kr kr ?_
  rcases ite_cases hr with ⟨t20, hr⟩ | ⟨t20, hr⟩
  {
  refine WE.yes kr (b := x0 == 8) kr t20 ?_
  refine WE.skip ?_
  rcases ite_cases hr with ⟨t21, hr⟩ | ⟨t21, hr⟩
  {
  refine WE.yes kr (b := x0 == 8) kr t21 ?_
  refine WE.seq ?_
  refine WE.region ?_
  refine WL.fin 1 kr kr ?_
  obtain rfl := hr
  exact WE.ret ⟨[.int .i64 1], ⟨⟨kr, kr⟩, trivial⟩, ⟨rfl, H⟩⟩
  }
  {
  refine WE.no kr (b := x0 == 8) kr t21 ?_
  refine WE.skip ?_
  refine WE.seq ?_
  refine WE.region ?_
  refine WL.fin 1 kr kr ?_
  obtain rfl := hr
  exact WE.ret ⟨[.int .i64 0], ⟨⟨kr, kr⟩, trivial⟩, ⟨rfl, H⟩⟩
  }
  }
  {
  refine WE.no kr (b := x0 == 8) kr t20 ?_
  refine WE.seq ?_
  refine WE.region ?_
  refine WL.fin 2 kr kr ?_
  rcases ite_cases hr with ⟨t22, hr⟩ | ⟨t22, hr⟩
  {
  refine WE.yes kr (b := x0 == 9) kr t22 ?_
  refine WE.skip ?_
  rcases ite_cases hr with ⟨t23, hr⟩ | ⟨t23, hr⟩
  {
  refine WE.yes kr (b := x0 == 9) kr t23 ?_
  refine WE.seq ?_
  refine WE.region ?_
  refine WL.fin 1 kr kr ?_
  obtain rfl := hr
  exact WE.ret ⟨[.int .i64 1], ⟨⟨kr, kr⟩, trivial⟩, ⟨rfl, H⟩⟩
  }
  {
  refine WE.no kr (b := x0 == 9) kr t23 ?_
  refine WE.skip ?_
  refine WE.seq ?_
  refine WE.region ?_
  refine WL.fin 1 kr kr ?_
  obtain rfl := hr
  exact WE.ret ⟨[.int .i64 0], ⟨⟨kr, kr⟩, trivial⟩, ⟨rfl, H⟩⟩
  }
  }
  {
  refine WE.no kr (b := x0 == 9) kr t22 ?_
  refine WE.seq ?_
  refine WE.region ?_
  refine WL.fin 2 kr kr ?_
  rcases ite_cases hr with ⟨t24, hr⟩ | ⟨t24, hr⟩
  {
  refine WE.yes kr (b := x0 == 11) kr t24 ?_
  refine WE.skip ?_
  rcases ite_cases hr with ⟨t25, hr⟩ | ⟨t25, hr⟩
  {
  refine WE.yes kr (b := x0 == 11) kr t25 ?_
  refine WE.seq ?_
  refine WE.region ?_
  refine WL.fin 1 kr kr ?_
  obtain rfl := hr
  exact WE.ret ⟨[.int .i64 1], ⟨⟨kr, kr⟩, trivial⟩, ⟨rfl, H⟩⟩
  }
  {
  refine WE.no kr (b := x0 == 11) kr t25 ?_
  refine WE.skip ?_
  refine WE.seq ?_
  refine WE.region ?_
  refine WL.fin 1 kr kr ?_
  obtain rfl := hr
  exact WE.ret ⟨[.int .i64 0], ⟨⟨kr, kr⟩, trivial⟩, ⟨rfl, H⟩⟩
  }
  }
  {
  refine WE.no kr (b := x0 == 11) kr t24 ?_
  refine WE.region ?_
  refine WL.fin 2 kr kr ?_
  rcases ite_cases hr with ⟨t26, hr⟩ | ⟨t26, hr⟩
  {
  refine WE.yes kr (b := x0 == 15) kr t26 ?_
  refine WE.seq ?_
  refine WE.region ?_
  refine WL.fin 1 kr kr ?_
  obtain rfl := hr
  exact WE.ret ⟨[.int .i64 1], ⟨⟨kr, kr⟩, trivial⟩, ⟨rfl, H⟩⟩
  }
  {
  refine WE.no kr (b := x0 == 15) kr t26 ?_
  refine WE.skip ?_
  refine WE.seq ?_
  refine WE.region ?_
  refine WL.fin 1 kr kr ?_
  obtain rfl := hr
  exact WE.ret ⟨[.int .i64 0], ⟨⟨kr, kr⟩, trivial⟩, ⟨rfl, H⟩⟩
  }
  }
  }
  }
  }
  }
  }
  }
  {
  refine WE.no kr (b := x0 == 4) kr t14 ?_
  refine WE.seq ?_
  refine WE.region ?_
  refine WL.fin 2 kr kr ?_
  rcases ite_cases hr with ⟨t27, hr⟩ | ⟨t27, hr⟩
  {
  refine WE.yes kr (b := x0 == 5) kr t27 ?_
  refine WE.skip ?_
  rcases ite_cases hr with ⟨t28, hr⟩ | ⟨t28, hr⟩
  {
  refine WE.yes kr (b := x0 == 5) kr t28 ?_
  refine WE.seq ?_
  refine WE.region ?_
  refine WL.fin 1 kr kr ?_
  obtain rfl := hr
  exact WE.ret ⟨[.int .i64 2], ⟨⟨kr, kr⟩, trivial⟩, ⟨rfl, H⟩⟩
  }
  {
  refine WE.no kr (b := x0 == 5) kr t28 ?_
  refine WE.seq ?_
  refine WE.seq ?_
  refine WE.region ?_
  refine WL.fin 2 kr kr ?_
  rcases ite_cases hr with ⟨t29, hr⟩ | ⟨t29, hr⟩
  {
  refine WE.yes kr (b := x0 == 2) kr t29 ?_
  refine WE.skip ?_
  rcases ite_cases hr with ⟨t30, hr⟩ | ⟨t30, hr⟩
  {
  refine WE.yes kr (b := x0 == 2) kr t30 ?_
  refine WE.seq ?_
  refine WE.region ?_
  refine WL.fin 1 kr kr ?_
  obtain rfl := hr
  exact WE.ret ⟨[.int .i64 1], ⟨⟨kr, kr⟩, trivial⟩, ⟨rfl, H⟩⟩
  }
  {
  refine WE.no kr (b := x0 == 2) kr t30 ?_
  refine WE.skip ?_
  refine WE.seq ?_
  refine WE.region ?_
  refine WL.fin 1 kr kr ?_
  obtain rfl := hr
  exact WE.ret ⟨[.int .i64 0], ⟨⟨kr, kr⟩, trivial⟩, ⟨rfl, H⟩⟩
  }
  }
  {
  refine WE.no kr (b := x0 == 2) kr t29 ?_
  refine WE.seq ?_
  refine WE.region ?_
  refine WL.fin 2 kr kr ?_
  rcases ite_cases hr with ⟨t31, hr⟩ | ⟨t31, hr⟩
  {
  refine WE.yes kr (b := x0 == 7) kr t31 ?_
  refine WE.skip ?_
  rcases ite_cases hr with ⟨t32, hr⟩ | ⟨t32, hr⟩
  {
  refine WE.yes kr (b := x0 == 7) kr t32 ?_
  refine WE.seq ?_
  refine WE.region ?_
  refine WL.fin 1 kr kr ?_
  obtain rfl := hr
  exact WE.ret ⟨[.int .i64 1], ⟨⟨kr, kr⟩, trivial⟩, ⟨rfl, H⟩⟩
  }
  {
  refine WE.no kr (b := x0 == 7) kr t32 ?_
  refine WE.skip ?_
  refine WE.seq ?_
  refine WE.region ?_
  refine WL.fin 1 kr kr ?_
  obtain rfl := hr
  exact WE.ret ⟨[.int .i64 0], ⟨⟨kr, kr⟩, trivial⟩, ⟨rfl, H⟩⟩
  }
  }
  {
  refine WE.no kr (b := x0 == 7) kr t31 ?_
  refine WE.seq ?_
  refine WE.region ?_
  refine WL.fin 2 kr kr ?_
  rcases ite_cases hr with ⟨t33, hr⟩ | ⟨t33, hr⟩
  {
  refine WE.yes kr (b := x0 == 8) kr t33 ?_
  refine WE.skip ?_
  rcases ite_cases hr with ⟨t34, hr⟩ | ⟨t34, hr⟩
  {
  refine WE.yes kr (b := x0 == 8) kr t34 ?_
  refine WE.seq ?_
  refine WE.region ?_
  refine WL.fin 1 kr kr ?_
  obtain rfl := hr
  exact WE.ret ⟨[.int .i64 1], ⟨⟨kr, kr⟩, trivial⟩, ⟨rfl, H⟩⟩
  }
  {
  refine WE.no kr (b := x0 == 8) kr t34 ?_
  refine WE.skip ?_
  refine WE.seq ?_
  refine WE.region ?_
  refine WL.fin 1 kr kr ?_
  obtain rfl := hr
  exact WE.ret ⟨[.int .i64 0], ⟨⟨kr, kr⟩, trivial⟩, ⟨rfl, H⟩⟩
  }
  }
  {
  refine WE.no kr (b := x0 == 8) kr t33 ?_
  refine WE.seq ?_
  refine WE.region ?_
  refine WL.fin 2 kr kr ?_
  rcases ite_cases hr with ⟨t35, hr⟩ | ⟨t35, hr⟩
  {
  refine WE.yes kr (b := x0 == 9) kr t35 ?_
  refine WE.skip ?_
  rcases ite_cases hr with ⟨t36, hr⟩ | ⟨t36, hr⟩
  {
  refine WE.yes kr (b := x0 == 9) kr t36 ?_
  refine WE.seq ?_
  refine WE.region ?_
  refine WL.fin 1 kr kr ?_
  obtain rfl := hr
  exact WE.ret ⟨[.int .i64 1], ⟨⟨kr, kr⟩, trivial⟩, ⟨rfl, H⟩⟩
  }
  {
  refine WE.no kr (b := x0 == 9) kr t36 ?_
  refine WE.skip ?_
  refine WE.seq ?_
  refine WE.region ?_
  refine WL.fin 1 kr kr ?_
  obtain rfl := hr
  exact WE.ret ⟨[.int .i64 0], ⟨⟨kr, kr⟩, trivial⟩, ⟨rfl, H⟩⟩
  }
  }
  {
  refine WE.no kr (b := x0 == 9) kr t35 ?_
  refine WE.seq ?_
  refine WE.region ?_
  refine WL.fin 2 kr kr ?_
  rcases ite_cases hr with ⟨t37, hr⟩ | ⟨t37, hr⟩
  {
  refine WE.yes kr (b := x0 == 11) kr t37 ?_
  refine WE.skip ?_
  rcases ite_cases hr with ⟨t38, hr⟩ | ⟨t38, hr⟩
  {
  refine WE.yes kr (b := x0 == 11) kr t38 ?_
  refine WE.seq ?_
  refine WE.region ?_
  refine WL.fin 1 kr kr ?_
  obtain rfl := hr
  exact WE.ret ⟨[.int .i64 1], ⟨⟨kr, kr⟩, trivial⟩, ⟨rfl, H⟩⟩
  }
  {
  refine WE.no kr (b := x0 == 11) kr t38 ?_
  refine WE.skip ?_
  refine WE.seq ?_
  refine WE.region ?_
  refine WL.fin 1 kr kr ?_
  obtain rfl := hr
  exact WE.ret ⟨[.int .i64 0], ⟨⟨kr, kr⟩, trivial⟩, ⟨rfl, H⟩⟩
  }
  }
  {
  refine WE.no kr (b := x0 == 11) kr t37 ?_
  refine WE.region ?_
  refine WL.fin 2 kr kr ?_
  rcases ite_cases hr with ⟨t39, hr⟩ | ⟨t39, hr⟩
  {
  refine WE.yes kr (b := x0 == 15) kr t39 ?_
  refine WE.seq ?_
  refine WE.region ?_
  refine WL.fin 1 kr kr ?_
  obtain rfl := hr
  exact WE.ret ⟨[.int .i64 1], ⟨⟨kr, kr⟩, trivial⟩, ⟨rfl, H⟩⟩
  }
  {
  refine WE.no kr (b := x0 == 15) kr t39 ?_
  refine WE.skip ?_
  refine WE.seq ?_
  refine WE.region ?_
  refine WL.fin 1 kr kr ?_
  obtain rfl := hr
  exact WE.ret ⟨[.int .i64 0], ⟨⟨kr, kr⟩, trivial⟩, ⟨rfl, H⟩⟩
  }
  }
  }
  }
  }
  }
  }
  }
  {
  refine WE.no kr (b := x0 == 5) kr t27 ?_
  refine WE.region ?_
  refine WL.fin 2 kr kr ?_
  rcases ite_cases hr with ⟨t40, hr⟩ | ⟨t40, hr⟩
  {
  refine WE.yes kr (b := x0 == 6) kr t40 ?_
  refine WE.seq ?_
  refine WE.region ?_
  refine WL.fin 1 kr kr ?_
  obtain rfl := hr
  exact WE.ret ⟨[.int .i64 2], ⟨⟨kr, kr⟩, trivial⟩, ⟨rfl, H⟩⟩
  }
  {
  refine WE.no kr (b := x0 == 6) kr t40 ?_
  refine WE.seq ?_
  refine WE.seq ?_
  refine WE.region ?_
  refine WL.fin 2 kr kr ?_
  rcases ite_cases hr with ⟨t41, hr⟩ | ⟨t41, hr⟩
  {
  refine WE.yes kr (b := x0 == 2) kr t41 ?_
  refine WE.skip ?_
  rcases ite_cases hr with ⟨t42, hr⟩ | ⟨t42, hr⟩
  {
  refine WE.yes kr (b := x0 == 2) kr t42 ?_
  refine WE.seq ?_
  refine WE.region ?_
  refine WL.fin 1 kr kr ?_
  obtain rfl := hr
  exact WE.ret ⟨[.int .i64 1], ⟨⟨kr, kr⟩, trivial⟩, ⟨rfl, H⟩⟩
  }
  {
  refine WE.no kr (b := x0 == 2) kr t42 ?_
  refine WE.skip ?_
  refine WE.seq ?_
  refine WE.region ?_
  refine WL.fin 1 kr kr ?_
  obtain rfl := hr
  exact WE.ret ⟨[.int .i64 0], ⟨⟨kr, kr⟩, trivial⟩, ⟨rfl, H⟩⟩
  }
  }
  {
  refine WE.no kr (b := x0 == 2) kr t41 ?_
  refine WE.seq ?_
  refine WE.region ?_
  refine WL.fin 2 kr kr ?_
  rcases ite_cases hr with ⟨t43, hr⟩ | ⟨t43, hr⟩
  {
  refine WE.yes kr (b := x0 == 7) kr t43 ?_
  refine WE.skip ?_
  rcases ite_cases hr with ⟨t44, hr⟩ | ⟨t44, hr⟩
  {
  refine WE.yes kr (b := x0 == 7) kr t44 ?_
  refine WE.seq ?_
  refine WE.region ?_
  refine WL.fin 1 kr kr ?_
  obtain rfl := hr
  exact WE.ret ⟨[.int .i64 1], ⟨⟨kr, kr⟩, trivial⟩, ⟨rfl, H⟩⟩
  }
  {
  refine WE.no kr (b := x0 == 7) kr t44 ?_
  refine WE.skip ?_
  refine WE.seq ?_
  refine WE.region ?_
  refine WL.fin 1 kr kr ?_
  obtain rfl := hr
  exact WE.ret ⟨[.int .i64 0], ⟨⟨kr, kr⟩, trivial⟩, ⟨rfl, H⟩⟩
  }
  }
  {
  refine WE.no kr (b := x0 == 7) kr t43 ?_
  refine WE.seq ?_
  refine WE.region ?_
  refine WL.fin 2 kr kr ?_
  rcases ite_cases hr with ⟨t45, hr⟩ | ⟨t45, hr⟩
  {
  refine WE.yes kr (b := x0 == 8) kr t45 ?_
  refine WE.skip ?_
  rcases ite_cases hr with ⟨t46, hr⟩ | ⟨t46, hr⟩
  {
  refine WE.yes kr (b := x0 == 8) kr t46 ?_
  refine WE.seq ?_
  refine WE.region ?_
  refine WL.fin 1 kr kr ?_
  obtain rfl := hr
  exact WE.ret ⟨[.int .i64 1], ⟨⟨kr, kr⟩, trivial⟩, ⟨rfl, H⟩⟩
  }
  {
  refine WE.no kr (b := x0 == 8) kr t46 ?_
  refine WE.skip ?_
  refine WE.seq ?_
  refine WE.region ?_
  refine WL.fin 1 kr kr ?_
  obtain rfl := hr
  exact WE.ret ⟨[.int .i64 0], ⟨⟨kr, kr⟩, trivial⟩, ⟨rfl, H⟩⟩
  }
  }
  {
  refine WE.no kr (b := x0 == 8) kr t45 ?_
  refine WE.seq ?_
  refine WE.region ?_
  refine WL.fin 2 kr kr ?_
  rcases ite_cases hr with ⟨t47, hr⟩ | ⟨t47, hr⟩
  {
  refine WE.yes kr (b := x0 == 9) kr t47 ?_
  refine WE.skip ?_
  rcases ite_cases hr with ⟨t48, hr⟩ | ⟨t48, hr⟩
  {
  refine WE.yes kr (b := x0 == 9) kr t48 ?_
  refine WE.seq ?_
  refine WE.region ?_
  refine WL.fin 1 kr kr ?_
  obtain rfl := hr
  exact WE.ret ⟨[.int .i64 1], ⟨⟨kr, kr⟩, trivial⟩, ⟨rfl, H⟩⟩
  }
  {
  refine WE.no kr (b := x0 == 9) kr t48 ?_
  refine WE.skip ?_
  refine WE.seq ?_
  refine WE.region ?_
  refine WL.fin 1 kr kr ?_
  obtain rfl := hr
  exact WE.ret ⟨[.int .i64 0], ⟨⟨kr, kr⟩, trivial⟩, ⟨rfl, H⟩⟩
  }
  }
  {
  refine WE.no kr (b := x0 == 9) kr t47 ?_
  refine WE.seq ?_
  refine WE.region ?_
  refine WL.fin 2 kr kr ?_
  rcases ite_cases hr with ⟨t49, hr⟩ | ⟨t49, hr⟩
  {
  refine WE.yes kr (b := x0 == 11) kr t49 ?_
  refine WE.skip ?_
  rcases ite_cases hr with ⟨t50, hr⟩ | ⟨t50, hr⟩
  {
  refine WE.yes kr (b := x0 == 11) kr t50 ?_
  refine WE.seq ?_
  refine WE.region ?_
  refine WL.fin 1 kr kr ?_
  obtain rfl := hr
  exact WE.ret ⟨[.int .i64 1], ⟨⟨kr, kr⟩, trivial⟩, ⟨rfl, H⟩⟩
  }
  {
  refine WE.no kr (b := x0 == 11) kr t50 ?_
  refine WE.skip ?_
  refine WE.seq ?_
  refine WE.region ?_
  refine WL.fin 1 kr kr ?_
  obtain rfl := hr
  exact WE.ret ⟨[.int .i64 0], ⟨⟨kr, kr⟩, trivial⟩, ⟨rfl, H⟩⟩
  }
  }
  {
  refine WE.no kr (b := x0 == 11) kr t49 ?_
  refine WE.region ?_
  refine WL.fin 2 kr kr ?_
  rcases ite_cases hr with ⟨t51, hr⟩ | ⟨t51, hr⟩
  {
  refine WE.yes kr (b := x0 == 15) kr t51 ?_
  refine WE.seq ?_
  refine WE.region ?_
  refine WL.fin 1 kr kr ?_
  obtain rfl := hr
  exact WE.ret ⟨[.int .i64 1], ⟨⟨kr, kr⟩, trivial⟩, ⟨rfl, H⟩⟩
  }
  {
  refine WE.no kr (b := x0 == 15) kr t51 ?_
  refine WE.skip ?_
  refine WE.seq ?_
  refine WE.region ?_
  refine WL.fin 1 kr kr ?_
  obtain rfl := hr
  exact WE.ret ⟨[.int .i64 0], ⟨⟨kr, kr⟩, trivial⟩, ⟨rfl, H⟩⟩
  }
  }
  }
  }
  }
  }
  }
  }
  }
  }
def r08_Off (x0 : List GFunc) (x1 : GInstr) : Option Int :=
  if x1.Op == 13 then
    if 0 ≤ x1.A ∧ x1.A < x0.length then
      some ((gd x0 x1.A).Arity)
    else none
  else
    bnd (r06_Off x1.Op) fun y6 =>
    some y6
set_option maxRecDepth 100000 in
set_option maxHeartbeats 4000000 in
theorem c_r08_Off {w0 w : World} {h : Gh} {L : List Ent} (x0 : List GFunc) {a1 : Option Addr} {c1 : Nat} (f1 : Sl rGFunc 48 h a1 c1 x0) (x1 : GInstr) (H : St w0 h w L) {r : Int} (hr : r08_Off x0 x1 = some r) : Calls Try.prog 76 #[.slice a1 x0.length c1, .agg #[.int .i64 x1.Op, .int .i64 x1.A, .int .i64 x1.B]] w (fun e w' => ∃ v, e = .returned v ∧ v = .int .i64 r ∧ St w0 h w' (L)) := by
  refine calls_of (args := [.slice a1 x0.length c1, .agg #[.int .i64 x1.Op, .int .i64 x1.A, .int .i64 x1.B]]) (n := 17) (rs := [.tmp 4]) Try.func76 rfl rfl rfl rfl rfl ?_
  unfold r08_Off at hr
  refine WE.seq ?_
  refine WE.region ?_
  refine WL.does kr kr (Does.box H [.int .i64 x1.Op, .int .i64 x1.A, .int .i64 x1.B] kr fun b2 w H => ?_)
  refine WL.fin 1 kr kr ?_
  refine WE.seq ?_
  refine WE.seq ?_
  refine WE.region ?_
  refine WL.sg 1 kr ?_
  refine WL.does kr kr (Does.loadV H 0 rfl 0 kr kr ?_)
  refine WL.fin 1 kr kr ?_
  rcases ite_cases hr with ⟨t3, hr⟩ | ⟨t3, hr⟩
  {
  refine WE.yes kr (b := x1.Op == 13) kr t3 ?_
  refine WE.seq ?_
  refine WE.region ?_
  refine WL.sg 2 kr ?_
  refine WL.does kr kr (Does.loadV H 0 rfl 1 kr kr ?_)
  obtain ⟨⟨g0_4, g1_4⟩, hr⟩ := grd_cases hr
  obtain ⟨b4, p4, C4, e4, fr4, cs4, rfl, hb4, hc4, ⟨a5, c5, rfl, f5⟩⟩ := f1.at g0_4 g1_4
  refine WL.does kr kr (Does.tells (.idx b4 (p4) x0.length c1 x1.A 4 kr kr g0_4 g1_4 kr) ?_)
  refine WL.sg 1 kr ?_
  refine WL.does kr kr (Does.loadR H hb4 hc4 0 kr kr ?_)
  refine WL.fin 1 kr kr ?_
  obtain rfl := Option.some.inj hr
  exact WE.ret ⟨[.int .i64 ((gd x0 x1.A).Arity)], ⟨⟨kr, kr⟩, trivial⟩, ⟨rfl, (H.keep 1)⟩⟩
  }
  {
  refine WE.no kr (b := x1.Op == 13) kr t3 ?_
  refine WE.skip ?_
  refine WE.seq ?_
  refine WE.region ?_
  refine WL.sg 1 kr ?_
  refine WL.does kr kr (Does.loadV H 0 rfl 0 kr kr ?_)
  obtain ⟨y6, q6, hr⟩ := bnd_cases hr
  refine WL.does kr kr (Does.call (c_r06_Off x1.Op H q6) kr ?_)
  rintro _ w ⟨rfl, H⟩
  refine WL.fin 1 kr kr ?_
  obtain rfl := Option.some.inj hr
  exact WE.ret ⟨[.int .i64 y6], ⟨⟨kr, kr⟩, trivial⟩, ⟨rfl, (H.keep 1)⟩⟩
  }
def r06_On (x0 : Int) : Int :=
  if x0 == 8 then
    2
  else
    if x0 == 0 then
      if x0 == 0 then
        1
      else
        0
    else
      if x0 == 1 then
        if x0 == 1 then
          1
        else
          0
      else
        if x0 == 3 then
          if x0 == 3 then
            1
          else
            0
        else
          if x0 == 4 then
            if x0 == 4 then
              1
            else
              0
          else
            if x0 == 5 then
              if x0 == 5 then
                1
              else
                0
            else
              if x0 == 6 then
                if x0 == 6 then
                  1
                else
                  0
              else
                if x0 == 7 then
                  if x0 == 7 then
                    1
                  else
                    0
                else
                  if x0 == 12 then
                    if x0 == 12 then
                      1
                    else
                      0
                  else
                    if x0 == 14 then
                      1
                    else
                      0
set_option maxRecDepth 100000 in
set_option maxHeartbeats 4000000 in
theorem c_r06_On {w0 w : World} {h : Gh} {L : List Ent} (x0 : Int) (H : St w0 h w L) {r : Int} (hr : r06_On x0 = r) : Calls Try.prog 77 #[.int .i64 x0] w (fun e w' => ∃ v, e = .returned v ∧ v = .int .i64 r ∧ St w0 h w' (L)) := by
  refine calls_of (args := [.int .i64 x0]) (n := 16) (rs := [.tmp 2]) Try.func77 rfl rfl rfl rfl rfl ?_
  unfold r06_On at hr
  refine WE.seq ?_
  refine WE.region ?_
  refine WL.fin 1 kr kr ?_
  refine WE.seq ?_
  refine WE.seq ?_
  refine WE.region ?_
  refine WL.fin 1 kr kr ?_
  refine WE.block ?_
  refine WE.seq ?_
  refine WE.region ?_
  refine WL.fin 2 kr kr ?_
  rcases ite_cases hr with ⟨t1, hr⟩ | ⟨t1, hr⟩
  {
  refine WE.yes kr (b := x0 == 8) kr t1 ?_
  refine WE.seq ?_
  refine WE.region ?_
  refine WL.fin 1 kr kr ?_
  obtain rfl := hr
  exact WE.ret ⟨[.int .i64 2], ⟨⟨kr, kr⟩, trivial⟩, ⟨rfl, H⟩⟩
  }
  {
  refine WE.no kr (b := x0 == 8) kr t1 ?_
  refine WE.seq ?_
  refine WE.seq ?_
  refine WE.region ?_
  refine WL.fin 2 kr kr ?_
  rcases ite_cases hr with ⟨t2, hr⟩ | ⟨t2, hr⟩
  {
  refine WE.yes kr (b := x0 == 0) kr t2 ?_
  refine WE.skip ?_
  rcases ite_cases hr with ⟨t3, hr⟩ | ⟨t3, hr⟩
  {
  refine WE.yes kr (b := x0 == 0) kr t3 ?_
  refine WE.seq ?_
  refine WE.region ?_
  refine WL.fin 1 kr kr ?_
  obtain rfl := hr
  exact WE.ret ⟨[.int .i64 1], ⟨⟨kr, kr⟩, trivial⟩, ⟨rfl, H⟩⟩
  }
  {
  refine WE.no kr (b := x0 == 0) kr t3 ?_
  refine WE.skip ?_
  refine WE.seq ?_
  refine WE.region ?_
  refine WL.fin 1 kr kr ?_
  obtain rfl := hr
  exact WE.ret ⟨[.int .i64 0], ⟨⟨kr, kr⟩, trivial⟩, ⟨rfl, H⟩⟩
  }
  }
  {
  refine WE.no kr (b := x0 == 0) kr t2 ?_
  refine WE.seq ?_
  refine WE.region ?_
  refine WL.fin 2 kr kr ?_
  rcases ite_cases hr with ⟨t4, hr⟩ | ⟨t4, hr⟩
  {
  refine WE.yes kr (b := x0 == 1) kr t4 ?_
  refine WE.skip ?_
  rcases ite_cases hr with ⟨t5, hr⟩ | ⟨t5, hr⟩
  {
  refine WE.yes kr (b := x0 == 1) kr t5 ?_
  refine WE.seq ?_
  refine WE.region ?_
  refine WL.fin 1 kr kr ?_
  obtain rfl := hr
  exact WE.ret ⟨[.int .i64 1], ⟨⟨kr, kr⟩, trivial⟩, ⟨rfl, H⟩⟩
  }
  {
  refine WE.no kr (b := x0 == 1) kr t5 ?_
  refine WE.skip ?_
  refine WE.seq ?_
  refine WE.region ?_
  refine WL.fin 1 kr kr ?_
  obtain rfl := hr
  exact WE.ret ⟨[.int .i64 0], ⟨⟨kr, kr⟩, trivial⟩, ⟨rfl, H⟩⟩
  }
  }
  {
  refine WE.no kr (b := x0 == 1) kr t4 ?_
  refine WE.seq ?_
  refine WE.region ?_
  refine WL.fin 2 kr kr ?_
  rcases ite_cases hr with ⟨t6, hr⟩ | ⟨t6, hr⟩
  {
  refine WE.yes kr (b := x0 == 3) kr t6 ?_
  refine WE.skip ?_
  rcases ite_cases hr with ⟨t7, hr⟩ | ⟨t7, hr⟩
  {
  refine WE.yes kr (b := x0 == 3) kr t7 ?_
  refine WE.seq ?_
  refine WE.region ?_
  refine WL.fin 1 kr kr ?_
  obtain rfl := hr
  exact WE.ret ⟨[.int .i64 1], ⟨⟨kr, kr⟩, trivial⟩, ⟨rfl, H⟩⟩
  }
  {
  refine WE.no kr (b := x0 == 3) kr t7 ?_
  refine WE.skip ?_
  refine WE.seq ?_
  refine WE.region ?_
  refine WL.fin 1 kr kr ?_
  obtain rfl := hr
  exact WE.ret ⟨[.int .i64 0], ⟨⟨kr, kr⟩, trivial⟩, ⟨rfl, H⟩⟩
  }
  }
  {
  refine WE.no kr (b := x0 == 3) kr t6 ?_
  refine WE.seq ?_
  refine WE.region ?_
  refine WL.fin 2 kr kr ?_
  rcases ite_cases hr with ⟨t8, hr⟩ | ⟨t8, hr⟩
  {
  refine WE.yes kr (b := x0 == 4) kr t8 ?_
  refine WE.skip ?_
  rcases ite_cases hr with ⟨t9, hr⟩ | ⟨t9, hr⟩
  {
  refine WE.yes kr (b := x0 == 4) kr t9 ?_
  refine WE.seq ?_
  refine WE.region ?_
  refine WL.fin 1 kr kr ?_
  obtain rfl := hr
  exact WE.ret ⟨[.int .i64 1], ⟨⟨kr, kr⟩, trivial⟩, ⟨rfl, H⟩⟩
  }
  {
  refine WE.no kr (b := x0 == 4) kr t9 ?_
  refine WE.skip ?_
  refine WE.seq ?_
  refine WE.region ?_
  refine WL.fin 1 kr kr ?_
  obtain rfl := hr
  exact WE.ret ⟨[.int .i64 0], ⟨⟨kr, kr⟩, trivial⟩, ⟨rfl, H⟩⟩
  }
  }
  {
  refine WE.no kr (b := x0 == 4) kr t8 ?_
  refine WE.seq ?_
  refine WE.region ?_
  refine WL.fin 2 kr kr ?_
  rcases ite_cases hr with ⟨t10, hr⟩ | ⟨t10, hr⟩
  {
  refine WE.yes kr (b := x0 == 5) kr t10 ?_
  refine WE.skip ?_
  rcases ite_cases hr with ⟨t11, hr⟩ | ⟨t11, hr⟩
  {
  refine WE.yes kr (b := x0 == 5) kr t11 ?_
  refine WE.seq ?_
  refine WE.region ?_
  refine WL.fin 1 kr kr ?_
  obtain rfl := hr
  exact WE.ret ⟨[.int .i64 1], ⟨⟨kr, kr⟩, trivial⟩, ⟨rfl, H⟩⟩
  }
  {
  refine WE.no kr (b := x0 == 5) kr t11 ?_
  refine WE.skip ?_
  refine WE.seq ?_
  refine WE.region ?_
  refine WL.fin 1 kr kr ?_
  obtain rfl := hr
  exact WE.ret ⟨[.int .i64 0], ⟨⟨kr, kr⟩, trivial⟩, ⟨rfl, H⟩⟩
  }
  }
  {
  refine WE.no kr (b := x0 == 5) kr t10 ?_
  refine WE.seq ?_
  refine WE.region ?_
  refine WL.fin 2 kr kr ?_
  rcases ite_cases hr with ⟨t12, hr⟩ | ⟨t12, hr⟩
  {
  refine WE.yes kr (b := x0 == 6) kr t12 ?_
  refine WE.skip ?_
  rcases ite_cases hr with ⟨t13, hr⟩ | ⟨t13, hr⟩
  {
  refine WE.yes kr (b := x0 == 6) kr t13 ?_
  refine WE.seq ?_
  refine WE.region ?_
  refine WL.fin 1 kr kr ?_
  obtain rfl := hr
  exact WE.ret ⟨[.int .i64 1], ⟨⟨kr, kr⟩, trivial⟩, ⟨rfl, H⟩⟩
  }
  {
  refine WE.no kr (b := x0 == 6) kr t13 ?_
  refine WE.skip ?_
  refine WE.seq ?_
  refine WE.region ?_
  refine WL.fin 1 kr kr ?_
  obtain rfl := hr
  exact WE.ret ⟨[.int .i64 0], ⟨⟨kr, kr⟩, trivial⟩, ⟨rfl, H⟩⟩
  }
  }
  {
  refine WE.no kr (b := x0 == 6) kr t12 ?_
  refine WE.seq ?_
  refine WE.region ?_
  refine WL.fin 2 kr kr ?_
  rcases ite_cases hr with ⟨t14, hr⟩ | ⟨t14, hr⟩
  {
  refine WE.yes kr (b := x0 == 7) kr t14 ?_
  refine WE.skip ?_
  rcases ite_cases hr with ⟨t15, hr⟩ | ⟨t15, hr⟩
  {
  refine WE.yes kr (b := x0 == 7) kr t15 ?_
  refine WE.seq ?_
  refine WE.region ?_
  refine WL.fin 1 kr kr ?_
  obtain rfl := hr
  exact WE.ret ⟨[.int .i64 1], ⟨⟨kr, kr⟩, trivial⟩, ⟨rfl, H⟩⟩
  }
  {
  refine WE.no kr (b := x0 == 7) kr t15 ?_
  refine WE.skip ?_
  refine WE.seq ?_
  refine WE.region ?_
  refine WL.fin 1 kr kr ?_
  obtain rfl := hr
  exact WE.ret ⟨[.int .i64 0], ⟨⟨kr, kr⟩, trivial⟩, ⟨rfl, H⟩⟩
  }
  }
  {
  refine WE.no kr (b := x0 == 7) kr t14 ?_
  refine WE.seq ?_
  refine WE.region ?_
  refine WL.fin 2 kr kr ?_
  rcases ite_cases hr with ⟨t16, hr⟩ | ⟨t16, hr⟩
  {
  refine WE.yes kr (b := x0 == 12) kr t16 ?_
  refine WE.skip ?_
  rcases ite_cases hr with ⟨t17, hr⟩ | ⟨t17, hr⟩
  {
  refine WE.yes kr (b := x0 == 12) kr t17 ?_
  refine WE.seq ?_
  refine WE.region ?_
  refine WL.fin 1 kr kr ?_
  obtain rfl := hr
  exact WE.ret ⟨[.int .i64 1], ⟨⟨kr, kr⟩, trivial⟩, ⟨rfl, H⟩⟩
  }
  {
  refine WE.no kr (b := x0 == 12) kr t17 ?_
  refine WE.skip ?_
  refine WE.seq ?_
  refine WE.region ?_
  refine WL.fin 1 kr kr ?_
  obtain rfl := hr
  exact WE.ret ⟨[.int .i64 0], ⟨⟨kr, kr⟩, trivial⟩, ⟨rfl, H⟩⟩
  }
  }
  {
  refine WE.no kr (b := x0 == 12) kr t16 ?_
  refine WE.region ?_
  refine WL.fin 2 kr kr ?_
  rcases ite_cases hr with ⟨t18, hr⟩ | ⟨t18, hr⟩
  {
  refine WE.yes kr (b := x0 == 14) kr t18 ?_
  refine WE.seq ?_
  refine WE.region ?_
  refine WL.fin 1 kr kr ?_
  obtain rfl := hr
  exact WE.ret ⟨[.int .i64 1], ⟨⟨kr, kr⟩, trivial⟩, ⟨rfl, H⟩⟩
  }
  {
  refine WE.no kr (b := x0 == 14) kr t18 ?_
  refine WE.skip ?_
  refine WE.seq ?_
  refine WE.region ?_
  refine WL.fin 1 kr kr ?_
  obtain rfl := hr
  exact WE.ret ⟨[.int .i64 0], ⟨⟨kr, kr⟩, trivial⟩, ⟨rfl, H⟩⟩
  }
  }
  }
  }
  }
  }
  }
  }
  }
  }
def r08_behind (x0 : List GFunc) (x1 : GInstr) (x2 : Int) : Option Int :=
  (r08_Off x0 x1).bind fun y3 =>
  bnd (
      if decide (y3 > x2) then
        true
      else
        bnd (r06_On x1.Op) fun y8 =>
        decide ((w64 ((w64 (x2 - y3)) + y8)) > 16)) fun y4 =>
  if y4 then
    some (-1)
  else
    bnd (r06_On x1.Op) fun y7 =>
    some (w64 ((w64 (x2 - y3)) + y7))
set_option maxRecDepth 100000 in
set_option maxHeartbeats 4000000 in
theorem c_r08_behind {w0 w : World} {h : Gh} {L : List Ent} (x0 : List GFunc) {a1 : Option Addr} {c1 : Nat} (f1 : Sl rGFunc 48 h a1 c1 x0) (x1 : GInstr) (x2 : Int) (H : St w0 h w L) {r : Int} (hr : r08_behind x0 x1 x2 = some r) : Calls Try.prog 52 #[.slice a1 x0.length c1, .agg #[.int .i64 x1.Op, .int .i64 x1.A, .int .i64 x1.B], .int .i64 x2] w (fun e w' => ∃ v, e = .returned v ∧ v = .int .i64 r ∧ St w0 h w' (L)) := by
  refine calls_of (args := [.slice a1 x0.length c1, .agg #[.int .i64 x1.Op, .int .i64 x1.A, .int .i64 x1.B], .int .i64 x2]) (n := 31) (rs := [.tmp 6]) Try.func52 rfl rfl rfl rfl rfl ?_
  unfold r08_behind at hr
  refine WE.seq ?_
  refine WE.region ?_
  refine WL.does kr kr (Does.box H [.int .i64 x1.Op, .int .i64 x1.A, .int .i64 x1.B] kr fun b2 w H => ?_)
  refine WL.fin 1 kr kr ?_
  refine WE.seq ?_
  refine WE.region ?_
  refine WL.sg 1 kr ?_
  refine WL.does kr kr (Does.loadV H 0 rfl 0 kr kr ?_)
  obtain ⟨y3, q3, hr⟩ := bind_cases hr
  refine WL.does kr kr (Does.call (c_r08_Off x0 f1 x1 H q3) kr ?_)
  rintro _ w ⟨rfl, H⟩
  refine WL.fin 1 kr kr ?_
  refine WE.seq ?_
  refine WE.seq ?_
  refine WE.region ?_
  refine WL.sg 4 kr ?_
  obtain ⟨y4, hy4, hr⟩ := bnd_cases hr
  refine WL.join 9 (fun (_ : Unit) => [(2, .int .i64 x2), (4, .pointer (some ⟨b2, 0, none⟩)), (7, .int .i64 y3), (23, .bool y4)]) (fun (_ : Unit) w => St w0 h w (var b2 [.int .i64 x1.Op, .int .i64 x1.A, .int .i64 x1.B] 71 :: L)) ?_ (fun hk_y4 => ?_)
  {
  rintro _ w H
  refine WL.fin 0 kr kr ?_
  rcases ite_cases hr with ⟨t6, hr⟩ | ⟨t6, hr⟩
  {
  refine WE.yes kr (b := y4) kr t6 ?_
  refine WE.seq ?_
  refine WE.region ?_
  refine WL.fin 1 kr kr ?_
  obtain rfl := Option.some.inj hr
  exact WE.ret ⟨[.int .i64 (-1)], ⟨⟨kr, kr⟩, trivial⟩, ⟨rfl, (H.keep 1)⟩⟩
  }
  {
  refine WE.no kr (b := y4) kr t6 ?_
  refine WE.skip ?_
  refine WE.seq ?_
  refine WE.region ?_
  refine WL.sg 4 kr ?_
  refine WL.does kr kr (Does.loadV H 0 rfl 0 kr kr ?_)
  obtain ⟨y7, q7, hr⟩ := bnd_cases hr
  refine WL.does kr kr (Does.call (c_r06_On x1.Op H q7) kr ?_)
  rintro _ w ⟨rfl, H⟩
  refine WL.fin 2 kr kr ?_
  obtain rfl := Option.some.inj hr
  exact WE.ret ⟨[.int .i64 (w64 ((w64 (x2 - y3)) + y7))], ⟨⟨kr, kr⟩, trivial⟩, ⟨rfl, (H.keep 1)⟩⟩
  }
  }
  rcases ite_cases hy4 with ⟨ty4, hy4⟩ | ⟨ty4, hy4⟩
  {
  refine WL.known 14 ty4 kr kr ?_
  refine WL.sg 9 kr ?_
  obtain rfl := hy4
  exact WL.live [2, 4, 7, 23] kr (hk_y4 () _ H)
  }
  {
  refine WL.known 14 ty4 kr kr ?_
  refine WL.sg 4 kr ?_
  refine WL.does kr kr (Does.loadV H 0 rfl 0 kr kr ?_)
  obtain ⟨y8, q8, hy4⟩ := bnd_cases hy4
  refine WL.does kr kr (Does.call (c_r06_On x1.Op H q8) kr ?_)
  rintro _ w ⟨rfl, H⟩
  refine WL.sg 3 kr ?_
  obtain rfl := hy4
  exact WL.live [2, 4, 7, 23] kr (hk_y4 () _ H)
  }
def r08_Next (x0 : GInstr) (x1 : Int) : (List Int) :=
  if x0.Op == 10 then
    [x0.A]
  else
    bnd (
        if x0.Op == 15 then
          true
        else
          x0.Op == 16) fun y12 =>
    if y12 then
      []
    else
      if x0.Op == 11 then
        [w64 (x1 + 1), x0.A]
      else
        [w64 (x1 + 1)]
set_option maxRecDepth 100000 in
set_option maxHeartbeats 4000000 in
theorem c_r08_Next {w0 w : World} {h : Gh} {L : List Ent} (x0 : GInstr) (x1 : Int) (H : St w0 h w L) {r : (List Int)} (hr : r08_Next x0 x1 = r) : Calls Try.prog 53 #[.agg #[.int .i64 x0.Op, .int .i64 x0.A, .int .i64 x0.B], .int .i64 x1] w (fun e w' => ∃ v, e = .returned v ∧ ∃ (h' : Gh) (a901 : Option Addr) (c901 : Nat), v = .slice a901 r.length c901 ∧ h.le h' ∧ St w0 h' w' (row (Rep.int .i64) 8 h' a901 c901 r :: L)) := by
  refine calls_of (args := [.agg #[.int .i64 x0.Op, .int .i64 x0.A, .int .i64 x0.B], .int .i64 x1]) (n := 30) (rs := [.tmp 4]) Try.func53 rfl rfl rfl rfl rfl ?_
  unfold r08_Next at hr
  refine WE.seq ?_
  refine WE.region ?_
  refine WL.does kr kr (Does.box H [.int .i64 x0.Op, .int .i64 x0.A, .int .i64 x0.B] kr fun b9 w H => ?_)
  refine WL.fin 1 kr kr ?_
  refine WE.seq ?_
  refine WE.seq ?_
  refine WE.region ?_
  refine WL.sg 1 kr ?_
  refine WL.does kr kr (Does.loadV H 0 rfl 0 kr kr ?_)
  refine WL.fin 1 kr kr ?_
  rcases ite_cases hr with ⟨t10, hr⟩ | ⟨t10, hr⟩
  {
  refine WE.yes kr (b := x0.Op == 10) kr t10 ?_
  refine WE.seq ?_
  refine WE.region ?_
  refine WL.sg 1 kr ?_
  refine WL.does kr kr (Does.loadV H 0 rfl 1 kr kr ?_)
  refine WL.does kr kr (Does.lit (K := (Rep.int .i64)) (B := 8) (xs := [x0.A]) (e := 3) H ([.int .i64 x0.A] ++ []) kr (Rows.cons (C := [.int .i64 x0.A]) (x := x0.A) (by show _ = _; kernel_rfl) Rows.nil) kr kr kr kr fun b11 w H => ?_)
  refine WL.fin 1 kr kr ?_
  obtain rfl := hr
  exact WE.ret ⟨[.slice (some ⟨b11, 0, none⟩) [x0.A].length 1], ⟨⟨kr, kr⟩, trivial⟩, ⟨h, (some ⟨b11, 0, none⟩), 1, rfl, (Gh.refl _), (H.mid 1 1)⟩⟩
  }
  {
  refine WE.no kr (b := x0.Op == 10) kr t10 ?_
  refine WE.skip ?_
  refine WE.seq ?_
  refine WE.seq ?_
  refine WE.region ?_
  refine WL.sg 1 kr ?_
  refine WL.does kr kr (Does.loadV H 0 rfl 0 kr kr ?_)
  refine WL.sg 2 kr ?_
  obtain ⟨y12, hy12, hr⟩ := bnd_cases hr
  refine WL.join 4 (fun (_ : Unit) => [(1, .int .i64 x1), (2, .pointer (some ⟨b9, 0, none⟩)), (18, .bool y12)]) (fun (_ : Unit) w => St w0 h w (var b9 [.int .i64 x0.Op, .int .i64 x0.A, .int .i64 x0.B] 71 :: L)) ?_ (fun hk_y12 => ?_)
  {
  rintro _ w H
  refine WL.fin 0 kr kr ?_
  rcases ite_cases hr with ⟨t13, hr⟩ | ⟨t13, hr⟩
  {
  refine WE.yes kr (b := y12) kr t13 ?_
  refine WE.seq ?_
  refine WE.region ?_
  refine WL.fin 1 kr kr ?_
  have H := H.rowNil (Rep.int .i64) 8
  obtain rfl := hr
  exact WE.ret ⟨[.slice none 0 0], ⟨⟨kr, kr⟩, trivial⟩, ⟨h, none, 0, rfl, (Gh.refl _), (H.mid 1 1)⟩⟩
  }
  {
  refine WE.no kr (b := y12) kr t13 ?_
  refine WE.skip ?_
  refine WE.seq ?_
  refine WE.seq ?_
  refine WE.region ?_
  refine WL.sg 1 kr ?_
  refine WL.does kr kr (Does.loadV H 0 rfl 0 kr kr ?_)
  refine WL.fin 1 kr kr ?_
  rcases ite_cases hr with ⟨t15, hr⟩ | ⟨t15, hr⟩
  {
  refine WE.yes kr (b := x0.Op == 11) kr t15 ?_
  refine WE.seq ?_
  refine WE.region ?_
  refine WL.sg 3 kr ?_
  refine WL.does kr kr (Does.loadV H 0 rfl 1 kr kr ?_)
  refine WL.does kr kr (Does.lit (K := (Rep.int .i64)) (B := 8) (xs := [w64 (x1 + 1), x0.A]) (e := 3) H ([.int .i64 (w64 (x1 + 1))] ++ ([.int .i64 x0.A] ++ [])) kr (Rows.cons (C := [.int .i64 (w64 (x1 + 1))]) (x := w64 (x1 + 1)) (by show _ = _; kernel_rfl) (Rows.cons (C := [.int .i64 x0.A]) (x := x0.A) (by show _ = _; kernel_rfl) Rows.nil)) kr kr kr kr fun b16 w H => ?_)
  refine WL.fin 1 kr kr ?_
  obtain rfl := hr
  exact WE.ret ⟨[.slice (some ⟨b16, 0, none⟩) [w64 (x1 + 1), x0.A].length 2], ⟨⟨kr, kr⟩, trivial⟩, ⟨h, (some ⟨b16, 0, none⟩), 2, rfl, (Gh.refl _), (H.mid 1 1)⟩⟩
  }
  {
  refine WE.no kr (b := x0.Op == 11) kr t15 ?_
  refine WE.skip ?_
  refine WE.seq ?_
  refine WE.region ?_
  refine WL.sg 2 kr ?_
  refine WL.does kr kr (Does.lit (K := (Rep.int .i64)) (B := 8) (xs := [w64 (x1 + 1)]) (e := 3) H ([.int .i64 (w64 (x1 + 1))] ++ []) kr (Rows.cons (C := [.int .i64 (w64 (x1 + 1))]) (x := w64 (x1 + 1)) (by show _ = _; kernel_rfl) Rows.nil) kr kr kr kr fun b17 w H => ?_)
  refine WL.fin 1 kr kr ?_
  obtain rfl := hr
  exact WE.ret ⟨[.slice (some ⟨b17, 0, none⟩) [w64 (x1 + 1)].length 1], ⟨⟨kr, kr⟩, trivial⟩, ⟨h, (some ⟨b17, 0, none⟩), 1, rfl, (Gh.refl _), (H.mid 1 1)⟩⟩
  }
  }
  }
  rcases ite_cases hy12 with ⟨ty12, hy12⟩ | ⟨ty12, hy12⟩
  {
  refine WL.known 14 ty12 kr kr ?_
  refine WL.sg 4 kr ?_
  obtain rfl := hy12
  exact WL.live [1, 2, 18] kr (hk_y12 () _ H)
  }
  {
  refine WL.known 14 ty12 kr kr ?_
  refine WL.sg 1 kr ?_
  refine WL.does kr kr (Does.loadV H 0 rfl 0 kr kr ?_)
  refine WL.sg 2 kr ?_
  obtain rfl := hy12
  exact WL.live [1, 2, 18] kr (hk_y12 () _ H)
  }
  }
def r08_reach_l3 (K : Nat) (x1 : GFunc) (y346 : List Bool) (y349 : Int) (y355 : Int) (y358 : (List Int)) (rec_r08_reach_l2 : (List Int × List Bool) → Option ((List Int) × Int × Int)) : Nat → (Int × List Int) → Option ((List Int) × Int × Int)
  | 0, _ => none
  | k3 + 1, (y391, y392) =>
    if decide (y391 < (y358.length : Int)) then
      if 0 ≤ y391 ∧ y391 < y358.length then
        if decide ((gd y358 y391) ≥ (x1.Code.length : Int)) then
          some (y392, y349, 81)
        else
          if 0 ≤ y391 ∧ y391 < y358.length then
            if 0 ≤ (gd y358 y391) ∧ (gd y358 y391) < y392.length then
              (
                  if decide ((gd y392 (gd y358 y391)) ≥ 0) then
                    if 0 ≤ y391 ∧ y391 < y358.length then
                      if 0 ≤ (gd y358 y391) ∧ (gd y358 y391) < y392.length then
                        some ((gd y392 (gd y358 y391)) != y355)
                      else none
                    else none
                  else
                    some false).bind fun y398 =>
              if y398 then
                some (y392, y349, 84)
              else
                if 0 ≤ y391 ∧ y391 < y358.length then
                  if 0 ≤ (gd y358 y391) ∧ (gd y358 y391) < y392.length then
                    r08_reach_l3 K x1 y346 y349 y355 y358 rec_r08_reach_l2 k3 (w64 (y391 + 1), (y392.set (gd y358 y391).toNat y355))
                  else none
                else none
            else none
          else none
      else none
    else
      rec_r08_reach_l2 (y392, (y346.set y349.toNat true))
def r08_reach_l2 (K : Nat) (x0 : List GFunc) (x1 : GFunc) : Nat → (List Int × List Bool) → Option ((List Int) × Int × Int)
  | 0, _ => none
  | k2 + 1, (y345, y346) =>
    (r08_open K y345 y346).bind fun y349 =>
    if decide (y349 < 0) then
      some (y345, 0, 0)
    else
      if 0 ≤ y349 ∧ y349 < y346.length then
        if 0 ≤ y349 ∧ y349 < x1.Code.length then
          if 0 ≤ y349 ∧ y349 < y345.length then
            (r08_behind x0 (⟨(gd x1.Code y349).Op, (gd x1.Code y349).A, (gd x1.Code y349).B⟩ : GInstr) (gd y345 y349)).bind fun y355 =>
            if decide (y355 < 0) then
              some (y345, y349, 84)
            else
              if 0 ≤ y349 ∧ y349 < x1.Code.length then
                bnd (r08_Next (⟨(gd x1.Code y349).Op, (gd x1.Code y349).A, (gd x1.Code y349).B⟩ : GInstr) y349) fun y358 =>
                r08_reach_l3 K x1 y346 y349 y355 y358 (r08_reach_l2 K x0 x1 k2) K (0, y345)
              else none
          else none
        else none
      else none
def r08_reach_l1 (K : Nat) (x0 : List GFunc) (x1 : GFunc) : Nat → (List Int × Int) → Option ((List Int) × Int × Int)
  | 0, _ => none
  | k1 + 1, (y216, y217) =>
    if decide (y217 < (y216.length : Int)) then
      if 0 ≤ y217 ∧ y217 < y216.length then
        r08_reach_l1 K x0 x1 k1 ((y216.set y217.toNat (-1)), w64 (y217 + 1))
      else none
    else
      r08_reach_l2 K x0 x1 K (y216, (List.replicate (x1.Code.length : Int).toNat false))
def r08_reach (K : Nat) (x0 : List GFunc) (x1 : GFunc) : Option ((List Int) × Int × Int) :=
  if 0 ≤ (x1.Code.length : Int) ∧ (x1.Code.length : Int) ≤ (x1.Code.length : Int) ∧ (x1.Code.length : Int).toNat * 8 ≤ LIM ∧ (x1.Code.length : Int) ≤ 9223372036854775807 then
    if 0 ≤ (x1.Code.length : Int) ∧ (x1.Code.length : Int) ≤ (x1.Code.length : Int) ∧ (x1.Code.length : Int).toNat * 1 ≤ LIM ∧ (x1.Code.length : Int) ≤ 9223372036854775807 then
      r08_reach_l1 K x0 x1 K ((List.replicate (x1.Code.length : Int).toNat 0), 1)
    else none
  else none
set_option maxRecDepth 100000 in
set_option maxHeartbeats 4000000 in
theorem c_r08_reach {w0 w : World} {h : Gh} {L : List Ent} (K : Nat) (x0 : List GFunc) {a1 : Option Addr} {c1 : Nat} (f1 : Sl rGFunc 48 h a1 c1 x0) (x1 : GFunc) {a2 : Option Addr} {c2 : Nat} (f2 : Sl rGInstr 24 h a2 c2 x1.Code) (H : St w0 h w L) {r : (List Int) × Int × Int} (hr : r08_reach K x0 x1 = some r) : Calls Try.prog 25 #[.slice a1 x0.length c1, .agg (cGFunc x1 a2 c2).toArray] w (fun e w' => ∃ v, e = .returned v ∧ ∃ (h' : Gh) (a901 : Option Addr) (c901 : Nat), v = .tuple #[.slice a901 r.1.length c901, .int .i64 r.2.1, .int .i64 r.2.2] ∧ h.le h' ∧ St w0 h' w' (row (Rep.int .i64) 8 h' a901 c901 r.1 :: L)) := by
  refine calls_of (args := [.slice a1 x0.length c1, .agg (cGFunc x1 a2 c2).toArray]) (n := 106) (rs := [.tmp 4, .tmp 5, .tmp 6]) Try.func25 rfl rfl rfl rfl rfl ?_
  unfold r08_reach at hr
  refine WE.seq ?_
  refine WE.region ?_
  refine WL.does kr kr (Does.box H (cGFunc x1 a2 c2) kr fun b205 w H => ?_)
  refine WL.fin 3 kr kr ?_
  refine WE.seq ?_
  refine WE.region ?_
  refine WL.sg 1 kr ?_
  refine WL.does kr kr (Does.loadV H 0 rfl 3 kr kr ?_)
  obtain ⟨⟨g0_206, g1_206, g2_206, g3_206⟩, hr⟩ := grd_cases hr
  refine WL.sg 1 kr ?_
  refine WL.does kr kr (Does.make (K := (Rep.int .i64)) (B := 8) (e := 3) (z := .int .i64 0) H (z1 := (x1.Code.length : Int)) (z2 := (x1.Code.length : Int)) kr kr kr (y0 := 0) (by show _ = _; kernel_rfl) g0_206 g1_206 g2_206 g3_206 fun b206 w H => ?_)
  refine WL.fin 1 kr kr ?_
  refine WE.seq ?_
  refine WE.region ?_
  refine WL.sg 1 kr ?_
  refine WL.does kr kr (Does.loadV H 1 rfl 3 kr kr ?_)
  obtain ⟨⟨g0_207, g1_207, g2_207, g3_207⟩, hr⟩ := grd_cases hr
  refine WL.sg 1 kr ?_
  refine WL.does kr kr (Does.make (K := Rep.bool) (B := 1) (e := 4) (z := .bool false) H (z1 := (x1.Code.length : Int)) (z2 := (x1.Code.length : Int)) kr kr kr (y0 := false) (by show _ = _; kernel_rfl) g0_207 g1_207 g2_207 g3_207 fun b207 w H => ?_)
  refine WL.fin 1 kr kr ?_
  refine WE.seq ?_
  refine WE.seq ?_
  refine WE.region ?_
  refine WL.fin 1 kr kr ?_
  refine WE.block ?_
  refine WE.loop (LP.live [0, 3, 7, 8, 9] kr (LP.rec (r08_reach_l1 K x0 x1) (fun (⟨y216, y217⟩ : List Int × Int) (⟨a216, c216⟩ : Option Addr × Nat) => [(0, .slice a1 x0.length c1), (3, .pointer (some ⟨b205, 0, none⟩)), (7, .slice a216 y216.length c216), (8, .slice (some ⟨b207, 0, none⟩) (List.replicate (x1.Code.length : Int).toNat false).length ((x1.Code.length : Int).toNat)), (9, .int .i64 y217)]) (fun (⟨y216, y217⟩ : List Int × Int) (⟨a216, c216⟩ : Option Addr × Nat) => fun w => St w0 h w (row Rep.bool 1 h (some ⟨b207, 0, none⟩) ((x1.Code.length : Int).toNat) (List.replicate (x1.Code.length : Int).toNat false) :: row (Rep.int .i64) 8 h a216 c216 y216 :: var b205 (cGFunc x1 a2 c2) 31 :: L)) r (fun _ => rfl) ?_ K ((List.replicate (x1.Code.length : Int).toNat 0), 1) ((some ⟨b206, 0, none⟩), (x1.Code.length : Int).toNat) _ H hr))
  rintro k1 ih1 ⟨y216, y217⟩ ⟨a216, c216⟩ w H hr
  simp only [r08_reach_l1] at hr
  refine WE.seq ?_
  refine WE.seq ?_
  refine WE.region ?_
  refine WL.fin 4 kr kr ?_
  rcases ite_cases hr with ⟨t218, hr⟩ | ⟨t218, hr⟩
  {
  refine WE.yes kr (b := decide (y217 < (y216.length : Int))) kr t218 ?_
  refine WE.skip ?_
  refine WE.seq ?_
  refine WE.block ?_
  refine WE.region ?_
  obtain ⟨⟨g0_219, g1_219⟩, hr⟩ := grd_cases hr
  obtain ⟨b219, p219, rfl⟩ := H.rowSome 1 rfl g0_219 g1_219
  refine WL.sg 2 kr ?_
  refine WL.does kr kr (Does.tells (.idx b219 (p219) y216.length c216 y217 1 kr kr g0_219 g1_219 kr) ?_)
  obtain ⟨C220, e220, _, hb220, hc220, rfl⟩ := H.rowAt2 1 rfl g0_219 g1_219
  refine WL.does kr kr (Does.storeRow H 1 rfl (Gh.refl _) (j := y217.toNat) (by have h0 := g0_219; have h1 := g1_219; omega) hb220 hc220 0 kr kr (y' := (-1)) (by show _ = _; kernel_rfl) fun w H => ?_)
  refine WL.spelt 7 (v := .slice (some ⟨b219, p219, none⟩) (y216.set y217.toNat (-1)).length c216) kr (Eq.trans (b := .slice (some ⟨b219, p219, none⟩) y216.length c216) kr (sl_len (List.length_set ..).symm)) ?_
  refine WL.fin 0 kr kr ?_
  refine WE.region ?_
  refine WL.fin 3 kr kr ?_
  exact LP.live [0, 3, 7, 8, 9] kr (ih1 ((y216.set y217.toNat (-1)), w64 (y217 + 1)) ((some ⟨b219, p219, none⟩), c216) _ H hr)
  }
  {
  refine WE.no kr (b := decide (y217 < (y216.length : Int))) kr t218 ?_
  refine WE.exit ?_
  refine WE.block ?_
  refine WE.loop (LP.live [0, 3, 7, 8] kr (LP.rec (r08_reach_l2 K x0 x1) (fun (⟨y345, y346⟩ : List Int × List Bool) (⟨h344, a345, c345, a346, c346⟩ : Gh × Option Addr × Nat × Option Addr × Nat) => [(0, .slice a1 x0.length c1), (3, .pointer (some ⟨b205, 0, none⟩)), (7, .slice a345 y345.length c345), (8, .slice a346 y346.length c346)]) (fun (⟨y345, y346⟩ : List Int × List Bool) (⟨h344, a345, c345, a346, c346⟩ : Gh × Option Addr × Nat × Option Addr × Nat) => fun w => h.le h344 ∧ St w0 h344 w (row Rep.bool 1 h344 a346 c346 y346 :: row (Rep.int .i64) 8 h344 a345 c345 y345 :: var b205 (cGFunc x1 a2 c2) 31 :: L)) r (fun _ => rfl) ?_ K (y216, (List.replicate (x1.Code.length : Int).toNat false)) (h, a216, c216, (some ⟨b207, 0, none⟩), (x1.Code.length : Int).toNat) _ ⟨(Gh.refl _), H⟩ hr))
  rintro k2 ih2 ⟨y345, y346⟩ ⟨h344, a345, c345, a346, c346⟩ w ⟨leh344, H⟩ hr
  simp only [r08_reach_l2] at hr
  refine WE.block ?_
  refine WE.seq ?_
  refine WE.region ?_
  obtain ⟨y349, q349, hr⟩ := bind_cases hr
  refine WL.sg 2 kr ?_
  have H := (((H.front 2 rfl).front 1 rfl).front 2 rfl)
  obtain ⟨h347, le347, f347, H, bk347⟩ := (H).rowLendX (Gh.refl _)
  obtain ⟨h348, le348, f348, H, bk348⟩ := (H).rowLendX le347
  refine WL.does kr kr (Does.call (c_r08_open K y345 (f347.up le348) y346 f348 H q349) kr ?_)
  rintro _ w ⟨rfl, H⟩
  have H := bk348 _ H
  have H := bk347 _ H
  refine WL.fin 1 kr kr ?_
  refine WE.seq ?_
  refine WE.seq ?_
  refine WE.region ?_
  refine WL.fin 2 kr kr ?_
  rcases ite_cases hr with ⟨t350, hr⟩ | ⟨t350, hr⟩
  {
  refine WE.yes kr (b := decide (y349 < 0)) kr t350 ?_
  refine WE.seq ?_
  refine WE.region ?_
  refine WL.fin 4 kr kr ?_
  obtain rfl := Option.some.inj hr
  exact WE.ret ⟨[.slice a345 y345.length c345, .int .i64 0, .int .i64 0], ⟨⟨kr, kr⟩, ⟨kr, kr⟩, ⟨kr, kr⟩, trivial⟩, ⟨h344, a345, c345, rfl, leh344, (H.mid 1 2)⟩⟩
  }
  {
  refine WE.no kr (b := decide (y349 < 0)) kr t350 ?_
  refine WE.skip ?_
  refine WE.seq ?_
  refine WE.region ?_
  obtain ⟨⟨g0_351, g1_351⟩, hr⟩ := grd_cases hr
  obtain ⟨b351, p351, rfl⟩ := H.rowSome 1 rfl g0_351 g1_351
  refine WL.sg 2 kr ?_
  refine WL.does kr kr (Does.tells (.idx b351 (p351) y346.length c346 y349 1 kr kr g0_351 g1_351 kr) ?_)
  obtain ⟨C352, e352, _, hb352, hc352, rfl⟩ := H.rowAt2 1 rfl g0_351 g1_351
  refine WL.does kr kr (Does.storeRow H 1 rfl (Gh.refl _) (j := y349.toNat) (by have h0 := g0_351; have h1 := g1_351; omega) hb352 hc352 0 kr kr (y' := true) (by show _ = _; kernel_rfl) fun w H => ?_)
  refine WL.spelt 8 (v := .slice (some ⟨b351, p351, none⟩) (y346.set y349.toNat true).length c346) kr (Eq.trans (b := .slice (some ⟨b351, p351, none⟩) y346.length c346) kr (sl_len (List.length_set ..).symm)) ?_
  refine WL.fin 0 kr kr ?_
  refine WE.seq ?_
  refine WE.draws mo [0, 3, 7, 8, 10] (ρ' := [(0, .slice a1 x0.length c1), (3, .pointer (some ⟨b205, 0, none⟩)), (7, .slice a345 y345.length c345), (8, .slice (some ⟨b351, p351, none⟩) (y346.set y349.toNat true).length c346), (10, .int .i64 y349)]) kr fun w e1 e2 e3 e4 => ?_
  have H := H.same e1 e2 e3 e4
  clear e1 e2 e3 e4
  refine WD.know [0] kr ?_
  refine WD.know [1] kr ?_
  refine WD.told 2 42 (.slice a2 x1.Code.length c2) kr kr ?_
  refine WD.know [3] kr ?_
  obtain ⟨⟨g0_353, g1_353⟩, hr⟩ := grd_cases hr
  obtain ⟨b353, p353, C353, e353, fr353, cs353, rfl, hb353, hc353, rfl⟩ := (f2.up leh344).at g0_353 g1_353
  refine WD.told 4 44 (.pointer (some ⟨b353, p353 + y349.toNat * 3, none⟩)) kr kr ?_
  refine WD.told 5 45 (.agg #[.int .i64 ((gd x1.Code y349).Op), .int .i64 ((gd x1.Code y349).A), .int .i64 ((gd x1.Code y349).B)]) kr kr ?_
  refine WD.know [6] kr ?_
  refine WD.know [7] kr ?_
  obtain ⟨⟨g0_354, g1_354⟩, hr⟩ := grd_cases hr
  obtain ⟨b354, p354, rfl⟩ := H.rowSome 0 rfl g0_354 g1_354
  refine WD.told 8 48 (.pointer (some ⟨b354, p354 + y349.toNat * 1, none⟩)) kr kr ?_
  refine WD.told 9 49 (.int .i64 (gd y345 y349)) kr kr ?_
  obtain ⟨y355, q355, hr⟩ := bind_cases hr
  refine WD.does 10 kr rfl (Floats.of [7, 6, 3, 1, 0] [9, 8, 5, 4, 2] kr (Floats.pure _ kr kr) (.cons (.tells rfl kr kr (.loadRow (v := .int .i64 (gd y345 y349)) H 0 rfl g0_354 g1_354 0 1 rfl (fun _ e => by rcases e with rfl; kernel_rfl) kr)) (.cons (.tells rfl kr kr (.idx b354 (p354) y345.length c345 y349 1 kr kr g0_354 g1_354 kr)) (.cons (.tells rfl kr rfl (.loadR H hb353 hc353 0 kr kr)) (.cons (.tells rfl kr kr (.idx b353 (p353) x1.Code.length c2 y349 3 kr kr g0_353 g1_353 kr)) (.cons (.tells rfl kr rfl (.loadV H 2 rfl 3 kr kr)) .nil)))))) kr kr (Does.call (c_r08_behind x0 (f1.up leh344) (⟨(gd x1.Code y349).Op, (gd x1.Code y349).A, (gd x1.Code y349).B⟩ : GInstr) (gd y345 y349) H q355) kr ?_)
  rintro _ w ⟨rfl, H⟩
  refine WD.does 11 kr rfl (Floats.of [7, 6, 3, 1] [8, 4, 2] kr (Floats.pure _ kr kr) (.cons (.tells rfl kr kr (.idx b354 (p354) y345.length c345 y349 1 kr kr g0_354 g1_354 kr)) (.cons (.tells rfl kr kr (.idx b353 (p353) x1.Code.length c2 y349 3 kr kr g0_353 g1_353 kr)) (.cons (.tells rfl kr rfl (.loadV H 2 rfl 3 kr kr)) .nil)))) kr kr (Does.reck kr ?_)
  refine WD.fin kr (Floats.of [] [] kr .nil .nil) kr kr ?_
  refine WE.seq ?_
  refine WE.seq ?_
  refine WE.region ?_
  refine WL.fin 2 kr kr ?_
  rcases ite_cases hr with ⟨t356, hr⟩ | ⟨t356, hr⟩
  {
  refine WE.yes kr (b := decide (y355 < 0)) kr t356 ?_
  refine WE.seq ?_
  refine WE.region ?_
  refine WL.fin 5 kr kr ?_
  obtain rfl := Option.some.inj hr
  exact WE.ret ⟨[.slice (some ⟨b354, p354, none⟩) y345.length c345, .int .i64 y349, .int .i64 84], ⟨⟨kr, kr⟩, ⟨kr, kr⟩, ⟨kr, kr⟩, trivial⟩, ⟨h344, (some ⟨b354, p354, none⟩), c345, rfl, leh344, (H.mid 1 2)⟩⟩
  }
  {
  refine WE.no kr (b := decide (y355 < 0)) kr t356 ?_
  refine WE.skip ?_
  refine WE.seq ?_
  refine WE.region ?_
  refine WL.sg 1 kr ?_
  refine WL.does kr kr (Does.loadV H 2 rfl 3 kr kr ?_)
  obtain ⟨⟨g0_357, g1_357⟩, hr⟩ := grd_cases hr
  obtain ⟨C357, e357, fr357, cs357, hb357, hc357, rfl⟩ := (f2.up leh344).at2 g0_357 g1_357
  refine WL.sg 1 kr ?_
  refine WL.does kr kr (Does.tells (.idx b353 (p353) x1.Code.length c2 y349 3 kr kr g0_357 g1_357 kr) ?_)
  refine WL.does kr kr (Does.loadR H hb357 hc357 0 kr kr ?_)
  obtain ⟨y358, q358, hr⟩ := bnd_cases hr
  refine WL.sg 1 kr ?_
  refine WL.does kr kr (Does.call (c_r08_Next (⟨(gd x1.Code y349).Op, (gd x1.Code y349).A, (gd x1.Code y349).B⟩ : GInstr) y349 H q358) kr ?_)
  rintro _ w ⟨h358, a359, c359, rfl, le358, H⟩
  refine WL.fin 1 kr kr ?_
  refine WE.seq ?_
  refine WE.region ?_
  refine WL.fin 1 kr kr ?_
  refine WE.block ?_
  have H := H.rowUp 1 rfl le358
  refine WE.loop (LP.live [0, 3, 7, 8, 10, 11, 12, 13] kr (LP.rec (r08_reach_l3 K x1 y346 y349 y355 y358 (r08_reach_l2 K x0 x1 k2)) (fun (⟨y391, y392⟩ : Int × List Int) (⟨a392, c392⟩ : Option Addr × Nat) => [(0, .slice a1 x0.length c1), (3, .pointer (some ⟨b205, 0, none⟩)), (7, .slice a392 y392.length c392), (8, .slice (some ⟨b351, p351, none⟩) (y346.set y349.toNat true).length c346), (10, .int .i64 y349), (11, .int .i64 y355), (12, .slice a359 y358.length c359), (13, .int .i64 y391)]) (fun (⟨y391, y392⟩ : Int × List Int) (⟨a392, c392⟩ : Option Addr × Nat) => fun w => St w0 h358 w (row (Rep.int .i64) 8 h358 a359 c359 y358 :: row (Rep.int .i64) 8 h358 a392 c392 y392 :: row Rep.bool 1 h344 (some ⟨b351, p351, none⟩) c346 (y346.set y349.toNat true) :: var b205 (cGFunc x1 (some ⟨b353, p353, none⟩) c2) 31 :: L)) r (fun _ => rfl) ?_ K (0, y345) ((some ⟨b354, p354, none⟩), c345) _ H hr))
  rintro k3 ih3 ⟨y391, y392⟩ ⟨a392, c392⟩ w H hr
  simp only [r08_reach_l3] at hr
  refine WE.seq ?_
  refine WE.seq ?_
  refine WE.region ?_
  refine WL.fin 4 kr kr ?_
  rcases ite_cases hr with ⟨t393, hr⟩ | ⟨t393, hr⟩
  {
  refine WE.yes kr (b := decide (y391 < (y358.length : Int))) kr t393 ?_
  refine WE.skip ?_
  refine WE.seq ?_
  refine WE.block ?_
  refine WE.seq ?_
  refine WE.seq ?_
  refine WE.draws mo [0, 3, 7, 8, 10, 11, 12, 13] (ρ' := [(0, .slice a1 x0.length c1), (3, .pointer (some ⟨b205, 0, none⟩)), (7, .slice a392 y392.length c392), (8, .slice (some ⟨b351, p351, none⟩) (y346.set y349.toNat true).length c346), (10, .int .i64 y349), (11, .int .i64 y355), (12, .slice a359 y358.length c359), (13, .int .i64 y391)]) kr fun w e1 e2 e3 e4 => ?_
  have H := H.same e1 e2 e3 e4
  clear e1 e2 e3 e4
  refine WD.know [0] kr ?_
  refine WD.know [1] kr ?_
  obtain ⟨⟨g0_394, g1_394⟩, hr⟩ := grd_cases hr
  obtain ⟨b394, p394, rfl⟩ := H.rowSome 0 rfl g0_394 g1_394
  refine WD.told 2 70 (.pointer (some ⟨b394, p394 + y391.toNat * 1, none⟩)) kr kr ?_
  refine WD.told 3 71 (.int .i64 (gd y358 y391)) kr kr ?_
  refine WD.know [4] kr ?_
  refine WD.told 5 73 (.slice (some ⟨b353, p353, none⟩) x1.Code.length c2) kr kr ?_
  refine WD.know [6] kr ?_
  refine WD.know [7] kr ?_
  refine WD.fin kr (Floats.of [7, 6, 4, 1, 0] [5, 3, 2] kr (Floats.pure _ kr kr) (.cons (.tells rfl kr rfl (.loadV H 3 rfl 3 kr kr)) (.cons (.tells rfl kr kr (.loadRow (v := .int .i64 (gd y358 y391)) H 0 rfl g0_394 g1_394 0 1 rfl (fun _ e => by rcases e with rfl; kernel_rfl) kr)) (.cons (.tells rfl kr kr (.idx b394 (p394) y358.length c359 y391 1 kr kr g0_394 g1_394 kr)) .nil)))) kr kr ?_
  rcases ite_cases hr with ⟨t395, hr⟩ | ⟨t395, hr⟩
  {
  refine WE.yes kr (b := decide ((gd y358 y391) ≥ (x1.Code.length : Int))) kr t395 ?_
  refine WE.seq ?_
  refine WE.region ?_
  refine WL.fin 5 kr kr ?_
  obtain rfl := Option.some.inj hr
  exact WE.ret ⟨[.slice a392 y392.length c392, .int .i64 y349, .int .i64 81], ⟨⟨kr, kr⟩, ⟨kr, kr⟩, ⟨kr, kr⟩, trivial⟩, ⟨h358, a392, c392, rfl, (leh344.trans le358), ((H.front 1 rfl).mid 1 3)⟩⟩
  }
  {
  refine WE.no kr (b := decide ((gd y358 y391) ≥ (x1.Code.length : Int))) kr t395 ?_
  refine WE.skip ?_
  refine WE.seq ?_
  refine WE.seq ?_
  refine WE.region ?_
  obtain ⟨⟨g0_396, g1_396⟩, hr⟩ := grd_cases hr
  refine WL.sg 3 kr ?_
  refine WL.does kr kr (Does.tells (.idx b394 (p394) y358.length c359 y391 1 kr kr g0_396 g1_396 kr) ?_)
  refine WL.does kr kr (Does.tells (.loadRow (v := .int .i64 (gd y358 y391)) H 0 rfl g0_396 g1_396 0 1 rfl (fun _ e => by rcases e with rfl; kernel_rfl) kr) ?_)
  obtain ⟨⟨g0_397, g1_397⟩, hr⟩ := grd_cases hr
  obtain ⟨b397, p397, rfl⟩ := H.rowSome 1 rfl g0_397 g1_397
  refine WL.does kr kr (Does.tells (.idx b397 (p397) y392.length c392 (gd y358 y391) 1 kr kr g0_397 g1_397 kr) ?_)
  refine WL.does kr kr (Does.tells (.loadRow (v := .int .i64 (gd y392 (gd y358 y391))) H 1 rfl g0_397 g1_397 0 1 rfl (fun _ e => by rcases e with rfl; kernel_rfl) kr) ?_)
  refine WL.sg 2 kr ?_
  obtain ⟨y398, hy398, hr⟩ := bind_cases hr
  refine WL.join 10 (fun (_ : Unit) => [(0, .slice a1 x0.length c1), (3, .pointer (some ⟨b205, 0, none⟩)), (7, .slice (some ⟨b397, p397, none⟩) y392.length c392), (8, .slice (some ⟨b351, p351, none⟩) (y346.set y349.toNat true).length c346), (10, .int .i64 y349), (11, .int .i64 y355), (12, .slice (some ⟨b394, p394, none⟩) y358.length c359), (13, .int .i64 y391), (96, .bool y398)]) (fun (_ : Unit) w => St w0 h358 w (row (Rep.int .i64) 8 h358 (some ⟨b394, p394, none⟩) c359 y358 :: row (Rep.int .i64) 8 h358 (some ⟨b397, p397, none⟩) c392 y392 :: row Rep.bool 1 h344 (some ⟨b351, p351, none⟩) c346 (y346.set y349.toNat true) :: var b205 (cGFunc x1 (some ⟨b353, p353, none⟩) c2) 31 :: L)) ?_ (fun hk_y398 => ?_)
  {
  rintro _ w H
  refine WL.fin 0 kr kr ?_
  rcases ite_cases hr with ⟨t401, hr⟩ | ⟨t401, hr⟩
  {
  refine WE.yes kr (b := y398) kr t401 ?_
  refine WE.seq ?_
  refine WE.region ?_
  refine WL.fin 5 kr kr ?_
  obtain rfl := Option.some.inj hr
  exact WE.ret ⟨[.slice (some ⟨b397, p397, none⟩) y392.length c392, .int .i64 y349, .int .i64 84], ⟨⟨kr, kr⟩, ⟨kr, kr⟩, ⟨kr, kr⟩, trivial⟩, ⟨h358, (some ⟨b397, p397, none⟩), c392, rfl, (leh344.trans le358), ((H.front 1 rfl).mid 1 3)⟩⟩
  }
  {
  refine WE.no kr (b := y398) kr t401 ?_
  refine WE.skip ?_
  refine WE.region ?_
  obtain ⟨⟨g0_402, g1_402⟩, hr⟩ := grd_cases hr
  refine WL.sg 3 kr ?_
  refine WL.does kr kr (Does.tells (.idx b394 (p394) y358.length c359 y391 1 kr kr g0_402 g1_402 kr) ?_)
  refine WL.does kr kr (Does.tells (.loadRow (v := .int .i64 (gd y358 y391)) H 0 rfl g0_402 g1_402 0 1 rfl (fun _ e => by rcases e with rfl; kernel_rfl) kr) ?_)
  obtain ⟨⟨g0_403, g1_403⟩, hr⟩ := grd_cases hr
  refine WL.sg 1 kr ?_
  refine WL.does kr kr (Does.tells (.idx b397 (p397) y392.length c392 (gd y358 y391) 1 kr kr g0_403 g1_403 kr) ?_)
  obtain ⟨C404, e404, _, hb404, hc404, rfl⟩ := H.rowAt2 1 rfl g0_403 g1_403
  refine WL.does kr kr (Does.storeRow H 1 rfl (Gh.refl _) (j := (gd y358 y391).toNat) (by have h0 := g0_403; have h1 := g1_403; omega) hb404 hc404 0 kr kr (y' := y355) (by show _ = _; kernel_rfl) fun w H => ?_)
  refine WL.spelt 7 (v := .slice (some ⟨b397, p397, none⟩) (y392.set (gd y358 y391).toNat y355).length c392) kr (Eq.trans (b := .slice (some ⟨b397, p397, none⟩) y392.length c392) kr (sl_len (List.length_set ..).symm)) ?_
  refine WL.fin 0 kr kr ?_
  refine WE.region ?_
  refine WL.fin 3 kr kr ?_
  exact LP.live [0, 3, 7, 8, 10, 11, 12, 13] kr (ih3 (w64 (y391 + 1), (y392.set (gd y358 y391).toNat y355)) ((some ⟨b397, p397, none⟩), c392) _ H hr)
  }
  }
  rcases ite_cases hy398 with ⟨ty398, hy398⟩ | ⟨ty398, hy398⟩
  {
  refine WL.known 86 ty398 kr kr ?_
  obtain ⟨⟨g0_405, g1_405⟩, hy398⟩ := grd_cases hy398
  refine WL.sg 3 kr ?_
  refine WL.does kr kr (Does.tells (.idx b394 (p394) y358.length c359 y391 1 kr kr g0_405 g1_405 kr) ?_)
  refine WL.does kr kr (Does.tells (.loadRow (v := .int .i64 (gd y358 y391)) H 0 rfl g0_405 g1_405 0 1 rfl (fun _ e => by rcases e with rfl; kernel_rfl) kr) ?_)
  obtain ⟨⟨g0_406, g1_406⟩, hy398⟩ := grd_cases hy398
  refine WL.does kr kr (Does.tells (.idx b397 (p397) y392.length c392 (gd y358 y391) 1 kr kr g0_406 g1_406 kr) ?_)
  refine WL.does kr kr (Does.tells (.loadRow (v := .int .i64 (gd y392 (gd y358 y391))) H 1 rfl g0_406 g1_406 0 1 rfl (fun _ e => by rcases e with rfl; kernel_rfl) kr) ?_)
  refine WL.sg 3 kr ?_
  obtain rfl := Option.some.inj hy398
  exact WL.live [0, 3, 7, 8, 10, 11, 12, 13, 96] kr (hk_y398 () _ H)
  }
  {
  refine WL.known 86 ty398 kr kr ?_
  refine WL.sg 10 kr ?_
  obtain rfl := Option.some.inj hy398
  exact WL.live [0, 3, 7, 8, 10, 11, 12, 13, 96] kr (hk_y398 () _ H)
  }
  }
  }
  {
  refine WE.no kr (b := decide (y391 < (y358.length : Int))) kr t393 ?_
  refine WE.exit ?_
  have H := H.rowUp 2 rfl le358
  exact LP.live [0, 3, 7, 8] kr (ih2 (y392, (y346.set y349.toNat true)) (h358, a392, c392, (some ⟨b351, p351, none⟩), c346) _ ⟨(leh344.trans le358), ((((H.front 3 rfl).front 2 rfl).front 3 rfl).mid 3 1)⟩ hr)
  }
  }
  }
  }
def r08_function_l1 (K : Nat) (x0 : List GFunc) (x1 : GFunc) : Nat → Int → Option (Int × Int)
  | 0, _ => none
  | k1 + 1, y14 =>
    if decide (y14 < (x1.Code.length : Int)) then
      if 0 ≤ y14 ∧ y14 < x1.Code.length then
        bnd (r08_field x0 x1 (⟨(gd x1.Code y14).Op, (gd x1.Code y14).A, (gd x1.Code y14).B⟩ : GInstr)) fun y17 =>
        if y17 != 0 then
          some (y14, y17)
        else
          r08_function_l1 K x0 x1 k1 (w64 (y14 + 1))
      else none
    else
      (r08_reach K x0 x1).bind fun y19 =>
      some (y19.2.1, y19.2.2)
def r08_function (K : Nat) (x0 : List GFunc) (x1 : GFunc) : Option (Int × Int) :=
  if decide (x1.Arity > x1.Locals) then
    some (0, 80)
  else
    r08_function_l1 K x0 x1 K 0
set_option maxRecDepth 100000 in
set_option maxHeartbeats 4000000 in
theorem c_r08_function {w0 w : World} {h : Gh} {L : List Ent} (K : Nat) (x0 : List GFunc) {a1 : Option Addr} {c1 : Nat} (f1 : Sl rGFunc 48 h a1 c1 x0) (x1 : GFunc) {a2 : Option Addr} {c2 : Nat} (f2 : Sl rGInstr 24 h a2 c2 x1.Code) (H : St w0 h w L) {r : Int × Int} (hr : r08_function K x0 x1 = some r) : Calls Try.prog 43 #[.slice a1 x0.length c1, .agg (cGFunc x1 a2 c2).toArray] w (fun e w' => ∃ v, e = .returned v ∧ v = .tuple #[.int .i64 r.1, .int .i64 r.2] ∧ St w0 h w' (L)) := by
  refine calls_of (args := [.slice a1 x0.length c1, .agg (cGFunc x1 a2 c2).toArray]) (n := 44) (rs := [.tmp 4, .tmp 5]) Try.func43 rfl rfl rfl rfl rfl ?_
  unfold r08_function at hr
  refine WE.seq ?_
  refine WE.region ?_
  refine WL.does kr kr (Does.box H (cGFunc x1 a2 c2) kr fun b3 w H => ?_)
  refine WL.fin 2 kr kr ?_
  refine WE.seq ?_
  refine WE.seq ?_
  refine WE.region ?_
  refine WL.sg 1 kr ?_
  refine WL.does kr kr (Does.loadV H 0 rfl 0 kr kr ?_)
  refine WL.sg 1 kr ?_
  refine WL.does kr kr (Does.loadV H 0 rfl 1 kr kr ?_)
  refine WL.fin 1 kr kr ?_
  rcases ite_cases hr with ⟨t4, hr⟩ | ⟨t4, hr⟩
  {
  refine WE.yes kr (b := decide (x1.Arity > x1.Locals)) kr t4 ?_
  refine WE.seq ?_
  refine WE.region ?_
  refine WL.fin 2 kr kr ?_
  obtain rfl := Option.some.inj hr
  exact WE.ret ⟨[.int .i64 0, .int .i64 80], ⟨⟨kr, kr⟩, ⟨kr, kr⟩, trivial⟩, ⟨rfl, (H.keep 1)⟩⟩
  }
  {
  refine WE.no kr (b := decide (x1.Arity > x1.Locals)) kr t4 ?_
  refine WE.skip ?_
  refine WE.seq ?_
  refine WE.seq ?_
  refine WE.region ?_
  refine WL.fin 1 kr kr ?_
  refine WE.block ?_
  refine WE.loop (LP.live [0, 3, 6] kr (LP.rec (r08_function_l1 K x0 x1) (fun (y14 : Int) (_ : Unit) => [(0, .slice a1 x0.length c1), (3, .pointer (some ⟨b3, 0, none⟩)), (6, .int .i64 y14)]) (fun (y14 : Int) (_ : Unit) => fun w => St w0 h w (var b3 (cGFunc x1 a2 c2) 31 :: L)) r (fun _ => rfl) ?_ K 0 () _ H hr))
  rintro k1 ih1 y14 _ w H hr
  simp only [r08_function_l1] at hr
  refine WE.seq ?_
  refine WE.seq ?_
  refine WE.region ?_
  refine WL.sg 2 kr ?_
  refine WL.does kr kr (Does.loadV H 0 rfl 3 kr kr ?_)
  refine WL.fin 2 kr kr ?_
  rcases ite_cases hr with ⟨t15, hr⟩ | ⟨t15, hr⟩
  {
  refine WE.yes kr (b := decide (y14 < (x1.Code.length : Int))) kr t15 ?_
  refine WE.skip ?_
  refine WE.seq ?_
  refine WE.block ?_
  refine WE.seq ?_
  refine WE.draws mo [0, 3, 6] (ρ' := [(0, .slice a1 x0.length c1), (3, .pointer (some ⟨b3, 0, none⟩)), (6, .int .i64 y14)]) kr fun w e1 e2 e3 e4 => ?_
  have H := H.same e1 e2 e3 e4
  clear e1 e2 e3 e4
  refine WD.know [0] kr ?_
  refine WD.told 1 24 (.agg (cGFunc x1 a2 c2).toArray) kr kr ?_
  refine WD.know [2] kr ?_
  refine WD.told 3 26 (.slice a2 x1.Code.length c2) kr kr ?_
  refine WD.know [4] kr ?_
  obtain ⟨⟨g0_16, g1_16⟩, hr⟩ := grd_cases hr
  obtain ⟨b16, p16, C16, e16, fr16, cs16, rfl, hb16, hc16, rfl⟩ := f2.at g0_16 g1_16
  refine WD.told 5 28 (.pointer (some ⟨b16, p16 + y14.toNat * 3, none⟩)) kr kr ?_
  refine WD.told 6 29 (.agg #[.int .i64 ((gd x1.Code y14).Op), .int .i64 ((gd x1.Code y14).A), .int .i64 ((gd x1.Code y14).B)]) kr kr ?_
  obtain ⟨y17, q17, hr⟩ := bnd_cases hr
  refine WD.does 7 kr rfl (Floats.of [4, 2, 0] [6, 5, 3, 1] kr (Floats.pure _ kr kr) (.cons (.tells rfl kr rfl (.loadR H hb16 hc16 0 kr kr)) (.cons (.tells rfl kr kr (.idx b16 (p16) x1.Code.length c2 y14 3 kr kr g0_16 g1_16 kr)) (.cons (.tells rfl kr rfl (.loadV H 0 rfl 3 kr kr)) (.cons (.tells rfl kr rfl (.loadV H 0 rfl 0 kr kr)) .nil))))) kr kr (Does.call (c_r08_field x0 f1 x1 f2 (⟨(gd x1.Code y14).Op, (gd x1.Code y14).A, (gd x1.Code y14).B⟩ : GInstr) H q17) kr ?_)
  rintro _ w ⟨rfl, H⟩
  refine WD.does 8 kr rfl (Floats.of [4, 2] [5, 3] kr (Floats.pure _ kr kr) (.cons (.tells rfl kr kr (.idx b16 (p16) x1.Code.length c2 y14 3 kr kr g0_16 g1_16 kr)) (.cons (.tells rfl kr rfl (.loadV H 0 rfl 3 kr kr)) .nil))) kr kr (Does.reck kr ?_)
  refine WD.fin kr (Floats.of [] [] kr .nil .nil) kr kr ?_
  refine WE.seq ?_
  refine WE.region ?_
  refine WL.fin 2 kr kr ?_
  rcases ite_cases hr with ⟨t18, hr⟩ | ⟨t18, hr⟩
  {
  refine WE.yes kr (b := y17 != 0) kr t18 ?_
  refine WE.seq ?_
  refine WE.region ?_
  refine WL.fin 4 kr kr ?_
  obtain rfl := Option.some.inj hr
  exact WE.ret ⟨[.int .i64 y14, .int .i64 y17], ⟨⟨kr, kr⟩, ⟨kr, kr⟩, trivial⟩, ⟨rfl, (H.keep 1)⟩⟩
  }
  {
  refine WE.no kr (b := y17 != 0) kr t18 ?_
  refine WE.skip ?_
  refine WE.region ?_
  refine WL.fin 3 kr kr ?_
  exact LP.live [0, 3, 6] kr (ih1 (w64 (y14 + 1)) () _ H hr)
  }
  }
  {
  refine WE.no kr (b := decide (y14 < (x1.Code.length : Int))) kr t15 ?_
  refine WE.exit ?_
  refine WE.seq ?_
  refine WE.region ?_
  refine WL.sg 1 kr ?_
  refine WL.does kr kr (Does.loadV H 0 rfl 0 kr kr ?_)
  obtain ⟨y19, q19, hr⟩ := bind_cases hr
  refine WL.does kr kr (Does.call (c_r08_reach K x0 f1 x1 f2 H q19) kr ?_)
  rintro _ w ⟨h19, a20, c20, rfl, le19, H⟩
  refine WL.fin 7 kr kr ?_
  refine WE.seq ?_
  refine WE.region ?_
  refine WL.fin 4 kr kr ?_
  obtain rfl := Option.some.inj hr
  exact WE.ret ⟨[.int .i64 y19.2.1, .int .i64 y19.2.2], ⟨⟨kr, kr⟩, ⟨kr, kr⟩, trivial⟩, ⟨rfl, ((H.keep 2).less le19)⟩⟩
  }
  }
def r08_Check_l1 (K : Nat) (x0 : List GFunc) : Nat → Int → Option (Int × Int × Int)
  | 0, _ => none
  | k1 + 1, y15 =>
    if decide (y15 < (x0.length : Int)) then
      if 0 ≤ y15 ∧ y15 < x0.length then
        (r08_function K x0 (⟨(gd x0 y15).Arity, (gd x0 y15).Locals, (gd x0 y15).Slots, (gd x0 y15).Code⟩ : GFunc)).bind fun y19 =>
        if y19.2 != 0 then
          some (y15, y19.1, y19.2)
        else
          r08_Check_l1 K x0 k1 (w64 (y15 + 1))
      else none
    else
      some (0, 0, 0)
def r08_Check (K : Nat) (x0 : List GFunc) : Option (Int × Int × Int) :=
  (r07_May K x0).bind fun y2 =>
  if !y2 then
    some (0, 0, 1)
  else
    r08_Check_l1 K x0 K 0
set_option maxRecDepth 100000 in
set_option maxHeartbeats 4000000 in
theorem c_r08_Check {w0 w : World} {h : Gh} {L : List Ent} (K : Nat) (x0 : List GFunc) {a1 : Option Addr} {c1 : Nat} (f1 : Sl rGFunc 48 h a1 c1 x0) (H : St w0 h w L) {r : Int × Int × Int} (hr : r08_Check K x0 = some r) : Calls Try.prog 19 #[.slice a1 x0.length c1] w (fun e w' => ∃ v, e = .returned v ∧ v = .tuple #[.int .i64 r.1, .int .i64 r.2.1, .int .i64 r.2.2] ∧ St w0 h w' (L)) := by
  refine calls_of (args := [.slice a1 x0.length c1]) (n := 31) (rs := [.tmp 2, .tmp 3, .tmp 4]) Try.func19 rfl rfl rfl rfl rfl ?_
  unfold r08_Check at hr
  refine WE.seq ?_
  refine WE.region ?_
  refine WL.fin 3 kr kr ?_
  refine WE.seq ?_
  refine WE.seq ?_
  refine WE.region ?_
  obtain ⟨y2, q2, hr⟩ := bind_cases hr
  refine WL.sg 1 kr ?_
  refine WL.does kr kr (Does.call (c_r07_May K x0 f1 H q2) kr ?_)
  rintro _ w ⟨rfl, H⟩
  refine WL.fin 1 kr kr ?_
  rcases ite_cases hr with ⟨t3, hr⟩ | ⟨t3, hr⟩
  {
  refine WE.yes kr (b := !y2) kr t3 ?_
  refine WE.seq ?_
  refine WE.region ?_
  refine WL.fin 3 kr kr ?_
  obtain rfl := Option.some.inj hr
  exact WE.ret ⟨[.int .i64 0, .int .i64 0, .int .i64 1], ⟨⟨kr, kr⟩, ⟨kr, kr⟩, ⟨kr, kr⟩, trivial⟩, ⟨rfl, H⟩⟩
  }
  {
  refine WE.no kr (b := !y2) kr t3 ?_
  refine WE.skip ?_
  refine WE.seq ?_
  refine WE.seq ?_
  refine WE.region ?_
  refine WL.fin 1 kr kr ?_
  refine WE.block ?_
  refine WE.loop (LP.live [0, 5] kr (LP.rec (r08_Check_l1 K x0) (fun (y15 : Int) (_ : Unit) => [(0, .slice a1 x0.length c1), (5, .int .i64 y15)]) (fun (y15 : Int) (_ : Unit) => fun w => St w0 h w (L)) r (fun _ => rfl) ?_ K 0 () _ H hr))
  rintro k1 ih1 y15 _ w H hr
  simp only [r08_Check_l1] at hr
  refine WE.seq ?_
  refine WE.seq ?_
  refine WE.region ?_
  refine WL.fin 4 kr kr ?_
  rcases ite_cases hr with ⟨t16, hr⟩ | ⟨t16, hr⟩
  {
  refine WE.yes kr (b := decide (y15 < (x0.length : Int))) kr t16 ?_
  refine WE.skip ?_
  refine WE.seq ?_
  refine WE.block ?_
  refine WE.seq ?_
  refine WE.region ?_
  obtain ⟨⟨g0_17, g1_17⟩, hr⟩ := grd_cases hr
  obtain ⟨b17, p17, C17, e17, fr17, cs17, rfl, hb17, hc17, ⟨a18, c18, rfl, f18⟩⟩ := f1.at g0_17 g1_17
  refine WL.sg 3 kr ?_
  refine WL.does kr kr (Does.tells (.idx b17 (p17) x0.length c1 y15 4 kr kr g0_17 g1_17 kr) ?_)
  refine WL.does kr kr (Does.loadR H hb17 hc17 0 kr kr ?_)
  obtain ⟨y19, q19, hr⟩ := bind_cases hr
  refine WL.does kr kr (Does.call (c_r08_function K x0 f1 (⟨(gd x0 y15).Arity, (gd x0 y15).Locals, (gd x0 y15).Slots, (gd x0 y15).Code⟩ : GFunc) f18 H q19) kr ?_)
  rintro _ w ⟨rfl, H⟩
  refine WL.fin 5 kr kr ?_
  refine WE.seq ?_
  refine WE.region ?_
  refine WL.fin 2 kr kr ?_
  rcases ite_cases hr with ⟨t20, hr⟩ | ⟨t20, hr⟩
  {
  refine WE.yes kr (b := y19.2 != 0) kr t20 ?_
  refine WE.seq ?_
  refine WE.region ?_
  refine WL.fin 6 kr kr ?_
  obtain rfl := Option.some.inj hr
  exact WE.ret ⟨[.int .i64 y15, .int .i64 y19.1, .int .i64 y19.2], ⟨⟨kr, kr⟩, ⟨kr, kr⟩, ⟨kr, kr⟩, trivial⟩, ⟨rfl, H⟩⟩
  }
  {
  refine WE.no kr (b := y19.2 != 0) kr t20 ?_
  refine WE.skip ?_
  refine WE.region ?_
  refine WL.fin 3 kr kr ?_
  exact LP.live [0, 5] kr (ih1 (w64 (y15 + 1)) () _ H hr)
  }
  }
  {
  refine WE.no kr (b := decide (y15 < (x0.length : Int))) kr t16 ?_
  refine WE.exit ?_
  refine WE.seq ?_
  refine WE.region ?_
  refine WL.fin 3 kr kr ?_
  obtain rfl := Option.some.inj hr
  exact WE.ret ⟨[.int .i64 0, .int .i64 0, .int .i64 0], ⟨⟨kr, kr⟩, ⟨kr, kr⟩, ⟨kr, kr⟩, trivial⟩, ⟨rfl, H⟩⟩
  }
  }
def r08_Good (K : Nat) (x0 : List GFunc) : Option Bool :=
  (r08_Check K x0).bind fun y2 =>
  some (y2.2.2 == 0)
set_option maxRecDepth 100000 in
set_option maxHeartbeats 4000000 in
theorem c_r08_Good {w0 w : World} {h : Gh} {L : List Ent} (K : Nat) (x0 : List GFunc) {a1 : Option Addr} {c1 : Nat} (f1 : Sl rGFunc 48 h a1 c1 x0) (H : St w0 h w L) {r : Bool} (hr : r08_Good K x0 = some r) : Calls Try.prog 7 #[.slice a1 x0.length c1] w (fun e w' => ∃ v, e = .returned v ∧ v = .bool r ∧ St w0 h w' (L)) := by
  refine calls_of (args := [.slice a1 x0.length c1]) (n := 14) (rs := [.tmp 2]) Try.func7 rfl rfl rfl rfl rfl ?_
  unfold r08_Good at hr
  refine WE.seq ?_
  refine WE.region ?_
  refine WL.fin 1 kr kr ?_
  refine WE.seq ?_
  refine WE.region ?_
  obtain ⟨y2, q2, hr⟩ := bind_cases hr
  refine WL.sg 1 kr ?_
  refine WL.does kr kr (Does.call (c_r08_Check K x0 f1 H q2) kr ?_)
  rintro _ w ⟨rfl, H⟩
  refine WL.fin 7 kr kr ?_
  refine WE.seq ?_
  refine WE.region ?_
  refine WL.fin 3 kr kr ?_
  obtain rfl := Option.some.inj hr
  exact WE.ret ⟨[.bool (y2.2.2 == 0)], ⟨⟨kr, kr⟩, trivial⟩, ⟨rfl, H⟩⟩
def r08_Depths (K : Nat) (x0 : List GFunc) (x1 : Int) : Option (List Int) :=
  (r08_Good K x0).bind fun y11 =>
  bnd (
      if !y11 then
        true
      else
        decide (x1 < 0)) fun y12 =>
  bnd (
      if y12 then
        true
      else
        decide (x1 ≥ (x0.length : Int))) fun y13 =>
  if y13 then
    some []
  else
    if 0 ≤ x1 ∧ x1 < x0.length then
      (r08_reach K x0 (⟨(gd x0 x1).Arity, (gd x0 x1).Locals, (gd x0 x1).Slots, (gd x0 x1).Code⟩ : GFunc)).bind fun y18 =>
      some y18.1
    else none
set_option maxRecDepth 100000 in
set_option maxHeartbeats 4000000 in
theorem c_r08_Depths {w0 w : World} {h : Gh} {L : List Ent} (K : Nat) (x0 : List GFunc) {a1 : Option Addr} {c1 : Nat} (f1 : Sl rGFunc 48 h a1 c1 x0) (x1 : Int) (H : St w0 h w L) {r : (List Int)} (hr : r08_Depths K x0 x1 = some r) : Calls Try.prog 9 #[.slice a1 x0.length c1, .int .i64 x1] w (fun e w' => ∃ v, e = .returned v ∧ ∃ (h' : Gh) (a901 : Option Addr) (c901 : Nat), v = .slice a901 r.length c901 ∧ h.le h' ∧ St w0 h' w' (row (Rep.int .i64) 8 h' a901 c901 r :: L)) := by
  refine calls_of (args := [.slice a1 x0.length c1, .int .i64 x1]) (n := 32) (rs := [.tmp 4]) Try.func9 rfl rfl rfl rfl rfl ?_
  unfold r08_Depths at hr
  refine WE.seq ?_
  refine WE.region ?_
  refine WL.fin 1 kr kr ?_
  refine WE.seq ?_
  refine WE.seq ?_
  refine WE.region ?_
  obtain ⟨y11, q11, hr⟩ := bind_cases hr
  refine WL.sg 1 kr ?_
  refine WL.does kr kr (Does.call (c_r08_Good K x0 f1 H q11) kr ?_)
  rintro _ w ⟨rfl, H⟩
  refine WL.sg 2 kr ?_
  obtain ⟨y12, hy12, hr⟩ := bnd_cases hr
  refine WL.join 3 (fun (_ : Unit) => [(0, .slice a1 x0.length c1), (1, .int .i64 x1), (14, .bool y12)]) (fun (_ : Unit) w => St w0 h w (L)) ?_ (fun hk_y12 => ?_)
  {
  rintro _ w H
  refine WL.sg 1 kr ?_
  obtain ⟨y13, hy13, hr⟩ := bnd_cases hr
  refine WL.join 5 (fun (_ : Unit) => [(0, .slice a1 x0.length c1), (1, .int .i64 x1), (20, .bool y13)]) (fun (_ : Unit) w => St w0 h w (L)) ?_ (fun hk_y13 => ?_)
  {
  rintro _ w H
  refine WL.fin 0 kr kr ?_
  rcases ite_cases hr with ⟨t14, hr⟩ | ⟨t14, hr⟩
  {
  refine WE.yes kr (b := y13) kr t14 ?_
  refine WE.seq ?_
  refine WE.region ?_
  refine WL.fin 1 kr kr ?_
  have H := H.rowNil (Rep.int .i64) 8
  obtain rfl := Option.some.inj hr
  exact WE.ret ⟨[.slice none 0 0], ⟨⟨kr, kr⟩, trivial⟩, ⟨h, none, 0, rfl, (Gh.refl _), H⟩⟩
  }
  {
  refine WE.no kr (b := y13) kr t14 ?_
  refine WE.skip ?_
  refine WE.seq ?_
  refine WE.region ?_
  obtain ⟨⟨g0_16, g1_16⟩, hr⟩ := grd_cases hr
  obtain ⟨b16, p16, C16, e16, fr16, cs16, rfl, hb16, hc16, ⟨a17, c17, rfl, f17⟩⟩ := f1.at g0_16 g1_16
  refine WL.sg 3 kr ?_
  refine WL.does kr kr (Does.tells (.idx b16 (p16) x0.length c1 x1 4 kr kr g0_16 g1_16 kr) ?_)
  refine WL.does kr kr (Does.loadR H hb16 hc16 0 kr kr ?_)
  obtain ⟨y18, q18, hr⟩ := bind_cases hr
  refine WL.does kr kr (Does.call (c_r08_reach K x0 f1 (⟨(gd x0 x1).Arity, (gd x0 x1).Locals, (gd x0 x1).Slots, (gd x0 x1).Code⟩ : GFunc) f17 H q18) kr ?_)
  rintro _ w ⟨h18, a19, c19, rfl, le18, H⟩
  refine WL.fin 7 kr kr ?_
  refine WE.seq ?_
  refine WE.region ?_
  refine WL.fin 2 kr kr ?_
  obtain rfl := Option.some.inj hr
  exact WE.ret ⟨[.slice a19 y18.1.length c19], ⟨⟨kr, kr⟩, trivial⟩, ⟨h18, a19, c19, rfl, le18, H⟩⟩
  }
  }
  rcases ite_cases hy13 with ⟨ty13, hy13⟩ | ⟨ty13, hy13⟩
  {
  refine WL.known 15 ty13 kr kr ?_
  refine WL.sg 5 kr ?_
  obtain rfl := hy13
  exact WL.live [0, 1, 20] kr (hk_y13 () _ H)
  }
  {
  refine WL.known 15 ty13 kr kr ?_
  refine WL.sg 5 kr ?_
  obtain rfl := hy13
  exact WL.live [0, 1, 20] kr (hk_y13 () _ H)
  }
  }
  rcases ite_cases hy12 with ⟨ty12, hy12⟩ | ⟨ty12, hy12⟩
  {
  refine WL.known 11 ty12 kr kr ?_
  refine WL.sg 3 kr ?_
  obtain rfl := hy12
  exact WL.live [0, 1, 14] kr (hk_y12 () _ H)
  }
  {
  refine WL.known 11 ty12 kr kr ?_
  refine WL.sg 3 kr ?_
  obtain rfl := hy12
  exact WL.live [0, 1, 14] kr (hk_y12 () _ H)
  }
def law09_step (K : Nat) (x0 : List GFunc) (x1 : GFrame) (x2 : GOut) : Option (GFrame × Int) :=
  (frame_Do K x0 x1).bind fun y23 =>
  if y23.2.Kind == 2 then
    (frame_Give y23.1 y23.2.Slot x2).bind fun y31 =>
    some (y31.1, y23.2.Kind)
  else
    some (y23.1, y23.2.Kind)
set_option maxRecDepth 100000 in
set_option maxHeartbeats 4000000 in
theorem c_law09_step {w0 w : World} {h : Gh} {L : List Ent} (K : Nat) (x0 : List GFunc) {a1 : Option Addr} {c1 : Nat} (f1 : Sl rGFunc 48 h a1 c1 x0) (x1 : GFrame) {a2 : Option Addr} {c2 : Nat} {a3 : Option Addr} {c3 : Nat} {a4 : Option Addr} {c4 : Nat} (f2 : Sl rGValue 16 h a2 c2 x1.Stack) (f3 : Sl rGValue 16 h a3 c3 x1.Locals) (f4 : Sl rGSlot 48 h a4 c4 x1.Slots) (x2 : GOut) (H : St w0 h w L) {r : GFrame × Int} (hr : law09_step K x0 x1 x2 = some r) : Calls Try.prog 10 #[.slice a1 x0.length c1, .agg (cGFrame x1 a2 c2 a3 c3 a4 c4).toArray, .agg #[.int .i64 x2.Trap, .int .i64 x2.V.Re, .int .i64 x2.V.Im]] w (fun e w' => ∃ v, e = .returned v ∧ ∃ (h' : Gh) (a901 : Option Addr) (c901 : Nat) (a902 : Option Addr) (c902 : Nat) (a903 : Option Addr) (c903 : Nat), v = .tuple #[.agg (cGFrame r.1 a901 c901 a902 c902 a903 c903).toArray, .int .i64 r.2] ∧ h.le h' ∧ Sl rGValue 16 h' a901 c901 r.1.Stack ∧ Sl rGValue 16 h' a902 c902 r.1.Locals ∧ Sl rGSlot 48 h' a903 c903 r.1.Slots ∧ St w0 h' w' (L)) := by
  refine calls_of (args := [.slice a1 x0.length c1, .agg (cGFrame x1 a2 c2 a3 c3 a4 c4).toArray, .agg #[.int .i64 x2.Trap, .int .i64 x2.V.Re, .int .i64 x2.V.Im]]) (n := 30) (rs := [.cell 6 40, .tmp 7]) Try.func10 rfl rfl rfl rfl rfl ?_
  unfold law09_step at hr
  refine WE.seq ?_
  refine WE.region ?_
  refine WL.does kr kr (Does.box H (cGFrame x1 a2 c2 a3 c3 a4 c4) kr fun b20 w H => ?_)
  refine WL.does kr kr (Does.box H [.int .i64 x2.Trap, .int .i64 x2.V.Re, .int .i64 x2.V.Im] kr fun b21 w H => ?_)
  refine WL.does kr kr (Does.alloc H (cGFrame (⟨0, 0, [], [], [], 0, 0, 0, 0, 0, (⟨0, (⟨0, 0⟩ : GValue)⟩ : GOut), (⟨0, 0⟩ : GRef), 0⟩ : GFrame) none 0 none 0 none 0) kr fun b22 w H => ?_)
  refine WL.fin 1 kr kr ?_
  refine WE.seq ?_
  refine WE.region ?_
  refine WL.sg 1 kr ?_
  refine WL.does kr kr (Does.loadV H 2 rfl 0 kr kr ?_)
  obtain ⟨y23, q23, hr⟩ := bind_cases hr
  refine WL.does kr kr (Does.call (c_frame_Do K x0 f1 x1 f2 f3 f4 H q23) kr ?_)
  rintro _ w ⟨h23, a24, c24, a25, c25, a26, c26, a27, c27, rfl, le23, f24, f25, f26, f27, H⟩
  refine WL.sg 3 kr ?_
  refine WL.does kr kr (Does.alloc H (cGFrame (⟨0, 0, [], [], [], 0, 0, 0, 0, 0, (⟨0, (⟨0, 0⟩ : GValue)⟩ : GOut), (⟨0, 0⟩ : GRef), 0⟩ : GFrame) none 0 none 0 none 0) kr fun b28 w H => ?_)
  refine WL.does kr kr (Does.alloc H (cGAct (⟨0, 0, 0, 0, []⟩ : GAct) none 0) kr fun b29 w H => ?_)
  refine WL.does kr kr (Does.storeE H 1 (cGFrame y23.1 a24 c24 a25 c25 a26 c26) rfl (q := 0) kr kr kr fun w H => ?_)
  refine WL.does kr kr (Does.storeE H 0 (cGAct y23.2 a27 c27) rfl (q := 0) kr kr kr fun w H => ?_)
  refine WL.fin 0 kr kr ?_
  refine WE.seq ?_
  refine WE.seq ?_
  refine WE.region ?_
  refine WL.sg 1 kr ?_
  refine WL.does kr kr (Does.loadV H 0 rfl 0 kr kr ?_)
  refine WL.fin 1 kr kr ?_
  rcases ite_cases hr with ⟨t30, hr⟩ | ⟨t30, hr⟩
  {
  refine WE.yes kr (b := y23.2.Kind == 2) kr t30 ?_
  refine WE.region ?_
  refine WL.does kr kr (Does.loadV H 1 rfl 0 kr kr ?_)
  refine WL.sg 1 kr ?_
  refine WL.does kr kr (Does.loadV H 0 rfl 2 kr kr ?_)
  refine WL.does kr kr (Does.loadV H 3 rfl 0 kr kr ?_)
  obtain ⟨y31, q31, hr⟩ := bind_cases hr
  refine WL.does kr kr (Does.call (c_frame_Give y23.1 f24 f25 f26 y23.2.Slot x2 H q31) kr ?_)
  rintro _ w ⟨h31, a32, c32, a33, c33, a34, c34, rfl, le31, f32, f33, f34, H⟩
  refine WL.sg 3 kr ?_
  refine WL.does kr kr (Does.storeE H 1 (cGFrame y31.1 a32 c32 a33 c33 a34 c34) rfl (q := 0) kr kr kr fun w H => ?_)
  refine WL.fin 0 kr kr ?_
  refine WE.seq ?_
  refine WE.draws mo [6, 8, 9] (ρ' := [(6, .pointer (some ⟨b22, 0, none⟩)), (8, .pointer (some ⟨b28, 0, none⟩)), (9, .pointer (some ⟨b29, 0, none⟩))]) kr fun w e1 e2 e3 e4 => ?_
  have H := H.same e1 e2 e3 e4
  clear e1 e2 e3 e4
  refine WD.told 0 27 (.agg (cGFrame y31.1 a32 c32 a33 c33 a34 c34).toArray) kr kr ?_
  refine WD.know [1] kr ?_
  refine WD.told 2 29 (.int .i64 y23.2.Kind) kr kr ?_
  refine WD.does 3 kr rfl (Floats.of [1] [2, 0] kr (Floats.pure _ kr kr) (.cons (.tells rfl kr rfl (.loadV H 0 rfl 0 kr kr)) (.cons (.tells rfl kr rfl (.loadV H 1 rfl 0 kr kr)) .nil))) kr kr (Does.storeE H 2 (cGFrame y31.1 a32 c32 a33 c33 a34 c34) rfl (q := 0) kr kr kr fun w H => ?_)
  refine WD.does 4 kr rfl (Floats.of [1] [2] kr (Floats.pure _ kr kr) (.cons (.tells rfl kr rfl (.loadV H 0 rfl 0 kr kr)) .nil)) kr kr (Does.reck kr ?_)
  refine WD.fin kr (Floats.of [] [] kr .nil .nil) kr kr ?_
  obtain rfl := Option.some.inj hr
  exact WE.ret ⟨[.agg (cGFrame y31.1 a32 c32 a33 c33 a34 c34).toArray, .int .i64 y23.2.Kind], ⟨⟨kr, ⟨b22, 0, none⟩, kr, H.loadVar 2 rfl 0 kr⟩, ⟨kr, kr⟩, trivial⟩, ⟨h31, a32, c32, a33, c33, a34, c34, rfl, (le23.trans le31), f32, f33, f34, (H.keep 5)⟩⟩
  }
  {
  refine WE.no kr (b := y23.2.Kind == 2) kr t30 ?_
  refine WE.skip ?_
  refine WE.seq ?_
  refine WE.draws mo [6, 8, 9] (ρ' := [(6, .pointer (some ⟨b22, 0, none⟩)), (8, .pointer (some ⟨b28, 0, none⟩)), (9, .pointer (some ⟨b29, 0, none⟩))]) kr fun w e1 e2 e3 e4 => ?_
  have H := H.same e1 e2 e3 e4
  clear e1 e2 e3 e4
  refine WD.told 0 27 (.agg (cGFrame y23.1 a24 c24 a25 c25 a26 c26).toArray) kr kr ?_
  refine WD.know [1] kr ?_
  refine WD.told 2 29 (.int .i64 y23.2.Kind) kr kr ?_
  refine WD.does 3 kr rfl (Floats.of [1] [2, 0] kr (Floats.pure _ kr kr) (.cons (.tells rfl kr rfl (.loadV H 0 rfl 0 kr kr)) (.cons (.tells rfl kr rfl (.loadV H 1 rfl 0 kr kr)) .nil))) kr kr (Does.storeE H 2 (cGFrame y23.1 a24 c24 a25 c25 a26 c26) rfl (q := 0) kr kr kr fun w H => ?_)
  refine WD.does 4 kr rfl (Floats.of [1] [2] kr (Floats.pure _ kr kr) (.cons (.tells rfl kr rfl (.loadV H 0 rfl 0 kr kr)) .nil)) kr kr (Does.reck kr ?_)
  refine WD.fin kr (Floats.of [] [] kr .nil .nil) kr kr ?_
  obtain rfl := Option.some.inj hr
  exact WE.ret ⟨[.agg (cGFrame y23.1 a24 c24 a25 c25 a26 c26).toArray, .int .i64 y23.2.Kind], ⟨⟨kr, ⟨b22, 0, none⟩, kr, H.loadVar 2 rfl 0 kr⟩, ⟨kr, kr⟩, trivial⟩, ⟨h23, a24, c24, a25, c25, a26, c26, rfl, le23, f24, f25, f26, (H.keep 5)⟩⟩
  }
def law09_FrameSafe_l3 (K : Nat) (x2 : List GOut) (y189 : Int) (y197 : GFrame × Int) (rec_law09_FrameSafe_l2 : (Int × Int × Int × Int × Int × Int × Int × Int × List GValue × List GValue × List GSlot × Int × Int × Int × Int × Int × Int) → Option Bool) : Nat → (Bool × Int) → Option Bool
  | 0, _ => none
  | k3 + 1, (y221, y222) =>
    if decide (y222 < y189) then
      (
          if y221 then
            some true
          else
            if 0 ≤ y222 ∧ y222 < x2.length then
              some (((gd x2 y222).Trap) == 3)
            else none).bind fun y224 =>
      (
          if y224 then
            some true
          else
            if 0 ≤ y222 ∧ y222 < x2.length then
              some (((gd x2 y222).Trap) == 4)
            else none).bind fun y226 =>
      law09_FrameSafe_l3 K x2 y189 y197 rec_law09_FrameSafe_l2 k3 (y226, w64 (y222 + 1))
    else
      bnd (
          if y197.2 == 3 then
            true
          else
            y197.2 == 0) fun y230 =>
      bnd (
          if y230 then
            true
          else
            bnd (
                if y197.2 == 4 then
                  !y221
                else
                  false) fun y237 =>
            bnd (
                if y237 then
                  bnd (
                      if y197.1.Out.Trap == 3 then
                        true
                      else
                        y197.1.Out.Trap == 4) fun y240 =>
                  y240
                else
                  false) fun y238 =>
            y238) fun y231 =>
      if y231 then
        some false
      else
        rec_law09_FrameSafe_l2 (y197.1.Fn, y197.1.Pc, y197.1.Out.Trap, y197.1.Out.V.Re, y197.1.Out.V.Im, y197.1.Up.At, y197.1.Up.Gen, y197.1.UpSlot, y197.1.Stack, y197.1.Locals, y197.1.Slots, y197.1.Seed, y197.1.Spawned, y197.1.Draws, y197.1.State, y197.1.Wait, w64 (y189 + 1))
def law09_FrameSafe_l2 (K : Nat) (x0 : List GFunc) (x2 : List GOut) (y44 : (List Int)) : Nat → (Int × Int × Int × Int × Int × Int × Int × Int × List GValue × List GValue × List GSlot × Int × Int × Int × Int × Int × Int) → Option Bool
  | 0, _ => none
  | k2 + 1, (y173, y174, y175, y176, y177, y178, y179, y180, y181, y182, y183, y184, y185, y186, y187, y188, y189) =>
    bnd (
        if decide (y189 < (x2.length : Int)) then
          y187 == 0
        else
          false) fun y190 =>
    if y190 then
      if decide (y174 < 0) then
        some false
      else
        if decide (y174 ≥ (y44.length : Int)) then
          some false
        else
          if 0 ≤ y174 ∧ y174 < y44.length then
            if (gd y44 y174) != (y181.length : Int) then
              some false
            else
              if 0 ≤ y189 ∧ y189 < x2.length then
                (law09_step K x0 (⟨y173, y174, y181, y182, y183, y184, y185, y186, y187, y188, (⟨y175, (⟨y176, y177⟩ : GValue)⟩ : GOut), (⟨y178, y179⟩ : GRef), y180⟩ : GFrame) (⟨(gd x2 y189).Trap, (⟨(gd x2 y189).V.Re, (gd x2 y189).V.Im⟩ : GValue)⟩ : GOut)).bind fun y197 =>
                if 0 ≤ y189 ∧ y189 < x2.length then
                  (
                      if ((gd x2 y189).Trap) == 3 then
                        some true
                      else
                        if 0 ≤ y189 ∧ y189 < x2.length then
                          some (((gd x2 y189).Trap) == 4)
                        else none).bind fun y203 =>
                  law09_FrameSafe_l3 K x2 y189 y197 (law09_FrameSafe_l2 K x0 x2 y44 k2) K (y203, 0)
                else none
              else none
          else none
    else
      some true
def law09_FrameSafe_l1 (K : Nat) (x0 : List GFunc) (x1 : Int) (x2 : List GOut) : Nat → (List GValue × Int) → Option Bool
  | 0, _ => none
  | k1 + 1, (y28, y29) =>
    if 0 ≤ x1 ∧ x1 < x0.length then
      bnd (
          if decide (y29 < ((gd x0 x1).Arity)) then
            decide (y29 < 16)
          else
            false) fun y32 =>
      if y32 then
        if (y28.length + [(⟨0, 0⟩ : GValue)].length) * 16 ≤ LIM then
          law09_FrameSafe_l1 K x0 x1 x2 k1 ((y28 ++ [(⟨0, 0⟩ : GValue)]), w64 (y29 + 1))
        else none
      else
        (frame_New K x0 x1 y28 3).bind fun y37 =>
        (r08_Depths K x0 x1).bind fun y44 =>
        if !y37.2 then
          some false
        else
          law09_FrameSafe_l2 K x0 x2 y44 K (y37.1.Fn, y37.1.Pc, y37.1.Out.Trap, y37.1.Out.V.Re, y37.1.Out.V.Im, y37.1.Up.At, y37.1.Up.Gen, y37.1.UpSlot, y37.1.Stack, y37.1.Locals, y37.1.Slots, y37.1.Seed, y37.1.Spawned, y37.1.Draws, y37.1.State, y37.1.Wait, 0)
    else none
def law09_FrameSafe (K : Nat) (x0 : List GFunc) (x1 : Int) (x2 : List GOut) : Option Bool :=
  (law09_fixed K).bind fun y3 =>
  (
      if !y3 then
        some true
      else
        (r07_Small K x0 300).bind fun y245 =>
        some (!y245)).bind fun y4 =>
  (
      if y4 then
        some true
      else
        (r08_Good K x0).bind fun y244 =>
        some (!y244)).bind fun y6 =>
  bnd (
      if y6 then
        true
      else
        decide (x1 < 0)) fun y8 =>
  bnd (
      if y8 then
        true
      else
        decide (x1 ≥ (x0.length : Int))) fun y9 =>
  bnd (
      if y9 then
        true
      else
        decide ((x2.length : Int) > 100)) fun y10 =>
  if y10 then
    (law09_fixed K).bind fun y12 =>
    some y12
  else
    law09_FrameSafe_l1 K x0 x1 x2 K ([], 0)
set_option maxRecDepth 100000 in
set_option maxHeartbeats 4000000 in
theorem c_law09_FrameSafe {w0 w : World} {h : Gh} {L : List Ent} (K : Nat) (x0 : List GFunc) {a1 : Option Addr} {c1 : Nat} (f1 : Sl rGFunc 48 h a1 c1 x0) (x1 : Int) (x2 : List GOut) {a2 : Option Addr} {c2 : Nat} (f2 : Sl rGOut 24 h a2 c2 x2) (H : St w0 h w L) {r : Bool} (hr : law09_FrameSafe K x0 x1 x2 = some r) : Calls Try.prog 3 #[.slice a1 x0.length c1, .int .i64 x1, .slice a2 x2.length c2] w (fun e w' => ∃ v, e = .returned v ∧ v = .bool r ∧ St w0 h w' (L)) := by
  refine calls_of (args := [.slice a1 x0.length c1, .int .i64 x1, .slice a2 x2.length c2]) (n := 180) (rs := [.tmp 6]) Try.func3 rfl rfl rfl rfl rfl ?_
  unfold law09_FrameSafe at hr
  refine WE.seq ?_
  refine WE.region ?_
  refine WL.fin 1 kr kr ?_
  refine WE.seq ?_
  refine WE.seq ?_
  refine WE.region ?_
  obtain ⟨y3, q3, hr⟩ := bind_cases hr
  refine WL.does kr kr (Does.call (c_law09_fixed K H q3) kr ?_)
  rintro _ w ⟨rfl, H⟩
  refine WL.sg 2 kr ?_
  obtain ⟨y4, hy4, hr⟩ := bind_cases hr
  refine WL.join 4 (fun (_ : Unit) => [(0, .slice a1 x0.length c1), (1, .int .i64 x1), (2, .slice a2 x2.length c2), (23, .bool y4)]) (fun (_ : Unit) w => St w0 h w (L)) ?_ (fun hk_y4 => ?_)
  {
  rintro _ w H
  refine WL.sg 1 kr ?_
  obtain ⟨y6, hy6, hr⟩ := bind_cases hr
  refine WL.join 4 (fun (_ : Unit) => [(0, .slice a1 x0.length c1), (1, .int .i64 x1), (2, .slice a2 x2.length c2), (28, .bool y6)]) (fun (_ : Unit) w => St w0 h w (L)) ?_ (fun hk_y6 => ?_)
  {
  rintro _ w H
  refine WL.sg 1 kr ?_
  obtain ⟨y8, hy8, hr⟩ := bnd_cases hr
  refine WL.join 3 (fun (_ : Unit) => [(0, .slice a1 x0.length c1), (1, .int .i64 x1), (2, .slice a2 x2.length c2), (32, .bool y8)]) (fun (_ : Unit) w => St w0 h w (L)) ?_ (fun hk_y8 => ?_)
  {
  rintro _ w H
  refine WL.sg 1 kr ?_
  obtain ⟨y9, hy9, hr⟩ := bnd_cases hr
  refine WL.join 5 (fun (_ : Unit) => [(0, .slice a1 x0.length c1), (1, .int .i64 x1), (2, .slice a2 x2.length c2), (38, .bool y9)]) (fun (_ : Unit) w => St w0 h w (L)) ?_ (fun hk_y9 => ?_)
  {
  rintro _ w H
  refine WL.sg 1 kr ?_
  obtain ⟨y10, hy10, hr⟩ := bnd_cases hr
  refine WL.join 4 (fun (_ : Unit) => [(0, .slice a1 x0.length c1), (1, .int .i64 x1), (2, .slice a2 x2.length c2), (43, .bool y10)]) (fun (_ : Unit) w => St w0 h w (L)) ?_ (fun hk_y10 => ?_)
  {
  rintro _ w H
  refine WL.fin 0 kr kr ?_
  rcases ite_cases hr with ⟨t11, hr⟩ | ⟨t11, hr⟩
  {
  refine WE.yes kr (b := y10) kr t11 ?_
  refine WE.seq ?_
  refine WE.region ?_
  obtain ⟨y12, q12, hr⟩ := bind_cases hr
  refine WL.does kr kr (Does.call (c_law09_fixed K H q12) kr ?_)
  rintro _ w ⟨rfl, H⟩
  refine WL.fin 1 kr kr ?_
  obtain rfl := Option.some.inj hr
  exact WE.ret ⟨[.bool y12], ⟨⟨kr, kr⟩, trivial⟩, ⟨rfl, H⟩⟩
  }
  {
  refine WE.no kr (b := y10) kr t11 ?_
  refine WE.skip ?_
  refine WE.seq ?_
  refine WE.region ?_
  refine WL.does kr kr (Does.lit (K := rGValue) (B := 16) (xs := []) (e := 33) H [] kr Rows.nil kr kr kr kr fun b13 w H => ?_)
  refine WL.fin 1 kr kr ?_
  refine WE.seq ?_
  refine WE.seq ?_
  refine WE.region ?_
  refine WL.fin 1 kr kr ?_
  refine WE.block ?_
  refine WE.loop (LP.live [0, 1, 2, 7, 8] kr (LP.rec (law09_FrameSafe_l1 K x0 x1 x2) (fun (⟨y28, y29⟩ : List GValue × Int) (⟨a28, c28⟩ : Option Addr × Nat) => [(0, .slice a1 x0.length c1), (1, .int .i64 x1), (2, .slice a2 x2.length c2), (7, .slice a28 y28.length c28), (8, .int .i64 y29)]) (fun (⟨y28, y29⟩ : List GValue × Int) (⟨a28, c28⟩ : Option Addr × Nat) => fun w => St w0 h w (row rGValue 16 h a28 c28 y28 :: L)) r (fun _ => rfl) ?_ K ([], 0) ((some ⟨b13, 0, none⟩), 0) _ H hr))
  rintro k1 ih1 ⟨y28, y29⟩ ⟨a28, c28⟩ w H hr
  simp only [law09_FrameSafe_l1] at hr
  refine WE.seq ?_
  refine WE.seq ?_
  refine WE.region ?_
  obtain ⟨⟨g0_30, g1_30⟩, hr⟩ := grd_cases hr
  obtain ⟨b30, p30, C30, e30, fr30, cs30, rfl, hb30, hc30, ⟨a31, c31, rfl, f31⟩⟩ := f1.at g0_30 g1_30
  refine WL.sg 3 kr ?_
  refine WL.does kr kr (Does.tells (.idx b30 (p30) x0.length c1 x1 4 kr kr g0_30 g1_30 kr) ?_)
  refine WL.sg 1 kr ?_
  refine WL.does kr kr (Does.loadR H hb30 hc30 0 kr kr ?_)
  refine WL.sg 2 kr ?_
  obtain ⟨y32, hy32, hr⟩ := bnd_cases hr
  refine WL.join 3 (fun (_ : Unit) => [(0, .slice (some ⟨b30, p30, none⟩) x0.length c1), (1, .int .i64 x1), (2, .slice a2 x2.length c2), (7, .slice a28 y28.length c28), (8, .int .i64 y29), (56, .bool y32)]) (fun (_ : Unit) w => St w0 h w (row rGValue 16 h a28 c28 y28 :: L)) ?_ (fun hk_y32 => ?_)
  {
  rintro _ w H
  refine WL.fin 0 kr kr ?_
  rcases ite_cases hr with ⟨t33, hr⟩ | ⟨t33, hr⟩
  {
  refine WE.yes kr (b := y32) kr t33 ?_
  refine WE.skip ?_
  refine WE.seq ?_
  refine WE.block ?_
  refine WE.region ?_
  refine WL.sg 2 kr ?_
  refine WL.does kr kr (Does.lit (K := rGValue) (B := 16) (xs := [(⟨0, 0⟩ : GValue)]) (e := 33) H ([.int .i64 0, .int .i64 0] ++ []) kr (Rows.cons (C := [.int .i64 0, .int .i64 0]) (x := (⟨0, 0⟩ : GValue)) (by show _ = _; kernel_rfl) Rows.nil) kr kr kr kr fun b34 w H => ?_)
  obtain ⟨g35, hr⟩ := grd_cases hr
  refine WL.does kr kr (Does.append (t := 28) (xt := 28) (ty := 28) (e := 33) (e2 := 33) (z := .agg #[.int .i64 0, .int .i64 0]) H 1 rfl (Gh.refl _) (ys := [(⟨0, 0⟩ : GValue)]) (c2 := 1) (H.rowSrc 0 rfl (Gh.refl _)) g35 kr kr kr kr fun a35 c35 w H => ?_)
  refine WL.fin 1 kr kr ?_
  refine WE.region ?_
  refine WL.fin 3 kr kr ?_
  exact LP.live [0, 1, 2, 7, 8] kr (ih1 ((y28 ++ [(⟨0, 0⟩ : GValue)]), w64 (y29 + 1)) (a35, c35) _ (H.keep 1) hr)
  }
  {
  refine WE.no kr (b := y32) kr t33 ?_
  refine WE.exit ?_
  refine WE.seq ?_
  refine WE.region ?_
  obtain ⟨y37, q37, hr⟩ := bind_cases hr
  refine WL.sg 3 kr ?_
  obtain ⟨h36, le36, f36, H⟩ := (H).rowFreeze (Gh.refl _)
  refine WL.does kr kr (Does.call (c_frame_New K x0 (f1.up le36) x1 y28 f36 3 H q37) kr ?_)
  rintro _ w ⟨h37, a38, c38, a39, c39, a40, c40, rfl, le37, f38, H⟩
  refine WL.sg 3 kr ?_
  refine WL.does kr kr (Does.alloc H (cGFrame (⟨0, 0, [], [], [], 0, 0, 0, 0, 0, (⟨0, (⟨0, 0⟩ : GValue)⟩ : GOut), (⟨0, 0⟩ : GRef), 0⟩ : GFrame) none 0 none 0 none 0) kr fun b43 w H => ?_)
  refine WL.does kr kr (Does.storeE H 0 (cGFrame y37.1 a38 c38 a39 c39 a40 c40) rfl (q := 0) kr kr kr fun w H => ?_)
  refine WL.fin 1 kr kr ?_
  refine WE.seq ?_
  refine WE.region ?_
  obtain ⟨y44, q44, hr⟩ := bind_cases hr
  refine WL.sg 2 kr ?_
  refine WL.does kr kr (Does.call (c_r08_Depths K x0 ((f1.up le36).up le37) x1 H q44) kr ?_)
  rintro _ w ⟨h44, a45, c45, rfl, le44, H⟩
  refine WL.fin 1 kr kr ?_
  refine WE.seq ?_
  refine WE.seq ?_
  refine WE.region ?_
  refine WL.fin 2 kr kr ?_
  rcases ite_cases hr with ⟨t47, hr⟩ | ⟨t47, hr⟩
  {
  refine WE.yes kr (b := !y37.2) kr t47 ?_
  refine WE.seq ?_
  refine WE.region ?_
  refine WL.fin 1 kr kr ?_
  obtain rfl := Option.some.inj hr
  exact WE.ret ⟨[.bool false], ⟨⟨kr, kr⟩, trivial⟩, ⟨rfl, ((H.keep 4).less ((le36.trans le37).trans le44))⟩⟩
  }
  {
  refine WE.no kr (b := !y37.2) kr t47 ?_
  refine WE.skip ?_
  refine WE.seq ?_
  refine WE.seq ?_
  refine WE.region ?_
  refine WL.fin 1 kr kr ?_
  refine WE.block ?_
  obtain ⟨h242, le242, f242, H⟩ := (H.front 2 rfl).rowFreeze le44
  obtain ⟨h243, le243, f243, H⟩ := (H.front 2 rfl).rowFreeze (le44.trans le242)
  refine WE.loop (LP.live [0, 2, 9, 11, 12] kr (LP.rec (law09_FrameSafe_l2 K x0 x2 y44) (fun (⟨y173, y174, y175, y176, y177, y178, y179, y180, y181, y182, y183, y184, y185, y186, y187, y188, y189⟩ : Int × Int × Int × Int × Int × Int × Int × Int × List GValue × List GValue × List GSlot × Int × Int × Int × Int × Int × Int) (⟨h172, a181, c181, a182, c182, a183, c183⟩ : Gh × Option Addr × Nat × Option Addr × Nat × Option Addr × Nat) => [(0, .slice (some ⟨b30, p30, none⟩) x0.length c1), (2, .slice a2 x2.length c2), (9, .pointer (some ⟨b43, 0, none⟩)), (11, .slice a45 y44.length c45), (12, .int .i64 y189)]) (fun (⟨y173, y174, y175, y176, y177, y178, y179, y180, y181, y182, y183, y184, y185, y186, y187, y188, y189⟩ : Int × Int × Int × Int × Int × Int × Int × Int × List GValue × List GValue × List GSlot × Int × Int × Int × Int × Int × Int) (⟨h172, a181, c181, a182, c182, a183, c183⟩ : Gh × Option Addr × Nat × Option Addr × Nat × Option Addr × Nat) => fun w => h44.le h172 ∧ Sl rGValue 16 h172 a181 c181 y181 ∧ Sl rGValue 16 h172 a182 c182 y182 ∧ Sl rGSlot 48 h172 a183 c183 y183 ∧ St w0 h172 w (row (Rep.int .i64) 8 h44 a45 c45 y44 :: var b43 (cGFrame (⟨y173, y174, y181, y182, y183, y184, y185, y186, y187, y188, (⟨y175, (⟨y176, y177⟩ : GValue)⟩ : GOut), (⟨y178, y179⟩ : GRef), y180⟩ : GFrame) a181 c181 a182 c182 a183 c183) 40 :: L)) r (fun _ => rfl) ?_ K (y37.1.Fn, y37.1.Pc, y37.1.Out.Trap, y37.1.Out.V.Re, y37.1.Out.V.Im, y37.1.Up.At, y37.1.Up.Gen, y37.1.UpSlot, y37.1.Stack, y37.1.Locals, y37.1.Slots, y37.1.Seed, y37.1.Spawned, y37.1.Draws, y37.1.State, y37.1.Wait, 0) (h243, a38, c38, a39, c39, a40, c40) _ ⟨(le242.trans le243), (((f38.up le44).up le242).up le243), (f242.up le243), f243, H⟩ hr))
  rintro k2 ih2 ⟨y173, y174, y175, y176, y177, y178, y179, y180, y181, y182, y183, y184, y185, y186, y187, y188, y189⟩ ⟨h172, a181, c181, a182, c182, a183, c183⟩ w ⟨leh172, f181, f182, f183, H⟩ hr
  simp only [law09_FrameSafe_l2] at hr
  refine WE.seq ?_
  refine WE.seq ?_
  refine WE.region ?_
  refine WL.sg 5 kr ?_
  obtain ⟨y190, hy190, hr⟩ := bnd_cases hr
  refine WL.join 4 (fun (_ : Unit) => [(0, .slice (some ⟨b30, p30, none⟩) x0.length c1), (2, .slice a2 x2.length c2), (9, .pointer (some ⟨b43, 0, none⟩)), (11, .slice a45 y44.length c45), (12, .int .i64 y189), (83, .bool y190)]) (fun (_ : Unit) w => St w0 h172 w (row (Rep.int .i64) 8 h44 a45 c45 y44 :: var b43 (cGFrame (⟨y173, y174, y181, y182, y183, y184, y185, y186, y187, y188, (⟨y175, (⟨y176, y177⟩ : GValue)⟩ : GOut), (⟨y178, y179⟩ : GRef), y180⟩ : GFrame) a181 c181 a182 c182 a183 c183) 40 :: L)) ?_ (fun hk_y190 => ?_)
  {
  rintro _ w H
  refine WL.fin 0 kr kr ?_
  rcases ite_cases hr with ⟨t191, hr⟩ | ⟨t191, hr⟩
  {
  refine WE.yes kr (b := y190) kr t191 ?_
  refine WE.skip ?_
  refine WE.seq ?_
  refine WE.block ?_
  refine WE.seq ?_
  refine WE.seq ?_
  refine WE.draws mo [0, 2, 9, 11, 12] (ρ' := [(0, .slice (some ⟨b30, p30, none⟩) x0.length c1), (2, .slice a2 x2.length c2), (9, .pointer (some ⟨b43, 0, none⟩)), (11, .slice a45 y44.length c45), (12, .int .i64 y189)]) kr fun w e1 e2 e3 e4 => ?_
  have H := H.same e1 e2 e3 e4
  clear e1 e2 e3 e4
  refine WD.know [0] kr ?_
  refine WD.told 1 87 (.int .i64 y174) kr kr ?_
  refine WD.know [2] kr ?_
  refine WD.know [3] kr ?_
  rcases ite_cases hr with ⟨t192, hr⟩ | ⟨t192, hr⟩
  {
  refine WD.known 89 t192 kr kr ?_
  refine WD.know [4] kr ?_
  refine WD.know [5] kr ?_
  refine WD.know [6] kr ?_
  refine WD.know [7] kr ?_
  refine WD.know [8] kr ?_
  refine WD.know [9] kr ?_
  refine WD.know [10] kr ?_
  refine WD.know [11] kr ?_
  refine WD.know [12] kr ?_
  refine WD.know [13] kr ?_
  refine WD.know [14] kr ?_
  refine WD.know [15] kr ?_
  refine WD.know [16] kr ?_
  refine WD.know [17] kr ?_
  refine WD.know [18] kr ?_
  refine WD.know [19] kr ?_
  refine WD.know [20] kr ?_
  refine WD.fin kr (Floats.of [20, 19, 18, 17, 16, 15, 14, 13, 12, 11, 10, 9, 8, 7, 6, 5, 4, 2, 0] [3, 1] kr (Floats.pure _ kr kr) (.cons (.tells rfl kr kr (.calmB t192 kr)) (.cons (.tells rfl kr rfl (.loadV H 1 rfl 1 kr kr)) .nil))) kr kr ?_
  refine WE.yes kr (b := true) kr rfl ?_
  refine WE.seq ?_
  refine WE.region ?_
  refine WL.fin 1 kr kr ?_
  obtain rfl := Option.some.inj hr
  exact WE.ret ⟨[.bool false], ⟨⟨kr, kr⟩, trivial⟩, ⟨rfl, ((H.keep 2).less (((le36.trans le37).trans le44).trans leh172))⟩⟩
  }
  {
  refine WD.known 89 t192 kr kr ?_
  refine WD.know [4] kr ?_
  refine WD.told 5 91 (.int .i64 y174) kr kr ?_
  refine WD.know [6] kr ?_
  refine WD.know [7] kr ?_
  refine WD.know [8] kr ?_
  refine WD.know [9] kr ?_
  refine WD.know [10] kr ?_
  rcases ite_cases hr with ⟨t193, hr⟩ | ⟨t193, hr⟩
  {
  refine WD.known 96 t193 kr kr ?_
  refine WD.know [11] kr ?_
  refine WD.know [12] kr ?_
  refine WD.know [13] kr ?_
  refine WD.know [14] kr ?_
  refine WD.know [15] kr ?_
  refine WD.know [16] kr ?_
  refine WD.know [17] kr ?_
  refine WD.know [18] kr ?_
  refine WD.know [19] kr ?_
  refine WD.know [20] kr ?_
  refine WD.fin kr (Floats.of [20, 19, 18, 17, 16, 15, 14, 13, 12, 11, 9, 8, 7, 6, 4, 2, 0] [10, 5, 3, 1] kr (Floats.pure _ kr kr) (.cons (.tells rfl kr kr (.calmB t193 kr)) (.cons (.tells rfl kr rfl (.loadV H 1 rfl 1 kr kr)) (.cons (.tells rfl kr kr (.calmB t192 kr)) (.cons (.tells rfl kr rfl (.loadV H 1 rfl 1 kr kr)) .nil))))) kr kr ?_
  refine WE.yes kr (b := true) kr rfl ?_
  refine WE.seq ?_
  refine WE.region ?_
  refine WL.fin 1 kr kr ?_
  obtain rfl := Option.some.inj hr
  exact WE.ret ⟨[.bool false], ⟨⟨kr, kr⟩, trivial⟩, ⟨rfl, ((H.keep 2).less (((le36.trans le37).trans le44).trans leh172))⟩⟩
  }
  {
  refine WD.known 96 t193 kr kr ?_
  refine WD.know [11] kr ?_
  refine WD.know [12] kr ?_
  refine WD.told 13 99 (.int .i64 y174) kr kr ?_
  obtain ⟨⟨g0_194, g1_194⟩, hr⟩ := grd_cases hr
  obtain ⟨b194, p194, rfl⟩ := H.rowSome 0 rfl g0_194 g1_194
  refine WD.told 14 100 (.pointer (some ⟨b194, p194 + y174.toNat * 1, none⟩)) kr kr ?_
  refine WD.told 15 101 (.int .i64 (gd y44 y174)) kr kr ?_
  refine WD.know [16] kr ?_
  refine WD.told 17 103 (.slice a181 y181.length c181) kr kr ?_
  refine WD.know [18] kr ?_
  refine WD.know [19] kr ?_
  refine WD.know [20] kr ?_
  refine WD.fin kr (Floats.of [20, 19, 18, 16, 12, 11, 9, 8, 7, 6, 4, 2, 0] [17, 15, 14, 13, 10, 5, 3, 1] kr (Floats.pure _ kr kr) (.cons (.tells rfl kr rfl (.loadV H 1 rfl 2 kr kr)) (.cons (.tells rfl kr kr (.loadRow (v := .int .i64 (gd y44 y174)) H 0 rfl g0_194 g1_194 0 1 rfl (fun _ e => by rcases e with rfl; kernel_rfl) kr)) (.cons (.tells rfl kr kr (.idx b194 (p194) y44.length c45 y174 1 kr kr g0_194 g1_194 kr)) (.cons (.tells rfl kr rfl (.loadV H 1 rfl 1 kr kr)) (.cons (.tells rfl kr kr (.calmB t193 kr)) (.cons (.tells rfl kr rfl (.loadV H 1 rfl 1 kr kr)) (.cons (.tells rfl kr kr (.calmB t192 kr)) (.cons (.tells rfl kr rfl (.loadV H 1 rfl 1 kr kr)) .nil))))))))) kr kr ?_
  rcases ite_cases hr with ⟨t195, hr⟩ | ⟨t195, hr⟩
  {
  refine WE.yes kr (b := (gd y44 y174) != (y181.length : Int)) kr t195 ?_
  refine WE.seq ?_
  refine WE.region ?_
  refine WL.fin 1 kr kr ?_
  obtain rfl := Option.some.inj hr
  exact WE.ret ⟨[.bool false], ⟨⟨kr, kr⟩, trivial⟩, ⟨rfl, ((H.keep 2).less (((le36.trans le37).trans le44).trans leh172))⟩⟩
  }
  {
  refine WE.no kr (b := (gd y44 y174) != (y181.length : Int)) kr t195 ?_
  refine WE.skip ?_
  refine WE.seq ?_
  refine WE.draws mo [0, 2, 9, 11, 12, 90, 91, 92, 93, 94, 97, 98, 99, 100, 101, 102, 103, 104, 105] (ρ' := [(0, .slice (some ⟨b30, p30, none⟩) x0.length c1), (2, .slice a2 x2.length c2), (9, .pointer (some ⟨b43, 0, none⟩)), (11, .slice (some ⟨b194, p194, none⟩) y44.length c45), (12, .int .i64 y189), (90, .pointer (some ⟨b43, 1, none⟩)), (91, .int .i64 y174), (92, .slice (some ⟨b194, p194, none⟩) y44.length c45), (93, .int .i64 (y44.length : Int)), (94, .bool (decide (y174 ≥ (y44.length : Int)))), (97, .slice (some ⟨b194, p194, none⟩) y44.length c45), (98, .pointer (some ⟨b43, 1, none⟩)), (99, .int .i64 y174), (100, .pointer (some ⟨b194, p194 + y174.toNat * 1, none⟩)), (101, .int .i64 (gd y44 y174)), (102, .pointer (some ⟨b43, 2, none⟩)), (103, .slice a181 y181.length c181), (104, .int .i64 (y181.length : Int)), (105, .bool ((gd y44 y174) != (y181.length : Int)))]) kr fun w e1 e2 e3 e4 => ?_
  have H := H.same e1 e2 e3 e4
  clear e1 e2 e3 e4
  refine WD.know [0] kr ?_
  refine WD.told 1 109 (.agg (cGFrame (⟨y173, y174, y181, y182, y183, y184, y185, y186, y187, y188, (⟨y175, (⟨y176, y177⟩ : GValue)⟩ : GOut), (⟨y178, y179⟩ : GRef), y180⟩ : GFrame) a181 c181 a182 c182 a183 c183).toArray) kr kr ?_
  refine WD.know [2] kr ?_
  refine WD.know [3] kr ?_
  obtain ⟨⟨g0_196, g1_196⟩, hr⟩ := grd_cases hr
  obtain ⟨b196, p196, C196, e196, fr196, cs196, rfl, hb196, hc196, rfl⟩ := ((((f2.up le36).up le37).up le44).up leh172).at g0_196 g1_196
  refine WD.told 4 112 (.pointer (some ⟨b196, p196 + y189.toNat * 3, none⟩)) kr kr ?_
  refine WD.told 5 113 (.agg #[.int .i64 ((gd x2 y189).Trap), .int .i64 ((gd x2 y189).V.Re), .int .i64 ((gd x2 y189).V.Im)]) kr kr ?_
  obtain ⟨y197, q197, hr⟩ := bind_cases hr
  refine WD.among 6 [10] kr (Floats.of [3, 2, 0] [5, 4, 1] kr (Floats.pure _ kr kr) (.cons (.tells rfl kr rfl (.loadR H hb196 hc196 0 kr kr)) (.cons (.tells rfl kr kr (.idx b196 (p196) x2.length c2 y189 3 kr kr g0_196 g1_196 kr)) (.cons (.tells rfl kr rfl (.loadV H 1 rfl 0 kr kr)) .nil)))) ⟨?_, ?_, trivial⟩
  {
  refine WT.does 6 kr rfl kr kr (Does.call (c_law09_step K x0 ((((f1.up le36).up le37).up le44).up leh172) (⟨y173, y174, y181, y182, y183, y184, y185, y186, y187, y188, (⟨y175, (⟨y176, y177⟩ : GValue)⟩ : GOut), (⟨y178, y179⟩ : GRef), y180⟩ : GFrame) f181 f182 f183 (⟨(gd x2 y189).Trap, (⟨(gd x2 y189).V.Re, (gd x2 y189).V.Im⟩ : GValue)⟩ : GOut) H q197) kr ?_)
  rintro _ w ⟨h197, a198, c198, a199, c199, a200, c200, rfl, le197, f198, f199, f200, H⟩
  refine WD.know [7] kr ?_
  refine WD.know [8] kr ?_
  refine WD.know [9] kr ?_
  refine WD.does 10 kr rfl (Floats.of [9, 8, 7, 3, 2] [4] kr (Floats.pure _ kr kr) (.cons (.tells rfl kr kr (.idx b196 (p196) x2.length c2 y189 3 kr kr g0_196 g1_196 kr)) .nil)) kr kr (Does.alloc H (cGFrame (⟨0, 0, [], [], [], 0, 0, 0, 0, 0, (⟨0, (⟨0, 0⟩ : GValue)⟩ : GOut), (⟨0, 0⟩ : GRef), 0⟩ : GFrame) none 0 none 0 none 0) kr fun b201 w H => ?_)
  refine WD.does 11 kr rfl (Floats.of [9, 8, 7, 3, 2] [4] kr (Floats.pure _ kr kr) (.cons (.tells rfl kr kr (.idx b196 (p196) x2.length c2 y189 3 kr kr g0_196 g1_196 kr)) .nil)) kr kr (Does.storeE H 0 (cGFrame y197.1 a198 c198 a199 c199 a200 c200) rfl (q := 0) kr kr kr fun w H => ?_)
  refine WD.does 12 kr rfl (Floats.of [9] [] kr (Floats.pure _ kr kr) .nil) kr kr (Does.reck kr ?_)
  refine WD.fin kr (Floats.of [] [] kr .nil .nil) kr kr ?_
  refine WE.seq ?_
  refine WE.region ?_
  obtain ⟨⟨g0_202, g1_202⟩, hr⟩ := grd_cases hr
  obtain ⟨C202, e202, fr202, cs202, hb202, hc202, rfl⟩ := (((((f2.up le36).up le37).up le44).up leh172).up le197).at2 g0_202 g1_202
  refine WL.sg 2 kr ?_
  refine WL.does kr kr (Does.tells (.idx b196 (p196) x2.length c2 y189 3 kr kr g0_202 g1_202 kr) ?_)
  refine WL.sg 1 kr ?_
  refine WL.does kr kr (Does.loadR H hb202 hc202 0 kr kr ?_)
  refine WL.sg 2 kr ?_
  obtain ⟨y203, hy203, hr⟩ := bind_cases hr
  refine WL.join 7 (fun (_ : Unit) => [(0, .slice (some ⟨b30, p30, none⟩) x0.length c1), (2, .slice (some ⟨b196, p196, none⟩) x2.length c2), (9, .pointer (some ⟨b43, 0, none⟩)), (11, .slice (some ⟨b194, p194, none⟩) y44.length c45), (12, .int .i64 y189), (13, .pointer (some ⟨b201, 0, none⟩)), (14, .int .i64 y197.2), (90, .pointer (some ⟨b43, 1, none⟩)), (91, .int .i64 y174), (92, .slice (some ⟨b194, p194, none⟩) y44.length c45), (93, .int .i64 (y44.length : Int)), (94, .bool (decide (y174 ≥ (y44.length : Int)))), (97, .slice (some ⟨b194, p194, none⟩) y44.length c45), (98, .pointer (some ⟨b43, 1, none⟩)), (99, .int .i64 y174), (100, .pointer (some ⟨b194, p194 + y174.toNat * 1, none⟩)), (101, .int .i64 (gd y44 y174)), (102, .pointer (some ⟨b43, 2, none⟩)), (103, .slice a181 y181.length c181), (104, .int .i64 (y181.length : Int)), (105, .bool ((gd y44 y174) != (y181.length : Int))), (130, .bool y203)]) (fun (_ : Unit) w => St w0 h197 w (var b201 (cGFrame y197.1 a198 c198 a199 c199 a200 c200) 40 :: row (Rep.int .i64) 8 h44 (some ⟨b194, p194, none⟩) c45 y44 :: var b43 (cGFrame (⟨y173, y174, y181, y182, y183, y184, y185, y186, y187, y188, (⟨y175, (⟨y176, y177⟩ : GValue)⟩ : GOut), (⟨y178, y179⟩ : GRef), y180⟩ : GFrame) a181 c181 a182 c182 a183 c183) 40 :: L)) ?_ (fun hk_y203 => ?_)
  {
  rintro _ w H
  refine WL.fin 1 kr kr ?_
  refine WE.seq ?_
  refine WE.seq ?_
  refine WE.region ?_
  refine WL.fin 1 kr kr ?_
  refine WE.block ?_
  refine WE.loop (LP.live [0, 2, 9, 11, 12, 13, 14, 15, 16, 90, 91, 92, 93, 94, 97, 98, 99, 100, 101, 102, 103, 104, 105] kr (LP.rec (law09_FrameSafe_l3 K x2 y189 y197 (law09_FrameSafe_l2 K x0 x2 y44 k2)) (fun (⟨y221, y222⟩ : Bool × Int) (_ : Unit) => [(0, .slice (some ⟨b30, p30, none⟩) x0.length c1), (2, .slice (some ⟨b196, p196, none⟩) x2.length c2), (9, .pointer (some ⟨b43, 0, none⟩)), (11, .slice (some ⟨b194, p194, none⟩) y44.length c45), (12, .int .i64 y189), (13, .pointer (some ⟨b201, 0, none⟩)), (14, .int .i64 y197.2), (15, .bool y221), (16, .int .i64 y222), (90, .pointer (some ⟨b43, 1, none⟩)), (91, .int .i64 y174), (92, .slice (some ⟨b194, p194, none⟩) y44.length c45), (93, .int .i64 (y44.length : Int)), (94, .bool (decide (y174 ≥ (y44.length : Int)))), (97, .slice (some ⟨b194, p194, none⟩) y44.length c45), (98, .pointer (some ⟨b43, 1, none⟩)), (99, .int .i64 y174), (100, .pointer (some ⟨b194, p194 + y174.toNat * 1, none⟩)), (101, .int .i64 (gd y44 y174)), (102, .pointer (some ⟨b43, 2, none⟩)), (103, .slice a181 y181.length c181), (104, .int .i64 (y181.length : Int)), (105, .bool ((gd y44 y174) != (y181.length : Int)))]) (fun (⟨y221, y222⟩ : Bool × Int) (_ : Unit) => fun w => St w0 h197 w (var b201 (cGFrame y197.1 a198 c198 a199 c199 a200 c200) 40 :: row (Rep.int .i64) 8 h44 (some ⟨b194, p194, none⟩) c45 y44 :: var b43 (cGFrame (⟨y173, y174, y181, y182, y183, y184, y185, y186, y187, y188, (⟨y175, (⟨y176, y177⟩ : GValue)⟩ : GOut), (⟨y178, y179⟩ : GRef), y180⟩ : GFrame) a181 c181 a182 c182 a183 c183) 40 :: L)) r (fun _ => rfl) ?_ K (y203, 0) () _ H hr))
  rintro k3 ih3 ⟨y221, y222⟩ _ w H hr
  simp only [law09_FrameSafe_l3] at hr
  refine WE.seq ?_
  refine WE.seq ?_
  refine WE.region ?_
  refine WL.fin 3 kr kr ?_
  rcases ite_cases hr with ⟨t223, hr⟩ | ⟨t223, hr⟩
  {
  refine WE.yes kr (b := decide (y222 < y189)) kr t223 ?_
  refine WE.skip ?_
  refine WE.seq ?_
  refine WE.block ?_
  refine WE.region ?_
  refine WL.sg 2 kr ?_
  obtain ⟨y224, hy224, hr⟩ := bind_cases hr
  refine WL.join 7 (fun (_ : Unit) => [(0, .slice (some ⟨b30, p30, none⟩) x0.length c1), (2, .slice (some ⟨b196, p196, none⟩) x2.length c2), (9, .pointer (some ⟨b43, 0, none⟩)), (11, .slice (some ⟨b194, p194, none⟩) y44.length c45), (12, .int .i64 y189), (13, .pointer (some ⟨b201, 0, none⟩)), (14, .int .i64 y197.2), (16, .int .i64 y222), (90, .pointer (some ⟨b43, 1, none⟩)), (91, .int .i64 y174), (92, .slice (some ⟨b194, p194, none⟩) y44.length c45), (93, .int .i64 (y44.length : Int)), (94, .bool (decide (y174 ≥ (y44.length : Int)))), (97, .slice (some ⟨b194, p194, none⟩) y44.length c45), (98, .pointer (some ⟨b43, 1, none⟩)), (99, .int .i64 y174), (100, .pointer (some ⟨b194, p194 + y174.toNat * 1, none⟩)), (101, .int .i64 (gd y44 y174)), (102, .pointer (some ⟨b43, 2, none⟩)), (103, .slice a181 y181.length c181), (104, .int .i64 (y181.length : Int)), (105, .bool ((gd y44 y174) != (y181.length : Int))), (144, .bool y224)]) (fun (_ : Unit) w => St w0 h197 w (var b201 (cGFrame y197.1 a198 c198 a199 c199 a200 c200) 40 :: row (Rep.int .i64) 8 h44 (some ⟨b194, p194, none⟩) c45 y44 :: var b43 (cGFrame (⟨y173, y174, y181, y182, y183, y184, y185, y186, y187, y188, (⟨y175, (⟨y176, y177⟩ : GValue)⟩ : GOut), (⟨y178, y179⟩ : GRef), y180⟩ : GFrame) a181 c181 a182 c182 a183 c183) 40 :: L)) ?_ (fun hk_y224 => ?_)
  {
  rintro _ w H
  refine WL.sg 1 kr ?_
  obtain ⟨y226, hy226, hr⟩ := bind_cases hr
  refine WL.join 7 (fun (_ : Unit) => [(0, .slice (some ⟨b30, p30, none⟩) x0.length c1), (2, .slice (some ⟨b196, p196, none⟩) x2.length c2), (9, .pointer (some ⟨b43, 0, none⟩)), (11, .slice (some ⟨b194, p194, none⟩) y44.length c45), (12, .int .i64 y189), (13, .pointer (some ⟨b201, 0, none⟩)), (14, .int .i64 y197.2), (16, .int .i64 y222), (90, .pointer (some ⟨b43, 1, none⟩)), (91, .int .i64 y174), (92, .slice (some ⟨b194, p194, none⟩) y44.length c45), (93, .int .i64 (y44.length : Int)), (94, .bool (decide (y174 ≥ (y44.length : Int)))), (97, .slice (some ⟨b194, p194, none⟩) y44.length c45), (98, .pointer (some ⟨b43, 1, none⟩)), (99, .int .i64 y174), (100, .pointer (some ⟨b194, p194 + y174.toNat * 1, none⟩)), (101, .int .i64 (gd y44 y174)), (102, .pointer (some ⟨b43, 2, none⟩)), (103, .slice a181 y181.length c181), (104, .int .i64 (y181.length : Int)), (105, .bool ((gd y44 y174) != (y181.length : Int))), (152, .bool y226)]) (fun (_ : Unit) w => St w0 h197 w (var b201 (cGFrame y197.1 a198 c198 a199 c199 a200 c200) 40 :: row (Rep.int .i64) 8 h44 (some ⟨b194, p194, none⟩) c45 y44 :: var b43 (cGFrame (⟨y173, y174, y181, y182, y183, y184, y185, y186, y187, y188, (⟨y175, (⟨y176, y177⟩ : GValue)⟩ : GOut), (⟨y178, y179⟩ : GRef), y180⟩ : GFrame) a181 c181 a182 c182 a183 c183) 40 :: L)) ?_ (fun hk_y226 => ?_)
  {
  rintro _ w H
  refine WL.fin 1 kr kr ?_
  refine WE.region ?_
  refine WL.fin 3 kr kr ?_
  exact LP.live [0, 2, 9, 11, 12, 13, 14, 15, 16, 90, 91, 92, 93, 94, 97, 98, 99, 100, 101, 102, 103, 104, 105] kr (ih3 (y226, w64 (y222 + 1)) () _ H hr)
  }
  rcases ite_cases hy226 with ⟨ty226, hy226⟩ | ⟨ty226, hy226⟩
  {
  refine WL.known 145 ty226 kr kr ?_
  refine WL.sg 7 kr ?_
  obtain rfl := Option.some.inj hy226
  exact WL.live [0, 2, 9, 11, 12, 13, 14, 16, 90, 91, 92, 93, 94, 97, 98, 99, 100, 101, 102, 103, 104, 105, 152] kr (hk_y226 () _ H)
  }
  {
  refine WL.known 145 ty226 kr kr ?_
  obtain ⟨⟨g0_228, g1_228⟩, hy226⟩ := grd_cases hy226
  obtain ⟨C228, e228, fr228, cs228, hb228, hc228, rfl⟩ := (((((f2.up le36).up le37).up le44).up leh172).up le197).at2 g0_228 g1_228
  refine WL.sg 2 kr ?_
  refine WL.does kr kr (Does.tells (.idx b196 (p196) x2.length c2 y222 3 kr kr g0_228 g1_228 kr) ?_)
  refine WL.sg 1 kr ?_
  refine WL.does kr kr (Does.loadR H hb228 hc228 0 kr kr ?_)
  refine WL.sg 2 kr ?_
  obtain rfl := Option.some.inj hy226
  exact WL.live [0, 2, 9, 11, 12, 13, 14, 16, 90, 91, 92, 93, 94, 97, 98, 99, 100, 101, 102, 103, 104, 105, 152] kr (hk_y226 () _ H)
  }
  }
  rcases ite_cases hy224 with ⟨ty224, hy224⟩ | ⟨ty224, hy224⟩
  {
  refine WL.known 137 ty224 kr kr ?_
  refine WL.sg 7 kr ?_
  obtain rfl := Option.some.inj hy224
  exact WL.live [0, 2, 9, 11, 12, 13, 14, 16, 90, 91, 92, 93, 94, 97, 98, 99, 100, 101, 102, 103, 104, 105, 144] kr (hk_y224 () _ H)
  }
  {
  refine WL.known 137 ty224 kr kr ?_
  obtain ⟨⟨g0_229, g1_229⟩, hy224⟩ := grd_cases hy224
  obtain ⟨C229, e229, fr229, cs229, hb229, hc229, rfl⟩ := (((((f2.up le36).up le37).up le44).up leh172).up le197).at2 g0_229 g1_229
  refine WL.sg 2 kr ?_
  refine WL.does kr kr (Does.tells (.idx b196 (p196) x2.length c2 y222 3 kr kr g0_229 g1_229 kr) ?_)
  refine WL.sg 1 kr ?_
  refine WL.does kr kr (Does.loadR H hb229 hc229 0 kr kr ?_)
  refine WL.sg 2 kr ?_
  obtain rfl := Option.some.inj hy224
  exact WL.live [0, 2, 9, 11, 12, 13, 14, 16, 90, 91, 92, 93, 94, 97, 98, 99, 100, 101, 102, 103, 104, 105, 144] kr (hk_y224 () _ H)
  }
  }
  {
  refine WE.no kr (b := decide (y222 < y189)) kr t223 ?_
  refine WE.exit ?_
  refine WE.seq ?_
  refine WE.seq ?_
  refine WE.region ?_
  refine WL.sg 3 kr ?_
  obtain ⟨y230, hy230, hr⟩ := bnd_cases hr
  refine WL.join 3 (fun (_ : Unit) => [(0, .slice (some ⟨b30, p30, none⟩) x0.length c1), (2, .slice (some ⟨b196, p196, none⟩) x2.length c2), (9, .pointer (some ⟨b43, 0, none⟩)), (11, .slice (some ⟨b194, p194, none⟩) y44.length c45), (12, .int .i64 y189), (13, .pointer (some ⟨b201, 0, none⟩)), (14, .int .i64 y197.2), (15, .bool y221), (90, .pointer (some ⟨b43, 1, none⟩)), (91, .int .i64 y174), (92, .slice (some ⟨b194, p194, none⟩) y44.length c45), (93, .int .i64 (y44.length : Int)), (94, .bool (decide (y174 ≥ (y44.length : Int)))), (97, .slice (some ⟨b194, p194, none⟩) y44.length c45), (98, .pointer (some ⟨b43, 1, none⟩)), (99, .int .i64 y174), (100, .pointer (some ⟨b194, p194 + y174.toNat * 1, none⟩)), (101, .int .i64 (gd y44 y174)), (102, .pointer (some ⟨b43, 2, none⟩)), (103, .slice a181 y181.length c181), (104, .int .i64 (y181.length : Int)), (105, .bool ((gd y44 y174) != (y181.length : Int))), (158, .bool y230)]) (fun (_ : Unit) w => St w0 h197 w (var b201 (cGFrame y197.1 a198 c198 a199 c199 a200 c200) 40 :: row (Rep.int .i64) 8 h44 (some ⟨b194, p194, none⟩) c45 y44 :: var b43 (cGFrame (⟨y173, y174, y181, y182, y183, y184, y185, y186, y187, y188, (⟨y175, (⟨y176, y177⟩ : GValue)⟩ : GOut), (⟨y178, y179⟩ : GRef), y180⟩ : GFrame) a181 c181 a182 c182 a183 c183) 40 :: L)) ?_ (fun hk_y230 => ?_)
  {
  rintro _ w H
  refine WL.sg 1 kr ?_
  obtain ⟨y231, hy231, hr⟩ := bnd_cases hr
  refine WL.join 19 (fun (_ : Unit) => [(0, .slice (some ⟨b30, p30, none⟩) x0.length c1), (2, .slice (some ⟨b196, p196, none⟩) x2.length c2), (9, .pointer (some ⟨b43, 0, none⟩)), (11, .slice (some ⟨b194, p194, none⟩) y44.length c45), (12, .int .i64 y189), (13, .pointer (some ⟨b201, 0, none⟩)), (90, .pointer (some ⟨b43, 1, none⟩)), (91, .int .i64 y174), (92, .slice (some ⟨b194, p194, none⟩) y44.length c45), (93, .int .i64 (y44.length : Int)), (94, .bool (decide (y174 ≥ (y44.length : Int)))), (97, .slice (some ⟨b194, p194, none⟩) y44.length c45), (98, .pointer (some ⟨b43, 1, none⟩)), (99, .int .i64 y174), (100, .pointer (some ⟨b194, p194 + y174.toNat * 1, none⟩)), (101, .int .i64 (gd y44 y174)), (102, .pointer (some ⟨b43, 2, none⟩)), (103, .slice a181 y181.length c181), (104, .int .i64 (y181.length : Int)), (105, .bool ((gd y44 y174) != (y181.length : Int))), (178, .bool y231)]) (fun (_ : Unit) w => St w0 h197 w (var b201 (cGFrame y197.1 a198 c198 a199 c199 a200 c200) 40 :: row (Rep.int .i64) 8 h44 (some ⟨b194, p194, none⟩) c45 y44 :: var b43 (cGFrame (⟨y173, y174, y181, y182, y183, y184, y185, y186, y187, y188, (⟨y175, (⟨y176, y177⟩ : GValue)⟩ : GOut), (⟨y178, y179⟩ : GRef), y180⟩ : GFrame) a181 c181 a182 c182 a183 c183) 40 :: L)) ?_ (fun hk_y231 => ?_)
  {
  rintro _ w H
  refine WL.fin 0 kr kr ?_
  rcases ite_cases hr with ⟨t236, hr⟩ | ⟨t236, hr⟩
  {
  refine WE.yes kr (b := y231) kr t236 ?_
  refine WE.seq ?_
  refine WE.region ?_
  refine WL.fin 1 kr kr ?_
  obtain rfl := Option.some.inj hr
  exact WE.ret ⟨[.bool false], ⟨⟨kr, kr⟩, trivial⟩, ⟨rfl, ((H.keep 3).less ((((le36.trans le37).trans le44).trans leh172).trans le197))⟩⟩
  }
  {
  refine WE.no kr (b := y231) kr t236 ?_
  refine WE.skip ?_
  refine WE.region ?_
  refine WL.does kr kr (Does.loadV H 0 rfl 0 kr kr ?_)
  refine WL.does kr kr (Does.storeE H 2 (cGFrame y197.1 a198 c198 a199 c199 a200 c200) rfl (q := 0) kr kr kr fun w H => ?_)
  refine WL.fin 0 kr kr ?_
  refine WE.region ?_
  refine WL.fin 3 kr kr ?_
  exact LP.live [0, 2, 9, 11, 12] kr (ih2 (y197.1.Fn, y197.1.Pc, y197.1.Out.Trap, y197.1.Out.V.Re, y197.1.Out.V.Im, y197.1.Up.At, y197.1.Up.Gen, y197.1.UpSlot, y197.1.Stack, y197.1.Locals, y197.1.Slots, y197.1.Seed, y197.1.Spawned, y197.1.Draws, y197.1.State, y197.1.Wait, w64 (y189 + 1)) (h197, a198, c198, a199, c199, a200, c200) _ ⟨(leh172.trans le197), f198, f199, f200, (H.keep 1)⟩ hr)
  }
  }
  rcases ite_cases hy231 with ⟨ty231, hy231⟩ | ⟨ty231, hy231⟩
  {
  refine WL.known 159 ty231 kr kr ?_
  refine WL.sg 19 kr ?_
  obtain rfl := hy231
  exact WL.live [0, 2, 9, 11, 12, 13, 90, 91, 92, 93, 94, 97, 98, 99, 100, 101, 102, 103, 104, 105, 178] kr (hk_y231 () _ H)
  }
  {
  refine WL.known 159 ty231 kr kr ?_
  refine WL.sg 3 kr ?_
  obtain ⟨y237, hy237, hy231⟩ := bnd_cases hy231
  refine WL.join 3 (fun (_ : Unit) => [(0, .slice (some ⟨b30, p30, none⟩) x0.length c1), (2, .slice (some ⟨b196, p196, none⟩) x2.length c2), (9, .pointer (some ⟨b43, 0, none⟩)), (11, .slice (some ⟨b194, p194, none⟩) y44.length c45), (12, .int .i64 y189), (13, .pointer (some ⟨b201, 0, none⟩)), (90, .pointer (some ⟨b43, 1, none⟩)), (91, .int .i64 y174), (92, .slice (some ⟨b194, p194, none⟩) y44.length c45), (93, .int .i64 (y44.length : Int)), (94, .bool (decide (y174 ≥ (y44.length : Int)))), (97, .slice (some ⟨b194, p194, none⟩) y44.length c45), (98, .pointer (some ⟨b43, 1, none⟩)), (99, .int .i64 y174), (100, .pointer (some ⟨b194, p194 + y174.toNat * 1, none⟩)), (101, .int .i64 (gd y44 y174)), (102, .pointer (some ⟨b43, 2, none⟩)), (103, .slice a181 y181.length c181), (104, .int .i64 (y181.length : Int)), (105, .bool ((gd y44 y174) != (y181.length : Int))), (159, .bool false), (165, .bool y237)]) (fun (_ : Unit) w => St w0 h197 w (var b201 (cGFrame y197.1 a198 c198 a199 c199 a200 c200) 40 :: row (Rep.int .i64) 8 h44 (some ⟨b194, p194, none⟩) c45 y44 :: var b43 (cGFrame (⟨y173, y174, y181, y182, y183, y184, y185, y186, y187, y188, (⟨y175, (⟨y176, y177⟩ : GValue)⟩ : GOut), (⟨y178, y179⟩ : GRef), y180⟩ : GFrame) a181 c181 a182 c182 a183 c183) 40 :: L)) ?_ (fun hk_y237 => ?_)
  {
  rintro _ w H
  refine WL.sg 1 kr ?_
  obtain ⟨y238, hy238, hy231⟩ := bnd_cases hy231
  refine WL.join 11 (fun (_ : Unit) => [(0, .slice (some ⟨b30, p30, none⟩) x0.length c1), (2, .slice (some ⟨b196, p196, none⟩) x2.length c2), (9, .pointer (some ⟨b43, 0, none⟩)), (11, .slice (some ⟨b194, p194, none⟩) y44.length c45), (12, .int .i64 y189), (13, .pointer (some ⟨b201, 0, none⟩)), (90, .pointer (some ⟨b43, 1, none⟩)), (91, .int .i64 y174), (92, .slice (some ⟨b194, p194, none⟩) y44.length c45), (93, .int .i64 (y44.length : Int)), (94, .bool (decide (y174 ≥ (y44.length : Int)))), (97, .slice (some ⟨b194, p194, none⟩) y44.length c45), (98, .pointer (some ⟨b43, 1, none⟩)), (99, .int .i64 y174), (100, .pointer (some ⟨b194, p194 + y174.toNat * 1, none⟩)), (101, .int .i64 (gd y44 y174)), (102, .pointer (some ⟨b43, 2, none⟩)), (103, .slice a181 y181.length c181), (104, .int .i64 (y181.length : Int)), (105, .bool ((gd y44 y174) != (y181.length : Int))), (159, .bool false), (177, .bool y238)]) (fun (_ : Unit) w => St w0 h197 w (var b201 (cGFrame y197.1 a198 c198 a199 c199 a200 c200) 40 :: row (Rep.int .i64) 8 h44 (some ⟨b194, p194, none⟩) c45 y44 :: var b43 (cGFrame (⟨y173, y174, y181, y182, y183, y184, y185, y186, y187, y188, (⟨y175, (⟨y176, y177⟩ : GValue)⟩ : GOut), (⟨y178, y179⟩ : GRef), y180⟩ : GFrame) a181 c181 a182 c182 a183 c183) 40 :: L)) ?_ (fun hk_y238 => ?_)
  {
  rintro _ w H
  refine WL.sg 1 kr ?_
  obtain rfl := hy231
  exact WL.live [0, 2, 9, 11, 12, 13, 90, 91, 92, 93, 94, 97, 98, 99, 100, 101, 102, 103, 104, 105, 178] kr (hk_y231 () _ H)
  }
  rcases ite_cases hy238 with ⟨ty238, hy238⟩ | ⟨ty238, hy238⟩
  {
  refine WL.known 166 ty238 kr kr ?_
  refine WL.sg 2 kr ?_
  refine WL.does kr kr (Does.loadV H 0 rfl 10 kr kr ?_)
  refine WL.sg 2 kr ?_
  obtain ⟨y240, hy240, hy238⟩ := bnd_cases hy238
  refine WL.join 5 (fun (_ : Unit) => [(0, .slice (some ⟨b30, p30, none⟩) x0.length c1), (2, .slice (some ⟨b196, p196, none⟩) x2.length c2), (9, .pointer (some ⟨b43, 0, none⟩)), (11, .slice (some ⟨b194, p194, none⟩) y44.length c45), (12, .int .i64 y189), (13, .pointer (some ⟨b201, 0, none⟩)), (90, .pointer (some ⟨b43, 1, none⟩)), (91, .int .i64 y174), (92, .slice (some ⟨b194, p194, none⟩) y44.length c45), (93, .int .i64 (y44.length : Int)), (94, .bool (decide (y174 ≥ (y44.length : Int)))), (97, .slice (some ⟨b194, p194, none⟩) y44.length c45), (98, .pointer (some ⟨b43, 1, none⟩)), (99, .int .i64 y174), (100, .pointer (some ⟨b194, p194 + y174.toNat * 1, none⟩)), (101, .int .i64 (gd y44 y174)), (102, .pointer (some ⟨b43, 2, none⟩)), (103, .slice a181 y181.length c181), (104, .int .i64 (y181.length : Int)), (105, .bool ((gd y44 y174) != (y181.length : Int))), (159, .bool false), (166, .bool true), (176, .bool y240)]) (fun (_ : Unit) w => St w0 h197 w (var b201 (cGFrame y197.1 a198 c198 a199 c199 a200 c200) 40 :: row (Rep.int .i64) 8 h44 (some ⟨b194, p194, none⟩) c45 y44 :: var b43 (cGFrame (⟨y173, y174, y181, y182, y183, y184, y185, y186, y187, y188, (⟨y175, (⟨y176, y177⟩ : GValue)⟩ : GOut), (⟨y178, y179⟩ : GRef), y180⟩ : GFrame) a181 c181 a182 c182 a183 c183) 40 :: L)) ?_ (fun hk_y240 => ?_)
  {
  rintro _ w H
  refine WL.sg 1 kr ?_
  obtain rfl := hy238
  exact WL.live [0, 2, 9, 11, 12, 13, 90, 91, 92, 93, 94, 97, 98, 99, 100, 101, 102, 103, 104, 105, 159, 177] kr (hk_y238 () _ H)
  }
  rcases ite_cases hy240 with ⟨ty240, hy240⟩ | ⟨ty240, hy240⟩
  {
  refine WL.known 171 ty240 kr kr ?_
  refine WL.sg 5 kr ?_
  obtain rfl := hy240
  exact WL.live [0, 2, 9, 11, 12, 13, 90, 91, 92, 93, 94, 97, 98, 99, 100, 101, 102, 103, 104, 105, 159, 166, 176] kr (hk_y240 () _ H)
  }
  {
  refine WL.known 171 ty240 kr kr ?_
  refine WL.sg 2 kr ?_
  refine WL.does kr kr (Does.loadV H 0 rfl 10 kr kr ?_)
  refine WL.sg 2 kr ?_
  obtain rfl := hy240
  exact WL.live [0, 2, 9, 11, 12, 13, 90, 91, 92, 93, 94, 97, 98, 99, 100, 101, 102, 103, 104, 105, 159, 166, 176] kr (hk_y240 () _ H)
  }
  }
  {
  refine WL.known 166 ty238 kr kr ?_
  refine WL.sg 11 kr ?_
  obtain rfl := hy238
  exact WL.live [0, 2, 9, 11, 12, 13, 90, 91, 92, 93, 94, 97, 98, 99, 100, 101, 102, 103, 104, 105, 159, 177] kr (hk_y238 () _ H)
  }
  }
  rcases ite_cases hy237 with ⟨ty237, hy237⟩ | ⟨ty237, hy237⟩
  {
  refine WL.known 162 ty237 kr kr ?_
  refine WL.sg 3 kr ?_
  obtain rfl := hy237
  exact WL.live [0, 2, 9, 11, 12, 13, 90, 91, 92, 93, 94, 97, 98, 99, 100, 101, 102, 103, 104, 105, 159, 165] kr (hk_y237 () _ H)
  }
  {
  refine WL.known 162 ty237 kr kr ?_
  refine WL.sg 3 kr ?_
  obtain rfl := hy237
  exact WL.live [0, 2, 9, 11, 12, 13, 90, 91, 92, 93, 94, 97, 98, 99, 100, 101, 102, 103, 104, 105, 159, 165] kr (hk_y237 () _ H)
  }
  }
  }
  rcases ite_cases hy230 with ⟨ty230, hy230⟩ | ⟨ty230, hy230⟩
  {
  refine WL.known 155 ty230 kr kr ?_
  refine WL.sg 3 kr ?_
  obtain rfl := hy230
  exact WL.live [0, 2, 9, 11, 12, 13, 14, 15, 90, 91, 92, 93, 94, 97, 98, 99, 100, 101, 102, 103, 104, 105, 158] kr (hk_y230 () _ H)
  }
  {
  refine WL.known 155 ty230 kr kr ?_
  refine WL.sg 3 kr ?_
  obtain rfl := hy230
  exact WL.live [0, 2, 9, 11, 12, 13, 14, 15, 90, 91, 92, 93, 94, 97, 98, 99, 100, 101, 102, 103, 104, 105, 158] kr (hk_y230 () _ H)
  }
  }
  }
  rcases ite_cases hy203 with ⟨ty203, hy203⟩ | ⟨ty203, hy203⟩
  {
  refine WL.known 123 ty203 kr kr ?_
  refine WL.sg 7 kr ?_
  obtain rfl := Option.some.inj hy203
  exact WL.live [0, 2, 9, 11, 12, 13, 14, 90, 91, 92, 93, 94, 97, 98, 99, 100, 101, 102, 103, 104, 105, 130] kr (hk_y203 () _ H)
  }
  {
  refine WL.known 123 ty203 kr kr ?_
  obtain ⟨⟨g0_241, g1_241⟩, hy203⟩ := grd_cases hy203
  obtain ⟨C241, e241, fr241, cs241, hb241, hc241, rfl⟩ := (((((f2.up le36).up le37).up le44).up leh172).up le197).at2 g0_241 g1_241
  refine WL.sg 2 kr ?_
  refine WL.does kr kr (Does.tells (.idx b196 (p196) x2.length c2 y189 3 kr kr g0_241 g1_241 kr) ?_)
  refine WL.sg 1 kr ?_
  refine WL.does kr kr (Does.loadR H hb241 hc241 0 kr kr ?_)
  refine WL.sg 2 kr ?_
  obtain rfl := Option.some.inj hy203
  exact WL.live [0, 2, 9, 11, 12, 13, 14, 90, 91, 92, 93, 94, 97, 98, 99, 100, 101, 102, 103, 104, 105, 130] kr (hk_y203 () _ H)
  }
  }
  {
  refine WT.does 10 kr rfl kr kr (Does.alloc H (cGFrame (⟨0, 0, [], [], [], 0, 0, 0, 0, 0, (⟨0, (⟨0, 0⟩ : GValue)⟩ : GOut), (⟨0, 0⟩ : GRef), 0⟩ : GFrame) none 0 none 0 none 0) kr fun b201 w H => ?_)
  refine WD.does 6 kr rfl (Floats.of [3, 2, 0] [5, 4, 1] kr (Floats.pure _ kr kr) (.cons (.tells rfl kr rfl (.loadR H hb196 hc196 0 kr kr)) (.cons (.tells rfl kr kr (.idx b196 (p196) x2.length c2 y189 3 kr kr g0_196 g1_196 kr)) (.cons (.tells rfl kr rfl (.loadV H 2 rfl 0 kr kr)) .nil)))) kr kr (Does.call (c_law09_step K x0 ((((f1.up le36).up le37).up le44).up leh172) (⟨y173, y174, y181, y182, y183, y184, y185, y186, y187, y188, (⟨y175, (⟨y176, y177⟩ : GValue)⟩ : GOut), (⟨y178, y179⟩ : GRef), y180⟩ : GFrame) f181 f182 f183 (⟨(gd x2 y189).Trap, (⟨(gd x2 y189).V.Re, (gd x2 y189).V.Im⟩ : GValue)⟩ : GOut) H q197) kr ?_)
  rintro _ w ⟨h197, a198, c198, a199, c199, a200, c200, rfl, le197, f198, f199, f200, H⟩
  refine WD.know [7] kr ?_
  refine WD.know [8] kr ?_
  refine WD.know [9] kr ?_
  refine WD.does 11 kr rfl (Floats.of [9, 8, 7, 3, 2] [4] kr (Floats.pure _ kr kr) (.cons (.tells rfl kr kr (.idx b196 (p196) x2.length c2 y189 3 kr kr g0_196 g1_196 kr)) .nil)) kr kr (Does.storeE H 0 (cGFrame y197.1 a198 c198 a199 c199 a200 c200) rfl (q := 0) kr kr kr fun w H => ?_)
  refine WD.does 12 kr rfl (Floats.of [9] [] kr (Floats.pure _ kr kr) .nil) kr kr (Does.reck kr ?_)
  refine WD.fin kr (Floats.of [] [] kr .nil .nil) kr kr ?_
  refine WE.seq ?_
  refine WE.region ?_
  obtain ⟨⟨g0_202, g1_202⟩, hr⟩ := grd_cases hr
  obtain ⟨C202, e202, fr202, cs202, hb202, hc202, rfl⟩ := (((((f2.up le36).up le37).up le44).up leh172).up le197).at2 g0_202 g1_202
  refine WL.sg 2 kr ?_
  refine WL.does kr kr (Does.tells (.idx b196 (p196) x2.length c2 y189 3 kr kr g0_202 g1_202 kr) ?_)
  refine WL.sg 1 kr ?_
  refine WL.does kr kr (Does.loadR H hb202 hc202 0 kr kr ?_)
  refine WL.sg 2 kr ?_
  obtain ⟨y203, hy203, hr⟩ := bind_cases hr
  refine WL.join 7 (fun (_ : Unit) => [(0, .slice (some ⟨b30, p30, none⟩) x0.length c1), (2, .slice (some ⟨b196, p196, none⟩) x2.length c2), (9, .pointer (some ⟨b43, 0, none⟩)), (11, .slice (some ⟨b194, p194, none⟩) y44.length c45), (12, .int .i64 y189), (13, .pointer (some ⟨b201, 0, none⟩)), (14, .int .i64 y197.2), (90, .pointer (some ⟨b43, 1, none⟩)), (91, .int .i64 y174), (92, .slice (some ⟨b194, p194, none⟩) y44.length c45), (93, .int .i64 (y44.length : Int)), (94, .bool (decide (y174 ≥ (y44.length : Int)))), (97, .slice (some ⟨b194, p194, none⟩) y44.length c45), (98, .pointer (some ⟨b43, 1, none⟩)), (99, .int .i64 y174), (100, .pointer (some ⟨b194, p194 + y174.toNat * 1, none⟩)), (101, .int .i64 (gd y44 y174)), (102, .pointer (some ⟨b43, 2, none⟩)), (103, .slice a181 y181.length c181), (104, .int .i64 (y181.length : Int)), (105, .bool ((gd y44 y174) != (y181.length : Int))), (130, .bool y203)]) (fun (_ : Unit) w => St w0 h197 w (var b201 (cGFrame y197.1 a198 c198 a199 c199 a200 c200) 40 :: row (Rep.int .i64) 8 h44 (some ⟨b194, p194, none⟩) c45 y44 :: var b43 (cGFrame (⟨y173, y174, y181, y182, y183, y184, y185, y186, y187, y188, (⟨y175, (⟨y176, y177⟩ : GValue)⟩ : GOut), (⟨y178, y179⟩ : GRef), y180⟩ : GFrame) a181 c181 a182 c182 a183 c183) 40 :: L)) ?_ (fun hk_y203 => ?_)
  {
  rintro _ w H
  refine WL.fin 1 kr kr ?_
  refine WE.seq ?_
  refine WE.seq ?_
  refine WE.region ?_
  refine WL.fin 1 kr kr ?_
  refine WE.block ?_
  refine WE.loop (LP.live [0, 2, 9, 11, 12, 13, 14, 15, 16, 90, 91, 92, 93, 94, 97, 98, 99, 100, 101, 102, 103, 104, 105] kr (LP.rec (law09_FrameSafe_l3 K x2 y189 y197 (law09_FrameSafe_l2 K x0 x2 y44 k2)) (fun (⟨y221, y222⟩ : Bool × Int) (_ : Unit) => [(0, .slice (some ⟨b30, p30, none⟩) x0.length c1), (2, .slice (some ⟨b196, p196, none⟩) x2.length c2), (9, .pointer (some ⟨b43, 0, none⟩)), (11, .slice (some ⟨b194, p194, none⟩) y44.length c45), (12, .int .i64 y189), (13, .pointer (some ⟨b201, 0, none⟩)), (14, .int .i64 y197.2), (15, .bool y221), (16, .int .i64 y222), (90, .pointer (some ⟨b43, 1, none⟩)), (91, .int .i64 y174), (92, .slice (some ⟨b194, p194, none⟩) y44.length c45), (93, .int .i64 (y44.length : Int)), (94, .bool (decide (y174 ≥ (y44.length : Int)))), (97, .slice (some ⟨b194, p194, none⟩) y44.length c45), (98, .pointer (some ⟨b43, 1, none⟩)), (99, .int .i64 y174), (100, .pointer (some ⟨b194, p194 + y174.toNat * 1, none⟩)), (101, .int .i64 (gd y44 y174)), (102, .pointer (some ⟨b43, 2, none⟩)), (103, .slice a181 y181.length c181), (104, .int .i64 (y181.length : Int)), (105, .bool ((gd y44 y174) != (y181.length : Int)))]) (fun (⟨y221, y222⟩ : Bool × Int) (_ : Unit) => fun w => St w0 h197 w (var b201 (cGFrame y197.1 a198 c198 a199 c199 a200 c200) 40 :: row (Rep.int .i64) 8 h44 (some ⟨b194, p194, none⟩) c45 y44 :: var b43 (cGFrame (⟨y173, y174, y181, y182, y183, y184, y185, y186, y187, y188, (⟨y175, (⟨y176, y177⟩ : GValue)⟩ : GOut), (⟨y178, y179⟩ : GRef), y180⟩ : GFrame) a181 c181 a182 c182 a183 c183) 40 :: L)) r (fun _ => rfl) ?_ K (y203, 0) () _ H hr))
  rintro k3 ih3 ⟨y221, y222⟩ _ w H hr
  simp only [law09_FrameSafe_l3] at hr
  refine WE.seq ?_
  refine WE.seq ?_
  refine WE.region ?_
  refine WL.fin 3 kr kr ?_
  rcases ite_cases hr with ⟨t223, hr⟩ | ⟨t223, hr⟩
  {
  refine WE.yes kr (b := decide (y222 < y189)) kr t223 ?_
  refine WE.skip ?_
  refine WE.seq ?_
  refine WE.block ?_
  refine WE.region ?_
  refine WL.sg 2 kr ?_
  obtain ⟨y224, hy224, hr⟩ := bind_cases hr
  refine WL.join 7 (fun (_ : Unit) => [(0, .slice (some ⟨b30, p30, none⟩) x0.length c1), (2, .slice (some ⟨b196, p196, none⟩) x2.length c2), (9, .pointer (some ⟨b43, 0, none⟩)), (11, .slice (some ⟨b194, p194, none⟩) y44.length c45), (12, .int .i64 y189), (13, .pointer (some ⟨b201, 0, none⟩)), (14, .int .i64 y197.2), (16, .int .i64 y222), (90, .pointer (some ⟨b43, 1, none⟩)), (91, .int .i64 y174), (92, .slice (some ⟨b194, p194, none⟩) y44.length c45), (93, .int .i64 (y44.length : Int)), (94, .bool (decide (y174 ≥ (y44.length : Int)))), (97, .slice (some ⟨b194, p194, none⟩) y44.length c45), (98, .pointer (some ⟨b43, 1, none⟩)), (99, .int .i64 y174), (100, .pointer (some ⟨b194, p194 + y174.toNat * 1, none⟩)), (101, .int .i64 (gd y44 y174)), (102, .pointer (some ⟨b43, 2, none⟩)), (103, .slice a181 y181.length c181), (104, .int .i64 (y181.length : Int)), (105, .bool ((gd y44 y174) != (y181.length : Int))), (144, .bool y224)]) (fun (_ : Unit) w => St w0 h197 w (var b201 (cGFrame y197.1 a198 c198 a199 c199 a200 c200) 40 :: row (Rep.int .i64) 8 h44 (some ⟨b194, p194, none⟩) c45 y44 :: var b43 (cGFrame (⟨y173, y174, y181, y182, y183, y184, y185, y186, y187, y188, (⟨y175, (⟨y176, y177⟩ : GValue)⟩ : GOut), (⟨y178, y179⟩ : GRef), y180⟩ : GFrame) a181 c181 a182 c182 a183 c183) 40 :: L)) ?_ (fun hk_y224 => ?_)
  {
  rintro _ w H
  refine WL.sg 1 kr ?_
  obtain ⟨y226, hy226, hr⟩ := bind_cases hr
  refine WL.join 7 (fun (_ : Unit) => [(0, .slice (some ⟨b30, p30, none⟩) x0.length c1), (2, .slice (some ⟨b196, p196, none⟩) x2.length c2), (9, .pointer (some ⟨b43, 0, none⟩)), (11, .slice (some ⟨b194, p194, none⟩) y44.length c45), (12, .int .i64 y189), (13, .pointer (some ⟨b201, 0, none⟩)), (14, .int .i64 y197.2), (16, .int .i64 y222), (90, .pointer (some ⟨b43, 1, none⟩)), (91, .int .i64 y174), (92, .slice (some ⟨b194, p194, none⟩) y44.length c45), (93, .int .i64 (y44.length : Int)), (94, .bool (decide (y174 ≥ (y44.length : Int)))), (97, .slice (some ⟨b194, p194, none⟩) y44.length c45), (98, .pointer (some ⟨b43, 1, none⟩)), (99, .int .i64 y174), (100, .pointer (some ⟨b194, p194 + y174.toNat * 1, none⟩)), (101, .int .i64 (gd y44 y174)), (102, .pointer (some ⟨b43, 2, none⟩)), (103, .slice a181 y181.length c181), (104, .int .i64 (y181.length : Int)), (105, .bool ((gd y44 y174) != (y181.length : Int))), (152, .bool y226)]) (fun (_ : Unit) w => St w0 h197 w (var b201 (cGFrame y197.1 a198 c198 a199 c199 a200 c200) 40 :: row (Rep.int .i64) 8 h44 (some ⟨b194, p194, none⟩) c45 y44 :: var b43 (cGFrame (⟨y173, y174, y181, y182, y183, y184, y185, y186, y187, y188, (⟨y175, (⟨y176, y177⟩ : GValue)⟩ : GOut), (⟨y178, y179⟩ : GRef), y180⟩ : GFrame) a181 c181 a182 c182 a183 c183) 40 :: L)) ?_ (fun hk_y226 => ?_)
  {
  rintro _ w H
  refine WL.fin 1 kr kr ?_
  refine WE.region ?_
  refine WL.fin 3 kr kr ?_
  exact LP.live [0, 2, 9, 11, 12, 13, 14, 15, 16, 90, 91, 92, 93, 94, 97, 98, 99, 100, 101, 102, 103, 104, 105] kr (ih3 (y226, w64 (y222 + 1)) () _ H hr)
  }
  rcases ite_cases hy226 with ⟨ty226, hy226⟩ | ⟨ty226, hy226⟩
  {
  refine WL.known 145 ty226 kr kr ?_
  refine WL.sg 7 kr ?_
  obtain rfl := Option.some.inj hy226
  exact WL.live [0, 2, 9, 11, 12, 13, 14, 16, 90, 91, 92, 93, 94, 97, 98, 99, 100, 101, 102, 103, 104, 105, 152] kr (hk_y226 () _ H)
  }
  {
  refine WL.known 145 ty226 kr kr ?_
  obtain ⟨⟨g0_228, g1_228⟩, hy226⟩ := grd_cases hy226
  obtain ⟨C228, e228, fr228, cs228, hb228, hc228, rfl⟩ := (((((f2.up le36).up le37).up le44).up leh172).up le197).at2 g0_228 g1_228
  refine WL.sg 2 kr ?_
  refine WL.does kr kr (Does.tells (.idx b196 (p196) x2.length c2 y222 3 kr kr g0_228 g1_228 kr) ?_)
  refine WL.sg 1 kr ?_
  refine WL.does kr kr (Does.loadR H hb228 hc228 0 kr kr ?_)
  refine WL.sg 2 kr ?_
  obtain rfl := Option.some.inj hy226
  exact WL.live [0, 2, 9, 11, 12, 13, 14, 16, 90, 91, 92, 93, 94, 97, 98, 99, 100, 101, 102, 103, 104, 105, 152] kr (hk_y226 () _ H)
  }
  }
  rcases ite_cases hy224 with ⟨ty224, hy224⟩ | ⟨ty224, hy224⟩
  {
  refine WL.known 137 ty224 kr kr ?_
  refine WL.sg 7 kr ?_
  obtain rfl := Option.some.inj hy224
  exact WL.live [0, 2, 9, 11, 12, 13, 14, 16, 90, 91, 92, 93, 94, 97, 98, 99, 100, 101, 102, 103, 104, 105, 144] kr (hk_y224 () _ H)
  }
  {
  refine WL.known 137 ty224 kr kr ?_
  obtain ⟨⟨g0_229, g1_229⟩, hy224⟩ := grd_cases hy224
  obtain ⟨C229, e229, fr229, cs229, hb229, hc229, rfl⟩ := (((((f2.up le36).up le37).up le44).up leh172).up le197).at2 g0_229 g1_229
  refine WL.sg 2 kr ?_
  refine WL.does kr kr (Does.tells (.idx b196 (p196) x2.length c2 y222 3 kr kr g0_229 g1_229 kr) ?_)
  refine WL.sg 1 kr ?_
  refine WL.does kr kr (Does.loadR H hb229 hc229 0 kr kr ?_)
  refine WL.sg 2 kr ?_
  obtain rfl := Option.some.inj hy224
  exact WL.live [0, 2, 9, 11, 12, 13, 14, 16, 90, 91, 92, 93, 94, 97, 98, 99, 100, 101, 102, 103, 104, 105, 144] kr (hk_y224 () _ H)
  }
  }
  {
  refine WE.no kr (b := decide (y222 < y189)) kr t223 ?_
  refine WE.exit ?_
  refine WE.seq ?_
  refine WE.seq ?_
  refine WE.region ?_
  refine WL.sg 3 kr ?_
  obtain ⟨y230, hy230, hr⟩ := bnd_cases hr
  refine WL.join 3 (fun (_ : Unit) => [(0, .slice (some ⟨b30, p30, none⟩) x0.length c1), (2, .slice (some ⟨b196, p196, none⟩) x2.length c2), (9, .pointer (some ⟨b43, 0, none⟩)), (11, .slice (some ⟨b194, p194, none⟩) y44.length c45), (12, .int .i64 y189), (13, .pointer (some ⟨b201, 0, none⟩)), (14, .int .i64 y197.2), (15, .bool y221), (90, .pointer (some ⟨b43, 1, none⟩)), (91, .int .i64 y174), (92, .slice (some ⟨b194, p194, none⟩) y44.length c45), (93, .int .i64 (y44.length : Int)), (94, .bool (decide (y174 ≥ (y44.length : Int)))), (97, .slice (some ⟨b194, p194, none⟩) y44.length c45), (98, .pointer (some ⟨b43, 1, none⟩)), (99, .int .i64 y174), (100, .pointer (some ⟨b194, p194 + y174.toNat * 1, none⟩)), (101, .int .i64 (gd y44 y174)), (102, .pointer (some ⟨b43, 2, none⟩)), (103, .slice a181 y181.length c181), (104, .int .i64 (y181.length : Int)), (105, .bool ((gd y44 y174) != (y181.length : Int))), (158, .bool y230)]) (fun (_ : Unit) w => St w0 h197 w (var b201 (cGFrame y197.1 a198 c198 a199 c199 a200 c200) 40 :: row (Rep.int .i64) 8 h44 (some ⟨b194, p194, none⟩) c45 y44 :: var b43 (cGFrame (⟨y173, y174, y181, y182, y183, y184, y185, y186, y187, y188, (⟨y175, (⟨y176, y177⟩ : GValue)⟩ : GOut), (⟨y178, y179⟩ : GRef), y180⟩ : GFrame) a181 c181 a182 c182 a183 c183) 40 :: L)) ?_ (fun hk_y230 => ?_)
  {
  rintro _ w H
  refine WL.sg 1 kr ?_
  obtain ⟨y231, hy231, hr⟩ := bnd_cases hr
  refine WL.join 19 (fun (_ : Unit) => [(0, .slice (some ⟨b30, p30, none⟩) x0.length c1), (2, .slice (some ⟨b196, p196, none⟩) x2.length c2), (9, .pointer (some ⟨b43, 0, none⟩)), (11, .slice (some ⟨b194, p194, none⟩) y44.length c45), (12, .int .i64 y189), (13, .pointer (some ⟨b201, 0, none⟩)), (90, .pointer (some ⟨b43, 1, none⟩)), (91, .int .i64 y174), (92, .slice (some ⟨b194, p194, none⟩) y44.length c45), (93, .int .i64 (y44.length : Int)), (94, .bool (decide (y174 ≥ (y44.length : Int)))), (97, .slice (some ⟨b194, p194, none⟩) y44.length c45), (98, .pointer (some ⟨b43, 1, none⟩)), (99, .int .i64 y174), (100, .pointer (some ⟨b194, p194 + y174.toNat * 1, none⟩)), (101, .int .i64 (gd y44 y174)), (102, .pointer (some ⟨b43, 2, none⟩)), (103, .slice a181 y181.length c181), (104, .int .i64 (y181.length : Int)), (105, .bool ((gd y44 y174) != (y181.length : Int))), (178, .bool y231)]) (fun (_ : Unit) w => St w0 h197 w (var b201 (cGFrame y197.1 a198 c198 a199 c199 a200 c200) 40 :: row (Rep.int .i64) 8 h44 (some ⟨b194, p194, none⟩) c45 y44 :: var b43 (cGFrame (⟨y173, y174, y181, y182, y183, y184, y185, y186, y187, y188, (⟨y175, (⟨y176, y177⟩ : GValue)⟩ : GOut), (⟨y178, y179⟩ : GRef), y180⟩ : GFrame) a181 c181 a182 c182 a183 c183) 40 :: L)) ?_ (fun hk_y231 => ?_)
  {
  rintro _ w H
  refine WL.fin 0 kr kr ?_
  rcases ite_cases hr with ⟨t236, hr⟩ | ⟨t236, hr⟩
  {
  refine WE.yes kr (b := y231) kr t236 ?_
  refine WE.seq ?_
  refine WE.region ?_
  refine WL.fin 1 kr kr ?_
  obtain rfl := Option.some.inj hr
  exact WE.ret ⟨[.bool false], ⟨⟨kr, kr⟩, trivial⟩, ⟨rfl, ((H.keep 3).less ((((le36.trans le37).trans le44).trans leh172).trans le197))⟩⟩
  }
  {
  refine WE.no kr (b := y231) kr t236 ?_
  refine WE.skip ?_
  refine WE.region ?_
  refine WL.does kr kr (Does.loadV H 0 rfl 0 kr kr ?_)
  refine WL.does kr kr (Does.storeE H 2 (cGFrame y197.1 a198 c198 a199 c199 a200 c200) rfl (q := 0) kr kr kr fun w H => ?_)
  refine WL.fin 0 kr kr ?_
  refine WE.region ?_
  refine WL.fin 3 kr kr ?_
  exact LP.live [0, 2, 9, 11, 12] kr (ih2 (y197.1.Fn, y197.1.Pc, y197.1.Out.Trap, y197.1.Out.V.Re, y197.1.Out.V.Im, y197.1.Up.At, y197.1.Up.Gen, y197.1.UpSlot, y197.1.Stack, y197.1.Locals, y197.1.Slots, y197.1.Seed, y197.1.Spawned, y197.1.Draws, y197.1.State, y197.1.Wait, w64 (y189 + 1)) (h197, a198, c198, a199, c199, a200, c200) _ ⟨(leh172.trans le197), f198, f199, f200, (H.keep 1)⟩ hr)
  }
  }
  rcases ite_cases hy231 with ⟨ty231, hy231⟩ | ⟨ty231, hy231⟩
  {
  refine WL.known 159 ty231 kr kr ?_
  refine WL.sg 19 kr ?_
  obtain rfl := hy231
  exact WL.live [0, 2, 9, 11, 12, 13, 90, 91, 92, 93, 94, 97, 98, 99, 100, 101, 102, 103, 104, 105, 178] kr (hk_y231 () _ H)
  }
  {
  refine WL.known 159 ty231 kr kr ?_
  refine WL.sg 3 kr ?_
  obtain ⟨y237, hy237, hy231⟩ := bnd_cases hy231
  refine WL.join 3 (fun (_ : Unit) => [(0, .slice (some ⟨b30, p30, none⟩) x0.length c1), (2, .slice (some ⟨b196, p196, none⟩) x2.length c2), (9, .pointer (some ⟨b43, 0, none⟩)), (11, .slice (some ⟨b194, p194, none⟩) y44.length c45), (12, .int .i64 y189), (13, .pointer (some ⟨b201, 0, none⟩)), (90, .pointer (some ⟨b43, 1, none⟩)), (91, .int .i64 y174), (92, .slice (some ⟨b194, p194, none⟩) y44.length c45), (93, .int .i64 (y44.length : Int)), (94, .bool (decide (y174 ≥ (y44.length : Int)))), (97, .slice (some ⟨b194, p194, none⟩) y44.length c45), (98, .pointer (some ⟨b43, 1, none⟩)), (99, .int .i64 y174), (100, .pointer (some ⟨b194, p194 + y174.toNat * 1, none⟩)), (101, .int .i64 (gd y44 y174)), (102, .pointer (some ⟨b43, 2, none⟩)), (103, .slice a181 y181.length c181), (104, .int .i64 (y181.length : Int)), (105, .bool ((gd y44 y174) != (y181.length : Int))), (159, .bool false), (165, .bool y237)]) (fun (_ : Unit) w => St w0 h197 w (var b201 (cGFrame y197.1 a198 c198 a199 c199 a200 c200) 40 :: row (Rep.int .i64) 8 h44 (some ⟨b194, p194, none⟩) c45 y44 :: var b43 (cGFrame (⟨y173, y174, y181, y182, y183, y184, y185, y186, y187, y188, (⟨y175, (⟨y176, y177⟩ : GValue)⟩ : GOut), (⟨y178, y179⟩ : GRef), y180⟩ : GFrame) a181 c181 a182 c182 a183 c183) 40 :: L)) ?_ (fun hk_y237 => ?_)
  {
  rintro _ w H
  refine WL.sg 1 kr ?_
  obtain ⟨y238, hy238, hy231⟩ := bnd_cases hy231
  refine WL.join 11 (fun (_ : Unit) => [(0, .slice (some ⟨b30, p30, none⟩) x0.length c1), (2, .slice (some ⟨b196, p196, none⟩) x2.length c2), (9, .pointer (some ⟨b43, 0, none⟩)), (11, .slice (some ⟨b194, p194, none⟩) y44.length c45), (12, .int .i64 y189), (13, .pointer (some ⟨b201, 0, none⟩)), (90, .pointer (some ⟨b43, 1, none⟩)), (91, .int .i64 y174), (92, .slice (some ⟨b194, p194, none⟩) y44.length c45), (93, .int .i64 (y44.length : Int)), (94, .bool (decide (y174 ≥ (y44.length : Int)))), (97, .slice (some ⟨b194, p194, none⟩) y44.length c45), (98, .pointer (some ⟨b43, 1, none⟩)), (99, .int .i64 y174), (100, .pointer (some ⟨b194, p194 + y174.toNat * 1, none⟩)), (101, .int .i64 (gd y44 y174)), (102, .pointer (some ⟨b43, 2, none⟩)), (103, .slice a181 y181.length c181), (104, .int .i64 (y181.length : Int)), (105, .bool ((gd y44 y174) != (y181.length : Int))), (159, .bool false), (177, .bool y238)]) (fun (_ : Unit) w => St w0 h197 w (var b201 (cGFrame y197.1 a198 c198 a199 c199 a200 c200) 40 :: row (Rep.int .i64) 8 h44 (some ⟨b194, p194, none⟩) c45 y44 :: var b43 (cGFrame (⟨y173, y174, y181, y182, y183, y184, y185, y186, y187, y188, (⟨y175, (⟨y176, y177⟩ : GValue)⟩ : GOut), (⟨y178, y179⟩ : GRef), y180⟩ : GFrame) a181 c181 a182 c182 a183 c183) 40 :: L)) ?_ (fun hk_y238 => ?_)
  {
  rintro _ w H
  refine WL.sg 1 kr ?_
  obtain rfl := hy231
  exact WL.live [0, 2, 9, 11, 12, 13, 90, 91, 92, 93, 94, 97, 98, 99, 100, 101, 102, 103, 104, 105, 178] kr (hk_y231 () _ H)
  }
  rcases ite_cases hy238 with ⟨ty238, hy238⟩ | ⟨ty238, hy238⟩
  {
  refine WL.known 166 ty238 kr kr ?_
  refine WL.sg 2 kr ?_
  refine WL.does kr kr (Does.loadV H 0 rfl 10 kr kr ?_)
  refine WL.sg 2 kr ?_
  obtain ⟨y240, hy240, hy238⟩ := bnd_cases hy238
  refine WL.join 5 (fun (_ : Unit) => [(0, .slice (some ⟨b30, p30, none⟩) x0.length c1), (2, .slice (some ⟨b196, p196, none⟩) x2.length c2), (9, .pointer (some ⟨b43, 0, none⟩)), (11, .slice (some ⟨b194, p194, none⟩) y44.length c45), (12, .int .i64 y189), (13, .pointer (some ⟨b201, 0, none⟩)), (90, .pointer (some ⟨b43, 1, none⟩)), (91, .int .i64 y174), (92, .slice (some ⟨b194, p194, none⟩) y44.length c45), (93, .int .i64 (y44.length : Int)), (94, .bool (decide (y174 ≥ (y44.length : Int)))), (97, .slice (some ⟨b194, p194, none⟩) y44.length c45), (98, .pointer (some ⟨b43, 1, none⟩)), (99, .int .i64 y174), (100, .pointer (some ⟨b194, p194 + y174.toNat * 1, none⟩)), (101, .int .i64 (gd y44 y174)), (102, .pointer (some ⟨b43, 2, none⟩)), (103, .slice a181 y181.length c181), (104, .int .i64 (y181.length : Int)), (105, .bool ((gd y44 y174) != (y181.length : Int))), (159, .bool false), (166, .bool true), (176, .bool y240)]) (fun (_ : Unit) w => St w0 h197 w (var b201 (cGFrame y197.1 a198 c198 a199 c199 a200 c200) 40 :: row (Rep.int .i64) 8 h44 (some ⟨b194, p194, none⟩) c45 y44 :: var b43 (cGFrame (⟨y173, y174, y181, y182, y183, y184, y185, y186, y187, y188, (⟨y175, (⟨y176, y177⟩ : GValue)⟩ : GOut), (⟨y178, y179⟩ : GRef), y180⟩ : GFrame) a181 c181 a182 c182 a183 c183) 40 :: L)) ?_ (fun hk_y240 => ?_)
  {
  rintro _ w H
  refine WL.sg 1 kr ?_
  obtain rfl := hy238
  exact WL.live [0, 2, 9, 11, 12, 13, 90, 91, 92, 93, 94, 97, 98, 99, 100, 101, 102, 103, 104, 105, 159, 177] kr (hk_y238 () _ H)
  }
  rcases ite_cases hy240 with ⟨ty240, hy240⟩ | ⟨ty240, hy240⟩
  {
  refine WL.known 171 ty240 kr kr ?_
  refine WL.sg 5 kr ?_
  obtain rfl := hy240
  exact WL.live [0, 2, 9, 11, 12, 13, 90, 91, 92, 93, 94, 97, 98, 99, 100, 101, 102, 103, 104, 105, 159, 166, 176] kr (hk_y240 () _ H)
  }
  {
  refine WL.known 171 ty240 kr kr ?_
  refine WL.sg 2 kr ?_
  refine WL.does kr kr (Does.loadV H 0 rfl 10 kr kr ?_)
  refine WL.sg 2 kr ?_
  obtain rfl := hy240
  exact WL.live [0, 2, 9, 11, 12, 13, 90, 91, 92, 93, 94, 97, 98, 99, 100, 101, 102, 103, 104, 105, 159, 166, 176] kr (hk_y240 () _ H)
  }
  }
  {
  refine WL.known 166 ty238 kr kr ?_
  refine WL.sg 11 kr ?_
  obtain rfl := hy238
  exact WL.live [0, 2, 9, 11, 12, 13, 90, 91, 92, 93, 94, 97, 98, 99, 100, 101, 102, 103, 104, 105, 159, 177] kr (hk_y238 () _ H)
  }
  }
  rcases ite_cases hy237 with ⟨ty237, hy237⟩ | ⟨ty237, hy237⟩
  {
  refine WL.known 162 ty237 kr kr ?_
  refine WL.sg 3 kr ?_
  obtain rfl := hy237
  exact WL.live [0, 2, 9, 11, 12, 13, 90, 91, 92, 93, 94, 97, 98, 99, 100, 101, 102, 103, 104, 105, 159, 165] kr (hk_y237 () _ H)
  }
  {
  refine WL.known 162 ty237 kr kr ?_
  refine WL.sg 3 kr ?_
  obtain rfl := hy237
  exact WL.live [0, 2, 9, 11, 12, 13, 90, 91, 92, 93, 94, 97, 98, 99, 100, 101, 102, 103, 104, 105, 159, 165] kr (hk_y237 () _ H)
  }
  }
  }
  rcases ite_cases hy230 with ⟨ty230, hy230⟩ | ⟨ty230, hy230⟩
  {
  refine WL.known 155 ty230 kr kr ?_
  refine WL.sg 3 kr ?_
  obtain rfl := hy230
  exact WL.live [0, 2, 9, 11, 12, 13, 14, 15, 90, 91, 92, 93, 94, 97, 98, 99, 100, 101, 102, 103, 104, 105, 158] kr (hk_y230 () _ H)
  }
  {
  refine WL.known 155 ty230 kr kr ?_
  refine WL.sg 3 kr ?_
  obtain rfl := hy230
  exact WL.live [0, 2, 9, 11, 12, 13, 14, 15, 90, 91, 92, 93, 94, 97, 98, 99, 100, 101, 102, 103, 104, 105, 158] kr (hk_y230 () _ H)
  }
  }
  }
  rcases ite_cases hy203 with ⟨ty203, hy203⟩ | ⟨ty203, hy203⟩
  {
  refine WL.known 123 ty203 kr kr ?_
  refine WL.sg 7 kr ?_
  obtain rfl := Option.some.inj hy203
  exact WL.live [0, 2, 9, 11, 12, 13, 14, 90, 91, 92, 93, 94, 97, 98, 99, 100, 101, 102, 103, 104, 105, 130] kr (hk_y203 () _ H)
  }
  {
  refine WL.known 123 ty203 kr kr ?_
  obtain ⟨⟨g0_241, g1_241⟩, hy203⟩ := grd_cases hy203
  obtain ⟨C241, e241, fr241, cs241, hb241, hc241, rfl⟩ := (((((f2.up le36).up le37).up le44).up leh172).up le197).at2 g0_241 g1_241
  refine WL.sg 2 kr ?_
  refine WL.does kr kr (Does.tells (.idx b196 (p196) x2.length c2 y189 3 kr kr g0_241 g1_241 kr) ?_)
  refine WL.sg 1 kr ?_
  refine WL.does kr kr (Does.loadR H hb241 hc241 0 kr kr ?_)
  refine WL.sg 2 kr ?_
  obtain rfl := Option.some.inj hy203
  exact WL.live [0, 2, 9, 11, 12, 13, 14, 90, 91, 92, 93, 94, 97, 98, 99, 100, 101, 102, 103, 104, 105, 130] kr (hk_y203 () _ H)
  }
  }
  }
  }
  }
  }
  {
  refine WE.no kr (b := y190) kr t191 ?_
  refine WE.exit ?_
  refine WE.seq ?_
  refine WE.region ?_
  refine WL.fin 1 kr kr ?_
  obtain rfl := Option.some.inj hr
  exact WE.ret ⟨[.bool true], ⟨⟨kr, kr⟩, trivial⟩, ⟨rfl, ((H.keep 2).less (((le36.trans le37).trans le44).trans leh172))⟩⟩
  }
  }
  rcases ite_cases hy190 with ⟨ty190, hy190⟩ | ⟨ty190, hy190⟩
  {
  refine WL.known 79 ty190 kr kr ?_
  refine WL.sg 1 kr ?_
  refine WL.does kr kr (Does.loadV H 1 rfl 8 kr kr ?_)
  refine WL.sg 2 kr ?_
  obtain rfl := hy190
  exact WL.live [0, 2, 9, 11, 12, 83] kr (hk_y190 () _ H)
  }
  {
  refine WL.known 79 ty190 kr kr ?_
  refine WL.sg 4 kr ?_
  obtain rfl := hy190
  exact WL.live [0, 2, 9, 11, 12, 83] kr (hk_y190 () _ H)
  }
  }
  }
  }
  rcases ite_cases hy32 with ⟨ty32, hy32⟩ | ⟨ty32, hy32⟩
  {
  refine WL.known 53 ty32 kr kr ?_
  refine WL.sg 3 kr ?_
  obtain rfl := hy32
  exact WL.live [0, 1, 2, 7, 8, 56] kr (hk_y32 () _ H)
  }
  {
  refine WL.known 53 ty32 kr kr ?_
  refine WL.sg 3 kr ?_
  obtain rfl := hy32
  exact WL.live [0, 1, 2, 7, 8, 56] kr (hk_y32 () _ H)
  }
  }
  }
  rcases ite_cases hy10 with ⟨ty10, hy10⟩ | ⟨ty10, hy10⟩
  {
  refine WL.known 39 ty10 kr kr ?_
  refine WL.sg 4 kr ?_
  obtain rfl := hy10
  exact WL.live [0, 1, 2, 43] kr (hk_y10 () _ H)
  }
  {
  refine WL.known 39 ty10 kr kr ?_
  refine WL.sg 4 kr ?_
  obtain rfl := hy10
  exact WL.live [0, 1, 2, 43] kr (hk_y10 () _ H)
  }
  }
  rcases ite_cases hy9 with ⟨ty9, hy9⟩ | ⟨ty9, hy9⟩
  {
  refine WL.known 33 ty9 kr kr ?_
  refine WL.sg 5 kr ?_
  obtain rfl := hy9
  exact WL.live [0, 1, 2, 38] kr (hk_y9 () _ H)
  }
  {
  refine WL.known 33 ty9 kr kr ?_
  refine WL.sg 5 kr ?_
  obtain rfl := hy9
  exact WL.live [0, 1, 2, 38] kr (hk_y9 () _ H)
  }
  }
  rcases ite_cases hy8 with ⟨ty8, hy8⟩ | ⟨ty8, hy8⟩
  {
  refine WL.known 29 ty8 kr kr ?_
  refine WL.sg 3 kr ?_
  obtain rfl := hy8
  exact WL.live [0, 1, 2, 32] kr (hk_y8 () _ H)
  }
  {
  refine WL.known 29 ty8 kr kr ?_
  refine WL.sg 3 kr ?_
  obtain rfl := hy8
  exact WL.live [0, 1, 2, 32] kr (hk_y8 () _ H)
  }
  }
  rcases ite_cases hy6 with ⟨ty6, hy6⟩ | ⟨ty6, hy6⟩
  {
  refine WL.known 24 ty6 kr kr ?_
  refine WL.sg 4 kr ?_
  obtain rfl := Option.some.inj hy6
  exact WL.live [0, 1, 2, 28] kr (hk_y6 () _ H)
  }
  {
  refine WL.known 24 ty6 kr kr ?_
  obtain ⟨y244, q244, hy6⟩ := bind_cases hy6
  refine WL.sg 1 kr ?_
  refine WL.does kr kr (Does.call (c_r08_Good K x0 f1 H q244) kr ?_)
  rintro _ w ⟨rfl, H⟩
  refine WL.sg 2 kr ?_
  obtain rfl := Option.some.inj hy6
  exact WL.live [0, 1, 2, 28] kr (hk_y6 () _ H)
  }
  }
  rcases ite_cases hy4 with ⟨ty4, hy4⟩ | ⟨ty4, hy4⟩
  {
  refine WL.known 19 ty4 kr kr ?_
  refine WL.sg 4 kr ?_
  obtain rfl := Option.some.inj hy4
  exact WL.live [0, 1, 2, 23] kr (hk_y4 () _ H)
  }
  {
  refine WL.known 19 ty4 kr kr ?_
  obtain ⟨y245, q245, hy4⟩ := bind_cases hy4
  refine WL.sg 1 kr ?_
  refine WL.does kr kr (Does.call (c_r07_Small K x0 f1 300 H q245) kr ?_)
  rintro _ w ⟨rfl, H⟩
  refine WL.sg 2 kr ?_
  obtain rfl := Option.some.inj hy4
  exact WL.live [0, 1, 2, 23] kr (hk_y4 () _ H)
  }
end Go.Proofs.Ytcoepljalekglaa.FrameSafe.W
