/- The walk of FrameTells and of what it calls, part 3: printed by a program of this work. -/
import Derived.Test.YtcoepljalekglaaGreatFrameTellsW2
set_option linter.unusedVariables false
set_option linter.unusedSimpArgs false
namespace Go.Proofs.YtcoepljalekglaaGreat.FrameTells.W
open Go.Proofs.YtcoepljalekglaaGreat.G2 Go.Proofs
attribute [local irreducible] WE WL LP WD Does Tells
def law09_fixed (K : Nat) : Option Bool :=
  (law09_of K (⟨#[102, 117, 110, 99, 32, 49, 32, 49, 32, 50, 10, 108, 111, 97, 100, 32, 48, 10, 115, 112, 97, 119, 110, 32, 48, 32, 49, 10, 106, 111, 105, 110, 32, 49, 10, 106, 111, 105, 110, 32, 49, 10, 114, 101, 116, 10]⟩ : ByteArray)).bind fun y1 =>
  (frame_New K y1 0 [(⟨5, 0⟩ : GValue)] 9).bind fun y5 =>
  bnd (
      if !y5.2 then
        true
      else
        (y5.1.Locals.length : Int) != 1) fun y12 =>
  bnd (
      if y12 then
        true
      else
        (y5.1.Slots.length : Int) != 2) fun y13 =>
  if y13 then
    some false
  else
    (frame_Do K y1 y5.1).bind fun y17 =>
    (frame_Do K y1 y17.1).bind fun y23 =>
    (frame_Do K y1 y23.1).bind fun y29 =>
    (frame_Give y29.1 0 (⟨0, (⟨0, 0⟩ : GValue)⟩ : GOut)).bind fun y35 =>
    (frame_Give y29.1 1 (⟨0, (⟨0, 7⟩ : GValue)⟩ : GOut)).bind fun y40 =>
    (frame_Do K y1 y40.1).bind fun y45 =>
    bnd (
        if (y45.1.Stack.length : Int) != 1 then
          true
        else
          (y23.2.Args.length : Int) != 1) fun y51 =>
    if y51 then
      some false
    else
      (frame_Do K y1 y45.1).bind fun y53 =>
      (frame_Final K y53.1).bind fun y60 =>
      (frame_Final K y29.1).bind fun y62 =>
      (frame_New K y1 0 [] 9).bind fun y64 =>
      bnd (
          if y17.2.Kind == 1 then
            y23.2.Kind == 2
          else
            false) fun y71 =>
      bnd (
          if y71 then
            y23.2.Fn == 0
          else
            false) fun y72 =>
      bnd (
          if y72 then
            y23.2.Slot == 1
          else
            false) fun y73 =>
      (
          if y73 then
            if 0 ≤ (0 : Int) ∧ (0 : Int) < y23.2.Args.length then
              some ((((gd y23.2.Args (0 : Int)).Re) == 5) && ((((gd y23.2.Args (0 : Int)).Im) == 0) && true))
            else none
          else
            some false).bind fun y74 =>
      bnd (
          if y74 then
            y29.1.Spawned == 1
          else
            false) fun y76 =>
      bnd (
          if y76 then
            y29.2.Kind == 3
          else
            false) fun y77 =>
      bnd (
          if y77 then
            y29.1.State == 1
          else
            false) fun y78 =>
      bnd (
          if y78 then
            y29.1.Wait == 1
          else
            false) fun y79 =>
      bnd (
          if y79 then
            !y35.2
          else
            false) fun y80 =>
      (
          if y80 then
            (frame_Same K y29.1 y35.1).bind fun y96 =>
            some y96
          else
            some false).bind fun y81 =>
      bnd (
          if y81 then
            y40.2
          else
            false) fun y83 =>
      bnd (
          if y83 then
            y45.2.Kind == 1
          else
            false) fun y84 =>
      (
          if y84 then
            if 0 ≤ (0 : Int) ∧ (0 : Int) < y45.1.Stack.length then
              some ((((gd y45.1.Stack (0 : Int)).Re) == 0) && ((((gd y45.1.Stack (0 : Int)).Im) == 7) && true))
            else none
          else
            some false).bind fun y85 =>
      bnd (
          if y85 then
            y53.2.Kind == 4
          else
            false) fun y87 =>
      bnd (
          if y87 then
            y60.2
          else
            false) fun y88 =>
      bnd (
          if y88 then
            y60.1.Trap == 2
          else
            false) fun y89 =>
      bnd (
          if y89 then
            !y62.2
          else
            false) fun y90 =>
      bnd (
          if y90 then
            !y64.2
          else
            false) fun y91 =>
      (
          if y91 then
            (frame_Same K y29.1 y45.1).bind fun y94 =>
            some (!y94)
          else
            some false).bind fun y92 =>
      some y92
set_option maxRecDepth 100000 in
set_option maxHeartbeats 4000000 in
theorem c_law09_fixed {w0 w : World} {h : Gh} {L : List Ent} (K : Nat) (H : St w0 h w L) {r : Bool} (hr : law09_fixed K = some r) : Calls Tryz.prog 6 #[] w (fun e w' => ∃ v, e = .returned v ∧ v = .bool r ∧ St w0 h w' (L)) := by
  refine calls_of (args := []) (n := 208) (rs := [.tmp 0]) Tryz.func6 rfl rfl rfl rfl rfl ?_
  unfold law09_fixed at hr
  refine WE.seq ?_
  refine WE.region ?_
  refine WL.fin 1 kr kr ?_
  refine WE.seq ?_
  refine WE.region ?_
  obtain ⟨y1, q1, hr⟩ := bind_cases hr
  refine WL.does kr kr (Does.call (c_law09_of K (⟨#[102, 117, 110, 99, 32, 49, 32, 49, 32, 50, 10, 108, 111, 97, 100, 32, 48, 10, 115, 112, 97, 119, 110, 32, 48, 32, 49, 10, 106, 111, 105, 110, 32, 49, 10, 106, 111, 105, 110, 32, 49, 10, 114, 101, 116, 10]⟩ : ByteArray) H q1) kr ?_)
  rintro _ w ⟨h1, a2, c2, rfl, le1, f2, H⟩
  refine WL.fin 1 kr kr ?_
  refine WE.seq ?_
  refine WE.region ?_
  refine WL.sg 2 kr ?_
  refine WL.does kr kr (Does.lit (K := rGValue) (B := 16) (xs := [(⟨5, 0⟩ : GValue)]) (e := 27) H ([.int .i64 5, .int .i64 0] ++ []) kr (Rows.cons (C := [.int .i64 5, .int .i64 0]) (x := (⟨5, 0⟩ : GValue)) (by show _ = _; kernel_rfl) Rows.nil) kr kr kr kr fun b3 w H => ?_)
  obtain ⟨y5, q5, hr⟩ := bind_cases hr
  obtain ⟨h4, le4, f4, H⟩ := (H).rowFreeze (Gh.refl _)
  refine WL.does kr kr (Does.call (c_frame_New K y1 (f2.up le4) 0 [(⟨5, 0⟩ : GValue)] f4 9 H q5) kr ?_)
  rintro _ w ⟨h5, a6, c6, a7, c7, a8, c8, rfl, le5, f6, H⟩
  refine WL.sg 3 kr ?_
  refine WL.does kr kr (Does.alloc H (cGFrame (⟨0, 0, [], [], [], 0, 0, 0, 0, 0, (⟨0, (⟨0, 0⟩ : GValue)⟩ : GOut), (⟨0, 0⟩ : GRef), 0⟩ : GFrame) none 0 none 0 none 0) kr fun b11 w H => ?_)
  refine WL.does kr kr (Does.storeE H 0 (cGFrame y5.1 a6 c6 a7 c7 a8 c8) rfl (q := 0) kr kr kr fun w H => ?_)
  refine WL.fin 1 kr kr ?_
  refine WE.seq ?_
  refine WE.seq ?_
  refine WE.region ?_
  refine WL.sg 3 kr ?_
  obtain ⟨y12, hy12, hr⟩ := bnd_cases hr
  refine WL.join 5 (fun (_ : Unit) => [(1, .slice a2 y1.length c2), (2, .pointer (some ⟨b11, 0, none⟩)), (35, .bool y12)]) (fun (_ : Unit) w => St w0 h5 w (var b11 (cGFrame y5.1 a6 c6 a7 c7 a8 c8) 33 :: row rGValue 16 h5 a7 c7 y5.1.Locals :: row rGSlot 48 h5 a8 c8 y5.1.Slots :: L)) ?_ (fun hk_y12 => ?_)
  {
  rintro _ w H
  refine WL.sg 1 kr ?_
  obtain ⟨y13, hy13, hr⟩ := bnd_cases hr
  refine WL.join 5 (fun (_ : Unit) => [(1, .slice a2 y1.length c2), (2, .pointer (some ⟨b11, 0, none⟩)), (41, .bool y13)]) (fun (_ : Unit) w => St w0 h5 w (var b11 (cGFrame y5.1 a6 c6 a7 c7 a8 c8) 33 :: row rGValue 16 h5 a7 c7 y5.1.Locals :: row rGSlot 48 h5 a8 c8 y5.1.Slots :: L)) ?_ (fun hk_y13 => ?_)
  {
  rintro _ w H
  refine WL.fin 0 kr kr ?_
  rcases ite_cases hr with ⟨t14, hr⟩ | ⟨t14, hr⟩
  {
  refine WE.yes kr (b := y13) kr t14 ?_
  refine WE.seq ?_
  refine WE.region ?_
  refine WL.fin 1 kr kr ?_
  obtain rfl := Option.some.inj hr
  exact WE.ret ⟨[.bool false], ⟨⟨kr, kr⟩, trivial⟩, ⟨rfl, ((H.keep 3).less ((le1.trans le4).trans le5))⟩⟩
  }
  {
  refine WE.no kr (b := y13) kr t14 ?_
  refine WE.skip ?_
  refine WE.seq ?_
  refine WE.region ?_
  refine WL.sg 1 kr ?_
  refine WL.does kr kr (Does.loadV H 0 rfl 0 kr kr ?_)
  obtain ⟨y17, q17, hr⟩ := bind_cases hr
  obtain ⟨h15, le15, f15, H⟩ := (H.front 1 rfl).rowFreeze (Gh.refl _)
  obtain ⟨h16, le16, f16, H⟩ := (H.front 1 rfl).rowFreeze le15
  refine WL.does kr kr (Does.call (c_frame_Do K y1 ((((f2.up le4).up le5).up le15).up le16) y5.1 ((f6.up le15).up le16) (f15.up le16) f16 H q17) kr ?_)
  rintro _ w ⟨h17, a18, c18, a19, c19, a20, c20, a21, c21, rfl, le17, f18, f19, f20, f21, H⟩
  refine WL.sg 3 kr ?_
  refine WL.does kr kr (Does.alloc H (cGAct (⟨0, 0, 0, 0, []⟩ : GAct) none 0) kr fun b22 w H => ?_)
  refine WL.does kr kr (Does.storeE H 1 (cGFrame y17.1 a18 c18 a19 c19 a20 c20) rfl (q := 0) kr kr kr fun w H => ?_)
  refine WL.does kr kr (Does.storeE H 0 (cGAct y17.2 a21 c21) rfl (q := 0) kr kr kr fun w H => ?_)
  refine WL.fin 0 kr kr ?_
  refine WE.seq ?_
  refine WE.region ?_
  refine WL.sg 1 kr ?_
  refine WL.does kr kr (Does.loadV H 1 rfl 0 kr kr ?_)
  obtain ⟨y23, q23, hr⟩ := bind_cases hr
  refine WL.does kr kr (Does.call (c_frame_Do K y1 (((((f2.up le4).up le5).up le15).up le16).up le17) y17.1 f18 f19 f20 H q23) kr ?_)
  rintro _ w ⟨h23, a24, c24, a25, c25, a26, c26, a27, c27, rfl, le23, f24, f25, f26, f27, H⟩
  refine WL.sg 3 kr ?_
  refine WL.does kr kr (Does.alloc H (cGAct (⟨0, 0, 0, 0, []⟩ : GAct) none 0) kr fun b28 w H => ?_)
  refine WL.does kr kr (Does.storeE H 2 (cGFrame y23.1 a24 c24 a25 c25 a26 c26) rfl (q := 0) kr kr kr fun w H => ?_)
  refine WL.does kr kr (Does.storeE H 0 (cGAct y23.2 a27 c27) rfl (q := 0) kr kr kr fun w H => ?_)
  refine WL.fin 0 kr kr ?_
  refine WE.seq ?_
  refine WE.region ?_
  refine WL.sg 1 kr ?_
  refine WL.does kr kr (Does.loadV H 2 rfl 0 kr kr ?_)
  obtain ⟨y29, q29, hr⟩ := bind_cases hr
  refine WL.does kr kr (Does.call (c_frame_Do K y1 ((((((f2.up le4).up le5).up le15).up le16).up le17).up le23) y23.1 f24 f25 f26 H q29) kr ?_)
  rintro _ w ⟨h29, a30, c30, a31, c31, a32, c32, a33, c33, rfl, le29, f30, f31, f32, f33, H⟩
  refine WL.sg 3 kr ?_
  refine WL.does kr kr (Does.alloc H (cGAct (⟨0, 0, 0, 0, []⟩ : GAct) none 0) kr fun b34 w H => ?_)
  refine WL.does kr kr (Does.storeE H 3 (cGFrame y29.1 a30 c30 a31 c31 a32 c32) rfl (q := 0) kr kr kr fun w H => ?_)
  refine WL.does kr kr (Does.storeE H 0 (cGAct y29.2 a33 c33) rfl (q := 0) kr kr kr fun w H => ?_)
  refine WL.fin 0 kr kr ?_
  refine WE.seq ?_
  refine WE.region ?_
  refine WL.does kr kr (Does.loadV H 3 rfl 0 kr kr ?_)
  obtain ⟨y35, q35, hr⟩ := bind_cases hr
  refine WL.sg 1 kr ?_
  refine WL.does kr kr (Does.call (c_frame_Give y29.1 f30 f31 f32 0 (⟨0, (⟨0, 0⟩ : GValue)⟩ : GOut) H q35) kr ?_)
  rintro _ w ⟨h35, a36, c36, a37, c37, a38, c38, rfl, le35, f36, f37, f38, H⟩
  refine WL.sg 3 kr ?_
  refine WL.does kr kr (Does.alloc H (cGFrame (⟨0, 0, [], [], [], 0, 0, 0, 0, 0, (⟨0, (⟨0, 0⟩ : GValue)⟩ : GOut), (⟨0, 0⟩ : GRef), 0⟩ : GFrame) none 0 none 0 none 0) kr fun b39 w H => ?_)
  refine WL.does kr kr (Does.storeE H 0 (cGFrame y35.1 a36 c36 a37 c37 a38 c38) rfl (q := 0) kr kr kr fun w H => ?_)
  refine WL.fin 1 kr kr ?_
  refine WE.seq ?_
  refine WE.region ?_
  refine WL.does kr kr (Does.loadV H 4 rfl 0 kr kr ?_)
  obtain ⟨y40, q40, hr⟩ := bind_cases hr
  refine WL.sg 2 kr ?_
  refine WL.does kr kr (Does.call (c_frame_Give y29.1 (f30.up le35) (f31.up le35) (f32.up le35) 1 (⟨0, (⟨0, 7⟩ : GValue)⟩ : GOut) H q40) kr ?_)
  rintro _ w ⟨h40, a41, c41, a42, c42, a43, c43, rfl, le40, f41, f42, f43, H⟩
  refine WL.sg 3 kr ?_
  refine WL.does kr kr (Does.alloc H (cGFrame (⟨0, 0, [], [], [], 0, 0, 0, 0, 0, (⟨0, (⟨0, 0⟩ : GValue)⟩ : GOut), (⟨0, 0⟩ : GRef), 0⟩ : GFrame) none 0 none 0 none 0) kr fun b44 w H => ?_)
  refine WL.does kr kr (Does.storeE H 0 (cGFrame y40.1 a41 c41 a42 c42 a43 c43) rfl (q := 0) kr kr kr fun w H => ?_)
  refine WL.fin 1 kr kr ?_
  refine WE.seq ?_
  refine WE.region ?_
  refine WL.sg 1 kr ?_
  refine WL.does kr kr (Does.loadV H 0 rfl 0 kr kr ?_)
  obtain ⟨y45, q45, hr⟩ := bind_cases hr
  refine WL.does kr kr (Does.call (c_frame_Do K y1 (((((((((f2.up le4).up le5).up le15).up le16).up le17).up le23).up le29).up le35).up le40) y40.1 f41 f42 f43 H q45) kr ?_)
  rintro _ w ⟨h45, a46, c46, a47, c47, a48, c48, a49, c49, rfl, le45, f46, f47, f48, f49, H⟩
  refine WL.sg 3 kr ?_
  refine WL.does kr kr (Does.alloc H (cGAct (⟨0, 0, 0, 0, []⟩ : GAct) none 0) kr fun b50 w H => ?_)
  refine WL.does kr kr (Does.storeE H 1 (cGFrame y45.1 a46 c46 a47 c47 a48 c48) rfl (q := 0) kr kr kr fun w H => ?_)
  refine WL.does kr kr (Does.storeE H 0 (cGAct y45.2 a49 c49) rfl (q := 0) kr kr kr fun w H => ?_)
  refine WL.fin 0 kr kr ?_
  refine WE.seq ?_
  refine WE.seq ?_
  refine WE.region ?_
  refine WL.sg 1 kr ?_
  refine WL.does kr kr (Does.loadV H 1 rfl 2 kr kr ?_)
  refine WL.sg 3 kr ?_
  obtain ⟨y51, hy51, hr⟩ := bnd_cases hr
  refine WL.join 5 (fun (_ : Unit) => [(1, .slice a2 y1.length c2), (2, .pointer (some ⟨b11, 0, none⟩)), (4, .pointer (some ⟨b22, 0, none⟩)), (5, .pointer (some ⟨b28, 0, none⟩)), (6, .pointer (some ⟨b34, 0, none⟩)), (7, .pointer (some ⟨b39, 0, none⟩)), (8, .bool y35.2), (9, .pointer (some ⟨b44, 0, none⟩)), (10, .bool y40.2), (11, .pointer (some ⟨b50, 0, none⟩)), (88, .bool y51)]) (fun (_ : Unit) w => St w0 h45 w (var b50 (cGAct y45.2 a49 c49) 40 :: var b44 (cGFrame y45.1 a46 c46 a47 c47 a48 c48) 33 :: var b39 (cGFrame y35.1 a36 c36 a37 c37 a38 c38) 33 :: var b34 (cGAct y29.2 a33 c33) 40 :: var b28 (cGAct y23.2 a27 c27) 40 :: var b22 (cGAct y17.2 a21 c21) 40 :: var b11 (cGFrame y29.1 a30 c30 a31 c31 a32 c32) 33 :: L)) ?_ (fun hk_y51 => ?_)
  {
  rintro _ w H
  refine WL.fin 0 kr kr ?_
  rcases ite_cases hr with ⟨t52, hr⟩ | ⟨t52, hr⟩
  {
  refine WE.yes kr (b := y51) kr t52 ?_
  refine WE.seq ?_
  refine WE.region ?_
  refine WL.fin 1 kr kr ?_
  obtain rfl := Option.some.inj hr
  exact WE.ret ⟨[.bool false], ⟨⟨kr, kr⟩, trivial⟩, ⟨rfl, ((H.keep 7).less ((((((((((le1.trans le4).trans le5).trans le15).trans le16).trans le17).trans le23).trans le29).trans le35).trans le40).trans le45))⟩⟩
  }
  {
  refine WE.no kr (b := y51) kr t52 ?_
  refine WE.skip ?_
  refine WE.seq ?_
  refine WE.region ?_
  refine WL.sg 1 kr ?_
  refine WL.does kr kr (Does.loadV H 1 rfl 0 kr kr ?_)
  obtain ⟨y53, q53, hr⟩ := bind_cases hr
  refine WL.does kr kr (Does.call (c_frame_Do K y1 ((((((((((f2.up le4).up le5).up le15).up le16).up le17).up le23).up le29).up le35).up le40).up le45) y45.1 f46 f47 f48 H q53) kr ?_)
  rintro _ w ⟨h53, a54, c54, a55, c55, a56, c56, a57, c57, rfl, le53, f54, f55, f56, f57, H⟩
  refine WL.sg 3 kr ?_
  refine WL.does kr kr (Does.alloc H (cGFrame (⟨0, 0, [], [], [], 0, 0, 0, 0, 0, (⟨0, (⟨0, 0⟩ : GValue)⟩ : GOut), (⟨0, 0⟩ : GRef), 0⟩ : GFrame) none 0 none 0 none 0) kr fun b58 w H => ?_)
  refine WL.does kr kr (Does.alloc H (cGAct (⟨0, 0, 0, 0, []⟩ : GAct) none 0) kr fun b59 w H => ?_)
  refine WL.does kr kr (Does.storeE H 1 (cGFrame y53.1 a54 c54 a55 c55 a56 c56) rfl (q := 0) kr kr kr fun w H => ?_)
  refine WL.does kr kr (Does.storeE H 0 (cGAct y53.2 a57 c57) rfl (q := 0) kr kr kr fun w H => ?_)
  refine WL.fin 0 kr kr ?_
  refine WE.seq ?_
  refine WE.region ?_
  refine WL.does kr kr (Does.loadV H 1 rfl 0 kr kr ?_)
  obtain ⟨y60, q60, hr⟩ := bind_cases hr
  refine WL.does kr kr (Does.call (c_frame_Final K y53.1 f54 f55 f56 H q60) kr ?_)
  rintro _ w ⟨rfl, H⟩
  refine WL.sg 3 kr ?_
  refine WL.does kr kr (Does.alloc H [.int .i64 0, .int .i64 0, .int .i64 0] kr fun b61 w H => ?_)
  refine WL.does kr kr (Does.storeE H 0 [.int .i64 y60.1.Trap, .int .i64 y60.1.V.Re, .int .i64 y60.1.V.Im] rfl (q := 0) kr kr kr fun w H => ?_)
  refine WL.fin 1 kr kr ?_
  refine WE.seq ?_
  refine WE.region ?_
  refine WL.does kr kr (Does.loadV H 9 rfl 0 kr kr ?_)
  obtain ⟨y62, q62, hr⟩ := bind_cases hr
  refine WL.does kr kr (Does.call (c_frame_Final K y29.1 ((((f30.up le35).up le40).up le45).up le53) ((((f31.up le35).up le40).up le45).up le53) ((((f32.up le35).up le40).up le45).up le53) H q62) kr ?_)
  rintro _ w ⟨rfl, H⟩
  refine WL.sg 3 kr ?_
  refine WL.does kr kr (Does.alloc H [.int .i64 0, .int .i64 0, .int .i64 0] kr fun b63 w H => ?_)
  refine WL.does kr kr (Does.storeE H 0 [.int .i64 y62.1.Trap, .int .i64 y62.1.V.Re, .int .i64 y62.1.V.Im] rfl (q := 0) kr kr kr fun w H => ?_)
  refine WL.fin 1 kr kr ?_
  refine WE.seq ?_
  refine WE.region ?_
  obtain ⟨y64, q64, hr⟩ := bind_cases hr
  refine WL.sg 1 kr ?_
  refine WL.does kr kr (Does.call (c_frame_New K y1 (((((((((((f2.up le4).up le5).up le15).up le16).up le17).up le23).up le29).up le35).up le40).up le45).up le53) 0 [] (Sl.nil none 0 (Nat.zero_le _)) 9 H q64) kr ?_)
  rintro _ w ⟨h64, a65, c65, a66, c66, a67, c67, rfl, le64, f65, H⟩
  refine WL.sg 3 kr ?_
  refine WL.does kr kr (Does.alloc H (cGFrame (⟨0, 0, [], [], [], 0, 0, 0, 0, 0, (⟨0, (⟨0, 0⟩ : GValue)⟩ : GOut), (⟨0, 0⟩ : GRef), 0⟩ : GFrame) none 0 none 0 none 0) kr fun b70 w H => ?_)
  refine WL.does kr kr (Does.storeE H 0 (cGFrame y64.1 a65 c65 a66 c66 a67 c67) rfl (q := 0) kr kr kr fun w H => ?_)
  refine WL.fin 1 kr kr ?_
  refine WE.seq ?_
  refine WE.region ?_
  refine WL.sg 1 kr ?_
  refine WL.does kr kr (Does.loadV H 12 rfl 0 kr kr ?_)
  refine WL.sg 2 kr ?_
  obtain ⟨y71, hy71, hr⟩ := bnd_cases hr
  refine WL.join 4 (fun (_ : Unit) => [(2, .pointer (some ⟨b11, 0, none⟩)), (5, .pointer (some ⟨b28, 0, none⟩)), (6, .pointer (some ⟨b34, 0, none⟩)), (7, .pointer (some ⟨b39, 0, none⟩)), (8, .bool y35.2), (9, .pointer (some ⟨b44, 0, none⟩)), (10, .bool y40.2), (11, .pointer (some ⟨b50, 0, none⟩)), (13, .pointer (some ⟨b59, 0, none⟩)), (14, .pointer (some ⟨b61, 0, none⟩)), (15, .bool y60.2), (17, .bool y62.2), (19, .bool y64.2), (117, .bool y71)]) (fun (_ : Unit) w => St w0 h64 w (var b70 (cGFrame y64.1 a65 c65 a66 c66 a67 c67) 33 :: row rGValue 16 h64 a66 c66 y64.1.Locals :: row rGSlot 48 h64 a67 c67 y64.1.Slots :: var b63 [.int .i64 y62.1.Trap, .int .i64 y62.1.V.Re, .int .i64 y62.1.V.Im] 29 :: var b61 [.int .i64 y60.1.Trap, .int .i64 y60.1.V.Re, .int .i64 y60.1.V.Im] 29 :: var b59 (cGAct y53.2 a57 c57) 40 :: var b58 (cGFrame y53.1 a54 c54 a55 c55 a56 c56) 33 :: var b50 (cGAct y45.2 a49 c49) 40 :: var b44 (cGFrame y45.1 a46 c46 a47 c47 a48 c48) 33 :: var b39 (cGFrame y35.1 a36 c36 a37 c37 a38 c38) 33 :: var b34 (cGAct y29.2 a33 c33) 40 :: var b28 (cGAct y23.2 a27 c27) 40 :: var b22 (cGAct y17.2 a21 c21) 40 :: var b11 (cGFrame y29.1 a30 c30 a31 c31 a32 c32) 33 :: L)) ?_ (fun hk_y71 => ?_)
  {
  rintro _ w H
  refine WL.sg 1 kr ?_
  obtain ⟨y72, hy72, hr⟩ := bnd_cases hr
  refine WL.join 4 (fun (_ : Unit) => [(2, .pointer (some ⟨b11, 0, none⟩)), (5, .pointer (some ⟨b28, 0, none⟩)), (6, .pointer (some ⟨b34, 0, none⟩)), (7, .pointer (some ⟨b39, 0, none⟩)), (8, .bool y35.2), (9, .pointer (some ⟨b44, 0, none⟩)), (10, .bool y40.2), (11, .pointer (some ⟨b50, 0, none⟩)), (13, .pointer (some ⟨b59, 0, none⟩)), (14, .pointer (some ⟨b61, 0, none⟩)), (15, .bool y60.2), (17, .bool y62.2), (19, .bool y64.2), (122, .bool y72)]) (fun (_ : Unit) w => St w0 h64 w (var b70 (cGFrame y64.1 a65 c65 a66 c66 a67 c67) 33 :: row rGValue 16 h64 a66 c66 y64.1.Locals :: row rGSlot 48 h64 a67 c67 y64.1.Slots :: var b63 [.int .i64 y62.1.Trap, .int .i64 y62.1.V.Re, .int .i64 y62.1.V.Im] 29 :: var b61 [.int .i64 y60.1.Trap, .int .i64 y60.1.V.Re, .int .i64 y60.1.V.Im] 29 :: var b59 (cGAct y53.2 a57 c57) 40 :: var b58 (cGFrame y53.1 a54 c54 a55 c55 a56 c56) 33 :: var b50 (cGAct y45.2 a49 c49) 40 :: var b44 (cGFrame y45.1 a46 c46 a47 c47 a48 c48) 33 :: var b39 (cGFrame y35.1 a36 c36 a37 c37 a38 c38) 33 :: var b34 (cGAct y29.2 a33 c33) 40 :: var b28 (cGAct y23.2 a27 c27) 40 :: var b22 (cGAct y17.2 a21 c21) 40 :: var b11 (cGFrame y29.1 a30 c30 a31 c31 a32 c32) 33 :: L)) ?_ (fun hk_y72 => ?_)
  {
  rintro _ w H
  refine WL.sg 1 kr ?_
  obtain ⟨y73, hy73, hr⟩ := bnd_cases hr
  refine WL.join 4 (fun (_ : Unit) => [(2, .pointer (some ⟨b11, 0, none⟩)), (5, .pointer (some ⟨b28, 0, none⟩)), (6, .pointer (some ⟨b34, 0, none⟩)), (7, .pointer (some ⟨b39, 0, none⟩)), (8, .bool y35.2), (9, .pointer (some ⟨b44, 0, none⟩)), (10, .bool y40.2), (11, .pointer (some ⟨b50, 0, none⟩)), (13, .pointer (some ⟨b59, 0, none⟩)), (14, .pointer (some ⟨b61, 0, none⟩)), (15, .bool y60.2), (17, .bool y62.2), (19, .bool y64.2), (127, .bool y73)]) (fun (_ : Unit) w => St w0 h64 w (var b70 (cGFrame y64.1 a65 c65 a66 c66 a67 c67) 33 :: row rGValue 16 h64 a66 c66 y64.1.Locals :: row rGSlot 48 h64 a67 c67 y64.1.Slots :: var b63 [.int .i64 y62.1.Trap, .int .i64 y62.1.V.Re, .int .i64 y62.1.V.Im] 29 :: var b61 [.int .i64 y60.1.Trap, .int .i64 y60.1.V.Re, .int .i64 y60.1.V.Im] 29 :: var b59 (cGAct y53.2 a57 c57) 40 :: var b58 (cGFrame y53.1 a54 c54 a55 c55 a56 c56) 33 :: var b50 (cGAct y45.2 a49 c49) 40 :: var b44 (cGFrame y45.1 a46 c46 a47 c47 a48 c48) 33 :: var b39 (cGFrame y35.1 a36 c36 a37 c37 a38 c38) 33 :: var b34 (cGAct y29.2 a33 c33) 40 :: var b28 (cGAct y23.2 a27 c27) 40 :: var b22 (cGAct y17.2 a21 c21) 40 :: var b11 (cGFrame y29.1 a30 c30 a31 c31 a32 c32) 33 :: L)) ?_ (fun hk_y73 => ?_)
  {
  rintro _ w H
  refine WL.sg 1 kr ?_
  obtain ⟨y74, hy74, hr⟩ := bind_cases hr
  refine WL.join 7 (fun (_ : Unit) => [(2, .pointer (some ⟨b11, 0, none⟩)), (6, .pointer (some ⟨b34, 0, none⟩)), (7, .pointer (some ⟨b39, 0, none⟩)), (8, .bool y35.2), (9, .pointer (some ⟨b44, 0, none⟩)), (10, .bool y40.2), (11, .pointer (some ⟨b50, 0, none⟩)), (13, .pointer (some ⟨b59, 0, none⟩)), (14, .pointer (some ⟨b61, 0, none⟩)), (15, .bool y60.2), (17, .bool y62.2), (19, .bool y64.2), (135, .bool y74)]) (fun (_ : Unit) w => St w0 h64 w (var b70 (cGFrame y64.1 a65 c65 a66 c66 a67 c67) 33 :: row rGValue 16 h64 a66 c66 y64.1.Locals :: row rGSlot 48 h64 a67 c67 y64.1.Slots :: var b63 [.int .i64 y62.1.Trap, .int .i64 y62.1.V.Re, .int .i64 y62.1.V.Im] 29 :: var b61 [.int .i64 y60.1.Trap, .int .i64 y60.1.V.Re, .int .i64 y60.1.V.Im] 29 :: var b59 (cGAct y53.2 a57 c57) 40 :: var b58 (cGFrame y53.1 a54 c54 a55 c55 a56 c56) 33 :: var b50 (cGAct y45.2 a49 c49) 40 :: var b44 (cGFrame y45.1 a46 c46 a47 c47 a48 c48) 33 :: var b39 (cGFrame y35.1 a36 c36 a37 c37 a38 c38) 33 :: var b34 (cGAct y29.2 a33 c33) 40 :: var b28 (cGAct y23.2 a27 c27) 40 :: var b22 (cGAct y17.2 a21 c21) 40 :: var b11 (cGFrame y29.1 a30 c30 a31 c31 a32 c32) 33 :: L)) ?_ (fun hk_y74 => ?_)
  {
  rintro _ w H
  refine WL.sg 1 kr ?_
  obtain ⟨y76, hy76, hr⟩ := bnd_cases hr
  refine WL.join 4 (fun (_ : Unit) => [(2, .pointer (some ⟨b11, 0, none⟩)), (6, .pointer (some ⟨b34, 0, none⟩)), (7, .pointer (some ⟨b39, 0, none⟩)), (8, .bool y35.2), (9, .pointer (some ⟨b44, 0, none⟩)), (10, .bool y40.2), (11, .pointer (some ⟨b50, 0, none⟩)), (13, .pointer (some ⟨b59, 0, none⟩)), (14, .pointer (some ⟨b61, 0, none⟩)), (15, .bool y60.2), (17, .bool y62.2), (19, .bool y64.2), (140, .bool y76)]) (fun (_ : Unit) w => St w0 h64 w (var b70 (cGFrame y64.1 a65 c65 a66 c66 a67 c67) 33 :: row rGValue 16 h64 a66 c66 y64.1.Locals :: row rGSlot 48 h64 a67 c67 y64.1.Slots :: var b63 [.int .i64 y62.1.Trap, .int .i64 y62.1.V.Re, .int .i64 y62.1.V.Im] 29 :: var b61 [.int .i64 y60.1.Trap, .int .i64 y60.1.V.Re, .int .i64 y60.1.V.Im] 29 :: var b59 (cGAct y53.2 a57 c57) 40 :: var b58 (cGFrame y53.1 a54 c54 a55 c55 a56 c56) 33 :: var b50 (cGAct y45.2 a49 c49) 40 :: var b44 (cGFrame y45.1 a46 c46 a47 c47 a48 c48) 33 :: var b39 (cGFrame y35.1 a36 c36 a37 c37 a38 c38) 33 :: var b34 (cGAct y29.2 a33 c33) 40 :: var b28 (cGAct y23.2 a27 c27) 40 :: var b22 (cGAct y17.2 a21 c21) 40 :: var b11 (cGFrame y29.1 a30 c30 a31 c31 a32 c32) 33 :: L)) ?_ (fun hk_y76 => ?_)
  {
  rintro _ w H
  refine WL.sg 1 kr ?_
  obtain ⟨y77, hy77, hr⟩ := bnd_cases hr
  refine WL.join 4 (fun (_ : Unit) => [(2, .pointer (some ⟨b11, 0, none⟩)), (7, .pointer (some ⟨b39, 0, none⟩)), (8, .bool y35.2), (9, .pointer (some ⟨b44, 0, none⟩)), (10, .bool y40.2), (11, .pointer (some ⟨b50, 0, none⟩)), (13, .pointer (some ⟨b59, 0, none⟩)), (14, .pointer (some ⟨b61, 0, none⟩)), (15, .bool y60.2), (17, .bool y62.2), (19, .bool y64.2), (145, .bool y77)]) (fun (_ : Unit) w => St w0 h64 w (var b70 (cGFrame y64.1 a65 c65 a66 c66 a67 c67) 33 :: row rGValue 16 h64 a66 c66 y64.1.Locals :: row rGSlot 48 h64 a67 c67 y64.1.Slots :: var b63 [.int .i64 y62.1.Trap, .int .i64 y62.1.V.Re, .int .i64 y62.1.V.Im] 29 :: var b61 [.int .i64 y60.1.Trap, .int .i64 y60.1.V.Re, .int .i64 y60.1.V.Im] 29 :: var b59 (cGAct y53.2 a57 c57) 40 :: var b58 (cGFrame y53.1 a54 c54 a55 c55 a56 c56) 33 :: var b50 (cGAct y45.2 a49 c49) 40 :: var b44 (cGFrame y45.1 a46 c46 a47 c47 a48 c48) 33 :: var b39 (cGFrame y35.1 a36 c36 a37 c37 a38 c38) 33 :: var b34 (cGAct y29.2 a33 c33) 40 :: var b28 (cGAct y23.2 a27 c27) 40 :: var b22 (cGAct y17.2 a21 c21) 40 :: var b11 (cGFrame y29.1 a30 c30 a31 c31 a32 c32) 33 :: L)) ?_ (fun hk_y77 => ?_)
  {
  rintro _ w H
  refine WL.sg 1 kr ?_
  obtain ⟨y78, hy78, hr⟩ := bnd_cases hr
  refine WL.join 4 (fun (_ : Unit) => [(2, .pointer (some ⟨b11, 0, none⟩)), (7, .pointer (some ⟨b39, 0, none⟩)), (8, .bool y35.2), (9, .pointer (some ⟨b44, 0, none⟩)), (10, .bool y40.2), (11, .pointer (some ⟨b50, 0, none⟩)), (13, .pointer (some ⟨b59, 0, none⟩)), (14, .pointer (some ⟨b61, 0, none⟩)), (15, .bool y60.2), (17, .bool y62.2), (19, .bool y64.2), (150, .bool y78)]) (fun (_ : Unit) w => St w0 h64 w (var b70 (cGFrame y64.1 a65 c65 a66 c66 a67 c67) 33 :: row rGValue 16 h64 a66 c66 y64.1.Locals :: row rGSlot 48 h64 a67 c67 y64.1.Slots :: var b63 [.int .i64 y62.1.Trap, .int .i64 y62.1.V.Re, .int .i64 y62.1.V.Im] 29 :: var b61 [.int .i64 y60.1.Trap, .int .i64 y60.1.V.Re, .int .i64 y60.1.V.Im] 29 :: var b59 (cGAct y53.2 a57 c57) 40 :: var b58 (cGFrame y53.1 a54 c54 a55 c55 a56 c56) 33 :: var b50 (cGAct y45.2 a49 c49) 40 :: var b44 (cGFrame y45.1 a46 c46 a47 c47 a48 c48) 33 :: var b39 (cGFrame y35.1 a36 c36 a37 c37 a38 c38) 33 :: var b34 (cGAct y29.2 a33 c33) 40 :: var b28 (cGAct y23.2 a27 c27) 40 :: var b22 (cGAct y17.2 a21 c21) 40 :: var b11 (cGFrame y29.1 a30 c30 a31 c31 a32 c32) 33 :: L)) ?_ (fun hk_y78 => ?_)
  {
  rintro _ w H
  refine WL.sg 1 kr ?_
  obtain ⟨y79, hy79, hr⟩ := bnd_cases hr
  refine WL.join 4 (fun (_ : Unit) => [(2, .pointer (some ⟨b11, 0, none⟩)), (7, .pointer (some ⟨b39, 0, none⟩)), (8, .bool y35.2), (9, .pointer (some ⟨b44, 0, none⟩)), (10, .bool y40.2), (11, .pointer (some ⟨b50, 0, none⟩)), (13, .pointer (some ⟨b59, 0, none⟩)), (14, .pointer (some ⟨b61, 0, none⟩)), (15, .bool y60.2), (17, .bool y62.2), (19, .bool y64.2), (155, .bool y79)]) (fun (_ : Unit) w => St w0 h64 w (var b70 (cGFrame y64.1 a65 c65 a66 c66 a67 c67) 33 :: row rGValue 16 h64 a66 c66 y64.1.Locals :: row rGSlot 48 h64 a67 c67 y64.1.Slots :: var b63 [.int .i64 y62.1.Trap, .int .i64 y62.1.V.Re, .int .i64 y62.1.V.Im] 29 :: var b61 [.int .i64 y60.1.Trap, .int .i64 y60.1.V.Re, .int .i64 y60.1.V.Im] 29 :: var b59 (cGAct y53.2 a57 c57) 40 :: var b58 (cGFrame y53.1 a54 c54 a55 c55 a56 c56) 33 :: var b50 (cGAct y45.2 a49 c49) 40 :: var b44 (cGFrame y45.1 a46 c46 a47 c47 a48 c48) 33 :: var b39 (cGFrame y35.1 a36 c36 a37 c37 a38 c38) 33 :: var b34 (cGAct y29.2 a33 c33) 40 :: var b28 (cGAct y23.2 a27 c27) 40 :: var b22 (cGAct y17.2 a21 c21) 40 :: var b11 (cGFrame y29.1 a30 c30 a31 c31 a32 c32) 33 :: L)) ?_ (fun hk_y79 => ?_)
  {
  rintro _ w H
  refine WL.sg 1 kr ?_
  obtain ⟨y80, hy80, hr⟩ := bnd_cases hr
  refine WL.join 3 (fun (_ : Unit) => [(2, .pointer (some ⟨b11, 0, none⟩)), (7, .pointer (some ⟨b39, 0, none⟩)), (9, .pointer (some ⟨b44, 0, none⟩)), (10, .bool y40.2), (11, .pointer (some ⟨b50, 0, none⟩)), (13, .pointer (some ⟨b59, 0, none⟩)), (14, .pointer (some ⟨b61, 0, none⟩)), (15, .bool y60.2), (17, .bool y62.2), (19, .bool y64.2), (159, .bool y80)]) (fun (_ : Unit) w => St w0 h64 w (var b70 (cGFrame y64.1 a65 c65 a66 c66 a67 c67) 33 :: row rGValue 16 h64 a66 c66 y64.1.Locals :: row rGSlot 48 h64 a67 c67 y64.1.Slots :: var b63 [.int .i64 y62.1.Trap, .int .i64 y62.1.V.Re, .int .i64 y62.1.V.Im] 29 :: var b61 [.int .i64 y60.1.Trap, .int .i64 y60.1.V.Re, .int .i64 y60.1.V.Im] 29 :: var b59 (cGAct y53.2 a57 c57) 40 :: var b58 (cGFrame y53.1 a54 c54 a55 c55 a56 c56) 33 :: var b50 (cGAct y45.2 a49 c49) 40 :: var b44 (cGFrame y45.1 a46 c46 a47 c47 a48 c48) 33 :: var b39 (cGFrame y35.1 a36 c36 a37 c37 a38 c38) 33 :: var b34 (cGAct y29.2 a33 c33) 40 :: var b28 (cGAct y23.2 a27 c27) 40 :: var b22 (cGAct y17.2 a21 c21) 40 :: var b11 (cGFrame y29.1 a30 c30 a31 c31 a32 c32) 33 :: L)) ?_ (fun hk_y80 => ?_)
  {
  rintro _ w H
  refine WL.sg 1 kr ?_
  obtain ⟨y81, hy81, hr⟩ := bind_cases hr
  refine WL.join 4 (fun (_ : Unit) => [(2, .pointer (some ⟨b11, 0, none⟩)), (9, .pointer (some ⟨b44, 0, none⟩)), (10, .bool y40.2), (11, .pointer (some ⟨b50, 0, none⟩)), (13, .pointer (some ⟨b59, 0, none⟩)), (14, .pointer (some ⟨b61, 0, none⟩)), (15, .bool y60.2), (17, .bool y62.2), (19, .bool y64.2), (164, .bool y81)]) (fun (_ : Unit) w => St w0 h64 w (var b70 (cGFrame y64.1 a65 c65 a66 c66 a67 c67) 33 :: row rGValue 16 h64 a66 c66 y64.1.Locals :: row rGSlot 48 h64 a67 c67 y64.1.Slots :: var b63 [.int .i64 y62.1.Trap, .int .i64 y62.1.V.Re, .int .i64 y62.1.V.Im] 29 :: var b61 [.int .i64 y60.1.Trap, .int .i64 y60.1.V.Re, .int .i64 y60.1.V.Im] 29 :: var b59 (cGAct y53.2 a57 c57) 40 :: var b58 (cGFrame y53.1 a54 c54 a55 c55 a56 c56) 33 :: var b50 (cGAct y45.2 a49 c49) 40 :: var b44 (cGFrame y45.1 a46 c46 a47 c47 a48 c48) 33 :: var b39 (cGFrame y35.1 a36 c36 a37 c37 a38 c38) 33 :: var b34 (cGAct y29.2 a33 c33) 40 :: var b28 (cGAct y23.2 a27 c27) 40 :: var b22 (cGAct y17.2 a21 c21) 40 :: var b11 (cGFrame y29.1 a30 c30 a31 c31 a32 c32) 33 :: L)) ?_ (fun hk_y81 => ?_)
  {
  rintro _ w H
  refine WL.sg 1 kr ?_
  obtain ⟨y83, hy83, hr⟩ := bnd_cases hr
  refine WL.join 2 (fun (_ : Unit) => [(2, .pointer (some ⟨b11, 0, none⟩)), (9, .pointer (some ⟨b44, 0, none⟩)), (11, .pointer (some ⟨b50, 0, none⟩)), (13, .pointer (some ⟨b59, 0, none⟩)), (14, .pointer (some ⟨b61, 0, none⟩)), (15, .bool y60.2), (17, .bool y62.2), (19, .bool y64.2), (167, .bool y83)]) (fun (_ : Unit) w => St w0 h64 w (var b70 (cGFrame y64.1 a65 c65 a66 c66 a67 c67) 33 :: row rGValue 16 h64 a66 c66 y64.1.Locals :: row rGSlot 48 h64 a67 c67 y64.1.Slots :: var b63 [.int .i64 y62.1.Trap, .int .i64 y62.1.V.Re, .int .i64 y62.1.V.Im] 29 :: var b61 [.int .i64 y60.1.Trap, .int .i64 y60.1.V.Re, .int .i64 y60.1.V.Im] 29 :: var b59 (cGAct y53.2 a57 c57) 40 :: var b58 (cGFrame y53.1 a54 c54 a55 c55 a56 c56) 33 :: var b50 (cGAct y45.2 a49 c49) 40 :: var b44 (cGFrame y45.1 a46 c46 a47 c47 a48 c48) 33 :: var b39 (cGFrame y35.1 a36 c36 a37 c37 a38 c38) 33 :: var b34 (cGAct y29.2 a33 c33) 40 :: var b28 (cGAct y23.2 a27 c27) 40 :: var b22 (cGAct y17.2 a21 c21) 40 :: var b11 (cGFrame y29.1 a30 c30 a31 c31 a32 c32) 33 :: L)) ?_ (fun hk_y83 => ?_)
  {
  rintro _ w H
  refine WL.sg 1 kr ?_
  obtain ⟨y84, hy84, hr⟩ := bnd_cases hr
  refine WL.join 4 (fun (_ : Unit) => [(2, .pointer (some ⟨b11, 0, none⟩)), (9, .pointer (some ⟨b44, 0, none⟩)), (13, .pointer (some ⟨b59, 0, none⟩)), (14, .pointer (some ⟨b61, 0, none⟩)), (15, .bool y60.2), (17, .bool y62.2), (19, .bool y64.2), (172, .bool y84)]) (fun (_ : Unit) w => St w0 h64 w (var b70 (cGFrame y64.1 a65 c65 a66 c66 a67 c67) 33 :: row rGValue 16 h64 a66 c66 y64.1.Locals :: row rGSlot 48 h64 a67 c67 y64.1.Slots :: var b63 [.int .i64 y62.1.Trap, .int .i64 y62.1.V.Re, .int .i64 y62.1.V.Im] 29 :: var b61 [.int .i64 y60.1.Trap, .int .i64 y60.1.V.Re, .int .i64 y60.1.V.Im] 29 :: var b59 (cGAct y53.2 a57 c57) 40 :: var b58 (cGFrame y53.1 a54 c54 a55 c55 a56 c56) 33 :: var b50 (cGAct y45.2 a49 c49) 40 :: var b44 (cGFrame y45.1 a46 c46 a47 c47 a48 c48) 33 :: var b39 (cGFrame y35.1 a36 c36 a37 c37 a38 c38) 33 :: var b34 (cGAct y29.2 a33 c33) 40 :: var b28 (cGAct y23.2 a27 c27) 40 :: var b22 (cGAct y17.2 a21 c21) 40 :: var b11 (cGFrame y29.1 a30 c30 a31 c31 a32 c32) 33 :: L)) ?_ (fun hk_y84 => ?_)
  {
  rintro _ w H
  refine WL.sg 1 kr ?_
  obtain ⟨y85, hy85, hr⟩ := bind_cases hr
  refine WL.join 7 (fun (_ : Unit) => [(2, .pointer (some ⟨b11, 0, none⟩)), (9, .pointer (some ⟨b44, 0, none⟩)), (13, .pointer (some ⟨b59, 0, none⟩)), (14, .pointer (some ⟨b61, 0, none⟩)), (15, .bool y60.2), (17, .bool y62.2), (19, .bool y64.2), (180, .bool y85)]) (fun (_ : Unit) w => St w0 h64 w (var b70 (cGFrame y64.1 a65 c65 a66 c66 a67 c67) 33 :: row rGValue 16 h64 a66 c66 y64.1.Locals :: row rGSlot 48 h64 a67 c67 y64.1.Slots :: var b63 [.int .i64 y62.1.Trap, .int .i64 y62.1.V.Re, .int .i64 y62.1.V.Im] 29 :: var b61 [.int .i64 y60.1.Trap, .int .i64 y60.1.V.Re, .int .i64 y60.1.V.Im] 29 :: var b59 (cGAct y53.2 a57 c57) 40 :: var b58 (cGFrame y53.1 a54 c54 a55 c55 a56 c56) 33 :: var b50 (cGAct y45.2 a49 c49) 40 :: var b44 (cGFrame y45.1 a46 c46 a47 c47 a48 c48) 33 :: var b39 (cGFrame y35.1 a36 c36 a37 c37 a38 c38) 33 :: var b34 (cGAct y29.2 a33 c33) 40 :: var b28 (cGAct y23.2 a27 c27) 40 :: var b22 (cGAct y17.2 a21 c21) 40 :: var b11 (cGFrame y29.1 a30 c30 a31 c31 a32 c32) 33 :: L)) ?_ (fun hk_y85 => ?_)
  {
  rintro _ w H
  refine WL.sg 1 kr ?_
  obtain ⟨y87, hy87, hr⟩ := bnd_cases hr
  refine WL.join 4 (fun (_ : Unit) => [(2, .pointer (some ⟨b11, 0, none⟩)), (9, .pointer (some ⟨b44, 0, none⟩)), (14, .pointer (some ⟨b61, 0, none⟩)), (15, .bool y60.2), (17, .bool y62.2), (19, .bool y64.2), (185, .bool y87)]) (fun (_ : Unit) w => St w0 h64 w (var b70 (cGFrame y64.1 a65 c65 a66 c66 a67 c67) 33 :: row rGValue 16 h64 a66 c66 y64.1.Locals :: row rGSlot 48 h64 a67 c67 y64.1.Slots :: var b63 [.int .i64 y62.1.Trap, .int .i64 y62.1.V.Re, .int .i64 y62.1.V.Im] 29 :: var b61 [.int .i64 y60.1.Trap, .int .i64 y60.1.V.Re, .int .i64 y60.1.V.Im] 29 :: var b59 (cGAct y53.2 a57 c57) 40 :: var b58 (cGFrame y53.1 a54 c54 a55 c55 a56 c56) 33 :: var b50 (cGAct y45.2 a49 c49) 40 :: var b44 (cGFrame y45.1 a46 c46 a47 c47 a48 c48) 33 :: var b39 (cGFrame y35.1 a36 c36 a37 c37 a38 c38) 33 :: var b34 (cGAct y29.2 a33 c33) 40 :: var b28 (cGAct y23.2 a27 c27) 40 :: var b22 (cGAct y17.2 a21 c21) 40 :: var b11 (cGFrame y29.1 a30 c30 a31 c31 a32 c32) 33 :: L)) ?_ (fun hk_y87 => ?_)
  {
  rintro _ w H
  refine WL.sg 1 kr ?_
  obtain ⟨y88, hy88, hr⟩ := bnd_cases hr
  refine WL.join 2 (fun (_ : Unit) => [(2, .pointer (some ⟨b11, 0, none⟩)), (9, .pointer (some ⟨b44, 0, none⟩)), (14, .pointer (some ⟨b61, 0, none⟩)), (17, .bool y62.2), (19, .bool y64.2), (188, .bool y88)]) (fun (_ : Unit) w => St w0 h64 w (var b70 (cGFrame y64.1 a65 c65 a66 c66 a67 c67) 33 :: row rGValue 16 h64 a66 c66 y64.1.Locals :: row rGSlot 48 h64 a67 c67 y64.1.Slots :: var b63 [.int .i64 y62.1.Trap, .int .i64 y62.1.V.Re, .int .i64 y62.1.V.Im] 29 :: var b61 [.int .i64 y60.1.Trap, .int .i64 y60.1.V.Re, .int .i64 y60.1.V.Im] 29 :: var b59 (cGAct y53.2 a57 c57) 40 :: var b58 (cGFrame y53.1 a54 c54 a55 c55 a56 c56) 33 :: var b50 (cGAct y45.2 a49 c49) 40 :: var b44 (cGFrame y45.1 a46 c46 a47 c47 a48 c48) 33 :: var b39 (cGFrame y35.1 a36 c36 a37 c37 a38 c38) 33 :: var b34 (cGAct y29.2 a33 c33) 40 :: var b28 (cGAct y23.2 a27 c27) 40 :: var b22 (cGAct y17.2 a21 c21) 40 :: var b11 (cGFrame y29.1 a30 c30 a31 c31 a32 c32) 33 :: L)) ?_ (fun hk_y88 => ?_)
  {
  rintro _ w H
  refine WL.sg 1 kr ?_
  obtain ⟨y89, hy89, hr⟩ := bnd_cases hr
  refine WL.join 4 (fun (_ : Unit) => [(2, .pointer (some ⟨b11, 0, none⟩)), (9, .pointer (some ⟨b44, 0, none⟩)), (17, .bool y62.2), (19, .bool y64.2), (193, .bool y89)]) (fun (_ : Unit) w => St w0 h64 w (var b70 (cGFrame y64.1 a65 c65 a66 c66 a67 c67) 33 :: row rGValue 16 h64 a66 c66 y64.1.Locals :: row rGSlot 48 h64 a67 c67 y64.1.Slots :: var b63 [.int .i64 y62.1.Trap, .int .i64 y62.1.V.Re, .int .i64 y62.1.V.Im] 29 :: var b61 [.int .i64 y60.1.Trap, .int .i64 y60.1.V.Re, .int .i64 y60.1.V.Im] 29 :: var b59 (cGAct y53.2 a57 c57) 40 :: var b58 (cGFrame y53.1 a54 c54 a55 c55 a56 c56) 33 :: var b50 (cGAct y45.2 a49 c49) 40 :: var b44 (cGFrame y45.1 a46 c46 a47 c47 a48 c48) 33 :: var b39 (cGFrame y35.1 a36 c36 a37 c37 a38 c38) 33 :: var b34 (cGAct y29.2 a33 c33) 40 :: var b28 (cGAct y23.2 a27 c27) 40 :: var b22 (cGAct y17.2 a21 c21) 40 :: var b11 (cGFrame y29.1 a30 c30 a31 c31 a32 c32) 33 :: L)) ?_ (fun hk_y89 => ?_)
  {
  rintro _ w H
  refine WL.sg 1 kr ?_
  obtain ⟨y90, hy90, hr⟩ := bnd_cases hr
  refine WL.join 3 (fun (_ : Unit) => [(2, .pointer (some ⟨b11, 0, none⟩)), (9, .pointer (some ⟨b44, 0, none⟩)), (19, .bool y64.2), (197, .bool y90)]) (fun (_ : Unit) w => St w0 h64 w (var b70 (cGFrame y64.1 a65 c65 a66 c66 a67 c67) 33 :: row rGValue 16 h64 a66 c66 y64.1.Locals :: row rGSlot 48 h64 a67 c67 y64.1.Slots :: var b63 [.int .i64 y62.1.Trap, .int .i64 y62.1.V.Re, .int .i64 y62.1.V.Im] 29 :: var b61 [.int .i64 y60.1.Trap, .int .i64 y60.1.V.Re, .int .i64 y60.1.V.Im] 29 :: var b59 (cGAct y53.2 a57 c57) 40 :: var b58 (cGFrame y53.1 a54 c54 a55 c55 a56 c56) 33 :: var b50 (cGAct y45.2 a49 c49) 40 :: var b44 (cGFrame y45.1 a46 c46 a47 c47 a48 c48) 33 :: var b39 (cGFrame y35.1 a36 c36 a37 c37 a38 c38) 33 :: var b34 (cGAct y29.2 a33 c33) 40 :: var b28 (cGAct y23.2 a27 c27) 40 :: var b22 (cGAct y17.2 a21 c21) 40 :: var b11 (cGFrame y29.1 a30 c30 a31 c31 a32 c32) 33 :: L)) ?_ (fun hk_y90 => ?_)
  {
  rintro _ w H
  refine WL.sg 1 kr ?_
  obtain ⟨y91, hy91, hr⟩ := bnd_cases hr
  refine WL.join 3 (fun (_ : Unit) => [(2, .pointer (some ⟨b11, 0, none⟩)), (9, .pointer (some ⟨b44, 0, none⟩)), (201, .bool y91)]) (fun (_ : Unit) w => St w0 h64 w (var b70 (cGFrame y64.1 a65 c65 a66 c66 a67 c67) 33 :: row rGValue 16 h64 a66 c66 y64.1.Locals :: row rGSlot 48 h64 a67 c67 y64.1.Slots :: var b63 [.int .i64 y62.1.Trap, .int .i64 y62.1.V.Re, .int .i64 y62.1.V.Im] 29 :: var b61 [.int .i64 y60.1.Trap, .int .i64 y60.1.V.Re, .int .i64 y60.1.V.Im] 29 :: var b59 (cGAct y53.2 a57 c57) 40 :: var b58 (cGFrame y53.1 a54 c54 a55 c55 a56 c56) 33 :: var b50 (cGAct y45.2 a49 c49) 40 :: var b44 (cGFrame y45.1 a46 c46 a47 c47 a48 c48) 33 :: var b39 (cGFrame y35.1 a36 c36 a37 c37 a38 c38) 33 :: var b34 (cGAct y29.2 a33 c33) 40 :: var b28 (cGAct y23.2 a27 c27) 40 :: var b22 (cGAct y17.2 a21 c21) 40 :: var b11 (cGFrame y29.1 a30 c30 a31 c31 a32 c32) 33 :: L)) ?_ (fun hk_y91 => ?_)
  {
  rintro _ w H
  refine WL.sg 1 kr ?_
  obtain ⟨y92, hy92, hr⟩ := bind_cases hr
  refine WL.join 5 (fun (_ : Unit) => [(207, .bool y92)]) (fun (_ : Unit) w => St w0 h64 w (var b70 (cGFrame y64.1 a65 c65 a66 c66 a67 c67) 33 :: row rGValue 16 h64 a66 c66 y64.1.Locals :: row rGSlot 48 h64 a67 c67 y64.1.Slots :: var b63 [.int .i64 y62.1.Trap, .int .i64 y62.1.V.Re, .int .i64 y62.1.V.Im] 29 :: var b61 [.int .i64 y60.1.Trap, .int .i64 y60.1.V.Re, .int .i64 y60.1.V.Im] 29 :: var b59 (cGAct y53.2 a57 c57) 40 :: var b58 (cGFrame y53.1 a54 c54 a55 c55 a56 c56) 33 :: var b50 (cGAct y45.2 a49 c49) 40 :: var b44 (cGFrame y45.1 a46 c46 a47 c47 a48 c48) 33 :: var b39 (cGFrame y35.1 a36 c36 a37 c37 a38 c38) 33 :: var b34 (cGAct y29.2 a33 c33) 40 :: var b28 (cGAct y23.2 a27 c27) 40 :: var b22 (cGAct y17.2 a21 c21) 40 :: var b11 (cGFrame y29.1 a30 c30 a31 c31 a32 c32) 33 :: L)) ?_ (fun hk_y92 => ?_)
  {
  rintro _ w H
  refine WL.fin 1 kr kr ?_
  obtain rfl := Option.some.inj hr
  exact WE.ret ⟨[.bool y92], ⟨⟨kr, kr⟩, trivial⟩, ⟨rfl, ((H.keep 14).less ((((((((((((le1.trans le4).trans le5).trans le15).trans le16).trans le17).trans le23).trans le29).trans le35).trans le40).trans le45).trans le53).trans le64))⟩⟩
  }
  rcases ite_cases hy92 with ⟨ty92, hy92⟩ | ⟨ty92, hy92⟩
  {
  refine WL.known 202 ty92 kr kr ?_
  refine WL.does kr kr (Does.loadV H 13 rfl 0 kr kr ?_)
  refine WL.does kr kr (Does.loadV H 8 rfl 0 kr kr ?_)
  obtain ⟨y94, q94, hy92⟩ := bind_cases hy92
  refine WL.does kr kr (Does.call (c_frame_Same K y29.1 (((((f30.up le35).up le40).up le45).up le53).up le64) (((((f31.up le35).up le40).up le45).up le53).up le64) (((((f32.up le35).up le40).up le45).up le53).up le64) y45.1 ((f46.up le53).up le64) ((f47.up le53).up le64) ((f48.up le53).up le64) H q94) kr ?_)
  rintro _ w ⟨rfl, H⟩
  refine WL.sg 2 kr ?_
  obtain rfl := Option.some.inj hy92
  exact WL.live [207] kr (hk_y92 () _ H)
  }
  {
  refine WL.known 202 ty92 kr kr ?_
  refine WL.sg 5 kr ?_
  obtain rfl := Option.some.inj hy92
  exact WL.live [207] kr (hk_y92 () _ H)
  }
  }
  rcases ite_cases hy91 with ⟨ty91, hy91⟩ | ⟨ty91, hy91⟩
  {
  refine WL.known 198 ty91 kr kr ?_
  refine WL.sg 3 kr ?_
  obtain rfl := hy91
  exact WL.live [2, 9, 201] kr (hk_y91 () _ H)
  }
  {
  refine WL.known 198 ty91 kr kr ?_
  refine WL.sg 3 kr ?_
  obtain rfl := hy91
  exact WL.live [2, 9, 201] kr (hk_y91 () _ H)
  }
  }
  rcases ite_cases hy90 with ⟨ty90, hy90⟩ | ⟨ty90, hy90⟩
  {
  refine WL.known 194 ty90 kr kr ?_
  refine WL.sg 3 kr ?_
  obtain rfl := hy90
  exact WL.live [2, 9, 19, 197] kr (hk_y90 () _ H)
  }
  {
  refine WL.known 194 ty90 kr kr ?_
  refine WL.sg 3 kr ?_
  obtain rfl := hy90
  exact WL.live [2, 9, 19, 197] kr (hk_y90 () _ H)
  }
  }
  rcases ite_cases hy89 with ⟨ty89, hy89⟩ | ⟨ty89, hy89⟩
  {
  refine WL.known 189 ty89 kr kr ?_
  refine WL.sg 1 kr ?_
  refine WL.does kr kr (Does.loadV H 4 rfl 0 kr kr ?_)
  refine WL.sg 2 kr ?_
  obtain rfl := hy89
  exact WL.live [2, 9, 17, 19, 193] kr (hk_y89 () _ H)
  }
  {
  refine WL.known 189 ty89 kr kr ?_
  refine WL.sg 4 kr ?_
  obtain rfl := hy89
  exact WL.live [2, 9, 17, 19, 193] kr (hk_y89 () _ H)
  }
  }
  rcases ite_cases hy88 with ⟨ty88, hy88⟩ | ⟨ty88, hy88⟩
  {
  refine WL.known 186 ty88 kr kr ?_
  refine WL.sg 2 kr ?_
  obtain rfl := hy88
  exact WL.live [2, 9, 14, 17, 19, 188] kr (hk_y88 () _ H)
  }
  {
  refine WL.known 186 ty88 kr kr ?_
  refine WL.sg 2 kr ?_
  obtain rfl := hy88
  exact WL.live [2, 9, 14, 17, 19, 188] kr (hk_y88 () _ H)
  }
  }
  rcases ite_cases hy87 with ⟨ty87, hy87⟩ | ⟨ty87, hy87⟩
  {
  refine WL.known 181 ty87 kr kr ?_
  refine WL.sg 1 kr ?_
  refine WL.does kr kr (Does.loadV H 5 rfl 0 kr kr ?_)
  refine WL.sg 2 kr ?_
  obtain rfl := hy87
  exact WL.live [2, 9, 14, 15, 17, 19, 185] kr (hk_y87 () _ H)
  }
  {
  refine WL.known 181 ty87 kr kr ?_
  refine WL.sg 4 kr ?_
  obtain rfl := hy87
  exact WL.live [2, 9, 14, 15, 17, 19, 185] kr (hk_y87 () _ H)
  }
  }
  rcases ite_cases hy85 with ⟨ty85, hy85⟩ | ⟨ty85, hy85⟩
  {
  refine WL.known 173 ty85 kr kr ?_
  refine WL.sg 1 kr ?_
  refine WL.does kr kr (Does.loadV H 8 rfl 2 kr kr ?_)
  obtain ⟨⟨g0_95, g1_95⟩, hy85⟩ := grd_cases hy85
  obtain ⟨b95, p95, C95, e95, fr95, cs95, rfl, hb95, hc95, rfl⟩ := ((f46.up le53).up le64).at g0_95 g1_95
  refine WL.does kr kr (Does.tells (.idx b95 (p95) y45.1.Stack.length c46 (0 : Int) 2 kr kr g0_95 g1_95 kr) ?_)
  refine WL.does kr kr (Does.loadR H hb95 hc95 0 kr kr ?_)
  refine WL.sg 1 kr ?_
  refine WL.does kr kr (Does.tells (.eql ((((gd y45.1.Stack (0 : Int)).Re) == 0) && ((((gd y45.1.Stack (0 : Int)).Im) == 7) && true)) kr kr kr) ?_)
  refine WL.sg 1 kr ?_
  obtain rfl := Option.some.inj hy85
  exact WL.live [2, 9, 13, 14, 15, 17, 19, 180] kr (hk_y85 () _ H)
  }
  {
  refine WL.known 173 ty85 kr kr ?_
  refine WL.sg 7 kr ?_
  obtain rfl := Option.some.inj hy85
  exact WL.live [2, 9, 13, 14, 15, 17, 19, 180] kr (hk_y85 () _ H)
  }
  }
  rcases ite_cases hy84 with ⟨ty84, hy84⟩ | ⟨ty84, hy84⟩
  {
  refine WL.known 168 ty84 kr kr ?_
  refine WL.sg 1 kr ?_
  refine WL.does kr kr (Does.loadV H 7 rfl 0 kr kr ?_)
  refine WL.sg 2 kr ?_
  obtain rfl := hy84
  exact WL.live [2, 9, 13, 14, 15, 17, 19, 172] kr (hk_y84 () _ H)
  }
  {
  refine WL.known 168 ty84 kr kr ?_
  refine WL.sg 4 kr ?_
  obtain rfl := hy84
  exact WL.live [2, 9, 13, 14, 15, 17, 19, 172] kr (hk_y84 () _ H)
  }
  }
  rcases ite_cases hy83 with ⟨ty83, hy83⟩ | ⟨ty83, hy83⟩
  {
  refine WL.known 165 ty83 kr kr ?_
  refine WL.sg 2 kr ?_
  obtain rfl := hy83
  exact WL.live [2, 9, 11, 13, 14, 15, 17, 19, 167] kr (hk_y83 () _ H)
  }
  {
  refine WL.known 165 ty83 kr kr ?_
  refine WL.sg 2 kr ?_
  obtain rfl := hy83
  exact WL.live [2, 9, 11, 13, 14, 15, 17, 19, 167] kr (hk_y83 () _ H)
  }
  }
  rcases ite_cases hy81 with ⟨ty81, hy81⟩ | ⟨ty81, hy81⟩
  {
  refine WL.known 160 ty81 kr kr ?_
  refine WL.does kr kr (Does.loadV H 13 rfl 0 kr kr ?_)
  refine WL.does kr kr (Does.loadV H 9 rfl 0 kr kr ?_)
  obtain ⟨y96, q96, hy81⟩ := bind_cases hy81
  refine WL.does kr kr (Does.call (c_frame_Same K y29.1 (((((f30.up le35).up le40).up le45).up le53).up le64) (((((f31.up le35).up le40).up le45).up le53).up le64) (((((f32.up le35).up le40).up le45).up le53).up le64) y35.1 ((((f36.up le40).up le45).up le53).up le64) ((((f37.up le40).up le45).up le53).up le64) ((((f38.up le40).up le45).up le53).up le64) H q96) kr ?_)
  rintro _ w ⟨rfl, H⟩
  refine WL.sg 1 kr ?_
  obtain rfl := Option.some.inj hy81
  exact WL.live [2, 9, 10, 11, 13, 14, 15, 17, 19, 164] kr (hk_y81 () _ H)
  }
  {
  refine WL.known 160 ty81 kr kr ?_
  refine WL.sg 4 kr ?_
  obtain rfl := Option.some.inj hy81
  exact WL.live [2, 9, 10, 11, 13, 14, 15, 17, 19, 164] kr (hk_y81 () _ H)
  }
  }
  rcases ite_cases hy80 with ⟨ty80, hy80⟩ | ⟨ty80, hy80⟩
  {
  refine WL.known 156 ty80 kr kr ?_
  refine WL.sg 3 kr ?_
  obtain rfl := hy80
  exact WL.live [2, 7, 9, 10, 11, 13, 14, 15, 17, 19, 159] kr (hk_y80 () _ H)
  }
  {
  refine WL.known 156 ty80 kr kr ?_
  refine WL.sg 3 kr ?_
  obtain rfl := hy80
  exact WL.live [2, 7, 9, 10, 11, 13, 14, 15, 17, 19, 159] kr (hk_y80 () _ H)
  }
  }
  rcases ite_cases hy79 with ⟨ty79, hy79⟩ | ⟨ty79, hy79⟩
  {
  refine WL.known 151 ty79 kr kr ?_
  refine WL.sg 1 kr ?_
  refine WL.does kr kr (Does.loadV H 13 rfl 9 kr kr ?_)
  refine WL.sg 2 kr ?_
  obtain rfl := hy79
  exact WL.live [2, 7, 8, 9, 10, 11, 13, 14, 15, 17, 19, 155] kr (hk_y79 () _ H)
  }
  {
  refine WL.known 151 ty79 kr kr ?_
  refine WL.sg 4 kr ?_
  obtain rfl := hy79
  exact WL.live [2, 7, 8, 9, 10, 11, 13, 14, 15, 17, 19, 155] kr (hk_y79 () _ H)
  }
  }
  rcases ite_cases hy78 with ⟨ty78, hy78⟩ | ⟨ty78, hy78⟩
  {
  refine WL.known 146 ty78 kr kr ?_
  refine WL.sg 1 kr ?_
  refine WL.does kr kr (Does.loadV H 13 rfl 8 kr kr ?_)
  refine WL.sg 2 kr ?_
  obtain rfl := hy78
  exact WL.live [2, 7, 8, 9, 10, 11, 13, 14, 15, 17, 19, 150] kr (hk_y78 () _ H)
  }
  {
  refine WL.known 146 ty78 kr kr ?_
  refine WL.sg 4 kr ?_
  obtain rfl := hy78
  exact WL.live [2, 7, 8, 9, 10, 11, 13, 14, 15, 17, 19, 150] kr (hk_y78 () _ H)
  }
  }
  rcases ite_cases hy77 with ⟨ty77, hy77⟩ | ⟨ty77, hy77⟩
  {
  refine WL.known 141 ty77 kr kr ?_
  refine WL.sg 1 kr ?_
  refine WL.does kr kr (Does.loadV H 10 rfl 0 kr kr ?_)
  refine WL.sg 2 kr ?_
  obtain rfl := hy77
  exact WL.live [2, 7, 8, 9, 10, 11, 13, 14, 15, 17, 19, 145] kr (hk_y77 () _ H)
  }
  {
  refine WL.known 141 ty77 kr kr ?_
  refine WL.sg 4 kr ?_
  obtain rfl := hy77
  exact WL.live [2, 7, 8, 9, 10, 11, 13, 14, 15, 17, 19, 145] kr (hk_y77 () _ H)
  }
  }
  rcases ite_cases hy76 with ⟨ty76, hy76⟩ | ⟨ty76, hy76⟩
  {
  refine WL.known 136 ty76 kr kr ?_
  refine WL.sg 1 kr ?_
  refine WL.does kr kr (Does.loadV H 13 rfl 6 kr kr ?_)
  refine WL.sg 2 kr ?_
  obtain rfl := hy76
  exact WL.live [2, 6, 7, 8, 9, 10, 11, 13, 14, 15, 17, 19, 140] kr (hk_y76 () _ H)
  }
  {
  refine WL.known 136 ty76 kr kr ?_
  refine WL.sg 4 kr ?_
  obtain rfl := hy76
  exact WL.live [2, 6, 7, 8, 9, 10, 11, 13, 14, 15, 17, 19, 140] kr (hk_y76 () _ H)
  }
  }
  rcases ite_cases hy74 with ⟨ty74, hy74⟩ | ⟨ty74, hy74⟩
  {
  refine WL.known 128 ty74 kr kr ?_
  refine WL.sg 1 kr ?_
  refine WL.does kr kr (Does.loadV H 11 rfl 4 kr kr ?_)
  obtain ⟨⟨g0_97, g1_97⟩, hy74⟩ := grd_cases hy74
  obtain ⟨b97, p97, C97, e97, fr97, cs97, rfl, hb97, hc97, rfl⟩ := ((((((f27.up le29).up le35).up le40).up le45).up le53).up le64).at g0_97 g1_97
  refine WL.does kr kr (Does.tells (.idx b97 (p97) y23.2.Args.length c27 (0 : Int) 2 kr kr g0_97 g1_97 kr) ?_)
  refine WL.does kr kr (Does.loadR H hb97 hc97 0 kr kr ?_)
  refine WL.sg 1 kr ?_
  refine WL.does kr kr (Does.tells (.eql ((((gd y23.2.Args (0 : Int)).Re) == 5) && ((((gd y23.2.Args (0 : Int)).Im) == 0) && true)) kr kr kr) ?_)
  refine WL.sg 1 kr ?_
  obtain rfl := Option.some.inj hy74
  exact WL.live [2, 6, 7, 8, 9, 10, 11, 13, 14, 15, 17, 19, 135] kr (hk_y74 () _ H)
  }
  {
  refine WL.known 128 ty74 kr kr ?_
  refine WL.sg 7 kr ?_
  obtain rfl := Option.some.inj hy74
  exact WL.live [2, 6, 7, 8, 9, 10, 11, 13, 14, 15, 17, 19, 135] kr (hk_y74 () _ H)
  }
  }
  rcases ite_cases hy73 with ⟨ty73, hy73⟩ | ⟨ty73, hy73⟩
  {
  refine WL.known 123 ty73 kr kr ?_
  refine WL.sg 1 kr ?_
  refine WL.does kr kr (Does.loadV H 11 rfl 2 kr kr ?_)
  refine WL.sg 2 kr ?_
  obtain rfl := hy73
  exact WL.live [2, 5, 6, 7, 8, 9, 10, 11, 13, 14, 15, 17, 19, 127] kr (hk_y73 () _ H)
  }
  {
  refine WL.known 123 ty73 kr kr ?_
  refine WL.sg 4 kr ?_
  obtain rfl := hy73
  exact WL.live [2, 5, 6, 7, 8, 9, 10, 11, 13, 14, 15, 17, 19, 127] kr (hk_y73 () _ H)
  }
  }
  rcases ite_cases hy72 with ⟨ty72, hy72⟩ | ⟨ty72, hy72⟩
  {
  refine WL.known 118 ty72 kr kr ?_
  refine WL.sg 1 kr ?_
  refine WL.does kr kr (Does.loadV H 11 rfl 1 kr kr ?_)
  refine WL.sg 2 kr ?_
  obtain rfl := hy72
  exact WL.live [2, 5, 6, 7, 8, 9, 10, 11, 13, 14, 15, 17, 19, 122] kr (hk_y72 () _ H)
  }
  {
  refine WL.known 118 ty72 kr kr ?_
  refine WL.sg 4 kr ?_
  obtain rfl := hy72
  exact WL.live [2, 5, 6, 7, 8, 9, 10, 11, 13, 14, 15, 17, 19, 122] kr (hk_y72 () _ H)
  }
  }
  rcases ite_cases hy71 with ⟨ty71, hy71⟩ | ⟨ty71, hy71⟩
  {
  refine WL.known 113 ty71 kr kr ?_
  refine WL.sg 1 kr ?_
  refine WL.does kr kr (Does.loadV H 11 rfl 0 kr kr ?_)
  refine WL.sg 2 kr ?_
  obtain rfl := hy71
  exact WL.live [2, 5, 6, 7, 8, 9, 10, 11, 13, 14, 15, 17, 19, 117] kr (hk_y71 () _ H)
  }
  {
  refine WL.known 113 ty71 kr kr ?_
  refine WL.sg 4 kr ?_
  obtain rfl := hy71
  exact WL.live [2, 5, 6, 7, 8, 9, 10, 11, 13, 14, 15, 17, 19, 117] kr (hk_y71 () _ H)
  }
  }
  }
  rcases ite_cases hy51 with ⟨ty51, hy51⟩ | ⟨ty51, hy51⟩
  {
  refine WL.known 83 ty51 kr kr ?_
  refine WL.sg 5 kr ?_
  obtain rfl := hy51
  exact WL.live [1, 2, 4, 5, 6, 7, 8, 9, 10, 11, 88] kr (hk_y51 () _ H)
  }
  {
  refine WL.known 83 ty51 kr kr ?_
  refine WL.sg 1 kr ?_
  refine WL.does kr kr (Does.loadV H 4 rfl 4 kr kr ?_)
  refine WL.sg 3 kr ?_
  obtain rfl := hy51
  exact WL.live [1, 2, 4, 5, 6, 7, 8, 9, 10, 11, 88] kr (hk_y51 () _ H)
  }
  }
  }
  rcases ite_cases hy13 with ⟨ty13, hy13⟩ | ⟨ty13, hy13⟩
  {
  refine WL.known 36 ty13 kr kr ?_
  refine WL.sg 5 kr ?_
  obtain rfl := hy13
  exact WL.live [1, 2, 41] kr (hk_y13 () _ H)
  }
  {
  refine WL.known 36 ty13 kr kr ?_
  refine WL.sg 1 kr ?_
  refine WL.does kr kr (Does.loadV H 0 rfl 4 kr kr ?_)
  refine WL.sg 3 kr ?_
  obtain rfl := hy13
  exact WL.live [1, 2, 41] kr (hk_y13 () _ H)
  }
  }
  rcases ite_cases hy12 with ⟨ty12, hy12⟩ | ⟨ty12, hy12⟩
  {
  refine WL.known 30 ty12 kr kr ?_
  refine WL.sg 5 kr ?_
  obtain rfl := hy12
  exact WL.live [1, 2, 35] kr (hk_y12 () _ H)
  }
  {
  refine WL.known 30 ty12 kr kr ?_
  refine WL.sg 1 kr ?_
  refine WL.does kr kr (Does.loadV H 0 rfl 3 kr kr ?_)
  refine WL.sg 3 kr ?_
  obtain rfl := hy12
  exact WL.live [1, 2, 35] kr (hk_y12 () _ H)
  }
def r09_Copy (x0 : GFrame) : Option GFrame :=
  if (([] : List GValue).length + x0.Stack.length) * 16 ≤ LIM then
    if (([] : List GValue).length + x0.Locals.length) * 16 ≤ LIM then
      if (([] : List GSlot).length + x0.Slots.length) * 48 ≤ LIM then
        some ({ x0 with Stack := (([] : List GValue) ++ x0.Stack), Locals := (([] : List GValue) ++ x0.Locals), Slots := (([] : List GSlot) ++ x0.Slots) })
      else none
    else none
  else none
set_option maxRecDepth 100000 in
set_option maxHeartbeats 4000000 in
theorem c_r09_Copy {w0 w : World} {h : Gh} {L : List Ent} (x0 : GFrame) {a1 : Option Addr} {c1 : Nat} {a2 : Option Addr} {c2 : Nat} {a3 : Option Addr} {c3 : Nat} (f1 : Sl rGValue 16 h a1 c1 x0.Stack) (f2 : Sl rGValue 16 h a2 c2 x0.Locals) (f3 : Sl rGSlot 48 h a3 c3 x0.Slots) (H : St w0 h w L) {r : GFrame} (hr : r09_Copy x0 = some r) : Calls Tryz.prog 29 #[.agg (cGFrame x0 a1 c1 a2 c2 a3 c3).toArray] w (fun e w' => ∃ v, e = .returned v ∧ ∃ (h' : Gh) (a901 : Option Addr) (c901 : Nat) (a902 : Option Addr) (c902 : Nat) (a903 : Option Addr) (c903 : Nat), v = .agg (cGFrame r a901 c901 a902 c902 a903 c903).toArray ∧ h.le h' ∧ St w0 h' w' (row rGValue 16 h' a901 c901 r.Stack :: row rGValue 16 h' a902 c902 r.Locals :: row rGSlot 48 h' a903 c903 r.Slots :: L)) := by
  refine calls_of (args := [.agg (cGFrame x0 a1 c1 a2 c2 a3 c3).toArray]) (n := 19) (rs := [.cell 2 33]) Tryz.func29 rfl rfl rfl rfl rfl ?_
  unfold r09_Copy at hr
  refine WE.seq ?_
  refine WE.region ?_
  refine WL.does kr kr (Does.box H (cGFrame x0 a1 c1 a2 c2 a3 c3) kr fun b12 w H => ?_)
  refine WL.does kr kr (Does.alloc H (cGFrame (⟨0, 0, [], [], [], 0, 0, 0, 0, 0, (⟨0, (⟨0, 0⟩ : GValue)⟩ : GOut), (⟨0, 0⟩ : GRef), 0⟩ : GFrame) none 0 none 0 none 0) kr fun b13 w H => ?_)
  refine WL.fin 0 kr kr ?_
  refine WE.seq ?_
  refine WE.region ?_
  refine WL.does kr kr (Does.lit (K := rGValue) (B := 16) (xs := []) (e := 27) H [] kr Rows.nil kr kr kr kr fun b14 w H => ?_)
  refine WL.sg 1 kr ?_
  refine WL.does kr kr (Does.loadV H 2 rfl 2 kr kr ?_)
  obtain ⟨g15, hr⟩ := grd_cases hr
  refine WL.does kr kr (Does.append (t := 24) (xt := 24) (ty := 24) (e := 27) (e2 := 27) (z := .agg #[.int .i64 0, .int .i64 0]) H 0 rfl (Gh.refl _) (ys := x0.Stack) (c2 := c1) (f1.src H) g15 kr kr kr kr fun a15 c15 w H => ?_)
  refine WL.sg 1 kr ?_
  refine WL.does kr kr (Does.storeE H 2 (cGFrame ({ x0 with Stack := (([] : List GValue) ++ x0.Stack) }) a15 c15 a2 c2 a3 c3) rfl (q := 2) kr kr kr fun w H => ?_)
  refine WL.fin 0 kr kr ?_
  refine WE.seq ?_
  refine WE.region ?_
  refine WL.does kr kr (Does.lit (K := rGValue) (B := 16) (xs := []) (e := 27) H [] kr Rows.nil kr kr kr kr fun b16 w H => ?_)
  refine WL.sg 1 kr ?_
  refine WL.does kr kr (Does.loadV H 3 rfl 3 kr kr ?_)
  obtain ⟨g17, hr⟩ := grd_cases hr
  refine WL.does kr kr (Does.append (t := 24) (xt := 24) (ty := 24) (e := 27) (e2 := 27) (z := .agg #[.int .i64 0, .int .i64 0]) H 0 rfl (Gh.refl _) (ys := x0.Locals) (c2 := c2) (f2.src H) g17 kr kr kr kr fun a17 c17 w H => ?_)
  refine WL.sg 1 kr ?_
  refine WL.does kr kr (Does.storeE H 3 (cGFrame ({ x0 with Stack := (([] : List GValue) ++ x0.Stack), Locals := (([] : List GValue) ++ x0.Locals) }) a15 c15 a17 c17 a3 c3) rfl (q := 3) kr kr kr fun w H => ?_)
  refine WL.fin 0 kr kr ?_
  refine WE.seq ?_
  refine WE.region ?_
  refine WL.does kr kr (Does.lit (K := rGSlot) (B := 48) (xs := []) (e := 77) H [] kr Rows.nil kr kr kr kr fun b18 w H => ?_)
  refine WL.sg 1 kr ?_
  refine WL.does kr kr (Does.loadV H 4 rfl 4 kr kr ?_)
  obtain ⟨g19, hr⟩ := grd_cases hr
  refine WL.does kr kr (Does.append (t := 25) (xt := 25) (ty := 25) (e := 77) (e2 := 77) (z := .agg (cGSlot (⟨0, (⟨0, 0⟩ : GRef), (⟨0, (⟨0, 0⟩ : GValue)⟩ : GOut)⟩ : GSlot)).toArray) H 0 rfl (Gh.refl _) (ys := x0.Slots) (c2 := c3) (f3.src H) g19 kr kr kr kr fun a19 c19 w H => ?_)
  refine WL.sg 1 kr ?_
  refine WL.does kr kr (Does.storeE H 4 (cGFrame ({ x0 with Stack := (([] : List GValue) ++ x0.Stack), Locals := (([] : List GValue) ++ x0.Locals), Slots := (([] : List GSlot) ++ x0.Slots) }) a15 c15 a17 c17 a19 c19) rfl (q := 4) kr kr kr fun w H => ?_)
  refine WL.fin 0 kr kr ?_
  refine WE.seq ?_
  refine WE.region ?_
  refine WL.does kr kr (Does.loadV H 4 rfl 0 kr kr ?_)
  refine WL.does kr kr (Does.storeE H 3 (cGFrame ({ x0 with Stack := (([] : List GValue) ++ x0.Stack), Locals := (([] : List GValue) ++ x0.Locals), Slots := (([] : List GSlot) ++ x0.Slots) }) a15 c15 a17 c17 a19 c19) rfl (q := 0) kr kr kr fun w H => ?_)
  refine WL.fin 0 kr kr ?_
  obtain rfl := Option.some.inj hr
  exact WE.ret ⟨[.agg (cGFrame ({ x0 with Stack := (([] : List GValue) ++ x0.Stack), Locals := (([] : List GValue) ++ x0.Locals), Slots := (([] : List GSlot) ++ x0.Slots) }) a15 c15 a17 c17 a19 c19).toArray], ⟨⟨kr, ⟨b13, 0, none⟩, kr, H.loadVar 3 rfl 0 kr⟩, trivial⟩, ⟨h, a15, c15, a17, c17, a19, c19, rfl, (Gh.refl _), (((H.front 1 rfl).front 2 rfl).mid 3 2)⟩⟩
def r09_end (x0 : GFrame) (x1 : GOut) : GFrame × GAct :=
  ({ x0 with State := 2, Out := x1 }, (⟨4, 0, 0, 0, []⟩ : GAct))
set_option maxRecDepth 100000 in
set_option maxHeartbeats 4000000 in
theorem c_r09_end {w0 w : World} {h : Gh} {L : List Ent} (x0 : GFrame) {a1 : Option Addr} {c1 : Nat} {a2 : Option Addr} {c2 : Nat} {a3 : Option Addr} {c3 : Nat} (f1 : Sl rGValue 16 h a1 c1 x0.Stack) (f2 : Sl rGValue 16 h a2 c2 x0.Locals) (f3 : Sl rGSlot 48 h a3 c3 x0.Slots) (x1 : GOut) (H : St w0 h w L) {r : GFrame × GAct} (hr : r09_end x0 x1 = r) : Calls Tryz.prog 36 #[.agg (cGFrame x0 a1 c1 a2 c2 a3 c3).toArray, .agg #[.int .i64 x1.Trap, .int .i64 x1.V.Re, .int .i64 x1.V.Im]] w (fun e w' => ∃ v, e = .returned v ∧ ∃ (h' : Gh) (a901 : Option Addr) (c901 : Nat) (a902 : Option Addr) (c902 : Nat) (a903 : Option Addr) (c903 : Nat) (a904 : Option Addr) (c904 : Nat), v = .tuple #[.agg (cGFrame r.1 a901 c901 a902 c902 a903 c903).toArray, .agg (cGAct r.2 a904 c904).toArray] ∧ h.le h' ∧ Sl rGValue 16 h' a901 c901 r.1.Stack ∧ Sl rGValue 16 h' a902 c902 r.1.Locals ∧ Sl rGSlot 48 h' a903 c903 r.1.Slots ∧ Sl rGValue 16 h' a904 c904 r.2.Args ∧ St w0 h' w' (L)) := by
  refine calls_of (args := [.agg (cGFrame x0 a1 c1 a2 c2 a3 c3).toArray, .agg #[.int .i64 x1.Trap, .int .i64 x1.V.Re, .int .i64 x1.V.Im]]) (n := 11) (rs := [.cell 4 33, .cell 5 40]) Tryz.func36 rfl rfl rfl rfl rfl ?_
  unfold r09_end at hr
  refine WE.seq ?_
  refine WE.region ?_
  refine WL.does kr kr (Does.box H (cGFrame x0 a1 c1 a2 c2 a3 c3) kr fun b8 w H => ?_)
  refine WL.does kr kr (Does.box H [.int .i64 x1.Trap, .int .i64 x1.V.Re, .int .i64 x1.V.Im] kr fun b9 w H => ?_)
  refine WL.does kr kr (Does.alloc H (cGFrame (⟨0, 0, [], [], [], 0, 0, 0, 0, 0, (⟨0, (⟨0, 0⟩ : GValue)⟩ : GOut), (⟨0, 0⟩ : GRef), 0⟩ : GFrame) none 0 none 0 none 0) kr fun b10 w H => ?_)
  refine WL.does kr kr (Does.alloc H (cGAct (⟨0, 0, 0, 0, []⟩ : GAct) none 0) kr fun b11 w H => ?_)
  refine WL.fin 0 kr kr ?_
  refine WE.seq ?_
  refine WE.region ?_
  refine WL.sg 1 kr ?_
  refine WL.does kr kr (Does.storeE H 3 (cGFrame ({ x0 with State := 2 }) a1 c1 a2 c2 a3 c3) rfl (q := 8) kr kr kr fun w H => ?_)
  refine WL.fin 0 kr kr ?_
  refine WE.seq ?_
  refine WE.region ?_
  refine WL.does kr kr (Does.loadV H 2 rfl 0 kr kr ?_)
  refine WL.sg 1 kr ?_
  refine WL.does kr kr (Does.storeE H 3 (cGFrame ({ x0 with State := 2, Out := x1 }) a1 c1 a2 c2 a3 c3) rfl (q := 10) kr kr kr fun w H => ?_)
  refine WL.fin 0 kr kr ?_
  refine WE.seq ?_
  refine WE.region ?_
  refine WL.does kr kr (Does.loadV H 3 rfl 0 kr kr ?_)
  refine WL.sg 1 kr ?_
  refine WL.does kr kr (Does.storeE H 1 (cGFrame ({ x0 with State := 2, Out := x1 }) a1 c1 a2 c2 a3 c3) rfl (q := 0) kr kr kr fun w H => ?_)
  refine WL.does kr kr (Does.storeE H 0 (cGAct (⟨4, 0, 0, 0, []⟩ : GAct) none 0) rfl (q := 0) kr kr kr fun w H => ?_)
  refine WL.fin 0 kr kr ?_
  obtain rfl := hr
  exact WE.ret ⟨[.agg (cGFrame ({ x0 with State := 2, Out := x1 }) a1 c1 a2 c2 a3 c3).toArray, .agg (cGAct (⟨4, 0, 0, 0, []⟩ : GAct) none 0).toArray], ⟨⟨kr, ⟨b10, 0, none⟩, kr, H.loadVar 1 rfl 0 kr⟩, ⟨kr, ⟨b11, 0, none⟩, kr, H.loadVar 0 rfl 0 kr⟩, trivial⟩, ⟨h, a1, c1, a2, c2, a3, c3, none, 0, rfl, (Gh.refl _), f1, f2, f3, (Sl.nil _ _ (Nat.zero_le _)), (H.keep 4)⟩⟩
def r09_trap (x0 : GFrame) (x1 : Int) : GFrame × GAct :=
  bnd (r09_end x0 (⟨x1, (⟨0, 0⟩ : GValue)⟩ : GOut)) fun y15 =>
  (y15.1, y15.2)
set_option maxRecDepth 100000 in
set_option maxHeartbeats 4000000 in
theorem c_r09_trap {w0 w : World} {h : Gh} {L : List Ent} (x0 : GFrame) {a1 : Option Addr} {c1 : Nat} {a2 : Option Addr} {c2 : Nat} {a3 : Option Addr} {c3 : Nat} (f1 : Sl rGValue 16 h a1 c1 x0.Stack) (f2 : Sl rGValue 16 h a2 c2 x0.Locals) (f3 : Sl rGSlot 48 h a3 c3 x0.Slots) (x1 : Int) (H : St w0 h w L) {r : GFrame × GAct} (hr : r09_trap x0 x1 = r) : Calls Tryz.prog 31 #[.agg (cGFrame x0 a1 c1 a2 c2 a3 c3).toArray, .int .i64 x1] w (fun e w' => ∃ v, e = .returned v ∧ ∃ (h' : Gh) (a901 : Option Addr) (c901 : Nat) (a902 : Option Addr) (c902 : Nat) (a903 : Option Addr) (c903 : Nat) (a904 : Option Addr) (c904 : Nat), v = .tuple #[.agg (cGFrame r.1 a901 c901 a902 c902 a903 c903).toArray, .agg (cGAct r.2 a904 c904).toArray] ∧ h.le h' ∧ Sl rGValue 16 h' a901 c901 r.1.Stack ∧ Sl rGValue 16 h' a902 c902 r.1.Locals ∧ Sl rGSlot 48 h' a903 c903 r.1.Slots ∧ Sl rGValue 16 h' a904 c904 r.2.Args ∧ St w0 h' w' (L)) := by
  refine calls_of (args := [.agg (cGFrame x0 a1 c1 a2 c2 a3 c3).toArray, .int .i64 x1]) (n := 12) (rs := [.cell 4 33, .cell 5 40]) Tryz.func31 rfl rfl rfl rfl rfl ?_
  unfold r09_trap at hr
  refine WE.seq ?_
  refine WE.region ?_
  refine WL.does kr kr (Does.box H (cGFrame x0 a1 c1 a2 c2 a3 c3) kr fun b12 w H => ?_)
  refine WL.does kr kr (Does.alloc H (cGFrame (⟨0, 0, [], [], [], 0, 0, 0, 0, 0, (⟨0, (⟨0, 0⟩ : GValue)⟩ : GOut), (⟨0, 0⟩ : GRef), 0⟩ : GFrame) none 0 none 0 none 0) kr fun b13 w H => ?_)
  refine WL.does kr kr (Does.alloc H (cGAct (⟨0, 0, 0, 0, []⟩ : GAct) none 0) kr fun b14 w H => ?_)
  refine WL.fin 0 kr kr ?_
  refine WE.seq ?_
  refine WE.region ?_
  refine WL.does kr kr (Does.loadV H 2 rfl 0 kr kr ?_)
  obtain ⟨y15, q15, hr⟩ := bnd_cases hr
  refine WL.sg 2 kr ?_
  refine WL.does kr kr (Does.call (c_r09_end x0 f1 f2 f3 (⟨x1, (⟨0, 0⟩ : GValue)⟩ : GOut) H q15) kr ?_)
  rintro _ w ⟨h15, a16, c16, a17, c17, a18, c18, a19, c19, rfl, le15, f16, f17, f18, f19, H⟩
  refine WL.sg 2 kr ?_
  refine WL.does kr kr (Does.storeE H 1 (cGFrame y15.1 a16 c16 a17 c17 a18 c18) rfl (q := 0) kr kr kr fun w H => ?_)
  refine WL.does kr kr (Does.storeE H 0 (cGAct y15.2 a19 c19) rfl (q := 0) kr kr kr fun w H => ?_)
  refine WL.fin 0 kr kr ?_
  obtain rfl := hr
  exact WE.ret ⟨[.agg (cGFrame y15.1 a16 c16 a17 c17 a18 c18).toArray, .agg (cGAct y15.2 a19 c19).toArray], ⟨⟨kr, ⟨b13, 0, none⟩, kr, H.loadVar 1 rfl 0 kr⟩, ⟨kr, ⟨b14, 0, none⟩, kr, H.loadVar 0 rfl 0 kr⟩, trivial⟩, ⟨h15, a16, c16, a17, c17, a18, c18, a19, c19, rfl, le15, f16, f17, f18, f19, (H.keep 3)⟩⟩
def r09_there (x0 : List GFunc) (x1 : GFrame) (x2 : GInstr) : Bool :=
  bnd (
      if x2.Op == 1 then
        true
      else
        x2.Op == 2) fun y7 =>
  bnd (
      if y7 then
        decide (x2.A ≥ (x1.Locals.length : Int))
      else
        false) fun y8 =>
  bnd (
      if x2.Op == 14 then
        decide (x2.A ≥ (x1.Slots.length : Int))
      else
        false) fun y9 =>
  bnd (
      if y9 then
        true
      else
        bnd (
            if x2.Op == 13 then
              decide (x2.B ≥ (x1.Slots.length : Int))
            else
              false) fun y18 =>
        y18) fun y10 =>
  bnd (r06_May x2) fun y12 =>
  bnd (
      if y12 then
        !y8
      else
        false) fun y13 =>
  bnd (
      if y13 then
        !y10
      else
        false) fun y14 =>
  bnd (
      if y14 then
        bnd (
            if x2.Op != 13 then
              true
            else
              decide (x2.A < (x0.length : Int))) fun y17 =>
        y17
      else
        false) fun y15 =>
  y15
set_option maxRecDepth 100000 in
set_option maxHeartbeats 4000000 in
theorem c_r09_there {w0 w : World} {h : Gh} {L : List Ent} (x0 : List GFunc) {a1 : Option Addr} {c1 : Nat} (f1 : Sl rGFunc 48 h a1 c1 x0) (x1 : GFrame) {a2 : Option Addr} {c2 : Nat} {a3 : Option Addr} {c3 : Nat} {a4 : Option Addr} {c4 : Nat} (f2 : Sl rGValue 16 h a2 c2 x1.Stack) (f3 : Sl rGValue 16 h a3 c3 x1.Locals) (f4 : Sl rGSlot 48 h a4 c4 x1.Slots) (x2 : GInstr) (H : St w0 h w L) {r : Bool} (hr : r09_there x0 x1 x2 = r) : Calls Tryz.prog 30 #[.slice a1 x0.length c1, .agg (cGFrame x1 a2 c2 a3 c3 a4 c4).toArray, .agg #[.int .i64 x2.Op, .int .i64 x2.A, .int .i64 x2.B]] w (fun e w' => ∃ v, e = .returned v ∧ v = .bool r ∧ St w0 h w' (L)) := by
  refine calls_of (args := [.slice a1 x0.length c1, .agg (cGFrame x1 a2 c2 a3 c3 a4 c4).toArray, .agg #[.int .i64 x2.Op, .int .i64 x2.A, .int .i64 x2.B]]) (n := 71) (rs := [.tmp 6]) Tryz.func30 rfl rfl rfl rfl rfl ?_
  unfold r09_there at hr
  refine WE.seq ?_
  refine WE.region ?_
  refine WL.does kr kr (Does.box H (cGFrame x1 a2 c2 a3 c3 a4 c4) kr fun b5 w H => ?_)
  refine WL.does kr kr (Does.box H [.int .i64 x2.Op, .int .i64 x2.A, .int .i64 x2.B] kr fun b6 w H => ?_)
  refine WL.fin 1 kr kr ?_
  refine WE.seq ?_
  refine WE.region ?_
  refine WL.sg 1 kr ?_
  refine WL.does kr kr (Does.loadV H 0 rfl 0 kr kr ?_)
  refine WL.sg 2 kr ?_
  obtain ⟨y7, hy7, hr⟩ := bnd_cases hr
  refine WL.join 4 (fun (_ : Unit) => [(0, .slice a1 x0.length c1), (4, .pointer (some ⟨b5, 0, none⟩)), (5, .pointer (some ⟨b6, 0, none⟩)), (16, .bool y7)]) (fun (_ : Unit) w => St w0 h w (var b6 [.int .i64 x2.Op, .int .i64 x2.A, .int .i64 x2.B] 58 :: var b5 (cGFrame x1 a2 c2 a3 c3 a4 c4) 33 :: L)) ?_ (fun hk_y7 => ?_)
  {
  rintro _ w H
  refine WL.sg 1 kr ?_
  obtain ⟨y8, hy8, hr⟩ := bnd_cases hr
  refine WL.join 7 (fun (_ : Unit) => [(0, .slice a1 x0.length c1), (4, .pointer (some ⟨b5, 0, none⟩)), (5, .pointer (some ⟨b6, 0, none⟩)), (24, .bool y8)]) (fun (_ : Unit) w => St w0 h w (var b6 [.int .i64 x2.Op, .int .i64 x2.A, .int .i64 x2.B] 58 :: var b5 (cGFrame x1 a2 c2 a3 c3 a4 c4) 33 :: L)) ?_ (fun hk_y8 => ?_)
  {
  rintro _ w H
  refine WL.fin 1 kr kr ?_
  refine WE.seq ?_
  refine WE.region ?_
  refine WL.sg 1 kr ?_
  refine WL.does kr kr (Does.loadV H 0 rfl 0 kr kr ?_)
  refine WL.sg 2 kr ?_
  obtain ⟨y9, hy9, hr⟩ := bnd_cases hr
  refine WL.join 7 (fun (_ : Unit) => [(0, .slice a1 x0.length c1), (4, .pointer (some ⟨b5, 0, none⟩)), (5, .pointer (some ⟨b6, 0, none⟩)), (7, .bool y8), (35, .bool y9)]) (fun (_ : Unit) w => St w0 h w (var b6 [.int .i64 x2.Op, .int .i64 x2.A, .int .i64 x2.B] 58 :: var b5 (cGFrame x1 a2 c2 a3 c3 a4 c4) 33 :: L)) ?_ (fun hk_y9 => ?_)
  {
  rintro _ w H
  refine WL.sg 1 kr ?_
  obtain ⟨y10, hy10, hr⟩ := bnd_cases hr
  refine WL.join 12 (fun (_ : Unit) => [(0, .slice a1 x0.length c1), (5, .pointer (some ⟨b6, 0, none⟩)), (7, .bool y8), (48, .bool y10)]) (fun (_ : Unit) w => St w0 h w (var b6 [.int .i64 x2.Op, .int .i64 x2.A, .int .i64 x2.B] 58 :: var b5 (cGFrame x1 a2 c2 a3 c3 a4 c4) 33 :: L)) ?_ (fun hk_y10 => ?_)
  {
  rintro _ w H
  refine WL.fin 1 kr kr ?_
  refine WE.seq ?_
  refine WE.region ?_
  refine WL.does kr kr (Does.loadV H 0 rfl 0 kr kr ?_)
  obtain ⟨y12, q12, hr⟩ := bnd_cases hr
  refine WL.does kr kr (Does.call (c_r06_May x2 H q12) kr ?_)
  rintro _ w ⟨rfl, H⟩
  refine WL.sg 1 kr ?_
  obtain ⟨y13, hy13, hr⟩ := bnd_cases hr
  refine WL.join 3 (fun (_ : Unit) => [(0, .slice a1 x0.length c1), (5, .pointer (some ⟨b6, 0, none⟩)), (8, .bool y10), (54, .bool y13)]) (fun (_ : Unit) w => St w0 h w (var b6 [.int .i64 x2.Op, .int .i64 x2.A, .int .i64 x2.B] 58 :: var b5 (cGFrame x1 a2 c2 a3 c3 a4 c4) 33 :: L)) ?_ (fun hk_y13 => ?_)
  {
  rintro _ w H
  refine WL.sg 1 kr ?_
  obtain ⟨y14, hy14, hr⟩ := bnd_cases hr
  refine WL.join 3 (fun (_ : Unit) => [(0, .slice a1 x0.length c1), (5, .pointer (some ⟨b6, 0, none⟩)), (58, .bool y14)]) (fun (_ : Unit) w => St w0 h w (var b6 [.int .i64 x2.Op, .int .i64 x2.A, .int .i64 x2.B] 58 :: var b5 (cGFrame x1 a2 c2 a3 c3 a4 c4) 33 :: L)) ?_ (fun hk_y14 => ?_)
  {
  rintro _ w H
  refine WL.sg 1 kr ?_
  obtain ⟨y15, hy15, hr⟩ := bnd_cases hr
  refine WL.join 11 (fun (_ : Unit) => [(70, .bool y15)]) (fun (_ : Unit) w => St w0 h w (var b6 [.int .i64 x2.Op, .int .i64 x2.A, .int .i64 x2.B] 58 :: var b5 (cGFrame x1 a2 c2 a3 c3 a4 c4) 33 :: L)) ?_ (fun hk_y15 => ?_)
  {
  rintro _ w H
  refine WL.fin 1 kr kr ?_
  obtain rfl := hr
  exact WE.ret ⟨[.bool y15], ⟨⟨kr, kr⟩, trivial⟩, ⟨rfl, (H.keep 2)⟩⟩
  }
  rcases ite_cases hy15 with ⟨ty15, hy15⟩ | ⟨ty15, hy15⟩
  {
  refine WL.known 59 ty15 kr kr ?_
  refine WL.sg 1 kr ?_
  refine WL.does kr kr (Does.loadV H 0 rfl 0 kr kr ?_)
  refine WL.sg 2 kr ?_
  obtain ⟨y17, hy17, hy15⟩ := bnd_cases hy15
  refine WL.join 6 (fun (_ : Unit) => [(59, .bool true), (69, .bool y17)]) (fun (_ : Unit) w => St w0 h w (var b6 [.int .i64 x2.Op, .int .i64 x2.A, .int .i64 x2.B] 58 :: var b5 (cGFrame x1 a2 c2 a3 c3 a4 c4) 33 :: L)) ?_ (fun hk_y17 => ?_)
  {
  rintro _ w H
  refine WL.sg 1 kr ?_
  obtain rfl := hy15
  exact WL.live [70] kr (hk_y15 () _ H)
  }
  rcases ite_cases hy17 with ⟨ty17, hy17⟩ | ⟨ty17, hy17⟩
  {
  refine WL.known 63 ty17 kr kr ?_
  refine WL.sg 6 kr ?_
  obtain rfl := hy17
  exact WL.live [59, 69] kr (hk_y17 () _ H)
  }
  {
  refine WL.known 63 ty17 kr kr ?_
  refine WL.sg 1 kr ?_
  refine WL.does kr kr (Does.loadV H 0 rfl 1 kr kr ?_)
  refine WL.sg 4 kr ?_
  obtain rfl := hy17
  exact WL.live [59, 69] kr (hk_y17 () _ H)
  }
  }
  {
  refine WL.known 59 ty15 kr kr ?_
  refine WL.sg 11 kr ?_
  obtain rfl := hy15
  exact WL.live [70] kr (hk_y15 () _ H)
  }
  }
  rcases ite_cases hy14 with ⟨ty14, hy14⟩ | ⟨ty14, hy14⟩
  {
  refine WL.known 55 ty14 kr kr ?_
  refine WL.sg 3 kr ?_
  obtain rfl := hy14
  exact WL.live [0, 5, 58] kr (hk_y14 () _ H)
  }
  {
  refine WL.known 55 ty14 kr kr ?_
  refine WL.sg 3 kr ?_
  obtain rfl := hy14
  exact WL.live [0, 5, 58] kr (hk_y14 () _ H)
  }
  }
  rcases ite_cases hy13 with ⟨ty13, hy13⟩ | ⟨ty13, hy13⟩
  {
  refine WL.known 51 ty13 kr kr ?_
  refine WL.sg 3 kr ?_
  obtain rfl := hy13
  exact WL.live [0, 5, 8, 54] kr (hk_y13 () _ H)
  }
  {
  refine WL.known 51 ty13 kr kr ?_
  refine WL.sg 3 kr ?_
  obtain rfl := hy13
  exact WL.live [0, 5, 8, 54] kr (hk_y13 () _ H)
  }
  }
  rcases ite_cases hy10 with ⟨ty10, hy10⟩ | ⟨ty10, hy10⟩
  {
  refine WL.known 36 ty10 kr kr ?_
  refine WL.sg 12 kr ?_
  obtain rfl := hy10
  exact WL.live [0, 5, 7, 48] kr (hk_y10 () _ H)
  }
  {
  refine WL.known 36 ty10 kr kr ?_
  refine WL.sg 1 kr ?_
  refine WL.does kr kr (Does.loadV H 0 rfl 0 kr kr ?_)
  refine WL.sg 2 kr ?_
  obtain ⟨y18, hy18, hy10⟩ := bnd_cases hy10
  refine WL.join 7 (fun (_ : Unit) => [(0, .slice a1 x0.length c1), (5, .pointer (some ⟨b6, 0, none⟩)), (7, .bool y8), (36, .bool false), (47, .bool y18)]) (fun (_ : Unit) w => St w0 h w (var b6 [.int .i64 x2.Op, .int .i64 x2.A, .int .i64 x2.B] 58 :: var b5 (cGFrame x1 a2 c2 a3 c3 a4 c4) 33 :: L)) ?_ (fun hk_y18 => ?_)
  {
  rintro _ w H
  refine WL.sg 1 kr ?_
  obtain rfl := hy10
  exact WL.live [0, 5, 7, 48] kr (hk_y10 () _ H)
  }
  rcases ite_cases hy18 with ⟨ty18, hy18⟩ | ⟨ty18, hy18⟩
  {
  refine WL.known 40 ty18 kr kr ?_
  refine WL.sg 1 kr ?_
  refine WL.does kr kr (Does.loadV H 0 rfl 2 kr kr ?_)
  refine WL.sg 1 kr ?_
  refine WL.does kr kr (Does.loadV H 1 rfl 4 kr kr ?_)
  refine WL.sg 3 kr ?_
  obtain rfl := hy18
  exact WL.live [0, 5, 7, 36, 47] kr (hk_y18 () _ H)
  }
  {
  refine WL.known 40 ty18 kr kr ?_
  refine WL.sg 7 kr ?_
  obtain rfl := hy18
  exact WL.live [0, 5, 7, 36, 47] kr (hk_y18 () _ H)
  }
  }
  }
  rcases ite_cases hy9 with ⟨ty9, hy9⟩ | ⟨ty9, hy9⟩
  {
  refine WL.known 28 ty9 kr kr ?_
  refine WL.sg 1 kr ?_
  refine WL.does kr kr (Does.loadV H 0 rfl 1 kr kr ?_)
  refine WL.sg 1 kr ?_
  refine WL.does kr kr (Does.loadV H 1 rfl 4 kr kr ?_)
  refine WL.sg 3 kr ?_
  obtain rfl := hy9
  exact WL.live [0, 4, 5, 7, 35] kr (hk_y9 () _ H)
  }
  {
  refine WL.known 28 ty9 kr kr ?_
  refine WL.sg 7 kr ?_
  obtain rfl := hy9
  exact WL.live [0, 4, 5, 7, 35] kr (hk_y9 () _ H)
  }
  }
  rcases ite_cases hy8 with ⟨ty8, hy8⟩ | ⟨ty8, hy8⟩
  {
  refine WL.known 17 ty8 kr kr ?_
  refine WL.sg 1 kr ?_
  refine WL.does kr kr (Does.loadV H 0 rfl 1 kr kr ?_)
  refine WL.sg 1 kr ?_
  refine WL.does kr kr (Does.loadV H 1 rfl 3 kr kr ?_)
  refine WL.sg 3 kr ?_
  obtain rfl := hy8
  exact WL.live [0, 4, 5, 24] kr (hk_y8 () _ H)
  }
  {
  refine WL.known 17 ty8 kr kr ?_
  refine WL.sg 7 kr ?_
  obtain rfl := hy8
  exact WL.live [0, 4, 5, 24] kr (hk_y8 () _ H)
  }
  }
  rcases ite_cases hy7 with ⟨ty7, hy7⟩ | ⟨ty7, hy7⟩
  {
  refine WL.known 12 ty7 kr kr ?_
  refine WL.sg 4 kr ?_
  obtain rfl := hy7
  exact WL.live [0, 4, 5, 16] kr (hk_y7 () _ H)
  }
  {
  refine WL.known 12 ty7 kr kr ?_
  refine WL.sg 1 kr ?_
  refine WL.does kr kr (Does.loadV H 0 rfl 0 kr kr ?_)
  refine WL.sg 2 kr ?_
  obtain rfl := hy7
  exact WL.live [0, 4, 5, 16] kr (hk_y7 () _ H)
  }
def r06_Off (x0 : Int) : Int :=
  if x0 == 3 then
    if x0 == 3 then
      2
    else
      if x0 == 2 then
        if x0 == 2 then
          1
        else
          0
      else
        if x0 == 7 then
          if x0 == 7 then
            1
          else
            0
        else
          if x0 == 8 then
            if x0 == 8 then
              1
            else
              0
          else
            if x0 == 9 then
              if x0 == 9 then
                1
              else
                0
            else
              if x0 == 11 then
                if x0 == 11 then
                  1
                else
                  0
              else
                if x0 == 15 then
                  1
                else
                  0
  else
    if x0 == 4 then
      if x0 == 4 then
        2
      else
        if x0 == 2 then
          if x0 == 2 then
            1
          else
            0
        else
          if x0 == 7 then
            if x0 == 7 then
              1
            else
              0
          else
            if x0 == 8 then
              if x0 == 8 then
                1
              else
                0
            else
              if x0 == 9 then
                if x0 == 9 then
                  1
                else
                  0
              else
                if x0 == 11 then
                  if x0 == 11 then
                    1
                  else
                    0
                else
                  if x0 == 15 then
                    1
                  else
                    0
    else
      if x0 == 5 then
        if x0 == 5 then
          2
        else
          if x0 == 2 then
            if x0 == 2 then
              1
            else
              0
          else
            if x0 == 7 then
              if x0 == 7 then
                1
              else
                0
            else
              if x0 == 8 then
                if x0 == 8 then
                  1
                else
                  0
              else
                if x0 == 9 then
                  if x0 == 9 then
                    1
                  else
                    0
                else
                  if x0 == 11 then
                    if x0 == 11 then
                      1
                    else
                      0
                  else
                    if x0 == 15 then
                      1
                    else
                      0
      else
        if x0 == 6 then
          2
        else
          if x0 == 2 then
            if x0 == 2 then
              1
            else
              0
          else
            if x0 == 7 then
              if x0 == 7 then
                1
              else
                0
            else
              if x0 == 8 then
                if x0 == 8 then
                  1
                else
                  0
              else
                if x0 == 9 then
                  if x0 == 9 then
                    1
                  else
                    0
                else
                  if x0 == 11 then
                    if x0 == 11 then
                      1
                    else
                      0
                  else
                    if x0 == 15 then
                      1
                    else
                      0
set_option maxRecDepth 100000 in
set_option maxHeartbeats 4000000 in
theorem c_r06_Off {w0 w : World} {h : Gh} {L : List Ent} (x0 : Int) (H : St w0 h w L) {r : Int} (hr : r06_Off x0 = r) : Calls Tryz.prog 69 #[.int .i64 x0] w (fun e w' => ∃ v, e = .returned v ∧ v = .int .i64 r ∧ St w0 h w' (L)) := by
  refine calls_of (args := [.int .i64 x0]) (n := 16) (rs := [.tmp 2]) Tryz.func69 rfl rfl rfl rfl rfl ?_
  unfold r06_Off at hr
  refine WE.seq ?_
  refine WE.region ?_
  refine WL.fin 1 kr kr ?_
  refine WE.seq ?_
  refine WE.seq ?_
  refine WE.region ?_
  refine WL.fin 1 kr kr ?_
  refine WE.block ?_
  refine WE.seq ?_
  refine WE.seq ?_
  refine WE.region ?_
  refine WL.fin 2 kr kr ?_
  rcases ite_cases hr with ⟨t1, hr⟩ | ⟨t1, hr⟩
  {
  refine WE.yes kr (b := x0 == 3) kr t1 ?_
  refine WE.skip ?_
  rcases ite_cases hr with ⟨t2, hr⟩ | ⟨t2, hr⟩
  {
  refine WE.yes kr (b := x0 == 3) kr t2 ?_
  refine WE.seq ?_
  refine WE.region ?_
  refine WL.fin 1 kr kr ?_
  obtain rfl := hr
  exact WE.ret ⟨[.int .i64 2], ⟨⟨kr, kr⟩, trivial⟩, ⟨rfl, H⟩⟩
  }
  {
  refine WE.no kr (b := x0 == 3) kr t2 ?_
  refine WE.seq ?_
  refine WE.seq ?_
  refine WE.region ?_
  refine WL.fin 2 kr kr ?_
  rcases ite_cases hr with ⟨t3, hr⟩ | ⟨t3, hr⟩
  {
  refine WE.yes kr (b := x0 == 2) kr t3 ?_
  refine WE.skip ?_
  rcases ite_cases hr with ⟨t4, hr⟩ | ⟨t4, hr⟩
  {
  refine WE.yes kr (b := x0 == 2) kr t4 ?_
  refine WE.seq ?_
  refine WE.region ?_
  refine WL.fin 1 kr kr ?_
  obtain rfl := hr
  exact WE.ret ⟨[.int .i64 1], ⟨⟨kr, kr⟩, trivial⟩, ⟨rfl, H⟩⟩
  }
  {
  refine WE.no kr (b := x0 == 2) kr t4 ?_
  refine WE.skip ?_
  refine WE.seq ?_
  refine WE.region ?_
  refine WL.fin 1 kr kr ?_
  obtain rfl := hr
  exact WE.ret ⟨[.int .i64 0], ⟨⟨kr, kr⟩, trivial⟩, ⟨rfl, H⟩⟩
  }
  }
  {
  refine WE.no kr (b := x0 == 2) kr t3 ?_
  refine WE.seq ?_
  refine WE.region ?_
  refine WL.fin 2 kr kr ?_
  rcases ite_cases hr with ⟨t5, hr⟩ | ⟨t5, hr⟩
  {
  refine WE.yes kr (b := x0 == 7) kr t5 ?_
  refine WE.skip ?_
  rcases ite_cases hr with ⟨t6, hr⟩ | ⟨t6, hr⟩
  {
  refine WE.yes kr (b := x0 == 7) kr t6 ?_
  refine WE.seq ?_
  refine WE.region ?_
  refine WL.fin 1 kr kr ?_
  obtain rfl := hr
  exact WE.ret ⟨[.int .i64 1], ⟨⟨kr, kr⟩, trivial⟩, ⟨rfl, H⟩⟩
  }
  {
  refine WE.no kr (b := x0 == 7) kr t6 ?_
  refine WE.skip ?_
  refine WE.seq ?_
  refine WE.region ?_
  refine WL.fin 1 kr kr ?_
  obtain rfl := hr
  exact WE.ret ⟨[.int .i64 0], ⟨⟨kr, kr⟩, trivial⟩, ⟨rfl, H⟩⟩
  }
  }
  {
  refine WE.no kr (b := x0 == 7) kr t5 ?_
  refine WE.seq ?_
  refine WE.region ?_
  refine WL.fin 2 kr kr ?_
  rcases ite_cases hr with ⟨t7, hr⟩ | ⟨t7, hr⟩
  {
  refine WE.yes kr (b := x0 == 8) kr t7 ?_
  refine WE.skip ?_
  rcases ite_cases hr with ⟨t8, hr⟩ | ⟨t8, hr⟩
  {
  refine WE.yes kr (b := x0 == 8) kr t8 ?_
  refine WE.seq ?_
  refine WE.region ?_
  refine WL.fin 1 kr kr ?_
  obtain rfl := hr
  exact WE.ret ⟨[.int .i64 1], ⟨⟨kr, kr⟩, trivial⟩, ⟨rfl, H⟩⟩
  }
  {
  refine WE.no kr (b := x0 == 8) kr t8 ?_
  refine WE.skip ?_
  refine WE.seq ?_
  refine WE.region ?_
  refine WL.fin 1 kr kr ?_
  obtain rfl := hr
  exact WE.ret ⟨[.int .i64 0], ⟨⟨kr, kr⟩, trivial⟩, ⟨rfl, H⟩⟩
  }
  }
  {
  refine WE.no kr (b := x0 == 8) kr t7 ?_
  refine WE.seq ?_
  refine WE.region ?_
  refine WL.fin 2 kr kr ?_
  rcases ite_cases hr with ⟨t9, hr⟩ | ⟨t9, hr⟩
  {
  refine WE.yes kr (b := x0 == 9) kr t9 ?_
  refine WE.skip ?_
  rcases ite_cases hr with ⟨t10, hr⟩ | ⟨t10, hr⟩
  {
  refine WE.yes kr (b := x0 == 9) kr t10 ?_
  refine WE.seq ?_
  refine WE.region ?_
  refine WL.fin 1 kr kr ?_
  obtain rfl := hr
  exact WE.ret ⟨[.int .i64 1], ⟨⟨kr, kr⟩, trivial⟩, ⟨rfl, H⟩⟩
  }
  {
  refine WE.no kr (b := x0 == 9) kr t10 ?_
  refine WE.skip ?_
  refine WE.seq ?_
  refine WE.region ?_
  refine WL.fin 1 kr kr ?_
  obtain rfl := hr
  exact WE.ret ⟨[.int .i64 0], ⟨⟨kr, kr⟩, trivial⟩, ⟨rfl, H⟩⟩
  }
  }
  {
  refine WE.no kr (b := x0 == 9) kr t9 ?_
  refine WE.seq ?_
  refine WE.region ?_
  refine WL.fin 2 kr kr ?_
  rcases ite_cases hr with ⟨t11, hr⟩ | ⟨t11, hr⟩
  {
  refine WE.yes kr (b := x0 == 11) kr t11 ?_
  refine WE.skip ?_
  rcases ite_cases hr with ⟨t12, hr⟩ | ⟨t12, hr⟩
  {
  refine WE.yes kr (b := x0 == 11) kr t12 ?_
  refine WE.seq ?_
  refine WE.region ?_
  refine WL.fin 1 kr kr ?_
  obtain rfl := hr
  exact WE.ret ⟨[.int .i64 1], ⟨⟨kr, kr⟩, trivial⟩, ⟨rfl, H⟩⟩
  }
  {
  refine WE.no kr (b := x0 == 11) kr t12 ?_
  refine WE.skip ?_
  refine WE.seq ?_
  refine WE.region ?_
  refine WL.fin 1 kr kr ?_
  obtain rfl := hr
  exact WE.ret ⟨[.int .i64 0], ⟨⟨kr, kr⟩, trivial⟩, ⟨rfl, H⟩⟩
  }
  }
  {
  refine WE.no kr (b := x0 == 11) kr t11 ?_
  refine WE.region ?_
  refine WL.fin 2 kr kr ?_
  rcases ite_cases hr with ⟨t13, hr⟩ | ⟨t13, hr⟩
  {
  refine WE.yes kr (b := x0 == 15) kr t13 ?_
  refine WE.seq ?_
  refine WE.region ?_
  refine WL.fin 1 kr kr ?_
  obtain rfl := hr
  exact WE.ret ⟨[.int .i64 1], ⟨⟨kr, kr⟩, trivial⟩, ⟨rfl, H⟩⟩
  }
  {
  refine WE.no kr (b := x0 == 15) kr t13 ?_
  refine WE.skip ?_
  refine WE.seq ?_
  refine WE.region ?_
  refine WL.fin 1 kr kr ?_
  obtain rfl := hr
  exact WE.ret ⟨[.int .i64 0], ⟨⟨kr, kr⟩, trivial⟩, ⟨rfl, H⟩⟩
  }
  }
  }
  }
  }
  }
  }
  }
  {
  refine WE.no kr (b := x0 == 3) kr t1 ?_
  refine WE.seq ?_
  refine WE.region ?_
  refine WL.fin 2 kr kr ?_
  rcases ite_cases hr with ⟨t14, hr⟩ | ⟨t14, hr⟩
  {
  refine WE.yes kr (b := x0 == 4) kr t14 ?_
  refine WE.skip ?_
  rcases ite_cases hr with ⟨t15, hr⟩ | ⟨t15, hr⟩
  {
  refine WE.yes kr (b := x0 == 4) kr t15 ?_
  refine WE.seq ?_
  refine WE.region ?_
  refine WL.fin 1 kr kr ?_
  obtain rfl := hr
  exact WE.ret ⟨[.int .i64 2], ⟨⟨kr, kr⟩, trivial⟩, ⟨rfl, H⟩⟩
  }
  {
  refine WE.no kr (b := x0 == 4) kr t15 ?_
  refine WE.seq ?_
  refine WE.seq ?_
  refine WE.region ?_
  refine WL.fin 2 kr kr ?_
  rcases ite_cases hr with ⟨t16, hr⟩ | ⟨t16, hr⟩
  {
  refine WE.yes kr (b := x0 == 2) kr t16 ?_
  refine WE.skip ?_
  rcases ite_cases hr with ⟨t17, hr⟩ | ⟨t17, hr⟩
  {
  refine WE.yes kr (b := x0 == 2) kr t17 ?_
  refine WE.seq ?_
  refine WE.region ?_
  refine WL.fin 1 kr kr ?_
  obtain rfl := hr
  exact WE.ret ⟨[.int .i64 1], ⟨⟨kr, kr⟩, trivial⟩, ⟨rfl, H⟩⟩
  }
  {
  refine WE.no kr (b := x0 == 2) kr t17 ?_
  refine WE.skip ?_
  refine WE.seq ?_
  refine WE.region ?_
  refine WL.fin 1 kr kr ?_
  obtain rfl := hr
  exact WE.ret ⟨[.int .i64 0], ⟨⟨kr, kr⟩, trivial⟩, ⟨rfl, H⟩⟩
  }
  }
  {
  refine WE.no kr (b := x0 == 2) kr t16 ?_
  refine WE.seq ?_
  refine WE.region ?_
  refine WL.fin 2 kr kr ?_
  rcases ite_cases hr with ⟨t18, hr⟩ | ⟨t18, hr⟩
  {
  refine WE.yes kr (b := x0 == 7) kr t18 ?_
  refine WE.skip ?_
  rcases ite_cases hr with ⟨t19, hr⟩ | ⟨t19, hr⟩
  {
  refine WE.yes kr (b := x0 == 7) kr t19 ?_
  refine WE.seq ?_
  refine WE.region ?_
  refine WL.fin 1 kr kr ?_
  obtain rfl := hr
  exact WE.ret ⟨[.int .i64 1], ⟨⟨kr, kr⟩, trivial⟩, ⟨rfl, H⟩⟩
  }
  {
  refine WE.no kr (b := x0 == 7) kr t19 ?_
  refine WE.skip ?_
  refine WE.seq ?_
  refine WE.region ?_
  refine WL.fin 1 kr kr ?_
  obtain rfl := hr
  exact WE.ret ⟨[.int .i64 0], ⟨⟨kr, kr⟩, trivial⟩, ⟨rfl, H⟩⟩
  }
  }
  {
  refine WE.no kr (b := x0 == 7) kr t18 ?_
  refine WE.seq ?_
  refine WE.region ?_
  refine WL.fin 2 kr kr ?_
  rcases ite_cases hr with ⟨t20, hr⟩ | ⟨t20, hr⟩
  {
  refine WE.yes kr (b := x0 == 8) kr t20 ?_
  refine WE.skip ?_
  rcases ite_cases hr with ⟨t21, hr⟩ | ⟨t21, hr⟩
  {
  refine WE.yes kr (b := x0 == 8) kr t21 ?_
  refine WE.seq ?_
  refine WE.region ?_
  refine WL.fin 1 kr kr ?_
  obtain rfl := hr
  exact WE.ret ⟨[.int .i64 1], ⟨⟨kr, kr⟩, trivial⟩, ⟨rfl, H⟩⟩
  }
  {
  refine WE.no kr (b := x0 == 8) kr t21 ?_
  refine WE.skip ?_
  refine WE.seq ?_
  refine WE.region ?_
  refine WL.fin 1 kr kr ?_
  obtain rfl := hr
  exact WE.ret ⟨[.int .i64 0], ⟨⟨kr, kr⟩, trivial⟩, ⟨rfl, H⟩⟩
  }
  }
  {
  refine WE.no kr (b := x0 == 8) kr t20 ?_
  refine WE.seq ?_
  refine WE.region ?_
  refine WL.fin 2 kr kr ?_
  rcases ite_cases hr with ⟨t22, hr⟩ | ⟨t22, hr⟩
  {
  refine WE.yes kr (b := x0 == 9) kr t22 ?_
  refine WE.skip ?_
  rcases ite_cases hr with ⟨t23, hr⟩ | ⟨t23, hr⟩
  {
  refine WE.yes kr (b := x0 == 9) kr t23 ?_
  refine WE.seq ?_
  refine WE.region ?_
  refine WL.fin 1 kr kr ?_
  obtain rfl := hr
  exact WE.ret ⟨[.int .i64 1], ⟨⟨kr, kr⟩, trivial⟩, ⟨rfl, H⟩⟩
  }
  {
  refine WE.no kr (b := x0 == 9) kr t23 ?_
  refine WE.skip ?_
  refine WE.seq ?_
  refine WE.region ?_
  refine WL.fin 1 kr kr ?_
  obtain rfl := hr
  exact WE.ret ⟨[.int .i64 0], ⟨⟨kr, kr⟩, trivial⟩, ⟨rfl, H⟩⟩
  }
  }
  {
  refine WE.no kr (b := x0 == 9) kr t22 ?_
  refine WE.seq ?_
  refine WE.region ?_
  refine WL.fin 2 kr kr ?_
  rcases ite_cases hr with ⟨t24, hr⟩ | ⟨t24, hr⟩
  {
  refine WE.yes kr (b := x0 == 11) kr t24 ?_
  refine WE.skip ?_
  rcases ite_cases hr with ⟨t25, hr⟩ | ⟨t25, hr⟩
  {
  refine WE.yes kr (b := x0 == 11) kr t25 ?_
  refine WE.seq ?_
  refine WE.region ?_
  refine WL.fin 1 kr kr ?_
  obtain rfl := hr
  exact WE.ret ⟨[.int .i64 1], ⟨⟨kr, kr⟩, trivial⟩, ⟨rfl, H⟩⟩
  }
  {
  refine WE.no kr (b := x0 == 11) kr t25 ?_
  refine WE.skip ?_
  refine WE.seq ?_
  refine WE.region ?_
  refine WL.fin 1 kr kr ?_
  obtain rfl := hr
  exact WE.ret ⟨[.int .i64 0], ⟨⟨kr, kr⟩, trivial⟩, ⟨rfl, H⟩⟩
  }
  }
  {
  refine WE.no kr (b := x0 == 11) kr t24 ?_
  refine WE.region ?_
  refine WL.fin 2 kr kr ?_
  rcases ite_cases hr with ⟨t26, hr⟩ | ⟨t26, hr⟩
  {
  refine WE.yes kr (b := x0 == 15) kr t26 ?_
  refine WE.seq ?_
  refine WE.region ?_
  refine WL.fin 1 kr kr ?_
  obtain rfl := hr
  exact WE.ret ⟨[.int .i64 1], ⟨⟨kr, kr⟩, trivial⟩, ⟨rfl, H⟩⟩
  }
  {
  refine WE.no kr (b := x0 == 15) kr t26 ?_
  refine WE.skip ?_
  refine WE.seq ?_
  refine WE.region ?_
  refine WL.fin 1 kr kr ?_
  obtain rfl := hr
  exact WE.ret ⟨[.int .i64 0], ⟨⟨kr, kr⟩, trivial⟩, ⟨rfl, H⟩⟩
  }
  }
  }
  }
  }
  }
  }
  }
  {
  refine WE.no kr (b := x0 == 4) kr t14 ?_
  refine WE.seq ?_
  refine WE.region ?_
  refine WL.fin 2 kr kr ?_
  rcases ite_cases hr with ⟨t27, hr⟩ | ⟨t27, hr⟩
  {
  refine WE.yes kr (b := x0 == 5) kr t27 ?_
  refine WE.skip ?_
  rcases ite_cases hr with ⟨t28, hr⟩ | ⟨t28, hr⟩
  {
  refine WE.yes kr (b := x0 == 5) kr t28 ?_
  refine WE.seq ?_
  refine WE.region ?_
  refine WL.fin 1 kr kr ?_
  obtain rfl := hr
  exact WE.ret ⟨[.int .i64 2], ⟨⟨kr, kr⟩, trivial⟩, ⟨rfl, H⟩⟩
  }
  {
  refine WE.no kr (b := x0 == 5) kr t28 ?_
  refine WE.seq ?_
  refine WE.seq ?_
  refine WE.region ?_
  refine WL.fin 2 kr kr ?_
  rcases ite_cases hr with ⟨t29, hr⟩ | ⟨t29, hr⟩
  {
  refine WE.yes kr (b := x0 == 2) kr t29 ?_
  refine WE.skip ?_
  rcases ite_cases hr with ⟨t30, hr⟩ | ⟨t30, hr⟩
  {
  refine WE.yes kr (b := x0 == 2) kr t30 ?_
  refine WE.seq ?_
  refine WE.region ?_
  refine WL.fin 1 kr kr ?_
  obtain rfl := hr
  exact WE.ret ⟨[.int .i64 1], ⟨⟨kr, kr⟩, trivial⟩, ⟨rfl, H⟩⟩
  }
  {
  refine WE.no kr (b := x0 == 2) kr t30 ?_
  refine WE.skip ?_
  refine WE.seq ?_
  refine WE.region ?_
  refine WL.fin 1 kr kr ?_
  obtain rfl := hr
  exact WE.ret ⟨[.int .i64 0], ⟨⟨kr, kr⟩, trivial⟩, ⟨rfl, H⟩⟩
  }
  }
  {
  refine WE.no kr (b := x0 == 2) kr t29 ?_
  refine WE.seq ?_
  refine WE.region ?_
  refine WL.fin 2 kr kr ?_
  rcases ite_cases hr with ⟨t31, hr⟩ | ⟨t31, hr⟩
  {
  refine WE.yes kr (b := x0 == 7) kr t31 ?_
  refine WE.skip ?_
  rcases ite_cases hr with ⟨t32, hr⟩ | ⟨t32, hr⟩
  {
  refine WE.yes kr (b := x0 == 7) kr t32 ?_
  refine WE.seq ?_
  refine WE.region ?_
  refine WL.fin 1 kr kr ?_
  obtain rfl := hr
  exact WE.ret ⟨[.int .i64 1], ⟨⟨kr, kr⟩, trivial⟩, ⟨rfl, H⟩⟩
  }
  {
  refine WE.no kr (b := x0 == 7) kr t32 ?_
  refine WE.skip ?_
  refine WE.seq ?_
  refine WE.region ?_
  refine WL.fin 1 kr kr ?_
  obtain rfl := hr
  exact WE.ret ⟨[.int .i64 0], ⟨⟨kr, kr⟩, trivial⟩, ⟨rfl, H⟩⟩
  }
  }
  {
  refine WE.no kr (b := x0 == 7) kr t31 ?_
  refine WE.seq ?_
  refine WE.region ?_
  refine WL.fin 2 kr kr ?_
  rcases ite_cases hr with ⟨t33, hr⟩ | ⟨t33, hr⟩
  {
  refine WE.yes kr (b := x0 == 8) kr t33 ?_
  refine WE.skip ?_
  rcases ite_cases hr with ⟨t34, hr⟩ | ⟨t34, hr⟩
  {
  refine WE.yes kr (b := x0 == 8) kr t34 ?_
  refine WE.seq ?_
  refine WE.region ?_
  refine WL.fin 1 kr kr ?_
  obtain rfl := hr
  exact WE.ret ⟨[.int .i64 1], ⟨⟨kr, kr⟩, trivial⟩, ⟨rfl, H⟩⟩
  }
  {
  refine WE.no kr (b := x0 == 8) kr t34 ?_
  refine WE.skip ?_
  refine WE.seq ?_
  refine WE.region ?_
  refine WL.fin 1 kr kr ?_
  obtain rfl := hr
  exact WE.ret ⟨[.int .i64 0], ⟨⟨kr, kr⟩, trivial⟩, ⟨rfl, H⟩⟩
  }
  }
  {
  refine WE.no kr (b := x0 == 8) kr t33 ?_
  refine WE.seq ?_
  refine WE.region ?_
  refine WL.fin 2 kr kr ?_
  rcases ite_cases hr with ⟨t35, hr⟩ | ⟨t35, hr⟩
  {
  refine WE.yes kr (b := x0 == 9) kr t35 ?_
  refine WE.skip ?_
  rcases ite_cases hr with ⟨t36, hr⟩ | ⟨t36, hr⟩
  {
  refine WE.yes kr (b := x0 == 9) kr t36 ?_
  refine WE.seq ?_
  refine WE.region ?_
  refine WL.fin 1 kr kr ?_
  obtain rfl := hr
  exact WE.ret ⟨[.int .i64 1], ⟨⟨kr, kr⟩, trivial⟩, ⟨rfl, H⟩⟩
  }
  {
  refine WE.no kr (b := x0 == 9) kr t36 ?_
  refine WE.skip ?_
  refine WE.seq ?_
  refine WE.region ?_
  refine WL.fin 1 kr kr ?_
  obtain rfl := hr
  exact WE.ret ⟨[.int .i64 0], ⟨⟨kr, kr⟩, trivial⟩, ⟨rfl, H⟩⟩
  }
  }
  {
  refine WE.no kr (b := x0 == 9) kr t35 ?_
  refine WE.seq ?_
  refine WE.region ?_
  refine WL.fin 2 kr kr ?_
  rcases ite_cases hr with ⟨t37, hr⟩ | ⟨t37, hr⟩
  {
  refine WE.yes kr (b := x0 == 11) kr t37 ?_
  refine WE.skip ?_
  rcases ite_cases hr with ⟨t38, hr⟩ | ⟨t38, hr⟩
  {
  refine WE.yes kr (b := x0 == 11) kr t38 ?_
  refine WE.seq ?_
  refine WE.region ?_
  refine WL.fin 1 kr kr ?_
  obtain rfl := hr
  exact WE.ret ⟨[.int .i64 1], ⟨⟨kr, kr⟩, trivial⟩, ⟨rfl, H⟩⟩
  }
  {
  refine WE.no kr (b := x0 == 11) kr t38 ?_
  refine WE.skip ?_
  refine WE.seq ?_
  refine WE.region ?_
  refine WL.fin 1 kr kr ?_
  obtain rfl := hr
  exact WE.ret ⟨[.int .i64 0], ⟨⟨kr, kr⟩, trivial⟩, ⟨rfl, H⟩⟩
  }
  }
  {
  refine WE.no kr (b := x0 == 11) kr t37 ?_
  refine WE.region ?_
  refine WL.fin 2 kr kr ?_
  rcases ite_cases hr with ⟨t39, hr⟩ | ⟨t39, hr⟩
  {
  refine WE.yes kr (b := x0 == 15) kr t39 ?_
  refine WE.seq ?_
  refine WE.region ?_
  refine WL.fin 1 kr kr ?_
  obtain rfl := hr
  exact WE.ret ⟨[.int .i64 1], ⟨⟨kr, kr⟩, trivial⟩, ⟨rfl, H⟩⟩
  }
  {
  refine WE.no kr (b := x0 == 15) kr t39 ?_
  refine WE.skip ?_
  refine WE.seq ?_
  refine WE.region ?_
  refine WL.fin 1 kr kr ?_
  obtain rfl := hr
  exact WE.ret ⟨[.int .i64 0], ⟨⟨kr, kr⟩, trivial⟩, ⟨rfl, H⟩⟩
  }
  }
  }
  }
  }
  }
  }
  }
  {
  refine WE.no kr (b := x0 == 5) kr t27 ?_
  refine WE.region ?_
  refine WL.fin 2 kr kr ?_
  rcases ite_cases hr with ⟨t40, hr⟩ | ⟨t40, hr⟩
  {
  refine WE.yes kr (b := x0 == 6) kr t40 ?_
  refine WE.seq ?_
  refine WE.region ?_
  refine WL.fin 1 kr kr ?_
  obtain rfl := hr
  exact WE.ret ⟨[.int .i64 2], ⟨⟨kr, kr⟩, trivial⟩, ⟨rfl, H⟩⟩
  }
  {
  refine WE.no kr (b := x0 == 6) kr t40 ?_
  refine WE.seq ?_
  refine WE.seq ?_
  refine WE.region ?_
  refine WL.fin 2 kr kr ?_
  rcases ite_cases hr with ⟨t41, hr⟩ | ⟨t41, hr⟩
  {
  refine WE.yes kr (b := x0 == 2) kr t41 ?_
  refine WE.skip ?_
  rcases ite_cases hr with ⟨t42, hr⟩ | ⟨t42, hr⟩
  {
  refine WE.yes kr (b := x0 == 2) kr t42 ?_
  refine WE.seq ?_
  refine WE.region ?_
  refine WL.fin 1 kr kr ?_
  obtain rfl := hr
  exact WE.ret ⟨[.int .i64 1], ⟨⟨kr, kr⟩, trivial⟩, ⟨rfl, H⟩⟩
  }
  {
  refine WE.no kr (b := x0 == 2) kr t42 ?_
  refine WE.skip ?_
  refine WE.seq ?_
  refine WE.region ?_
  refine WL.fin 1 kr kr ?_
  obtain rfl := hr
  exact WE.ret ⟨[.int .i64 0], ⟨⟨kr, kr⟩, trivial⟩, ⟨rfl, H⟩⟩
  }
  }
  {
  refine WE.no kr (b := x0 == 2) kr t41 ?_
  refine WE.seq ?_
  refine WE.region ?_
  refine WL.fin 2 kr kr ?_
  rcases ite_cases hr with ⟨t43, hr⟩ | ⟨t43, hr⟩
  {
  refine WE.yes kr (b := x0 == 7) kr t43 ?_
  refine WE.skip ?_
  rcases ite_cases hr with ⟨t44, hr⟩ | ⟨t44, hr⟩
  {
  refine WE.yes kr (b := x0 == 7) kr t44 ?_
  refine WE.seq ?_
  refine WE.region ?_
  refine WL.fin 1 kr kr ?_
  obtain rfl := hr
  exact WE.ret ⟨[.int .i64 1], ⟨⟨kr, kr⟩, trivial⟩, ⟨rfl, H⟩⟩
  }
  {
  refine WE.no kr (b := x0 == 7) kr t44 ?_
  refine WE.skip ?_
  refine WE.seq ?_
  refine WE.region ?_
  refine WL.fin 1 kr kr ?_
  obtain rfl := hr
  exact WE.ret ⟨[.int .i64 0], ⟨⟨kr, kr⟩, trivial⟩, ⟨rfl, H⟩⟩
  }
  }
  {
  refine WE.no kr (b := x0 == 7) kr t43 ?_
  refine WE.seq ?_
  refine WE.region ?_
  refine WL.fin 2 kr kr ?_
  rcases ite_cases hr with ⟨t45, hr⟩ | ⟨t45, hr⟩
  {
  refine WE.yes kr (b := x0 == 8) kr t45 ?_
  refine WE.skip ?_
  rcases ite_cases hr with ⟨t46, hr⟩ | ⟨t46, hr⟩
  {
  refine WE.yes kr (b := x0 == 8) kr t46 ?_
  refine WE.seq ?_
  refine WE.region ?_
  refine WL.fin 1 kr kr ?_
  obtain rfl := hr
  exact WE.ret ⟨[.int .i64 1], ⟨⟨kr, kr⟩, trivial⟩, ⟨rfl, H⟩⟩
  }
  {
  refine WE.no kr (b := x0 == 8) kr t46 ?_
  refine WE.skip ?_
  refine WE.seq ?_
  refine WE.region ?_
  refine WL.fin 1 kr kr ?_
  obtain rfl := hr
  exact WE.ret ⟨[.int .i64 0], ⟨⟨kr, kr⟩, trivial⟩, ⟨rfl, H⟩⟩
  }
  }
  {
  refine WE.no kr (b := x0 == 8) kr t45 ?_
  refine WE.seq ?_
  refine WE.region ?_
  refine WL.fin 2 kr kr ?_
  rcases ite_cases hr with ⟨t47, hr⟩ | ⟨t47, hr⟩
  {
  refine WE.yes kr (b := x0 == 9) kr t47 ?_
  refine WE.skip ?_
  rcases ite_cases hr with ⟨t48, hr⟩ | ⟨t48, hr⟩
  {
  refine WE.yes kr (b := x0 == 9) kr t48 ?_
  refine WE.seq ?_
  refine WE.region ?_
  refine WL.fin 1 kr kr ?_
  obtain rfl := hr
  exact WE.ret ⟨[.int .i64 1], ⟨⟨kr, kr⟩, trivial⟩, ⟨rfl, H⟩⟩
  }
  {
  refine WE.no kr (b := x0 == 9) kr t48 ?_
  refine WE.skip ?_
  refine WE.seq ?_
  refine WE.region ?_
  refine WL.fin 1 kr kr ?_
  obtain rfl := hr
  exact WE.ret ⟨[.int .i64 0], ⟨⟨kr, kr⟩, trivial⟩, ⟨rfl, H⟩⟩
  }
  }
  {
  refine WE.no kr (b := x0 == 9) kr t47 ?_
  refine WE.seq ?_
  refine WE.region ?_
  refine WL.fin 2 kr kr ?_
  rcases ite_cases hr with ⟨t49, hr⟩ | ⟨t49, hr⟩
  {
  refine WE.yes kr (b := x0 == 11) kr t49 ?_
  refine WE.skip ?_
  rcases ite_cases hr with ⟨t50, hr⟩ | ⟨t50, hr⟩
  {
  refine WE.yes kr (b := x0 == 11) kr t50 ?_
  refine WE.seq ?_
  refine WE.region ?_
  refine WL.fin 1 kr kr ?_
  obtain rfl := hr
  exact WE.ret ⟨[.int .i64 1], ⟨⟨kr, kr⟩, trivial⟩, ⟨rfl, H⟩⟩
  }
  {
  refine WE.no kr (b := x0 == 11) kr t50 ?_
  refine WE.skip ?_
  refine WE.seq ?_
  refine WE.region ?_
  refine WL.fin 1 kr kr ?_
  obtain rfl := hr
  exact WE.ret ⟨[.int .i64 0], ⟨⟨kr, kr⟩, trivial⟩, ⟨rfl, H⟩⟩
  }
  }
  {
  refine WE.no kr (b := x0 == 11) kr t49 ?_
  refine WE.region ?_
  refine WL.fin 2 kr kr ?_
  rcases ite_cases hr with ⟨t51, hr⟩ | ⟨t51, hr⟩
  {
  refine WE.yes kr (b := x0 == 15) kr t51 ?_
  refine WE.seq ?_
  refine WE.region ?_
  refine WL.fin 1 kr kr ?_
  obtain rfl := hr
  exact WE.ret ⟨[.int .i64 1], ⟨⟨kr, kr⟩, trivial⟩, ⟨rfl, H⟩⟩
  }
  {
  refine WE.no kr (b := x0 == 15) kr t51 ?_
  refine WE.skip ?_
  refine WE.seq ?_
  refine WE.region ?_
  refine WL.fin 1 kr kr ?_
  obtain rfl := hr
  exact WE.ret ⟨[.int .i64 0], ⟨⟨kr, kr⟩, trivial⟩, ⟨rfl, H⟩⟩
  }
  }
  }
  }
  }
  }
  }
  }
  }
  }
def r09_Off (x0 : List GFunc) (x1 : GInstr) : Option Int :=
  if x1.Op == 13 then
    if 0 ≤ x1.A ∧ x1.A < x0.length then
      some ((gd x0 x1.A).Arity)
    else none
  else
    bnd (r06_Off x1.Op) fun y6 =>
    some y6
set_option maxRecDepth 100000 in
set_option maxHeartbeats 4000000 in
theorem c_r09_Off {w0 w : World} {h : Gh} {L : List Ent} (x0 : List GFunc) {a1 : Option Addr} {c1 : Nat} (f1 : Sl rGFunc 48 h a1 c1 x0) (x1 : GInstr) (H : St w0 h w L) {r : Int} (hr : r09_Off x0 x1 = some r) : Calls Tryz.prog 32 #[.slice a1 x0.length c1, .agg #[.int .i64 x1.Op, .int .i64 x1.A, .int .i64 x1.B]] w (fun e w' => ∃ v, e = .returned v ∧ v = .int .i64 r ∧ St w0 h w' (L)) := by
  refine calls_of (args := [.slice a1 x0.length c1, .agg #[.int .i64 x1.Op, .int .i64 x1.A, .int .i64 x1.B]]) (n := 17) (rs := [.tmp 4]) Tryz.func32 rfl rfl rfl rfl rfl ?_
  unfold r09_Off at hr
  refine WE.seq ?_
  refine WE.region ?_
  refine WL.does kr kr (Does.box H [.int .i64 x1.Op, .int .i64 x1.A, .int .i64 x1.B] kr fun b2 w H => ?_)
  refine WL.fin 1 kr kr ?_
  refine WE.seq ?_
  refine WE.seq ?_
  refine WE.region ?_
  refine WL.sg 1 kr ?_
  refine WL.does kr kr (Does.loadV H 0 rfl 0 kr kr ?_)
  refine WL.fin 1 kr kr ?_
  rcases ite_cases hr with ⟨t3, hr⟩ | ⟨t3, hr⟩
  {
  refine WE.yes kr (b := x1.Op == 13) kr t3 ?_
  refine WE.seq ?_
  refine WE.region ?_
  refine WL.sg 2 kr ?_
  refine WL.does kr kr (Does.loadV H 0 rfl 1 kr kr ?_)
  obtain ⟨⟨g0_4, g1_4⟩, hr⟩ := grd_cases hr
  obtain ⟨b4, p4, C4, e4, fr4, cs4, rfl, hb4, hc4, ⟨a5, c5, rfl, f5⟩⟩ := f1.at g0_4 g1_4
  refine WL.does kr kr (Does.tells (.idx b4 (p4) x0.length c1 x1.A 4 kr kr g0_4 g1_4 kr) ?_)
  refine WL.sg 1 kr ?_
  refine WL.does kr kr (Does.loadR H hb4 hc4 0 kr kr ?_)
  refine WL.fin 1 kr kr ?_
  obtain rfl := Option.some.inj hr
  exact WE.ret ⟨[.int .i64 ((gd x0 x1.A).Arity)], ⟨⟨kr, kr⟩, trivial⟩, ⟨rfl, (H.keep 1)⟩⟩
  }
  {
  refine WE.no kr (b := x1.Op == 13) kr t3 ?_
  refine WE.skip ?_
  refine WE.seq ?_
  refine WE.region ?_
  refine WL.sg 1 kr ?_
  refine WL.does kr kr (Does.loadV H 0 rfl 0 kr kr ?_)
  obtain ⟨y6, q6, hr⟩ := bnd_cases hr
  refine WL.does kr kr (Does.call (c_r06_Off x1.Op H q6) kr ?_)
  rintro _ w ⟨rfl, H⟩
  refine WL.fin 1 kr kr ?_
  obtain rfl := Option.some.inj hr
  exact WE.ret ⟨[.int .i64 y6], ⟨⟨kr, kr⟩, trivial⟩, ⟨rfl, (H.keep 1)⟩⟩
  }
def r06_On (x0 : Int) : Int :=
  if x0 == 8 then
    2
  else
    if x0 == 0 then
      if x0 == 0 then
        1
      else
        0
    else
      if x0 == 1 then
        if x0 == 1 then
          1
        else
          0
      else
        if x0 == 3 then
          if x0 == 3 then
            1
          else
            0
        else
          if x0 == 4 then
            if x0 == 4 then
              1
            else
              0
          else
            if x0 == 5 then
              if x0 == 5 then
                1
              else
                0
            else
              if x0 == 6 then
                if x0 == 6 then
                  1
                else
                  0
              else
                if x0 == 7 then
                  if x0 == 7 then
                    1
                  else
                    0
                else
                  if x0 == 12 then
                    if x0 == 12 then
                      1
                    else
                      0
                  else
                    if x0 == 14 then
                      1
                    else
                      0
set_option maxRecDepth 100000 in
set_option maxHeartbeats 4000000 in
theorem c_r06_On {w0 w : World} {h : Gh} {L : List Ent} (x0 : Int) (H : St w0 h w L) {r : Int} (hr : r06_On x0 = r) : Calls Tryz.prog 33 #[.int .i64 x0] w (fun e w' => ∃ v, e = .returned v ∧ v = .int .i64 r ∧ St w0 h w' (L)) := by
  refine calls_of (args := [.int .i64 x0]) (n := 16) (rs := [.tmp 2]) Tryz.func33 rfl rfl rfl rfl rfl ?_
  unfold r06_On at hr
  refine WE.seq ?_
  refine WE.region ?_
  refine WL.fin 1 kr kr ?_
  refine WE.seq ?_
  refine WE.seq ?_
  refine WE.region ?_
  refine WL.fin 1 kr kr ?_
  refine WE.block ?_
  refine WE.seq ?_
  refine WE.region ?_
  refine WL.fin 2 kr kr ?_
  rcases ite_cases hr with ⟨t1, hr⟩ | ⟨t1, hr⟩
  {
  refine WE.yes kr (b := x0 == 8) kr t1 ?_
  refine WE.seq ?_
  refine WE.region ?_
  refine WL.fin 1 kr kr ?_
  obtain rfl := hr
  exact WE.ret ⟨[.int .i64 2], ⟨⟨kr, kr⟩, trivial⟩, ⟨rfl, H⟩⟩
  }
  {
  refine WE.no kr (b := x0 == 8) kr t1 ?_
  refine WE.seq ?_
  refine WE.seq ?_
  refine WE.region ?_
  refine WL.fin 2 kr kr ?_
  rcases ite_cases hr with ⟨t2, hr⟩ | ⟨t2, hr⟩
  {
  refine WE.yes kr (b := x0 == 0) kr t2 ?_
  refine WE.skip ?_
  rcases ite_cases hr with ⟨t3, hr⟩ | ⟨t3, hr⟩
  {
  refine WE.yes kr (b := x0 == 0) kr t3 ?_
  refine WE.seq ?_
  refine WE.region ?_
  refine WL.fin 1 kr kr ?_
  obtain rfl := hr
  exact WE.ret ⟨[.int .i64 1], ⟨⟨kr, kr⟩, trivial⟩, ⟨rfl, H⟩⟩
  }
  {
  refine WE.no kr (b := x0 == 0) kr t3 ?_
  refine WE.skip ?_
  refine WE.seq ?_
  refine WE.region ?_
  refine WL.fin 1 kr kr ?_
  obtain rfl := hr
  exact WE.ret ⟨[.int .i64 0], ⟨⟨kr, kr⟩, trivial⟩, ⟨rfl, H⟩⟩
  }
  }
  {
  refine WE.no kr (b := x0 == 0) kr t2 ?_
  refine WE.seq ?_
  refine WE.region ?_
  refine WL.fin 2 kr kr ?_
  rcases ite_cases hr with ⟨t4, hr⟩ | ⟨t4, hr⟩
  {
  refine WE.yes kr (b := x0 == 1) kr t4 ?_
  refine WE.skip ?_
  rcases ite_cases hr with ⟨t5, hr⟩ | ⟨t5, hr⟩
  {
  refine WE.yes kr (b := x0 == 1) kr t5 ?_
  refine WE.seq ?_
  refine WE.region ?_
  refine WL.fin 1 kr kr ?_
  obtain rfl := hr
  exact WE.ret ⟨[.int .i64 1], ⟨⟨kr, kr⟩, trivial⟩, ⟨rfl, H⟩⟩
  }
  {
  refine WE.no kr (b := x0 == 1) kr t5 ?_
  refine WE.skip ?_
  refine WE.seq ?_
  refine WE.region ?_
  refine WL.fin 1 kr kr ?_
  obtain rfl := hr
  exact WE.ret ⟨[.int .i64 0], ⟨⟨kr, kr⟩, trivial⟩, ⟨rfl, H⟩⟩
  }
  }
  {
  refine WE.no kr (b := x0 == 1) kr t4 ?_
  refine WE.seq ?_
  refine WE.region ?_
  refine WL.fin 2 kr kr ?_
  rcases ite_cases hr with ⟨t6, hr⟩ | ⟨t6, hr⟩
  {
  refine WE.yes kr (b := x0 == 3) kr t6 ?_
  refine WE.skip ?_
  rcases ite_cases hr with ⟨t7, hr⟩ | ⟨t7, hr⟩
  {
  refine WE.yes kr (b := x0 == 3) kr t7 ?_
  refine WE.seq ?_
  refine WE.region ?_
  refine WL.fin 1 kr kr ?_
  obtain rfl := hr
  exact WE.ret ⟨[.int .i64 1], ⟨⟨kr, kr⟩, trivial⟩, ⟨rfl, H⟩⟩
  }
  {
  refine WE.no kr (b := x0 == 3) kr t7 ?_
  refine WE.skip ?_
  refine WE.seq ?_
  refine WE.region ?_
  refine WL.fin 1 kr kr ?_
  obtain rfl := hr
  exact WE.ret ⟨[.int .i64 0], ⟨⟨kr, kr⟩, trivial⟩, ⟨rfl, H⟩⟩
  }
  }
  {
  refine WE.no kr (b := x0 == 3) kr t6 ?_
  refine WE.seq ?_
  refine WE.region ?_
  refine WL.fin 2 kr kr ?_
  rcases ite_cases hr with ⟨t8, hr⟩ | ⟨t8, hr⟩
  {
  refine WE.yes kr (b := x0 == 4) kr t8 ?_
  refine WE.skip ?_
  rcases ite_cases hr with ⟨t9, hr⟩ | ⟨t9, hr⟩
  {
  refine WE.yes kr (b := x0 == 4) kr t9 ?_
  refine WE.seq ?_
  refine WE.region ?_
  refine WL.fin 1 kr kr ?_
  obtain rfl := hr
  exact WE.ret ⟨[.int .i64 1], ⟨⟨kr, kr⟩, trivial⟩, ⟨rfl, H⟩⟩
  }
  {
  refine WE.no kr (b := x0 == 4) kr t9 ?_
  refine WE.skip ?_
  refine WE.seq ?_
  refine WE.region ?_
  refine WL.fin 1 kr kr ?_
  obtain rfl := hr
  exact WE.ret ⟨[.int .i64 0], ⟨⟨kr, kr⟩, trivial⟩, ⟨rfl, H⟩⟩
  }
  }
  {
  refine WE.no kr (b := x0 == 4) kr t8 ?_
  refine WE.seq ?_
  refine WE.region ?_
  refine WL.fin 2 kr kr ?_
  rcases ite_cases hr with ⟨t10, hr⟩ | ⟨t10, hr⟩
  {
  refine WE.yes kr (b := x0 == 5) kr t10 ?_
  refine WE.skip ?_
  rcases ite_cases hr with ⟨t11, hr⟩ | ⟨t11, hr⟩
  {
  refine WE.yes kr (b := x0 == 5) kr t11 ?_
  refine WE.seq ?_
  refine WE.region ?_
  refine WL.fin 1 kr kr ?_
  obtain rfl := hr
  exact WE.ret ⟨[.int .i64 1], ⟨⟨kr, kr⟩, trivial⟩, ⟨rfl, H⟩⟩
  }
  {
  refine WE.no kr (b := x0 == 5) kr t11 ?_
  refine WE.skip ?_
  refine WE.seq ?_
  refine WE.region ?_
  refine WL.fin 1 kr kr ?_
  obtain rfl := hr
  exact WE.ret ⟨[.int .i64 0], ⟨⟨kr, kr⟩, trivial⟩, ⟨rfl, H⟩⟩
  }
  }
  {
  refine WE.no kr (b := x0 == 5) kr t10 ?_
  refine WE.seq ?_
  refine WE.region ?_
  refine WL.fin 2 kr kr ?_
  rcases ite_cases hr with ⟨t12, hr⟩ | ⟨t12, hr⟩
  {
  refine WE.yes kr (b := x0 == 6) kr t12 ?_
  refine WE.skip ?_
  rcases ite_cases hr with ⟨t13, hr⟩ | ⟨t13, hr⟩
  {
  refine WE.yes kr (b := x0 == 6) kr t13 ?_
  refine WE.seq ?_
  refine WE.region ?_
  refine WL.fin 1 kr kr ?_
  obtain rfl := hr
  exact WE.ret ⟨[.int .i64 1], ⟨⟨kr, kr⟩, trivial⟩, ⟨rfl, H⟩⟩
  }
  {
  refine WE.no kr (b := x0 == 6) kr t13 ?_
  refine WE.skip ?_
  refine WE.seq ?_
  refine WE.region ?_
  refine WL.fin 1 kr kr ?_
  obtain rfl := hr
  exact WE.ret ⟨[.int .i64 0], ⟨⟨kr, kr⟩, trivial⟩, ⟨rfl, H⟩⟩
  }
  }
  {
  refine WE.no kr (b := x0 == 6) kr t12 ?_
  refine WE.seq ?_
  refine WE.region ?_
  refine WL.fin 2 kr kr ?_
  rcases ite_cases hr with ⟨t14, hr⟩ | ⟨t14, hr⟩
  {
  refine WE.yes kr (b := x0 == 7) kr t14 ?_
  refine WE.skip ?_
  rcases ite_cases hr with ⟨t15, hr⟩ | ⟨t15, hr⟩
  {
  refine WE.yes kr (b := x0 == 7) kr t15 ?_
  refine WE.seq ?_
  refine WE.region ?_
  refine WL.fin 1 kr kr ?_
  obtain rfl := hr
  exact WE.ret ⟨[.int .i64 1], ⟨⟨kr, kr⟩, trivial⟩, ⟨rfl, H⟩⟩
  }
  {
  refine WE.no kr (b := x0 == 7) kr t15 ?_
  refine WE.skip ?_
  refine WE.seq ?_
  refine WE.region ?_
  refine WL.fin 1 kr kr ?_
  obtain rfl := hr
  exact WE.ret ⟨[.int .i64 0], ⟨⟨kr, kr⟩, trivial⟩, ⟨rfl, H⟩⟩
  }
  }
  {
  refine WE.no kr (b := x0 == 7) kr t14 ?_
  refine WE.seq ?_
  refine WE.region ?_
  refine WL.fin 2 kr kr ?_
  rcases ite_cases hr with ⟨t16, hr⟩ | ⟨t16, hr⟩
  {
  refine WE.yes kr (b := x0 == 12) kr t16 ?_
  refine WE.skip ?_
  rcases ite_cases hr with ⟨t17, hr⟩ | ⟨t17, hr⟩
  {
  refine WE.yes kr (b := x0 == 12) kr t17 ?_
  refine WE.seq ?_
  refine WE.region ?_
  refine WL.fin 1 kr kr ?_
  obtain rfl := hr
  exact WE.ret ⟨[.int .i64 1], ⟨⟨kr, kr⟩, trivial⟩, ⟨rfl, H⟩⟩
  }
  {
  refine WE.no kr (b := x0 == 12) kr t17 ?_
  refine WE.skip ?_
  refine WE.seq ?_
  refine WE.region ?_
  refine WL.fin 1 kr kr ?_
  obtain rfl := hr
  exact WE.ret ⟨[.int .i64 0], ⟨⟨kr, kr⟩, trivial⟩, ⟨rfl, H⟩⟩
  }
  }
  {
  refine WE.no kr (b := x0 == 12) kr t16 ?_
  refine WE.region ?_
  refine WL.fin 2 kr kr ?_
  rcases ite_cases hr with ⟨t18, hr⟩ | ⟨t18, hr⟩
  {
  refine WE.yes kr (b := x0 == 14) kr t18 ?_
  refine WE.seq ?_
  refine WE.region ?_
  refine WL.fin 1 kr kr ?_
  obtain rfl := hr
  exact WE.ret ⟨[.int .i64 1], ⟨⟨kr, kr⟩, trivial⟩, ⟨rfl, H⟩⟩
  }
  {
  refine WE.no kr (b := x0 == 14) kr t18 ?_
  refine WE.skip ?_
  refine WE.seq ?_
  refine WE.region ?_
  refine WL.fin 1 kr kr ?_
  obtain rfl := hr
  exact WE.ret ⟨[.int .i64 0], ⟨⟨kr, kr⟩, trivial⟩, ⟨rfl, H⟩⟩
  }
  }
  }
  }
  }
  }
  }
  }
  }
  }
def r05_Is (x0 : Int) : Bool :=
  bnd (
      if decide (x0 ≥ 0) then
        decide (x0 < 4294967296)
      else
        false) fun y1 =>
  y1
set_option maxRecDepth 100000 in
set_option maxHeartbeats 4000000 in
theorem c_r05_Is {w0 w : World} {h : Gh} {L : List Ent} (x0 : Int) (H : St w0 h w L) {r : Bool} (hr : r05_Is x0 = r) : Calls Tryz.prog 48 #[.int .i64 x0] w (fun e w' => ∃ v, e = .returned v ∧ v = .bool r ∧ St w0 h w' (L)) := by
  refine calls_of (args := [.int .i64 x0]) (n := 9) (rs := [.tmp 2]) Tryz.func48 rfl rfl rfl rfl rfl ?_
  unfold r05_Is at hr
  refine WE.seq ?_
  refine WE.region ?_
  refine WL.fin 1 kr kr ?_
  refine WE.seq ?_
  refine WE.region ?_
  refine WL.sg 3 kr ?_
  obtain ⟨y1, hy1, hr⟩ := bnd_cases hr
  refine WL.join 3 (fun (_ : Unit) => [(8, .bool y1)]) (fun (_ : Unit) w => St w0 h w (L)) ?_ (fun hk_y1 => ?_)
  {
  rintro _ w H
  refine WL.fin 1 kr kr ?_
  obtain rfl := hr
  exact WE.ret ⟨[.bool y1], ⟨⟨kr, kr⟩, trivial⟩, ⟨rfl, H⟩⟩
  }
  rcases ite_cases hy1 with ⟨ty1, hy1⟩ | ⟨ty1, hy1⟩
  {
  refine WL.known 5 ty1 kr kr ?_
  refine WL.sg 3 kr ?_
  obtain rfl := hy1
  exact WL.live [8] kr (hk_y1 () _ H)
  }
  {
  refine WL.known 5 ty1 kr kr ?_
  refine WL.sg 3 kr ?_
  obtain rfl := hy1
  exact WL.live [8] kr (hk_y1 () _ H)
  }
def r05_times (x0 : Int) (x1 : Int) : Int :=
  Int.tmod (w64 ((w64 (x0 * (Int.tmod x1 65536))) + (w64 ((Int.tmod (w64 (x0 * (w64 (x1.tdiv 65536)))) 4294967296) * 65536)))) 4294967296
set_option maxRecDepth 100000 in
set_option maxHeartbeats 4000000 in
theorem c_r05_times {w0 w : World} {h : Gh} {L : List Ent} (x0 : Int) (x1 : Int) (H : St w0 h w L) {r : Int} (hr : r05_times x0 x1 = r) : Calls Tryz.prog 104 #[.int .i64 x0, .int .i64 x1] w (fun e w' => ∃ v, e = .returned v ∧ v = .int .i64 r ∧ St w0 h w' (L)) := by
  refine calls_of (args := [.int .i64 x0, .int .i64 x1]) (n := 17) (rs := [.tmp 4]) Tryz.func104 rfl rfl rfl rfl rfl ?_
  unfold r05_times at hr
  refine WE.seq ?_
  refine WE.region ?_
  refine WL.fin 1 kr kr ?_
  refine WE.seq ?_
  refine WE.region ?_
  refine WL.fin 13 kr kr ?_
  obtain rfl := hr
  exact WE.ret ⟨[.int .i64 (Int.tmod (w64 ((w64 (x0 * (Int.tmod x1 65536))) + (w64 ((Int.tmod (w64 (x0 * (w64 (x1.tdiv 65536)))) 4294967296) * 65536)))) 4294967296)], ⟨⟨kr, kr⟩, trivial⟩, ⟨rfl, H⟩⟩
def r05_Mix (x0 : Int) (x1 : Int) : Int :=
  bnd (r05_Is x0) fun y1 =>
  bnd (
      if !y1 then
        true
      else
        bnd (r05_Is x1) fun y8 =>
        !y8) fun y2 =>
  if y2 then
    0
  else
    bnd (r05_times (Int.tmod (w64 (x1 + 1)) 4294967296) 2654435761) fun y5 =>
    bnd (r05_times (ixor .i64 (ixor .i64 x0 y5) (w64 ((ixor .i64 x0 y5).tdiv 32768))) 2246822507) fun y6 =>
    bnd (r05_times (ixor .i64 y6 (w64 (y6.tdiv 32768))) 2246822507) fun y7 =>
    ixor .i64 y7 (w64 (y7.tdiv 8192))
set_option maxRecDepth 100000 in
set_option maxHeartbeats 4000000 in
theorem c_r05_Mix {w0 w : World} {h : Gh} {L : List Ent} (x0 : Int) (x1 : Int) (H : St w0 h w L) {r : Int} (hr : r05_Mix x0 x1 = r) : Calls Tryz.prog 97 #[.int .i64 x0, .int .i64 x1] w (fun e w' => ∃ v, e = .returned v ∧ v = .int .i64 r ∧ St w0 h w' (L)) := by
  refine calls_of (args := [.int .i64 x0, .int .i64 x1]) (n := 34) (rs := [.tmp 4]) Tryz.func97 rfl rfl rfl rfl rfl ?_
  unfold r05_Mix at hr
  refine WE.seq ?_
  refine WE.region ?_
  refine WL.fin 1 kr kr ?_
  refine WE.seq ?_
  refine WE.seq ?_
  refine WE.region ?_
  obtain ⟨y1, q1, hr⟩ := bnd_cases hr
  refine WL.sg 1 kr ?_
  refine WL.does kr kr (Does.call (c_r05_Is x0 H q1) kr ?_)
  rintro _ w ⟨rfl, H⟩
  refine WL.sg 2 kr ?_
  obtain ⟨y2, hy2, hr⟩ := bnd_cases hr
  refine WL.join 4 (fun (_ : Unit) => [(0, .int .i64 x0), (1, .int .i64 x1), (13, .bool y2)]) (fun (_ : Unit) w => St w0 h w (L)) ?_ (fun hk_y2 => ?_)
  {
  rintro _ w H
  refine WL.fin 0 kr kr ?_
  rcases ite_cases hr with ⟨t4, hr⟩ | ⟨t4, hr⟩
  {
  refine WE.yes kr (b := y2) kr t4 ?_
  refine WE.seq ?_
  refine WE.region ?_
  refine WL.fin 1 kr kr ?_
  obtain rfl := hr
  exact WE.ret ⟨[.int .i64 0], ⟨⟨kr, kr⟩, trivial⟩, ⟨rfl, H⟩⟩
  }
  {
  refine WE.no kr (b := y2) kr t4 ?_
  refine WE.skip ?_
  refine WE.seq ?_
  refine WE.region ?_
  obtain ⟨y5, q5, hr⟩ := bnd_cases hr
  refine WL.sg 4 kr ?_
  refine WL.does kr kr (Does.call (c_r05_times (Int.tmod (w64 (x1 + 1)) 4294967296) 2654435761 H q5) kr ?_)
  rintro _ w ⟨rfl, H⟩
  refine WL.fin 2 kr kr ?_
  refine WE.seq ?_
  refine WE.region ?_
  obtain ⟨y6, q6, hr⟩ := bnd_cases hr
  refine WL.sg 4 kr ?_
  refine WL.does kr kr (Does.call (c_r05_times (ixor .i64 (ixor .i64 x0 y5) (w64 ((ixor .i64 x0 y5).tdiv 32768))) 2246822507 H q6) kr ?_)
  rintro _ w ⟨rfl, H⟩
  refine WL.fin 1 kr kr ?_
  refine WE.seq ?_
  refine WE.region ?_
  obtain ⟨y7, q7, hr⟩ := bnd_cases hr
  refine WL.sg 4 kr ?_
  refine WL.does kr kr (Does.call (c_r05_times (ixor .i64 y6 (w64 (y6.tdiv 32768))) 2246822507 H q7) kr ?_)
  rintro _ w ⟨rfl, H⟩
  refine WL.fin 1 kr kr ?_
  refine WE.seq ?_
  refine WE.region ?_
  refine WL.fin 5 kr kr ?_
  obtain rfl := hr
  exact WE.ret ⟨[.int .i64 (ixor .i64 y7 (w64 (y7.tdiv 8192)))], ⟨⟨kr, kr⟩, trivial⟩, ⟨rfl, H⟩⟩
  }
  }
  rcases ite_cases hy2 with ⟨ty2, hy2⟩ | ⟨ty2, hy2⟩
  {
  refine WL.known 9 ty2 kr kr ?_
  refine WL.sg 4 kr ?_
  obtain rfl := hy2
  exact WL.live [0, 1, 13] kr (hk_y2 () _ H)
  }
  {
  refine WL.known 9 ty2 kr kr ?_
  obtain ⟨y8, q8, hy2⟩ := bnd_cases hy2
  refine WL.sg 1 kr ?_
  refine WL.does kr kr (Does.call (c_r05_Is x1 H q8) kr ?_)
  rintro _ w ⟨rfl, H⟩
  refine WL.sg 2 kr ?_
  obtain rfl := hy2
  exact WL.live [0, 1, 13] kr (hk_y2 () _ H)
  }
def r05_Child (x0 : Int) (x1 : Int) : Int :=
  bnd (r05_Is x0) fun y1 =>
  bnd (
      if !y1 then
        true
      else
        bnd (r05_Is x1) fun y7 =>
        !y7) fun y2 =>
  if y2 then
    0
  else
    bnd (r05_Mix x0 1) fun y5 =>
    bnd (r05_Mix y5 x1) fun y6 =>
    y6
set_option maxRecDepth 100000 in
set_option maxHeartbeats 4000000 in
theorem c_r05_Child {w0 w : World} {h : Gh} {L : List Ent} (x0 : Int) (x1 : Int) (H : St w0 h w L) {r : Int} (hr : r05_Child x0 x1 = r) : Calls Tryz.prog 70 #[.int .i64 x0, .int .i64 x1] w (fun e w' => ∃ v, e = .returned v ∧ v = .int .i64 r ∧ St w0 h w' (L)) := by
  refine calls_of (args := [.int .i64 x0, .int .i64 x1]) (n := 17) (rs := [.tmp 4]) Tryz.func70 rfl rfl rfl rfl rfl ?_
  unfold r05_Child at hr
  refine WE.seq ?_
  refine WE.region ?_
  refine WL.fin 1 kr kr ?_
  refine WE.seq ?_
  refine WE.seq ?_
  refine WE.region ?_
  obtain ⟨y1, q1, hr⟩ := bnd_cases hr
  refine WL.sg 1 kr ?_
  refine WL.does kr kr (Does.call (c_r05_Is x0 H q1) kr ?_)
  rintro _ w ⟨rfl, H⟩
  refine WL.sg 2 kr ?_
  obtain ⟨y2, hy2, hr⟩ := bnd_cases hr
  refine WL.join 4 (fun (_ : Unit) => [(0, .int .i64 x0), (1, .int .i64 x1), (12, .bool y2)]) (fun (_ : Unit) w => St w0 h w (L)) ?_ (fun hk_y2 => ?_)
  {
  rintro _ w H
  refine WL.fin 0 kr kr ?_
  rcases ite_cases hr with ⟨t4, hr⟩ | ⟨t4, hr⟩
  {
  refine WE.yes kr (b := y2) kr t4 ?_
  refine WE.seq ?_
  refine WE.region ?_
  refine WL.fin 1 kr kr ?_
  obtain rfl := hr
  exact WE.ret ⟨[.int .i64 0], ⟨⟨kr, kr⟩, trivial⟩, ⟨rfl, H⟩⟩
  }
  {
  refine WE.no kr (b := y2) kr t4 ?_
  refine WE.skip ?_
  refine WE.seq ?_
  refine WE.region ?_
  obtain ⟨y5, q5, hr⟩ := bnd_cases hr
  refine WL.sg 1 kr ?_
  refine WL.does kr kr (Does.call (c_r05_Mix x0 1 H q5) kr ?_)
  rintro _ w ⟨rfl, H⟩
  obtain ⟨y6, q6, hr⟩ := bnd_cases hr
  refine WL.sg 1 kr ?_
  refine WL.does kr kr (Does.call (c_r05_Mix y5 x1 H q6) kr ?_)
  rintro _ w ⟨rfl, H⟩
  refine WL.fin 1 kr kr ?_
  obtain rfl := hr
  exact WE.ret ⟨[.int .i64 y6], ⟨⟨kr, kr⟩, trivial⟩, ⟨rfl, H⟩⟩
  }
  }
  rcases ite_cases hy2 with ⟨ty2, hy2⟩ | ⟨ty2, hy2⟩
  {
  refine WL.known 8 ty2 kr kr ?_
  refine WL.sg 4 kr ?_
  obtain rfl := hy2
  exact WL.live [0, 1, 12] kr (hk_y2 () _ H)
  }
  {
  refine WL.known 8 ty2 kr kr ?_
  obtain ⟨y7, q7, hy2⟩ := bnd_cases hy2
  refine WL.sg 1 kr ?_
  refine WL.does kr kr (Does.call (c_r05_Is x1 H q7) kr ?_)
  rintro _ w ⟨rfl, H⟩
  refine WL.sg 2 kr ?_
  obtain rfl := hy2
  exact WL.live [0, 1, 12] kr (hk_y2 () _ H)
  }
def r09_spawn (x0 : GFrame) (x1 : GInstr) (x2 : List GValue) : Option (GFrame × GAct) :=
  if 0 ≤ x1.B ∧ x1.B < x0.Slots.length then
    if ((gd x0.Slots x1.B).State) != 0 then
      bnd (r09_trap x0 2) fun y33 =>
      some (y33.1, y33.2)
    else
      if 0 ≤ x1.B ∧ x1.B < x0.Slots.length then
        if 0 ≤ (w64 ((x0.Stack.length : Int) - (x2.length : Int))) ∧ (w64 ((x0.Stack.length : Int) - (x2.length : Int))) ≤ (x0.Stack.length : Int) then
          bnd (r05_Child x0.Seed x0.Spawned) fun y41 =>
          some ({ x0 with Pc := w64 (x0.Pc + 1), Stack := (x0.Stack.take (w64 ((x0.Stack.length : Int) - (x2.length : Int))).toNat), Slots := (x0.Slots.set x1.B.toNat (⟨1, (⟨(-1), 0⟩ : GRef), (⟨0, (⟨0, 0⟩ : GValue)⟩ : GOut)⟩ : GSlot)), Spawned := w64 (x0.Spawned + 1) }, (⟨2, x1.A, x1.B, y41, x2⟩ : GAct))
        else none
      else none
  else none
set_option maxRecDepth 100000 in
set_option maxHeartbeats 4000000 in
theorem c_r09_spawn {w0 w : World} {h : Gh} {L : List Ent} (x0 : GFrame) {a1 : Option Addr} {c1 : Nat} {a2 : Option Addr} {c2 : Nat} {a3 : Option Addr} {c3 : Nat} (x1 : GInstr) (x2 : List GValue) {a4 : Option Addr} {c4 : Nat} (H : St w0 h w (row rGValue 16 h a1 c1 x0.Stack :: row rGValue 16 h a2 c2 x0.Locals :: row rGSlot 48 h a3 c3 x0.Slots :: row rGValue 16 h a4 c4 x2 :: L)) {r : GFrame × GAct} (hr : r09_spawn x0 x1 x2 = some r) : Calls Tryz.prog 34 #[.agg (cGFrame x0 a1 c1 a2 c2 a3 c3).toArray, .agg #[.int .i64 x1.Op, .int .i64 x1.A, .int .i64 x1.B], .slice a4 x2.length c4] w (fun e w' => ∃ v, e = .returned v ∧ ∃ (h' : Gh) (a901 : Option Addr) (c901 : Nat) (a902 : Option Addr) (c902 : Nat) (a903 : Option Addr) (c903 : Nat) (a904 : Option Addr) (c904 : Nat), v = .tuple #[.agg (cGFrame r.1 a901 c901 a902 c902 a903 c903).toArray, .agg (cGAct r.2 a904 c904).toArray] ∧ h.le h' ∧ Sl rGValue 16 h' a901 c901 r.1.Stack ∧ Sl rGValue 16 h' a902 c902 r.1.Locals ∧ Sl rGSlot 48 h' a903 c903 r.1.Slots ∧ Sl rGValue 16 h' a904 c904 r.2.Args ∧ St w0 h' w' (L)) := by
  refine calls_of (args := [.agg (cGFrame x0 a1 c1 a2 c2 a3 c3).toArray, .agg #[.int .i64 x1.Op, .int .i64 x1.A, .int .i64 x1.B], .slice a4 x2.length c4]) (n := 59) (rs := [.cell 6 33, .cell 7 40]) Tryz.func34 rfl rfl rfl rfl rfl ?_
  unfold r09_spawn at hr
  refine WE.seq ?_
  refine WE.region ?_
  refine WL.does kr kr (Does.box H (cGFrame x0 a1 c1 a2 c2 a3 c3) kr fun b24 w H => ?_)
  refine WL.does kr kr (Does.box H [.int .i64 x1.Op, .int .i64 x1.A, .int .i64 x1.B] kr fun b25 w H => ?_)
  refine WL.does kr kr (Does.alloc H (cGFrame (⟨0, 0, [], [], [], 0, 0, 0, 0, 0, (⟨0, (⟨0, 0⟩ : GValue)⟩ : GOut), (⟨0, 0⟩ : GRef), 0⟩ : GFrame) none 0 none 0 none 0) kr fun b26 w H => ?_)
  refine WL.does kr kr (Does.alloc H (cGAct (⟨0, 0, 0, 0, []⟩ : GAct) none 0) kr fun b27 w H => ?_)
  refine WL.fin 0 kr kr ?_
  refine WE.seq ?_
  refine WE.seq ?_
  refine WE.region ?_
  refine WL.sg 1 kr ?_
  refine WL.does kr kr (Does.loadV H 3 rfl 4 kr kr ?_)
  refine WL.sg 1 kr ?_
  refine WL.does kr kr (Does.loadV H 2 rfl 2 kr kr ?_)
  obtain ⟨⟨g0_28, g1_28⟩, hr⟩ := grd_cases hr
  obtain ⟨b28, p28, rfl⟩ := H.rowSome 6 rfl g0_28 g1_28
  refine WL.does kr kr (Does.tells (.idx b28 (p28) x0.Slots.length c3 x1.B 6 kr kr g0_28 g1_28 kr) ?_)
  refine WL.sg 1 kr ?_
  refine WL.does kr kr (Does.tells (.loadRow (v := .int .i64 ((gd x0.Slots x1.B).State)) H 6 rfl g0_28 g1_28 0 6 rfl (fun _ e => by rcases e with rfl; kernel_rfl) kr) ?_)
  refine WL.fin 1 kr kr ?_
  rcases ite_cases hr with ⟨t29, hr⟩ | ⟨t29, hr⟩
  {
  refine WE.yes kr (b := ((gd x0.Slots x1.B).State) != 0) kr t29 ?_
  refine WE.seq ?_
  refine WE.region ?_
  refine WL.does kr kr (Does.loadV H 3 rfl 0 kr kr ?_)
  obtain ⟨y33, q33, hr⟩ := bnd_cases hr
  obtain ⟨h30, le30, f30, H⟩ := (H.front 4 rfl).rowFreeze (Gh.refl _)
  obtain ⟨h31, le31, f31, H⟩ := (H.front 4 rfl).rowFreeze le30
  obtain ⟨h32, le32, f32, H⟩ := (H.front 4 rfl).rowFreeze (le30.trans le31)
  refine WL.does kr kr (Does.call (c_r09_trap x0 ((f30.up le31).up le32) (f31.up le32) f32 2 H q33) kr ?_)
  rintro _ w ⟨h33, a34, c34, a35, c35, a36, c36, a37, c37, rfl, le33, f34, f35, f36, f37, H⟩
  refine WL.sg 2 kr ?_
  refine WL.does kr kr (Does.storeE H 1 (cGFrame y33.1 a34 c34 a35 c35 a36 c36) rfl (q := 0) kr kr kr fun w H => ?_)
  refine WL.does kr kr (Does.storeE H 0 (cGAct y33.2 a37 c37) rfl (q := 0) kr kr kr fun w H => ?_)
  refine WL.fin 0 kr kr ?_
  obtain rfl := Option.some.inj hr
  exact WE.ret ⟨[.agg (cGFrame y33.1 a34 c34 a35 c35 a36 c36).toArray, .agg (cGAct y33.2 a37 c37).toArray], ⟨⟨kr, ⟨b26, 0, none⟩, kr, H.loadVar 1 rfl 0 kr⟩, ⟨kr, ⟨b27, 0, none⟩, kr, H.loadVar 0 rfl 0 kr⟩, trivial⟩, ⟨h33, a34, c34, a35, c35, a36, c36, a37, c37, rfl, (((le30.trans le31).trans le32).trans le33), f34, f35, f36, f37, (H.keep 5)⟩⟩
  }
  {
  refine WE.no kr (b := ((gd x0.Slots x1.B).State) != 0) kr t29 ?_
  refine WE.skip ?_
  refine WE.seq ?_
  refine WE.region ?_
  refine WL.sg 1 kr ?_
  refine WL.does kr kr (Does.loadV H 3 rfl 4 kr kr ?_)
  refine WL.sg 1 kr ?_
  refine WL.does kr kr (Does.loadV H 2 rfl 2 kr kr ?_)
  obtain ⟨⟨g0_38, g1_38⟩, hr⟩ := grd_cases hr
  refine WL.sg 2 kr ?_
  refine WL.does kr kr (Does.tells (.idx b28 (p28) x0.Slots.length c3 x1.B 6 kr kr g0_38 g1_38 kr) ?_)
  obtain ⟨C39, e39, _, hb39, hc39, rfl⟩ := H.rowAt2 6 rfl g0_38 g1_38
  refine WL.does kr kr (Does.storeRow H 6 rfl (Gh.refl _) (j := x1.B.toNat) (by have h0 := g0_38; have h1 := g1_38; omega) hb39 hc39 0 kr kr (y' := (⟨1, (⟨(-1), 0⟩ : GRef), (⟨0, (⟨0, 0⟩ : GValue)⟩ : GOut)⟩ : GSlot)) (by show _ = _; kernel_rfl) fun w H => ?_)
  have H := H.recell 3 (cGFrame ({ x0 with Slots := (x0.Slots.set x1.B.toNat (⟨1, (⟨(-1), 0⟩ : GRef), (⟨0, (⟨0, 0⟩ : GValue)⟩ : GOut)⟩ : GSlot)) }) a1 c1 a2 c2 (some ⟨b28, p28, none⟩) c3) rfl (by simp only [cGFrame, List.length_set, List.length_take, copied_len])
  refine WL.fin 0 kr kr ?_
  refine WE.seq ?_
  refine WE.region ?_
  refine WL.sg 1 kr ?_
  refine WL.does kr kr (Does.loadV H 3 rfl 2 kr kr ?_)
  refine WL.sg 1 kr ?_
  refine WL.does kr kr (Does.loadV H 3 rfl 2 kr kr ?_)
  obtain ⟨⟨g1_40, g2_40⟩, hr⟩ := grd_cases hr
  refine WL.sg 4 kr ?_
  refine WL.does kr kr (Does.tells (.cutO H 4 rfl none (some (w64 ((x0.Stack.length : Int) - (x2.length : Int)))) 2 (w64 ((x0.Stack.length : Int) - (x2.length : Int))) kr kr kr kr rfl rfl g1_40 g2_40 (Nat.le_refl _)) ?_)
  refine WL.sg 1 kr ?_
  refine WL.does kr kr (Does.storeE H 3 (cGFrame ({ x0 with Stack := (x0.Stack.take (w64 ((x0.Stack.length : Int) - (x2.length : Int))).toNat), Slots := (x0.Slots.set x1.B.toNat (⟨1, (⟨(-1), 0⟩ : GRef), (⟨0, (⟨0, 0⟩ : GValue)⟩ : GOut)⟩ : GSlot)) }) a1 c1 a2 c2 (some ⟨b28, p28, none⟩) c3) rfl (q := 2) kr kr kr fun w H => ?_)
  refine WL.fin 0 kr kr ?_
  refine WE.seq ?_
  refine WE.draws mo [2, 3, 4, 6, 7] (ρ' := [(2, .slice a4 x2.length c4), (3, .pointer (some ⟨b24, 0, none⟩)), (4, .pointer (some ⟨b25, 0, none⟩)), (6, .pointer (some ⟨b26, 0, none⟩)), (7, .pointer (some ⟨b27, 0, none⟩))]) kr fun w e1 e2 e3 e4 => ?_
  have H := H.same e1 e2 e3 e4
  clear e1 e2 e3 e4
  refine WD.know [0] kr ?_
  refine WD.told 1 39 (.int .i64 x1.A) kr kr ?_
  refine WD.know [2] kr ?_
  refine WD.told 3 41 (.int .i64 x1.B) kr kr ?_
  refine WD.know [4] kr ?_
  refine WD.told 5 43 (.int .i64 x0.Seed) kr kr ?_
  refine WD.know [6] kr ?_
  refine WD.told 7 45 (.int .i64 x0.Spawned) kr kr ?_
  refine WD.know [9] kr ?_
  obtain ⟨y41, q41, hr⟩ := bnd_cases hr
  refine WD.among 8 [11] kr (Floats.of [9, 6, 4, 2, 0] [7, 5, 3, 1] kr (Floats.pure _ kr kr) (.cons (.tells rfl kr rfl (.loadV H 3 rfl 6 kr kr)) (.cons (.tells rfl kr rfl (.loadV H 3 rfl 5 kr kr)) (.cons (.tells rfl kr rfl (.loadV H 2 rfl 2 kr kr)) (.cons (.tells rfl kr rfl (.loadV H 2 rfl 1 kr kr)) .nil))))) ⟨?_, ?_, trivial⟩
  {
  refine WT.does 8 kr rfl kr kr (Does.call (c_r05_Child x0.Seed x0.Spawned H q41) kr ?_)
  rintro _ w ⟨rfl, H⟩
  refine WD.know [10] kr ?_
  refine WD.does 11 kr rfl (Floats.of [10, 9, 6, 4, 2, 0] [3, 1] kr (Floats.pure _ kr kr) (.cons (.tells rfl kr rfl (.loadV H 2 rfl 2 kr kr)) (.cons (.tells rfl kr rfl (.loadV H 2 rfl 1 kr kr)) .nil))) kr kr (Does.alloc H (cGAct (⟨0, 0, 0, 0, []⟩ : GAct) none 0) kr fun b42 w H => ?_)
  refine WD.does 12 kr rfl (Floats.of [10, 9, 6, 4, 2, 0] [3, 1] kr (Floats.pure _ kr kr) (.cons (.tells rfl kr rfl (.loadV H 3 rfl 2 kr kr)) (.cons (.tells rfl kr rfl (.loadV H 3 rfl 1 kr kr)) .nil))) kr kr (Does.storeE H 0 (cGAct (⟨2, x1.A, x1.B, y41, x2⟩ : GAct) a4 c4) rfl (q := 0) kr kr kr fun w H => ?_)
  refine WD.fin kr (Floats.of [] [] kr .nil .nil) kr kr ?_
  refine WE.seq ?_
  refine WE.region ?_
  refine WL.sg 1 kr ?_
  refine WL.does kr kr (Does.loadV H 4 rfl 6 kr kr ?_)
  refine WL.sg 2 kr ?_
  refine WL.does kr kr (Does.storeE H 4 (cGFrame ({ x0 with Stack := (x0.Stack.take (w64 ((x0.Stack.length : Int) - (x2.length : Int))).toNat), Slots := (x0.Slots.set x1.B.toNat (⟨1, (⟨(-1), 0⟩ : GRef), (⟨0, (⟨0, 0⟩ : GValue)⟩ : GOut)⟩ : GSlot)), Spawned := w64 (x0.Spawned + 1) }) a1 c1 a2 c2 (some ⟨b28, p28, none⟩) c3) rfl (q := 6) kr kr kr fun w H => ?_)
  refine WL.fin 0 kr kr ?_
  refine WE.seq ?_
  refine WE.region ?_
  refine WL.sg 1 kr ?_
  refine WL.does kr kr (Does.loadV H 4 rfl 1 kr kr ?_)
  refine WL.sg 2 kr ?_
  refine WL.does kr kr (Does.storeE H 4 (cGFrame ({ x0 with Pc := w64 (x0.Pc + 1), Stack := (x0.Stack.take (w64 ((x0.Stack.length : Int) - (x2.length : Int))).toNat), Slots := (x0.Slots.set x1.B.toNat (⟨1, (⟨(-1), 0⟩ : GRef), (⟨0, (⟨0, 0⟩ : GValue)⟩ : GOut)⟩ : GSlot)), Spawned := w64 (x0.Spawned + 1) }) a1 c1 a2 c2 (some ⟨b28, p28, none⟩) c3) rfl (q := 1) kr kr kr fun w H => ?_)
  refine WL.fin 0 kr kr ?_
  refine WE.seq ?_
  refine WE.draws mo [3, 6, 7, 8] (ρ' := [(3, .pointer (some ⟨b24, 0, none⟩)), (6, .pointer (some ⟨b26, 0, none⟩)), (7, .pointer (some ⟨b27, 0, none⟩)), (8, .pointer (some ⟨b42, 0, none⟩))]) kr fun w e1 e2 e3 e4 => ?_
  have H := H.same e1 e2 e3 e4
  clear e1 e2 e3 e4
  refine WD.told 0 57 (.agg (cGFrame ({ x0 with Pc := w64 (x0.Pc + 1), Stack := (x0.Stack.take (w64 ((x0.Stack.length : Int) - (x2.length : Int))).toNat), Slots := (x0.Slots.set x1.B.toNat (⟨1, (⟨(-1), 0⟩ : GRef), (⟨0, (⟨0, 0⟩ : GValue)⟩ : GOut)⟩ : GSlot)), Spawned := w64 (x0.Spawned + 1) }) a1 c1 a2 c2 (some ⟨b28, p28, none⟩) c3).toArray) kr kr ?_
  refine WD.told 1 58 (.agg (cGAct (⟨2, x1.A, x1.B, y41, x2⟩ : GAct) a4 c4).toArray) kr kr ?_
  refine WD.does 2 kr rfl (Floats.of [] [1, 0] kr .nil (.cons (.tells rfl kr rfl (.loadV H 0 rfl 0 kr kr)) (.cons (.tells rfl kr rfl (.loadV H 4 rfl 0 kr kr)) .nil))) kr kr (Does.storeE H 2 (cGFrame ({ x0 with Pc := w64 (x0.Pc + 1), Stack := (x0.Stack.take (w64 ((x0.Stack.length : Int) - (x2.length : Int))).toNat), Slots := (x0.Slots.set x1.B.toNat (⟨1, (⟨(-1), 0⟩ : GRef), (⟨0, (⟨0, 0⟩ : GValue)⟩ : GOut)⟩ : GSlot)), Spawned := w64 (x0.Spawned + 1) }) a1 c1 a2 c2 (some ⟨b28, p28, none⟩) c3) rfl (q := 0) kr kr kr fun w H => ?_)
  refine WD.does 3 kr rfl (Floats.of [] [1] kr .nil (.cons (.tells rfl kr rfl (.loadV H 0 rfl 0 kr kr)) .nil)) kr kr (Does.storeE H 1 (cGAct (⟨2, x1.A, x1.B, y41, x2⟩ : GAct) a4 c4) rfl (q := 0) kr kr kr fun w H => ?_)
  refine WD.fin kr (Floats.of [] [] kr .nil .nil) kr kr ?_
  obtain ⟨h43, le43, f43, H⟩ := (H.front 5 rfl).rowFreeze (Gh.refl _)
  obtain ⟨h44, le44, f44, H⟩ := (H.front 5 rfl).rowFreeze le43
  obtain ⟨h45, le45, f45, H⟩ := (H.front 5 rfl).rowFreeze (le43.trans le44)
  obtain ⟨h46, le46, f46, H⟩ := (H.front 5 rfl).rowFreeze ((le43.trans le44).trans le45)
  obtain rfl := Option.some.inj hr
  exact WE.ret ⟨[.agg (cGFrame ({ x0 with Pc := w64 (x0.Pc + 1), Stack := (x0.Stack.take (w64 ((x0.Stack.length : Int) - (x2.length : Int))).toNat), Slots := (x0.Slots.set x1.B.toNat (⟨1, (⟨(-1), 0⟩ : GRef), (⟨0, (⟨0, 0⟩ : GValue)⟩ : GOut)⟩ : GSlot)), Spawned := w64 (x0.Spawned + 1) }) a1 c1 a2 c2 (some ⟨b28, p28, none⟩) c3).toArray, .agg (cGAct (⟨2, x1.A, x1.B, y41, x2⟩ : GAct) a4 c4).toArray], ⟨⟨kr, ⟨b26, 0, none⟩, kr, H.loadVar 2 rfl 0 kr⟩, ⟨kr, ⟨b27, 0, none⟩, kr, H.loadVar 1 rfl 0 kr⟩, trivial⟩, ⟨h46, a1, c1, a2, c2, (some ⟨b28, p28, none⟩), c3, a4, c4, rfl, (((le43.trans le44).trans le45).trans le46), ((((f43.take (w64 ((x0.Stack.length : Int) - (x2.length : Int))).toNat).up le44).up le45).up le46), ((f44.up le45).up le46), (f45.up le46), f46, (H.keep 5)⟩⟩
  }
  {
  refine WT.does 11 kr rfl kr kr (Does.alloc H (cGAct (⟨0, 0, 0, 0, []⟩ : GAct) none 0) kr fun b42 w H => ?_)
  refine WD.does 8 kr rfl (Floats.of [9, 6, 4, 2, 0] [7, 5, 3, 1] kr (Floats.pure _ kr kr) (.cons (.tells rfl kr rfl (.loadV H 4 rfl 6 kr kr)) (.cons (.tells rfl kr rfl (.loadV H 4 rfl 5 kr kr)) (.cons (.tells rfl kr rfl (.loadV H 3 rfl 2 kr kr)) (.cons (.tells rfl kr rfl (.loadV H 3 rfl 1 kr kr)) .nil))))) kr kr (Does.call (c_r05_Child x0.Seed x0.Spawned H q41) kr ?_)
  rintro _ w ⟨rfl, H⟩
  refine WD.know [10] kr ?_
  refine WD.does 12 kr rfl (Floats.of [10, 9, 6, 4, 2, 0] [3, 1] kr (Floats.pure _ kr kr) (.cons (.tells rfl kr rfl (.loadV H 3 rfl 2 kr kr)) (.cons (.tells rfl kr rfl (.loadV H 3 rfl 1 kr kr)) .nil))) kr kr (Does.storeE H 0 (cGAct (⟨2, x1.A, x1.B, y41, x2⟩ : GAct) a4 c4) rfl (q := 0) kr kr kr fun w H => ?_)
  refine WD.fin kr (Floats.of [] [] kr .nil .nil) kr kr ?_
  refine WE.seq ?_
  refine WE.region ?_
  refine WL.sg 1 kr ?_
  refine WL.does kr kr (Does.loadV H 4 rfl 6 kr kr ?_)
  refine WL.sg 2 kr ?_
  refine WL.does kr kr (Does.storeE H 4 (cGFrame ({ x0 with Stack := (x0.Stack.take (w64 ((x0.Stack.length : Int) - (x2.length : Int))).toNat), Slots := (x0.Slots.set x1.B.toNat (⟨1, (⟨(-1), 0⟩ : GRef), (⟨0, (⟨0, 0⟩ : GValue)⟩ : GOut)⟩ : GSlot)), Spawned := w64 (x0.Spawned + 1) }) a1 c1 a2 c2 (some ⟨b28, p28, none⟩) c3) rfl (q := 6) kr kr kr fun w H => ?_)
  refine WL.fin 0 kr kr ?_
  refine WE.seq ?_
  refine WE.region ?_
  refine WL.sg 1 kr ?_
  refine WL.does kr kr (Does.loadV H 4 rfl 1 kr kr ?_)
  refine WL.sg 2 kr ?_
  refine WL.does kr kr (Does.storeE H 4 (cGFrame ({ x0 with Pc := w64 (x0.Pc + 1), Stack := (x0.Stack.take (w64 ((x0.Stack.length : Int) - (x2.length : Int))).toNat), Slots := (x0.Slots.set x1.B.toNat (⟨1, (⟨(-1), 0⟩ : GRef), (⟨0, (⟨0, 0⟩ : GValue)⟩ : GOut)⟩ : GSlot)), Spawned := w64 (x0.Spawned + 1) }) a1 c1 a2 c2 (some ⟨b28, p28, none⟩) c3) rfl (q := 1) kr kr kr fun w H => ?_)
  refine WL.fin 0 kr kr ?_
  refine WE.seq ?_
  refine WE.draws mo [3, 6, 7, 8] (ρ' := [(3, .pointer (some ⟨b24, 0, none⟩)), (6, .pointer (some ⟨b26, 0, none⟩)), (7, .pointer (some ⟨b27, 0, none⟩)), (8, .pointer (some ⟨b42, 0, none⟩))]) kr fun w e1 e2 e3 e4 => ?_
  have H := H.same e1 e2 e3 e4
  clear e1 e2 e3 e4
  refine WD.told 0 57 (.agg (cGFrame ({ x0 with Pc := w64 (x0.Pc + 1), Stack := (x0.Stack.take (w64 ((x0.Stack.length : Int) - (x2.length : Int))).toNat), Slots := (x0.Slots.set x1.B.toNat (⟨1, (⟨(-1), 0⟩ : GRef), (⟨0, (⟨0, 0⟩ : GValue)⟩ : GOut)⟩ : GSlot)), Spawned := w64 (x0.Spawned + 1) }) a1 c1 a2 c2 (some ⟨b28, p28, none⟩) c3).toArray) kr kr ?_
  refine WD.told 1 58 (.agg (cGAct (⟨2, x1.A, x1.B, y41, x2⟩ : GAct) a4 c4).toArray) kr kr ?_
  refine WD.does 2 kr rfl (Floats.of [] [1, 0] kr .nil (.cons (.tells rfl kr rfl (.loadV H 0 rfl 0 kr kr)) (.cons (.tells rfl kr rfl (.loadV H 4 rfl 0 kr kr)) .nil))) kr kr (Does.storeE H 2 (cGFrame ({ x0 with Pc := w64 (x0.Pc + 1), Stack := (x0.Stack.take (w64 ((x0.Stack.length : Int) - (x2.length : Int))).toNat), Slots := (x0.Slots.set x1.B.toNat (⟨1, (⟨(-1), 0⟩ : GRef), (⟨0, (⟨0, 0⟩ : GValue)⟩ : GOut)⟩ : GSlot)), Spawned := w64 (x0.Spawned + 1) }) a1 c1 a2 c2 (some ⟨b28, p28, none⟩) c3) rfl (q := 0) kr kr kr fun w H => ?_)
  refine WD.does 3 kr rfl (Floats.of [] [1] kr .nil (.cons (.tells rfl kr rfl (.loadV H 0 rfl 0 kr kr)) .nil)) kr kr (Does.storeE H 1 (cGAct (⟨2, x1.A, x1.B, y41, x2⟩ : GAct) a4 c4) rfl (q := 0) kr kr kr fun w H => ?_)
  refine WD.fin kr (Floats.of [] [] kr .nil .nil) kr kr ?_
  obtain ⟨h43, le43, f43, H⟩ := (H.front 5 rfl).rowFreeze (Gh.refl _)
  obtain ⟨h44, le44, f44, H⟩ := (H.front 5 rfl).rowFreeze le43
  obtain ⟨h45, le45, f45, H⟩ := (H.front 5 rfl).rowFreeze (le43.trans le44)
  obtain ⟨h46, le46, f46, H⟩ := (H.front 5 rfl).rowFreeze ((le43.trans le44).trans le45)
  obtain rfl := Option.some.inj hr
  exact WE.ret ⟨[.agg (cGFrame ({ x0 with Pc := w64 (x0.Pc + 1), Stack := (x0.Stack.take (w64 ((x0.Stack.length : Int) - (x2.length : Int))).toNat), Slots := (x0.Slots.set x1.B.toNat (⟨1, (⟨(-1), 0⟩ : GRef), (⟨0, (⟨0, 0⟩ : GValue)⟩ : GOut)⟩ : GSlot)), Spawned := w64 (x0.Spawned + 1) }) a1 c1 a2 c2 (some ⟨b28, p28, none⟩) c3).toArray, .agg (cGAct (⟨2, x1.A, x1.B, y41, x2⟩ : GAct) a4 c4).toArray], ⟨⟨kr, ⟨b26, 0, none⟩, kr, H.loadVar 2 rfl 0 kr⟩, ⟨kr, ⟨b27, 0, none⟩, kr, H.loadVar 1 rfl 0 kr⟩, trivial⟩, ⟨h46, a1, c1, a2, c2, (some ⟨b28, p28, none⟩), c3, a4, c4, rfl, (((le43.trans le44).trans le45).trans le46), ((((f43.take (w64 ((x0.Stack.length : Int) - (x2.length : Int))).toNat).up le44).up le45).up le46), ((f44.up le45).up le46), (f45.up le46), f46, (H.keep 5)⟩⟩
  }
  }
def r09_join (x0 : GFrame) (x1 : GInstr) : Option (GFrame × GAct) :=
  if 0 ≤ x1.A ∧ x1.A < x0.Slots.length then
    if ((gd x0.Slots x1.A).State) == 1 then
      some ({ x0 with State := 1, Wait := x1.A }, (⟨3, 0, 0, 0, []⟩ : GAct))
    else
      if ((gd x0.Slots x1.A).State) != 2 then
        bnd (r09_trap x0 2) fun y47 =>
        some (y47.1, y47.2)
      else
        if 0 ≤ x1.A ∧ x1.A < x0.Slots.length then
          if ((gd x0.Slots x1.A).Out.Trap) != 0 then
            bnd (r09_trap ({ x0 with Slots := (x0.Slots.set x1.A.toNat (⟨0, (⟨0, 0⟩ : GRef), (⟨0, (⟨0, 0⟩ : GValue)⟩ : GOut)⟩ : GSlot)) }) ((gd x0.Slots x1.A).Out.Trap)) fun y58 =>
            some (y58.1, y58.2)
          else
            if (x0.Stack.length + [(⟨(gd x0.Slots x1.A).Out.V.Re, (gd x0.Slots x1.A).Out.V.Im⟩ : GValue)].length) * 16 ≤ LIM then
              some ({ x0 with Pc := w64 (x0.Pc + 1), Stack := (x0.Stack ++ [(⟨(gd x0.Slots x1.A).Out.V.Re, (gd x0.Slots x1.A).Out.V.Im⟩ : GValue)]), Slots := (x0.Slots.set x1.A.toNat (⟨0, (⟨0, 0⟩ : GRef), (⟨0, (⟨0, 0⟩ : GValue)⟩ : GOut)⟩ : GSlot)) }, (⟨1, 0, 0, 0, []⟩ : GAct))
            else none
        else none
  else none
set_option maxRecDepth 100000 in
set_option maxHeartbeats 4000000 in
theorem c_r09_join {w0 w : World} {h : Gh} {L : List Ent} (x0 : GFrame) {a1 : Option Addr} {c1 : Nat} {a2 : Option Addr} {c2 : Nat} {a3 : Option Addr} {c3 : Nat} (x1 : GInstr) (H : St w0 h w (row rGValue 16 h a1 c1 x0.Stack :: row rGValue 16 h a2 c2 x0.Locals :: row rGSlot 48 h a3 c3 x0.Slots :: L)) {r : GFrame × GAct} (hr : r09_join x0 x1 = some r) : Calls Tryz.prog 35 #[.agg (cGFrame x0 a1 c1 a2 c2 a3 c3).toArray, .agg #[.int .i64 x1.Op, .int .i64 x1.A, .int .i64 x1.B]] w (fun e w' => ∃ v, e = .returned v ∧ ∃ (h' : Gh) (a901 : Option Addr) (c901 : Nat) (a902 : Option Addr) (c902 : Nat) (a903 : Option Addr) (c903 : Nat) (a904 : Option Addr) (c904 : Nat), v = .tuple #[.agg (cGFrame r.1 a901 c901 a902 c902 a903 c903).toArray, .agg (cGAct r.2 a904 c904).toArray] ∧ h.le h' ∧ Sl rGValue 16 h' a901 c901 r.1.Stack ∧ Sl rGValue 16 h' a902 c902 r.1.Locals ∧ Sl rGSlot 48 h' a903 c903 r.1.Slots ∧ Sl rGValue 16 h' a904 c904 r.2.Args ∧ St w0 h' w' (L)) := by
  refine calls_of (args := [.agg (cGFrame x0 a1 c1 a2 c2 a3 c3).toArray, .agg #[.int .i64 x1.Op, .int .i64 x1.A, .int .i64 x1.B]]) (n := 60) (rs := [.cell 4 33, .cell 5 40]) Tryz.func35 rfl rfl rfl rfl rfl ?_
  unfold r09_join at hr
  refine WE.seq ?_
  refine WE.region ?_
  refine WL.does kr kr (Does.box H (cGFrame x0 a1 c1 a2 c2 a3 c3) kr fun b33 w H => ?_)
  refine WL.does kr kr (Does.box H [.int .i64 x1.Op, .int .i64 x1.A, .int .i64 x1.B] kr fun b34 w H => ?_)
  refine WL.does kr kr (Does.alloc H (cGFrame (⟨0, 0, [], [], [], 0, 0, 0, 0, 0, (⟨0, (⟨0, 0⟩ : GValue)⟩ : GOut), (⟨0, 0⟩ : GRef), 0⟩ : GFrame) none 0 none 0 none 0) kr fun b35 w H => ?_)
  refine WL.does kr kr (Does.alloc H (cGAct (⟨0, 0, 0, 0, []⟩ : GAct) none 0) kr fun b36 w H => ?_)
  refine WL.fin 0 kr kr ?_
  refine WE.seq ?_
  refine WE.region ?_
  refine WL.sg 1 kr ?_
  refine WL.does kr kr (Does.loadV H 3 rfl 4 kr kr ?_)
  refine WL.sg 1 kr ?_
  refine WL.does kr kr (Does.loadV H 2 rfl 1 kr kr ?_)
  obtain ⟨⟨g0_37, g1_37⟩, hr⟩ := grd_cases hr
  obtain ⟨b37, p37, rfl⟩ := H.rowSome 6 rfl g0_37 g1_37
  refine WL.does kr kr (Does.tells (.idx b37 (p37) x0.Slots.length c3 x1.A 6 kr kr g0_37 g1_37 kr) ?_)
  refine WL.does kr kr (Does.tells (.loadRow (v := .agg (cGSlot (⟨(gd x0.Slots x1.A).State, (⟨(gd x0.Slots x1.A).Kid.At, (gd x0.Slots x1.A).Kid.Gen⟩ : GRef), (⟨(gd x0.Slots x1.A).Out.Trap, (⟨(gd x0.Slots x1.A).Out.V.Re, (gd x0.Slots x1.A).Out.V.Im⟩ : GValue)⟩ : GOut)⟩ : GSlot)).toArray) H 6 rfl g0_37 g1_37 0 6 rfl (fun _ e => by rcases e with rfl; kernel_rfl) kr) ?_)
  refine WL.does kr kr (Does.alloc H (cGSlot (⟨0, (⟨0, 0⟩ : GRef), (⟨0, (⟨0, 0⟩ : GValue)⟩ : GOut)⟩ : GSlot)) kr fun b38 w H => ?_)
  refine WL.does kr kr (Does.storeE H 0 (cGSlot (⟨(gd x0.Slots x1.A).State, (⟨(gd x0.Slots x1.A).Kid.At, (gd x0.Slots x1.A).Kid.Gen⟩ : GRef), (⟨(gd x0.Slots x1.A).Out.Trap, (⟨(gd x0.Slots x1.A).Out.V.Re, (gd x0.Slots x1.A).Out.V.Im⟩ : GValue)⟩ : GOut)⟩ : GSlot)) rfl (q := 0) kr kr kr fun w H => ?_)
  refine WL.fin 0 kr kr ?_
  refine WE.seq ?_
  refine WE.seq ?_
  refine WE.region ?_
  refine WL.sg 1 kr ?_
  refine WL.does kr kr (Does.loadV H 0 rfl 0 kr kr ?_)
  refine WL.fin 1 kr kr ?_
  rcases ite_cases hr with ⟨t39, hr⟩ | ⟨t39, hr⟩
  {
  refine WE.yes kr (b := ((gd x0.Slots x1.A).State) == 1) kr t39 ?_
  refine WE.seq ?_
  refine WE.region ?_
  refine WL.sg 1 kr ?_
  refine WL.does kr kr (Does.storeE H 4 (cGFrame ({ x0 with State := 1 }) a1 c1 a2 c2 (some ⟨b37, p37, none⟩) c3) rfl (q := 8) kr kr kr fun w H => ?_)
  refine WL.fin 0 kr kr ?_
  refine WE.seq ?_
  refine WE.region ?_
  refine WL.sg 1 kr ?_
  refine WL.does kr kr (Does.loadV H 3 rfl 1 kr kr ?_)
  refine WL.sg 1 kr ?_
  refine WL.does kr kr (Does.storeE H 4 (cGFrame ({ x0 with State := 1, Wait := x1.A }) a1 c1 a2 c2 (some ⟨b37, p37, none⟩) c3) rfl (q := 9) kr kr kr fun w H => ?_)
  refine WL.fin 0 kr kr ?_
  refine WE.seq ?_
  refine WE.region ?_
  refine WL.does kr kr (Does.loadV H 4 rfl 0 kr kr ?_)
  refine WL.sg 1 kr ?_
  refine WL.does kr kr (Does.storeE H 2 (cGFrame ({ x0 with State := 1, Wait := x1.A }) a1 c1 a2 c2 (some ⟨b37, p37, none⟩) c3) rfl (q := 0) kr kr kr fun w H => ?_)
  refine WL.does kr kr (Does.storeE H 1 (cGAct (⟨3, 0, 0, 0, []⟩ : GAct) none 0) rfl (q := 0) kr kr kr fun w H => ?_)
  refine WL.fin 0 kr kr ?_
  obtain ⟨h40, le40, f40, H⟩ := (H.front 5 rfl).rowFreeze (Gh.refl _)
  obtain ⟨h41, le41, f41, H⟩ := (H.front 5 rfl).rowFreeze le40
  obtain ⟨h42, le42, f42, H⟩ := (H.front 5 rfl).rowFreeze (le40.trans le41)
  obtain rfl := Option.some.inj hr
  exact WE.ret ⟨[.agg (cGFrame ({ x0 with State := 1, Wait := x1.A }) a1 c1 a2 c2 (some ⟨b37, p37, none⟩) c3).toArray, .agg (cGAct (⟨3, 0, 0, 0, []⟩ : GAct) none 0).toArray], ⟨⟨kr, ⟨b35, 0, none⟩, kr, H.loadVar 2 rfl 0 kr⟩, ⟨kr, ⟨b36, 0, none⟩, kr, H.loadVar 1 rfl 0 kr⟩, trivial⟩, ⟨h42, a1, c1, a2, c2, (some ⟨b37, p37, none⟩), c3, none, 0, rfl, ((le40.trans le41).trans le42), ((f40.up le41).up le42), (f41.up le42), f42, (Sl.nil _ _ (Nat.zero_le _)), (H.keep 5)⟩⟩
  }
  {
  refine WE.no kr (b := ((gd x0.Slots x1.A).State) == 1) kr t39 ?_
  refine WE.skip ?_
  refine WE.seq ?_
  refine WE.seq ?_
  refine WE.region ?_
  refine WL.sg 1 kr ?_
  refine WL.does kr kr (Does.loadV H 0 rfl 0 kr kr ?_)
  refine WL.fin 1 kr kr ?_
  rcases ite_cases hr with ⟨t43, hr⟩ | ⟨t43, hr⟩
  {
  refine WE.yes kr (b := ((gd x0.Slots x1.A).State) != 2) kr t43 ?_
  refine WE.seq ?_
  refine WE.region ?_
  refine WL.does kr kr (Does.loadV H 4 rfl 0 kr kr ?_)
  obtain ⟨y47, q47, hr⟩ := bnd_cases hr
  obtain ⟨h44, le44, f44, H⟩ := (H.front 5 rfl).rowFreeze (Gh.refl _)
  obtain ⟨h45, le45, f45, H⟩ := (H.front 5 rfl).rowFreeze le44
  obtain ⟨h46, le46, f46, H⟩ := (H.front 5 rfl).rowFreeze (le44.trans le45)
  refine WL.does kr kr (Does.call (c_r09_trap x0 ((f44.up le45).up le46) (f45.up le46) f46 2 H q47) kr ?_)
  rintro _ w ⟨h47, a48, c48, a49, c49, a50, c50, a51, c51, rfl, le47, f48, f49, f50, f51, H⟩
  refine WL.sg 2 kr ?_
  refine WL.does kr kr (Does.storeE H 2 (cGFrame y47.1 a48 c48 a49 c49 a50 c50) rfl (q := 0) kr kr kr fun w H => ?_)
  refine WL.does kr kr (Does.storeE H 1 (cGAct y47.2 a51 c51) rfl (q := 0) kr kr kr fun w H => ?_)
  refine WL.fin 0 kr kr ?_
  obtain rfl := Option.some.inj hr
  exact WE.ret ⟨[.agg (cGFrame y47.1 a48 c48 a49 c49 a50 c50).toArray, .agg (cGAct y47.2 a51 c51).toArray], ⟨⟨kr, ⟨b35, 0, none⟩, kr, H.loadVar 2 rfl 0 kr⟩, ⟨kr, ⟨b36, 0, none⟩, kr, H.loadVar 1 rfl 0 kr⟩, trivial⟩, ⟨h47, a48, c48, a49, c49, a50, c50, a51, c51, rfl, (((le44.trans le45).trans le46).trans le47), f48, f49, f50, f51, (H.keep 5)⟩⟩
  }
  {
  refine WE.no kr (b := ((gd x0.Slots x1.A).State) != 2) kr t43 ?_
  refine WE.skip ?_
  refine WE.seq ?_
  refine WE.region ?_
  refine WL.sg 1 kr ?_
  refine WL.does kr kr (Does.loadV H 4 rfl 4 kr kr ?_)
  refine WL.sg 1 kr ?_
  refine WL.does kr kr (Does.loadV H 3 rfl 1 kr kr ?_)
  obtain ⟨⟨g0_52, g1_52⟩, hr⟩ := grd_cases hr
  refine WL.sg 1 kr ?_
  refine WL.does kr kr (Does.tells (.idx b37 (p37) x0.Slots.length c3 x1.A 6 kr kr g0_52 g1_52 kr) ?_)
  obtain ⟨C53, e53, _, hb53, hc53, rfl⟩ := H.rowAt2 7 rfl g0_52 g1_52
  refine WL.does kr kr (Does.storeRow H 7 rfl (Gh.refl _) (j := x1.A.toNat) (by have h0 := g0_52; have h1 := g1_52; omega) hb53 hc53 0 kr kr (y' := (⟨0, (⟨0, 0⟩ : GRef), (⟨0, (⟨0, 0⟩ : GValue)⟩ : GOut)⟩ : GSlot)) (by show _ = _; kernel_rfl) fun w H => ?_)
  have H := H.recell 4 (cGFrame ({ x0 with Slots := (x0.Slots.set x1.A.toNat (⟨0, (⟨0, 0⟩ : GRef), (⟨0, (⟨0, 0⟩ : GValue)⟩ : GOut)⟩ : GSlot)) }) a1 c1 a2 c2 (some ⟨b37, p37, none⟩) c3) rfl (by simp only [cGFrame, List.length_set, List.length_take, copied_len])
  refine WL.fin 0 kr kr ?_
  refine WE.seq ?_
  refine WE.seq ?_
  refine WE.region ?_
  refine WL.sg 2 kr ?_
  refine WL.does kr kr (Does.loadV H 0 rfl 3 kr kr ?_)
  refine WL.fin 1 kr kr ?_
  rcases ite_cases hr with ⟨t54, hr⟩ | ⟨t54, hr⟩
  {
  refine WE.yes kr (b := ((gd x0.Slots x1.A).Out.Trap) != 0) kr t54 ?_
  refine WE.seq ?_
  refine WE.region ?_
  refine WL.does kr kr (Does.loadV H 4 rfl 0 kr kr ?_)
  refine WL.sg 2 kr ?_
  refine WL.does kr kr (Does.loadV H 0 rfl 3 kr kr ?_)
  obtain ⟨y58, q58, hr⟩ := bnd_cases hr
  obtain ⟨h55, le55, f55, H⟩ := (H.front 5 rfl).rowFreeze (Gh.refl _)
  obtain ⟨h56, le56, f56, H⟩ := (H.front 5 rfl).rowFreeze le55
  obtain ⟨h57, le57, f57, H⟩ := (H.front 5 rfl).rowFreeze (le55.trans le56)
  refine WL.does kr kr (Does.call (c_r09_trap ({ x0 with Slots := (x0.Slots.set x1.A.toNat (⟨0, (⟨0, 0⟩ : GRef), (⟨0, (⟨0, 0⟩ : GValue)⟩ : GOut)⟩ : GSlot)) }) ((f55.up le56).up le57) (f56.up le57) f57 ((gd x0.Slots x1.A).Out.Trap) H q58) kr ?_)
  rintro _ w ⟨h58, a59, c59, a60, c60, a61, c61, a62, c62, rfl, le58, f59, f60, f61, f62, H⟩
  refine WL.sg 2 kr ?_
  refine WL.does kr kr (Does.storeE H 2 (cGFrame y58.1 a59 c59 a60 c60 a61 c61) rfl (q := 0) kr kr kr fun w H => ?_)
  refine WL.does kr kr (Does.storeE H 1 (cGAct y58.2 a62 c62) rfl (q := 0) kr kr kr fun w H => ?_)
  refine WL.fin 0 kr kr ?_
  obtain rfl := Option.some.inj hr
  exact WE.ret ⟨[.agg (cGFrame y58.1 a59 c59 a60 c60 a61 c61).toArray, .agg (cGAct y58.2 a62 c62).toArray], ⟨⟨kr, ⟨b35, 0, none⟩, kr, H.loadVar 2 rfl 0 kr⟩, ⟨kr, ⟨b36, 0, none⟩, kr, H.loadVar 1 rfl 0 kr⟩, trivial⟩, ⟨h58, a59, c59, a60, c60, a61, c61, a62, c62, rfl, (((le55.trans le56).trans le57).trans le58), f59, f60, f61, f62, (H.keep 5)⟩⟩
  }
  {
  refine WE.no kr (b := ((gd x0.Slots x1.A).Out.Trap) != 0) kr t54 ?_
  refine WE.skip ?_
  refine WE.seq ?_
  refine WE.region ?_
  refine WL.sg 1 kr ?_
  refine WL.does kr kr (Does.loadV H 4 rfl 2 kr kr ?_)
  refine WL.sg 2 kr ?_
  refine WL.does kr kr (Does.loadV H 0 rfl 4 kr kr ?_)
  refine WL.does kr kr (Does.lit (K := rGValue) (B := 16) (xs := [(⟨(gd x0.Slots x1.A).Out.V.Re, (gd x0.Slots x1.A).Out.V.Im⟩ : GValue)]) (e := 27) H ([.int .i64 ((gd x0.Slots x1.A).Out.V.Re), .int .i64 ((gd x0.Slots x1.A).Out.V.Im)] ++ []) kr (Rows.cons (C := [.int .i64 ((gd x0.Slots x1.A).Out.V.Re), .int .i64 ((gd x0.Slots x1.A).Out.V.Im)]) (x := (⟨(gd x0.Slots x1.A).Out.V.Re, (gd x0.Slots x1.A).Out.V.Im⟩ : GValue)) (by show _ = _; kernel_rfl) Rows.nil) kr kr kr kr fun b63 w H => ?_)
  obtain ⟨g64, hr⟩ := grd_cases hr
  refine WL.does kr kr (Does.append (t := 24) (xt := 24) (ty := 24) (e := 27) (e2 := 27) (z := .agg #[.int .i64 0, .int .i64 0]) H 6 rfl (Gh.refl _) (ys := [(⟨(gd x0.Slots x1.A).Out.V.Re, (gd x0.Slots x1.A).Out.V.Im⟩ : GValue)]) (c2 := 1) (H.rowSrc 0 rfl (Gh.refl _)) g64 kr kr kr kr fun a64 c64 w H => ?_)
  refine WL.sg 1 kr ?_
  refine WL.does kr kr (Does.storeE H 5 (cGFrame ({ x0 with Stack := (x0.Stack ++ [(⟨(gd x0.Slots x1.A).Out.V.Re, (gd x0.Slots x1.A).Out.V.Im⟩ : GValue)]), Slots := (x0.Slots.set x1.A.toNat (⟨0, (⟨0, 0⟩ : GRef), (⟨0, (⟨0, 0⟩ : GValue)⟩ : GOut)⟩ : GSlot)) }) a64 c64 a2 c2 (some ⟨b37, p37, none⟩) c3) rfl (q := 2) kr kr kr fun w H => ?_)
  refine WL.fin 0 kr kr ?_
  refine WE.seq ?_
  refine WE.region ?_
  refine WL.sg 1 kr ?_
  refine WL.does kr kr (Does.loadV H 5 rfl 1 kr kr ?_)
  refine WL.sg 2 kr ?_
  refine WL.does kr kr (Does.storeE H 5 (cGFrame ({ x0 with Pc := w64 (x0.Pc + 1), Stack := (x0.Stack ++ [(⟨(gd x0.Slots x1.A).Out.V.Re, (gd x0.Slots x1.A).Out.V.Im⟩ : GValue)]), Slots := (x0.Slots.set x1.A.toNat (⟨0, (⟨0, 0⟩ : GRef), (⟨0, (⟨0, 0⟩ : GValue)⟩ : GOut)⟩ : GSlot)) }) a64 c64 a2 c2 (some ⟨b37, p37, none⟩) c3) rfl (q := 1) kr kr kr fun w H => ?_)
  refine WL.fin 0 kr kr ?_
  refine WE.seq ?_
  refine WE.region ?_
  refine WL.does kr kr (Does.loadV H 5 rfl 0 kr kr ?_)
  refine WL.sg 1 kr ?_
  refine WL.does kr kr (Does.storeE H 3 (cGFrame ({ x0 with Pc := w64 (x0.Pc + 1), Stack := (x0.Stack ++ [(⟨(gd x0.Slots x1.A).Out.V.Re, (gd x0.Slots x1.A).Out.V.Im⟩ : GValue)]), Slots := (x0.Slots.set x1.A.toNat (⟨0, (⟨0, 0⟩ : GRef), (⟨0, (⟨0, 0⟩ : GValue)⟩ : GOut)⟩ : GSlot)) }) a64 c64 a2 c2 (some ⟨b37, p37, none⟩) c3) rfl (q := 0) kr kr kr fun w H => ?_)
  refine WL.does kr kr (Does.storeE H 2 (cGAct (⟨1, 0, 0, 0, []⟩ : GAct) none 0) rfl (q := 0) kr kr kr fun w H => ?_)
  refine WL.fin 0 kr kr ?_
  obtain ⟨h65, le65, f65, H⟩ := (H.front 6 rfl).rowFreeze (Gh.refl _)
  obtain ⟨h66, le66, f66, H⟩ := (H.front 6 rfl).rowFreeze le65
  obtain ⟨h67, le67, f67, H⟩ := (H.front 6 rfl).rowFreeze (le65.trans le66)
  obtain rfl := Option.some.inj hr
  exact WE.ret ⟨[.agg (cGFrame ({ x0 with Pc := w64 (x0.Pc + 1), Stack := (x0.Stack ++ [(⟨(gd x0.Slots x1.A).Out.V.Re, (gd x0.Slots x1.A).Out.V.Im⟩ : GValue)]), Slots := (x0.Slots.set x1.A.toNat (⟨0, (⟨0, 0⟩ : GRef), (⟨0, (⟨0, 0⟩ : GValue)⟩ : GOut)⟩ : GSlot)) }) a64 c64 a2 c2 (some ⟨b37, p37, none⟩) c3).toArray, .agg (cGAct (⟨1, 0, 0, 0, []⟩ : GAct) none 0).toArray], ⟨⟨kr, ⟨b35, 0, none⟩, kr, H.loadVar 3 rfl 0 kr⟩, ⟨kr, ⟨b36, 0, none⟩, kr, H.loadVar 2 rfl 0 kr⟩, trivial⟩, ⟨h67, a64, c64, a2, c2, (some ⟨b37, p37, none⟩), c3, none, 0, rfl, ((le65.trans le66).trans le67), ((f65.up le66).up le67), (f66.up le67), f67, (Sl.nil _ _ (Nat.zero_le _)), (H.keep 6)⟩⟩
  }
  }
  }
def r04_Rest (x0 : Int) : Int :=
  if decide ((Int.tmod x0 251) < 0) then
    w64 ((Int.tmod x0 251) + 251)
  else
    Int.tmod x0 251
set_option maxRecDepth 100000 in
set_option maxHeartbeats 4000000 in
theorem c_r04_Rest {w0 w : World} {h : Gh} {L : List Ent} (x0 : Int) (H : St w0 h w L) {r : Int} (hr : r04_Rest x0 = r) : Calls Tryz.prog 71 #[.int .i64 x0] w (fun e w' => ∃ v, e = .returned v ∧ v = .int .i64 r ∧ St w0 h w' (L)) := by
  refine calls_of (args := [.int .i64 x0]) (n := 11) (rs := [.tmp 2]) Tryz.func71 rfl rfl rfl rfl rfl ?_
  unfold r04_Rest at hr
  refine WE.seq ?_
  refine WE.region ?_
  refine WL.fin 1 kr kr ?_
  refine WE.seq ?_
  refine WE.region ?_
  refine WL.fin 3 kr kr ?_
  refine WE.seq ?_
  refine WE.seq ?_
  refine WE.region ?_
  refine WL.fin 2 kr kr ?_
  rcases ite_cases hr with ⟨t1, hr⟩ | ⟨t1, hr⟩
  {
  refine WE.yes kr (b := decide ((Int.tmod x0 251) < 0)) kr t1 ?_
  refine WE.region ?_
  refine WL.fin 3 kr kr ?_
  refine WE.seq ?_
  refine WE.region ?_
  refine WL.fin 2 kr kr ?_
  obtain rfl := hr
  exact WE.ret ⟨[.int .i64 (w64 ((Int.tmod x0 251) + 251))], ⟨⟨kr, kr⟩, trivial⟩, ⟨rfl, H⟩⟩
  }
  {
  refine WE.no kr (b := decide ((Int.tmod x0 251) < 0)) kr t1 ?_
  refine WE.skip ?_
  refine WE.seq ?_
  refine WE.region ?_
  refine WL.fin 2 kr kr ?_
  obtain rfl := hr
  exact WE.ret ⟨[.int .i64 (Int.tmod x0 251)], ⟨⟨kr, kr⟩, trivial⟩, ⟨rfl, H⟩⟩
  }
def r04_Of (x0 : Int) (x1 : Int) : GValue :=
  bnd (r04_Rest x0) fun y2 =>
  bnd (r04_Rest x1) fun y3 =>
  (⟨y2, y3⟩ : GValue)
set_option maxRecDepth 100000 in
set_option maxHeartbeats 4000000 in
theorem c_r04_Of {w0 w : World} {h : Gh} {L : List Ent} (x0 : Int) (x1 : Int) (H : St w0 h w L) {r : GValue} (hr : r04_Of x0 x1 = r) : Calls Tryz.prog 39 #[.int .i64 x0, .int .i64 x1] w (fun e w' => ∃ v, e = .returned v ∧ v = .agg #[.int .i64 r.Re, .int .i64 r.Im] ∧ St w0 h w' (L)) := by
  refine calls_of (args := [.int .i64 x0, .int .i64 x1]) (n := 10) (rs := [.cell 4 27]) Tryz.func39 rfl rfl rfl rfl rfl ?_
  unfold r04_Of at hr
  refine WE.seq ?_
  refine WE.region ?_
  refine WL.does kr kr (Does.alloc H [.int .i64 0, .int .i64 0] kr fun b1 w H => ?_)
  refine WL.fin 0 kr kr ?_
  refine WE.seq ?_
  refine WE.region ?_
  obtain ⟨y2, q2, hr⟩ := bnd_cases hr
  refine WL.sg 1 kr ?_
  refine WL.does kr kr (Does.call (c_r04_Rest x0 H q2) kr ?_)
  rintro _ w ⟨rfl, H⟩
  obtain ⟨y3, q3, hr⟩ := bnd_cases hr
  refine WL.sg 1 kr ?_
  refine WL.does kr kr (Does.call (c_r04_Rest x1 H q3) kr ?_)
  rintro _ w ⟨rfl, H⟩
  refine WL.sg 1 kr ?_
  refine WL.does kr kr (Does.storeE H 0 [.int .i64 y2, .int .i64 y3] rfl (q := 0) kr kr kr fun w H => ?_)
  refine WL.fin 0 kr kr ?_
  obtain rfl := hr
  exact WE.ret ⟨[.agg #[.int .i64 y2, .int .i64 y3]], ⟨⟨kr, ⟨b1, 0, none⟩, kr, H.loadVar 0 rfl 0 kr⟩, trivial⟩, ⟨rfl, (H.keep 1)⟩⟩
def r04_Conj (x0 : GValue) : GValue :=
  bnd (r04_Rest x0.Re) fun y3 =>
  bnd (r04_Rest x0.Im) fun y4 =>
  bnd (r04_Of y3 (w64 (0 - y4))) fun y5 =>
  y5
set_option maxRecDepth 100000 in
set_option maxHeartbeats 4000000 in
theorem c_r04_Conj {w0 w : World} {h : Gh} {L : List Ent} (x0 : GValue) (H : St w0 h w L) {r : GValue} (hr : r04_Conj x0 = r) : Calls Tryz.prog 73 #[.agg #[.int .i64 x0.Re, .int .i64 x0.Im]] w (fun e w' => ∃ v, e = .returned v ∧ v = .agg #[.int .i64 r.Re, .int .i64 r.Im] ∧ St w0 h w' (L)) := by
  refine calls_of (args := [.agg #[.int .i64 x0.Re, .int .i64 x0.Im]]) (n := 11) (rs := [.cell 2 27]) Tryz.func73 rfl rfl rfl rfl rfl ?_
  unfold r04_Conj at hr
  refine WE.seq ?_
  refine WE.region ?_
  refine WL.does kr kr (Does.box H [.int .i64 x0.Re, .int .i64 x0.Im] kr fun b1 w H => ?_)
  refine WL.does kr kr (Does.alloc H [.int .i64 0, .int .i64 0] kr fun b2 w H => ?_)
  refine WL.fin 0 kr kr ?_
  refine WE.seq ?_
  refine WE.draws mo [1, 2] (ρ' := [(1, .pointer (some ⟨b1, 0, none⟩)), (2, .pointer (some ⟨b2, 0, none⟩))]) kr fun w e1 e2 e3 e4 => ?_
  have H := H.same e1 e2 e3 e4
  clear e1 e2 e3 e4
  refine WD.know [0] kr ?_
  refine WD.told 1 4 (.int .i64 x0.Re) kr kr ?_
  refine WD.know [3] kr ?_
  refine WD.told 4 7 (.int .i64 x0.Im) kr kr ?_
  obtain ⟨y3, q3, hr⟩ := bnd_cases hr
  refine WD.does 2 kr rfl (Floats.of [3, 0] [4, 1] kr (Floats.pure _ kr kr) (.cons (.tells rfl kr rfl (.loadV H 1 rfl 1 kr kr)) (.cons (.tells rfl kr rfl (.loadV H 1 rfl 0 kr kr)) .nil))) kr kr (Does.call (c_r04_Rest x0.Re H q3) kr ?_)
  rintro _ w ⟨rfl, H⟩
  obtain ⟨y4, q4, hr⟩ := bnd_cases hr
  refine WD.does 5 kr rfl (Floats.of [3, 0] [4] kr (Floats.pure _ kr kr) (.cons (.tells rfl kr rfl (.loadV H 1 rfl 1 kr kr)) .nil)) kr kr (Does.call (c_r04_Rest x0.Im H q4) kr ?_)
  rintro _ w ⟨rfl, H⟩
  refine WD.know [6] kr ?_
  obtain ⟨y5, q5, hr⟩ := bnd_cases hr
  refine WD.does 7 kr rfl (Floats.of [6, 3, 0] [] kr (Floats.pure _ kr kr) .nil) kr kr (Does.call (c_r04_Of y3 (w64 (0 - y4)) H q5) kr ?_)
  rintro _ w ⟨rfl, H⟩
  refine WD.does 8 kr rfl (Floats.of [3, 0] [] kr (Floats.pure _ kr kr) .nil) kr kr (Does.storeE H 0 [.int .i64 y5.Re, .int .i64 y5.Im] rfl (q := 0) kr kr kr fun w H => ?_)
  refine WD.fin kr (Floats.of [] [] kr .nil .nil) kr kr ?_
  obtain rfl := hr
  exact WE.ret ⟨[.agg #[.int .i64 y5.Re, .int .i64 y5.Im]], ⟨⟨kr, ⟨b2, 0, none⟩, kr, H.loadVar 0 rfl 0 kr⟩, trivial⟩, ⟨rfl, (H.keep 2)⟩⟩
def r04_Mul (x0 : GValue) (x1 : GValue) : GValue :=
  bnd (r04_Of x0.Re x0.Im) fun y4 =>
  bnd (r04_Of x1.Re x1.Im) fun y5 =>
  bnd (r04_Of (w64 ((w64 (y4.Re * y5.Re)) - (w64 (y4.Im * y5.Im)))) (w64 ((w64 (y4.Re * y5.Im)) + (w64 (y4.Im * y5.Re))))) fun y8 =>
  y8
set_option maxRecDepth 100000 in
set_option maxHeartbeats 4000000 in
theorem c_r04_Mul {w0 w : World} {h : Gh} {L : List Ent} (x0 : GValue) (x1 : GValue) (H : St w0 h w L) {r : GValue} (hr : r04_Mul x0 x1 = r) : Calls Tryz.prog 72 #[.agg #[.int .i64 x0.Re, .int .i64 x0.Im], .agg #[.int .i64 x1.Re, .int .i64 x1.Im]] w (fun e w' => ∃ v, e = .returned v ∧ v = .agg #[.int .i64 r.Re, .int .i64 r.Im] ∧ St w0 h w' (L)) := by
  refine calls_of (args := [.agg #[.int .i64 x0.Re, .int .i64 x0.Im], .agg #[.int .i64 x1.Re, .int .i64 x1.Im]]) (n := 40) (rs := [.cell 4 27]) Tryz.func72 rfl rfl rfl rfl rfl ?_
  unfold r04_Mul at hr
  refine WE.seq ?_
  refine WE.region ?_
  refine WL.does kr kr (Does.box H [.int .i64 x0.Re, .int .i64 x0.Im] kr fun b1 w H => ?_)
  refine WL.does kr kr (Does.box H [.int .i64 x1.Re, .int .i64 x1.Im] kr fun b2 w H => ?_)
  refine WL.does kr kr (Does.alloc H [.int .i64 0, .int .i64 0] kr fun b3 w H => ?_)
  refine WL.fin 0 kr kr ?_
  refine WE.seq ?_
  refine WE.draws mo [2, 3, 4] (ρ' := [(2, .pointer (some ⟨b1, 0, none⟩)), (3, .pointer (some ⟨b2, 0, none⟩)), (4, .pointer (some ⟨b3, 0, none⟩))]) kr fun w e1 e2 e3 e4 => ?_
  have H := H.same e1 e2 e3 e4
  clear e1 e2 e3 e4
  refine WD.know [0] kr ?_
  refine WD.told 1 8 (.int .i64 x0.Re) kr kr ?_
  refine WD.know [2] kr ?_
  refine WD.told 3 10 (.int .i64 x0.Im) kr kr ?_
  refine WD.know [5] kr ?_
  refine WD.told 6 13 (.int .i64 x1.Re) kr kr ?_
  refine WD.know [7] kr ?_
  refine WD.told 8 15 (.int .i64 x1.Im) kr kr ?_
  obtain ⟨y4, q4, hr⟩ := bnd_cases hr
  obtain ⟨y5, q5, hr⟩ := bnd_cases hr
  refine WD.among 4 [10, 11] kr (Floats.of [7, 5, 2, 0] [8, 6, 3, 1] kr (Floats.pure _ kr kr) (.cons (.tells rfl kr rfl (.loadV H 1 rfl 1 kr kr)) (.cons (.tells rfl kr rfl (.loadV H 1 rfl 0 kr kr)) (.cons (.tells rfl kr rfl (.loadV H 2 rfl 1 kr kr)) (.cons (.tells rfl kr rfl (.loadV H 2 rfl 0 kr kr)) .nil))))) ⟨?_, ?_, ?_, trivial⟩
  {
  refine WT.does 4 kr rfl kr kr (Does.call (c_r04_Of x0.Re x0.Im H q4) kr ?_)
  rintro _ w ⟨rfl, H⟩
  refine WD.among 9 [10, 11] kr (Floats.of [7, 5, 2, 0] [8, 6] kr (Floats.pure _ kr kr) (.cons (.tells rfl kr rfl (.loadV H 1 rfl 1 kr kr)) (.cons (.tells rfl kr rfl (.loadV H 1 rfl 0 kr kr)) .nil))) ⟨?_, ?_, ?_, trivial⟩
  {
  refine WT.does 9 kr rfl kr kr (Does.call (c_r04_Of x1.Re x1.Im H q5) kr ?_)
  rintro _ w ⟨rfl, H⟩
  refine WD.among 10 [11] kr (Floats.of [7, 5, 2, 0] [] kr (Floats.pure _ kr kr) .nil) ⟨?_, ?_, trivial⟩
  {
  refine WT.does 10 kr rfl kr kr (Does.alloc H [.int .i64 0, .int .i64 0] kr fun b6 w H => ?_)
  refine WD.does 11 kr rfl (Floats.of [7, 5, 2, 0] [] kr (Floats.pure _ kr kr) .nil) kr kr (Does.alloc H [.int .i64 0, .int .i64 0] kr fun b7 w H => ?_)
  refine WD.does 12 kr rfl (Floats.of [7, 5, 2, 0] [] kr (Floats.pure _ kr kr) .nil) kr kr (Does.storeE H 1 [.int .i64 y4.Re, .int .i64 y4.Im] rfl (q := 0) kr kr kr fun w H => ?_)
  refine WD.does 13 kr rfl (Floats.of [7, 5] [] kr (Floats.pure _ kr kr) .nil) kr kr (Does.storeE H 0 [.int .i64 y5.Re, .int .i64 y5.Im] rfl (q := 0) kr kr kr fun w H => ?_)
  refine WD.fin kr (Floats.of [] [] kr .nil .nil) kr kr ?_
  refine WE.seq ?_
  refine WE.region ?_
  refine WL.sg 1 kr ?_
  refine WL.does kr kr (Does.loadV H 1 rfl 0 kr kr ?_)
  refine WL.sg 1 kr ?_
  refine WL.does kr kr (Does.loadV H 0 rfl 0 kr kr ?_)
  refine WL.sg 2 kr ?_
  refine WL.does kr kr (Does.loadV H 1 rfl 1 kr kr ?_)
  refine WL.sg 1 kr ?_
  refine WL.does kr kr (Does.loadV H 0 rfl 1 kr kr ?_)
  refine WL.sg 3 kr ?_
  refine WL.does kr kr (Does.loadV H 1 rfl 0 kr kr ?_)
  refine WL.sg 1 kr ?_
  refine WL.does kr kr (Does.loadV H 0 rfl 1 kr kr ?_)
  refine WL.sg 2 kr ?_
  refine WL.does kr kr (Does.loadV H 1 rfl 1 kr kr ?_)
  refine WL.sg 1 kr ?_
  refine WL.does kr kr (Does.loadV H 0 rfl 0 kr kr ?_)
  obtain ⟨y8, q8, hr⟩ := bnd_cases hr
  refine WL.sg 2 kr ?_
  refine WL.does kr kr (Does.call (c_r04_Of (w64 ((w64 (y4.Re * y5.Re)) - (w64 (y4.Im * y5.Im)))) (w64 ((w64 (y4.Re * y5.Im)) + (w64 (y4.Im * y5.Re)))) H q8) kr ?_)
  rintro _ w ⟨rfl, H⟩
  refine WL.does kr kr (Does.storeE H 2 [.int .i64 y8.Re, .int .i64 y8.Im] rfl (q := 0) kr kr kr fun w H => ?_)
  refine WL.fin 0 kr kr ?_
  obtain rfl := hr
  exact WE.ret ⟨[.agg #[.int .i64 y8.Re, .int .i64 y8.Im]], ⟨⟨kr, ⟨b3, 0, none⟩, kr, H.loadVar 2 rfl 0 kr⟩, trivial⟩, ⟨rfl, (H.keep 5)⟩⟩
  }
  {
  refine WT.does 11 kr rfl kr kr (Does.alloc H [.int .i64 0, .int .i64 0] kr fun b7 w H => ?_)
  refine WD.does 10 kr rfl (Floats.of [7, 5, 2, 0] [] kr (Floats.pure _ kr kr) .nil) kr kr (Does.alloc H [.int .i64 0, .int .i64 0] kr fun b6 w H => ?_)
  refine WD.does 12 kr rfl (Floats.of [7, 5, 2, 0] [] kr (Floats.pure _ kr kr) .nil) kr kr (Does.storeE H 0 [.int .i64 y4.Re, .int .i64 y4.Im] rfl (q := 0) kr kr kr fun w H => ?_)
  refine WD.does 13 kr rfl (Floats.of [7, 5] [] kr (Floats.pure _ kr kr) .nil) kr kr (Does.storeE H 1 [.int .i64 y5.Re, .int .i64 y5.Im] rfl (q := 0) kr kr kr fun w H => ?_)
  refine WD.fin kr (Floats.of [] [] kr .nil .nil) kr kr ?_
  refine WE.seq ?_
  refine WE.region ?_
  refine WL.sg 1 kr ?_
  refine WL.does kr kr (Does.loadV H 0 rfl 0 kr kr ?_)
  refine WL.sg 1 kr ?_
  refine WL.does kr kr (Does.loadV H 1 rfl 0 kr kr ?_)
  refine WL.sg 2 kr ?_
  refine WL.does kr kr (Does.loadV H 0 rfl 1 kr kr ?_)
  refine WL.sg 1 kr ?_
  refine WL.does kr kr (Does.loadV H 1 rfl 1 kr kr ?_)
  refine WL.sg 3 kr ?_
  refine WL.does kr kr (Does.loadV H 0 rfl 0 kr kr ?_)
  refine WL.sg 1 kr ?_
  refine WL.does kr kr (Does.loadV H 1 rfl 1 kr kr ?_)
  refine WL.sg 2 kr ?_
  refine WL.does kr kr (Does.loadV H 0 rfl 1 kr kr ?_)
  refine WL.sg 1 kr ?_
  refine WL.does kr kr (Does.loadV H 1 rfl 0 kr kr ?_)
  obtain ⟨y8, q8, hr⟩ := bnd_cases hr
  refine WL.sg 2 kr ?_
  refine WL.does kr kr (Does.call (c_r04_Of (w64 ((w64 (y4.Re * y5.Re)) - (w64 (y4.Im * y5.Im)))) (w64 ((w64 (y4.Re * y5.Im)) + (w64 (y4.Im * y5.Re)))) H q8) kr ?_)
  rintro _ w ⟨rfl, H⟩
  refine WL.does kr kr (Does.storeE H 2 [.int .i64 y8.Re, .int .i64 y8.Im] rfl (q := 0) kr kr kr fun w H => ?_)
  refine WL.fin 0 kr kr ?_
  obtain rfl := hr
  exact WE.ret ⟨[.agg #[.int .i64 y8.Re, .int .i64 y8.Im]], ⟨⟨kr, ⟨b3, 0, none⟩, kr, H.loadVar 2 rfl 0 kr⟩, trivial⟩, ⟨rfl, (H.keep 5)⟩⟩
  }
  }
  {
  refine WT.does 10 kr rfl kr kr (Does.alloc H [.int .i64 0, .int .i64 0] kr fun b6 w H => ?_)
  refine WD.among 9 [11] kr (Floats.of [7, 5, 2, 0] [8, 6] kr (Floats.pure _ kr kr) (.cons (.tells rfl kr rfl (.loadV H 2 rfl 1 kr kr)) (.cons (.tells rfl kr rfl (.loadV H 2 rfl 0 kr kr)) .nil))) ⟨?_, ?_, trivial⟩
  {
  refine WT.does 9 kr rfl kr kr (Does.call (c_r04_Of x1.Re x1.Im H q5) kr ?_)
  rintro _ w ⟨rfl, H⟩
  refine WD.does 11 kr rfl (Floats.of [7, 5, 2, 0] [] kr (Floats.pure _ kr kr) .nil) kr kr (Does.alloc H [.int .i64 0, .int .i64 0] kr fun b7 w H => ?_)
  refine WD.does 12 kr rfl (Floats.of [7, 5, 2, 0] [] kr (Floats.pure _ kr kr) .nil) kr kr (Does.storeE H 1 [.int .i64 y4.Re, .int .i64 y4.Im] rfl (q := 0) kr kr kr fun w H => ?_)
  refine WD.does 13 kr rfl (Floats.of [7, 5] [] kr (Floats.pure _ kr kr) .nil) kr kr (Does.storeE H 0 [.int .i64 y5.Re, .int .i64 y5.Im] rfl (q := 0) kr kr kr fun w H => ?_)
  refine WD.fin kr (Floats.of [] [] kr .nil .nil) kr kr ?_
  refine WE.seq ?_
  refine WE.region ?_
  refine WL.sg 1 kr ?_
  refine WL.does kr kr (Does.loadV H 1 rfl 0 kr kr ?_)
  refine WL.sg 1 kr ?_
  refine WL.does kr kr (Does.loadV H 0 rfl 0 kr kr ?_)
  refine WL.sg 2 kr ?_
  refine WL.does kr kr (Does.loadV H 1 rfl 1 kr kr ?_)
  refine WL.sg 1 kr ?_
  refine WL.does kr kr (Does.loadV H 0 rfl 1 kr kr ?_)
  refine WL.sg 3 kr ?_
  refine WL.does kr kr (Does.loadV H 1 rfl 0 kr kr ?_)
  refine WL.sg 1 kr ?_
  refine WL.does kr kr (Does.loadV H 0 rfl 1 kr kr ?_)
  refine WL.sg 2 kr ?_
  refine WL.does kr kr (Does.loadV H 1 rfl 1 kr kr ?_)
  refine WL.sg 1 kr ?_
  refine WL.does kr kr (Does.loadV H 0 rfl 0 kr kr ?_)
  obtain ⟨y8, q8, hr⟩ := bnd_cases hr
  refine WL.sg 2 kr ?_
  refine WL.does kr kr (Does.call (c_r04_Of (w64 ((w64 (y4.Re * y5.Re)) - (w64 (y4.Im * y5.Im)))) (w64 ((w64 (y4.Re * y5.Im)) + (w64 (y4.Im * y5.Re)))) H q8) kr ?_)
  rintro _ w ⟨rfl, H⟩
  refine WL.does kr kr (Does.storeE H 2 [.int .i64 y8.Re, .int .i64 y8.Im] rfl (q := 0) kr kr kr fun w H => ?_)
  refine WL.fin 0 kr kr ?_
  obtain rfl := hr
  exact WE.ret ⟨[.agg #[.int .i64 y8.Re, .int .i64 y8.Im]], ⟨⟨kr, ⟨b3, 0, none⟩, kr, H.loadVar 2 rfl 0 kr⟩, trivial⟩, ⟨rfl, (H.keep 5)⟩⟩
  }
  {
  refine WT.does 11 kr rfl kr kr (Does.alloc H [.int .i64 0, .int .i64 0] kr fun b7 w H => ?_)
  refine WD.does 9 kr rfl (Floats.of [7, 5, 2, 0] [8, 6] kr (Floats.pure _ kr kr) (.cons (.tells rfl kr rfl (.loadV H 3 rfl 1 kr kr)) (.cons (.tells rfl kr rfl (.loadV H 3 rfl 0 kr kr)) .nil))) kr kr (Does.call (c_r04_Of x1.Re x1.Im H q5) kr ?_)
  rintro _ w ⟨rfl, H⟩
  refine WD.does 12 kr rfl (Floats.of [7, 5, 2, 0] [] kr (Floats.pure _ kr kr) .nil) kr kr (Does.storeE H 1 [.int .i64 y4.Re, .int .i64 y4.Im] rfl (q := 0) kr kr kr fun w H => ?_)
  refine WD.does 13 kr rfl (Floats.of [7, 5] [] kr (Floats.pure _ kr kr) .nil) kr kr (Does.storeE H 0 [.int .i64 y5.Re, .int .i64 y5.Im] rfl (q := 0) kr kr kr fun w H => ?_)
  refine WD.fin kr (Floats.of [] [] kr .nil .nil) kr kr ?_
  refine WE.seq ?_
  refine WE.region ?_
  refine WL.sg 1 kr ?_
  refine WL.does kr kr (Does.loadV H 1 rfl 0 kr kr ?_)
  refine WL.sg 1 kr ?_
  refine WL.does kr kr (Does.loadV H 0 rfl 0 kr kr ?_)
  refine WL.sg 2 kr ?_
  refine WL.does kr kr (Does.loadV H 1 rfl 1 kr kr ?_)
  refine WL.sg 1 kr ?_
  refine WL.does kr kr (Does.loadV H 0 rfl 1 kr kr ?_)
  refine WL.sg 3 kr ?_
  refine WL.does kr kr (Does.loadV H 1 rfl 0 kr kr ?_)
  refine WL.sg 1 kr ?_
  refine WL.does kr kr (Does.loadV H 0 rfl 1 kr kr ?_)
  refine WL.sg 2 kr ?_
  refine WL.does kr kr (Does.loadV H 1 rfl 1 kr kr ?_)
  refine WL.sg 1 kr ?_
  refine WL.does kr kr (Does.loadV H 0 rfl 0 kr kr ?_)
  obtain ⟨y8, q8, hr⟩ := bnd_cases hr
  refine WL.sg 2 kr ?_
  refine WL.does kr kr (Does.call (c_r04_Of (w64 ((w64 (y4.Re * y5.Re)) - (w64 (y4.Im * y5.Im)))) (w64 ((w64 (y4.Re * y5.Im)) + (w64 (y4.Im * y5.Re)))) H q8) kr ?_)
  rintro _ w ⟨rfl, H⟩
  refine WL.does kr kr (Does.storeE H 2 [.int .i64 y8.Re, .int .i64 y8.Im] rfl (q := 0) kr kr kr fun w H => ?_)
  refine WL.fin 0 kr kr ?_
  obtain rfl := hr
  exact WE.ret ⟨[.agg #[.int .i64 y8.Re, .int .i64 y8.Im]], ⟨⟨kr, ⟨b3, 0, none⟩, kr, H.loadVar 2 rfl 0 kr⟩, trivial⟩, ⟨rfl, (H.keep 5)⟩⟩
  }
  }
  {
  refine WT.does 11 kr rfl kr kr (Does.alloc H [.int .i64 0, .int .i64 0] kr fun b7 w H => ?_)
  refine WD.among 9 [10] kr (Floats.of [7, 5, 2, 0] [8, 6] kr (Floats.pure _ kr kr) (.cons (.tells rfl kr rfl (.loadV H 2 rfl 1 kr kr)) (.cons (.tells rfl kr rfl (.loadV H 2 rfl 0 kr kr)) .nil))) ⟨?_, ?_, trivial⟩
  {
  refine WT.does 9 kr rfl kr kr (Does.call (c_r04_Of x1.Re x1.Im H q5) kr ?_)
  rintro _ w ⟨rfl, H⟩
  refine WD.does 10 kr rfl (Floats.of [7, 5, 2, 0] [] kr (Floats.pure _ kr kr) .nil) kr kr (Does.alloc H [.int .i64 0, .int .i64 0] kr fun b6 w H => ?_)
  refine WD.does 12 kr rfl (Floats.of [7, 5, 2, 0] [] kr (Floats.pure _ kr kr) .nil) kr kr (Does.storeE H 0 [.int .i64 y4.Re, .int .i64 y4.Im] rfl (q := 0) kr kr kr fun w H => ?_)
  refine WD.does 13 kr rfl (Floats.of [7, 5] [] kr (Floats.pure _ kr kr) .nil) kr kr (Does.storeE H 1 [.int .i64 y5.Re, .int .i64 y5.Im] rfl (q := 0) kr kr kr fun w H => ?_)
  refine WD.fin kr (Floats.of [] [] kr .nil .nil) kr kr ?_
  refine WE.seq ?_
  refine WE.region ?_
  refine WL.sg 1 kr ?_
  refine WL.does kr kr (Does.loadV H 0 rfl 0 kr kr ?_)
  refine WL.sg 1 kr ?_
  refine WL.does kr kr (Does.loadV H 1 rfl 0 kr kr ?_)
  refine WL.sg 2 kr ?_
  refine WL.does kr kr (Does.loadV H 0 rfl 1 kr kr ?_)
  refine WL.sg 1 kr ?_
  refine WL.does kr kr (Does.loadV H 1 rfl 1 kr kr ?_)
  refine WL.sg 3 kr ?_
  refine WL.does kr kr (Does.loadV H 0 rfl 0 kr kr ?_)
  refine WL.sg 1 kr ?_
  refine WL.does kr kr (Does.loadV H 1 rfl 1 kr kr ?_)
  refine WL.sg 2 kr ?_
  refine WL.does kr kr (Does.loadV H 0 rfl 1 kr kr ?_)
  refine WL.sg 1 kr ?_
  refine WL.does kr kr (Does.loadV H 1 rfl 0 kr kr ?_)
  obtain ⟨y8, q8, hr⟩ := bnd_cases hr
  refine WL.sg 2 kr ?_
  refine WL.does kr kr (Does.call (c_r04_Of (w64 ((w64 (y4.Re * y5.Re)) - (w64 (y4.Im * y5.Im)))) (w64 ((w64 (y4.Re * y5.Im)) + (w64 (y4.Im * y5.Re)))) H q8) kr ?_)
  rintro _ w ⟨rfl, H⟩
  refine WL.does kr kr (Does.storeE H 2 [.int .i64 y8.Re, .int .i64 y8.Im] rfl (q := 0) kr kr kr fun w H => ?_)
  refine WL.fin 0 kr kr ?_
  obtain rfl := hr
  exact WE.ret ⟨[.agg #[.int .i64 y8.Re, .int .i64 y8.Im]], ⟨⟨kr, ⟨b3, 0, none⟩, kr, H.loadVar 2 rfl 0 kr⟩, trivial⟩, ⟨rfl, (H.keep 5)⟩⟩
  }
  {
  refine WT.does 10 kr rfl kr kr (Does.alloc H [.int .i64 0, .int .i64 0] kr fun b6 w H => ?_)
  refine WD.does 9 kr rfl (Floats.of [7, 5, 2, 0] [8, 6] kr (Floats.pure _ kr kr) (.cons (.tells rfl kr rfl (.loadV H 3 rfl 1 kr kr)) (.cons (.tells rfl kr rfl (.loadV H 3 rfl 0 kr kr)) .nil))) kr kr (Does.call (c_r04_Of x1.Re x1.Im H q5) kr ?_)
  rintro _ w ⟨rfl, H⟩
  refine WD.does 12 kr rfl (Floats.of [7, 5, 2, 0] [] kr (Floats.pure _ kr kr) .nil) kr kr (Does.storeE H 0 [.int .i64 y4.Re, .int .i64 y4.Im] rfl (q := 0) kr kr kr fun w H => ?_)
  refine WD.does 13 kr rfl (Floats.of [7, 5] [] kr (Floats.pure _ kr kr) .nil) kr kr (Does.storeE H 1 [.int .i64 y5.Re, .int .i64 y5.Im] rfl (q := 0) kr kr kr fun w H => ?_)
  refine WD.fin kr (Floats.of [] [] kr .nil .nil) kr kr ?_
  refine WE.seq ?_
  refine WE.region ?_
  refine WL.sg 1 kr ?_
  refine WL.does kr kr (Does.loadV H 0 rfl 0 kr kr ?_)
  refine WL.sg 1 kr ?_
  refine WL.does kr kr (Does.loadV H 1 rfl 0 kr kr ?_)
  refine WL.sg 2 kr ?_
  refine WL.does kr kr (Does.loadV H 0 rfl 1 kr kr ?_)
  refine WL.sg 1 kr ?_
  refine WL.does kr kr (Does.loadV H 1 rfl 1 kr kr ?_)
  refine WL.sg 3 kr ?_
  refine WL.does kr kr (Does.loadV H 0 rfl 0 kr kr ?_)
  refine WL.sg 1 kr ?_
  refine WL.does kr kr (Does.loadV H 1 rfl 1 kr kr ?_)
  refine WL.sg 2 kr ?_
  refine WL.does kr kr (Does.loadV H 0 rfl 1 kr kr ?_)
  refine WL.sg 1 kr ?_
  refine WL.does kr kr (Does.loadV H 1 rfl 0 kr kr ?_)
  obtain ⟨y8, q8, hr⟩ := bnd_cases hr
  refine WL.sg 2 kr ?_
  refine WL.does kr kr (Does.call (c_r04_Of (w64 ((w64 (y4.Re * y5.Re)) - (w64 (y4.Im * y5.Im)))) (w64 ((w64 (y4.Re * y5.Im)) + (w64 (y4.Im * y5.Re)))) H q8) kr ?_)
  rintro _ w ⟨rfl, H⟩
  refine WL.does kr kr (Does.storeE H 2 [.int .i64 y8.Re, .int .i64 y8.Im] rfl (q := 0) kr kr kr fun w H => ?_)
  refine WL.fin 0 kr kr ?_
  obtain rfl := hr
  exact WE.ret ⟨[.agg #[.int .i64 y8.Re, .int .i64 y8.Im]], ⟨⟨kr, ⟨b3, 0, none⟩, kr, H.loadVar 2 rfl 0 kr⟩, trivial⟩, ⟨rfl, (H.keep 5)⟩⟩
  }
  }
  }
  {
  refine WT.does 10 kr rfl kr kr (Does.alloc H [.int .i64 0, .int .i64 0] kr fun b6 w H => ?_)
  refine WD.among 4 [11] kr (Floats.of [7, 5, 2, 0] [8, 6, 3, 1] kr (Floats.pure _ kr kr) (.cons (.tells rfl kr rfl (.loadV H 2 rfl 1 kr kr)) (.cons (.tells rfl kr rfl (.loadV H 2 rfl 0 kr kr)) (.cons (.tells rfl kr rfl (.loadV H 3 rfl 1 kr kr)) (.cons (.tells rfl kr rfl (.loadV H 3 rfl 0 kr kr)) .nil))))) ⟨?_, ?_, trivial⟩
  {
  refine WT.does 4 kr rfl kr kr (Does.call (c_r04_Of x0.Re x0.Im H q4) kr ?_)
  rintro _ w ⟨rfl, H⟩
  refine WD.among 9 [11] kr (Floats.of [7, 5, 2, 0] [8, 6] kr (Floats.pure _ kr kr) (.cons (.tells rfl kr rfl (.loadV H 2 rfl 1 kr kr)) (.cons (.tells rfl kr rfl (.loadV H 2 rfl 0 kr kr)) .nil))) ⟨?_, ?_, trivial⟩
  {
  refine WT.does 9 kr rfl kr kr (Does.call (c_r04_Of x1.Re x1.Im H q5) kr ?_)
  rintro _ w ⟨rfl, H⟩
  refine WD.does 11 kr rfl (Floats.of [7, 5, 2, 0] [] kr (Floats.pure _ kr kr) .nil) kr kr (Does.alloc H [.int .i64 0, .int .i64 0] kr fun b7 w H => ?_)
  refine WD.does 12 kr rfl (Floats.of [7, 5, 2, 0] [] kr (Floats.pure _ kr kr) .nil) kr kr (Does.storeE H 1 [.int .i64 y4.Re, .int .i64 y4.Im] rfl (q := 0) kr kr kr fun w H => ?_)
  refine WD.does 13 kr rfl (Floats.of [7, 5] [] kr (Floats.pure _ kr kr) .nil) kr kr (Does.storeE H 0 [.int .i64 y5.Re, .int .i64 y5.Im] rfl (q := 0) kr kr kr fun w H => ?_)
  refine WD.fin kr (Floats.of [] [] kr .nil .nil) kr kr ?_
  refine WE.seq ?_
  refine WE.region ?_
  refine WL.sg 1 kr ?_
  refine WL.does kr kr (Does.loadV H 1 rfl 0 kr kr ?_)
  refine WL.sg 1 kr ?_
  refine WL.does kr kr (Does.loadV H 0 rfl 0 kr kr ?_)
  refine WL.sg 2 kr ?_
  refine WL.does kr kr (Does.loadV H 1 rfl 1 kr kr ?_)
  refine WL.sg 1 kr ?_
  refine WL.does kr kr (Does.loadV H 0 rfl 1 kr kr ?_)
  refine WL.sg 3 kr ?_
  refine WL.does kr kr (Does.loadV H 1 rfl 0 kr kr ?_)
  refine WL.sg 1 kr ?_
  refine WL.does kr kr (Does.loadV H 0 rfl 1 kr kr ?_)
  refine WL.sg 2 kr ?_
  refine WL.does kr kr (Does.loadV H 1 rfl 1 kr kr ?_)
  refine WL.sg 1 kr ?_
  refine WL.does kr kr (Does.loadV H 0 rfl 0 kr kr ?_)
  obtain ⟨y8, q8, hr⟩ := bnd_cases hr
  refine WL.sg 2 kr ?_
  refine WL.does kr kr (Does.call (c_r04_Of (w64 ((w64 (y4.Re * y5.Re)) - (w64 (y4.Im * y5.Im)))) (w64 ((w64 (y4.Re * y5.Im)) + (w64 (y4.Im * y5.Re)))) H q8) kr ?_)
  rintro _ w ⟨rfl, H⟩
  refine WL.does kr kr (Does.storeE H 2 [.int .i64 y8.Re, .int .i64 y8.Im] rfl (q := 0) kr kr kr fun w H => ?_)
  refine WL.fin 0 kr kr ?_
  obtain rfl := hr
  exact WE.ret ⟨[.agg #[.int .i64 y8.Re, .int .i64 y8.Im]], ⟨⟨kr, ⟨b3, 0, none⟩, kr, H.loadVar 2 rfl 0 kr⟩, trivial⟩, ⟨rfl, (H.keep 5)⟩⟩
  }
  {
  refine WT.does 11 kr rfl kr kr (Does.alloc H [.int .i64 0, .int .i64 0] kr fun b7 w H => ?_)
  refine WD.does 9 kr rfl (Floats.of [7, 5, 2, 0] [8, 6] kr (Floats.pure _ kr kr) (.cons (.tells rfl kr rfl (.loadV H 3 rfl 1 kr kr)) (.cons (.tells rfl kr rfl (.loadV H 3 rfl 0 kr kr)) .nil))) kr kr (Does.call (c_r04_Of x1.Re x1.Im H q5) kr ?_)
  rintro _ w ⟨rfl, H⟩
  refine WD.does 12 kr rfl (Floats.of [7, 5, 2, 0] [] kr (Floats.pure _ kr kr) .nil) kr kr (Does.storeE H 1 [.int .i64 y4.Re, .int .i64 y4.Im] rfl (q := 0) kr kr kr fun w H => ?_)
  refine WD.does 13 kr rfl (Floats.of [7, 5] [] kr (Floats.pure _ kr kr) .nil) kr kr (Does.storeE H 0 [.int .i64 y5.Re, .int .i64 y5.Im] rfl (q := 0) kr kr kr fun w H => ?_)
  refine WD.fin kr (Floats.of [] [] kr .nil .nil) kr kr ?_
  refine WE.seq ?_
  refine WE.region ?_
  refine WL.sg 1 kr ?_
  refine WL.does kr kr (Does.loadV H 1 rfl 0 kr kr ?_)
  refine WL.sg 1 kr ?_
  refine WL.does kr kr (Does.loadV H 0 rfl 0 kr kr ?_)
  refine WL.sg 2 kr ?_
  refine WL.does kr kr (Does.loadV H 1 rfl 1 kr kr ?_)
  refine WL.sg 1 kr ?_
  refine WL.does kr kr (Does.loadV H 0 rfl 1 kr kr ?_)
  refine WL.sg 3 kr ?_
  refine WL.does kr kr (Does.loadV H 1 rfl 0 kr kr ?_)
  refine WL.sg 1 kr ?_
  refine WL.does kr kr (Does.loadV H 0 rfl 1 kr kr ?_)
  refine WL.sg 2 kr ?_
  refine WL.does kr kr (Does.loadV H 1 rfl 1 kr kr ?_)
  refine WL.sg 1 kr ?_
  refine WL.does kr kr (Does.loadV H 0 rfl 0 kr kr ?_)
  obtain ⟨y8, q8, hr⟩ := bnd_cases hr
  refine WL.sg 2 kr ?_
  refine WL.does kr kr (Does.call (c_r04_Of (w64 ((w64 (y4.Re * y5.Re)) - (w64 (y4.Im * y5.Im)))) (w64 ((w64 (y4.Re * y5.Im)) + (w64 (y4.Im * y5.Re)))) H q8) kr ?_)
  rintro _ w ⟨rfl, H⟩
  refine WL.does kr kr (Does.storeE H 2 [.int .i64 y8.Re, .int .i64 y8.Im] rfl (q := 0) kr kr kr fun w H => ?_)
  refine WL.fin 0 kr kr ?_
  obtain rfl := hr
  exact WE.ret ⟨[.agg #[.int .i64 y8.Re, .int .i64 y8.Im]], ⟨⟨kr, ⟨b3, 0, none⟩, kr, H.loadVar 2 rfl 0 kr⟩, trivial⟩, ⟨rfl, (H.keep 5)⟩⟩
  }
  }
  {
  refine WT.does 11 kr rfl kr kr (Does.alloc H [.int .i64 0, .int .i64 0] kr fun b7 w H => ?_)
  refine WD.does 4 kr rfl (Floats.of [7, 5, 2, 0] [8, 6, 3, 1] kr (Floats.pure _ kr kr) (.cons (.tells rfl kr rfl (.loadV H 3 rfl 1 kr kr)) (.cons (.tells rfl kr rfl (.loadV H 3 rfl 0 kr kr)) (.cons (.tells rfl kr rfl (.loadV H 4 rfl 1 kr kr)) (.cons (.tells rfl kr rfl (.loadV H 4 rfl 0 kr kr)) .nil))))) kr kr (Does.call (c_r04_Of x0.Re x0.Im H q4) kr ?_)
  rintro _ w ⟨rfl, H⟩
  refine WD.does 9 kr rfl (Floats.of [7, 5, 2, 0] [8, 6] kr (Floats.pure _ kr kr) (.cons (.tells rfl kr rfl (.loadV H 3 rfl 1 kr kr)) (.cons (.tells rfl kr rfl (.loadV H 3 rfl 0 kr kr)) .nil))) kr kr (Does.call (c_r04_Of x1.Re x1.Im H q5) kr ?_)
  rintro _ w ⟨rfl, H⟩
  refine WD.does 12 kr rfl (Floats.of [7, 5, 2, 0] [] kr (Floats.pure _ kr kr) .nil) kr kr (Does.storeE H 1 [.int .i64 y4.Re, .int .i64 y4.Im] rfl (q := 0) kr kr kr fun w H => ?_)
  refine WD.does 13 kr rfl (Floats.of [7, 5] [] kr (Floats.pure _ kr kr) .nil) kr kr (Does.storeE H 0 [.int .i64 y5.Re, .int .i64 y5.Im] rfl (q := 0) kr kr kr fun w H => ?_)
  refine WD.fin kr (Floats.of [] [] kr .nil .nil) kr kr ?_
  refine WE.seq ?_
  refine WE.region ?_
  refine WL.sg 1 kr ?_
  refine WL.does kr kr (Does.loadV H 1 rfl 0 kr kr ?_)
  refine WL.sg 1 kr ?_
  refine WL.does kr kr (Does.loadV H 0 rfl 0 kr kr ?_)
  refine WL.sg 2 kr ?_
  refine WL.does kr kr (Does.loadV H 1 rfl 1 kr kr ?_)
  refine WL.sg 1 kr ?_
  refine WL.does kr kr (Does.loadV H 0 rfl 1 kr kr ?_)
  refine WL.sg 3 kr ?_
  refine WL.does kr kr (Does.loadV H 1 rfl 0 kr kr ?_)
  refine WL.sg 1 kr ?_
  refine WL.does kr kr (Does.loadV H 0 rfl 1 kr kr ?_)
  refine WL.sg 2 kr ?_
  refine WL.does kr kr (Does.loadV H 1 rfl 1 kr kr ?_)
  refine WL.sg 1 kr ?_
  refine WL.does kr kr (Does.loadV H 0 rfl 0 kr kr ?_)
  obtain ⟨y8, q8, hr⟩ := bnd_cases hr
  refine WL.sg 2 kr ?_
  refine WL.does kr kr (Does.call (c_r04_Of (w64 ((w64 (y4.Re * y5.Re)) - (w64 (y4.Im * y5.Im)))) (w64 ((w64 (y4.Re * y5.Im)) + (w64 (y4.Im * y5.Re)))) H q8) kr ?_)
  rintro _ w ⟨rfl, H⟩
  refine WL.does kr kr (Does.storeE H 2 [.int .i64 y8.Re, .int .i64 y8.Im] rfl (q := 0) kr kr kr fun w H => ?_)
  refine WL.fin 0 kr kr ?_
  obtain rfl := hr
  exact WE.ret ⟨[.agg #[.int .i64 y8.Re, .int .i64 y8.Im]], ⟨⟨kr, ⟨b3, 0, none⟩, kr, H.loadVar 2 rfl 0 kr⟩, trivial⟩, ⟨rfl, (H.keep 5)⟩⟩
  }
  }
  {
  refine WT.does 11 kr rfl kr kr (Does.alloc H [.int .i64 0, .int .i64 0] kr fun b7 w H => ?_)
  refine WD.among 4 [10] kr (Floats.of [7, 5, 2, 0] [8, 6, 3, 1] kr (Floats.pure _ kr kr) (.cons (.tells rfl kr rfl (.loadV H 2 rfl 1 kr kr)) (.cons (.tells rfl kr rfl (.loadV H 2 rfl 0 kr kr)) (.cons (.tells rfl kr rfl (.loadV H 3 rfl 1 kr kr)) (.cons (.tells rfl kr rfl (.loadV H 3 rfl 0 kr kr)) .nil))))) ⟨?_, ?_, trivial⟩
  {
  refine WT.does 4 kr rfl kr kr (Does.call (c_r04_Of x0.Re x0.Im H q4) kr ?_)
  rintro _ w ⟨rfl, H⟩
  refine WD.among 9 [10] kr (Floats.of [7, 5, 2, 0] [8, 6] kr (Floats.pure _ kr kr) (.cons (.tells rfl kr rfl (.loadV H 2 rfl 1 kr kr)) (.cons (.tells rfl kr rfl (.loadV H 2 rfl 0 kr kr)) .nil))) ⟨?_, ?_, trivial⟩
  {
  refine WT.does 9 kr rfl kr kr (Does.call (c_r04_Of x1.Re x1.Im H q5) kr ?_)
  rintro _ w ⟨rfl, H⟩
  refine WD.does 10 kr rfl (Floats.of [7, 5, 2, 0] [] kr (Floats.pure _ kr kr) .nil) kr kr (Does.alloc H [.int .i64 0, .int .i64 0] kr fun b6 w H => ?_)
  refine WD.does 12 kr rfl (Floats.of [7, 5, 2, 0] [] kr (Floats.pure _ kr kr) .nil) kr kr (Does.storeE H 0 [.int .i64 y4.Re, .int .i64 y4.Im] rfl (q := 0) kr kr kr fun w H => ?_)
  refine WD.does 13 kr rfl (Floats.of [7, 5] [] kr (Floats.pure _ kr kr) .nil) kr kr (Does.storeE H 1 [.int .i64 y5.Re, .int .i64 y5.Im] rfl (q := 0) kr kr kr fun w H => ?_)
  refine WD.fin kr (Floats.of [] [] kr .nil .nil) kr kr ?_
  refine WE.seq ?_
  refine WE.region ?_
  refine WL.sg 1 kr ?_
  refine WL.does kr kr (Does.loadV H 0 rfl 0 kr kr ?_)
  refine WL.sg 1 kr ?_
  refine WL.does kr kr (Does.loadV H 1 rfl 0 kr kr ?_)
  refine WL.sg 2 kr ?_
  refine WL.does kr kr (Does.loadV H 0 rfl 1 kr kr ?_)
  refine WL.sg 1 kr ?_
  refine WL.does kr kr (Does.loadV H 1 rfl 1 kr kr ?_)
  refine WL.sg 3 kr ?_
  refine WL.does kr kr (Does.loadV H 0 rfl 0 kr kr ?_)
  refine WL.sg 1 kr ?_
  refine WL.does kr kr (Does.loadV H 1 rfl 1 kr kr ?_)
  refine WL.sg 2 kr ?_
  refine WL.does kr kr (Does.loadV H 0 rfl 1 kr kr ?_)
  refine WL.sg 1 kr ?_
  refine WL.does kr kr (Does.loadV H 1 rfl 0 kr kr ?_)
  obtain ⟨y8, q8, hr⟩ := bnd_cases hr
  refine WL.sg 2 kr ?_
  refine WL.does kr kr (Does.call (c_r04_Of (w64 ((w64 (y4.Re * y5.Re)) - (w64 (y4.Im * y5.Im)))) (w64 ((w64 (y4.Re * y5.Im)) + (w64 (y4.Im * y5.Re)))) H q8) kr ?_)
  rintro _ w ⟨rfl, H⟩
  refine WL.does kr kr (Does.storeE H 2 [.int .i64 y8.Re, .int .i64 y8.Im] rfl (q := 0) kr kr kr fun w H => ?_)
  refine WL.fin 0 kr kr ?_
  obtain rfl := hr
  exact WE.ret ⟨[.agg #[.int .i64 y8.Re, .int .i64 y8.Im]], ⟨⟨kr, ⟨b3, 0, none⟩, kr, H.loadVar 2 rfl 0 kr⟩, trivial⟩, ⟨rfl, (H.keep 5)⟩⟩
  }
  {
  refine WT.does 10 kr rfl kr kr (Does.alloc H [.int .i64 0, .int .i64 0] kr fun b6 w H => ?_)
  refine WD.does 9 kr rfl (Floats.of [7, 5, 2, 0] [8, 6] kr (Floats.pure _ kr kr) (.cons (.tells rfl kr rfl (.loadV H 3 rfl 1 kr kr)) (.cons (.tells rfl kr rfl (.loadV H 3 rfl 0 kr kr)) .nil))) kr kr (Does.call (c_r04_Of x1.Re x1.Im H q5) kr ?_)
  rintro _ w ⟨rfl, H⟩
  refine WD.does 12 kr rfl (Floats.of [7, 5, 2, 0] [] kr (Floats.pure _ kr kr) .nil) kr kr (Does.storeE H 0 [.int .i64 y4.Re, .int .i64 y4.Im] rfl (q := 0) kr kr kr fun w H => ?_)
  refine WD.does 13 kr rfl (Floats.of [7, 5] [] kr (Floats.pure _ kr kr) .nil) kr kr (Does.storeE H 1 [.int .i64 y5.Re, .int .i64 y5.Im] rfl (q := 0) kr kr kr fun w H => ?_)
  refine WD.fin kr (Floats.of [] [] kr .nil .nil) kr kr ?_
  refine WE.seq ?_
  refine WE.region ?_
  refine WL.sg 1 kr ?_
  refine WL.does kr kr (Does.loadV H 0 rfl 0 kr kr ?_)
  refine WL.sg 1 kr ?_
  refine WL.does kr kr (Does.loadV H 1 rfl 0 kr kr ?_)
  refine WL.sg 2 kr ?_
  refine WL.does kr kr (Does.loadV H 0 rfl 1 kr kr ?_)
  refine WL.sg 1 kr ?_
  refine WL.does kr kr (Does.loadV H 1 rfl 1 kr kr ?_)
  refine WL.sg 3 kr ?_
  refine WL.does kr kr (Does.loadV H 0 rfl 0 kr kr ?_)
  refine WL.sg 1 kr ?_
  refine WL.does kr kr (Does.loadV H 1 rfl 1 kr kr ?_)
  refine WL.sg 2 kr ?_
  refine WL.does kr kr (Does.loadV H 0 rfl 1 kr kr ?_)
  refine WL.sg 1 kr ?_
  refine WL.does kr kr (Does.loadV H 1 rfl 0 kr kr ?_)
  obtain ⟨y8, q8, hr⟩ := bnd_cases hr
  refine WL.sg 2 kr ?_
  refine WL.does kr kr (Does.call (c_r04_Of (w64 ((w64 (y4.Re * y5.Re)) - (w64 (y4.Im * y5.Im)))) (w64 ((w64 (y4.Re * y5.Im)) + (w64 (y4.Im * y5.Re)))) H q8) kr ?_)
  rintro _ w ⟨rfl, H⟩
  refine WL.does kr kr (Does.storeE H 2 [.int .i64 y8.Re, .int .i64 y8.Im] rfl (q := 0) kr kr kr fun w H => ?_)
  refine WL.fin 0 kr kr ?_
  obtain rfl := hr
  exact WE.ret ⟨[.agg #[.int .i64 y8.Re, .int .i64 y8.Im]], ⟨⟨kr, ⟨b3, 0, none⟩, kr, H.loadVar 2 rfl 0 kr⟩, trivial⟩, ⟨rfl, (H.keep 5)⟩⟩
  }
  }
  {
  refine WT.does 10 kr rfl kr kr (Does.alloc H [.int .i64 0, .int .i64 0] kr fun b6 w H => ?_)
  refine WD.does 4 kr rfl (Floats.of [7, 5, 2, 0] [8, 6, 3, 1] kr (Floats.pure _ kr kr) (.cons (.tells rfl kr rfl (.loadV H 3 rfl 1 kr kr)) (.cons (.tells rfl kr rfl (.loadV H 3 rfl 0 kr kr)) (.cons (.tells rfl kr rfl (.loadV H 4 rfl 1 kr kr)) (.cons (.tells rfl kr rfl (.loadV H 4 rfl 0 kr kr)) .nil))))) kr kr (Does.call (c_r04_Of x0.Re x0.Im H q4) kr ?_)
  rintro _ w ⟨rfl, H⟩
  refine WD.does 9 kr rfl (Floats.of [7, 5, 2, 0] [8, 6] kr (Floats.pure _ kr kr) (.cons (.tells rfl kr rfl (.loadV H 3 rfl 1 kr kr)) (.cons (.tells rfl kr rfl (.loadV H 3 rfl 0 kr kr)) .nil))) kr kr (Does.call (c_r04_Of x1.Re x1.Im H q5) kr ?_)
  rintro _ w ⟨rfl, H⟩
  refine WD.does 12 kr rfl (Floats.of [7, 5, 2, 0] [] kr (Floats.pure _ kr kr) .nil) kr kr (Does.storeE H 0 [.int .i64 y4.Re, .int .i64 y4.Im] rfl (q := 0) kr kr kr fun w H => ?_)
  refine WD.does 13 kr rfl (Floats.of [7, 5] [] kr (Floats.pure _ kr kr) .nil) kr kr (Does.storeE H 1 [.int .i64 y5.Re, .int .i64 y5.Im] rfl (q := 0) kr kr kr fun w H => ?_)
  refine WD.fin kr (Floats.of [] [] kr .nil .nil) kr kr ?_
  refine WE.seq ?_
  refine WE.region ?_
  refine WL.sg 1 kr ?_
  refine WL.does kr kr (Does.loadV H 0 rfl 0 kr kr ?_)
  refine WL.sg 1 kr ?_
  refine WL.does kr kr (Does.loadV H 1 rfl 0 kr kr ?_)
  refine WL.sg 2 kr ?_
  refine WL.does kr kr (Does.loadV H 0 rfl 1 kr kr ?_)
  refine WL.sg 1 kr ?_
  refine WL.does kr kr (Does.loadV H 1 rfl 1 kr kr ?_)
  refine WL.sg 3 kr ?_
  refine WL.does kr kr (Does.loadV H 0 rfl 0 kr kr ?_)
  refine WL.sg 1 kr ?_
  refine WL.does kr kr (Does.loadV H 1 rfl 1 kr kr ?_)
  refine WL.sg 2 kr ?_
  refine WL.does kr kr (Does.loadV H 0 rfl 1 kr kr ?_)
  refine WL.sg 1 kr ?_
  refine WL.does kr kr (Does.loadV H 1 rfl 0 kr kr ?_)
  obtain ⟨y8, q8, hr⟩ := bnd_cases hr
  refine WL.sg 2 kr ?_
  refine WL.does kr kr (Does.call (c_r04_Of (w64 ((w64 (y4.Re * y5.Re)) - (w64 (y4.Im * y5.Im)))) (w64 ((w64 (y4.Re * y5.Im)) + (w64 (y4.Im * y5.Re)))) H q8) kr ?_)
  rintro _ w ⟨rfl, H⟩
  refine WL.does kr kr (Does.storeE H 2 [.int .i64 y8.Re, .int .i64 y8.Im] rfl (q := 0) kr kr kr fun w H => ?_)
  refine WL.fin 0 kr kr ?_
  obtain rfl := hr
  exact WE.ret ⟨[.agg #[.int .i64 y8.Re, .int .i64 y8.Im]], ⟨⟨kr, ⟨b3, 0, none⟩, kr, H.loadVar 2 rfl 0 kr⟩, trivial⟩, ⟨rfl, (H.keep 5)⟩⟩
  }
  }
def r04_inverse_l1 (K : Nat) (x0 : Int) : Nat → Int → Option Int
  | 0, _ => none
  | k1 + 1, y6 =>
    if decide (y6 < 251) then
      if (Int.tmod (w64 (x0 * y6)) 251) == 1 then
        some y6
      else
        r04_inverse_l1 K x0 k1 (w64 (y6 + 1))
    else
      some 0
def r04_inverse (K : Nat) (x0 : Int) : Option Int :=
  r04_inverse_l1 K x0 K 1
set_option maxRecDepth 100000 in
set_option maxHeartbeats 4000000 in
theorem c_r04_inverse {w0 w : World} {h : Gh} {L : List Ent} (K : Nat) (x0 : Int) (H : St w0 h w L) {r : Int} (hr : r04_inverse K x0 = some r) : Calls Tryz.prog 74 #[.int .i64 x0] w (fun e w' => ∃ v, e = .returned v ∧ v = .int .i64 r ∧ St w0 h w' (L)) := by
  refine calls_of (args := [.int .i64 x0]) (n := 14) (rs := [.tmp 2]) Tryz.func74 rfl rfl rfl rfl rfl ?_
  unfold r04_inverse at hr
  refine WE.seq ?_
  refine WE.region ?_
  refine WL.fin 1 kr kr ?_
  refine WE.seq ?_
  refine WE.seq ?_
  refine WE.region ?_
  refine WL.fin 1 kr kr ?_
  refine WE.block ?_
  refine WE.loop (LP.live [0, 3] kr (LP.rec (r04_inverse_l1 K x0) (fun (y6 : Int) (_ : Unit) => [(0, .int .i64 x0), (3, .int .i64 y6)]) (fun (y6 : Int) (_ : Unit) => fun w => St w0 h w (L)) r (fun _ => rfl) ?_ K 1 () _ H hr))
  rintro k1 ih1 y6 _ w H hr
  simp only [r04_inverse_l1] at hr
  refine WE.seq ?_
  refine WE.seq ?_
  refine WE.region ?_
  refine WL.fin 2 kr kr ?_
  rcases ite_cases hr with ⟨t7, hr⟩ | ⟨t7, hr⟩
  {
  refine WE.yes kr (b := decide (y6 < 251)) kr t7 ?_
  refine WE.skip ?_
  refine WE.seq ?_
  refine WE.block ?_
  refine WE.seq ?_
  refine WE.region ?_
  refine WL.fin 5 kr kr ?_
  rcases ite_cases hr with ⟨t8, hr⟩ | ⟨t8, hr⟩
  {
  refine WE.yes kr (b := (Int.tmod (w64 (x0 * y6)) 251) == 1) kr t8 ?_
  refine WE.seq ?_
  refine WE.region ?_
  refine WL.fin 2 kr kr ?_
  obtain rfl := Option.some.inj hr
  exact WE.ret ⟨[.int .i64 y6], ⟨⟨kr, kr⟩, trivial⟩, ⟨rfl, H⟩⟩
  }
  {
  refine WE.no kr (b := (Int.tmod (w64 (x0 * y6)) 251) == 1) kr t8 ?_
  refine WE.skip ?_
  refine WE.region ?_
  refine WL.fin 3 kr kr ?_
  exact LP.live [0, 3] kr (ih1 (w64 (y6 + 1)) () _ H hr)
  }
  }
  {
  refine WE.no kr (b := decide (y6 < 251)) kr t7 ?_
  refine WE.exit ?_
  refine WE.seq ?_
  refine WE.region ?_
  refine WL.fin 1 kr kr ?_
  obtain rfl := Option.some.inj hr
  exact WE.ret ⟨[.int .i64 0], ⟨⟨kr, kr⟩, trivial⟩, ⟨rfl, H⟩⟩
  }
def r04_Div (K : Nat) (x0 : GValue) (x1 : GValue) : Option (GValue × Bool) :=
  bnd (r04_Of x1.Re x1.Im) fun y4 =>
  bnd (r04_Rest (w64 ((w64 (y4.Re * y4.Re)) + (w64 (y4.Im * y4.Im))))) fun y6 =>
  if y6 == 0 then
    some ((⟨0, 0⟩ : GValue), false)
  else
    bnd (r04_Conj y4) fun y8 =>
    bnd (r04_Mul x0 y8) fun y9 =>
    (r04_inverse K y6).bind fun y11 =>
    bnd (r04_Of (w64 (y9.Re * y11)) (w64 (y9.Im * y11))) fun y12 =>
    some (y12, true)
set_option maxRecDepth 100000 in
set_option maxHeartbeats 4000000 in
theorem c_r04_Div {w0 w : World} {h : Gh} {L : List Ent} (K : Nat) (x0 : GValue) (x1 : GValue) (H : St w0 h w L) {r : GValue × Bool} (hr : r04_Div K x0 x1 = some r) : Calls Tryz.prog 37 #[.agg #[.int .i64 x0.Re, .int .i64 x0.Im], .agg #[.int .i64 x1.Re, .int .i64 x1.Im]] w (fun e w' => ∃ v, e = .returned v ∧ v = .tuple #[.agg #[.int .i64 r.1.Re, .int .i64 r.1.Im], .bool r.2] ∧ St w0 h w' (L)) := by
  refine calls_of (args := [.agg #[.int .i64 x0.Re, .int .i64 x0.Im], .agg #[.int .i64 x1.Re, .int .i64 x1.Im]]) (n := 45) (rs := [.cell 4 27, .tmp 5]) Tryz.func37 rfl rfl rfl rfl rfl ?_
  unfold r04_Div at hr
  refine WE.seq ?_
  refine WE.region ?_
  refine WL.does kr kr (Does.box H [.int .i64 x0.Re, .int .i64 x0.Im] kr fun b1 w H => ?_)
  refine WL.does kr kr (Does.box H [.int .i64 x1.Re, .int .i64 x1.Im] kr fun b2 w H => ?_)
  refine WL.does kr kr (Does.alloc H [.int .i64 0, .int .i64 0] kr fun b3 w H => ?_)
  refine WL.fin 1 kr kr ?_
  refine WE.seq ?_
  refine WE.region ?_
  refine WL.sg 1 kr ?_
  refine WL.does kr kr (Does.loadV H 1 rfl 0 kr kr ?_)
  refine WL.sg 1 kr ?_
  refine WL.does kr kr (Does.loadV H 1 rfl 1 kr kr ?_)
  obtain ⟨y4, q4, hr⟩ := bnd_cases hr
  refine WL.does kr kr (Does.call (c_r04_Of x1.Re x1.Im H q4) kr ?_)
  rintro _ w ⟨rfl, H⟩
  refine WL.does kr kr (Does.alloc H [.int .i64 0, .int .i64 0] kr fun b5 w H => ?_)
  refine WL.does kr kr (Does.storeE H 0 [.int .i64 y4.Re, .int .i64 y4.Im] rfl (q := 0) kr kr kr fun w H => ?_)
  refine WL.fin 0 kr kr ?_
  refine WE.seq ?_
  refine WE.region ?_
  refine WL.sg 1 kr ?_
  refine WL.does kr kr (Does.loadV H 0 rfl 0 kr kr ?_)
  refine WL.sg 1 kr ?_
  refine WL.does kr kr (Does.loadV H 0 rfl 0 kr kr ?_)
  refine WL.sg 2 kr ?_
  refine WL.does kr kr (Does.loadV H 0 rfl 1 kr kr ?_)
  refine WL.sg 1 kr ?_
  refine WL.does kr kr (Does.loadV H 0 rfl 1 kr kr ?_)
  obtain ⟨y6, q6, hr⟩ := bnd_cases hr
  refine WL.sg 2 kr ?_
  refine WL.does kr kr (Does.call (c_r04_Rest (w64 ((w64 (y4.Re * y4.Re)) + (w64 (y4.Im * y4.Im)))) H q6) kr ?_)
  rintro _ w ⟨rfl, H⟩
  refine WL.fin 1 kr kr ?_
  refine WE.seq ?_
  refine WE.seq ?_
  refine WE.region ?_
  refine WL.fin 2 kr kr ?_
  rcases ite_cases hr with ⟨t7, hr⟩ | ⟨t7, hr⟩
  {
  refine WE.yes kr (b := y6 == 0) kr t7 ?_
  refine WE.seq ?_
  refine WE.region ?_
  refine WL.sg 1 kr ?_
  refine WL.does kr kr (Does.storeE H 1 [.int .i64 0, .int .i64 0] rfl (q := 0) kr kr kr fun w H => ?_)
  refine WL.fin 1 kr kr ?_
  obtain rfl := Option.some.inj hr
  exact WE.ret ⟨[.agg #[.int .i64 0, .int .i64 0], .bool false], ⟨⟨kr, ⟨b3, 0, none⟩, kr, H.loadVar 1 rfl 0 kr⟩, ⟨kr, kr⟩, trivial⟩, ⟨rfl, (H.keep 4)⟩⟩
  }
  {
  refine WE.no kr (b := y6 == 0) kr t7 ?_
  refine WE.skip ?_
  refine WE.seq ?_
  refine WE.draws mo [2, 4, 6, 7] (ρ' := [(2, .pointer (some ⟨b1, 0, none⟩)), (4, .pointer (some ⟨b3, 0, none⟩)), (6, .pointer (some ⟨b5, 0, none⟩)), (7, .int .i64 y6)]) kr fun w e1 e2 e3 e4 => ?_
  have H := H.same e1 e2 e3 e4
  clear e1 e2 e3 e4
  refine WD.told 0 30 (.agg #[.int .i64 x0.Re, .int .i64 x0.Im]) kr kr ?_
  refine WD.told 1 31 (.agg #[.int .i64 y4.Re, .int .i64 y4.Im]) kr kr ?_
  obtain ⟨y8, q8, hr⟩ := bnd_cases hr
  obtain ⟨y9, q9, hr⟩ := bnd_cases hr
  refine WD.among 2 [4] kr (Floats.of [] [1, 0] kr .nil (.cons (.tells rfl kr rfl (.loadV H 0 rfl 0 kr kr)) (.cons (.tells rfl kr rfl (.loadV H 3 rfl 0 kr kr)) .nil))) ⟨?_, ?_, trivial⟩
  {
  refine WT.does 2 kr rfl kr kr (Does.call (c_r04_Conj y4 H q8) kr ?_)
  rintro _ w ⟨rfl, H⟩
  refine WD.among 3 [4] kr (Floats.of [] [0] kr .nil (.cons (.tells rfl kr rfl (.loadV H 3 rfl 0 kr kr)) .nil)) ⟨?_, ?_, trivial⟩
  {
  refine WT.does 3 kr rfl kr kr (Does.call (c_r04_Mul x0 y8 H q9) kr ?_)
  rintro _ w ⟨rfl, H⟩
  refine WD.does 4 kr rfl (Floats.of [] [] kr .nil .nil) kr kr (Does.alloc H [.int .i64 0, .int .i64 0] kr fun b10 w H => ?_)
  refine WD.does 5 kr rfl (Floats.of [] [] kr .nil .nil) kr kr (Does.storeE H 0 [.int .i64 y9.Re, .int .i64 y9.Im] rfl (q := 0) kr kr kr fun w H => ?_)
  refine WD.fin kr (Floats.of [] [] kr .nil .nil) kr kr ?_
  refine WE.seq ?_
  refine WE.region ?_
  obtain ⟨y11, q11, hr⟩ := bind_cases hr
  refine WL.sg 1 kr ?_
  refine WL.does kr kr (Does.call (c_r04_inverse K y6 H q11) kr ?_)
  rintro _ w ⟨rfl, H⟩
  refine WL.fin 1 kr kr ?_
  refine WE.seq ?_
  refine WE.region ?_
  refine WL.sg 1 kr ?_
  refine WL.does kr kr (Does.loadV H 0 rfl 0 kr kr ?_)
  refine WL.sg 3 kr ?_
  refine WL.does kr kr (Does.loadV H 0 rfl 1 kr kr ?_)
  obtain ⟨y12, q12, hr⟩ := bnd_cases hr
  refine WL.sg 2 kr ?_
  refine WL.does kr kr (Does.call (c_r04_Of (w64 (y9.Re * y11)) (w64 (y9.Im * y11)) H q12) kr ?_)
  rintro _ w ⟨rfl, H⟩
  refine WL.does kr kr (Does.storeE H 2 [.int .i64 y12.Re, .int .i64 y12.Im] rfl (q := 0) kr kr kr fun w H => ?_)
  refine WL.fin 1 kr kr ?_
  obtain rfl := Option.some.inj hr
  exact WE.ret ⟨[.agg #[.int .i64 y12.Re, .int .i64 y12.Im], .bool true], ⟨⟨kr, ⟨b3, 0, none⟩, kr, H.loadVar 2 rfl 0 kr⟩, ⟨kr, kr⟩, trivial⟩, ⟨rfl, (H.keep 5)⟩⟩
  }
  {
  refine WT.does 4 kr rfl kr kr (Does.alloc H [.int .i64 0, .int .i64 0] kr fun b10 w H => ?_)
  refine WD.does 3 kr rfl (Floats.of [] [0] kr .nil (.cons (.tells rfl kr rfl (.loadV H 4 rfl 0 kr kr)) .nil)) kr kr (Does.call (c_r04_Mul x0 y8 H q9) kr ?_)
  rintro _ w ⟨rfl, H⟩
  refine WD.does 5 kr rfl (Floats.of [] [] kr .nil .nil) kr kr (Does.storeE H 0 [.int .i64 y9.Re, .int .i64 y9.Im] rfl (q := 0) kr kr kr fun w H => ?_)
  refine WD.fin kr (Floats.of [] [] kr .nil .nil) kr kr ?_
  refine WE.seq ?_
  refine WE.region ?_
  obtain ⟨y11, q11, hr⟩ := bind_cases hr
  refine WL.sg 1 kr ?_
  refine WL.does kr kr (Does.call (c_r04_inverse K y6 H q11) kr ?_)
  rintro _ w ⟨rfl, H⟩
  refine WL.fin 1 kr kr ?_
  refine WE.seq ?_
  refine WE.region ?_
  refine WL.sg 1 kr ?_
  refine WL.does kr kr (Does.loadV H 0 rfl 0 kr kr ?_)
  refine WL.sg 3 kr ?_
  refine WL.does kr kr (Does.loadV H 0 rfl 1 kr kr ?_)
  obtain ⟨y12, q12, hr⟩ := bnd_cases hr
  refine WL.sg 2 kr ?_
  refine WL.does kr kr (Does.call (c_r04_Of (w64 (y9.Re * y11)) (w64 (y9.Im * y11)) H q12) kr ?_)
  rintro _ w ⟨rfl, H⟩
  refine WL.does kr kr (Does.storeE H 2 [.int .i64 y12.Re, .int .i64 y12.Im] rfl (q := 0) kr kr kr fun w H => ?_)
  refine WL.fin 1 kr kr ?_
  obtain rfl := Option.some.inj hr
  exact WE.ret ⟨[.agg #[.int .i64 y12.Re, .int .i64 y12.Im], .bool true], ⟨⟨kr, ⟨b3, 0, none⟩, kr, H.loadVar 2 rfl 0 kr⟩, ⟨kr, kr⟩, trivial⟩, ⟨rfl, (H.keep 5)⟩⟩
  }
  }
  {
  refine WT.does 4 kr rfl kr kr (Does.alloc H [.int .i64 0, .int .i64 0] kr fun b10 w H => ?_)
  refine WD.does 2 kr rfl (Floats.of [] [1, 0] kr .nil (.cons (.tells rfl kr rfl (.loadV H 1 rfl 0 kr kr)) (.cons (.tells rfl kr rfl (.loadV H 4 rfl 0 kr kr)) .nil))) kr kr (Does.call (c_r04_Conj y4 H q8) kr ?_)
  rintro _ w ⟨rfl, H⟩
  refine WD.does 3 kr rfl (Floats.of [] [0] kr .nil (.cons (.tells rfl kr rfl (.loadV H 4 rfl 0 kr kr)) .nil)) kr kr (Does.call (c_r04_Mul x0 y8 H q9) kr ?_)
  rintro _ w ⟨rfl, H⟩
  refine WD.does 5 kr rfl (Floats.of [] [] kr .nil .nil) kr kr (Does.storeE H 0 [.int .i64 y9.Re, .int .i64 y9.Im] rfl (q := 0) kr kr kr fun w H => ?_)
  refine WD.fin kr (Floats.of [] [] kr .nil .nil) kr kr ?_
  refine WE.seq ?_
  refine WE.region ?_
  obtain ⟨y11, q11, hr⟩ := bind_cases hr
  refine WL.sg 1 kr ?_
  refine WL.does kr kr (Does.call (c_r04_inverse K y6 H q11) kr ?_)
  rintro _ w ⟨rfl, H⟩
  refine WL.fin 1 kr kr ?_
  refine WE.seq ?_
  refine WE.region ?_
  refine WL.sg 1 kr ?_
  refine WL.does kr kr (Does.loadV H 0 rfl 0 kr kr ?_)
  refine WL.sg 3 kr ?_
  refine WL.does kr kr (Does.loadV H 0 rfl 1 kr kr ?_)
  obtain ⟨y12, q12, hr⟩ := bnd_cases hr
  refine WL.sg 2 kr ?_
  refine WL.does kr kr (Does.call (c_r04_Of (w64 (y9.Re * y11)) (w64 (y9.Im * y11)) H q12) kr ?_)
  rintro _ w ⟨rfl, H⟩
  refine WL.does kr kr (Does.storeE H 2 [.int .i64 y12.Re, .int .i64 y12.Im] rfl (q := 0) kr kr kr fun w H => ?_)
  refine WL.fin 1 kr kr ?_
  obtain rfl := Option.some.inj hr
  exact WE.ret ⟨[.agg #[.int .i64 y12.Re, .int .i64 y12.Im], .bool true], ⟨⟨kr, ⟨b3, 0, none⟩, kr, H.loadVar 2 rfl 0 kr⟩, ⟨kr, kr⟩, trivial⟩, ⟨rfl, (H.keep 5)⟩⟩
  }
  }
def r04_Add (x0 : GValue) (x1 : GValue) : GValue :=
  bnd (r04_Rest x0.Re) fun y4 =>
  bnd (r04_Rest x1.Re) fun y5 =>
  bnd (r04_Rest x0.Im) fun y6 =>
  bnd (r04_Rest x1.Im) fun y7 =>
  bnd (r04_Of (w64 (y4 + y5)) (w64 (y6 + y7))) fun y8 =>
  y8
set_option maxRecDepth 100000 in
set_option maxHeartbeats 4000000 in
theorem c_r04_Add {w0 w : World} {h : Gh} {L : List Ent} (x0 : GValue) (x1 : GValue) (H : St w0 h w L) {r : GValue} (hr : r04_Add x0 x1 = r) : Calls Tryz.prog 75 #[.agg #[.int .i64 x0.Re, .int .i64 x0.Im], .agg #[.int .i64 x1.Re, .int .i64 x1.Im]] w (fun e w' => ∃ v, e = .returned v ∧ v = .agg #[.int .i64 r.Re, .int .i64 r.Im] ∧ St w0 h w' (L)) := by
  refine calls_of (args := [.agg #[.int .i64 x0.Re, .int .i64 x0.Im], .agg #[.int .i64 x1.Re, .int .i64 x1.Im]]) (n := 20) (rs := [.cell 4 27]) Tryz.func75 rfl rfl rfl rfl rfl ?_
  unfold r04_Add at hr
  refine WE.seq ?_
  refine WE.region ?_
  refine WL.does kr kr (Does.box H [.int .i64 x0.Re, .int .i64 x0.Im] kr fun b1 w H => ?_)
  refine WL.does kr kr (Does.box H [.int .i64 x1.Re, .int .i64 x1.Im] kr fun b2 w H => ?_)
  refine WL.does kr kr (Does.alloc H [.int .i64 0, .int .i64 0] kr fun b3 w H => ?_)
  refine WL.fin 0 kr kr ?_
  refine WE.seq ?_
  refine WE.draws mo [2, 3, 4] (ρ' := [(2, .pointer (some ⟨b1, 0, none⟩)), (3, .pointer (some ⟨b2, 0, none⟩)), (4, .pointer (some ⟨b3, 0, none⟩))]) kr fun w e1 e2 e3 e4 => ?_
  have H := H.same e1 e2 e3 e4
  clear e1 e2 e3 e4
  refine WD.know [0] kr ?_
  refine WD.told 1 6 (.int .i64 x0.Re) kr kr ?_
  refine WD.know [3] kr ?_
  refine WD.told 4 9 (.int .i64 x1.Re) kr kr ?_
  refine WD.know [7] kr ?_
  refine WD.told 8 13 (.int .i64 x0.Im) kr kr ?_
  refine WD.know [10] kr ?_
  refine WD.told 11 16 (.int .i64 x1.Im) kr kr ?_
  obtain ⟨y4, q4, hr⟩ := bnd_cases hr
  refine WD.does 2 kr rfl (Floats.of [10, 7, 3, 0] [11, 8, 4, 1] kr (Floats.pure _ kr kr) (.cons (.tells rfl kr rfl (.loadV H 1 rfl 1 kr kr)) (.cons (.tells rfl kr rfl (.loadV H 2 rfl 1 kr kr)) (.cons (.tells rfl kr rfl (.loadV H 1 rfl 0 kr kr)) (.cons (.tells rfl kr rfl (.loadV H 2 rfl 0 kr kr)) .nil))))) kr kr (Does.call (c_r04_Rest x0.Re H q4) kr ?_)
  rintro _ w ⟨rfl, H⟩
  obtain ⟨y5, q5, hr⟩ := bnd_cases hr
  refine WD.does 5 kr rfl (Floats.of [10, 7, 3, 0] [11, 8, 4] kr (Floats.pure _ kr kr) (.cons (.tells rfl kr rfl (.loadV H 1 rfl 1 kr kr)) (.cons (.tells rfl kr rfl (.loadV H 2 rfl 1 kr kr)) (.cons (.tells rfl kr rfl (.loadV H 1 rfl 0 kr kr)) .nil)))) kr kr (Does.call (c_r04_Rest x1.Re H q5) kr ?_)
  rintro _ w ⟨rfl, H⟩
  refine WD.know [6] kr ?_
  obtain ⟨y6, q6, hr⟩ := bnd_cases hr
  refine WD.does 9 kr rfl (Floats.of [6, 10, 7, 3, 0] [11, 8] kr (Floats.pure _ kr kr) (.cons (.tells rfl kr rfl (.loadV H 1 rfl 1 kr kr)) (.cons (.tells rfl kr rfl (.loadV H 2 rfl 1 kr kr)) .nil))) kr kr (Does.call (c_r04_Rest x0.Im H q6) kr ?_)
  rintro _ w ⟨rfl, H⟩
  obtain ⟨y7, q7, hr⟩ := bnd_cases hr
  refine WD.does 12 kr rfl (Floats.of [6, 10, 7, 3, 0] [11] kr (Floats.pure _ kr kr) (.cons (.tells rfl kr rfl (.loadV H 1 rfl 1 kr kr)) .nil)) kr kr (Does.call (c_r04_Rest x1.Im H q7) kr ?_)
  rintro _ w ⟨rfl, H⟩
  refine WD.know [13] kr ?_
  obtain ⟨y8, q8, hr⟩ := bnd_cases hr
  refine WD.does 14 kr rfl (Floats.of [13, 6, 10, 7, 3, 0] [] kr (Floats.pure _ kr kr) .nil) kr kr (Does.call (c_r04_Of (w64 (y4 + y5)) (w64 (y6 + y7)) H q8) kr ?_)
  rintro _ w ⟨rfl, H⟩
  refine WD.does 15 kr rfl (Floats.of [10, 7, 3, 0] [] kr (Floats.pure _ kr kr) .nil) kr kr (Does.storeE H 0 [.int .i64 y8.Re, .int .i64 y8.Im] rfl (q := 0) kr kr kr fun w H => ?_)
  refine WD.fin kr (Floats.of [] [] kr .nil .nil) kr kr ?_
  obtain rfl := hr
  exact WE.ret ⟨[.agg #[.int .i64 y8.Re, .int .i64 y8.Im]], ⟨⟨kr, ⟨b3, 0, none⟩, kr, H.loadVar 0 rfl 0 kr⟩, trivial⟩, ⟨rfl, (H.keep 3)⟩⟩
def r04_Sub (x0 : GValue) (x1 : GValue) : GValue :=
  bnd (r04_Rest x0.Re) fun y4 =>
  bnd (r04_Rest x1.Re) fun y5 =>
  bnd (r04_Rest x0.Im) fun y6 =>
  bnd (r04_Rest x1.Im) fun y7 =>
  bnd (r04_Of (w64 (y4 - y5)) (w64 (y6 - y7))) fun y8 =>
  y8
set_option maxRecDepth 100000 in
set_option maxHeartbeats 4000000 in
theorem c_r04_Sub {w0 w : World} {h : Gh} {L : List Ent} (x0 : GValue) (x1 : GValue) (H : St w0 h w L) {r : GValue} (hr : r04_Sub x0 x1 = r) : Calls Tryz.prog 76 #[.agg #[.int .i64 x0.Re, .int .i64 x0.Im], .agg #[.int .i64 x1.Re, .int .i64 x1.Im]] w (fun e w' => ∃ v, e = .returned v ∧ v = .agg #[.int .i64 r.Re, .int .i64 r.Im] ∧ St w0 h w' (L)) := by
  refine calls_of (args := [.agg #[.int .i64 x0.Re, .int .i64 x0.Im], .agg #[.int .i64 x1.Re, .int .i64 x1.Im]]) (n := 20) (rs := [.cell 4 27]) Tryz.func76 rfl rfl rfl rfl rfl ?_
  unfold r04_Sub at hr
  refine WE.seq ?_
  refine WE.region ?_
  refine WL.does kr kr (Does.box H [.int .i64 x0.Re, .int .i64 x0.Im] kr fun b1 w H => ?_)
  refine WL.does kr kr (Does.box H [.int .i64 x1.Re, .int .i64 x1.Im] kr fun b2 w H => ?_)
  refine WL.does kr kr (Does.alloc H [.int .i64 0, .int .i64 0] kr fun b3 w H => ?_)
  refine WL.fin 0 kr kr ?_
  refine WE.seq ?_
  refine WE.draws mo [2, 3, 4] (ρ' := [(2, .pointer (some ⟨b1, 0, none⟩)), (3, .pointer (some ⟨b2, 0, none⟩)), (4, .pointer (some ⟨b3, 0, none⟩))]) kr fun w e1 e2 e3 e4 => ?_
  have H := H.same e1 e2 e3 e4
  clear e1 e2 e3 e4
  refine WD.know [0] kr ?_
  refine WD.told 1 6 (.int .i64 x0.Re) kr kr ?_
  refine WD.know [3] kr ?_
  refine WD.told 4 9 (.int .i64 x1.Re) kr kr ?_
  refine WD.know [7] kr ?_
  refine WD.told 8 13 (.int .i64 x0.Im) kr kr ?_
  refine WD.know [10] kr ?_
  refine WD.told 11 16 (.int .i64 x1.Im) kr kr ?_
  obtain ⟨y4, q4, hr⟩ := bnd_cases hr
  refine WD.does 2 kr rfl (Floats.of [10, 7, 3, 0] [11, 8, 4, 1] kr (Floats.pure _ kr kr) (.cons (.tells rfl kr rfl (.loadV H 1 rfl 1 kr kr)) (.cons (.tells rfl kr rfl (.loadV H 2 rfl 1 kr kr)) (.cons (.tells rfl kr rfl (.loadV H 1 rfl 0 kr kr)) (.cons (.tells rfl kr rfl (.loadV H 2 rfl 0 kr kr)) .nil))))) kr kr (Does.call (c_r04_Rest x0.Re H q4) kr ?_)
  rintro _ w ⟨rfl, H⟩
  obtain ⟨y5, q5, hr⟩ := bnd_cases hr
  refine WD.does 5 kr rfl (Floats.of [10, 7, 3, 0] [11, 8, 4] kr (Floats.pure _ kr kr) (.cons (.tells rfl kr rfl (.loadV H 1 rfl 1 kr kr)) (.cons (.tells rfl kr rfl (.loadV H 2 rfl 1 kr kr)) (.cons (.tells rfl kr rfl (.loadV H 1 rfl 0 kr kr)) .nil)))) kr kr (Does.call (c_r04_Rest x1.Re H q5) kr ?_)
  rintro _ w ⟨rfl, H⟩
  refine WD.know [6] kr ?_
  obtain ⟨y6, q6, hr⟩ := bnd_cases hr
  refine WD.does 9 kr rfl (Floats.of [6, 10, 7, 3, 0] [11, 8] kr (Floats.pure _ kr kr) (.cons (.tells rfl kr rfl (.loadV H 1 rfl 1 kr kr)) (.cons (.tells rfl kr rfl (.loadV H 2 rfl 1 kr kr)) .nil))) kr kr (Does.call (c_r04_Rest x0.Im H q6) kr ?_)
  rintro _ w ⟨rfl, H⟩
  obtain ⟨y7, q7, hr⟩ := bnd_cases hr
  refine WD.does 12 kr rfl (Floats.of [6, 10, 7, 3, 0] [11] kr (Floats.pure _ kr kr) (.cons (.tells rfl kr rfl (.loadV H 1 rfl 1 kr kr)) .nil)) kr kr (Does.call (c_r04_Rest x1.Im H q7) kr ?_)
  rintro _ w ⟨rfl, H⟩
  refine WD.know [13] kr ?_
  obtain ⟨y8, q8, hr⟩ := bnd_cases hr
  refine WD.does 14 kr rfl (Floats.of [13, 6, 10, 7, 3, 0] [] kr (Floats.pure _ kr kr) .nil) kr kr (Does.call (c_r04_Of (w64 (y4 - y5)) (w64 (y6 - y7)) H q8) kr ?_)
  rintro _ w ⟨rfl, H⟩
  refine WD.does 15 kr rfl (Floats.of [10, 7, 3, 0] [] kr (Floats.pure _ kr kr) .nil) kr kr (Does.storeE H 0 [.int .i64 y8.Re, .int .i64 y8.Im] rfl (q := 0) kr kr kr fun w H => ?_)
  refine WD.fin kr (Floats.of [] [] kr .nil .nil) kr kr ?_
  obtain rfl := hr
  exact WE.ret ⟨[.agg #[.int .i64 y8.Re, .int .i64 y8.Im]], ⟨⟨kr, ⟨b3, 0, none⟩, kr, H.loadVar 0 rfl 0 kr⟩, trivial⟩, ⟨rfl, (H.keep 3)⟩⟩
def r05_Draw (x0 : Int) (x1 : Int) : GValue :=
  bnd (r05_Is x0) fun y2 =>
  bnd (
      if !y2 then
        true
      else
        bnd (r05_Is x1) fun y9 =>
        !y9) fun y3 =>
  if y3 then
    (⟨0, 0⟩ : GValue)
  else
    bnd (r05_Mix x0 2) fun y6 =>
    bnd (r05_Mix y6 x1) fun y7 =>
    bnd (r04_Of y7 (w64 (y7.tdiv 65536))) fun y8 =>
    y8
set_option maxRecDepth 100000 in
set_option maxHeartbeats 4000000 in
theorem c_r05_Draw {w0 w : World} {h : Gh} {L : List Ent} (x0 : Int) (x1 : Int) (H : St w0 h w L) {r : GValue} (hr : r05_Draw x0 x1 = r) : Calls Tryz.prog 77 #[.int .i64 x0, .int .i64 x1] w (fun e w' => ∃ v, e = .returned v ∧ v = .agg #[.int .i64 r.Re, .int .i64 r.Im] ∧ St w0 h w' (L)) := by
  refine calls_of (args := [.int .i64 x0, .int .i64 x1]) (n := 23) (rs := [.cell 4 27]) Tryz.func77 rfl rfl rfl rfl rfl ?_
  unfold r05_Draw at hr
  refine WE.seq ?_
  refine WE.region ?_
  refine WL.does kr kr (Does.alloc H [.int .i64 0, .int .i64 0] kr fun b1 w H => ?_)
  refine WL.fin 0 kr kr ?_
  refine WE.seq ?_
  refine WE.seq ?_
  refine WE.region ?_
  obtain ⟨y2, q2, hr⟩ := bnd_cases hr
  refine WL.sg 1 kr ?_
  refine WL.does kr kr (Does.call (c_r05_Is x0 H q2) kr ?_)
  rintro _ w ⟨rfl, H⟩
  refine WL.sg 2 kr ?_
  obtain ⟨y3, hy3, hr⟩ := bnd_cases hr
  refine WL.join 4 (fun (_ : Unit) => [(0, .int .i64 x0), (1, .int .i64 x1), (4, .pointer (some ⟨b1, 0, none⟩)), (13, .bool y3)]) (fun (_ : Unit) w => St w0 h w (var b1 [.int .i64 0, .int .i64 0] 27 :: L)) ?_ (fun hk_y3 => ?_)
  {
  rintro _ w H
  refine WL.fin 0 kr kr ?_
  rcases ite_cases hr with ⟨t5, hr⟩ | ⟨t5, hr⟩
  {
  refine WE.yes kr (b := y3) kr t5 ?_
  refine WE.seq ?_
  refine WE.region ?_
  refine WL.sg 1 kr ?_
  refine WL.does kr kr (Does.storeE H 0 [.int .i64 0, .int .i64 0] rfl (q := 0) kr kr kr fun w H => ?_)
  refine WL.fin 0 kr kr ?_
  obtain rfl := hr
  exact WE.ret ⟨[.agg #[.int .i64 0, .int .i64 0]], ⟨⟨kr, ⟨b1, 0, none⟩, kr, H.loadVar 0 rfl 0 kr⟩, trivial⟩, ⟨rfl, (H.keep 1)⟩⟩
  }
  {
  refine WE.no kr (b := y3) kr t5 ?_
  refine WE.skip ?_
  refine WE.seq ?_
  refine WE.region ?_
  obtain ⟨y6, q6, hr⟩ := bnd_cases hr
  refine WL.sg 1 kr ?_
  refine WL.does kr kr (Does.call (c_r05_Mix x0 2 H q6) kr ?_)
  rintro _ w ⟨rfl, H⟩
  obtain ⟨y7, q7, hr⟩ := bnd_cases hr
  refine WL.sg 1 kr ?_
  refine WL.does kr kr (Does.call (c_r05_Mix y6 x1 H q7) kr ?_)
  rintro _ w ⟨rfl, H⟩
  refine WL.fin 1 kr kr ?_
  refine WE.seq ?_
  refine WE.region ?_
  obtain ⟨y8, q8, hr⟩ := bnd_cases hr
  refine WL.sg 3 kr ?_
  refine WL.does kr kr (Does.call (c_r04_Of y7 (w64 (y7.tdiv 65536)) H q8) kr ?_)
  rintro _ w ⟨rfl, H⟩
  refine WL.does kr kr (Does.storeE H 0 [.int .i64 y8.Re, .int .i64 y8.Im] rfl (q := 0) kr kr kr fun w H => ?_)
  refine WL.fin 0 kr kr ?_
  obtain rfl := hr
  exact WE.ret ⟨[.agg #[.int .i64 y8.Re, .int .i64 y8.Im]], ⟨⟨kr, ⟨b1, 0, none⟩, kr, H.loadVar 0 rfl 0 kr⟩, trivial⟩, ⟨rfl, (H.keep 1)⟩⟩
  }
  }
  rcases ite_cases hy3 with ⟨ty3, hy3⟩ | ⟨ty3, hy3⟩
  {
  refine WL.known 9 ty3 kr kr ?_
  refine WL.sg 4 kr ?_
  obtain rfl := hy3
  exact WL.live [0, 1, 4, 13] kr (hk_y3 () _ H)
  }
  {
  refine WL.known 9 ty3 kr kr ?_
  obtain ⟨y9, q9, hy3⟩ := bnd_cases hy3
  refine WL.sg 1 kr ?_
  refine WL.does kr kr (Does.call (c_r05_Is x1 H q9) kr ?_)
  rintro _ w ⟨rfl, H⟩
  refine WL.sg 2 kr ?_
  obtain rfl := hy3
  exact WL.live [0, 1, 4, 13] kr (hk_y3 () _ H)
  }
def r09_lays (K : Nat) (x0 : GFrame) (x1 : GInstr) (x2 : List GValue) : Option (List GValue) :=
  if x1.Op == 0 then
    bnd (r04_Of x1.A x1.B) fun y48 =>
    some [y48]
  else
    if x1.Op == 1 then
      if 0 ≤ x1.A ∧ x1.A < x0.Locals.length then
        some [(⟨(gd x0.Locals x1.A).Re, (gd x0.Locals x1.A).Im⟩ : GValue)]
      else none
    else
      if x1.Op == 3 then
        if 0 ≤ (0 : Int) ∧ (0 : Int) < x2.length then
          if 0 ≤ (1 : Int) ∧ (1 : Int) < x2.length then
            bnd (r04_Add (⟨(gd x2 (0 : Int)).Re, (gd x2 (0 : Int)).Im⟩ : GValue) (⟨(gd x2 (1 : Int)).Re, (gd x2 (1 : Int)).Im⟩ : GValue)) fun y56 =>
            some [y56]
          else none
        else none
      else
        if x1.Op == 4 then
          if 0 ≤ (0 : Int) ∧ (0 : Int) < x2.length then
            if 0 ≤ (1 : Int) ∧ (1 : Int) < x2.length then
              bnd (r04_Sub (⟨(gd x2 (0 : Int)).Re, (gd x2 (0 : Int)).Im⟩ : GValue) (⟨(gd x2 (1 : Int)).Re, (gd x2 (1 : Int)).Im⟩ : GValue)) fun y61 =>
              some [y61]
            else none
          else none
        else
          if x1.Op == 5 then
            if 0 ≤ (0 : Int) ∧ (0 : Int) < x2.length then
              if 0 ≤ (1 : Int) ∧ (1 : Int) < x2.length then
                bnd (r04_Mul (⟨(gd x2 (0 : Int)).Re, (gd x2 (0 : Int)).Im⟩ : GValue) (⟨(gd x2 (1 : Int)).Re, (gd x2 (1 : Int)).Im⟩ : GValue)) fun y66 =>
                some [y66]
              else none
            else none
          else
            if x1.Op == 6 then
              if 0 ≤ (0 : Int) ∧ (0 : Int) < x2.length then
                if 0 ≤ (1 : Int) ∧ (1 : Int) < x2.length then
                  (r04_Div K (⟨(gd x2 (0 : Int)).Re, (gd x2 (0 : Int)).Im⟩ : GValue) (⟨(gd x2 (1 : Int)).Re, (gd x2 (1 : Int)).Im⟩ : GValue)).bind fun y71 =>
                  some [y71.1]
                else none
              else none
            else
              if x1.Op == 7 then
                if 0 ≤ (0 : Int) ∧ (0 : Int) < x2.length then
                  bnd (r04_Conj (⟨(gd x2 (0 : Int)).Re, (gd x2 (0 : Int)).Im⟩ : GValue)) fun y76 =>
                  some [y76]
                else none
              else
                if x1.Op == 8 then
                  if 0 ≤ (0 : Int) ∧ (0 : Int) < x2.length then
                    if 0 ≤ (0 : Int) ∧ (0 : Int) < x2.length then
                      some [(⟨(gd x2 (0 : Int)).Re, (gd x2 (0 : Int)).Im⟩ : GValue), (⟨(gd x2 (0 : Int)).Re, (gd x2 (0 : Int)).Im⟩ : GValue)]
                    else none
                  else none
                else
                  if x1.Op == 12 then
                    bnd (r05_Draw x0.Seed x0.Draws) fun y83 =>
                    some [y83]
                  else
                    some []
set_option maxRecDepth 100000 in
set_option maxHeartbeats 4000000 in
theorem c_r09_lays {w0 w : World} {h : Gh} {L : List Ent} (K : Nat) (x0 : GFrame) {a1 : Option Addr} {c1 : Nat} {a2 : Option Addr} {c2 : Nat} {a3 : Option Addr} {c3 : Nat} (f1 : Sl rGValue 16 h a1 c1 x0.Stack) (f2 : Sl rGValue 16 h a2 c2 x0.Locals) (f3 : Sl rGSlot 48 h a3 c3 x0.Slots) (x1 : GInstr) (x2 : List GValue) {a4 : Option Addr} {c4 : Nat} (f4 : Sl rGValue 16 h a4 c4 x2) (H : St w0 h w L) {r : (List GValue)} (hr : r09_lays K x0 x1 x2 = some r) : Calls Tryz.prog 38 #[.agg (cGFrame x0 a1 c1 a2 c2 a3 c3).toArray, .agg #[.int .i64 x1.Op, .int .i64 x1.A, .int .i64 x1.B], .slice a4 x2.length c4] w (fun e w' => ∃ v, e = .returned v ∧ ∃ (h' : Gh) (a901 : Option Addr) (c901 : Nat), v = .slice a901 r.length c901 ∧ h.le h' ∧ St w0 h' w' (row rGValue 16 h' a901 c901 r :: L)) := by
  refine calls_of (args := [.agg (cGFrame x0 a1 c1 a2 c2 a3 c3).toArray, .agg #[.int .i64 x1.Op, .int .i64 x1.A, .int .i64 x1.B], .slice a4 x2.length c4]) (n := 96) (rs := [.tmp 6]) Tryz.func38 rfl rfl rfl rfl rfl ?_
  unfold r09_lays at hr
  refine WE.seq ?_
  refine WE.region ?_
  refine WL.does kr kr (Does.box H (cGFrame x0 a1 c1 a2 c2 a3 c3) kr fun b45 w H => ?_)
  refine WL.does kr kr (Does.box H [.int .i64 x1.Op, .int .i64 x1.A, .int .i64 x1.B] kr fun b46 w H => ?_)
  refine WL.fin 1 kr kr ?_
  refine WE.seq ?_
  refine WE.seq ?_
  refine WE.region ?_
  refine WL.sg 1 kr ?_
  refine WL.does kr kr (Does.loadV H 0 rfl 0 kr kr ?_)
  refine WL.fin 0 kr kr ?_
  refine WE.block ?_
  refine WE.seq ?_
  refine WE.region ?_
  refine WL.fin 2 kr kr ?_
  rcases ite_cases hr with ⟨t47, hr⟩ | ⟨t47, hr⟩
  {
  refine WE.yes kr (b := x1.Op == 0) kr t47 ?_
  refine WE.seq ?_
  refine WE.region ?_
  refine WL.sg 1 kr ?_
  refine WL.does kr kr (Does.loadV H 0 rfl 1 kr kr ?_)
  refine WL.sg 1 kr ?_
  refine WL.does kr kr (Does.loadV H 0 rfl 2 kr kr ?_)
  obtain ⟨y48, q48, hr⟩ := bnd_cases hr
  refine WL.does kr kr (Does.call (c_r04_Of x1.A x1.B H q48) kr ?_)
  rintro _ w ⟨rfl, H⟩
  refine WL.does kr kr (Does.lit (K := rGValue) (B := 16) (xs := [y48]) (e := 27) H ([.int .i64 y48.Re, .int .i64 y48.Im] ++ []) kr (Rows.cons (C := [.int .i64 y48.Re, .int .i64 y48.Im]) (x := y48) (by show _ = _; kernel_rfl) Rows.nil) kr kr kr kr fun b49 w H => ?_)
  refine WL.fin 1 kr kr ?_
  obtain rfl := Option.some.inj hr
  exact WE.ret ⟨[.slice (some ⟨b49, 0, none⟩) [y48].length 1], ⟨⟨kr, kr⟩, trivial⟩, ⟨h, (some ⟨b49, 0, none⟩), 1, rfl, (Gh.refl _), (H.mid 1 2)⟩⟩
  }
  {
  refine WE.no kr (b := x1.Op == 0) kr t47 ?_
  refine WE.seq ?_
  refine WE.region ?_
  refine WL.fin 2 kr kr ?_
  rcases ite_cases hr with ⟨t50, hr⟩ | ⟨t50, hr⟩
  {
  refine WE.yes kr (b := x1.Op == 1) kr t50 ?_
  refine WE.seq ?_
  refine WE.region ?_
  refine WL.sg 1 kr ?_
  refine WL.does kr kr (Does.loadV H 1 rfl 3 kr kr ?_)
  refine WL.sg 1 kr ?_
  refine WL.does kr kr (Does.loadV H 0 rfl 1 kr kr ?_)
  obtain ⟨⟨g0_51, g1_51⟩, hr⟩ := grd_cases hr
  obtain ⟨b51, p51, C51, e51, fr51, cs51, rfl, hb51, hc51, rfl⟩ := f2.at g0_51 g1_51
  refine WL.does kr kr (Does.tells (.idx b51 (p51) x0.Locals.length c2 x1.A 2 kr kr g0_51 g1_51 kr) ?_)
  refine WL.does kr kr (Does.loadR H hb51 hc51 0 kr kr ?_)
  refine WL.does kr kr (Does.lit (K := rGValue) (B := 16) (xs := [(⟨(gd x0.Locals x1.A).Re, (gd x0.Locals x1.A).Im⟩ : GValue)]) (e := 27) H ([.int .i64 ((gd x0.Locals x1.A).Re), .int .i64 ((gd x0.Locals x1.A).Im)] ++ []) kr (Rows.cons (C := [.int .i64 ((gd x0.Locals x1.A).Re), .int .i64 ((gd x0.Locals x1.A).Im)]) (x := (⟨(gd x0.Locals x1.A).Re, (gd x0.Locals x1.A).Im⟩ : GValue)) (by show _ = _; kernel_rfl) Rows.nil) kr kr kr kr fun b52 w H => ?_)
  refine WL.fin 1 kr kr ?_
  obtain rfl := Option.some.inj hr
  exact WE.ret ⟨[.slice (some ⟨b52, 0, none⟩) [(⟨(gd x0.Locals x1.A).Re, (gd x0.Locals x1.A).Im⟩ : GValue)].length 1], ⟨⟨kr, kr⟩, trivial⟩, ⟨h, (some ⟨b52, 0, none⟩), 1, rfl, (Gh.refl _), (H.mid 1 2)⟩⟩
  }
  {
  refine WE.no kr (b := x1.Op == 1) kr t50 ?_
  refine WE.seq ?_
  refine WE.region ?_
  refine WL.fin 2 kr kr ?_
  rcases ite_cases hr with ⟨t53, hr⟩ | ⟨t53, hr⟩
  {
  refine WE.yes kr (b := x1.Op == 3) kr t53 ?_
  refine WE.seq ?_
  refine WE.draws mo [2] (ρ' := [(2, .slice a4 x2.length c4)]) kr fun w e1 e2 e3 e4 => ?_
  have H := H.same e1 e2 e3 e4
  clear e1 e2 e3 e4
  refine WD.know [0] kr ?_
  obtain ⟨⟨g0_54, g1_54⟩, hr⟩ := grd_cases hr
  obtain ⟨b54, p54, C54, e54, fr54, cs54, rfl, hb54, hc54, rfl⟩ := f4.at g0_54 g1_54
  refine WD.told 1 31 (.pointer (some ⟨b54, p54 + (0 : Int).toNat * 2, none⟩)) kr kr ?_
  refine WD.told 2 32 (.agg #[.int .i64 ((gd x2 (0 : Int)).Re), .int .i64 ((gd x2 (0 : Int)).Im)]) kr kr ?_
  refine WD.know [3] kr ?_
  obtain ⟨⟨g0_55, g1_55⟩, hr⟩ := grd_cases hr
  obtain ⟨C55, e55, fr55, cs55, hb55, hc55, rfl⟩ := f4.at2 g0_55 g1_55
  refine WD.told 4 34 (.pointer (some ⟨b54, p54 + (1 : Int).toNat * 2, none⟩)) kr kr ?_
  refine WD.told 5 35 (.agg #[.int .i64 ((gd x2 (1 : Int)).Re), .int .i64 ((gd x2 (1 : Int)).Im)]) kr kr ?_
  obtain ⟨y56, q56, hr⟩ := bnd_cases hr
  refine WD.does 6 kr rfl (Floats.of [3, 0] [5, 4, 2, 1] kr (Floats.pure _ kr kr) (.cons (.tells rfl kr rfl (.loadR H hb55 hc55 0 kr kr)) (.cons (.tells rfl kr kr (.idx b54 (p54) x2.length c4 (1 : Int) 2 kr kr g0_55 g1_55 kr)) (.cons (.tells rfl kr rfl (.loadR H hb54 hc54 0 kr kr)) (.cons (.tells rfl kr kr (.idx b54 (p54) x2.length c4 (0 : Int) 2 kr kr g0_54 g1_54 kr)) .nil))))) kr kr (Does.call (c_r04_Add (⟨(gd x2 (0 : Int)).Re, (gd x2 (0 : Int)).Im⟩ : GValue) (⟨(gd x2 (1 : Int)).Re, (gd x2 (1 : Int)).Im⟩ : GValue) H q56) kr ?_)
  rintro _ w ⟨rfl, H⟩
  refine WD.does 7 kr rfl (Floats.of [3, 0] [4, 1] kr (Floats.pure _ kr kr) (.cons (.tells rfl kr kr (.idx b54 (p54) x2.length c4 (1 : Int) 2 kr kr g0_55 g1_55 kr)) (.cons (.tells rfl kr kr (.idx b54 (p54) x2.length c4 (0 : Int) 2 kr kr g0_54 g1_54 kr)) .nil))) kr kr (Does.lit (K := rGValue) (B := 16) (xs := [y56]) (e := 27) H ([.int .i64 y56.Re, .int .i64 y56.Im] ++ []) kr (Rows.cons (C := [.int .i64 y56.Re, .int .i64 y56.Im]) (x := y56) (by show _ = _; kernel_rfl) Rows.nil) kr kr kr kr fun b57 w H => ?_)
  refine WD.does 8 kr rfl (Floats.of [3, 0] [4, 1] kr (Floats.pure _ kr kr) (.cons (.tells rfl kr kr (.idx b54 (p54) x2.length c4 (1 : Int) 2 kr kr g0_55 g1_55 kr)) (.cons (.tells rfl kr kr (.idx b54 (p54) x2.length c4 (0 : Int) 2 kr kr g0_54 g1_54 kr)) .nil))) kr kr (Does.reck kr ?_)
  refine WD.fin kr (Floats.of [] [] kr .nil .nil) kr kr ?_
  obtain rfl := Option.some.inj hr
  exact WE.ret ⟨[.slice (some ⟨b57, 0, none⟩) [y56].length 1], ⟨⟨kr, kr⟩, trivial⟩, ⟨h, (some ⟨b57, 0, none⟩), 1, rfl, (Gh.refl _), (H.mid 1 2)⟩⟩
  }
  {
  refine WE.no kr (b := x1.Op == 3) kr t53 ?_
  refine WE.seq ?_
  refine WE.region ?_
  refine WL.fin 2 kr kr ?_
  rcases ite_cases hr with ⟨t58, hr⟩ | ⟨t58, hr⟩
  {
  refine WE.yes kr (b := x1.Op == 4) kr t58 ?_
  refine WE.seq ?_
  refine WE.draws mo [2] (ρ' := [(2, .slice a4 x2.length c4)]) kr fun w e1 e2 e3 e4 => ?_
  have H := H.same e1 e2 e3 e4
  clear e1 e2 e3 e4
  refine WD.know [0] kr ?_
  obtain ⟨⟨g0_59, g1_59⟩, hr⟩ := grd_cases hr
  obtain ⟨b59, p59, C59, e59, fr59, cs59, rfl, hb59, hc59, rfl⟩ := f4.at g0_59 g1_59
  refine WD.told 1 41 (.pointer (some ⟨b59, p59 + (0 : Int).toNat * 2, none⟩)) kr kr ?_
  refine WD.told 2 42 (.agg #[.int .i64 ((gd x2 (0 : Int)).Re), .int .i64 ((gd x2 (0 : Int)).Im)]) kr kr ?_
  refine WD.know [3] kr ?_
  obtain ⟨⟨g0_60, g1_60⟩, hr⟩ := grd_cases hr
  obtain ⟨C60, e60, fr60, cs60, hb60, hc60, rfl⟩ := f4.at2 g0_60 g1_60
  refine WD.told 4 44 (.pointer (some ⟨b59, p59 + (1 : Int).toNat * 2, none⟩)) kr kr ?_
  refine WD.told 5 45 (.agg #[.int .i64 ((gd x2 (1 : Int)).Re), .int .i64 ((gd x2 (1 : Int)).Im)]) kr kr ?_
  obtain ⟨y61, q61, hr⟩ := bnd_cases hr
  refine WD.does 6 kr rfl (Floats.of [3, 0] [5, 4, 2, 1] kr (Floats.pure _ kr kr) (.cons (.tells rfl kr rfl (.loadR H hb60 hc60 0 kr kr)) (.cons (.tells rfl kr kr (.idx b59 (p59) x2.length c4 (1 : Int) 2 kr kr g0_60 g1_60 kr)) (.cons (.tells rfl kr rfl (.loadR H hb59 hc59 0 kr kr)) (.cons (.tells rfl kr kr (.idx b59 (p59) x2.length c4 (0 : Int) 2 kr kr g0_59 g1_59 kr)) .nil))))) kr kr (Does.call (c_r04_Sub (⟨(gd x2 (0 : Int)).Re, (gd x2 (0 : Int)).Im⟩ : GValue) (⟨(gd x2 (1 : Int)).Re, (gd x2 (1 : Int)).Im⟩ : GValue) H q61) kr ?_)
  rintro _ w ⟨rfl, H⟩
  refine WD.does 7 kr rfl (Floats.of [3, 0] [4, 1] kr (Floats.pure _ kr kr) (.cons (.tells rfl kr kr (.idx b59 (p59) x2.length c4 (1 : Int) 2 kr kr g0_60 g1_60 kr)) (.cons (.tells rfl kr kr (.idx b59 (p59) x2.length c4 (0 : Int) 2 kr kr g0_59 g1_59 kr)) .nil))) kr kr (Does.lit (K := rGValue) (B := 16) (xs := [y61]) (e := 27) H ([.int .i64 y61.Re, .int .i64 y61.Im] ++ []) kr (Rows.cons (C := [.int .i64 y61.Re, .int .i64 y61.Im]) (x := y61) (by show _ = _; kernel_rfl) Rows.nil) kr kr kr kr fun b62 w H => ?_)
  refine WD.does 8 kr rfl (Floats.of [3, 0] [4, 1] kr (Floats.pure _ kr kr) (.cons (.tells rfl kr kr (.idx b59 (p59) x2.length c4 (1 : Int) 2 kr kr g0_60 g1_60 kr)) (.cons (.tells rfl kr kr (.idx b59 (p59) x2.length c4 (0 : Int) 2 kr kr g0_59 g1_59 kr)) .nil))) kr kr (Does.reck kr ?_)
  refine WD.fin kr (Floats.of [] [] kr .nil .nil) kr kr ?_
  obtain rfl := Option.some.inj hr
  exact WE.ret ⟨[.slice (some ⟨b62, 0, none⟩) [y61].length 1], ⟨⟨kr, kr⟩, trivial⟩, ⟨h, (some ⟨b62, 0, none⟩), 1, rfl, (Gh.refl _), (H.mid 1 2)⟩⟩
  }
  {
  refine WE.no kr (b := x1.Op == 4) kr t58 ?_
  refine WE.seq ?_
  refine WE.region ?_
  refine WL.fin 2 kr kr ?_
  rcases ite_cases hr with ⟨t63, hr⟩ | ⟨t63, hr⟩
  {
  refine WE.yes kr (b := x1.Op == 5) kr t63 ?_
  refine WE.seq ?_
  refine WE.draws mo [2] (ρ' := [(2, .slice a4 x2.length c4)]) kr fun w e1 e2 e3 e4 => ?_
  have H := H.same e1 e2 e3 e4
  clear e1 e2 e3 e4
  refine WD.know [0] kr ?_
  obtain ⟨⟨g0_64, g1_64⟩, hr⟩ := grd_cases hr
  obtain ⟨b64, p64, C64, e64, fr64, cs64, rfl, hb64, hc64, rfl⟩ := f4.at g0_64 g1_64
  refine WD.told 1 51 (.pointer (some ⟨b64, p64 + (0 : Int).toNat * 2, none⟩)) kr kr ?_
  refine WD.told 2 52 (.agg #[.int .i64 ((gd x2 (0 : Int)).Re), .int .i64 ((gd x2 (0 : Int)).Im)]) kr kr ?_
  refine WD.know [3] kr ?_
  obtain ⟨⟨g0_65, g1_65⟩, hr⟩ := grd_cases hr
  obtain ⟨C65, e65, fr65, cs65, hb65, hc65, rfl⟩ := f4.at2 g0_65 g1_65
  refine WD.told 4 54 (.pointer (some ⟨b64, p64 + (1 : Int).toNat * 2, none⟩)) kr kr ?_
  refine WD.told 5 55 (.agg #[.int .i64 ((gd x2 (1 : Int)).Re), .int .i64 ((gd x2 (1 : Int)).Im)]) kr kr ?_
  obtain ⟨y66, q66, hr⟩ := bnd_cases hr
  refine WD.does 6 kr rfl (Floats.of [3, 0] [5, 4, 2, 1] kr (Floats.pure _ kr kr) (.cons (.tells rfl kr rfl (.loadR H hb65 hc65 0 kr kr)) (.cons (.tells rfl kr kr (.idx b64 (p64) x2.length c4 (1 : Int) 2 kr kr g0_65 g1_65 kr)) (.cons (.tells rfl kr rfl (.loadR H hb64 hc64 0 kr kr)) (.cons (.tells rfl kr kr (.idx b64 (p64) x2.length c4 (0 : Int) 2 kr kr g0_64 g1_64 kr)) .nil))))) kr kr (Does.call (c_r04_Mul (⟨(gd x2 (0 : Int)).Re, (gd x2 (0 : Int)).Im⟩ : GValue) (⟨(gd x2 (1 : Int)).Re, (gd x2 (1 : Int)).Im⟩ : GValue) H q66) kr ?_)
  rintro _ w ⟨rfl, H⟩
  refine WD.does 7 kr rfl (Floats.of [3, 0] [4, 1] kr (Floats.pure _ kr kr) (.cons (.tells rfl kr kr (.idx b64 (p64) x2.length c4 (1 : Int) 2 kr kr g0_65 g1_65 kr)) (.cons (.tells rfl kr kr (.idx b64 (p64) x2.length c4 (0 : Int) 2 kr kr g0_64 g1_64 kr)) .nil))) kr kr (Does.lit (K := rGValue) (B := 16) (xs := [y66]) (e := 27) H ([.int .i64 y66.Re, .int .i64 y66.Im] ++ []) kr (Rows.cons (C := [.int .i64 y66.Re, .int .i64 y66.Im]) (x := y66) (by show _ = _; kernel_rfl) Rows.nil) kr kr kr kr fun b67 w H => ?_)
  refine WD.does 8 kr rfl (Floats.of [3, 0] [4, 1] kr (Floats.pure _ kr kr) (.cons (.tells rfl kr kr (.idx b64 (p64) x2.length c4 (1 : Int) 2 kr kr g0_65 g1_65 kr)) (.cons (.tells rfl kr kr (.idx b64 (p64) x2.length c4 (0 : Int) 2 kr kr g0_64 g1_64 kr)) .nil))) kr kr (Does.reck kr ?_)
  refine WD.fin kr (Floats.of [] [] kr .nil .nil) kr kr ?_
  obtain rfl := Option.some.inj hr
  exact WE.ret ⟨[.slice (some ⟨b67, 0, none⟩) [y66].length 1], ⟨⟨kr, kr⟩, trivial⟩, ⟨h, (some ⟨b67, 0, none⟩), 1, rfl, (Gh.refl _), (H.mid 1 2)⟩⟩
  }
  {
  refine WE.no kr (b := x1.Op == 5) kr t63 ?_
  refine WE.seq ?_
  refine WE.region ?_
  refine WL.fin 2 kr kr ?_
  rcases ite_cases hr with ⟨t68, hr⟩ | ⟨t68, hr⟩
  {
  refine WE.yes kr (b := x1.Op == 6) kr t68 ?_
  refine WE.seq ?_
  refine WE.draws mo [2] (ρ' := [(2, .slice a4 x2.length c4)]) kr fun w e1 e2 e3 e4 => ?_
  have H := H.same e1 e2 e3 e4
  clear e1 e2 e3 e4
  refine WD.know [0] kr ?_
  obtain ⟨⟨g0_69, g1_69⟩, hr⟩ := grd_cases hr
  obtain ⟨b69, p69, C69, e69, fr69, cs69, rfl, hb69, hc69, rfl⟩ := f4.at g0_69 g1_69
  refine WD.told 1 62 (.pointer (some ⟨b69, p69 + (0 : Int).toNat * 2, none⟩)) kr kr ?_
  refine WD.told 2 63 (.agg #[.int .i64 ((gd x2 (0 : Int)).Re), .int .i64 ((gd x2 (0 : Int)).Im)]) kr kr ?_
  refine WD.know [3] kr ?_
  obtain ⟨⟨g0_70, g1_70⟩, hr⟩ := grd_cases hr
  obtain ⟨C70, e70, fr70, cs70, hb70, hc70, rfl⟩ := f4.at2 g0_70 g1_70
  refine WD.told 4 65 (.pointer (some ⟨b69, p69 + (1 : Int).toNat * 2, none⟩)) kr kr ?_
  refine WD.told 5 66 (.agg #[.int .i64 ((gd x2 (1 : Int)).Re), .int .i64 ((gd x2 (1 : Int)).Im)]) kr kr ?_
  obtain ⟨y71, q71, hr⟩ := bind_cases hr
  refine WD.among 6 [10] kr (Floats.of [3, 0] [5, 4, 2, 1] kr (Floats.pure _ kr kr) (.cons (.tells rfl kr rfl (.loadR H hb70 hc70 0 kr kr)) (.cons (.tells rfl kr kr (.idx b69 (p69) x2.length c4 (1 : Int) 2 kr kr g0_70 g1_70 kr)) (.cons (.tells rfl kr rfl (.loadR H hb69 hc69 0 kr kr)) (.cons (.tells rfl kr kr (.idx b69 (p69) x2.length c4 (0 : Int) 2 kr kr g0_69 g1_69 kr)) .nil))))) ⟨?_, ?_, trivial⟩
  {
  refine WT.does 6 kr rfl kr kr (Does.call (c_r04_Div K (⟨(gd x2 (0 : Int)).Re, (gd x2 (0 : Int)).Im⟩ : GValue) (⟨(gd x2 (1 : Int)).Re, (gd x2 (1 : Int)).Im⟩ : GValue) H q71) kr ?_)
  rintro _ w ⟨rfl, H⟩
  refine WD.know [7] kr ?_
  refine WD.know [8] kr ?_
  refine WD.know [9] kr ?_
  refine WD.does 10 kr rfl (Floats.of [9, 8, 7, 3, 0] [4, 1] kr (Floats.pure _ kr kr) (.cons (.tells rfl kr kr (.idx b69 (p69) x2.length c4 (1 : Int) 2 kr kr g0_70 g1_70 kr)) (.cons (.tells rfl kr kr (.idx b69 (p69) x2.length c4 (0 : Int) 2 kr kr g0_69 g1_69 kr)) .nil))) kr kr (Does.alloc H [.int .i64 0, .int .i64 0] kr fun b72 w H => ?_)
  refine WD.does 11 kr rfl (Floats.of [9, 8, 7, 3, 0] [4, 1] kr (Floats.pure _ kr kr) (.cons (.tells rfl kr kr (.idx b69 (p69) x2.length c4 (1 : Int) 2 kr kr g0_70 g1_70 kr)) (.cons (.tells rfl kr kr (.idx b69 (p69) x2.length c4 (0 : Int) 2 kr kr g0_69 g1_69 kr)) .nil))) kr kr (Does.storeE H 0 [.int .i64 y71.1.Re, .int .i64 y71.1.Im] rfl (q := 0) kr kr kr fun w H => ?_)
  refine WD.does 12 kr rfl (Floats.of [9] [] kr (Floats.pure _ kr kr) .nil) kr kr (Does.reck kr ?_)
  refine WD.fin kr (Floats.of [] [] kr .nil .nil) kr kr ?_
  refine WE.seq ?_
  refine WE.region ?_
  refine WL.does kr kr (Does.loadV H 0 rfl 0 kr kr ?_)
  refine WL.does kr kr (Does.lit (K := rGValue) (B := 16) (xs := [y71.1]) (e := 27) H ([.int .i64 y71.1.Re, .int .i64 y71.1.Im] ++ []) kr (Rows.cons (C := [.int .i64 y71.1.Re, .int .i64 y71.1.Im]) (x := y71.1) (by show _ = _; kernel_rfl) Rows.nil) kr kr kr kr fun b73 w H => ?_)
  refine WL.fin 1 kr kr ?_
  obtain rfl := Option.some.inj hr
  exact WE.ret ⟨[.slice (some ⟨b73, 0, none⟩) [y71.1].length 1], ⟨⟨kr, kr⟩, trivial⟩, ⟨h, (some ⟨b73, 0, none⟩), 1, rfl, (Gh.refl _), (H.mid 1 3)⟩⟩
  }
  {
  refine WT.does 10 kr rfl kr kr (Does.alloc H [.int .i64 0, .int .i64 0] kr fun b72 w H => ?_)
  refine WD.does 6 kr rfl (Floats.of [3, 0] [5, 4, 2, 1] kr (Floats.pure _ kr kr) (.cons (.tells rfl kr rfl (.loadR H hb70 hc70 0 kr kr)) (.cons (.tells rfl kr kr (.idx b69 (p69) x2.length c4 (1 : Int) 2 kr kr g0_70 g1_70 kr)) (.cons (.tells rfl kr rfl (.loadR H hb69 hc69 0 kr kr)) (.cons (.tells rfl kr kr (.idx b69 (p69) x2.length c4 (0 : Int) 2 kr kr g0_69 g1_69 kr)) .nil))))) kr kr (Does.call (c_r04_Div K (⟨(gd x2 (0 : Int)).Re, (gd x2 (0 : Int)).Im⟩ : GValue) (⟨(gd x2 (1 : Int)).Re, (gd x2 (1 : Int)).Im⟩ : GValue) H q71) kr ?_)
  rintro _ w ⟨rfl, H⟩
  refine WD.know [7] kr ?_
  refine WD.know [8] kr ?_
  refine WD.know [9] kr ?_
  refine WD.does 11 kr rfl (Floats.of [9, 8, 7, 3, 0] [4, 1] kr (Floats.pure _ kr kr) (.cons (.tells rfl kr kr (.idx b69 (p69) x2.length c4 (1 : Int) 2 kr kr g0_70 g1_70 kr)) (.cons (.tells rfl kr kr (.idx b69 (p69) x2.length c4 (0 : Int) 2 kr kr g0_69 g1_69 kr)) .nil))) kr kr (Does.storeE H 0 [.int .i64 y71.1.Re, .int .i64 y71.1.Im] rfl (q := 0) kr kr kr fun w H => ?_)
  refine WD.does 12 kr rfl (Floats.of [9] [] kr (Floats.pure _ kr kr) .nil) kr kr (Does.reck kr ?_)
  refine WD.fin kr (Floats.of [] [] kr .nil .nil) kr kr ?_
  refine WE.seq ?_
  refine WE.region ?_
  refine WL.does kr kr (Does.loadV H 0 rfl 0 kr kr ?_)
  refine WL.does kr kr (Does.lit (K := rGValue) (B := 16) (xs := [y71.1]) (e := 27) H ([.int .i64 y71.1.Re, .int .i64 y71.1.Im] ++ []) kr (Rows.cons (C := [.int .i64 y71.1.Re, .int .i64 y71.1.Im]) (x := y71.1) (by show _ = _; kernel_rfl) Rows.nil) kr kr kr kr fun b73 w H => ?_)
  refine WL.fin 1 kr kr ?_
  obtain rfl := Option.some.inj hr
  exact WE.ret ⟨[.slice (some ⟨b73, 0, none⟩) [y71.1].length 1], ⟨⟨kr, kr⟩, trivial⟩, ⟨h, (some ⟨b73, 0, none⟩), 1, rfl, (Gh.refl _), (H.mid 1 3)⟩⟩
  }
  }
  {
  refine WE.no kr (b := x1.Op == 6) kr t68 ?_
  refine WE.seq ?_
  refine WE.region ?_
  refine WL.fin 2 kr kr ?_
  rcases ite_cases hr with ⟨t74, hr⟩ | ⟨t74, hr⟩
  {
  refine WE.yes kr (b := x1.Op == 7) kr t74 ?_
  refine WE.seq ?_
  refine WE.region ?_
  obtain ⟨⟨g0_75, g1_75⟩, hr⟩ := grd_cases hr
  obtain ⟨b75, p75, C75, e75, fr75, cs75, rfl, hb75, hc75, rfl⟩ := f4.at g0_75 g1_75
  refine WL.sg 1 kr ?_
  refine WL.does kr kr (Does.tells (.idx b75 (p75) x2.length c4 (0 : Int) 2 kr kr g0_75 g1_75 kr) ?_)
  refine WL.does kr kr (Does.loadR H hb75 hc75 0 kr kr ?_)
  obtain ⟨y76, q76, hr⟩ := bnd_cases hr
  refine WL.does kr kr (Does.call (c_r04_Conj (⟨(gd x2 (0 : Int)).Re, (gd x2 (0 : Int)).Im⟩ : GValue) H q76) kr ?_)
  rintro _ w ⟨rfl, H⟩
  refine WL.does kr kr (Does.lit (K := rGValue) (B := 16) (xs := [y76]) (e := 27) H ([.int .i64 y76.Re, .int .i64 y76.Im] ++ []) kr (Rows.cons (C := [.int .i64 y76.Re, .int .i64 y76.Im]) (x := y76) (by show _ = _; kernel_rfl) Rows.nil) kr kr kr kr fun b77 w H => ?_)
  refine WL.fin 1 kr kr ?_
  obtain rfl := Option.some.inj hr
  exact WE.ret ⟨[.slice (some ⟨b77, 0, none⟩) [y76].length 1], ⟨⟨kr, kr⟩, trivial⟩, ⟨h, (some ⟨b77, 0, none⟩), 1, rfl, (Gh.refl _), (H.mid 1 2)⟩⟩
  }
  {
  refine WE.no kr (b := x1.Op == 7) kr t74 ?_
  refine WE.seq ?_
  refine WE.region ?_
  refine WL.fin 2 kr kr ?_
  rcases ite_cases hr with ⟨t78, hr⟩ | ⟨t78, hr⟩
  {
  refine WE.yes kr (b := x1.Op == 8) kr t78 ?_
  refine WE.seq ?_
  refine WE.draws mo [2] (ρ' := [(2, .slice a4 x2.length c4)]) kr fun w e1 e2 e3 e4 => ?_
  have H := H.same e1 e2 e3 e4
  clear e1 e2 e3 e4
  refine WD.know [0] kr ?_
  obtain ⟨⟨g0_79, g1_79⟩, hr⟩ := grd_cases hr
  obtain ⟨b79, p79, C79, e79, fr79, cs79, rfl, hb79, hc79, rfl⟩ := f4.at g0_79 g1_79
  refine WD.told 1 82 (.pointer (some ⟨b79, p79 + (0 : Int).toNat * 2, none⟩)) kr kr ?_
  refine WD.told 2 83 (.agg #[.int .i64 ((gd x2 (0 : Int)).Re), .int .i64 ((gd x2 (0 : Int)).Im)]) kr kr ?_
  refine WD.know [3] kr ?_
  obtain ⟨⟨g0_80, g1_80⟩, hr⟩ := grd_cases hr
  obtain ⟨C80, e80, fr80, cs80, hb80, hc80, rfl⟩ := f4.at2 g0_80 g1_80
  refine WD.told 4 85 (.pointer (some ⟨b79, p79 + (0 : Int).toNat * 2, none⟩)) kr kr ?_
  refine WD.told 5 86 (.agg #[.int .i64 ((gd x2 (0 : Int)).Re), .int .i64 ((gd x2 (0 : Int)).Im)]) kr kr ?_
  refine WD.does 6 kr rfl (Floats.of [3, 0] [5, 4, 2, 1] kr (Floats.pure _ kr kr) (.cons (.tells rfl kr rfl (.loadR H hb80 hc80 0 kr kr)) (.cons (.tells rfl kr kr (.idx b79 (p79) x2.length c4 (0 : Int) 2 kr kr g0_80 g1_80 kr)) (.cons (.tells rfl kr rfl (.loadR H hb79 hc79 0 kr kr)) (.cons (.tells rfl kr kr (.idx b79 (p79) x2.length c4 (0 : Int) 2 kr kr g0_79 g1_79 kr)) .nil))))) kr kr (Does.lit (K := rGValue) (B := 16) (xs := [(⟨(gd x2 (0 : Int)).Re, (gd x2 (0 : Int)).Im⟩ : GValue), (⟨(gd x2 (0 : Int)).Re, (gd x2 (0 : Int)).Im⟩ : GValue)]) (e := 27) H ([.int .i64 ((gd x2 (0 : Int)).Re), .int .i64 ((gd x2 (0 : Int)).Im)] ++ ([.int .i64 ((gd x2 (0 : Int)).Re), .int .i64 ((gd x2 (0 : Int)).Im)] ++ [])) kr (Rows.cons (C := [.int .i64 ((gd x2 (0 : Int)).Re), .int .i64 ((gd x2 (0 : Int)).Im)]) (x := (⟨(gd x2 (0 : Int)).Re, (gd x2 (0 : Int)).Im⟩ : GValue)) (by show _ = _; kernel_rfl) (Rows.cons (C := [.int .i64 ((gd x2 (0 : Int)).Re), .int .i64 ((gd x2 (0 : Int)).Im)]) (x := (⟨(gd x2 (0 : Int)).Re, (gd x2 (0 : Int)).Im⟩ : GValue)) (by show _ = _; kernel_rfl) Rows.nil)) kr kr kr kr fun b81 w H => ?_)
  refine WD.does 7 kr rfl (Floats.of [3, 0] [4, 1] kr (Floats.pure _ kr kr) (.cons (.tells rfl kr kr (.idx b79 (p79) x2.length c4 (0 : Int) 2 kr kr g0_80 g1_80 kr)) (.cons (.tells rfl kr kr (.idx b79 (p79) x2.length c4 (0 : Int) 2 kr kr g0_79 g1_79 kr)) .nil))) kr kr (Does.reck kr ?_)
  refine WD.fin kr (Floats.of [] [] kr .nil .nil) kr kr ?_
  obtain rfl := Option.some.inj hr
  exact WE.ret ⟨[.slice (some ⟨b81, 0, none⟩) [(⟨(gd x2 (0 : Int)).Re, (gd x2 (0 : Int)).Im⟩ : GValue), (⟨(gd x2 (0 : Int)).Re, (gd x2 (0 : Int)).Im⟩ : GValue)].length 2], ⟨⟨kr, kr⟩, trivial⟩, ⟨h, (some ⟨b81, 0, none⟩), 2, rfl, (Gh.refl _), (H.mid 1 2)⟩⟩
  }
  {
  refine WE.no kr (b := x1.Op == 8) kr t78 ?_
  refine WE.seq ?_
  refine WE.region ?_
  refine WL.fin 2 kr kr ?_
  rcases ite_cases hr with ⟨t82, hr⟩ | ⟨t82, hr⟩
  {
  refine WE.yes kr (b := x1.Op == 12) kr t82 ?_
  refine WE.seq ?_
  refine WE.region ?_
  refine WL.sg 1 kr ?_
  refine WL.does kr kr (Does.loadV H 1 rfl 5 kr kr ?_)
  refine WL.sg 1 kr ?_
  refine WL.does kr kr (Does.loadV H 1 rfl 7 kr kr ?_)
  obtain ⟨y83, q83, hr⟩ := bnd_cases hr
  refine WL.does kr kr (Does.call (c_r05_Draw x0.Seed x0.Draws H q83) kr ?_)
  rintro _ w ⟨rfl, H⟩
  refine WL.does kr kr (Does.lit (K := rGValue) (B := 16) (xs := [y83]) (e := 27) H ([.int .i64 y83.Re, .int .i64 y83.Im] ++ []) kr (Rows.cons (C := [.int .i64 y83.Re, .int .i64 y83.Im]) (x := y83) (by show _ = _; kernel_rfl) Rows.nil) kr kr kr kr fun b84 w H => ?_)
  refine WL.fin 1 kr kr ?_
  obtain rfl := Option.some.inj hr
  exact WE.ret ⟨[.slice (some ⟨b84, 0, none⟩) [y83].length 1], ⟨⟨kr, kr⟩, trivial⟩, ⟨h, (some ⟨b84, 0, none⟩), 1, rfl, (Gh.refl _), (H.mid 1 2)⟩⟩
  }
  {
  refine WE.no kr (b := x1.Op == 12) kr t82 ?_
  refine WE.skip ?_
  refine WE.seq ?_
  refine WE.region ?_
  refine WL.fin 1 kr kr ?_
  have H := H.rowNil rGValue 16
  obtain rfl := Option.some.inj hr
  exact WE.ret ⟨[.slice none 0 0], ⟨⟨kr, kr⟩, trivial⟩, ⟨h, none, 0, rfl, (Gh.refl _), (H.mid 1 2)⟩⟩
  }
  }
  }
  }
  }
  }
  }
  }
  }
end Go.Proofs.YtcoepljalekglaaGreat.FrameTells.W
